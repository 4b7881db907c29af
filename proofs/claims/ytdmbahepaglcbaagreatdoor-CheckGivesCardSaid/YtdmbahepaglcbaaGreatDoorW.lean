/- What is free: the document's, if few names are. No condition but on lengths. -/
import Derived.Test.YtdmbahepaglcbaaGreatDoorQ
import Derived.Test.YtdmbahepaglcbaaGreatDoorV
set_option linter.unusedSimpArgs false
set_option linter.unusedVariables false
namespace Go.Proofs.YtdmbahepaglcbaaGreatDoor
open Go Fp
set_option maxRecDepth 100000
set_option maxHeartbeats 8000000
set_option linter.unusedVariables false
structure RO (G:List ByteArray) (t:Tp) (g out:List ByteArray):Prop where
 nd:out.Nodup
 sub:∀s∈out,s∈G
 own:∀s∈fv t,s∉g->s∈G
theorem RO.len {G:List ByteArray} {t:Tp} {g out:List ByteArray} (h:RO G t g out) (hG:G.length<=1000000000):out.length<=1000000000:=Nat.le_trans (wP _ _ h.nd h.sub) hG
theorem RO.next {G:List ByteArray} {t:Tp} {g out:List ByteArray} (h:RO G t g out):(fr t g out).Nodup/\∀s∈fr t g out,s∈G:=by
 rw[z0K];refine⟨wR h.nd,fun s hs=>?_⟩;rcases mem_insAll.1 hs with hs|⟨h1,h2⟩
 ·exact h.sub s hs
 ·exact h.own s h1 fun hm=>by rw[xJ hm] at h2;cases h2
theorem z1C {G:List ByteArray} {t:Tp} {g out:List ByteArray} (h5:¬t.form=5) (h:RO G t g out) {k:Nat} (hk:k<t.args.length):dp t.args[k]<=dp t/\RO G t.args[k] g (frs (t.args.take k) g out):=by
 cases t with
 | app a b =>
  have ha:RO G a g out:=⟨h.nd,h.sub,fun s hs hn=>h.own s (mem_fv_app.2 (.inl hs)) hn⟩
  match k,hk with
  | 0,_=>exact⟨by simp[dp,Tp.args];omega,ha⟩
  | 1,_=>exact⟨by simp[dp,Tp.args];omega,⟨ha.next.1,ha.next.2,fun s hs hn=>h.own s (mem_fv_app.2 (.inr hs)) hn⟩⟩
  | k+2,hk=>simp[Tp.args] at hk;omega
 | all s a=>exact absurd rfl h5
 | _=>simp[Tp.args] at hk
theorem zZ1 {G:List ByteArray} {a:Tp} {s:ByteArray} {g out:List ByteArray} (h:RO G (.all s a) g out) {k:Nat} (hk:k<(Tp.all s a).args.length):dp (Tp.all s a).args[k]+1<=dp (.all s a)/\RO G (Tp.all s a).args[k] (g++[s]) (frs ((Tp.all s a).args.take k) (g++[s]) out):=by
 match k,hk with
 | 0,_=>exact⟨by simp[dp,Tp.args],⟨h.nd,h.sub,fun x hx hn=>h.own x (mem_fv_all.2 ⟨hx,fun e=>hn (by simp[e])⟩) (fun hm=>hn (by simp[hm]))⟩⟩
 | k+1,hk=>simp[Tp.args] at hk
theorem zOX (G:List ByteArray) (hG:G.length<=1000000000) (t:Tp) (g out:List ByteArray) (hg:g.length+dp t<=1000000000) (ho:RO G t g out)
  (ih:∀a∈t.args,∀g out:List ByteArray,g.length+dp a<=1000000000->RO G a g out->zH2 a g out):zH2 t g out:=by
 have hoL:=ho.len hG;refine zB4 ttok mixed Tryz.func104 rfl (by rfl) (by rfl) (Nat.le_of_ble_eq_true rfl) (Nat.le_of_ble_eq_true rfl) (by kernel_rfl) ?_;have hgl:(eSs g).length=g.length:=by simp[eSs]
 have hol:(eSs out).length=out.length:=by simp[eSs]
 have hlen:t.eArgs.length=t.args.length:=z3V t;have h2:=zL3 t;refine⟨fun h=>?_,fun h=>?_⟩
 ·obtain⟨s,rfl⟩:=Tp.is_var (t:=t) (by simpa using h);refine .inl ⟨_,zGP (l:=g) (s:=s) (by omega),?_⟩;refine⟨fun h1=>?_,fun h1=>?_⟩
  ·refine .inl ⟨_,zGP (l:=out) (s:=s) (by omega),?_⟩;refine⟨fun h3=>?_,fun h3=>?_⟩
   ·have e:fr (.var s) g out=out:=by simp[fr,h3]
    rw[e];exact⟨rfl,rfl,rfl⟩
   ·have e:fr (.var s) g out=out++[s]:=by simp[fr,h1,h3]
    rw[e];refine⟨by simp[eSs];omega,wG _,wG [_],?_⟩;exact⟨congrArg AV.sl (zG9 out s),rfl,rfl⟩
  ·have e:fr (.var s) g out=out:=by simp[fr,h1]
   rw[e];exact⟨rfl,rfl,rfl⟩
 ·have hf:¬t.form=2:=by simpa using h
  refine⟨fun h5=>?_,fun h5=>?_⟩
  ·obtain⟨s,a,rfl⟩:=Tp.is_all (t:=t) (by simpa using h5);have hg1:g.length+1<=1000000000:=by simp only[dp] at hg;omega
   refine⟨by simp[eSs];omega,zUF _,wG _,?_⟩;refine⟨by simp[eSs];omega,by simpa using wG g,wG [_],?_⟩;refine⟨{k:Nat // k<=(Tp.all s a).args.length},fun k=>{vs:=[(1,.v (.sl (eSs (g++[s])))),(2,.v (.sl (eSs (frs ((Tp.all s a).args.take k.1) (g++[s]) out)))),(3,.box 0 (eTy (Tp.all s a))),(8,.v (.lit (.int .i64 (k.1:Nat))))],ow:=[(2,0,2)]},
    fun k=>(Tp.all s a).args.length-k.1,⟨0,Nat.zero_le _⟩,⟨⟨(congrArg (fun l=>SV.v (AV.sl l)) (zG9 g s)),rfl,rfl,rfl,trivial⟩,⟨rfl,trivial⟩,rfl⟩,?_⟩
   rintro⟨k,hk⟩;have hrm:=fun h=>zZ1 (a:=a) (s:=s) (g:=g) (out:=out) ho (k:=k) h;refine⟨fun h=>?_,fun h=>?_⟩
   ·have h:k<(Tp.all s a).args.length:=by simp[hlen] at h;omega
    have hrm:=hrm h;refine⟨eTy (Tp.all s a).args[k],by simp,by rw[Tp.eArgs_eq];exact zRN h,rfl,?_⟩;refine .inr ⟨rfl,[],[],[0,0,2],_,rfl,List.nodup_nil,rfl,ih _ (List.getElem_mem h) (g++[s]) (frs ((Tp.all s a).args.take k) (g++[s]) out) (by simp;omega) hrm.2,?_⟩;rintro _ _ _ ⟨rfl,rfl,rfl⟩;refine⟨⟨k+1,h⟩,(show (Tp.all s a).args.length-(k+1)<(Tp.all s a).args.length-k by omega),⟨rfl,?_,rfl,?_,trivial⟩,⟨rfl,trivial⟩,rfl⟩
    ·exact congrArg (fun l=>SV.v (AV.sl (eSs l))) (zNK h).symm
    ·exact congrArg (fun n=>SV.v (AV.lit (Value.int .i64 n))) (wrap_succ (k:=k) (by omega))
   ·have h:k=(Tp.all s a).args.length:=by simp[hlen] at h;omega
    subst h;have e:fr (Tp.all s a) g out=frs ((Tp.all s a).args.take (Tp.all s a).args.length) (g++[s]) out:=by
     rw[List.take_length]
     rfl
    rw[e];exact⟨rfl,rfl,rfl⟩
  ·have h5:¬t.form=5:=by simpa using h5
   refine⟨{k:Nat // k<=t.args.length},fun k=>{vs:=[(1,.v (.sl (eSs g))),(2,.v (.sl (eSs (frs (t.args.take k.1) (g) out)))),(3,.box 0 (eTy t)),(8,.v (.lit (.int .i64 (k.1:Nat))))],ow:=[(2,0,2)]},
    fun k=>t.args.length-k.1,⟨0,Nat.zero_le _⟩,⟨⟨rfl,rfl,rfl,rfl,trivial⟩,⟨rfl,trivial⟩,rfl⟩,?_⟩
   rintro⟨k,hk⟩;have hrm:=fun h=>z1C (t:=t) (g:=g) (out:=out) h5 ho (k:=k) h;refine⟨fun h=>?_,fun h=>?_⟩
   ·have h:k<t.args.length:=by simp[hlen] at h;omega
    have hrm:=hrm h;refine⟨eTy t.args[k],by simp,by rw[t.eArgs_eq];exact zRN h,rfl,?_⟩;refine .inr ⟨rfl,[],[],[0,0,2],_,rfl,List.nodup_nil,rfl,ih _ (List.getElem_mem h) (g) (frs (t.args.take k) (g) out) (by omega) hrm.2,?_⟩;rintro _ _ _ ⟨rfl,rfl,rfl⟩;refine⟨⟨k+1,h⟩,(show t.args.length-(k+1)<t.args.length-k by omega),⟨rfl,?_,rfl,?_,trivial⟩,⟨rfl,trivial⟩,rfl⟩
    ·exact congrArg (fun l=>SV.v (AV.sl (eSs l))) (zNK h).symm
    ·exact congrArg (fun n=>SV.v (AV.lit (Value.int .i64 n))) (wrap_succ (k:=k) (by omega))
   ·have h:k=t.args.length:=by simp[hlen] at h;omega
    subst h;have e:fr t g out=frs (t.args.take t.args.length) (g) out:=by
     rw[List.take_length];cases t<;>first|rfl|exact absurd rfl hf|exact absurd rfl h5
    rw[e];exact⟨rfl,rfl,rfl⟩
theorem zTU (N:Nat) (G:List ByteArray) (hG:G.length<=1000000000):∀(t:Tp) (g out:List ByteArray),t.sz<=N->g.length+dp t<=1000000000->RO G t g out->zH2 t g out:=by
 induction N with
 | zero=>intro t _ _ h;have:=jC t;omega
 | succ N ih=>exact fun t g out h hg ho=>zOX G hG t g out hg ho fun a ha g out hg ho=>ih a g out (z0V h a ha) hg ho
theorem zLM (t:Tp) (h:(fv t).length+dp t<=1000000000):zD Tryz.prog zE5 [eTy t] (.sl (eSs (fv t))):=by
 refine zA ttok mixed Tryz.func61 rfl (by rfl) (Nat.le_of_ble_eq_true rfl) (by kernel_rfl) ?_;refine .inr ⟨rfl,[],[],[0,0,2],_,rfl,List.nodup_nil,rfl,zTU t.sz (fv t) (by omega) t [] [] (Nat.le_refl _) (by simp;omega) ⟨List.nodup_nil,by simp,fun s hs _=>hs⟩,?_⟩;rintro _ _ _ ⟨rfl,rfl,rfl⟩;rw[z3R];exact rfl
theorem zNX {K:Nat} {s:ByteArray} {a:Tp} {ps:Env'} (hf:FitX K (.all s a) ps) (ih:∀(K:Nat) (ps:Env'),FitX K a ps->wZ a ps):wZ (.all s a) ps:=by
 have h0:=hf.all0;have h1:=hf.all1;obtain⟨⟨G,g1,g2,g3⟩,hroom,hmany,hdeep⟩:=hf;simp only[dp] at hroom hmany;have hfl:(fv a).length<=K+1:=by
  have:=zH0 (t:=a) (G:=s::G) fun x hx=>by
   by_cases e:x=s
   ·rw[e];exact List.mem_cons_self
   ·exact List.mem_cons_of_mem _ (g2 x (mem_fv_all.2 ⟨hx,e⟩))
  simp at this;omega
 refine zA ttok mixed Tryz.func29 rfl (by rfl) (Nat.le_of_ble_eq_true rfl) (by kernel_rfl) ?_;refine⟨fun h=>(by cases h),fun _=>?_⟩;refine⟨fun h=>(by cases h),fun _=>?_⟩;refine⟨fun h=>(by cases h),fun _=>?_⟩;refine⟨_,by decide,rfl,rfl,?_⟩;refine .inl ⟨_,zLM a (by omega),?_⟩;refine⟨{k:Nat // k<=ps.length},fun k=>{vs:=[(1,.v (.sl (eN ps))),(2,.v (.sl (eB ps))),(3,.box 0 (eTy (.all s a))),(6,.box 0 (eTy .no)),(8,.v (.sl (eSs (fv a)))),(9,.v (.sl (eN (kept s (fv a) (ps.take k.1))))),(10,.v (.sl (eB (kept s (fv a) (ps.take k.1))))),(11,.v (.sl (eSs (caught (kept s (fv a) (ps.take k.1)))))),(12,.v (.lit (.int .i64 (k.1:Nat))))],ow:=[(9,0,2),(10,0,5),(11,0,2)]},
  fun k=>ps.length-k.1,⟨0,Nat.zero_le _⟩,⟨⟨rfl,rfl,rfl,rfl,rfl,rfl,rfl,rfl,rfl,trivial⟩,⟨trivial,trivial,trivial,trivial⟩,rfl⟩,?_⟩
 rintro⟨k,hk⟩;have hkl:(kept s (fv a) (ps.take k)).length<=k:=by
  have:=zA4 s (fv a) (ps.take k);simp at this;omega
 have hcl:(caught (kept s (fv a) (ps.take k))).length<=K*(kept s (fv a) (ps.take k)).length:=zED g1 fun p hp=>g3 p (List.mem_of_mem_take (zFH hp));have hK1:K*(kept s (fv a) (ps.take k)).length<=2600*5000:=Nat.mul_le_mul (by omega) (by omega);have wk':k<ps.length->IntKind.i64.wrap ((k:Int)+1)=((k+1:Nat):Int):=fun _=>wrap_succ (by omega);refine⟨fun h=>?_,fun h=>?_⟩
 ·have h:k<ps.length:=by simp[qC] at h;omega
  have wk':=wk' h;have ht:=zLG (s:=s) (own:=fv a) h;refine⟨_,by omega,zM6 h,rfl,?_⟩;refine⟨fun h3=>?_,fun h3=>?_⟩
  ·refine⟨_,by omega,zM6 h,rfl,?_⟩;refine .inl ⟨_,zGP (l:=fv a) (s:=ps[k].1) (by omega),?_⟩;refine⟨fun h4=>?_,fun h4=>?_⟩
   ·rw[if_pos (by
     have h5:¬ps[k].1=s:=fun e=>by
      have h3':(!decide (ps[k].1=s))=true:=h3;rw[decide_eq_true e] at h3';cases h3'
     rw[h4,decide_eq_true (p:=ps[k].1≠s) h5];rfl)] at ht
    refine⟨_,by omega,zM6 h,rfl,?_⟩;refine⟨by simp[qC];omega,zUO _,wG [_],?_⟩;refine⟨_,by omega,zGG h,rfl,?_⟩;refine⟨by simp[zDS];omega,zS6 _,zFZ [_],?_⟩;refine⟨_,by omega,zGG h,rfl,?_⟩;have hlt:=hdeep _ (List.getElem_mem h);have hfk:(fv ps[k].2).length<=G.length:=zH0 (g3 _ (List.getElem_mem h));refine .inl ⟨_,zLM ps[k].2 (by omega),?_⟩;refine⟨by simp[eSs];omega,wG _,wG _,?_⟩;refine⟨⟨k+1,h⟩,(show ps.length-(k+1)<ps.length-k by omega),⟨rfl,rfl,rfl,rfl,rfl,?_,?_,?_,?_,trivial⟩,⟨rfl,rfl,rfl,trivial⟩,rfl⟩
    ·rw[ht];exact congrArg (fun l=>SV.v (AV.sl l)) (zHV _ ps[k].1 ps[k].2)
    ·rw[ht];exact congrArg (fun l=>SV.v (AV.sl l)) (zHR _ ps[k].1 ps[k].2)
    ·rw[ht,zHA];exact congrArg (fun l=>SV.v (AV.sl l)) (zL7 _ _)
    ·exact congrArg (fun n=>SV.v (AV.lit (Value.int .i64 n))) wk'
   ·rw[if_neg (by rw[h4];simp),List.append_nil] at ht;refine⟨⟨k+1,h⟩,(show ps.length-(k+1)<ps.length-k by omega),⟨rfl,rfl,rfl,rfl,rfl,?_,?_,?_,?_,trivial⟩,⟨rfl,rfl,rfl,trivial⟩,rfl⟩
    ·rw[ht];rfl
    ·rw[ht];rfl
    ·rw[ht];rfl
    ·exact congrArg (fun n=>SV.v (AV.lit (Value.int .i64 n))) wk'
  ·rw[if_neg (by
    have h5:ps[k].1=s:=Classical.byContradiction fun e=>by
     have h3':(!decide (ps[k].1=s))=false:=h3;rw[decide_eq_false e] at h3';cases h3'
    rw[decide_eq_false (p:=ps[k].1≠s) (fun h=>h h5)];simp),List.append_nil] at ht
   refine⟨⟨k+1,h⟩,(show ps.length-(k+1)<ps.length-k by omega),⟨rfl,rfl,rfl,rfl,rfl,?_,?_,?_,?_,trivial⟩,⟨rfl,rfl,rfl,trivial⟩,rfl⟩
   ·rw[ht];rfl
   ·rw[ht];rfl
   ·rw[ht];rfl
   ·exact congrArg (fun n=>SV.v (AV.lit (Value.int .i64 n))) wk'
 ·have h:k=ps.length:=by simp[qC] at h;omega
  subst h;simp only[List.take_length] at hkl hcl hK1⊢;obtain⟨q,hq⟩:∃q,q=kept s (fv a) ps:=⟨_,rfl⟩
  rw[<-hq] at hkl hcl hK1 h0 h1⊢;refine .inl ⟨_,zGP (l:=caught q) (s:=s) (by omega),?_⟩;refine⟨fun h3=>?_,fun h3=>?_⟩
  ·obtain⟨l,hl⟩:∃l,l=caught q++fv a:=⟨_,rfl⟩
   obtain⟨z,hz⟩:∃z,z=lett (ff l):=⟨_,rfl⟩
   have es:sub (.all s a) ps = .all z (sub a (q++[(s,.var z)])):=by rw[sub,<-hq,if_pos h3,<-hl,<-hz]
   have hll:l.length=(caught q).length+(fv a).length:=by rw[hl];simp
   rw[es];rw[<-hl,<-hz] at h1;have hi:=ih (K+2) _ h1.2;unfold wZ at hi;rw[<-zHV,<-zHR] at hi;refine⟨by simp[eSs];omega,wG _,wG _,?_⟩;rw[zL7,<-hl];refine⟨{k:Nat // k<=ff l},fun k=>{vs:=[(3,.box 0 (eTy (.all s a))),(6,.box 0 (eTy .no)),(9,.v (.sl (eN q))),(10,.v (.sl (eB q))),(11,.v (.sl (eSs l))),(14,.v (.lit (.int .i64 (k.1:Nat))))],ow:=[(9,0,2),(10,0,5)]},
    fun k=>ff l-k.1,⟨0,Nat.zero_le _⟩,⟨⟨rfl,rfl,rfl,rfl,rfl,rfl,trivial⟩,⟨rfl,rfl,trivial⟩,rfl⟩,?_⟩
   rintro⟨k,hk⟩;refine .inl ⟨_,zD1 (n:=k) (by omega),?_⟩;refine .inl ⟨_,zGP (l:=l) (s:=lett k) (by omega),?_⟩;refine⟨fun h4=>?_,fun h4=>?_⟩
   ·have h4:lett k∈l:=memb_iff.1 h4;have:k≠ff l:=fun e=>zWS l (e ▸ h4);refine⟨⟨k+1,by omega⟩,(show ff l-(k+1)<ff l-k by omega),⟨rfl,rfl,rfl,rfl,rfl,?_,trivial⟩,⟨rfl,rfl,trivial⟩,rfl⟩;exact congrArg (fun n=>SV.v (AV.lit (Value.int .i64 n))) (wrap_succ (k:=k) (by omega))
   ·have h4:lett k∉l:=fun hm=>by rw[xJ hm] at h4;cases h4
    have:k=ff l:=by
     rcases Nat.lt_or_ge k (ff l) with q|q
     ·exact absurd (zL8 l k q) h4
     ·omega
    subst this;refine .inl ⟨_,zD1 (n:=ff l) (by omega),?_⟩;rw[<-hz];refine⟨by simp[qC];omega,zUO _,wG [_],?_⟩;refine⟨by simp[zDS];omega,zS6 _,zFZ [.var z],?_⟩;refine⟨_,by decide,rfl,rfl,?_⟩;refine .inl ⟨_,hi,?_⟩;exact rfl
  ·have es:sub (.all s a) ps = .all s (sub a q):=by rw[sub,<-hq,if_neg (by rw[h3];simp)]
   rw[es];refine⟨_,by decide,rfl,rfl,?_⟩;refine .inl ⟨_,ih (K+1) q h0,?_⟩;exact rfl
theorem zRG (N:Nat):∀(t:Tp),t.sz<=N->∀(K:Nat) (ps:Env'),FitX K t ps->wZ t ps:=by
 induction N with
 | zero=>intro t h;have:=jC t;omega
 | succ N ih =>
  intro t h K ps hf;have fin:∀t:Tp,¬t.form=2->¬t.form=4->¬t.form=5->wZ t ps:=fun t h2 h4 h5=>by
   have es:sub t ps=t:=by cases t<;>first|rfl|exact absurd rfl h2|exact absurd rfl h4|exact absurd rfl h5
   unfold wZ;rw[es];refine zA ttok mixed Tryz.func29 rfl (by rfl) (Nat.le_of_ble_eq_true rfl) (by kernel_rfl) ?_;refine⟨fun h=>absurd (by simpa using h) h2,fun _=>?_⟩;refine⟨fun h=>absurd (by simpa using h) h4,fun _=>?_⟩;refine⟨fun _=>?_,fun h=>absurd (by simpa using h) h5⟩;exact rfl
  cases t with
  | no=>exact fin _ (by decide) (by decide) (by decide)
  | mt n=>exact fin _ (by simp[Tp.form]) (by simp[Tp.form]) (by simp[Tp.form])
  | con s=>exact fin _ (by simp[Tp.form]) (by simp[Tp.form]) (by simp[Tp.form])
  | var x =>
   refine zA ttok mixed Tryz.func29 rfl (by rfl) (Nat.le_of_ble_eq_true rfl) (by kernel_rfl) ?_;have hm:=hf.many;refine⟨fun _=>?_,fun h=>(by cases h)⟩;refine .inl ⟨_,z3F (l:=ps.map (fun p:ByteArray×Tp=>p.1)) (s:=x) (by simp;omega),?_⟩;rcases zMW (x:=x) (ps:=ps) with⟨h1,h2⟩|⟨k,hk,h1,h2⟩
   ·have es:sub (.var x) ps = .var x:=by simp[sub,h1]
    rw[es,zGC h2];refine⟨fun h=>(by cases h),fun _=>?_⟩;exact rfl
   ·have es:sub (.var x) ps=ps[k].2:=by simp[sub,h2]
    rw[es,h1];refine⟨fun _=>?_,fun h=>(by simp at h)⟩;refine⟨_,by omega,zGG hk,rfl,?_⟩;exact rfl
  | app a b =>
   simp only[Tp.sz] at h;refine zA ttok mixed Tryz.func29 rfl (by rfl) (Nat.le_of_ble_eq_true rfl) (by kernel_rfl) ?_;refine⟨fun h=>(by cases h),fun _=>?_⟩;refine⟨fun _=>?_,fun h=>(by cases h)⟩;refine⟨_,by decide,rfl,rfl,?_⟩;refine .inl ⟨_,ih a (by omega) K ps hf.app.1,?_⟩;refine⟨_,by decide,rfl,rfl,?_⟩;refine .inl ⟨_,ih b (by omega) K ps hf.app.2,?_⟩;refine .inl ⟨_,zJW _ _,?_⟩;exact rfl
  | all s a =>
   simp only[Tp.sz] at h;exact zNX hf (fun K ps hf=>ih a (by omega) K ps hf)
abbrev sz9:ByteArray:=⟨#[122]⟩
theorem zER {s:ByteArray} (h:s∈zGI):Wrd s/\s.size<=10:=by
 unfold zGI at h;simp only[List.mem_cons,List.not_mem_nil,or_false] at h;rcases h with rfl|rfl|rfl|rfl<;>exact⟨by decide,by decide⟩
theorem zZ0 {t:Tp} (h:good t):TkX t/\Shn 10 t:=by
 induction t with
 | no=>exact h.elim
 | mt n=>exact⟨h,trivial⟩
 | con s =>
  have h:s∈zAV:=h;unfold zAV at h;simp only[List.mem_cons,List.not_mem_nil,or_false] at h;rcases h with rfl|rfl|rfl|rfl|rfl|rfl<;>exact⟨⟨by decide,_,_,rfl,by decide⟩,Nat.le_of_ble_eq_true rfl⟩
 | var s=>exact zER h
 | app a b iha ihb=>exact⟨⟨(iha h.1).1,(ihb h.2).1⟩,(iha h.1).2,(ihb h.2).2⟩
 | all s a ih=>exact⟨⟨(zER h.1).1,(ih h.2).1⟩,(ih h.2).2⟩
abbrev giL (s:ByteArray) (c:Cr):Cr:=zBE sy (.var s) (jB (zBE sz9 (.var s) c) (vr sy))
theorem zUY {s:ByteArray} {c:Cr} {t:Tp} (hm:zUZ c t):∃t',TyW yO 50000 wF (qR s (giL s c)) (.all (yO 0) (fnT (.var (yO 0)) t'))/\Alk t' t:=by
 have w1:WOk 50000 (⟨yB,[],[],0⟩:Wd):=(z3W (own:=yO)).ok zPD (by decide);have pv:∀p∈([(s,.var (yO 0))]:Env'),∃k,p.2 = .var (yO k)/\k<1:=fun p hp=>by rw[List.mem_singleton.1 hp];exact⟨0,rfl,by decide⟩
 have c2:Cmp yO v0 (⟨yB,[],[(s,.var (yO 0))],1⟩:Wd):=cmp0 rfl (Nat.le_of_ble_eq_true rfl) (by simp) (Nat.le_of_ble_eq_true rfl) pv;have c3:Cmp yO v0 (⟨yB,[(sy,.var (yO 0))],[(s,.var (yO 0))],1⟩:Wd):=cmp0 rfl (by simp) (by simp) (Nat.le_of_ble_eq_true rfl) pv;have c4:Cmp yO v0 (⟨yB,[(sy,.var (yO 0)),(sz9,.var (yO 0))],[(s,.var (yO 0))],1⟩:Wd):=cmp0 rfl (by simp) (by simp) (Nat.le_of_ble_eq_true rfl) pv;obtain⟨t',ht,ha⟩:=zWI hm ownN_w c4;have em:∀(env:List Nm2),({fs:=yB,env:=env,ps:=[(s,.var (yO 0))],deep:=1}:Wd).mean (.var s) = .var (yO 0):=fun env=>by
  show ((if s=s then _ else _:Option Tp)).getD _=_;rw[if_pos rfl];rfl
 have hs:=ha.sz;have l1:TyW yO 50000 (⟨yB,[(sy,.var (yO 0))],[(s,.var (yO 0))],1⟩:Wd) (zBE sz9 (.var s) c) (fnT (.var (yO 0)) t'):=by
  have h:=TyW.lam (own:=yO) (n:=0) (s:=sz9) (t := .var s) (c3.ok zPD (by decide)) (Nat.le_of_ble_eq_true rfl) (p:=c) (u:=t') (by rw[em];exact ht) (by rw[em];simp only[Tp.sz];omega);rw[em] at h;exact h
 have l2:TyW yO 50000 (⟨yB,[(sy,.var (yO 0))],[(s,.var (yO 0))],1⟩:Wd) (jB (zBE sz9 (.var s) c) (vr sy)) t' := .app (c3.ok zPD (by decide)) l1 (.var (c3.ok zPD (by decide)) rfl (Nat.le_of_ble_eq_true rfl)) (wX _) (Nat.le_of_ble_eq_true rfl);have l3:TyW yO 50000 (⟨yB,[],[(s,.var (yO 0))],1⟩:Wd) (giL s c) (fnT (.var (yO 0)) t'):=by
  have h:=TyW.lam (own:=yO) (n:=0) (s:=sy) (t := .var s) (c2.ok zPD (by decide)) (Nat.le_of_ble_eq_true rfl) (p:=jB (zBE sz9 (.var s) c) (vr sy)) (u:=t') (by rw[em];exact l2) (by rw[em];simp only[Tp.sz];omega);rw[em] at h;exact h
 exact⟨t',.tlam w1 l3 (by simp only[Tp.sz];omega),ha⟩
theorem zJH {o:ByteArray} {t x:Tp} (hb:∀ps,sub t ps=t):sub (fnT (.var o) t) [(o,x)]=fnT x t:=by
 show fnT (((if o=o then _ else _:Option Tp)).getD _) (sub t _)=_;rw[if_pos rfl,hb];rfl
theorem zUS {s:ByteArray} {c:Cr} {t' x:Tp} (h:TyW yO 50000 wF (qR s (giL s c)) (.all (yO 0) (fnT (.var (yO 0)) t'))) (hb:∀ps,sub t' ps=t') (hs:t'.sz<=50) (hx:x.sz<=200):TyW yO 50000 wF (xB x (qR s (giL s c))) (fnT x t'):=by
 have em:wF.mean x=x:=zHW x;have h:=TyW.tapp (n:=0) (s := .empty) (t:=x) ((z3W (own:=yO)).ok zPD (by decide)) (by omega) (by rw[em];omega) (by simp only[Tp.sz];omega) h (by rw[em,zJH hb];simp only[Tp.sz];omega);rw[em,zJH hb] at h;exact h
theorem zKA {l0 l1:List Int} {n:Int} (hl0:l0.length<9223372036854775808) (hr0:∀x∈l0,InR x) (hl1:l1.length<9223372036854775808) (hr1:∀x∈l1,InR x) (hn:InR n):zD Tryz.prog 5 [.sl (eIs l0),.sl (eIs l1),.lit (.int .i64 n)] (.sb true):=by
 obtain⟨c,t,hm,hc⟩:=zV8 hl0 hr0;obtain⟨s,hs4,hcs⟩:=zSR hn;obtain⟨x,hcx,hgx,hxs⟩:=zYZ hl1 hr1;obtain⟨t',h1,ha⟩:=zUY (s:=s) hm;have h2:=zUS (x:=x) h1 ha.sb ha.sz.1 (by omega);have hsz:=ha.sz;have hgd:=hm.1;have tkx:=zZ0 hgx;have tks:=zER hs4;have wo:=ownN_w.wd 0 (by decide);have gz:Gd (zBE sz9 (.var s) c):=zBJ (.inl rfl) (zX (Nat.le_of_ble_eq_true rfl)) hgd.1;have ga:Gd (jB (zBE sz9 (.var s) c) (vr sy)):=zM5 (.inl rfl) gz (zH7 _);have gl:Gd (giL s c):=zBJ (.inl rfl) (zX (Nat.le_of_ble_eq_true rfl)) ga;have gt:Gd (qR s (giL s c)):=zM3 gl;have q1:(zBE sz9 (.var s) c).sz<90000:=by simp only[Cr.sz];omega
 have q2:(jB (zBE sz9 (.var s) c) (vr sy)).sz<90000:=by simp only[Cr.sz];omega
 have q3:(giL s c).sz<90000:=by simp only[Cr.sz];omega
 have q4:(qR s (giL s c)).sz<90000:=by simp only[Cr.sz];omega
 have same1:zD Tryz.prog xI [eTy (.all (yO 0) (fnT (.var (yO 0)) t')),eTy (.all s (fnT (.var s) t))] (.sb true):=by
  have h:=zDN (a := .all (yO 0) (fnT (.var (yO 0)) t')) (b := .all s (fnT (.var s) t)) (K:=10) ⟨wo.1,⟨zAF,wo.1⟩,ha.tk.1⟩ ⟨tks.1,⟨zAF,tks.1⟩,ha.tk2.1⟩ ⟨⟨Nat.le_of_ble_eq_true rfl,wo.2⟩,ha.tk.2⟩ ⟨⟨Nat.le_of_ble_eq_true rfl,tks.2⟩,ha.tk2.2⟩ (by simp only[Tp.sz];omega) (by simp only[Tp.sz];omega) (by decide);rw[zE9 (by
   show Db.all (Db.app (Db.app (.con arrow) (db (.var (yO 0)) [yO 0])) (db t' [yO 0]))=Db.all (Db.app (Db.app (.con arrow) (db (.var s) [s])) (db t [s]));rw[ha.db [yO 0] [s]];simp[db,memb,ixN])] at h
  exact h
 have same2:zD Tryz.prog xI [eTy (fnT x t'),eTy (fnT x t)] (.sb true):=by
  have h:=zDN (a:=fnT x t') (b:=fnT x t) (K:=10) ⟨⟨zAF,tkx.1⟩,ha.tk.1⟩ ⟨⟨zAF,tkx.1⟩,ha.tk2.1⟩ ⟨⟨Nat.le_of_ble_eq_true rfl,tkx.2⟩,ha.tk.2⟩ ⟨⟨Nat.le_of_ble_eq_true rfl,tkx.2⟩,ha.tk2.2⟩ (by simp only[Tp.sz];omega) (by simp only[Tp.sz];omega) (by decide);rw[zE9 (by
   show Db.app (Db.app (.con arrow) (db x [])) (db t' [])=Db.app (Db.app (.con arrow) (db x [])) (db t []);rw[ha.db [] []])] at h
  exact h
 have hsub:=zRG (fnT (.var s) t).sz (fnT (.var s) t) (Nat.le_refl _) 1000 [(s,x)] (zRX (by simp only[Tp.sz];omega) (by omega));have hsub:zD Tryz.prog zAT [eTy (fnT (.var s) t),.sl [str s],.sl [eTy x]] (eTy (fnT x t)):=by
  have e:=zJH (o:=s) (x:=x) ha.sb2;unfold wZ at hsub;rw[e] at hsub;exact hsub
 refine zC ttok mixed Tryz.func5 rfl (by rfl) (Nat.le_of_ble_eq_true rfl) (by kernel_rfl) ?_;refine .inl ⟨_,hc,?_⟩;refine .inl ⟨_,zJ9,?_⟩;refine .inl ⟨_,hcs,?_⟩;refine .inl ⟨_,hcx,?_⟩;refine .inl ⟨_,zJI (s:=sz9) (t := .var s) (c:=c) (zX (Nat.le_of_ble_eq_true rfl)) (zAX hgd.1 (by omega)),?_⟩;refine .inl ⟨_,zOB sy,?_⟩;refine .inl ⟨_,zN9 (f:=zBE sz9 (.var s) c) (l:=[vr sy]) (zAX gz q1) (fun d hd=>by rw[List.mem_singleton.1 hd];exact zAX (zH7 _) (by decide)) (Nat.le_of_ble_eq_true rfl),?_⟩;refine .inl ⟨_,zJI (s:=sy) (t := .var s) (zX (Nat.le_of_ble_eq_true rfl)) (zAX ga q2),?_⟩;refine⟨by kernel_rfl,?_⟩;refine .inl ⟨_,zK5 (l:=[s]) (zAX gl q3) (Nat.le_of_ble_eq_true rfl),?_⟩;refine .inl ⟨_,type_of (env:=[]) h1,?_⟩;refine .inl ⟨_,zKL (f:=qR s (giL s c)) (l:=[x]) (zAX gt q4) (fun d hd=>by rw[List.mem_singleton.1 hd];exact zX (by omega)) (Nat.le_of_ble_eq_true rfl),?_⟩;refine .inl ⟨_,type_of (env:=[]) h2,?_⟩;refine .inl ⟨_,yY (.var s) t,?_⟩;refine⟨fun _=>?_,fun h=>Bool.noConfusion (show true=false from h)⟩;refine .inl ⟨_,same1,?_⟩;refine⟨fun _=>?_,fun h=>Bool.noConfusion (show true=false from h)⟩;refine⟨fun _=>?_,fun h=>Bool.noConfusion (show true=false from h)⟩;refine .inl ⟨_,hsub,?_⟩;refine .inl ⟨_,same2,?_⟩;refine⟨fun _=>?_,fun h=>Bool.noConfusion (show true=false from h)⟩;refine .inl ⟨_,zQK,?_⟩;refine⟨by kernel_rfl,?_⟩;exact rfl
end Go.Proofs.YtdmbahepaglcbaaGreatDoor
