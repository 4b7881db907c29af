/- What is free: the document's, if few names are. No condition but on lengths. -/
import Derived.Test.YtdmbahepaglcbaaGreatDoorQ
import Derived.Test.YtdmbahepaglcbaaGreatDoorV
import Derived.Test.YtdmbahepaglcbaaGreatDoorP
set_option linter.unusedSimpArgs false
set_option linter.unusedVariables false
namespace Go.Proofs.YtdmbahepaglcbaaGreatDoor
open Go Fp
set_option maxRecDepth 100000
set_option maxHeartbeats 8000000
set_option linter.unusedVariables false
structure RO (G:List ByteArray) (t:Tp) (g out:List ByteArray):Prop where
 nd:out.Nodup
 sub:∀s∈out,s∈G
 own:∀s∈fv t,s∉g->s∈G
theorem RO.len {G:List ByteArray} {t:Tp} {g out:List ByteArray} (h:RO G t g out) (hG:G.length<=1000000000):out.length<=1000000000:=Nat.le_trans (wP _ _ h.nd h.sub) hG
theorem RO.next {G:List ByteArray} {t:Tp} {g out:List ByteArray} (h:RO G t g out):(fr t g out).Nodup/\∀s∈fr t g out,s∈G:=by
 rw[zZ7];refine⟨wR h.nd,fun s hs=>?_⟩;rcases mem_insAll.1 hs with hs|⟨h1,h2⟩
 ·exact h.sub s hs
 ·exact h.own s h1 fun hm=>by rw[yO hm] at h2;cases h2
theorem z02 {G:List ByteArray} {t:Tp} {g out:List ByteArray} (h5:¬t.form=5) (h:RO G t g out) {k:Nat} (hk:k<t.args.length):dp t.args[k]<=dp t/\RO G t.args[k] g (frs (t.args.take k) g out):=by
 cases t with
 | app a b =>
  have ha:RO G a g out:=⟨h.nd,h.sub,fun s hs hn=>h.own s (mem_fv_app.2 (.inl hs)) hn⟩
  match k,hk with
  | 0,_=>exact⟨by simp[dp,Tp.args];omega,ha⟩
  | 1,_=>exact⟨by simp[dp,Tp.args];omega,⟨ha.next.1,ha.next.2,fun s hs hn=>h.own s (mem_fv_app.2 (.inr hs)) hn⟩⟩
  | k+2,hk=>simp[Tp.args] at hk;omega
 | all s a=>exact absurd rfl h5
 | _=>simp[Tp.args] at hk
theorem zYE {G:List ByteArray} {a:Tp} {s:ByteArray} {g out:List ByteArray} (h:RO G (.all s a) g out) {k:Nat} (hk:k<(Tp.all s a).args.length):dp (Tp.all s a).args[k]+1<=dp (.all s a)/\RO G (Tp.all s a).args[k] (g++[s]) (frs ((Tp.all s a).args.take k) (g++[s]) out):=by
 match k,hk with
 | 0,_=>exact⟨by simp[dp,Tp.args],⟨h.nd,h.sub,fun x hx hn=>h.own x (mem_fv_all.2 ⟨hx,fun e=>hn (by simp[e])⟩) (fun hm=>hn (by simp[hm]))⟩⟩
 | k+1,hk=>simp[Tp.args] at hk
theorem zNH (G:List ByteArray) (hG:G.length<=1000000000) (t:Tp) (g out:List ByteArray) (hg:g.length+dp t<=1000000000) (ho:RO G t g out)
  (ih:∀a∈t.args,∀g out:List ByteArray,g.length+dp a<=1000000000->RO G a g out->zJE a g out):zJE t g out:=by
 have hoL:=ho.len hG;refine zBV ttok mixed Tryz.func104 rfl (by rfl) (by rfl) (Nat.le_of_ble_eq_true rfl) (Nat.le_of_ble_eq_true rfl) (by kernel_rfl) ?_;have hgl:(eSs g).length=g.length:=by simp[eSs]
 have hol:(eSs out).length=out.length:=by simp[eSs]
 have hlen:t.eArgs.length=t.args.length:=z1T t;have h2:=zLV t;refine⟨fun h=>?_,fun h=>?_⟩
 ·obtain⟨s,rfl⟩:=Tp.is_var (t:=t) (by simpa using h);refine .inl ⟨_,zDX (l:=g) (s:=s) (by omega),?_⟩;refine⟨fun h1=>?_,fun h1=>?_⟩
  ·refine .inl ⟨_,zDX (l:=out) (s:=s) (by omega),?_⟩;refine⟨fun h3=>?_,fun h3=>?_⟩
   ·have e:fr (.var s) g out=out:=by simp[fr,h3]
    rw[e];exact⟨rfl,rfl,rfl⟩
   ·have e:fr (.var s) g out=out++[s]:=by simp[fr,h1,h3]
    rw[e];refine⟨by simp[eSs];omega,xH _,xH [_],?_⟩;exact⟨congrArg AV.sl (zB3 out s),rfl,rfl⟩
  ·have e:fr (.var s) g out=out:=by simp[fr,h1]
   rw[e];exact⟨rfl,rfl,rfl⟩
 ·have hf:¬t.form=2:=by simpa using h
  refine⟨fun h5=>?_,fun h5=>?_⟩
  ·obtain⟨s,a,rfl⟩:=Tp.is_all (t:=t) (by simpa using h5);have hg1:g.length+1<=1000000000:=by simp only[dp] at hg;omega
   refine⟨by simp[eSs];omega,zXS _,xH _,?_⟩;refine⟨by simp[eSs];omega,by simpa using xH g,xH [_],?_⟩;refine⟨{k:Nat // k<=(Tp.all s a).args.length},fun k=>{vs:=[(1,.v (.sl (eSs (g++[s])))),(2,.v (.sl (eSs (frs ((Tp.all s a).args.take k.1) (g++[s]) out)))),(3,.box 0 (eTy (Tp.all s a))),(8,.v (.lit (.int .i64 (k.1:Nat))))],ow:=[(2,0,2)]},
    fun k=>(Tp.all s a).args.length-k.1,⟨0,Nat.zero_le _⟩,⟨⟨(congrArg (fun l=>SV.v (AV.sl l)) (zB3 g s)),rfl,rfl,rfl,trivial⟩,⟨rfl,trivial⟩,rfl⟩,?_⟩
   rintro⟨k,hk⟩;have hrm:=fun h=>zYE (a:=a) (s:=s) (g:=g) (out:=out) ho (k:=k) h;refine⟨fun h=>?_,fun h=>?_⟩
   ·have h:k<(Tp.all s a).args.length:=by simp[hlen] at h;omega
    have hrm:=hrm h;refine⟨eTy (Tp.all s a).args[k],by simp,by rw[Tp.eArgs_eq];exact zOF h,rfl,?_⟩;refine .inr ⟨rfl,[],[],[0,0,2],_,rfl,List.nodup_nil,rfl,ih _ (List.getElem_mem h) (g++[s]) (frs ((Tp.all s a).args.take k) (g++[s]) out) (by simp;omega) hrm.2,?_⟩;rintro _ _ _ ⟨rfl,rfl,rfl⟩;refine⟨⟨k+1,h⟩,(show (Tp.all s a).args.length-(k+1)<(Tp.all s a).args.length-k by omega),⟨rfl,?_,rfl,?_,trivial⟩,⟨rfl,trivial⟩,rfl⟩
    ·exact congrArg (fun l=>SV.v (AV.sl (eSs l))) (zNE h).symm
    ·exact congrArg (fun n=>SV.v (AV.lit (Value.int .i64 n))) (wrap_succ (k:=k) (by omega))
   ·have h:k=(Tp.all s a).args.length:=by simp[hlen] at h;omega
    subst h;have e:fr (Tp.all s a) g out=frs ((Tp.all s a).args.take (Tp.all s a).args.length) (g++[s]) out:=by
     rw[List.take_length]
     rfl
    rw[e];exact⟨rfl,rfl,rfl⟩
  ·have h5:¬t.form=5:=by simpa using h5
   refine⟨{k:Nat // k<=t.args.length},fun k=>{vs:=[(1,.v (.sl (eSs g))),(2,.v (.sl (eSs (frs (t.args.take k.1) (g) out)))),(3,.box 0 (eTy t)),(8,.v (.lit (.int .i64 (k.1:Nat))))],ow:=[(2,0,2)]},
    fun k=>t.args.length-k.1,⟨0,Nat.zero_le _⟩,⟨⟨rfl,rfl,rfl,rfl,trivial⟩,⟨rfl,trivial⟩,rfl⟩,?_⟩
   rintro⟨k,hk⟩;have hrm:=fun h=>z02 (t:=t) (g:=g) (out:=out) h5 ho (k:=k) h;refine⟨fun h=>?_,fun h=>?_⟩
   ·have h:k<t.args.length:=by simp[hlen] at h;omega
    have hrm:=hrm h;refine⟨eTy t.args[k],by simp,by rw[t.eArgs_eq];exact zOF h,rfl,?_⟩;refine .inr ⟨rfl,[],[],[0,0,2],_,rfl,List.nodup_nil,rfl,ih _ (List.getElem_mem h) (g) (frs (t.args.take k) (g) out) (by omega) hrm.2,?_⟩;rintro _ _ _ ⟨rfl,rfl,rfl⟩;refine⟨⟨k+1,h⟩,(show t.args.length-(k+1)<t.args.length-k by omega),⟨rfl,?_,rfl,?_,trivial⟩,⟨rfl,trivial⟩,rfl⟩
    ·exact congrArg (fun l=>SV.v (AV.sl (eSs l))) (zNE h).symm
    ·exact congrArg (fun n=>SV.v (AV.lit (Value.int .i64 n))) (wrap_succ (k:=k) (by omega))
   ·have h:k=t.args.length:=by simp[hlen] at h;omega
    subst h;have e:fr t g out=frs (t.args.take t.args.length) (g) out:=by
     rw[List.take_length];cases t<;>first|rfl|exact absurd rfl hf|exact absurd rfl h5
    rw[e];exact⟨rfl,rfl,rfl⟩
theorem zSZ (N:Nat) (G:List ByteArray) (hG:G.length<=1000000000):∀(t:Tp) (g out:List ByteArray),t.sz<=N->g.length+dp t<=1000000000->RO G t g out->zJE t g out:=by
 induction N with
 | zero=>intro t _ _ h;have:=jE t;omega
 | succ N ih=>exact fun t g out h hg ho=>zNH G hG t g out hg ho fun a ha g out hg ho=>ih a g out (z0F h a ha) hg ho
theorem zKZ (t:Tp) (h:(fv t).length+dp t<=1000000000):zC Tryz.prog zFG [eTy t] (.sl (eSs (fv t))):=by
 refine zA ttok mixed Tryz.func61 rfl (by rfl) (Nat.le_of_ble_eq_true rfl) (by kernel_rfl) ?_;refine .inr ⟨rfl,[],[],[0,0,2],_,rfl,List.nodup_nil,rfl,zSZ t.sz (fv t) (by omega) t [] [] (Nat.le_refl _) (by simp;omega) ⟨List.nodup_nil,by simp,fun s hs _=>hs⟩,?_⟩;rintro _ _ _ ⟨rfl,rfl,rfl⟩;rw[z2T];exact rfl
theorem zO2 {K:Nat} {s:ByteArray} {a:Tp} {ps:Env'} (hf:FitX K (.all s a) ps) (ih:∀(K:Nat) (ps:Env'),FitX K a ps->qA a ps):qA (.all s a) ps:=by
 have h0:=hf.all0;have h1:=hf.all1;obtain⟨⟨G,g1,g2,g3⟩,hroom,hmany,hdeep⟩:=hf;simp only[dp] at hroom hmany;have hfl:(fv a).length<=K+1:=by
  have:=zI1 (t:=a) (G:=s::G) fun x hx=>by
   by_cases e:x=s
   ·rw[e];exact List.mem_cons_self
   ·exact List.mem_cons_of_mem _ (g2 x (mem_fv_all.2 ⟨hx,e⟩))
  simp at this;omega
 refine zA ttok mixed Tryz.func29 rfl (by rfl) (Nat.le_of_ble_eq_true rfl) (by kernel_rfl) ?_;refine⟨fun h=>(by cases h),fun _=>?_⟩;refine⟨fun h=>(by cases h),fun _=>?_⟩;refine⟨fun h=>(by cases h),fun _=>?_⟩;refine⟨_,by decide,rfl,rfl,?_⟩;refine .inl ⟨_,zKZ a (by omega),?_⟩;refine⟨{k:Nat // k<=ps.length},fun k=>{vs:=[(1,.v (.sl (eN ps))),(2,.v (.sl (eB ps))),(3,.box 0 (eTy (.all s a))),(6,.box 0 (eTy .no)),(8,.v (.sl (eSs (fv a)))),(9,.v (.sl (eN (kept s (fv a) (ps.take k.1))))),(10,.v (.sl (eB (kept s (fv a) (ps.take k.1))))),(11,.v (.sl (eSs (caught (kept s (fv a) (ps.take k.1)))))),(12,.v (.lit (.int .i64 (k.1:Nat))))],ow:=[(9,0,2),(10,0,5),(11,0,2)]},
  fun k=>ps.length-k.1,⟨0,Nat.zero_le _⟩,⟨⟨rfl,rfl,rfl,rfl,rfl,rfl,rfl,rfl,rfl,trivial⟩,⟨trivial,trivial,trivial,trivial⟩,rfl⟩,?_⟩
 rintro⟨k,hk⟩;have hkl:(kept s (fv a) (ps.take k)).length<=k:=by
  have:=zAS s (fv a) (ps.take k);simp at this;omega
 have hcl:(caught (kept s (fv a) (ps.take k))).length<=K*(kept s (fv a) (ps.take k)).length:=zEC g1 fun p hp=>g3 p (List.mem_of_mem_take (zBA hp));have hK1:K*(kept s (fv a) (ps.take k)).length<=2600*5000:=Nat.mul_le_mul (by omega) (by omega);have wk':k<ps.length->IntKind.i64.wrap ((k:Int)+1)=((k+1:Nat):Int):=fun _=>wrap_succ (by omega);refine⟨fun h=>?_,fun h=>?_⟩
 ·have h:k<ps.length:=by simp[qB] at h;omega
  have wk':=wk' h;have ht:=zK3 (s:=s) (own:=fv a) h;refine⟨_,by omega,zMB h,rfl,?_⟩;refine⟨fun h3=>?_,fun h3=>?_⟩
  ·refine⟨_,by omega,zMB h,rfl,?_⟩;refine .inl ⟨_,zDX (l:=fv a) (s:=ps[k].1) (by omega),?_⟩;refine⟨fun h4=>?_,fun h4=>?_⟩
   ·rw[if_pos (by
     have h5:¬ps[k].1=s:=fun e=>by
      have h3':(!decide (ps[k].1=s))=true:=h3;rw[decide_eq_true e] at h3';cases h3'
     rw[h4,decide_eq_true (p:=ps[k].1≠s) h5];rfl)] at ht
    refine⟨_,by omega,zMB h,rfl,?_⟩;refine⟨by simp[qB];omega,zT1 _,xH [_],?_⟩;refine⟨_,by omega,zGB h,rfl,?_⟩;refine⟨by simp[zDD];omega,zUG _,zGC [_],?_⟩;refine⟨_,by omega,zGB h,rfl,?_⟩;have hlt:=hdeep _ (List.getElem_mem h);have hfk:(fv ps[k].2).length<=G.length:=zI1 (g3 _ (List.getElem_mem h));refine .inl ⟨_,zKZ ps[k].2 (by omega),?_⟩;refine⟨by simp[eSs];omega,xH _,xH _,?_⟩;refine⟨⟨k+1,h⟩,(show ps.length-(k+1)<ps.length-k by omega),⟨rfl,rfl,rfl,rfl,rfl,?_,?_,?_,?_,trivial⟩,⟨rfl,rfl,rfl,trivial⟩,rfl⟩
    ·rw[ht];exact congrArg (fun l=>SV.v (AV.sl l)) (zHM _ ps[k].1 ps[k].2)
    ·rw[ht];exact congrArg (fun l=>SV.v (AV.sl l)) (zHE _ ps[k].1 ps[k].2)
    ·rw[ht,zG3];exact congrArg (fun l=>SV.v (AV.sl l)) (zMQ _ _)
    ·exact congrArg (fun n=>SV.v (AV.lit (Value.int .i64 n))) wk'
   ·rw[if_neg (by rw[h4];simp),List.append_nil] at ht;refine⟨⟨k+1,h⟩,(show ps.length-(k+1)<ps.length-k by omega),⟨rfl,rfl,rfl,rfl,rfl,?_,?_,?_,?_,trivial⟩,⟨rfl,rfl,rfl,trivial⟩,rfl⟩
    ·rw[ht];rfl
    ·rw[ht];rfl
    ·rw[ht];rfl
    ·exact congrArg (fun n=>SV.v (AV.lit (Value.int .i64 n))) wk'
  ·rw[if_neg (by
    have h5:ps[k].1=s:=Classical.byContradiction fun e=>by
     have h3':(!decide (ps[k].1=s))=false:=h3;rw[decide_eq_false e] at h3';cases h3'
    rw[decide_eq_false (p:=ps[k].1≠s) (fun h=>h h5)];simp),List.append_nil] at ht
   refine⟨⟨k+1,h⟩,(show ps.length-(k+1)<ps.length-k by omega),⟨rfl,rfl,rfl,rfl,rfl,?_,?_,?_,?_,trivial⟩,⟨rfl,rfl,rfl,trivial⟩,rfl⟩
   ·rw[ht];rfl
   ·rw[ht];rfl
   ·rw[ht];rfl
   ·exact congrArg (fun n=>SV.v (AV.lit (Value.int .i64 n))) wk'
 ·have h:k=ps.length:=by simp[qB] at h;omega
  subst h;simp only[List.take_length] at hkl hcl hK1⊢;obtain⟨q,hq⟩:∃q,q=kept s (fv a) ps:=⟨_,rfl⟩
  rw[<-hq] at hkl hcl hK1 h0 h1⊢;refine .inl ⟨_,zDX (l:=caught q) (s:=s) (by omega),?_⟩;refine⟨fun h3=>?_,fun h3=>?_⟩
  ·obtain⟨l,hl⟩:∃l,l=caught q++fv a:=⟨_,rfl⟩
   obtain⟨z,hz⟩:∃z,z=lett (ff l):=⟨_,rfl⟩
   have es:sub (.all s a) ps = .all z (sub a (q++[(s,.var z)])):=by rw[sub,<-hq,if_pos h3,<-hl,<-hz]
   have hll:l.length=(caught q).length+(fv a).length:=by rw[hl];simp
   rw[es];rw[<-hl,<-hz] at h1;have hi:=ih (K+2) _ h1.2;unfold qA at hi;rw[<-zHM,<-zHE] at hi;refine⟨by simp[eSs];omega,xH _,xH _,?_⟩;rw[zMQ,<-hl];refine⟨{k:Nat // k<=ff l},fun k=>{vs:=[(3,.box 0 (eTy (.all s a))),(6,.box 0 (eTy .no)),(9,.v (.sl (eN q))),(10,.v (.sl (eB q))),(11,.v (.sl (eSs l))),(14,.v (.lit (.int .i64 (k.1:Nat))))],ow:=[(9,0,2),(10,0,5)]},
    fun k=>ff l-k.1,⟨0,Nat.zero_le _⟩,⟨⟨rfl,rfl,rfl,rfl,rfl,rfl,trivial⟩,⟨rfl,rfl,trivial⟩,rfl⟩,?_⟩
   rintro⟨k,hk⟩;refine .inl ⟨_,zDL (n:=k) (by omega),?_⟩;refine .inl ⟨_,zDX (l:=l) (s:=lett k) (by omega),?_⟩;refine⟨fun h4=>?_,fun h4=>?_⟩
   ·have h4:lett k∈l:=memb_iff.1 h4;have:k≠ff l:=fun e=>zV6 l (e ▸ h4);refine⟨⟨k+1,by omega⟩,(show ff l-(k+1)<ff l-k by omega),⟨rfl,rfl,rfl,rfl,rfl,?_,trivial⟩,⟨rfl,rfl,trivial⟩,rfl⟩;exact congrArg (fun n=>SV.v (AV.lit (Value.int .i64 n))) (wrap_succ (k:=k) (by omega))
   ·have h4:lett k∉l:=fun hm=>by rw[yO hm] at h4;cases h4
    have:k=ff l:=by
     rcases Nat.lt_or_ge k (ff l) with q|q
     ·exact absurd (zLL l k q) h4
     ·omega
    subst this;refine .inl ⟨_,zDL (n:=ff l) (by omega),?_⟩;rw[<-hz];refine⟨by simp[qB];omega,zT1 _,xH [_],?_⟩;refine⟨by simp[zDD];omega,zUG _,zGC [.var z],?_⟩;refine⟨_,by decide,rfl,rfl,?_⟩;refine .inl ⟨_,hi,?_⟩;exact rfl
  ·have es:sub (.all s a) ps = .all s (sub a q):=by rw[sub,<-hq,if_neg (by rw[h3];simp)]
   rw[es];refine⟨_,by decide,rfl,rfl,?_⟩;refine .inl ⟨_,ih (K+1) q h0,?_⟩;exact rfl
theorem zJC (N:Nat):∀(t:Tp),t.sz<=N->∀(K:Nat) (ps:Env'),FitX K t ps->qA t ps:=by
 induction N with
 | zero=>intro t h;have:=jE t;omega
 | succ N ih =>
  intro t h K ps hf;have fin:∀t:Tp,¬t.form=2->¬t.form=4->¬t.form=5->qA t ps:=fun t h2 h4 h5=>by
   have es:sub t ps=t:=by cases t<;>first|rfl|exact absurd rfl h2|exact absurd rfl h4|exact absurd rfl h5
   unfold qA;rw[es];refine zA ttok mixed Tryz.func29 rfl (by rfl) (Nat.le_of_ble_eq_true rfl) (by kernel_rfl) ?_;refine⟨fun h=>absurd (by simpa using h) h2,fun _=>?_⟩;refine⟨fun h=>absurd (by simpa using h) h4,fun _=>?_⟩;refine⟨fun _=>?_,fun h=>absurd (by simpa using h) h5⟩;exact rfl
  cases t with
  | no=>exact fin _ (by decide) (by decide) (by decide)
  | mt n=>exact fin _ (by simp[Tp.form]) (by simp[Tp.form]) (by simp[Tp.form])
  | con s=>exact fin _ (by simp[Tp.form]) (by simp[Tp.form]) (by simp[Tp.form])
  | var x =>
   refine zA ttok mixed Tryz.func29 rfl (by rfl) (Nat.le_of_ble_eq_true rfl) (by kernel_rfl) ?_;have hm:=hf.many;refine⟨fun _=>?_,fun h=>(by cases h)⟩;refine .inl ⟨_,z2K (l:=ps.map (fun p:ByteArray×Tp=>p.1)) (s:=x) (by simp;omega),?_⟩;rcases zMA (x:=x) (ps:=ps) with⟨h1,h2⟩|⟨k,hk,h1,h2⟩
   ·have es:sub (.var x) ps = .var x:=by simp[sub,h1]
    rw[es,zFV h2];refine⟨fun h=>(by cases h),fun _=>?_⟩;exact rfl
   ·have es:sub (.var x) ps=ps[k].2:=by simp[sub,h2]
    rw[es,h1];refine⟨fun _=>?_,fun h=>(by simp at h)⟩;refine⟨_,by omega,zGB hk,rfl,?_⟩;exact rfl
  | app a b =>
   simp only[Tp.sz] at h;refine zA ttok mixed Tryz.func29 rfl (by rfl) (Nat.le_of_ble_eq_true rfl) (by kernel_rfl) ?_;refine⟨fun h=>(by cases h),fun _=>?_⟩;refine⟨fun _=>?_,fun h=>(by cases h)⟩;refine⟨_,by decide,rfl,rfl,?_⟩;refine .inl ⟨_,ih a (by omega) K ps hf.app.1,?_⟩;refine⟨_,by decide,rfl,rfl,?_⟩;refine .inl ⟨_,ih b (by omega) K ps hf.app.2,?_⟩;refine .inl ⟨_,zI0 _ _,?_⟩;exact rfl
  | all s a =>
   simp only[Tp.sz] at h;exact zO2 hf (fun K ps hf=>ih a (by omega) K ps hf)
theorem zIB {s:ByteArray} (h:s∈zFZ):Wrd s/\s.size<=10:=by
 unfold zFZ at h;simp only[List.mem_cons,List.not_mem_nil,or_false] at h;rcases h with rfl|rfl|rfl|rfl<;>exact⟨by decide,by decide⟩
theorem zE3 {t:Tp} (h:good t):TkX t/\Shn 10 t:=by
 induction t with
 | no=>exact h.elim
 | mt n=>exact⟨h,trivial⟩
 | con s =>
  have h:s∈zBS:=h;unfold zBS at h;simp only[List.mem_cons,List.not_mem_nil,or_false] at h;rcases h with rfl|rfl|rfl|rfl|rfl|rfl<;>exact⟨⟨by decide,_,_,rfl,by decide⟩,Nat.le_of_ble_eq_true rfl⟩
 | var s=>exact zIB h
 | app a b iha ihb=>exact⟨⟨(iha h.1).1,(ihb h.2).1⟩,(iha h.1).2,(ihb h.2).2⟩
 | all s a ih=>exact⟨⟨(zIB h.1).1,(ih h.2).1⟩,(ih h.2).2⟩
noncomputable instance decDb:DecidableEq Db:=fun a b=>Classical.propDecidable _
noncomputable instance decDC:DecidableEq DC:=fun a b=>Classical.propDecidable _
set_option maxHeartbeats 16000000
end Go.Proofs.YtdmbahepaglcbaaGreatDoor
