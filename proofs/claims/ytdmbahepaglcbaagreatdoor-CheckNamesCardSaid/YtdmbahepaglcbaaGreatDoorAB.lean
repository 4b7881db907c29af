/- The document's Subst: all other core, and all. No condition but that core is small. -/
import Derived.Test.YtdmbahepaglcbaaGreatDoorAA
import Derived.Test.YtdmbahepaglcbaaGreatDoorO
import Derived.Test.YtdmbahepaglcbaaGreatDoorY
import Derived.Test.YtdmbahepaglcbaaGreatDoorV
set_option linter.unusedSimpArgs false
set_option linter.unusedVariables false
namespace Go.Proofs.YtdmbahepaglcbaaGreatDoor
open Go Fp
set_option maxRecDepth 10000
set_option maxHeartbeats 16000000
set_option linter.unusedVariables false
set_option maxRecDepth 100000
structure RO (G:List ByteArray) (t:Tp) (g out:List ByteArray):Prop where
 nd:out.Nodup
 sub:∀s∈out,s∈G
 own:∀s∈fv t,s∉g->s∈G
theorem RO.len {G:List ByteArray} {t:Tp} {g out:List ByteArray} (h:RO G t g out) (hG:G.length<=1000000000):out.length<=1000000000:=Nat.le_trans (qV _ _ h.nd h.sub) hG
theorem RO.next {G:List ByteArray} {t:Tp} {g out:List ByteArray} (h:RO G t g out):(fr t g out).Nodup/\∀s∈fr t g out,s∈G:=by
 rw[z3D];refine⟨yE h.nd,fun s hs=>?_⟩;rcases mem_insAll.1 hs with hs|⟨h1,h2⟩
 ·exact h.sub s hs
 ·exact h.own s h1 fun hm=>by rw[zS hm] at h2;cases h2
theorem zcU {G:List ByteArray} {t:Tp} {g out:List ByteArray} (h5:¬t.form=5) (h:RO G t g out) {k:Nat} (hk:k<t.args.length):dp t.args[k]<=dp t/\RO G t.args[k] g (frs (t.args.take k) g out):=by
 cases t with
 | app a b =>
  have ha:RO G a g out:=⟨h.nd,h.sub,fun s hs hn=>h.own s (mem_fv_app.2 (.inl hs)) hn⟩
  match k,hk with
  | 0,_=>exact⟨by simp[dp,Tp.args];omega,ha⟩
  | 1,_=>exact⟨by simp[dp,Tp.args];omega,⟨ha.next.1,ha.next.2,fun s hs hn=>h.own s (mem_fv_app.2 (.inr hs)) hn⟩⟩
  | k+2,hk=>simp[Tp.args] at hk;omega
 | all s a=>exact absurd rfl h5
 | _=>simp[Tp.args] at hk
theorem zaN {G:List ByteArray} {a:Tp} {s:ByteArray} {g out:List ByteArray} (h:RO G (.all s a) g out) {k:Nat} (hk:k<(Tp.all s a).args.length):dp (Tp.all s a).args[k]+1<=dp (.all s a)/\RO G (Tp.all s a).args[k] (g++[s]) (frs ((Tp.all s a).args.take k) (g++[s]) out):=by
 match k,hk with
 | 0,_=>exact⟨by simp[dp,Tp.args],⟨h.nd,h.sub,fun x hx hn=>h.own x (mem_fv_all.2 ⟨hx,fun e=>hn (by simp[e])⟩) (fun hm=>hn (by simp[hm]))⟩⟩
 | k+1,hk=>simp[Tp.args] at hk
theorem zSD (G:List ByteArray) (hG:G.length<=1000000000) (t:Tp) (g out:List ByteArray) (hg:g.length+dp t<=1000000000) (ho:RO G t g out)
  (ih:∀a∈t.args,∀g out:List ByteArray,g.length+dp a<=1000000000->RO G a g out->zCY a g out):zCY t g out:=by
 have hoL:=ho.len hG;refine xM ttok mixed Tryz.func104 rfl (by rfl) (by rfl) (Nat.le_of_ble_eq_true rfl) (Nat.le_of_ble_eq_true rfl) (by kernel_rfl) ?_;have hgl:(eSs g).length=g.length:=by simp[eSs]
 have hol:(eSs out).length=out.length:=by simp[eSs]
 have hlen:t.eArgs.length=t.args.length:=zcD t;have h2:=zK8 t;refine⟨fun h=>?_,fun h=>?_⟩
 ·obtain⟨s,rfl⟩:=Tp.is_var (t:=t) (by simpa using h);refine .inl ⟨_,wK (l:=g) (s:=s) (by omega),?_⟩;refine⟨fun h1=>?_,fun h1=>?_⟩
  ·refine .inl ⟨_,wK (l:=out) (s:=s) (by omega),?_⟩;refine⟨fun h3=>?_,fun h3=>?_⟩
   ·have e:fr (.var s) g out=out:=by simp[fr,h3]
    rw[e];exact⟨rfl,rfl,rfl⟩
   ·have e:fr (.var s) g out=out++[s]:=by simp[fr,h1,h3]
    rw[e];refine⟨by simp[eSs];omega,yP _,yP [_],?_⟩;exact⟨congrArg AV.sl (zDA out s),rfl,rfl⟩
  ·have e:fr (.var s) g out=out:=by simp[fr,h1]
   rw[e];exact⟨rfl,rfl,rfl⟩
 ·have hf:¬t.form=2:=by simpa using h
  refine⟨fun h5=>?_,fun h5=>?_⟩
  ·obtain⟨s,a,rfl⟩:=Tp.is_all (t:=t) (by simpa using h5);have hg1:g.length+1<=1000000000:=by simp only[dp] at hg;omega
   refine⟨by simp[eSs];omega,zRQ _,yP _,?_⟩;refine⟨by simp[eSs];omega,by simpa using yP g,yP [_],?_⟩;refine⟨{k:Nat // k<=(Tp.all s a).args.length},fun k=>{vs:=[(1,.v (.sl (eSs (g++[s])))),(2,.v (.sl (eSs (frs ((Tp.all s a).args.take k.1) (g++[s]) out)))),(3,.box 0 (eTy (Tp.all s a))),(8,.v (.lit (.int .i64 (k.1:Nat))))],ow:=[(2,0,2)]},
    fun k=>(Tp.all s a).args.length-k.1,⟨0,Nat.zero_le _⟩,⟨⟨(congrArg (fun l=>SV.v (AV.sl l)) (zDA g s)),rfl,rfl,rfl,trivial⟩,⟨rfl,trivial⟩,rfl⟩,?_⟩
   rintro⟨k,hk⟩;have hrm:=fun h=>zaN (a:=a) (s:=s) (g:=g) (out:=out) ho (k:=k) h;refine⟨fun h=>?_,fun h=>?_⟩
   ·have h:k<(Tp.all s a).args.length:=by simp[hlen] at h;omega
    have hrm:=hrm h;refine⟨eTy (Tp.all s a).args[k],by simp,by rw[Tp.eArgs_eq];exact zQI h,rfl,?_⟩;refine .inr ⟨rfl,[],[],[0,0,2],_,rfl,List.nodup_nil,rfl,ih _ (List.getElem_mem h) (g++[s]) (frs ((Tp.all s a).args.take k) (g++[s]) out) (by simp;omega) hrm.2,?_⟩;rintro _ _ _ ⟨rfl,rfl,rfl⟩;refine⟨⟨k+1,h⟩,(show (Tp.all s a).args.length-(k+1)<(Tp.all s a).args.length-k by omega),⟨rfl,?_,rfl,?_,trivial⟩,⟨rfl,trivial⟩,rfl⟩
    ·exact congrArg (fun l=>SV.v (AV.sl (eSs l))) (zH0 h).symm
    ·exact congrArg (fun n=>SV.v (AV.lit (Value.int .i64 n))) (wrap_succ (k:=k) (by omega))
   ·have h:k=(Tp.all s a).args.length:=by simp[hlen] at h;omega
    subst h;have e:fr (Tp.all s a) g out=frs ((Tp.all s a).args.take (Tp.all s a).args.length) (g++[s]) out:=by
     rw[List.take_length]
     rfl
    rw[e];exact⟨rfl,rfl,rfl⟩
  ·have h5:¬t.form=5:=by simpa using h5
   refine⟨{k:Nat // k<=t.args.length},fun k=>{vs:=[(1,.v (.sl (eSs g))),(2,.v (.sl (eSs (frs (t.args.take k.1) (g) out)))),(3,.box 0 (eTy t)),(8,.v (.lit (.int .i64 (k.1:Nat))))],ow:=[(2,0,2)]},
    fun k=>t.args.length-k.1,⟨0,Nat.zero_le _⟩,⟨⟨rfl,rfl,rfl,rfl,trivial⟩,⟨rfl,trivial⟩,rfl⟩,?_⟩
   rintro⟨k,hk⟩;have hrm:=fun h=>zcU (t:=t) (g:=g) (out:=out) h5 ho (k:=k) h;refine⟨fun h=>?_,fun h=>?_⟩
   ·have h:k<t.args.length:=by simp[hlen] at h;omega
    have hrm:=hrm h;refine⟨eTy t.args[k],by simp,by rw[t.eArgs_eq];exact zQI h,rfl,?_⟩;refine .inr ⟨rfl,[],[],[0,0,2],_,rfl,List.nodup_nil,rfl,ih _ (List.getElem_mem h) (g) (frs (t.args.take k) (g) out) (by omega) hrm.2,?_⟩;rintro _ _ _ ⟨rfl,rfl,rfl⟩;refine⟨⟨k+1,h⟩,(show t.args.length-(k+1)<t.args.length-k by omega),⟨rfl,?_,rfl,?_,trivial⟩,⟨rfl,trivial⟩,rfl⟩
    ·exact congrArg (fun l=>SV.v (AV.sl (eSs l))) (zH0 h).symm
    ·exact congrArg (fun n=>SV.v (AV.lit (Value.int .i64 n))) (wrap_succ (k:=k) (by omega))
   ·have h:k=t.args.length:=by simp[hlen] at h;omega
    subst h;have e:fr t g out=frs (t.args.take t.args.length) (g) out:=by
     rw[List.take_length];cases t<;>first|rfl|exact absurd rfl hf|exact absurd rfl h5
    rw[e];exact⟨rfl,rfl,rfl⟩
theorem zZ3 (N:Nat) (G:List ByteArray) (hG:G.length<=1000000000):∀(t:Tp) (g out:List ByteArray),t.sz<=N->g.length+dp t<=1000000000->RO G t g out->zCY t g out:=by
 induction N with
 | zero=>intro t _ _ h;have:=zAF t;omega
 | succ N ih=>exact fun t g out h hg ho=>zSD G hG t g out hg ho fun a ha g out hg ho=>ih a g out (z2Q h a ha) hg ho
theorem zPW (t:Tp) (h:(fv t).length+dp t<=1000000000):zF Tryz.prog zCK [eTy t] (.sl (eSs (fv t))):=by
 refine zD ttok mixed Tryz.func61 rfl (by rfl) (Nat.le_of_ble_eq_true rfl) (by kernel_rfl) ?_;refine .inr ⟨rfl,[],[],[0,0,2],_,rfl,List.nodup_nil,rfl,zZ3 t.sz (fv t) (by omega) t [] [] (Nat.le_refl _) (by simp;omega) ⟨List.nodup_nil,by simp,fun s hs _=>hs⟩,?_⟩;rintro _ _ _ ⟨rfl,rfl,rfl⟩;rw[z5D];exact rfl
theorem zTG {K:Nat} {s:ByteArray} {a:Tp} {ps:Env'} (hf:FitX K (.all s a) ps) (ih:∀(K:Nat) (ps:Env'),FitX K a ps->jK a ps):jK (.all s a) ps:=by
 have h0:=hf.all0;have h1:=hf.all1;obtain⟨⟨G,g1,g2,g3⟩,hroom,hmany,hdeep⟩:=hf;simp only[dp] at hroom hmany;have hfl:(fv a).length<=K+1:=by
  have:=zMM (t:=a) (G:=s::G) fun x hx=>by
   by_cases e:x=s
   ·rw[e];exact List.mem_cons_self
   ·exact List.mem_cons_of_mem _ (g2 x (mem_fv_all.2 ⟨hx,e⟩))
  simp at this;omega
 refine zD ttok mixed Tryz.func29 rfl (by rfl) (Nat.le_of_ble_eq_true rfl) (by kernel_rfl) ?_;refine⟨fun h=>(by cases h),fun _=>?_⟩;refine⟨fun h=>(by cases h),fun _=>?_⟩;refine⟨fun h=>(by cases h),fun _=>?_⟩;refine⟨_,by decide,rfl,rfl,?_⟩;refine .inl ⟨_,zPW a (by omega),?_⟩;refine⟨{k:Nat // k<=ps.length},fun k=>{vs:=[(1,.v (.sl (eN ps))),(2,.v (.sl (eB ps))),(3,.box 0 (eTy (.all s a))),(6,.box 0 (eTy .no)),(8,.v (.sl (eSs (fv a)))),(9,.v (.sl (eN (kept s (fv a) (ps.take k.1))))),(10,.v (.sl (eB (kept s (fv a) (ps.take k.1))))),(11,.v (.sl (eSs (caught (kept s (fv a) (ps.take k.1)))))),(12,.v (.lit (.int .i64 (k.1:Nat))))],ow:=[(9,0,2),(10,0,5),(11,0,2)]},
  fun k=>ps.length-k.1,⟨0,Nat.zero_le _⟩,⟨⟨rfl,rfl,rfl,rfl,rfl,rfl,rfl,rfl,rfl,trivial⟩,⟨trivial,trivial,trivial,trivial⟩,rfl⟩,?_⟩
 rintro⟨k,hk⟩;have hkl:(kept s (fv a) (ps.take k)).length<=k:=by
  have:=zCD s (fv a) (ps.take k);simp at this;omega
 have hcl:(caught (kept s (fv a) (ps.take k))).length<=K*(kept s (fv a) (ps.take k)).length:=zGB g1 fun p hp=>g3 p (List.mem_of_mem_take (zA8 hp));have hK1:K*(kept s (fv a) (ps.take k)).length<=2600*5000:=Nat.mul_le_mul (by omega) (by omega);have wk':k<ps.length->IntKind.i64.wrap ((k:Int)+1)=((k+1:Nat):Int):=fun _=>wrap_succ (by omega);refine⟨fun h=>?_,fun h=>?_⟩
 ·have h:k<ps.length:=by simp[jV] at h;omega
  have wk':=wk' h;have ht:=zPN (s:=s) (own:=fv a) h;refine⟨_,by omega,zQW h,rfl,?_⟩;refine⟨fun h3=>?_,fun h3=>?_⟩
  ·refine⟨_,by omega,zQW h,rfl,?_⟩;refine .inl ⟨_,wK (l:=fv a) (s:=ps[k].1) (by omega),?_⟩;refine⟨fun h4=>?_,fun h4=>?_⟩
   ·rw[if_pos (by
     have h5:¬ps[k].1=s:=fun e=>by
      have h3':(!decide (ps[k].1=s))=true:=h3;rw[decide_eq_true e] at h3';cases h3'
     rw[h4,decide_eq_true (p:=ps[k].1≠s) h5];rfl)] at ht
    refine⟨_,by omega,zQW h,rfl,?_⟩;refine⟨by simp[jV];omega,zZT _,yP [_],?_⟩;refine⟨_,by omega,zJM h,rfl,?_⟩;refine⟨by simp[zFC];omega,zZ8 _,zN8 [_],?_⟩;refine⟨_,by omega,zJM h,rfl,?_⟩;have hlt:=hdeep _ (List.getElem_mem h);have hfk:(fv ps[k].2).length<=G.length:=zMM (g3 _ (List.getElem_mem h));refine .inl ⟨_,zPW ps[k].2 (by omega),?_⟩;refine⟨by simp[eSs];omega,yP _,yP _,?_⟩;refine⟨⟨k+1,h⟩,(show ps.length-(k+1)<ps.length-k by omega),⟨rfl,rfl,rfl,rfl,rfl,?_,?_,?_,?_,trivial⟩,⟨rfl,rfl,rfl,trivial⟩,rfl⟩
    ·rw[ht];exact congrArg (fun l=>SV.v (AV.sl l)) (zKR _ ps[k].1 ps[k].2)
    ·rw[ht];exact congrArg (fun l=>SV.v (AV.sl l)) (zK1 _ ps[k].1 ps[k].2)
    ·rw[ht,zKE];exact congrArg (fun l=>SV.v (AV.sl l)) (zQA _ _)
    ·exact congrArg (fun n=>SV.v (AV.lit (Value.int .i64 n))) wk'
   ·rw[if_neg (by rw[h4];simp),List.append_nil] at ht;refine⟨⟨k+1,h⟩,(show ps.length-(k+1)<ps.length-k by omega),⟨rfl,rfl,rfl,rfl,rfl,?_,?_,?_,?_,trivial⟩,⟨rfl,rfl,rfl,trivial⟩,rfl⟩
    ·rw[ht];rfl
    ·rw[ht];rfl
    ·rw[ht];rfl
    ·exact congrArg (fun n=>SV.v (AV.lit (Value.int .i64 n))) wk'
  ·rw[if_neg (by
    have h5:ps[k].1=s:=Classical.byContradiction fun e=>by
     have h3':(!decide (ps[k].1=s))=false:=h3;rw[decide_eq_false e] at h3';cases h3'
    rw[decide_eq_false (p:=ps[k].1≠s) (fun h=>h h5)];simp),List.append_nil] at ht
   refine⟨⟨k+1,h⟩,(show ps.length-(k+1)<ps.length-k by omega),⟨rfl,rfl,rfl,rfl,rfl,?_,?_,?_,?_,trivial⟩,⟨rfl,rfl,rfl,trivial⟩,rfl⟩
   ·rw[ht];rfl
   ·rw[ht];rfl
   ·rw[ht];rfl
   ·exact congrArg (fun n=>SV.v (AV.lit (Value.int .i64 n))) wk'
 ·have h:k=ps.length:=by simp[jV] at h;omega
  subst h;simp only[List.take_length] at hkl hcl hK1⊢;obtain⟨q,hq⟩:∃q,q=kept s (fv a) ps:=⟨_,rfl⟩
  rw[<-hq] at hkl hcl hK1 h0 h1⊢;refine .inl ⟨_,wK (l:=caught q) (s:=s) (by omega),?_⟩;refine⟨fun h3=>?_,fun h3=>?_⟩
  ·obtain⟨l,hl⟩:∃l,l=caught q++fv a:=⟨_,rfl⟩
   obtain⟨z,hz⟩:∃z,z=lett (ff l):=⟨_,rfl⟩
   have es:sub (.all s a) ps = .all z (sub a (q++[(s,.var z)])):=by rw[sub,<-hq,if_pos h3,<-hl,<-hz]
   have hll:l.length=(caught q).length+(fv a).length:=by rw[hl];simp
   rw[es];rw[<-hl,<-hz] at h1;have hi:=ih (K+2) _ h1.2;unfold jK at hi;rw[<-zKR,<-zK1] at hi;refine⟨by simp[eSs];omega,yP _,yP _,?_⟩;rw[zQA,<-hl];refine⟨{k:Nat // k<=ff l},fun k=>{vs:=[(3,.box 0 (eTy (.all s a))),(6,.box 0 (eTy .no)),(9,.v (.sl (eN q))),(10,.v (.sl (eB q))),(11,.v (.sl (eSs l))),(14,.v (.lit (.int .i64 (k.1:Nat))))],ow:=[(9,0,2),(10,0,5)]},
    fun k=>ff l-k.1,⟨0,Nat.zero_le _⟩,⟨⟨rfl,rfl,rfl,rfl,rfl,rfl,trivial⟩,⟨rfl,rfl,trivial⟩,rfl⟩,?_⟩
   rintro⟨k,hk⟩;refine .inl ⟨_,zA0 (n:=k) (by omega),?_⟩;refine .inl ⟨_,wK (l:=l) (s:=lett k) (by omega),?_⟩;refine⟨fun h4=>?_,fun h4=>?_⟩
   ·have h4:lett k∈l:=memb_iff.1 h4;have:k≠ff l:=fun e=>zBA l (e ▸ h4);refine⟨⟨k+1,by omega⟩,(show ff l-(k+1)<ff l-k by omega),⟨rfl,rfl,rfl,rfl,rfl,?_,trivial⟩,⟨rfl,rfl,trivial⟩,rfl⟩;exact congrArg (fun n=>SV.v (AV.lit (Value.int .i64 n))) (wrap_succ (k:=k) (by omega))
   ·have h4:lett k∉l:=fun hm=>by rw[zS hm] at h4;cases h4
    have:k=ff l:=by
     rcases Nat.lt_or_ge k (ff l) with q|q
     ·exact absurd (zGV l k q) h4
     ·omega
    subst this;refine .inl ⟨_,zA0 (n:=ff l) (by omega),?_⟩;rw[<-hz];refine⟨by simp[jV];omega,zZT _,yP [_],?_⟩;refine⟨by simp[zFC];omega,zZ8 _,zN8 [.var z],?_⟩;refine⟨_,by decide,rfl,rfl,?_⟩;refine .inl ⟨_,hi,?_⟩;exact rfl
  ·have es:sub (.all s a) ps = .all s (sub a q):=by rw[sub,<-hq,if_neg (by rw[h3];simp)]
   rw[es];refine⟨_,by decide,rfl,rfl,?_⟩;refine .inl ⟨_,ih (K+1) q h0,?_⟩;exact rfl
theorem zUP (N:Nat):∀(t:Tp),t.sz<=N->∀(K:Nat) (ps:Env'),FitX K t ps->jK t ps:=by
 induction N with
 | zero=>intro t h;have:=zAF t;omega
 | succ N ih =>
  intro t h K ps hf;have fin:∀t:Tp,¬t.form=2->¬t.form=4->¬t.form=5->jK t ps:=fun t h2 h4 h5=>by
   have es:sub t ps=t:=by cases t<;>first|rfl|exact absurd rfl h2|exact absurd rfl h4|exact absurd rfl h5
   unfold jK;rw[es];refine zD ttok mixed Tryz.func29 rfl (by rfl) (Nat.le_of_ble_eq_true rfl) (by kernel_rfl) ?_;refine⟨fun h=>absurd (by simpa using h) h2,fun _=>?_⟩;refine⟨fun h=>absurd (by simpa using h) h4,fun _=>?_⟩;refine⟨fun _=>?_,fun h=>absurd (by simpa using h) h5⟩;exact rfl
  cases t with
  | no=>exact fin _ (by decide) (by decide) (by decide)
  | mt n=>exact fin _ (by simp[Tp.form]) (by simp[Tp.form]) (by simp[Tp.form])
  | con s=>exact fin _ (by simp[Tp.form]) (by simp[Tp.form]) (by simp[Tp.form])
  | var x =>
   refine zD ttok mixed Tryz.func29 rfl (by rfl) (Nat.le_of_ble_eq_true rfl) (by kernel_rfl) ?_;have hm:=hf.many;refine⟨fun _=>?_,fun h=>(by cases h)⟩;refine .inl ⟨_,zd5 (l:=ps.map (fun p:ByteArray×Tp=>p.1)) (s:=x) (by simp;omega),?_⟩;rcases zKW (x:=x) (ps:=ps) with⟨h1,h2⟩|⟨k,hk,h1,h2⟩
   ·have es:sub (.var x) ps = .var x:=by simp[sub,h1]
    rw[es,zGD h2];refine⟨fun h=>(by cases h),fun _=>?_⟩;exact rfl
   ·have es:sub (.var x) ps=ps[k].2:=by simp[sub,h2]
    rw[es,h1];refine⟨fun _=>?_,fun h=>(by simp at h)⟩;refine⟨_,by omega,zJM hk,rfl,?_⟩;exact rfl
  | app a b =>
   simp only[Tp.sz] at h;refine zD ttok mixed Tryz.func29 rfl (by rfl) (Nat.le_of_ble_eq_true rfl) (by kernel_rfl) ?_;refine⟨fun h=>(by cases h),fun _=>?_⟩;refine⟨fun _=>?_,fun h=>(by cases h)⟩;refine⟨_,by decide,rfl,rfl,?_⟩;refine .inl ⟨_,ih a (by omega) K ps hf.app.1,?_⟩;refine⟨_,by decide,rfl,rfl,?_⟩;refine .inl ⟨_,ih b (by omega) K ps hf.app.2,?_⟩;refine .inl ⟨_,zLQ _ _,?_⟩;exact rfl
  | all s a =>
   simp only[Tp.sz] at h;exact zTG hf (fun K ps hf=>ih a (by omega) K ps hf)
set_option linter.unusedSimpArgs false
def wtD:DC->Nat
 | .nil=>0
 | .bv _=>2
 | .fr _=>2
 | .node _ _ _ t g=>1+zb t+wtD g
 | .kid p r=>wtD p+wtD r
 | .bind t p r=>1+zb t+wtD p+wtD r
 | .alt _ _ _ k p r=>1+k+wtD p+wtD r
def dkD:DC->Nat->Prop
 | .node _ _ _ _ g,k=>(g = .nil∨0<k)/\dkD g (k-1)
 | .kid p r,k=>dkD p k/\dkD r k
 | .bind _ p r,k=>dkD p k/\dkD r k
 | .alt f _ _ n p r,k=>(f=1∨n=0)/\dkD p k/\dkD r k
 | _,_=>True
theorem jH (c:Cr):∀(e d:List ByteArray),c.Ok->wtD (dbc c e d)=c.wt:=by
 induction c with
 | nil=>intro e d _;rfl
 | node f n s t g ih =>
  intro e d ho;by_cases h1:f=1
  ·obtain⟨rfl,rfl⟩:=ho.2.1 h1;simp only[dbc,if_pos h1,Cr.wt,Tp.sz];split<;>rfl
  ·simp only[dbc,if_neg h1,wtD,Cr.wt,zG3];rw[ih _ _ (zN ho).2]
 | kid p r ihp ihr=>intro e d ho;simp only[dbc,wtD,Cr.wt,ihp e d ho.2.2.1,ihr e d ho.2.2.2]
 | bind x t p r ihp ihr=>intro e d ho;simp only[dbc,wtD,Cr.wt,ihp e d ho.2.2.2.1,ihr e d ho.2.2.2.2,zG3]
 | alt f n s vs p r ihp ihr=>intro e d ho;simp only[dbc,wtD,Cr.wt,ihp _ d ho.2.2.2.2.2.1,ihr e d ho.2.2.2.2.2.2]
theorem z8Q {g:Cr} {e d:List ByteArray}:dbc g e d = .nil↔g = .nil:=by
 cases g with
 | nil=>simp[dbc]
 | node f n s t g=>simp only[dbc];split<;>(try split)<;>simp
 | kid p r=>simp[dbc]
 | bind x t p r=>simp[dbc]
 | alt f n s vs p r=>simp[dbc]
theorem zYD (c:Cr):∀(e d:List ByteArray) (k:Nat),c.Ok->(dkD (dbc c e d) k↔c.Dk k):=by
 induction c with
 | nil=>intro e d k _;exact Iff.rfl
 | node f n s t g ih =>
  intro e d k ho;by_cases h1:f=1
  ·obtain⟨rfl,rfl⟩:=ho.2.1 h1;simp only[dbc,if_pos h1,Cr.Dk];split<;>simp[dkD]
  ·simp only[dbc,if_neg h1,dkD,Cr.Dk,z8Q];rw[ih _ _ _ (zN ho).2]
 | kid p r ihp ihr=>intro e d k ho;simp only[dbc,dkD,Cr.Dk,ihp e d k ho.2.2.1,ihr e d k ho.2.2.2]
 | bind x t p r ihp ihr=>intro e d k ho;simp only[dbc,dkD,Cr.Dk,ihp e d k ho.2.2.2.1,ihr e d k ho.2.2.2.2]
 | alt f n s vs p r ihp ihr=>intro e d k ho;simp only[dbc,dkD,Cr.Dk,ihp _ d k ho.2.2.2.2.2.1,ihr e d k ho.2.2.2.2.2.2,List.length_eq_zero_iff]
theorem zbL {τ:ByteArray->Db} (h:∀s,zb (τ s)=1) (x:Db):zb (sb τ x)=zb x:=by
 induction x with
 | fr s=>exact h s
 | app a b iha ihb=>simp only[sb,zb,iha,ihb]
 | all a ih=>simp only[sb,zb,ih]
 | _=>rfl
theorem z2Z {σ:ByteArray->DC} {τ:ByteArray->Db} (h:∀s,zb (τ s)=1) (h2:∀s,wtD (σ s)=2) (D:DC):wtD (sbD σ τ D)=wtD D:=by
 induction D with
 | fr s=>exact h2 s
 | node f n s t g ih=>simp only[sbD,wtD,zbL h,ih]
 | kid p r ihp ihr=>simp only[sbD,wtD,ihp,ihr]
 | bind t p r ihp ihr=>simp only[sbD,wtD,zbL h,ihp,ihr]
 | alt f n s k p r ihp ihr=>simp only[sbD,wtD,ihp,ihr]
 | _=>rfl
structure Sx (c:Cr):Prop where
 n:c.isN=true
 ok:c.Ok
 wt:c.wt<=590
theorem Sx.sz {c:Cr} (h:Sx c):c.sz<=590:=Nat.le_trans (z7G c) h.wt
theorem Sx.few {c:Cr} (h:Sx c):c.Few:=zcR c (Nat.le_trans h.wt (by decide))
theorem Sx.part {c d:Cr} (h:Sx c) {p:Pp} (hd:zOA (zA6 c) p=some d):Sx d/\d.sz<c.sz:=by
 have ho:=h.ok;have hn:=h.n;cases p with
 | kid j =>
  have hm:d∈c.kids:=List.mem_of_getElem? hd;have h1:=zBF hm;rw[hn] at h1;have h2:=(zP4 (K:=0) hm).1;exact⟨⟨(ho.kid hm).1,(ho.kid hm).2,Nat.le_trans h2 h.wt⟩,by simp at h1;omega⟩
 | bind j =>
  have hd:(c.binds[j]?).map (·.2.2)=some d:=hd;cases hb:c.binds[j]? with
  | none=>rw[hb] at hd;cases hd
  | some b =>
   rw[hb] at hd;simp at hd;subst hd;have hm:=List.mem_of_getElem? hb;have h1:=zCF hm;rw[hn] at h1;have h2:=(zXQ (K:=0) hm).1;have:=h.wt;exact⟨⟨(ho.bind hm).1,(ho.bind hm).2,by omega⟩,by simp at h1;omega⟩
 | alt j =>
  have hd:(c.alts[j]?).map (·.2.2)=some d:=hd;cases hb:c.alts[j]? with
  | none=>rw[hb] at hd;cases hd
  | some b =>
   rw[hb] at hd;simp at hd;subst hd;have hm:=List.mem_of_getElem? hb;have h1:=zEH hm;rw[hn] at h1;have h2:=(zVI (K:=0) hm).1;have:=h.wt;exact⟨⟨(ho.alt hm).1,(ho.alt hm).2.1,by omega⟩,by simp at h1;omega⟩
theorem z3E (s z y:ByteArray):zb (db (yV y [(s,.var z)]) [])=1:=by
 rw[zBO];split<;>simp[db,memb,zb]
theorem zaD (S:List ByteArray) (v:ByteArray) (t:Tp):AgT S [(v,t)] [] [] (fun y=>db (yV y [(v,t)]) []):=fun a _ => .inr ⟨by simp,fun x _=>by simp,rfl⟩
theorem zUB (k:Nat):∀(c:Cr) (v:ByteArray) (t:Tp),c.isN=true->c.Ok->(stF k c v t).isN=true/\(stF k c v t).Ok:=fun c v t hn ho=>⟨by rw[zHC];exact hn,(zFF k c v t ho).2.2⟩
theorem Sx.st {c:Cr} (h:Sx c) {k:Nat} (hk:c.sz<=k) (s z:ByteArray):Sx (stF k c s (.var z)):=by
 obtain⟨h1,h2⟩:=zUB k c s (.var z) h.n h.ok;refine⟨h1,h2,?_⟩;rw[<-jH _ [] [] h2,zW5 k c s (.var z) [] [] [] _ h.ok h.n hk (zaD c.tv s (.var z)),z2Z (z3E s z) (fun _=>rfl),jH _ [] [] h.ok];exact h.wt
theorem zbN (z:ByteArray):Sx (vr z):=⟨(z1Z z).n,(z1Z z).ok,(z1Z z).wt⟩
theorem Sx.sb {c:Cr} (h:Sx c) {k:Nat} (hk:c.sz<=k) (x z:ByteArray):Sx (sbF k c x (vr z))/\(sbF k c x (vr z)).sz=c.sz:=by
 have hall:=zKY k c x (vr z) h.n h.ok rfl (zIC _);refine⟨⟨hall.1,hall.2.1,?_⟩,hall.2.2 (z4V _)⟩;rw[<-jH _ [] [] hall.2.1,zc5 h.ok h.n (zIC _) rfl hk,z2Z (fun s=>rfl) (fun s=>?_),jH _ [] [] h.ok]
 ·exact h.wt
 ·unfold sgO;split<;>rfl
theorem zbG {u t:Tp} {v:ByteArray} (hu:u.sz<=590) (ht:t.sz<=590):FitX 1190 u [(v,t)]:=by
 have h1:=zM9 u;have h2:=jG u;have h3:=zM9 t;have h4:=jG t;refine⟨⟨fv u++fv t,by rw[List.length_append];omega,fun s hs=>List.mem_append_left _ hs,fun p hp s hs=>?_⟩,by omega,by simp;omega,fun p hp=>?_⟩
 ·rw[List.mem_singleton.1 hp] at hs;exact List.mem_append_right _ hs
 ·rw[List.mem_singleton.1 hp];show dp t<_;omega
theorem zPR {K:Nat} {t u:Tp} {v:ByteArray} (hf:FitX K t [(v,u)]):zF Tryz.prog zG1 [eTy t,str v,eTy u] (eTy (sub t [(v,u)])):=by
 refine zG ttok mixed Tryz.func86 rfl (by rfl) (Nat.le_of_ble_eq_true rfl) (by kernel_rfl) ?_;by_cases h0:t = .no
 ·subst h0;refine⟨fun _=>?_,fun h=>absurd h (by decide)⟩;exact rfl
 ·refine⟨fun h=>?_,fun h=>?_⟩
  ·exfalso;have h:=of_decide_eq_true h;cases t<;>first|exact h0 rfl|(simp[Tp.form] at h)
  ·have hs:=zUP t.sz t (Nat.le_refl _) K [(v,u)] hf;unfold jK at hs;refine .inl ⟨_,hs,?_⟩;exact rfl
theorem zGM {c:Cr} (hc:Sx c):zF Tryz.prog 83 [eC c] (.sl (eSs c.fv)):=by
 have hs:=hc.sz;refine zLP (k:=2) ?_;refine xM (first:=[]) (cap:=[]) (os:=[]) ttok mixed Tryz.func83 rfl (by rfl) (by rfl) (Nat.le_of_ble_eq_true rfl) (Nat.le_of_ble_eq_true rfl) (by kernel_rfl) ?_;refine .inr ⟨rfl,[],[],[0,0,2],_,rfl,List.nodup_nil,rfl,zUQ 600 (by decide) c [] [] hc.n hc.ok hc.few (by omega) (by simp;omega) (by simp;omega),?_⟩;rintro _ _ _ ⟨rfl,rfl,rfl⟩;refine⟨?_,rfl,rfl⟩;show AV.sl (eSs (zC (fun y=>memb y []) [] c.fv))=_;rw[zKV _ (zIK c),List.filter_eq_self.2 (fun y _=>by simp[memb])]
abbrev zUZ (N:Nat):Prop := ∀(d:Cr) (v:ByteArray) (t:Tp),Sx d->d.sz<=N->t.sz<=590->zF Tryz.prog 46 [eC d,str v,eTy t] (eC (stF N d v t))
theorem z4P (N:Nat) (n:Int) (s:ByteArray) (q:Cr) (v:ByteArray) (t:Tp) (hc:Sx (.node 7 n s .no (.kid q .nil))) (hts:t.sz<=590) (hN:(Cr.node 7 n s .no (.kid q .nil)).sz<=N+1) (ih:zUZ N) :
  zF Tryz.prog 46 [eC (.node 7 n s .no (.kid q .nil)),str v,eTy t] (eC (stF (N+1) (.node 7 n s .no (.kid q .nil)) v t)):=by
 have hq:Sx q:=(hc.part (p := .kid 0) rfl).1;have hqz:q.sz<=N:=by have e:(Cr.node 7 n s .no (.kid q .nil)).sz=1+(q.sz+0):=rfl;omega
 have hqs:=hq.sz;have hqt:=Nat.le_trans (z7C q) hq.wt;have htq:=zEM q;have hfl:(fvT t).length<=t.sz:=qU t;have hg:(Cr.kid q .nil).tv=q.tv:=zRB;have hTy:=zIM hq.n hq.ok (by omega) (by omega);have hFr:=zH5 t (by omega);have hFF:=z0B t (by omega);have hH1:=wK (l:=q.tv) (s:=v) (by omega);have hH2:=wK (l:=fvT t) (s:=s) (by omega);have law1:(s=v∨v∉q.tv)->stF (N+1) (.node 7 n s .no (.kid q .nil)) v t = .node 7 n s .no (.kid q .nil):=fun h=>by
  rw[stF,if_pos rfl,hg,if_pos h]
 have law2:¬(s=v∨v∉q.tv)->s∈fvT t->stF (N+1) (.node 7 n s .no (.kid q .nil)) v t = .node 7 n (lett (ff (fvT t++q.tv))) .no (.kid (stF N (stF N q s (.var (lett (ff (fvT t++q.tv))))) v t) .nil):=fun h h2=>by
  rw[stF,if_pos rfl,hg,if_neg h,if_pos h2];rfl
 have law3:¬(s=v∨v∉q.tv)->s∉fvT t->stF (N+1) (.node 7 n s .no (.kid q .nil)) v t = .node 7 n s .no (.kid (stF N q v t) .nil):=fun h h2=>by
  rw[stF,if_pos rfl,hg,if_neg h,if_neg h2];rfl
 have hff:=zQH (fvT t++q.tv);rw[List.length_append] at hff;have hfr:=zJO (fvT t++q.tv) (by rw[List.length_append];omega) (by omega);generalize lett (ff (fvT t++q.tv))=z at hfr law2;have hq2:=hq.st hqz s z;have hq2z:(stF N q s (.var z)).sz=q.sz:=(zFF N q s (.var z) hq.ok).1;have i1:=ih q v t hq hqz hts;have i2:=ih q s (.var z) hq hqz (by simp[Tp.sz]);have i3:=ih (stF N q s (.var z)) v t hq2 (by omega) hts;generalize stF (N+1) (.node 7 n s .no (.kid q .nil)) v t=X at law1 law2 law3;have hfw:=zCA hc.n hc.ok;refine yX ttok mixed Tryz.func46 rfl (by rfl) (Nat.le_of_ble_eq_true rfl) (by kernel_rfl) ?_;refine Wsem.seq ttok mixed ?_;refine Wsem.cut {vs:=[(1,.v (str v)),(3,.box 0 (eC (.node 7 n s .no (.kid q .nil)))),(5,.box 0 (eTy t)),(6,.box 0 eZ)]} ⟨⟨rfl,rfl,rfl,rfl,trivial⟩,trivial,rfl⟩ ?_;refine Wsem.seq ttok mixed ?_;refine .inl ⟨_,hfw,?_⟩;refine⟨fun h=>absurd h (by decide),fun _=>?_⟩;refine Wsem.cut {vs:=[(1,.v (str v)),(3,.box 0 (eC (.node 7 n s .no (.kid q .nil)))),(5,.box 0 (eTy t)),(6,.box 0 eZ)]} ⟨⟨rfl,rfl,rfl,rfl,trivial⟩,trivial,rfl⟩ ?_;refine Wsem.seqS (Wsem.seq ttok mixed ?_);refine Wsem.cond rfl (fun _=>?_) (fun h=>absurd h (by simp[Cr.f]));refine Wsem.seq ttok mixed ?_;refine⟨eC q,by decide,rfl,rfl,?_⟩;refine Wsem.cut {vs:=[(1,.v (str v)),(3,.box 0 (eC (.node 7 n s .no (.kid q .nil)))),(5,.box 0 (eTy t)),(6,.box 0 eZ),(7,.box 0 (eC q))]} ⟨⟨rfl,rfl,rfl,rfl,rfl,trivial⟩,trivial,rfl⟩ ?_;refine Wsem.seqS (Wsem.seq ttok mixed ?_)
 refine⟨fun h1=>?_,fun h1=>?_⟩
 rotate_left
 ·have h1:s=v:=of_decide_eq_true h1;rw[law1 (.inl h1)];refine Wsem.of ttok mixed ?_;exact rfl
 have h1:¬s=v:=of_decide_eq_false h1;refine .inl ⟨_,hTy,?_⟩;refine .inl ⟨_,hH1,?_⟩;refine Wsem.cond rfl (fun h2=>?_) (fun h2=>?_)
 ·have h2:v∉q.tv:=fun hm=>by rw[memb_iff.2 hm] at h2;cases h2
  rw[law1 (.inr h2)];refine Wsem.of ttok mixed ?_;exact rfl
 have h2:v∈q.tv:=by
  cases hm:memb v q.tv with
  | true=>exact memb_iff.1 hm
  | false=>rw[hm] at h2;cases h2
 have hno:¬(s=v∨v∉q.tv):=fun h=>h.elim h1 (fun h=>h h2);refine Wsem.of ttok mixed ?_;refine Wsem.cut {vs:=[(1,.v (str v)),(3,.box 0 (eC (.node 7 n s .no (.kid q .nil)))),(5,.box 0 (eTy t)),(6,.box 0 eZ),(7,.box 0 (eC q))]} ⟨⟨rfl,rfl,rfl,rfl,rfl,trivial⟩,trivial,rfl⟩ ?_;refine Wsem.seqS (Wsem.seq ttok mixed ?_);refine .inl ⟨_,hFr,?_⟩;refine .inl ⟨_,hH2,?_⟩;refine⟨by kernel_rfl,?_⟩;refine Wsem.cond rfl (fun h3=>?_) (fun h3=>?_)
 ·have h3:s∈fvT t:=memb_iff.1 h3;have law2:=law2 hno h3;subst law2;refine Wsem.cut {vs:=[(1,.v (str v)),(3,.box 0 (eC (.node 7 n s .no (.kid q .nil)))),(5,.box 0 (eTy t)),(6,.box 0 eZ),(7,.box 0 (eC q))]} ⟨⟨rfl,rfl,rfl,rfl,rfl,trivial⟩,trivial,rfl⟩ ?_;rw[show eSs (fvT t++q.tv)=eSs (fvT t)++eSs q.tv by simp[eSs]] at hfr;refine Wsem.seqS (Wsem.regionTZ zKF ttok mixed [0,1,2,3,4,5,6] [0,2] (by kernel_rfl) ?_);refine⟨_,_,hFF,?_⟩;refine .inl ⟨_,hTy,?_⟩;refine⟨by show (eSs (fvT t)).length+(eSs q.tv).length<=_;simp[eSs];omega,yP _,yP _,?_⟩;refine .inl ⟨_,hfr,?_⟩;refine⟨by kernel_rfl,?_⟩;refine Wsem.cut {vs:=[(1,.v (str v)),(3,.box 0 (eC (.node 7 n s .no (.kid q .nil)))),(5,.box 0 (eTy t)),(6,.box 0 eZ),(7,.box 0 (eC q)),(8,.v (str z))]} ⟨⟨rfl,rfl,rfl,rfl,rfl,rfl,trivial⟩,trivial,rfl⟩ ?_;refine Wsem.seq ttok mixed ?_;refine .inl ⟨_,i2,?_⟩;refine Wsem.of ttok mixed ?_;refine Wsem.seq ttok mixed ?_;refine .inl ⟨_,i3,?_⟩;refine Wsem.of ttok mixed ?_;exact rfl
 ·have h3:s∉fvT t:=fun hm=>by rw[memb_iff.2 hm] at h3;cases h3
  have law3:=law3 hno h3;subst law3;refine Wsem.of ttok mixed ?_;refine Wsem.seq ttok mixed ?_;refine .inl ⟨_,i1,?_⟩;refine Wsem.of ttok mixed ?_;exact rfl
theorem zZW (N:Nat) (c:Cr) (v:ByteArray) (t:Tp) (hc:Sx c) (h7:¬c.f=7) (hts:t.sz<=590) (hN:c.sz<=N+1) (ih:zUZ N):zF Tryz.prog 46 [eC c,str v,eTy t] (eC (stF (N+1) c v t)):=by
 have hl:=zD3 c hc.ok;have hcs:=hc.sz;obtain⟨φ,hφ⟩:∃φ:Cr->Cr,φ=fun p=>stF N p v t:=⟨_,rfl⟩
 have hpart:∀(p:Pp) (d:Cr),zOA (zA6 c) p=some d->zF Tryz.prog 46 [eC d,str v,eTy t] (eC (φ d)):=fun p d hd=>by
  rw[hφ];exact ih d v t (hc.part hd).1 (by have:=(hc.part hd).2;omega) hts
 have hres:eC (stF (N+1) c v t)=eX c (sub c.t [(v,t)]) (c.kids.map fun p=>eC (φ p)) (c.binds.map fun b=>eBd (b.1,sub b.2.1 [(v,t)],φ b.2.2)) (c.alts.map fun a=>eAl (a.1,a.2.1,φ a.2.2)):=by
  have hn:=hc.n;have ho:=hc.ok;cases c with
  | node f n s ty g =>
   obtain⟨g1,g2⟩:=zN ho;have h7:¬f=7:=h7;rw[stF,if_neg h7];subst hφ;obtain⟨G,hG⟩:∃G,G=yO (fun p=>stF N p v t) (fun u=>sub u [(v,t)]) id (fun vs p=>(vs,stF N p v t)) g:=⟨_,rfl⟩
   have k1:=zCV (φ:=fun p=>stF N p v t) (τ:=fun u=>sub u [(v,t)]) (ν:=id) (α:=fun vs p=>(vs,stF N p v t)) g1 g2;have k2:=qA (φ:=fun p=>stF N p v t) (τ:=fun u=>sub u [(v,t)]) (ν:=id) (α:=fun vs p=>(vs,stF N p v t)) g1 g2;have k3:=zIR (φ:=fun p=>stF N p v t) (τ:=fun u=>sub u [(v,t)]) (ν:=id) (α:=fun vs p=>(vs,stF N p v t)) g1 g2;rw[<-hG] at k1 k2 k3⊢;show AV.agg [_,_,_,_,_,_,_,.sl (G.e3 0),.sl (G.e3 1),.sl (G.e3 2)]=_;rw[zNB,zI4,zKQ,k1,k2,k3,eCs,yK,yY,List.map_map,List.map_map,List.map_map]
   rfl
  | _=>cases hn
 have hbt:∀b∈c.binds,FitX 1190 b.2.1 [(v,t)]:=fun b hb=>zbG (by have:=(zXQ (K:=0) hb).1;have:=hc.wt;omega) hts;have hct:FitX 1190 c.t [(v,t)]:=by
  cases c with
  | node f n s ty g=>exact zbG (by have:=hc.wt;simp only[Cr.wt] at this;show ty.sz<=590;omega) hts
  | _=>have h:=hc.n;cases h
 have hfw:=zCA hc.n hc.ok;rw[hres];refine yX ttok mixed Tryz.func46 rfl (by rfl) (Nat.le_of_ble_eq_true rfl) (by kernel_rfl) ?_;refine Wsem.seq ttok mixed ?_;refine Wsem.cut {vs:=[(1,.v (str v)),(3,.box 0 (eC c)),(5,.box 0 (eTy t)),(6,.box 0 eZ)]} ⟨⟨rfl,rfl,rfl,rfl,trivial⟩,trivial,rfl⟩ ?_;refine Wsem.seq ttok mixed ?_;refine .inl ⟨_,hfw,?_⟩;refine⟨fun h=>absurd h (by decide),fun _=>?_⟩;refine Wsem.cut {vs:=[(1,.v (str v)),(3,.box 0 (eC c)),(5,.box 0 (eTy t)),(6,.box 0 eZ)]} ⟨⟨rfl,rfl,rfl,rfl,trivial⟩,trivial,rfl⟩ ?_;refine Wsem.seqS (Wsem.seq ttok mixed ?_);refine Wsem.cond rfl (fun h=>absurd (of_decide_eq_true h) h7) (fun _=>?_);refine Wsem.of ttok mixed ?_;refine Wsem.cut {vs:=[(1,.v (str v)),(3,.box 0 (eC c)),(5,.box 0 (eTy t)),(6,.box 0 eZ)]} ⟨⟨rfl,rfl,rfl,rfl,trivial⟩,trivial,rfl⟩ ?_;refine Wsem.seq ttok mixed ?_;refine .inl ⟨_,zPR hct,?_⟩;obtain⟨u,hu⟩:∃u,u=sub c.t [(v,t)]:=⟨_,rfl⟩
 rw[<-hu];refine Wsem.cut {vs:=[(1,.v (str v)),(3,.box 0 (eX c u (c.e3 0) (c.e3 1) (c.e3 2))),(5,.box 0 (eTy t)),(6,.box 0 eZ)]} ⟨⟨rfl,rfl,rfl,rfl,trivial⟩,trivial,rfl⟩ ?_;refine Wsem.seq ttok mixed ?_;refine Wsem.seq ttok mixed ?_;refine⟨{k:Nat // k<=c.kids.length},fun k=>{vs:=[(1,.v (str v)),(3,.box 0 (eX c u (c.e3 0) (c.e3 1) (c.e3 2))),(5,.box 0 (eTy t)),(6,.box 0 eZ),(9,.v (.sl ((c.kids.take k.1).map fun p=>eC (φ p)))),(10,sv (k.1:Nat))],ow:=[(9,0,11)]},
  fun k=>c.kids.length-k.1,⟨0,Nat.zero_le _⟩,⟨⟨rfl,rfl,rfl,rfl,rfl,rfl,trivial⟩,⟨trivial,trivial⟩,rfl⟩,?_⟩
 rintro⟨k,hk⟩;refine⟨fun h=>?_,fun h=>?_⟩
 ·have h:k<c.kids.length:=by have h:=of_decide_eq_true h;rw[zFU] at h;simp only at h;omega
  refine⟨_,by omega,zJ6 h,rfl,?_⟩;refine .inl ⟨_,hpart (.kid k) c.kids[k] (List.getElem?_eq_getElem h),?_⟩;refine⟨by simp;omega,fun a ha=>by obtain⟨x,_,rfl⟩:=List.mem_map.1 ha;rfl,jF rfl,?_⟩;refine⟨by kernel_rfl,?_⟩;refine⟨⟨k+1,h⟩,by simp;omega,⟨rfl,rfl,rfl,rfl,?_,svc (wrap_succ (k:=k) (by omega)),trivial⟩,⟨rfl,trivial⟩,rfl⟩;exact congrArg (fun l=>SV.v (AV.sl l)) (zF2 (f:=fun p=>eC (φ p)) h).symm
 have h:k=c.kids.length:=by have h:=of_decide_eq_false h;rw[zFU] at h;simp only at h;omega
 subst h;refine Wsem.cut {vs:=[(1,.v (str v)),(3,.box 0 (eX c u (c.e3 0) (c.e3 1) (c.e3 2))),(5,.box 0 (eTy t)),(6,.box 0 eZ),(9,.v (.sl (c.kids.map fun p=>eC (φ p))))]} ⟨⟨rfl,rfl,rfl,rfl,by rw[List.take_length];rfl,trivial⟩,trivial,rfl⟩ ?_;refine Wsem.seq ttok mixed ?_;refine Wsem.seq ttok mixed ?_;refine Wsem.seq ttok mixed ?_;generalize hK:(c.kids.map fun p=>eC (φ p))=K;refine⟨{k:Nat // k<=c.binds.length},fun k=>{vs:=[(1,.v (str v)),(3,.box 0 (eX c u K (c.e3 1) (c.e3 2))),(5,.box 0 (eTy t)),(6,.box 0 eZ),(11,.v (.sl ((c.binds.take k.1).map fun b=>eBd (b.1,sub b.2.1 [(v,t)],φ b.2.2)))),(12,sv (k.1:Nat))],ow:=[(11,0,16)]},
  fun k=>c.binds.length-k.1,⟨0,Nat.zero_le _⟩,⟨⟨rfl,rfl,rfl,rfl,rfl,rfl,trivial⟩,⟨trivial,trivial⟩,rfl⟩,?_⟩
 rintro⟨k,hk⟩;refine⟨fun h=>?_,fun h=>?_⟩
 ·have h:k<c.binds.length:=by have h:=of_decide_eq_true h;rw[zNP] at h;simp only at h;omega
  have hb1:=hbt _ (List.getElem_mem h);have hp1:=hpart (.bind k) c.binds[k].2.2 (by show (c.binds[k]?).map (·.2.2)=_;rw[List.getElem?_eq_getElem h];rfl);have hg1:=zNH h;have htk:=zF2 (f:=fun b:Bdg=>eBd (b.1,sub b.2.1 [(v,t)],φ b.2.2)) h;generalize c.binds[k]=d at hb1 hp1 hg1 htk;refine⟨_,by omega,hg1,rfl,?_⟩;refine .inl ⟨_,zPR hb1,?_⟩;refine .inl ⟨_,hp1,?_⟩;refine⟨by simp;omega,fun a ha=>by obtain⟨x,_,rfl⟩:=List.mem_map.1 ha;rfl,jF rfl,?_⟩;refine⟨by kernel_rfl,?_⟩;refine⟨⟨k+1,h⟩,by simp;omega,⟨rfl,rfl,rfl,rfl,?_,svc (wrap_succ (k:=k) (by omega)),trivial⟩,⟨rfl,trivial⟩,rfl⟩;exact congrArg (fun l=>SV.v (AV.sl l)) htk.symm
 have h:k=c.binds.length:=by have h:=of_decide_eq_false h;rw[zNP] at h;simp only at h;omega
 subst h;refine Wsem.cut {vs:=[(1,.v (str v)),(3,.box 0 (eX c u K (c.e3 1) (c.e3 2))),(5,.box 0 (eTy t)),(6,.box 0 eZ),(11,.v (.sl (c.binds.map fun b=>eBd (b.1,sub b.2.1 [(v,t)],φ b.2.2))))]} ⟨⟨rfl,rfl,rfl,rfl,by rw[List.take_length];rfl,trivial⟩,trivial,rfl⟩ ?_;refine Wsem.seq ttok mixed ?_;refine Wsem.seq ttok mixed ?_;refine Wsem.seq ttok mixed ?_;generalize hB:(c.binds.map fun b=>eBd (b.1,sub b.2.1 [(v,t)],φ b.2.2))=B;refine⟨{k:Nat // k<=c.alts.length},fun k=>{vs:=[(1,.v (str v)),(3,.box 0 (eX c u K B (c.e3 2))),(5,.box 0 (eTy t)),(6,.box 0 eZ),(14,.v (.sl ((c.alts.take k.1).map fun a=>eAl (a.1,a.2.1,φ a.2.2)))),(15,sv (k.1:Nat))],ow:=[(14,0,15)]},
  fun k=>c.alts.length-k.1,⟨0,Nat.zero_le _⟩,⟨⟨rfl,rfl,rfl,rfl,rfl,rfl,trivial⟩,⟨trivial,trivial⟩,rfl⟩,?_⟩
 rintro⟨k,hk⟩;refine⟨fun h=>?_,fun h=>?_⟩
 ·have h:k<c.alts.length:=by have h:=of_decide_eq_true h;rw[zSO] at h;simp only at h;omega
  have hp1:=hpart (.alt k) c.alts[k].2.2 (by show (c.alts[k]?).map (·.2.2)=_;rw[List.getElem?_eq_getElem h];rfl);have hg1:=zO5 h;have htk:=zF2 (f:=fun a:Alg=>eAl (a.1,a.2.1,φ a.2.2)) h;generalize c.alts[k]=d at hp1 hg1 htk;refine⟨_,by omega,hg1,rfl,?_⟩;refine .inl ⟨_,hp1,?_⟩;refine⟨by simp;omega,fun a ha=>by obtain⟨x,_,rfl⟩:=List.mem_map.1 ha;rfl,jF rfl,?_⟩;refine⟨⟨k+1,h⟩,by simp;omega,⟨rfl,rfl,rfl,rfl,?_,svc (wrap_succ (k:=k) (by omega)),trivial⟩,⟨rfl,trivial⟩,rfl⟩;exact congrArg (fun l=>SV.v (AV.sl l)) htk.symm
 have h:k=c.alts.length:=by have h:=of_decide_eq_false h;rw[zSO] at h;simp only at h;omega
 subst h;refine Wsem.cut {vs:=[(3,.box 0 (eX c u K B (c.e3 2))),(6,.box 0 eZ),(14,.v (.sl (c.alts.map fun a=>eAl (a.1,a.2.1,φ a.2.2))))]} ⟨⟨rfl,rfl,by rw[List.take_length];rfl,trivial⟩,trivial,rfl⟩ ?_;refine Wsem.of ttok mixed ?_;exact rfl
theorem zYP (N:Nat):zUZ N:=by
 induction N with
 | zero=>intro d v t hd hs;have:=zAY hd.n;omega
 | succ N ih =>
  intro d v t hd hs hts;by_cases h7:d.f=7
  ·obtain⟨n,s,q,rfl⟩:=zeM hd.ok hd.n h7;exact z4P N n s q v t hd hts hs ih
  ·exact zZW N d v t hd h7 hts hs ih
abbrev zIG (N:Nat):Prop := ∀(d:Cr) (y:ByteArray) (b:Cr),Sx d->d.sz<=N->Sx b->zF Tryz.prog 45 [eC d,str y,eC b] (eC (sbF N d y b))
structure GvIX (N:Nat) (ns:List ByteArray) (ps:List Cr) (far tk0:List ByteArray) (x:Nat×List ByteArray×List Cr×List ByteArray):Prop where
 le:x.1<=ns.length
 tk:x.2.1.length<=tk0.length+x.1
 len:x.2.2.1.length=ps.length
 sm:∀q∈x.2.2.1,Sx q/\q.sz<=N
 out:x.2.2.2++outs far (ns.drop x.1) x.2.1=outs far ns tk0
 dn:x.2.2.2.length=x.1
 bod:x.2.2.1.map (zFR N (rens far (ns.drop x.1) x.2.1))=ps.map (zFR N (rens far ns tk0))
theorem GvIX.stay {N:Nat} {ns:List ByteArray} {ps:List Cr} {far tk0:List ByteArray} {k:Nat} {tk:List ByteArray} {qs:List Cr} {dn:List ByteArray} (h:GvIX N ns ps far tk0 (k,tk,qs,dn)) (hk:k<ns.length) (hf:ns[k]∉far) :
  GvIX N ns ps far tk0 (k+1,tk,qs,dn++[ns[k]]):=by
 obtain⟨a1,a2,a3,a4,a5,a6,a7⟩:=h;simp only at a1 a2 a3 a4 a5 a6 a7;rw[List.drop_eq_getElem_cons hk] at a5 a7;simp only[outs,rens] at a5 a7;rw[if_neg hf] at a5 a7;exact⟨hk,by simp only;omega,a3,a4,by rw[<-a5];simp,by simp[a6],a7⟩
theorem GvIX.new {N:Nat} {ns:List ByteArray} {ps:List Cr} {far tk0:List ByteArray} {k:Nat} {tk:List ByteArray} {qs:List Cr} {dn:List ByteArray} (h:GvIX N ns ps far tk0 (k,tk,qs,dn)) (hk:k<ns.length) (hf:ns[k]∈far) :
  GvIX N ns ps far tk0 (k+1,tk++[lett (ff tk)],qs.map (fun q=>sbF N q ns[k] (vr (lett (ff tk)))),dn++[lett (ff tk)]):=by
 obtain⟨a1,a2,a3,a4,a5,a6,a7⟩:=h;simp only at a1 a2 a3 a4 a5 a6 a7;rw[List.drop_eq_getElem_cons hk] at a5 a7;simp only[outs,rens] at a5 a7;rw[if_pos hf] at a5 a7;refine⟨hk,by simp only[List.length_append,List.length_cons,List.length_nil];omega,by simp[a3],fun q hq=>?_,by rw[<-a5];simp,by simp[a6],?_⟩
 ·obtain⟨p,hp,rfl⟩:=List.mem_map.1 hq;have h1:=(a4 p hp).1.sb (a4 p hp).2 ns[k] (lett (ff tk));exact⟨h1.1,by rw[h1.2];exact (a4 p hp).2⟩
 ·rw[<-a7,List.map_map]
  rfl
theorem zJX (N:Nat) (ih:zIG N) (ns:List ByteArray) (ps:List Cr) (s:ByteArray) (b:Cr) (hnl:ns.length<=591) (hpl:ps.length<=591) (hps:∀p∈ps,Sx p/\p.sz<=N) (hfl:(ps.flatMap Cr.fv).length<=590) (hb:Sx b) :
  zF Tryz.prog 82 [.sl (eSs ns),.sl (eCs ps),str s,eC b] (.tup [.sl (eSs (gvn N ns ps s b).1),.sl (eCs (gvn N ns ps s b).2)]):=by
 have hbl:=zCN b;have hbs:=hb.sz;obtain⟨X,hX⟩:∃X,X=gvn N ns ps s b:=⟨_,rfl⟩
 rw[<-hX];unfold gvn at hX;refine yX ttok mixed Tryz.func82 rfl (by rfl) (Nat.le_of_ble_eq_true rfl) (by kernel_rfl) ?_;refine Wsem.seq ttok mixed ?_;refine Wsem.seq ttok mixed ?_;refine Wsem.seq ttok mixed ?_;refine Wsem.seqS (Wsem.seq ttok mixed ?_);refine Wsem.of ttok mixed ?_;refine⟨{k:Nat // k<=ps.length},fun k=>{vs:=[(0,.v (.sl (eSs ns))),(1,.v (.sl (eCs ps))),(2,.v (str s)),(7,.box 0 (eC b)),(8,.v (.sl [])),(9,.v (.sl [])),(10,.v (.sl (eSs ((ps.take k.1).flatMap Cr.fv)))),(11,.v (.sb (memb s ((ps.take k.1).flatMap Cr.fv)))),(12,sv (k.1:Nat))],ow:=[(10,0,2)]},
  fun k=>ps.length-k.1,⟨0,Nat.zero_le _⟩,⟨⟨rfl,rfl,rfl,rfl,rfl,rfl,rfl,rfl,rfl,trivial⟩,⟨trivial,trivial⟩,rfl⟩,?_⟩
 rintro⟨k,hk⟩;refine⟨fun h=>?_,fun h=>?_⟩
 ·have h:k<ps.length:=by have h:=of_decide_eq_true h;simp only[eCs,List.length_map] at h;omega
  have hp:=hps _ (List.getElem_mem h);have hw1:=zUD ps k;have hw2:=zUD ps (k+1);have e10:eSs ((ps.take k).flatMap Cr.fv)++eSs ps[k].fv=eSs ((ps.take (k+1)).flatMap Cr.fv):=by rw[zNK h];simp[eSs]
  have e11:memb s ((ps.take (k+1)).flatMap Cr.fv)=(memb s ((ps.take k).flatMap Cr.fv) || memb s ps[k].fv):=by rw[zNK h,z6D]
  have hfk:=zCN ps[k];have hsk:=hp.1.sz;refine⟨_,by omega,z0C h,rfl,?_⟩;refine .inl ⟨_,zGM hp.1,?_⟩;refine⟨by simp only[eSs,List.length_map];omega,yP _,yP _,?_⟩;refine⟨fun h2=>?_,fun h2=>?_⟩
  ·refine .inl ⟨_,wK (l:=ps[k].fv) (s:=s) (by omega),?_⟩;refine⟨⟨k+1,h⟩,by simp;omega,⟨rfl,rfl,rfl,rfl,rfl,rfl,congrArg (fun l=>SV.v (AV.sl l)) e10,?_,svc (wrap_succ (k:=k) (by omega)),trivial⟩,⟨rfl,trivial⟩,rfl⟩;have h2:memb s ((ps.take k).flatMap Cr.fv)=false:=by simpa using h2
   rw[e11,h2];rfl
  ·refine⟨⟨k+1,h⟩,by simp;omega,⟨rfl,rfl,rfl,rfl,rfl,rfl,congrArg (fun l=>SV.v (AV.sl l)) e10,?_,svc (wrap_succ (k:=k) (by omega)),trivial⟩,⟨rfl,trivial⟩,rfl⟩;have h2:memb s ((ps.take k).flatMap Cr.fv)=true:=by simpa using h2
   rw[e11,h2];rfl
 have h:k=ps.length:=by have h:=of_decide_eq_false h;simp only[eCs,List.length_map] at h;omega
 subst h;refine Wsem.cut {vs:=[(0,.v (.sl (eSs ns))),(1,.v (.sl (eCs ps))),(2,.v (str s)),(7,.box 0 (eC b)),(8,.v (.sl [])),(9,.v (.sl [])),(10,.v (.sl (eSs (ps.flatMap Cr.fv)))),(11,.v (.sb (memb s (ps.flatMap Cr.fv))))],ow:=[(10,0,2)]} ⟨⟨rfl,rfl,rfl,rfl,rfl,rfl,by rw[List.take_length];rfl,by rw[List.take_length];rfl,trivial⟩,⟨rfl,trivial⟩,rfl⟩ ?_;obtain⟨fr,hfr⟩:∃l,l=ps.flatMap Cr.fv:=⟨_,rfl⟩
 rw[<-hfr] at hfl hX⊢;have key:s∈fr->s∉ns->Wsem Tryz.prog (zCS (zCS (zCS (zCS (zCS (bodyC Tryz.f82)))))) (mkC {vs:=[(0,.v (.sl (eSs ns))),(1,.v (.sl (eCs ps))),(2,.v (str s)),(7,.box 0 (eC b)),(8,.v (.sl [])),(9,.v (.sl [])),(10,.v (.sl (eSs fr)))],ow:=[(10,0,2)]})
   (fun c=>zOG tt Tryz.f82.results.toList (.tup [.sl (eSs X.1),.sl (eCs X.2)]) (den c)) (fun _ _=>False) (fun c=>zOG tt Tryz.f82.results.toList (.tup [.sl (eSs X.1),.sl (eCs X.2)]) (den c)):=by
  intro hs1 hs2;rw[if_pos ⟨hs1,hs2⟩] at hX;subst hX;obtain⟨tk0,htk⟩:∃l,l=fr++b.fv++ns:=⟨_,rfl⟩
  rw[<-htk];have htl:tk0.length<=590+590+591:=by rw[htk];simp only[List.length_append];omega
  refine Wsem.seq ttok mixed ?_;refine .inl ⟨_,zGM hb,?_⟩;refine Wsem.seq ttok mixed ?_;refine⟨by rw[zB5,zB5];omega,yP _,yP _,?_⟩;refine Wsem.seq ttok mixed ?_;refine⟨by rw[List.length_append,zB5,zB5,zB5];omega,fun a ha=>by rcases List.mem_append.1 ha with h|h<;>exact yP _ _ h,yP _,?_⟩;refine Wsem.cut {vs:=[(0,.v (.sl (eSs ns))),(1,.v (.sl (eCs ps))),(2,.v (str s)),(7,.box 0 (eC b)),(8,.v (.sl [])),(9,.v (.sl [])),(10,.v (.sl (eSs tk0))),(14,.v (.sl (eSs b.fv)))],ow:=[(10,0,2)]} ⟨⟨rfl,rfl,rfl,rfl,rfl,rfl,by rw[htk];exact congrArg (fun l=>SV.v (AV.sl l)) (by simp[eSs]),rfl,trivial⟩,⟨rfl,trivial⟩,rfl⟩ ?_;refine Wsem.seq ttok mixed ?_;refine Wsem.seq ttok mixed ?_;refine⟨{x:Nat×List ByteArray×List Cr×List ByteArray // GvIX N ns ps b.fv tk0 x},fun x=>{vs:=[(0,.v (.sl (eSs ns))),(1,.v (.sl (eCs x.1.2.2.1))),(2,.v (str s)),(7,.box 0 (eC b)),(8,.v (.sl [])),(9,.v (.sl [])),(10,.v (.sl (eSs x.1.2.1))),(14,.v (.sl (eSs b.fv))),(15,.v (.sl (eSs x.1.2.2.2))),(16,sv (x.1.1:Nat))],ow:=[(10,0,2),(15,0,2)]},
   fun x=>ns.length-x.1.1,⟨(0,tk0,ps,[]),⟨Nat.zero_le _,Nat.le_refl _,rfl,hps,rfl,rfl,rfl⟩⟩,⟨⟨rfl,rfl,rfl,rfl,rfl,rfl,rfl,rfl,rfl,rfl,trivial⟩,⟨rfl,trivial,trivial⟩,rfl⟩,?_⟩
  rintro⟨⟨k,tk,qs,dn⟩,inv⟩;have hk:k<=ns.length:=inv.le;have hql:qs.length=ps.length:=inv.len;have htkl:tk.length<=tk0.length+k:=inv.tk;have hdl:dn.length=k:=inv.dn;refine⟨fun h=>?_,fun h=>?_⟩
  ·have h:k<ns.length:=by have h:=of_decide_eq_true h;rw[zB5] at h;simp only at h;omega
   refine⟨_,by omega,zEK h,rfl,?_⟩;refine .inl ⟨_,wK (l:=b.fv) (s:=ns[k]) (by omega),?_⟩;refine⟨fun h3=>?_,fun h3=>?_⟩
   ·have h3:ns[k]∉b.fv:=fun hm=>by rw[memb_iff.2 hm] at h3;cases h3
    refine⟨_,by omega,zEK h,rfl,?_⟩;refine⟨by rw[zB5];simp only[List.length_cons,List.length_nil];omega,yP _,jF rfl,?_⟩;refine⟨⟨(k+1,tk,qs,dn++[ns[k]]),inv.stay h h3⟩,by simp;omega,⟨rfl,rfl,rfl,rfl,rfl,rfl,rfl,rfl,?_,svc (wrap_succ (k:=k) (by omega)),trivial⟩,⟨rfl,rfl,trivial⟩,rfl⟩;exact congrArg (fun l=>SV.v (AV.sl l)) (by simp[eSs];rfl)
   have h3:ns[k]∈b.fv:=by
    cases hm:memb ns[k] b.fv with
    | true=>exact memb_iff.1 hm
    | false=>rw[hm] at h3;cases h3
   have inv2:=inv.new h h3;have hff:=zQH tk;refine .inl ⟨_,zJO tk (by omega) (by omega),?_⟩;generalize lett (ff tk)=z at inv2;refine⟨by rw[zB5];simp only[List.length_cons,List.length_nil];omega,yP _,jF rfl,?_⟩;refine⟨by rw[zB5];simp only[List.length_cons,List.length_nil];omega,yP _,jF rfl,?_⟩;refine⟨{j:Nat // j<=qs.length},fun j=>{vs:=[(0,.v (.sl (eSs ns))),(1,.v (.sl (eCs qs))),(2,.v (str s)),(7,.box 0 (eC b)),(8,.v (.sl [])),(9,.v (.sl [])),(10,.v (.sl (eSs (tk++[z])))),(14,.v (.sl (eSs b.fv))),(15,.v (.sl (eSs (dn++[z])))),(16,sv (k:Nat)),(17,.v (str z)),(18,.v (.sl ((qs.take j.1).map fun q=>eC (sbF N q ns[k] (vr z))))),(19,sv (j.1:Nat))],ow:=[(10,0,2),(15,0,2),(18,0,11)]},
    fun j=>qs.length-j.1,⟨0,Nat.zero_le _⟩,⟨⟨rfl,rfl,rfl,rfl,rfl,rfl,congrArg (fun l=>SV.v (AV.sl l)) (by simp[eSs];rfl),rfl,congrArg (fun l=>SV.v (AV.sl l)) (by simp[eSs];rfl),rfl,rfl,rfl,rfl,trivial⟩,⟨rfl,rfl,trivial,trivial⟩,rfl⟩,?_⟩
   rintro⟨j,hj⟩;refine⟨fun h4=>?_,fun h4=>?_⟩
   ·have h4:j<qs.length:=by have h4:=of_decide_eq_true h4;simp only[eCs,List.length_map] at h4;omega
    have hq:=inv.sm _ (List.getElem_mem h4);refine⟨_,by omega,z0C h4,rfl,?_⟩;refine⟨_,by omega,zEK h,rfl,?_⟩;refine .inl ⟨_,z99 z,?_⟩;refine .inl ⟨_,ih qs[j] ns[k] (vr z) hq.1 hq.2 (zbN z),?_⟩;refine⟨by simp;omega,fun a ha=>by obtain⟨x,_,rfl⟩:=List.mem_map.1 ha;rfl,jF rfl,?_⟩;refine⟨by kernel_rfl,?_⟩;refine⟨⟨j+1,h4⟩,by simp;omega,⟨rfl,rfl,rfl,rfl,rfl,rfl,rfl,rfl,rfl,rfl,rfl,?_,svc (wrap_succ (k:=j) (by omega)),trivial⟩,⟨rfl,rfl,rfl,trivial⟩,rfl⟩;exact congrArg (fun l=>SV.v (AV.sl l)) (zF2 (f:=fun q=>eC (sbF N q ns[k] (vr z))) h4).symm
   have h4:j=qs.length:=by have h4:=of_decide_eq_false h4;simp only[eCs,List.length_map] at h4;omega
   subst h4;refine⟨⟨_,inv2⟩,by simp;omega,⟨rfl,?_,rfl,rfl,rfl,rfl,rfl,rfl,rfl,svc (wrap_succ (k:=k) (by omega)),trivial⟩,⟨rfl,rfl,trivial⟩,rfl⟩;show SV.v (AV.sl _)=SV.v (AV.sl (eCs (qs.map _)));rw[List.take_length,eCs,List.map_map];rfl
  have h:k=ns.length:=by have h:=of_decide_eq_false h;rw[zB5] at h;simp only at h;omega
  subst h;have hout:=inv.out;have hbod:=inv.bod;have hsm:=inv.sm;simp only[List.drop_length,outs,rens,List.append_nil] at hout hbod hsm;have hbod:qs=ps.map (zFR N (rens b.fv ns tk0)):=by rw[<-hbod];exact (List.map_id' qs).symm
  rw[<-hout];have hres:(ps.map fun p=>sbF N (zFR N (rens b.fv ns tk0) p) s b)=qs.map fun q=>sbF N q s b:=by rw[hbod,List.map_map];rfl
  rw[hres];refine Wsem.cut {vs:=[(1,.v (.sl (eCs qs))),(2,.v (str s)),(7,.box 0 (eC b)),(8,.v (.sl [])),(9,.v (.sl [])),(15,.v (.sl (eSs dn)))],ow:=[]} ⟨⟨rfl,rfl,rfl,rfl,rfl,rfl,trivial⟩,trivial,rfl⟩ ?_;refine Wsem.seq ttok mixed ?_;refine Wsem.seq ttok mixed ?_;refine⟨{j:Nat // j<=qs.length},fun j=>{vs:=[(1,.v (.sl (eCs qs))),(2,.v (str s)),(7,.box 0 (eC b)),(8,.v (.sl [])),(9,.v (.sl [])),(15,.v (.sl (eSs dn))),(20,.v (.sl ((qs.take j.1).map fun q=>eC (sbF N q s b)))),(21,sv (j.1:Nat))],ow:=[(20,0,11)]},
   fun j=>qs.length-j.1,⟨0,Nat.zero_le _⟩,⟨⟨rfl,rfl,rfl,rfl,rfl,rfl,rfl,rfl,trivial⟩,⟨trivial,trivial⟩,rfl⟩,?_⟩
  rintro⟨j,hj⟩;refine⟨fun h4=>?_,fun h4=>?_⟩
  ·have h4:j<qs.length:=by have h4:=of_decide_eq_true h4;simp only[eCs,List.length_map] at h4;omega
   have hq:=hsm _ (List.getElem_mem h4);refine⟨_,by omega,z0C h4,rfl,?_⟩;refine .inl ⟨_,ih qs[j] s b hq.1 hq.2 hb,?_⟩;refine⟨by simp;omega,fun a ha=>by obtain⟨x,_,rfl⟩:=List.mem_map.1 ha;rfl,jF rfl,?_⟩;refine⟨by kernel_rfl,?_⟩;refine⟨⟨j+1,h4⟩,by simp;omega,⟨rfl,rfl,rfl,rfl,rfl,rfl,?_,svc (wrap_succ (k:=j) (by omega)),trivial⟩,⟨rfl,trivial⟩,rfl⟩;exact congrArg (fun l=>SV.v (AV.sl l)) (zF2 (f:=fun q=>eC (sbF N q s b)) h4).symm
  have h4:j=qs.length:=by have h4:=of_decide_eq_false h4;simp only[eCs,List.length_map] at h4;omega
  subst h4;refine Wsem.of ttok mixed ?_;rw[List.take_length];show _=AV.tup [.sl (eSs dn),.sl (eCs (qs.map fun q=>sbF N q s b))];rw[eCs,List.map_map];exact rfl
 refine Wsem.seqS (Wsem.seq ttok mixed ?_);refine⟨fun h2=>?_,fun h2=>?_⟩
 ·have h2:s∈fr:=by
   cases hm:memb s fr with
   | true=>exact memb_iff.1 hm
   | false=>rw[hm] at h2;cases h2
  refine .inl ⟨_,wK (l:=ns) (s:=s) (by omega),?_⟩;refine Wsem.cond rfl (fun h3=>?_) (fun h3=>?_)
  ·have h3:s∈ns:=memb_iff.1 h3;rw[if_neg fun h=>h.2 h3] at hX;subst hX;refine Wsem.of ttok mixed ?_;exact rfl
  ·have h3:s∉ns:=fun hm=>by rw[memb_iff.2 hm] at h3;cases h3
   refine Wsem.of ttok mixed ?_;refine Wsem.cut _ ?_ (key h2 h3);exact⟨⟨rfl,rfl,rfl,rfl,rfl,rfl,rfl,trivial⟩,⟨rfl,trivial⟩,rfl⟩
 ·have h2:s∉fr:=fun hm=>by rw[memb_iff.2 hm] at h2;cases h2
  rw[if_neg fun h=>h2 h.1] at hX;subst hX;refine Wsem.of ttok mixed ?_;exact rfl
theorem z2B (N:Nat) (n:Int) (s:ByteArray) (t:Tp) (g:Cr) (x:ByteArray) (b:Cr) (hc:Sx (.node 1 n s t g)) (hb:Sx b):zF Tryz.prog 45 [eC (.node 1 n s t g),str x,eC b] (eC (sbF (N+1) (.node 1 n s t g) x b)):=by
 have hfw:=zCA hc.n hc.ok;have law1:s=x->sbF (N+1) (.node 1 n s t g) x b=b:=fun h=>by rw[sbF,if_pos rfl,if_pos h]
 have law2:¬s=x->sbF (N+1) (.node 1 n s t g) x b = .node 1 n s t g:=fun h=>by rw[sbF,if_pos rfl,if_neg h]
 generalize sbF (N+1) (.node 1 n s t g) x b=X at law1 law2;refine yX ttok mixed Tryz.func45 rfl (by rfl) (Nat.le_of_ble_eq_true rfl) (by kernel_rfl) ?_;refine Wsem.seq ttok mixed ?_;refine Wsem.cut {vs:=[(1,.v (str x)),(3,.box 0 (eC (.node 1 n s t g))),(5,.box 0 (eC b)),(6,.box 0 eZ)]} ⟨⟨rfl,rfl,rfl,rfl,trivial⟩,trivial,rfl⟩ ?_;refine Wsem.seq ttok mixed ?_;refine .inl ⟨_,hfw,?_⟩;refine⟨fun h=>absurd h (by decide),fun _=>?_⟩;refine Wsem.cut {vs:=[(1,.v (str x)),(3,.box 0 (eC (.node 1 n s t g))),(5,.box 0 (eC b)),(6,.box 0 eZ)]} ⟨⟨rfl,rfl,rfl,rfl,trivial⟩,trivial,rfl⟩ ?_;refine Wsem.seqS (Wsem.seq ttok mixed ?_);refine Wsem.block ?_;refine Wsem.seq ttok mixed ?_;refine Wsem.cond rfl (fun _=>?_) (fun h=>absurd h (by simp[Cr.f]));refine Wsem.of ttok mixed ?_;refine⟨fun h=>?_,fun h=>?_⟩
 ·have h:s=x:=of_decide_eq_true h;rw[law1 h];exact rfl
 ·have h:¬s=x:=of_decide_eq_false h;rw[law2 h];exact rfl
theorem zZH (N:Nat) (n:Int) (s:ByteArray) (q:Cr) (x:ByteArray) (b:Cr) (hc:Sx (.node 7 n s .no (.kid q .nil))) (hb:Sx b) (hN:(Cr.node 7 n s .no (.kid q .nil)).sz<=N+1) (ih:zIG N) :
  zF Tryz.prog 45 [eC (.node 7 n s .no (.kid q .nil)),str x,eC b] (eC (sbF (N+1) (.node 7 n s .no (.kid q .nil)) x b)):=by
 have hq:Sx q:=(hc.part (p := .kid 0) rfl).1;have hqz:q.sz<=N:=by have e:(Cr.node 7 n s .no (.kid q .nil)).sz=1+(q.sz+0):=rfl;omega
 have hqs:=hq.sz;have hqt:=Nat.le_trans (z7C q) hq.wt;have htq:=zEM q;have hbt:=Nat.le_trans (z7C b) hb.wt;have htb:=zEM b;have hbs:=hb.sz;have hfw:=zCA hc.n hc.ok;have hFr:=zGM hc;have hfl:=zCN (.node 7 n s .no (.kid q .nil));have hcs:=hc.sz;have hH1:=wK (l:=(Cr.node 7 n s .no (.kid q .nil)).fv) (s:=x) (by omega);have hTb:=zIM hb.n hb.ok (by omega) (by omega);have hTbF:=zMI hb.n hb.ok (by omega) (by omega);have hTq:=zIM hq.n hq.ok (by omega) (by omega);have hH2:=wK (l:=b.tv) (s:=s) (by omega);have law1:x∉(Cr.node 7 n s .no (.kid q .nil)).fv->sbF (N+1) (.node 7 n s .no (.kid q .nil)) x b = .node 7 n s .no (.kid q .nil):=fun h=>zaB (fun h2=>h (fv7.2 h2));have law2:x∈(Cr.node 7 n s .no (.kid q .nil)).fv->s∈b.tv->sbF (N+1) (.node 7 n s .no (.kid q .nil)) x b = .node 7 n (lett (ff (b.tv++q.tv))) .no (.kid (sbF N (stF N q s (.var (lett (ff (b.tv++q.tv))))) x b) .nil):=fun h h2=>z3Z (fv7.1 h) h2;have law3:x∈(Cr.node 7 n s .no (.kid q .nil)).fv->s∉b.tv->sbF (N+1) (.node 7 n s .no (.kid q .nil)) x b = .node 7 n s .no (.kid (sbF N q x b) .nil):=fun h h2=>z6E (fv7.1 h) h2;have hff:=zQH (b.tv++q.tv);rw[List.length_append] at hff;have hfr:=zJO (b.tv++q.tv) (by rw[List.length_append];omega) (by omega);generalize lett (ff (b.tv++q.tv))=z at hfr law2;have hq2:=hq.st hqz s z;have hq2z:(stF N q s (.var z)).sz=q.sz:=(zFF N q s (.var z) hq.ok).1;have i1:=ih q x b hq hqz hb
 have i2:=zYP N q s (.var z) hq hqz (by simp[Tp.sz]);have i3:=ih (stF N q s (.var z)) x b hq2 (by omega) hb;generalize sbF (N+1) (.node 7 n s .no (.kid q .nil)) x b=X at law1 law2 law3;generalize hV:(Cr.node 7 n s .no (.kid q .nil)).fv=V at *;refine yX ttok mixed Tryz.func45 rfl (by rfl) (Nat.le_of_ble_eq_true rfl) (by kernel_rfl) ?_;refine Wsem.seq ttok mixed ?_;refine Wsem.cut {vs:=[(1,.v (str x)),(3,.box 0 (eC (.node 7 n s .no (.kid q .nil)))),(5,.box 0 (eC b)),(6,.box 0 eZ)]} ⟨⟨rfl,rfl,rfl,rfl,trivial⟩,trivial,rfl⟩ ?_;refine Wsem.seq ttok mixed ?_;refine .inl ⟨_,hfw,?_⟩;refine⟨fun h=>absurd h (by decide),fun _=>?_⟩;refine Wsem.cut {vs:=[(1,.v (str x)),(3,.box 0 (eC (.node 7 n s .no (.kid q .nil)))),(5,.box 0 (eC b)),(6,.box 0 eZ)]} ⟨⟨rfl,rfl,rfl,rfl,trivial⟩,trivial,rfl⟩ ?_;refine Wsem.seqS (Wsem.seq ttok mixed ?_);refine Wsem.block ?_;refine Wsem.seq ttok mixed ?_;refine Wsem.cond rfl (fun h=>absurd h (by simp[Cr.f])) (fun _=>?_);refine Wsem.seq ttok mixed ?_;refine Wsem.cond rfl (fun h=>absurd h (by simp[Cr.f])) (fun _=>?_);refine Wsem.seq ttok mixed ?_;refine Wsem.cond rfl (fun _=>?_) (fun h=>absurd h (by simp[Cr.f]));refine Wsem.seqS (Wsem.seq ttok mixed ?_);refine .inl ⟨_,hFr,?_⟩;refine .inl ⟨_,hH1,?_⟩;refine Wsem.cond rfl (fun h2=>?_) (fun h2=>?_)
 ·have h2:x∉V:=fun hm=>by rw[memb_iff.2 hm] at h2;cases h2
  rw[law1 h2];refine Wsem.of ttok mixed ?_;exact rfl
 have h2:x∈V:=by
  cases hm:memb x V with
  | true=>exact memb_iff.1 hm
  | false=>rw[hm] at h2;cases h2
 refine Wsem.of ttok mixed ?_;refine Wsem.seq ttok mixed ?_;refine⟨eC q,by decide,rfl,rfl,?_⟩;refine Wsem.cut {vs:=[(1,.v (str x)),(3,.box 0 (eC (.node 7 n s .no (.kid q .nil)))),(5,.box 0 (eC b)),(6,.box 0 eZ),(9,.box 0 (eC q))]} ⟨⟨rfl,rfl,rfl,rfl,rfl,trivial⟩,trivial,rfl⟩ ?_;refine Wsem.seqS (Wsem.seq ttok mixed ?_);refine .inl ⟨_,hTb,?_⟩;refine .inl ⟨_,hH2,?_⟩;refine⟨by kernel_rfl,?_⟩;refine Wsem.cond rfl (fun h3=>?_) (fun h3=>?_)
 ·have h3:s∈b.tv:=memb_iff.1 h3;have law2:=law2 h2 h3;subst law2;refine Wsem.cut {vs:=[(1,.v (str x)),(3,.box 0 (eC (.node 7 n s .no (.kid q .nil)))),(5,.box 0 (eC b)),(6,.box 0 eZ),(9,.box 0 (eC q))]} ⟨⟨rfl,rfl,rfl,rfl,rfl,trivial⟩,trivial,rfl⟩ ?_;rw[show eSs (b.tv++q.tv)=eSs b.tv++eSs q.tv by simp[eSs]] at hfr;refine Wsem.seqS (Wsem.regionTZ zKF ttok mixed [0,1,2,3,4,5,6] [0,2] (by kernel_rfl) ?_);refine⟨_,_,hTbF,?_⟩;refine .inl ⟨_,hTq,?_⟩;refine⟨by show (eSs b.tv).length+(eSs q.tv).length<=_;simp[eSs];omega,yP _,yP _,?_⟩;refine .inl ⟨_,hfr,?_⟩;refine⟨by kernel_rfl,?_⟩;refine Wsem.cut {vs:=[(1,.v (str x)),(3,.box 0 (eC (.node 7 n s .no (.kid q .nil)))),(5,.box 0 (eC b)),(6,.box 0 eZ),(9,.box 0 (eC q)),(10,.v (str z))]} ⟨⟨rfl,rfl,rfl,rfl,rfl,rfl,trivial⟩,trivial,rfl⟩ ?_;refine Wsem.seq ttok mixed ?_;refine .inl ⟨_,i2,?_⟩;refine Wsem.of ttok mixed ?_;refine Wsem.seq ttok mixed ?_;refine .inl ⟨_,i3,?_⟩;refine Wsem.of ttok mixed ?_;exact rfl
 ·have h3:s∉b.tv:=fun hm=>by rw[memb_iff.2 hm] at h3;cases h3
  have law3:=law3 h2 h3;subst law3;refine Wsem.of ttok mixed ?_;refine Wsem.seq ttok mixed ?_;refine .inl ⟨_,i1,?_⟩;refine Wsem.of ttok mixed ?_;exact rfl
theorem z4C (N:Nat) (n:Int) (s:ByteArray) (t:Tp) (q:Cr) (x:ByteArray) (b:Cr) (hc:Sx (.node 5 n s t (.kid q .nil))) (hb:Sx b) (hN:(Cr.node 5 n s t (.kid q .nil)).sz<=N+1) (ih:zIG N) :
  zF Tryz.prog 45 [eC (.node 5 n s t (.kid q .nil)),str x,eC b] (eC (sbF (N+1) (.node 5 n s t (.kid q .nil)) x b)):=by
 have hq:Sx q:=(hc.part (p := .kid 0) rfl).1;have hqz:q.sz<=N:=by have e:(Cr.node 5 n s t (.kid q .nil)).sz=1+(q.sz+0):=rfl;omega
 have hqs:=hq.sz;have hql:=zCN q;have hfw:=zCA hc.n hc.ok;have hg:=zJX N ih [s] [q] x b (by simp) (by simp) (fun p hp=>by rcases List.mem_singleton.1 hp with rfl;exact⟨hq,hqz⟩) (by simp;omega) hb;obtain⟨φ,ν,h1,_,h3⟩:=zWU N hc.ok (by decide) (by decide) x b;rw[h3];have h1:gvn N [s] [q] x b=([ν s],[φ q]):=h1;rw[h1] at hg;rw[if_pos rfl];show zF _ _ _ (eC (.node 5 n (ν s) t (.kid (φ q) .nil)));generalize ν s=s' at *;generalize φ q=q' at *;refine yX ttok mixed Tryz.func45 rfl (by rfl) (Nat.le_of_ble_eq_true rfl) (by kernel_rfl) ?_;refine Wsem.seq ttok mixed ?_;refine Wsem.cut {vs:=[(1,.v (str x)),(3,.box 0 (eC (.node 5 n s t (.kid q .nil)))),(5,.box 0 (eC b)),(6,.box 0 eZ)]} ⟨⟨rfl,rfl,rfl,rfl,trivial⟩,trivial,rfl⟩ ?_;refine Wsem.seq ttok mixed ?_;refine .inl ⟨_,hfw,?_⟩;refine⟨fun h=>absurd h (by decide),fun _=>?_⟩;refine Wsem.cut {vs:=[(1,.v (str x)),(3,.box 0 (eC (.node 5 n s t (.kid q .nil)))),(5,.box 0 (eC b)),(6,.box 0 eZ)]} ⟨⟨rfl,rfl,rfl,rfl,trivial⟩,trivial,rfl⟩ ?_;refine Wsem.seqS (Wsem.seq ttok mixed ?_);refine Wsem.block ?_;refine Wsem.seq ttok mixed ?_;refine Wsem.cond rfl (fun h=>absurd h (by simp[Cr.f])) (fun _=>?_);refine Wsem.seq ttok mixed ?_;refine Wsem.cond rfl (fun _=>?_) (fun h=>absurd h (by simp[Cr.f]));refine Wsem.seq ttok mixed ?_;refine .inl ⟨_,hg,?_⟩;refine Wsem.of ttok mixed ?_;refine⟨_,by decide,rfl,rfl,?_⟩;exact rfl
theorem z6I (N:Nat) (n:Int) (s:ByteArray) (t:Tp) (g:Cr) (x:ByteArray) (b:Cr) (hc:Sx (.node 8 n s t g)) (hb:Sx b) (hN:(Cr.node 8 n s t g).sz<=N+1) (ih:zIG N) :
  zF Tryz.prog 45 [eC (.node 8 n s t g),str x,eC b] (eC (sbF (N+1) (.node 8 n s t g) x b)):=by
 obtain⟨hgn,hgo⟩:=zN hc.ok;have hl:=zD3 _ hc.ok;have hcs:=hc.sz;obtain⟨q,hq⟩:=zXY hc.ok (by decide);have hfw:=zCA hc.n hc.ok;obtain⟨φ,ν,h1,_,h3⟩:=zWU N hc.ok (by decide) (by decide) x b;have hnm:(Cr.node 8 n s t g).names0=g.binds.map (·.1):=rfl;have hpp:g.parts0=q::g.binds.map (·.2.2):=by show g.kids++_=_;rw[hq];rfl
 rw[hnm,hpp] at h1;have hsmall:∀p∈q::g.binds.map (·.2.2),Sx p/\p.sz<=N:=fun p hp=>by
  rcases List.mem_cons.1 hp with rfl|hp
  ·have:=hc.part (p := .kid 0) (d:=p) (by show g.kids[0]? = _;rw[hq];rfl);exact⟨this.1,by have:=this.2;omega⟩
  ·obtain⟨d,hd,rfl⟩:=List.mem_map.1 hp;obtain⟨k,hk,rfl⟩:=List.getElem_of_mem hd;have:=hc.part (p := .bind k) (d:=g.binds[k].2.2) (by show (g.binds[k]?).map (·.2.2)=_;rw[List.getElem?_eq_getElem hk];rfl);exact⟨this.1,by have:=this.2;omega⟩
 have hbl:g.binds.length<=590:=by have:g.binds.length=(Cr.node 8 n s t g).binds.length:=rfl;omega
 have hsum:=z1P g;have hsz:(Cr.node 8 n s t g).sz=1+g.sz:=rfl;have hfl:((q::g.binds.map (·.2.2)).flatMap Cr.fv).length<=590:=by
  have e:(q::g.binds.map (·.2.2)).flatMap Cr.fv=g.kids.flatMap Cr.fv++g.binds.flatMap fun b=>b.2.2.fv:=by
   rw[<-hpp];show (g.kids++_).flatMap _=_;rw[List.flatMap_append,List.flatMap_map]
  rw[e,List.length_append];omega
 have hgc:=zJX N ih (g.binds.map (·.1)) (q::g.binds.map (·.2.2)) x b (by simp;omega) (by simp;omega) hsmall hfl hb;rw[h1] at hgc;have ha:g.alts=[]:=by
  cases h:g.alts with
  | nil=>rfl
  | cons a l=>exact absurd (hc.ok.2.2.2.2.2.1 (by rw[h];simp)) (by decide)
 rw[h3,if_neg (by decide),z2A φ ν _ hgn hgo,ha,hq];have ea:(Cr.node 8 n s t g).e3 2=[]:=by rw[zKQ];show yY g.alts=[];rw[ha];rfl
 have hlb:(Cr.node 8 n s t g).binds=g.binds:=rfl;have hlk:(Cr.node 8 n s t g).kids=[q]:=hq;have e0:(Cr.node 8 n s t g).e3 0=[eC q]:=by rw[zNB,hlk];rfl
 have e1:(Cr.node 8 n s t g).e3 1=yK g.binds:=by rw[zI4];rfl
 have eM:eC (Cr.node 8 n s t g) = .agg [.lit (.int .i64 8),.lit (.int .i64 n),.lit (.string s),.lit (.int .i64 t.form),.lit (.int .i64 t.num),.lit (.string t.nam),.sl t.eArgs,.sl [eC q],.sl (yK g.binds),.sl []]:=by
  show AV.agg [_,_,_,_,_,_,_,.sl _,.sl _,.sl _]=_;rw[e0,e1,ea]
  rfl
 rw[eM] at hfw⊢;obtain⟨B,hB⟩:∃B,B=g.binds:=⟨_,rfl⟩
 rw[<-hB] at hgc hbl hfw⊢;refine yX ttok mixed Tryz.func45 rfl (by rfl) (Nat.le_of_ble_eq_true rfl) (by kernel_rfl) ?_;refine Wsem.seq ttok mixed ?_;refine Wsem.cut {vs:=[(1,.v (str x)),(3,.box 0 (.agg [.lit (.int .i64 8),.lit (.int .i64 n),.lit (.string s),.lit (.int .i64 t.form),.lit (.int .i64 t.num),.lit (.string t.nam),.sl t.eArgs,.sl [eC q],.sl (yK B),.sl []])),(5,.box 0 (eC b)),(6,.box 0 eZ)]} ⟨⟨rfl,rfl,rfl,rfl,trivial⟩,trivial,rfl⟩ ?_;refine Wsem.seq ttok mixed ?_;refine .inl ⟨_,hfw,?_⟩;refine⟨fun h=>absurd h (by decide),fun _=>?_⟩;refine Wsem.cut {vs:=[(1,.v (str x)),(3,.box 0 (.agg [.lit (.int .i64 8),.lit (.int .i64 n),.lit (.string s),.lit (.int .i64 t.form),.lit (.int .i64 t.num),.lit (.string t.nam),.sl t.eArgs,.sl [eC q],.sl (yK B),.sl []])),(5,.box 0 (eC b)),(6,.box 0 eZ)]} ⟨⟨rfl,rfl,rfl,rfl,trivial⟩,trivial,rfl⟩ ?_;refine Wsem.seqS (Wsem.seq ttok mixed ?_);refine Wsem.block ?_;refine Wsem.seq ttok mixed ?_;refine Wsem.cond rfl (fun h=>absurd h (by simp)) (fun _=>?_);refine Wsem.seq ttok mixed ?_;refine Wsem.cond rfl (fun h=>absurd h (by simp)) (fun _=>?_);refine Wsem.seq ttok mixed ?_;refine Wsem.cond rfl (fun h=>absurd h (by simp)) (fun _=>?_);refine Wsem.seq ttok mixed ?_;refine Wsem.cond rfl (fun _=>?_) (fun h=>absurd h (by simp));refine Wsem.seq ttok mixed ?_;refine Wsem.seq ttok mixed ?_;refine Wsem.seq ttok mixed ?_;refine⟨eC q,by decide,rfl,rfl,?_⟩;refine⟨by simp,zRQ 10,jF rfl,?_⟩
 refine Wsem.cut {vs:=[(1,.v (str x)),(3,.box 0 (.agg [.lit (.int .i64 8),.lit (.int .i64 n),.lit (.string s),.lit (.int .i64 t.form),.lit (.int .i64 t.num),.lit (.string t.nam),.sl t.eArgs,.sl [eC q],.sl (yK B),.sl []])),(5,.box 0 (eC b)),(6,.box 0 eZ),(11,.v (.sl [])),(12,.v (.sl [eC q]))],ow:=[(11,0,2),(12,0,11)]} ⟨⟨rfl,rfl,rfl,rfl,rfl,rfl,trivial⟩,⟨trivial,rfl,trivial⟩,rfl⟩ ?_;refine Wsem.seq ttok mixed ?_;refine⟨{k:Nat // k<=B.length},fun k=>{vs:=[(1,.v (str x)),(3,.box 0 (.agg [.lit (.int .i64 8),.lit (.int .i64 n),.lit (.string s),.lit (.int .i64 t.form),.lit (.int .i64 t.num),.lit (.string t.nam),.sl t.eArgs,.sl [eC q],.sl (yK B),.sl []])),(5,.box 0 (eC b)),(6,.box 0 eZ),(11,.v (.sl (eSs ((B.take k.1).map (·.1))))),(12,.v (.sl (eC q::(B.take k.1).map fun d=>eC d.2.2))),(13,sv (k.1:Nat))],ow:=[(11,0,2),(12,0,11)]},
  fun k=>B.length-k.1,⟨0,Nat.zero_le _⟩,⟨⟨rfl,rfl,rfl,rfl,rfl,rfl,rfl,trivial⟩,⟨rfl,rfl,trivial⟩,rfl⟩,?_⟩
 rintro⟨k,hk⟩;refine⟨fun h=>?_,fun h=>?_⟩
 ·have h:k<B.length:=by have h:=of_decide_eq_true h;simp only[yK,List.length_map] at h;omega
  have hU:Uni 10 (eC q::(B.take k).map fun d=>eC d.2.2):=fun a ha=>by
   rcases List.mem_cons.1 ha with h1|h1
   ·rw[h1];rfl
   ·obtain⟨x,_,h2⟩:=List.mem_map.1 h1;rw[<-h2];rfl
  refine⟨_,by omega,zF4 h,rfl,?_⟩;refine⟨by rw[zB5];simp only[List.length_map,List.length_take,List.length_cons,List.length_nil];omega,yP _,jF rfl,?_⟩;refine⟨_,by omega,zF4 h,rfl,?_⟩;refine⟨by simp only[List.length_map,List.length_take,List.length_cons,List.length_nil];omega,hU,jF rfl,?_⟩;refine⟨⟨k+1,h⟩,by simp;omega,⟨rfl,rfl,rfl,rfl,?_,?_,svc (wrap_succ (k:=k) (by omega)),trivial⟩,⟨rfl,rfl,trivial⟩,rfl⟩
  ·refine congrArg (fun l=>SV.v (AV.sl l)) ?_;rw[z6T (f:=fun d:Bdg=>d.1) h];simp[eSs]
   rfl
  ·refine congrArg (fun l=>SV.v (AV.sl l)) ?_;rw[zF2 (f:=fun d:Bdg=>eC d.2.2) h]
   rfl
 have h:k=B.length:=by have h:=of_decide_eq_false h;simp only[yK,List.length_map] at h;omega
 subst h;refine Wsem.cut {vs:=[(1,.v (str x)),(3,.box 0 (.agg [.lit (.int .i64 8),.lit (.int .i64 n),.lit (.string s),.lit (.int .i64 t.form),.lit (.int .i64 t.num),.lit (.string t.nam),.sl t.eArgs,.sl [eC q],.sl (yK B),.sl []])),(5,.box 0 (eC b)),(6,.box 0 eZ),(11,.v (.sl (eSs (B.map (·.1))))),(12,.v (.sl (eCs (q::B.map (·.2.2)))))]} ⟨⟨rfl,rfl,rfl,rfl,by rw[List.take_length];rfl,by rw[List.take_length];exact congrArg (fun l=>SV.v (AV.sl l)) (by rw[eCs,List.map_cons,List.map_map];rfl),trivial⟩,trivial,rfl⟩ ?_;refine Wsem.seq ttok mixed ?_;refine .inl ⟨_,hgc,?_⟩;refine Wsem.cut {vs:=[(1,.v (str x)),(3,.box 0 (.agg [.lit (.int .i64 8),.lit (.int .i64 n),.lit (.string s),.lit (.int .i64 t.form),.lit (.int .i64 t.num),.lit (.string t.nam),.sl t.eArgs,.sl [eC q],.sl (yK B),.sl []])),(5,.box 0 (eC b)),(6,.box 0 eZ),(14,.v (.sl (eSs ((B.map (·.1)).map ν)))),(15,.v (.sl (eCs ((q::B.map (·.2.2)).map φ))))]} ⟨⟨rfl,rfl,rfl,rfl,rfl,rfl,trivial⟩,trivial,rfl⟩ ?_;refine Wsem.seq ttok mixed ?_;refine Wsem.seq ttok mixed ?_;refine⟨{k:Nat // k<=B.length},fun k=>{vs:=[(1,.v (str x)),(3,.box 0 (.agg [.lit (.int .i64 8),.lit (.int .i64 n),.lit (.string s),.lit (.int .i64 t.form),.lit (.int .i64 t.num),.lit (.string t.nam),.sl t.eArgs,.sl [eC q],.sl (yK B),.sl []])),(5,.box 0 (eC b)),(6,.box 0 eZ),(14,.v (.sl (eSs ((B.map (·.1)).map ν)))),(15,.v (.sl (eCs ((q::B.map (·.2.2)).map φ)))),(16,.v (.sl ((B.take k.1).map fun d=>eBd (ν d.1,d.2.1,φ d.2.2)))),(17,sv (k.1:Nat))],ow:=[(16,0,16)]},
  fun k=>B.length-k.1,⟨0,Nat.zero_le _⟩,⟨⟨rfl,rfl,rfl,rfl,rfl,rfl,rfl,rfl,trivial⟩,⟨trivial,trivial⟩,rfl⟩,?_⟩
 rintro⟨k,hk⟩;refine⟨fun h=>?_,fun h=>?_⟩
 ·have h:k<B.length:=by have h:=of_decide_eq_true h;simp only[yK,List.length_map] at h;omega
  have g1:(eSs ((B.map (·.1)).map ν))[k]? = some (.lit (.string (ν B[k].1))):=by simp[eSs,h]
  have g2:(eCs ((q::B.map (·.2.2)).map φ))[k+1]? = some (eC (φ B[k].2.2)):=by simp[eCs,h]
  have hw:IntKind.i64.wrap ((k:Int)+1)=((k+1:Nat):Int):=wrap_succ (k:=k) (by omega);refine⟨_,by omega,g1,rfl,?_⟩;refine⟨_,by omega,zF4 h,rfl,?_⟩;refine⟨_,by show (0:Int)<=IntKind.i64.wrap ((k:Int)+1);rw[hw];omega,by show (eCs _)[(IntKind.i64.wrap ((k:Int)+1)).toNat]? = _;rw[hw];exact g2,rfl,?_⟩;refine⟨by simp;omega,fun a ha=>by obtain⟨x,_,rfl⟩:=List.mem_map.1 ha;rfl,jF rfl,?_⟩;refine⟨by kernel_rfl,?_⟩;refine⟨⟨k+1,h⟩,by simp;omega,⟨rfl,rfl,rfl,rfl,rfl,rfl,?_,svc (wrap_succ (k:=k) (by omega)),trivial⟩,⟨rfl,trivial⟩,rfl⟩;exact congrArg (fun l=>SV.v (AV.sl l)) (zF2 (f:=fun d:Bdg=>eBd (ν d.1,d.2.1,φ d.2.2)) h).symm
 have h:k=B.length:=by have h:=of_decide_eq_false h;simp only[yK,List.length_map] at h;omega
 subst h;refine Wsem.cut {vs:=[(1,.v (str x)),(3,.box 0 (.agg [.lit (.int .i64 8),.lit (.int .i64 n),.lit (.string s),.lit (.int .i64 t.form),.lit (.int .i64 t.num),.lit (.string t.nam),.sl t.eArgs,.sl [eC q],.sl (yK B),.sl []])),(5,.box 0 (eC b)),(6,.box 0 eZ),(15,.v (.sl (eCs ((q::B.map (·.2.2)).map φ)))),(16,.v (.sl (B.map fun d=>eBd (ν d.1,d.2.1,φ d.2.2))))]} ⟨⟨rfl,rfl,rfl,rfl,rfl,by rw[List.take_length];rfl,trivial⟩,trivial,rfl⟩ ?_;refine Wsem.of ttok mixed ?_;refine⟨eC (φ q),by decide,rfl,rfl,?_⟩;exact rfl
theorem zY6 (N:Nat) (f n:Int) (s:ByteArray) (t:Tp) (g:Cr) (x:ByteArray) (b:Cr) (h1:¬f=1) (h5:¬f=5) (h7:¬f=7) (h8:¬f=8) (hc:Sx (.node f n s t g)) (hb:Sx b) (hN:(Cr.node f n s t g).sz<=N+1) (ih:zIG N) :
  zF Tryz.prog 45 [eC (.node f n s t g),str x,eC b] (eC (sbF (N+1) (.node f n s t g) x b)):=by
 obtain⟨hgn,hgo⟩:=zN hc.ok;have hl:=zD3 _ hc.ok;have hcs:=hc.sz;have hfw:=zCA hc.n hc.ok;obtain⟨φ,ν,_,hφ,h3⟩:=zWU N hc.ok h1 h7 x b;have hbi:g.binds=[]:=by
  cases h:g.binds with
  | nil=>rfl
  | cons a l=>exact absurd (hc.ok.2.2.2.2.1 (by rw[h];simp)) h8
 have hnm:(Cr.node f n s t g).names0=[]:=by
  show (if f=5 then [s] else [])++g.binds.map (·.1)=[];rw[if_neg h5,hbi];rfl
 have hφ:=hφ hnm;have hkm:∀p∈g.kids,φ p=sbF N p x b:=fun p hp=>by
  rcases hφ with h|⟨h,hx⟩
  ·rw[h]
  ·have hp2:=hc.ok.kid (c := .node f n s t g) hp;rw[z90 N p x b hp2.1 hp2.2 fun hm=>hx (List.mem_flatMap.2 ⟨p,List.mem_append_left _ hp,hm⟩),h];rfl
 rw[h3,if_neg h5,z2A φ ν _ hgn hgo,hbi];have hK:(g.kids.map fun p=>eC (φ p))=g.kids.map fun p=>eC (sbF N p x b):=List.map_congr_left fun p hp=>by rw[hkm p hp]
 rw[hK];have hkid:∀(k:Nat) (h:k<g.kids.length),zF Tryz.prog 45 [eC g.kids[k],str x,eC b] (eC (sbF N g.kids[k] x b)):=fun k h=>by
  have:=hc.part (p := .kid k) (d:=g.kids[k]) (List.getElem?_eq_getElem h);exact ih _ x b this.1 (by have:=this.2;omega) hb
 have halt:∀(k:Nat) (h:k<g.alts.length),zF Tryz.prog 82 [.sl (eSs g.alts[k].2.1),.sl [eC g.alts[k].2.2],str x,eC b] (.tup [.sl (eSs (aP N x b g.alts[k].2.1 g.alts[k].2.2).1),.sl [eC (aP N x b g.alts[k].2.1 g.alts[k].2.2).2]]):=fun k h=>by
  have hp:=hc.part (p := .alt k) (d:=g.alts[k].2.2) (by show (g.alts[k]?).map (·.2.2)=_;rw[List.getElem?_eq_getElem h];rfl);have hw:=(zVI (K:=0) (c := .node f n s t g) (List.getElem_mem h)).1;have hwc:=hc.wt;have hvn:=(hc.ok.alt (c := .node f n s t g) (List.getElem_mem h)).2.2;have hfl:=zCN g.alts[k].2.2;have hps:=hp.1.sz;have:=zJX N ih g.alts[k].2.1 [g.alts[k].2.2] x b (by omega) (by simp) (fun p hp'=>by rcases List.mem_singleton.1 hp' with rfl;exact⟨hp.1,by have:=hp.2;omega⟩) (by simp;omega) hb;rw[z8Y hvn] at this;exact this
 have hlk:(Cr.node f n s t g).kids.length=g.kids.length:=rfl;have hla:(Cr.node f n s t g).alts.length=g.alts.length:=rfl;have e0:(Cr.node f n s t g).e3 0=eCs g.kids:=by rw[zNB];rfl
 have e1:(Cr.node f n s t g).e3 1=[]:=by rw[zI4];show yK g.binds=[];rw[hbi];rfl
 have e2:(Cr.node f n s t g).e3 2=yY g.alts:=by rw[zKQ];rfl
 have eM:eC (Cr.node f n s t g) = .agg [.lit (.int .i64 f),.lit (.int .i64 n),.lit (.string s),.lit (.int .i64 t.form),.lit (.int .i64 t.num),.lit (.string t.nam),.sl t.eArgs,.sl (eCs g.kids),.sl [],.sl (yY g.alts)]:=by
  show AV.agg [_,_,_,_,_,_,_,.sl _,.sl _,.sl _]=_;rw[e0,e1,e2]
  rfl
 rw[eM] at hfw⊢;obtain⟨K,hKK⟩:∃K,K=g.kids:=⟨_,rfl⟩
 obtain⟨A,hAA⟩:∃A,A=g.alts:=⟨_,rfl⟩
 simp only[<-hKK,<-hAA] at hfw hkid halt hlk hla⊢;refine yX ttok mixed Tryz.func45 rfl (by rfl) (Nat.le_of_ble_eq_true rfl) (by kernel_rfl) ?_;refine Wsem.seq ttok mixed ?_;refine Wsem.cut {vs:=[(1,.v (str x)),(3,.box 0 (.agg [.lit (.int .i64 f),.lit (.int .i64 n),.lit (.string s),.lit (.int .i64 t.form),.lit (.int .i64 t.num),.lit (.string t.nam),.sl t.eArgs,.sl (eCs K),.sl [],.sl (yY A)])),(5,.box 0 (eC b)),(6,.box 0 eZ)]} ⟨⟨rfl,rfl,rfl,rfl,trivial⟩,trivial,rfl⟩ ?_;refine Wsem.seq ttok mixed ?_;refine .inl ⟨_,hfw,?_⟩;refine⟨fun h=>absurd h (by decide),fun _=>?_⟩;refine Wsem.cut {vs:=[(1,.v (str x)),(3,.box 0 (.agg [.lit (.int .i64 f),.lit (.int .i64 n),.lit (.string s),.lit (.int .i64 t.form),.lit (.int .i64 t.num),.lit (.string t.nam),.sl t.eArgs,.sl (eCs K),.sl [],.sl (yY A)])),(5,.box 0 (eC b)),(6,.box 0 eZ)]} ⟨⟨rfl,rfl,rfl,rfl,trivial⟩,trivial,rfl⟩ ?_;refine Wsem.seqS (Wsem.seq ttok mixed ?_);refine Wsem.block ?_;refine Wsem.seq ttok mixed ?_;refine Wsem.cond rfl (fun h=>absurd (of_decide_eq_true h) h1) (fun _=>?_);refine Wsem.seq ttok mixed ?_;refine Wsem.cond rfl (fun h=>absurd (of_decide_eq_true h) h5) (fun _=>?_);refine Wsem.seq ttok mixed ?_;refine Wsem.cond rfl (fun h=>absurd (of_decide_eq_true h) h7) (fun _=>?_);refine Wsem.seq ttok mixed ?_;refine Wsem.cond rfl (fun h=>absurd (of_decide_eq_true h) h8) (fun _=>?_);refine Wsem.of ttok mixed ?_
 refine Wsem.cut {vs:=[(1,.v (str x)),(3,.box 0 (.agg [.lit (.int .i64 f),.lit (.int .i64 n),.lit (.string s),.lit (.int .i64 t.form),.lit (.int .i64 t.num),.lit (.string t.nam),.sl t.eArgs,.sl (eCs K),.sl [],.sl (yY A)])),(5,.box 0 (eC b)),(6,.box 0 eZ)]} ⟨⟨rfl,rfl,rfl,rfl,trivial⟩,trivial,rfl⟩ ?_;refine Wsem.seq ttok mixed ?_;refine Wsem.seq ttok mixed ?_;refine⟨{k:Nat // k<=K.length},fun k=>{vs:=[(1,.v (str x)),(3,.box 0 (.agg [.lit (.int .i64 f),.lit (.int .i64 n),.lit (.string s),.lit (.int .i64 t.form),.lit (.int .i64 t.num),.lit (.string t.nam),.sl t.eArgs,.sl (eCs K),.sl [],.sl (yY A)])),(5,.box 0 (eC b)),(6,.box 0 eZ),(18,.v (.sl ((K.take k.1).map fun p=>eC (sbF N p x b)))),(19,sv (k.1:Nat))],ow:=[(18,0,11)]},
  fun k=>K.length-k.1,⟨0,Nat.zero_le _⟩,⟨⟨rfl,rfl,rfl,rfl,rfl,rfl,trivial⟩,⟨trivial,trivial⟩,rfl⟩,?_⟩
 rintro⟨k,hk⟩;refine⟨fun h=>?_,fun h=>?_⟩
 ·have h:k<K.length:=by have h:=of_decide_eq_true h;simp only[eCs,List.length_map] at h;omega
  refine⟨_,by omega,z0C h,rfl,?_⟩;refine .inl ⟨_,hkid k h,?_⟩;refine⟨by simp;omega,fun a ha=>by obtain⟨x,_,rfl⟩:=List.mem_map.1 ha;rfl,jF rfl,?_⟩;refine⟨by kernel_rfl,?_⟩;refine⟨⟨k+1,h⟩,by simp;omega,⟨rfl,rfl,rfl,rfl,?_,svc (wrap_succ (k:=k) (by omega)),trivial⟩,⟨rfl,trivial⟩,rfl⟩;exact congrArg (fun l=>SV.v (AV.sl l)) (zF2 (f:=fun p=>eC (sbF N p x b)) h).symm
 have h:k=K.length:=by have h:=of_decide_eq_false h;simp only[eCs,List.length_map] at h;omega
 subst h;refine Wsem.cut {vs:=[(1,.v (str x)),(3,.box 0 (.agg [.lit (.int .i64 f),.lit (.int .i64 n),.lit (.string s),.lit (.int .i64 t.form),.lit (.int .i64 t.num),.lit (.string t.nam),.sl t.eArgs,.sl (eCs K),.sl [],.sl (yY A)])),(5,.box 0 (eC b)),(6,.box 0 eZ),(18,.v (.sl (K.map fun p=>eC (sbF N p x b))))]} ⟨⟨rfl,rfl,rfl,rfl,by rw[List.take_length];rfl,trivial⟩,trivial,rfl⟩ ?_;generalize (K.map fun p=>eC (sbF N p x b))=K2;refine Wsem.seq ttok mixed ?_;refine Wsem.cut {vs:=[(1,.v (str x)),(3,.box 0 (.agg [.lit (.int .i64 f),.lit (.int .i64 n),.lit (.string s),.lit (.int .i64 t.form),.lit (.int .i64 t.num),.lit (.string t.nam),.sl t.eArgs,.sl K2,.sl [],.sl (yY A)])),(5,.box 0 (eC b)),(6,.box 0 eZ)]} ⟨⟨rfl,rfl,rfl,rfl,trivial⟩,trivial,rfl⟩ ?_;refine Wsem.seq ttok mixed ?_;refine Wsem.seq ttok mixed ?_;refine⟨{k:Nat // k<=A.length},fun k=>{vs:=[(1,.v (str x)),(3,.box 0 (.agg [.lit (.int .i64 f),.lit (.int .i64 n),.lit (.string s),.lit (.int .i64 t.form),.lit (.int .i64 t.num),.lit (.string t.nam),.sl t.eArgs,.sl K2,.sl [],.sl (yY A)])),(5,.box 0 (eC b)),(6,.box 0 eZ),(20,.v (.sl ((A.take k.1).map fun a=>eAl (a.1,aP N x b a.2.1 a.2.2)))),(21,sv (k.1:Nat))],ow:=[(20,0,15)]},
  fun k=>A.length-k.1,⟨0,Nat.zero_le _⟩,⟨⟨rfl,rfl,rfl,rfl,rfl,rfl,trivial⟩,⟨trivial,trivial⟩,rfl⟩,?_⟩
 rintro⟨k,hk⟩;refine⟨fun h=>?_,fun h=>?_⟩
 ·have h:k<A.length:=by have h:=of_decide_eq_true h;simp only[yY,List.length_map] at h;omega
  have htk:=zF2 (f:=fun a:Alg=>eAl (a.1,aP N x b a.2.1 a.2.2)) h;have hga:=halt k h;have hgl:=zYU h;generalize A[k]=d at hga hgl htk;generalize aP N x b d.2.1 d.2.2=r at hga htk;refine⟨_,by omega,hgl,rfl,?_⟩;refine .inl ⟨_,hga,?_⟩;refine⟨_,by decide,rfl,rfl,?_⟩;refine⟨by simp;omega,fun a ha=>by obtain⟨x,_,rfl⟩:=List.mem_map.1 ha;rfl,jF rfl,?_⟩;refine⟨⟨k+1,h⟩,by simp;omega,⟨rfl,rfl,rfl,rfl,?_,svc (wrap_succ (k:=k) (by omega)),trivial⟩,⟨rfl,trivial⟩,rfl⟩;exact congrArg (fun l=>SV.v (AV.sl l)) htk.symm
 have h:k=A.length:=by have h:=of_decide_eq_false h;simp only[yY,List.length_map] at h;omega
 subst h;refine Wsem.cut {vs:=[(1,.v (str x)),(3,.box 0 (.agg [.lit (.int .i64 f),.lit (.int .i64 n),.lit (.string s),.lit (.int .i64 t.form),.lit (.int .i64 t.num),.lit (.string t.nam),.sl t.eArgs,.sl K2,.sl [],.sl (yY A)])),(5,.box 0 (eC b)),(6,.box 0 eZ),(20,.v (.sl (A.map fun a=>eAl (a.1,aP N x b a.2.1 a.2.2))))]} ⟨⟨rfl,rfl,rfl,rfl,by rw[List.take_length];rfl,trivial⟩,trivial,rfl⟩ ?_;refine Wsem.of ttok mixed ?_;exact rfl
theorem zaJ (N:Nat):zIG N:=by
 induction N with
 | zero=>intro d x b hd hs;have:=zAY hd.n;omega
 | succ N ih =>
  intro d x b hd hs hb;by_cases h7:d.f=7
  ·obtain⟨n,s,q,rfl⟩:=zeM hd.ok hd.n h7;exact zZH N n s q x b hd hb hs ih
  cases d with
  | node f n s t g =>
   have h7:¬f=7:=h7;by_cases h1:f=1
   ·subst h1;exact z2B N n s t g x b hd hb
   by_cases h8:f=8
   ·subst h8;exact z6I N n s t g x b hd hb hs ih
   by_cases h5:f=5
   ·subst h5;obtain⟨hgn,hgo⟩:=zN hd.ok;obtain⟨q,hq⟩:=zXY hd.ok (by decide);obtain⟨p,hp,_,_⟩:=qR hgn hgo (by rw[hq];rfl)
     (by cases h:g.binds with
       | nil=>rfl
       | cons a l=>exact absurd (hd.ok.2.2.2.2.1 (by rw[h];simp)) (by decide))
     (by cases h:g.alts with
       | nil=>rfl
       | cons a l=>exact absurd (hd.ok.2.2.2.2.2.1 (by rw[h];simp)) (by decide))
    subst hp;exact z4C N n s t p x b hd hb hs ih
   exact zY6 N f n s t g x b h1 h5 h7 h8 hd hb hs ih
  | _=>cases hd.n
def tick (s:ByteArray) (n:Nat):ByteArray:=(s++⟨#[39]⟩)++dcm n
noncomputable def renG (n:Nat):Cr->Cr
 | .nil => .nil
 | .node f m s t g=>if f=5 then .node f m (tick s n) t (yO (fun p=>sbF 590 p s (vr (tick s n))) id id Prod.mk (renG n g))
   else if f=7 then .node f m (tick s n) t (yO (fun p=>stF 590 p s (.var (tick s n))) id id Prod.mk (renG n g))
   else .node f m s t (renG n g)
 | .kid p r => .kid (renG n p) (renG n r)
 | c=>c
theorem zTO (n:Nat) {g:Cr} (h:g.isN=false) (ho:g.Ok):(renG n g).isN=false/\(renG n g).kids=g.kids.map (renG n)/\(renG n g).binds=g.binds/\(renG n g).alts=g.alts:=by
 induction g with
 | nil=>exact⟨rfl,rfl,rfl,rfl⟩
 | node=>cases h
 | kid p r _ ih =>
  obtain⟨h1,h2,h3,h4⟩:=ih ho.2.1 ho.2.2.2;exact⟨rfl,congrArg (renG n p :: ·) h2,h3,h4⟩
 | bind x t p r _ _=>exact⟨rfl,by show r.kids=r.kids.map _;rw[ho.2.2.1];rfl,rfl,rfl⟩
 | alt f m s vs p r _ _=>exact⟨rfl,by show r.kids=r.kids.map _;rw[ho.2.2.1];rfl,rfl,rfl⟩
theorem z7N:∀s∈W18,(39:UInt8)∉by' s:=by decide
theorem zTM (s:ByteArray) (n:Nat):tick s n∉W18:=fun h=>by
 have:=z7N _ h;unfold tick at this;rw[zDX,zDX] at this;exact this (by simp[by'])
theorem zC0:∀{t:Tp},good t->∀y∈fv t,y∈xY
 | .app a b,h,y,hy=>(mem_fv_app.1 hy).elim (zC0 h.1 y) (zC0 h.2 y)
 | .all s a,h,y,hy=>zC0 (t:=a) h.2 y (mem_fv_all.1 hy).1
 | .var s,h,y,hy=>by simp[fv] at hy;subst hy;exact h
 | .con s,h,y,hy=>by simp[fv] at hy
 | .mt n,h,y,hy=>by simp[fv] at hy
 | .no,h,y,hy=>by simp[fv] at hy
theorem zRP (c:Cr):c.Pk->∀y∈c.tv,y∈xY:=by
 induction c with
 | nil=>intro _ y hy;cases hy
 | node f n s t g ih =>
  intro h y hy;rcases mem_tv_node.1 hy with hy|⟨hy,_⟩
  ·rcases h.2.2.2.1 with ht|⟨ht,_⟩
   ·exact zC0 ht y hy
   ·rw[ht] at hy;simp[fv] at hy
  ·exact ih h.2.2.2.2 y hy
 | kid p r ihp ihr =>
  intro h y hy;exact (mem_tv_kid.1 hy).elim (ihp h.1 y) (ihr h.2 y)
 | bind x t p r ihp ihr =>
  intro h y hy;rcases mem_tv_bind.1 hy with hy|hy|hy
  ·exact zC0 h.2.1 y hy
  ·exact ihp h.2.2.1 y hy
  ·exact ihr h.2.2.2 y hy
 | alt f n s vs p r ihp ihr =>
  intro h y hy;exact (mem_tv_alt.1 hy).elim (ihp h.2.2.2.2.1 y) (ihr h.2.2.2.2.2 y)
theorem zYR {a b:Cr} (ha:a.Ok) (hb:b.Ok) (h:dbc a [] []=dbc b [] []) (y:ByteArray):y∈a.tv↔y∈b.tv:=by
 have h1:=zHH a [] [] y ha;have h2:=zHH b [] [] y hb;rw[h] at h1;simpa using h1.symm.trans h2
theorem zXG (n:Nat) (c:Cr):c.Ok->c.Pk->c.wt<=590->(renG n c).isN=c.isN/\(renG n c).Ok/\∀e d,dbc (renG n c) e d=dbc c e d:=by
 induction c with
 | nil=>intro _ _ _;exact⟨rfl,trivial,fun _ _=>rfl⟩
 | bind x t p r _ _=>intro h _ _;exact⟨rfl,h,fun _ _=>rfl⟩
 | alt f m s vs p r _ _=>intro h _ _;exact⟨rfl,h,fun _ _=>rfl⟩
 | kid p r ihp ihr =>
  intro ho hp hw;simp only[Cr.wt] at hw;obtain⟨p1,p2,p3⟩:=ihp ho.2.2.1 hp.1 (by omega);obtain⟨r1,r2,r3⟩:=ihr ho.2.2.2 hp.2 (by omega);exact⟨rfl,⟨by rw[p1];exact ho.1,by rw[r1];exact ho.2.1,p2,r2⟩,fun e d=>by simp only[renG,dbc,p3,r3]⟩
 | node f m s t g ih =>
  intro ho hp hw;obtain⟨l1,l2⟩:=zN ho;simp only[Cr.wt] at hw;obtain⟨g1,g2,g3⟩:=ih l2 hp.2.2.2.2 (by omega);obtain⟨k1,k2,k3,k4⟩:=zTO n l1 l2;by_cases h5:f=5
  ·subst h5;obtain⟨p,rfl,hp1,hp2⟩:=qR l1 l2 ho.2.2.2.1 (jI ho (by decide)) (zBB ho (by decide));have e1:renG n (.node 5 m s t (.kid p .nil)) = .node 5 m (tick s n) t (.kid (sbF 590 (renG n p) s (vr (tick s n))) .nil):=by simp only[renG,if_pos,yO]
   have q1:(renG n p).isN=true:=g2.1;have q2:(renG n p).Ok:=g2.2.2.1;have q3:∀e d,dbc (renG n p) e d=dbc p e d:=fun e d=>by have:=g3 e d;simp only[renG,dbc,DC.kid.injEq] at this;exact this.1
   have hz:(renG n p).sz<=590:=by
    have h1:=jH (renG n p) [] [] q2;rw[q3,jH p [] [] hp2] at h1;have:=z7G (renG n p);simp only[Cr.wt] at hw;omega
   have hf:tick s n∉(renG n p).fv:=fun h=>by
    rw[z9Z (q3 [] [])] at h;exact zTM s n (zbM p hp.2.2.2.2.1 _ h)
   have hall:=zKY 590 (renG n p) s (vr (tick s n)) q1 q2 rfl (zIC _);rw[e1];refine⟨rfl,⟨rfl,fun h=>absurd h (by decide),fun h=>absurd h (by decide),rfl,fun h=>absurd rfl h,fun h=>absurd rfl h,List.nodup_nil,hall.1,rfl,hall.2.1,trivial⟩,fun e d=>?_⟩;have hr:=z5Q (x:=s) q1 q2 hz hf e d;show DC.node 5 m _ (db t d) (.kid (dbc _ (tick s n::e) d) .nil)=DC.node 5 m _ (db t d) (.kid (dbc p (s::e) d) .nil);rw[hr,q3];rfl
  by_cases h7:f=7
  ·subst h7;obtain⟨p,rfl,hp1,hp2⟩:=qR l1 l2 ho.2.2.2.1 (jI ho (by decide)) (zBB ho (by decide));have ht:t = .no:=ho.2.2.1 rfl;have e1:renG n (.node 7 m s t (.kid p .nil)) = .node 7 m (tick s n) t (.kid (stF 590 (renG n p) s (.var (tick s n))) .nil):=by
    simp only[renG,yO]
    rfl
   have q1:(renG n p).isN=true:=g2.1;have q2:(renG n p).Ok:=g2.2.2.1;have q3:∀e d,dbc (renG n p) e d=dbc p e d:=fun e d=>by have:=g3 e d;simp only[renG,dbc,DC.kid.injEq] at this;exact this.1
   have hz:(renG n p).sz<=590:=by
    have h1:=jH (renG n p) [] [] q2;rw[q3,jH p [] [] hp2] at h1;have:=z7G (renG n p);simp only[Cr.wt] at hw;omega
   have hf:tick s n∉(renG n p).tv:=fun h=>by
    rw[zYR q2 hp2 (q3 [] [])] at h;exact zTM s n (s4W (zRP p hp.2.2.2.2.1 _ h))
   obtain⟨a1,a2⟩:=zUB 590 (renG n p) s (.var (tick s n)) q1 q2;rw[e1];refine⟨rfl,⟨rfl,fun h=>absurd h (by decide),fun _=>ht,rfl,fun h=>absurd rfl h,fun h=>absurd rfl h,List.nodup_nil,a1,rfl,a2,trivial⟩,fun e d=>?_⟩;have hr:=zW5 590 (renG n p) s (.var (tick s n)) e (s::d) (tick s n::d) .fr q2 q1 hz (AgT.renew hf);rw[zNO,q3] at hr;subst ht;show DC.node 7 m _ .no (.kid (dbc _ e (tick s n::d)) .nil)=DC.node 7 m _ .no (.kid (dbc p e (s::d)) .nil);rw[hr];rfl
  ·have e1:renG n (.node f m s t g) = .node f m s t (renG n g):=by simp only[renG];rw[if_neg h5,if_neg h7]
   rw[e1];have hn0:(Cr.node f m s t (renG n g)).names0=(Cr.node f m s t g).names0:=by
    show (if f=5 then [s] else [])++(renG n g).binds.map (·.1)=(if f=5 then [s] else [])++g.binds.map (·.1);rw[k3]
   refine⟨rfl,⟨k1,fun h=>⟨(ho.2.1 h).1,by rw[(ho.2.1 h).2];rfl⟩,ho.2.2.1,by rw[k2,List.length_map];exact ho.2.2.2.1,by rw[k3];exact ho.2.2.2.2.1,by rw[k4];exact ho.2.2.2.2.2.1,by rw[k3];exact ho.2.2.2.2.2.2.1,g2⟩,fun e d=>?_⟩;simp only[dbc,g3,hn0]
theorem z8H {n:Nat} {c:Cr} (h:Sx c) (hp:c.Pk):Sx (renG n c):=by
 obtain⟨h1,h2,h3⟩:=zXG n c h.ok hp h.wt;refine⟨by rw[h1];exact h.n,h2,?_⟩;rw[<-jH _ [] [] h2,h3,jH _ [] [] h.ok];exact h.wt
theorem z1T:∀s∈W18,s.size<=20:=by decide
theorem zQ6 (N:Nat) (n:Nat) (hn:n<3) (f m:Int) (s:ByteArray) (t:Tp) (g:Cr) (hc:Sx (.node f m s t g)) (hp:(Cr.node f m s t g).Pk) (hN:(Cr.node f m s t g).sz<=N+1)
  (ih:∀c:Cr,c.sz<=N->Sx c->c.Pk->zF Tryz.prog 15 [eC c,.lit (.int .i64 (n:Nat))] (eC (renG n c))):zF Tryz.prog 15 [eC (.node f m s t g),.lit (.int .i64 (n:Nat))] (eC (renG n (.node f m s t g))):=by
 obtain⟨l1,l2⟩:=zN hc.ok;obtain⟨k1,k2,k3,k4⟩:=zTO n l1 l2;obtain⟨c,hce⟩:∃c,c=Cr.node f m s t g:=⟨_,rfl⟩
 have hl:=zD3 _ hc.ok;have hcs:=hc.sz;have hss:=z1T s hp.2.2.1;have hdec:=zDO n n (Nat.le_refl _) (by omega);have hds:=xP 2 n (by omega) (by decide);have q1:(ByteArray.mk #[39]).size=1:=rfl;have hpart:∀p∈g.kids,zF Tryz.prog 15 [eC p,.lit (.int .i64 (n:Nat))] (eC (renG n p)):=fun p hpm=>by
  have h1:=zBF hpm;rw[l1] at h1;have h2:=(zP4 (K:=0) hpm).1;have h3:=hc.wt;simp only[Cr.sz,Cr.wt,Bool.false_eq_true,if_false] at h1 hN h3;exact ih p (by omega) ⟨(l2.kid hpm).1,(l2.kid hpm).2,by omega⟩ (Pk.kid l1 l2 hp.2.2.2.2 p hpm)
 have hkl:g.kids.length<=2:=by
  have:g.kids.length=Cr.nk f:=hc.ok.2.2.2.1;rw[this];unfold Cr.nk;split<;>(try split)<;>omega
 have hck:∀x∈c.kids,x∈g.kids:=fun x hx=>by rw[hce] at hx;exact hx
 rw[<-hce];refine yX ttok mixed Tryz.func15 rfl (by rfl) (Nat.le_of_ble_eq_true rfl) (by kernel_rfl) ?_;refine Wsem.seq ttok mixed ?_;refine Wsem.cut {vs:=[(1,sv (n:Nat)),(2,.box 0 (eC c)),(4,.box 0 eZ)]} ⟨⟨rfl,rfl,rfl,trivial⟩,trivial,rfl⟩ ?_;refine Wsem.seq ttok mixed ?_;refine Wsem.seq ttok mixed ?_;refine⟨{k:Nat // k<=c.kids.length},fun k=>{vs:=[(1,sv (n:Nat)),(2,.box 0 (eC c)),(4,.box 0 eZ),(5,.v (.sl ((c.kids.take k.1).map fun p=>eC (renG n p)))),(6,sv (k.1:Nat))],ow:=[(5,0,11)]},
  fun k=>c.kids.length-k.1,⟨0,Nat.zero_le _⟩,⟨⟨rfl,rfl,rfl,rfl,rfl,trivial⟩,⟨trivial,trivial⟩,rfl⟩,?_⟩
 rintro⟨k,hk⟩;refine⟨fun h=>?_,fun h=>?_⟩
 ·have h:k<c.kids.length:=by have h:=of_decide_eq_true h;rw[zFU] at h;simp only at h;omega
  have hpk:=hpart c.kids[k] (hck _ (List.getElem_mem h));have hkc:c.kids.length<=2:=by rw[hce];exact hkl
  refine⟨_,by omega,zJ6 h,rfl,?_⟩;refine .inl ⟨_,hpk,?_⟩;refine⟨by simp;omega,fun a ha=>by obtain⟨x,_,rfl⟩:=List.mem_map.1 ha;rfl,jF rfl,?_⟩;refine⟨⟨k+1,h⟩,by simp;omega,⟨rfl,rfl,rfl,?_,svc (wrap_succ (k:=k) (by omega)),trivial⟩,⟨rfl,trivial⟩,rfl⟩;exact congrArg (fun l=>SV.v (AV.sl l)) (zF2 (f:=fun p=>eC (renG n p)) h).symm
 have h:k=c.kids.length:=by have h:=of_decide_eq_false h;rw[zFU] at h;simp only at h;omega
 subst h;subst hce;have eK:(Cr.node f m s t g).kids=g.kids:=rfl;have e1:(Cr.node f m s t g).e3 1=yK g.binds:=zI4 _;have e2:(Cr.node f m s t g).e3 2=yY g.alts:=zKQ _;refine Wsem.cut {vs:=[(1,sv (n:Nat)),(2,.box 0 (eC (.node f m s t g))),(4,.box 0 eZ),(5,.v (.sl (g.kids.map fun p=>eC (renG n p))))]} ⟨⟨rfl,rfl,rfl,by rw[List.take_length];rfl,trivial⟩,trivial,rfl⟩ ?_;refine Wsem.seq ttok mixed ?_;by_cases h5:f=5
 ·subst h5;obtain⟨p,rfl,hp1,hp2⟩:=qR l1 l2 hc.ok.2.2.2.1 (jI hc.ok (by decide)) (zBB hc.ok (by decide));have hpp:p.Pk:=hp.2.2.2.2.1;have hsxp:Sx p:=(hc.part (p := .kid 0) rfl).1;have hsx:=z8H (n:=n) hsxp hpp;have hsub:=zaJ 590 (renG n p) s (vr (tick s n)) hsx hsx.sz (zbN _);have hres:eC (renG n (.node 5 m s t (.kid p .nil)))=eX (.node 5 m (tick s n) t (.kid p .nil)) t [eC (sbF 590 (renG n p) s (vr (tick s n)))] [] []:=by simp only[renG,if_pos,yO];rfl
  rw[hres];generalize sbF 590 (renG n p) s (vr (tick s n))=q at hsub;refine Wsem.cut {vs:=[(1,sv (n:Nat)),(2,.box 0 (eX (.node 5 m s t (.kid p .nil)) t [eC (renG n p)] [] [])),(4,.box 0 eZ)]} ⟨⟨rfl,rfl,rfl,trivial⟩,trivial,rfl⟩ ?_;refine Wsem.seqS (Wsem.seq ttok mixed ?_);refine Wsem.cond rfl (fun _=>?_) (fun h=>absurd h (by simp[Cr.f]));refine Wsem.seq ttok mixed ?_;have hss2:(Cr.node 5 m s t (.kid p .nil)).s.size<=20:=hss;refine⟨by rw[q1];omega,?_⟩;refine .inl ⟨_,hdec,?_⟩;refine⟨by rw[ByteArray.size_append,q1];omega,?_⟩;refine⟨by kernel_rfl,?_⟩;refine Wsem.cut {vs:=[(1,sv (n:Nat)),(2,.box 0 (eX (.node 5 m s t (.kid p .nil)) t [eC (renG n p)] [] [])),(4,.box 0 eZ),(7,.v (str (tick s n)))]} ⟨⟨rfl,rfl,rfl,rfl,trivial⟩,trivial,rfl⟩ ?_;refine Wsem.seq ttok mixed ?_;refine⟨_,by decide,rfl,rfl,?_⟩;refine .inl ⟨_,hsub,?_⟩;refine⟨by kernel_rfl,?_⟩;refine Wsem.of ttok mixed ?_;refine Wsem.of ttok mixed ?_;refine⟨fun h=>absurd h (by simp[Cr.f]),fun _=>?_⟩;exact rfl
 by_cases h7:f=7
 ·subst h7;obtain⟨p,rfl,hp1,hp2⟩:=qR l1 l2 hc.ok.2.2.2.1 (jI hc.ok (by decide)) (zBB hc.ok (by decide));have hpp:p.Pk:=hp.2.2.2.2.1;have hsxp:Sx p:=(hc.part (p := .kid 0) rfl).1;have hsx:=z8H (n:=n) hsxp hpp;have hsub:=zYP 590 (renG n p) s (.var (tick s n)) hsx hsx.sz (by simp[Tp.sz]);have hres:eC (renG n (.node 7 m s t (.kid p .nil)))=eX (.node 7 m (tick s n) t (.kid p .nil)) t [eC (stF 590 (renG n p) s (.var (tick s n)))] [] []:=by simp only[renG,yO];rfl
  rw[hres];generalize stF 590 (renG n p) s (.var (tick s n))=q at hsub;refine Wsem.cut {vs:=[(1,sv (n:Nat)),(2,.box 0 (eX (.node 7 m s t (.kid p .nil)) t [eC (renG n p)] [] [])),(4,.box 0 eZ)]} ⟨⟨rfl,rfl,rfl,trivial⟩,trivial,rfl⟩ ?_;refine Wsem.seqS (Wsem.seq ttok mixed ?_);refine Wsem.cond rfl (fun h=>absurd h (by simp[Cr.f])) (fun _=>?_);refine Wsem.of ttok mixed ?_;refine Wsem.of ttok mixed ?_;refine⟨fun _=>?_,fun h=>absurd h (by simp[Cr.f])⟩;have hss2:(Cr.node 7 m s t (.kid p .nil)).s.size<=20:=hss;refine⟨by rw[q1];omega,?_⟩;refine .inl ⟨_,hdec,?_⟩;refine⟨by rw[ByteArray.size_append,q1];omega,?_⟩;refine⟨by kernel_rfl,?_⟩;refine⟨_,by decide,rfl,rfl,?_⟩;refine .inl ⟨_,hsub,?_⟩;refine⟨by kernel_rfl,?_⟩;exact rfl
 ·have hres:eC (renG n (.node f m s t g))=eX (.node f m s t g) t (g.kids.map fun p=>eC (renG n p)) (yK g.binds) (yY g.alts):=by
   have er:renG n (.node f m s t g) = .node f m s t (renG n g):=by simp only[renG];rw[if_neg h5,if_neg h7]
   rw[er];show AV.agg [_,_,_,_,_,_,_,.sl ((renG n g).e3 0),.sl ((renG n g).e3 1),.sl ((renG n g).e3 2)]=_;rw[zNB,zI4,zKQ,k2,k3,k4,eCs,List.map_map]
   rfl
  rw[hres];refine Wsem.cut {vs:=[(2,.box 0 (eX (.node f m s t g) t (g.kids.map fun p=>eC (renG n p)) (yK g.binds) (yY g.alts))),(4,.box 0 eZ)]} ⟨⟨by rw[<-e1,<-e2];rfl,rfl,trivial⟩,trivial,rfl⟩ ?_;refine Wsem.of ttok mixed ?_;refine⟨fun h=>absurd (of_decide_eq_true h) h5,fun _=>?_⟩;refine⟨fun h=>absurd (of_decide_eq_true h) h7,fun _=>?_⟩;exact rfl
theorem zVS (n:Nat) (hn:n<3) (N:Nat):∀c:Cr,c.sz<=N->Sx c->c.Pk->zF Tryz.prog 15 [eC c,.lit (.int .i64 (n:Nat))] (eC (renG n c)):=by
 induction N with
 | zero=>intro c hs hc;have:=hc.n;cases c<;>simp[Cr.isN,Cr.sz] at this hs
 | succ N ih =>
  intro c hs hc hp;cases c with
  | node f m s t g=>exact zQ6 N n hn f m s t g hc hp hs ih
  | _=>have:=hc.n;cases this
theorem zFK {t:Tp} (h:t.sz<=500):TyS t :=
 ⟨zCZ t.sz t (Nat.le_refl _) 1000 [] (zBQ (by show t.sz+0<=_;omega) (by simp) (fun p hp=>by cases hp) (by omega))⟩
theorem zWO:TyS .no:=zFK (by decide)
structure ze1 (own:Nat->ByteArray):Prop where
 inj:∀i j,own i=own j->i=j
 nb:∀i,own i≠sb9
 wd:∀k,k<100->Wrd (own k)/\(own k).size<=10
structure VOk (N:Nat) (v:V9):Prop where
 tL:∀p∈v.L,zSW v.vars p.2/\p.2.sz<=300
 ll:v.L.length<=N
 dd:v.deep<=N
 vl:v.vars.length<=20
 vn:∀x∈v.vars,Wrd x/\x.size<=10
structure Cmp (own:Nat->ByteArray) (v:V9) (w:Wd):Prop where
 fs:w.fs=fields19
 env:∀s t,s≠.empty->xX v.L s=some t->xX w.env s=some (w.mean t)
 el:w.env.length<=10+v.L.length
 pl:w.ps.length<=10+v.vars.length
 dl:w.deep<=10+v.vars.length
 pv:∀p∈w.ps,∃k,p.2 = .var (own k)/\k<w.deep
 vars:∀x∈v.vars,∃k,look x w.ps=some (.var (own k))/\k<w.deep
theorem zXM {u t:Tp} (hu:Gs u) (ht:Gs t) (h:(fnT u t).sz<=700):Gs (fnT u t):=⟨h,⟨⟨⟨by decide,_,_,rfl,by decide⟩,hu.2.1⟩,ht.2.1⟩,⟨Nat.le_of_ble_eq_true rfl,hu.2.2⟩,ht.2.2⟩
structure Mkd (v:V9) (t:Tp) (c:Cr):Prop where
 ty:∀own,ze1 own->∀w,Cmp own v w->TyW own 50000 w c (w.mean t)
 gd:Gd c
theorem z4Y (s:ByteArray):Gd (vr s):=⟨rfl,by simp[Cr.Ok,Cr.kids,Cr.binds,Cr.alts,Cr.isN,Cr.nk],trivial,zWO,trivial⟩
theorem zaW {f n:Int} {s:ByteArray} {t:Tp} (hf:f=2∨f=3∨f=11) (ht:TyS t):Gd (.node f n s t .nil) :=
 ⟨rfl,by rcases hf with rfl|rfl|rfl<;>simp[Cr.Ok,Cr.kids,Cr.binds,Cr.alts,Cr.isN,Cr.nk],trivial,ht,trivial⟩
theorem zdA {f n:Int} {s:ByteArray} {t:Tp} {p:Cr} (hf:f=5∨f=6) (ht:TyS t) (hp:Gd p):Gd (.node f n s t (.kid p .nil)) :=
 ⟨rfl,by rcases hf with rfl|rfl<;>simp[Cr.Ok,Cr.kids,Cr.binds,Cr.alts,Cr.isN,Cr.nk,hp.n,hp.ok]<;>exact hp.n,⟨hp.few,trivial⟩,ht,hp.ty,trivial⟩
theorem zcW {n:Int} {s:ByteArray} {p:Cr} (hp:Gd p):Gd (.node 7 n s .no (.kid p .nil)) :=
 ⟨rfl,by simp[Cr.Ok,Cr.kids,Cr.binds,Cr.alts,Cr.isN,Cr.nk,hp.n,hp.ok];exact hp.n,⟨hp.few,trivial⟩,zWO,hp.ty,trivial⟩
section
variable {N:Nat} {v:V9} (hv:VOk N v) (hN:N<=10000)
include hv hN
end
end Go.Proofs.YtdmbahepaglcbaaGreatDoor
