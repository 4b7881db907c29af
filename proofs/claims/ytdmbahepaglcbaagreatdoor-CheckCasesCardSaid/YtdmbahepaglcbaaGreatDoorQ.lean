/- What is free, if few names are: no bound on how great a type is. No condition but on lengths. -/
import Derived.Test.YtdmbahepaglcbaaGreatDoorB
import Derived.Test.YtdmbahepaglcbaaGreatDoorF
import Derived.Test.YtdmbahepaglcbaaGreatDoorP
import Derived.Test.YtdmbahepaglcbaaGreatDoorFpN
set_option linter.unusedSimpArgs false
set_option linter.unusedVariables false
namespace Go.Proofs.YtdmbahepaglcbaaGreatDoor
open Go Fp
set_option maxRecDepth 100000
set_option maxHeartbeats 8000000
set_option linter.unusedVariables false
theorem zQH {p:ByteArray->Bool} {l:List Tp} {k:Nat} (h:k<l.length):zG9 p l=(l.drop (k+1)).foldl (fun out a=>zK p out (fv a)) (zK p (zG9 p (l.take k)) (fv l[k])):=by
 have e:l=l.take k++(l[k]::l.drop (k+1)):=by rw[<-List.drop_eq_getElem_cons h,List.take_append_drop]
 conv=>lhs;rw[e]
 simp only[zG9,List.foldl_append,List.foldl_cons]
theorem zVI {p:ByteArray->Bool} (l:List Tp):∀(out:List ByteArray) (x:ByteArray),x∈out->x∈l.foldl (fun out a=>zK p out (fv a)) out:=by
 induction l with
 | nil=>exact fun out x h=>h
 | cons a l ih=>exact fun out x h=>ih _ x (zH2 p (fv a) out x h)
theorem zQF {p:ByteArray->Bool} (l:List Tp):(zG9 p l).Nodup:=by
 have:∀(l:List Tp) (out:List ByteArray),out.Nodup->(l.foldl (fun out a=>zK p out (fv a)) out).Nodup:=by
  intro l;induction l with
  | nil=>exact fun out h=>h
  | cons a l ih=>exact fun out h=>ih _ (wR h)
 exact this l [] List.nodup_nil
theorem zY2 {t:Tp} (hf:¬t.form=2) {k:Nat} (h:k<t.args.length) (j:Nat):(zK (qW t) (zG9 (qW t) (t.args.take k)) ((fv t.args[k]).take j)).length<=(fv t).length:=by
 refine wP _ _ (wR (zQF _)) fun x hx=>?_;rw[zVE t hf,zQH h];refine zVI _ _ _ ?_;have e:fv t.args[k]=(fv t.args[k]).take j++(fv t.args[k]).drop j:=(List.take_append_drop j _).symm;rw[e,zAY];exact zH2 _ _ _ _ hx
theorem zQ0 (t:Tp) (hs:(fv t).length<=1000000000) (hs2:∀a∈t.args,(fv a).length<=1000000000) (ih:∀a∈t.args,zC Tryz.prog zBW [eTy a] (.sl (eSs (fv a)))):zC Tryz.prog zBW [eTy t] (.sl (eSs (fv t))):=by
 refine zA ttok mixed Tryz.func127 rfl (by rfl) (Nat.le_of_ble_eq_true rfl) (by kernel_rfl) ?_;refine⟨fun h=>?_,fun h=>?_⟩
 ·obtain⟨s,rfl⟩:=Tp.is_var (t:=t) (by simpa using h);exact rfl
 ·have hf:¬t.form=2:=by simpa using h
  rw[zVE t hf];have hlen:t.eArgs.length=t.args.length:=z1T t;have h2:=zLV t;refine⟨{k:Nat // k<=t.args.length},fun k=>{vs:=[(1,.box 0 (eTy t)),(3,.v (.sl (eSs (zG9 (qW t) (t.args.take k.1))))),(15,.v (.sl t.eArgs)),(16,.v (.lit (.int .i64 (t.eArgs.length:Nat)))),(17,.v (.lit (.int .i64 (k.1:Nat))))],ow:=[(3,0,2)]},
   fun k=>t.args.length-k.1,⟨0,Nat.zero_le _⟩,⟨⟨rfl,rfl,rfl,rfl,rfl,trivial⟩,⟨trivial,trivial⟩,rfl⟩,?_⟩
  rintro⟨k,hk⟩;refine⟨fun h=>?_,fun h=>?_⟩
  ·have h:k<t.args.length:=by simp[hlen] at h;omega
   refine⟨eTy t.args[k],by simp,by rw[t.eArgs_eq];exact zOF h,rfl,?_⟩;refine .inl ⟨_,ih _ (List.getElem_mem h),?_⟩;obtain⟨out,hout⟩:∃out,out=zG9 (qW t) (t.args.take k):=⟨_,rfl⟩
   obtain⟨m,hm⟩:∃m,m=fv t.args[k]:=⟨_,rfl⟩
   rw[<-hout,<-hm];have hol:∀j,(zK (qW t) out (m.take j)).length<=1000000000:=fun j=>by rw[hout,hm];exact Nat.le_trans (zY2 hf h j) hs
   have hml:m.length<=1000000000:=by rw[hm];exact hs2 _ (List.getElem_mem h)
   have hlm:(eSs m).length=m.length:=by simp[eSs]
   refine⟨{j:Nat // j<=m.length},fun j=>{vs:=[(1,.box 0 (eTy t)),(3,.v (.sl (eSs (zK (qW t) out (m.take j.1))))),(15,.v (.sl t.eArgs)),(16,.v (.lit (.int .i64 (t.eArgs.length:Nat)))),(17,.v (.lit (.int .i64 (k:Nat)))),(22,.v (.sl (eSs m))),(23,.v (.lit (.int .i64 ((eSs m).length:Nat)))),(24,.v (.lit (.int .i64 (j.1:Nat))))],ow:=[(3,0,2)]},
    fun j=>m.length-j.1,⟨0,Nat.zero_le _⟩,⟨⟨rfl,rfl,rfl,rfl,rfl,rfl,rfl,rfl,trivial⟩,⟨rfl,trivial⟩,rfl⟩,?_⟩
   rintro⟨j,hj⟩;refine⟨fun h3=>?_,fun h3=>?_⟩
   ·have h3:j<m.length:=by simp[hlm] at h3;omega
    have hacc:=hol j;have htk:=zOC (p:=qW t) (out:=out) h3;refine⟨_,by omega,zBI h3,rfl,?_⟩;refine .inl ⟨_,yP (l:=zK (qW t) out (m.take j)) (s:=m[j]) (by omega),?_⟩;have wj:IntKind.i64.wrap ((j:Int)+1)=((j+1:Nat):Int):=wrap_succ (by omega);have skip:∀(_:zK (qW t) out (m.take (j+1))=zK (qW t) out (m.take j)),AV.sl (eSs (zK (qW t) out (m.take j)))=AV.sl (eSs (zK (qW t) out (m.take (j+1)))):=fun e=>by rw[e]
    refine⟨fun hc=>?_,fun hc=>?_⟩
    ·have hc:memb m[j] (zK (qW t) out (m.take j))=false:=by simpa using hc
     refine⟨fun h5=>?_,fun h5=>?_⟩
     ·refine⟨fun h6=>?_,fun h6=>?_⟩
      ·rw[zSR hc (by simp[qW] at h5 h6⊢;simp[h6])] at htk;refine⟨by simp[eSs];omega,xH _,xH [_],?_⟩;refine⟨⟨j+1,h3⟩,(show m.length-(j+1)<m.length-j by omega),⟨rfl,?_,rfl,rfl,rfl,rfl,rfl,?_,trivial⟩,⟨rfl,trivial⟩,rfl⟩
       ·show SV.v (AV.sl (eSs (zK (qW t) out (m.take j))++[AV.lit (.string m[j])]))=SV.v (AV.sl (eSs (zK (qW t) out (m.take (j+1)))));rw[zB3,htk]
       ·exact congrArg (fun n=>SV.v (AV.lit (Value.int .i64 n))) wj
      ·rw[zXD (.inr (by simp[qW] at h5 h6⊢;simp[h5,h6]))] at htk;refine⟨⟨j+1,h3⟩,(show m.length-(j+1)<m.length-j by omega),⟨rfl,?_,rfl,rfl,rfl,rfl,rfl,?_,trivial⟩,⟨rfl,trivial⟩,rfl⟩
       ·exact congrArg SV.v (skip htk)
       ·exact congrArg (fun n=>SV.v (AV.lit (Value.int .i64 n))) wj
     ·rw[zSR hc (by simp[qW] at h5⊢;simp[h5])] at htk;refine⟨by simp[eSs];omega,xH _,xH [_],?_⟩;refine⟨⟨j+1,h3⟩,(show m.length-(j+1)<m.length-j by omega),⟨rfl,?_,rfl,rfl,rfl,rfl,rfl,?_,trivial⟩,⟨rfl,trivial⟩,rfl⟩
      ·show SV.v (AV.sl (eSs (zK (qW t) out (m.take j))++[AV.lit (.string m[j])]))=SV.v (AV.sl (eSs (zK (qW t) out (m.take (j+1)))));rw[zB3,htk]
      ·exact congrArg (fun n=>SV.v (AV.lit (Value.int .i64 n))) wj
    ·have hc:memb m[j] (zK (qW t) out (m.take j))=true:=by simpa using hc
     rw[zXD (.inl hc)] at htk;refine⟨⟨j+1,h3⟩,(show m.length-(j+1)<m.length-j by omega),⟨rfl,?_,rfl,rfl,rfl,rfl,rfl,?_,trivial⟩,⟨rfl,trivial⟩,rfl⟩
     ·exact congrArg SV.v (skip htk)
     ·exact congrArg (fun n=>SV.v (AV.lit (Value.int .i64 n))) wj
   ·have h3:j=m.length:=by simp[hlm] at h3;omega
    subst h3;have e:zK (qW t) out (m.take m.length)=zG9 (qW t) (t.args.take (k+1)):=by rw[List.take_length,zTR h,<-hout,<-hm]
    refine⟨⟨k+1,h⟩,(show t.args.length-(k+1)<t.args.length-k by omega),⟨rfl,?_,rfl,rfl,?_,trivial⟩,⟨rfl,trivial⟩,rfl⟩
    ·exact congrArg (fun l=>SV.v (AV.sl (eSs l))) e
    ·exact congrArg (fun n=>SV.v (AV.lit (Value.int .i64 n))) (wrap_succ (k:=k) (by omega))
  ·have h:k=t.args.length:=by simp[hlen] at h;omega
   subst h;rw[List.take_length];exact rfl
theorem zSD {t:Tp}:∀a∈t.args,(fv a).length+dp a<=(fv t).length+dp t:=by
 cases t with
 | app a b =>
  intro x hx;simp only[Tp.args,List.mem_cons,List.not_mem_nil,or_false] at hx;have h1:(fv a).length<=(fv (.app a b)).length:=wP _ _ (zCK a) fun s hs=>mem_fv_app.2 (.inl hs);have h2:(fv b).length<=(fv (.app a b)).length:=wP _ _ (zCK b) fun s hs=>mem_fv_app.2 (.inr hs);simp only[dp];rcases hx with rfl|rfl<;>omega
 | all s a =>
  intro x hx;simp only[Tp.args,List.mem_cons,List.not_mem_nil,or_false] at hx;subst hx;have h1:(fv x).length<=(s::fv (.all s x)).length:=wP _ _ (zCK x) fun y hy=>by
   by_cases e:y=s
   ·rw[e];exact List.mem_cons_self
   ·exact List.mem_cons_of_mem _ (mem_fv_all.2 ⟨hy,e⟩)
  simp only[dp,List.length_cons] at h1⊢;omega
 | _=>simp[Tp.args]
theorem zNV (N:Nat):∀t:Tp,t.sz<=N->(fv t).length+dp t<=1000000000->zC Tryz.prog zBW [eTy t] (.sl (eSs (fv t))):=by
 induction N with
 | zero=>intro t h;have:=jE t;omega
 | succ N ih=>exact fun t h hb=>zQ0 t (by omega) (fun a ha=>by have:=zSD a ha;omega) fun a ha=>ih a (z0F h a ha) (by have:=zSD a ha;omega)
structure FitX (K:Nat) (t:Tp) (ps:Env'):Prop where
 names:∃G:List ByteArray,G.length<=K/\(∀s∈fv t,s∈G)/\∀p∈ps,∀s∈fv p.2,s∈G
 room:K+2*dp t<2600
 many:ps.length+dp t<5000
 deep:∀p∈ps,dp p.2<1000000
theorem zI1 {G:List ByteArray} {t:Tp} (h:∀s∈fv t,s∈G):(fv t).length<=G.length:=wP _ _ (zCK t) h
theorem zEC {G:List ByteArray} {K:Nat} (hG:G.length<=K):∀{ps:Env'},(∀p∈ps,∀s∈fv p.2,s∈G)->(caught ps).length<=K*ps.length
 | [],_=>by simp[caught]
 | p::r,h=>by
  have h1:=zEC hG (ps:=r) (fun q hq=>h q (by simp[hq]));have h2:=zI1 (h p (by simp));have:caught (p::r)=fv p.2++caught r:=rfl;rw[this,List.length_append,List.length_cons,Nat.mul_succ];omega
theorem z1R {G l:List ByteArray} (h:∀s∈l,s∈G):ff l<=G.length:=by
 have:=wP ((List.range (ff l)).map lett) G (List.pairwise_map.2 (List.Pairwise.imp (fun h e=>h (zM4 e)) (List.nodup_range))) (fun x hx=>by
  obtain⟨j,hj,rfl⟩:=List.mem_map.1 hx;exact h _ (zLL l j (List.mem_range.1 hj)))
 simpa using this
theorem zTZ {G:List ByteArray} {ps:Env'} (h:∀p∈ps,∀s∈fv p.2,s∈G):∀s∈caught ps,s∈G:=fun s hs=>by
 obtain⟨p,hp,hs⟩:=List.mem_flatMap.1 hs;exact h p hp s hs
theorem FitX.app {K:Nat} {a b:Tp} {ps:Env'} (h:FitX K (.app a b) ps):FitX K a ps/\FitX K b ps:=by
 obtain⟨⟨G,g1,g2,g3⟩,h3,h4,h6⟩:=h;simp only[dp] at h3 h4;exact⟨⟨⟨G,g1,fun s hs=>g2 s (mem_fv_app.2 (.inl hs)),g3⟩,by omega,by omega,h6⟩,⟨⟨G,g1,fun s hs=>g2 s (mem_fv_app.2 (.inr hs)),g3⟩,by omega,by omega,h6⟩⟩
theorem FitX.all0 {K:Nat} {a:Tp} {s:ByteArray} {ps:Env'} (h:FitX K (.all s a) ps):FitX (K+1) a (kept s (fv a) ps):=by
 obtain⟨⟨G,g1,g2,g3⟩,h3,h4,h6⟩:=h;simp only[dp] at h3 h4;have:=zAS s (fv a) ps;refine⟨⟨s::G,by simp;omega,fun x hx=>?_,fun p hp x hx=>List.mem_cons_of_mem _ (g3 p (zBA hp) x hx)⟩,by omega,by omega,fun p hp=>h6 p (zBA hp)⟩;by_cases e:x=s
 ·rw[e];exact List.mem_cons_self
 ·exact List.mem_cons_of_mem _ (g2 x (mem_fv_all.2 ⟨hx,e⟩))
theorem FitX.all1 {K:Nat} {a:Tp} {s:ByteArray} {ps:Env'} (h:FitX K (.all s a) ps):ff (caught (kept s (fv a) ps)++fv a)<=K+1/\FitX (K+2) a (kept s (fv a) ps++[(s,.var (lett (ff (caught (kept s (fv a) ps)++fv a))))]):=by
 have h0:=h.all0;obtain⟨⟨G,g1,g2,g3⟩,q3,q4,q6⟩:=h0;have hff:ff (caught (kept s (fv a) ps)++fv a)<=K+1:=Nat.le_trans (z1R (G:=G) fun x hx=>by
  rcases List.mem_append.1 hx with hx|hx
  ·exact zTZ g3 x hx
  ·exact g2 x hx) g1
 refine⟨hff,?_⟩;obtain⟨_,h3,h4,h6⟩:=h;simp only[dp] at h3 h4;have:=zAS s (fv a) ps;generalize lett (ff (caught (kept s (fv a) ps)++fv a))=z;refine⟨⟨z::G,by simp;omega,fun x hx=>List.mem_cons_of_mem _ (g2 x hx),fun p hp x hx=>?_⟩,by omega,by simp;omega,fun p hp=>?_⟩
 ·rcases List.mem_append.1 hp with hp|hp
  ·exact List.mem_cons_of_mem _ (g3 p hp x hx)
  ·rw[List.mem_singleton.1 hp] at hx;simp[fv] at hx;rw[hx];exact List.mem_cons_self
 ·rcases List.mem_append.1 hp with hp|hp
  ·exact q6 p hp
  ·rw[List.mem_singleton.1 hp];simp[dp]
theorem zTE {K : Nat} {s : ByteArray} {a : Tp} {ps : Env'} (hf : FitX K (.all s a) ps) (ih : ∀ (K : Nat) (ps : Env'), FitX K a ps -> xM a ps) :
    zC Tryz.prog zJ1 [eTy (.all s a), .sl (eN ps), .sl (eB ps)] (eTy (sub (.all s a) ps)) := by
  have h0 := hf.all0;have h1 := hf.all1;obtain ⟨⟨G, g1, g2, g3⟩, hroom, hmany, hdeep⟩ := hf;simp only [dp] at hroom hmany;have hfl : (fv a).length <= K + 1 := by
    have := zI1 (t := a) (G := s :: G) fun x hx => by
      by_cases e : x = s
      · rw [e]; exact List.mem_cons_self
      · exact List.mem_cons_of_mem _ (g2 x (mem_fv_all.2 ⟨hx, e⟩))
    simp at this; omega
  refine zA ttok mixed Tryz.func80 rfl (by rfl) (Nat.le_of_ble_eq_true rfl) (by kernel_rfl) ?_;refine ⟨_, by decide, rfl, rfl, ?_⟩;refine .inl ⟨_, zNV a.sz a (Nat.le_refl _) (by omega), ?_⟩
  refine ⟨{k : Nat // k <= ps.length}, fun k => { vs := [(2, .v (.sl (eB ps))), (3, .box 0 (eTy (.all s a))), (6, .box 0 (eTy .no)), (7, .box 0 (eTy a)), (8, .v (.sl (eSs (fv a)))), (9, .v (.sl (eN (kept s (fv a) (ps.take k.1))))), (10, .v (.sl (eB (kept s (fv a) (ps.take k.1))))), (11, .v (.sl (eSs (caught (kept s (fv a) (ps.take k.1)))))),
      (21, .v (.sl (eN ps))), (22, .v (.lit (.int .i64 ((eN ps).length : Nat)))), (23, .v (.lit (.int .i64 (k.1 : Nat))))], ow := [(9, 0, 2), (10, 0, 5), (11, 0, 2)] },
    fun k => ps.length - k.1, ⟨0, Nat.zero_le _⟩, ⟨⟨rfl, rfl, rfl, rfl, rfl, rfl, rfl, rfl, rfl, rfl, rfl, trivial⟩, ⟨trivial, trivial, trivial, trivial⟩, rfl⟩, ?_⟩
  rintro ⟨k, hk⟩;have hkl : (kept s (fv a) (ps.take k)).length <= k := by
    have := zAS s (fv a) (ps.take k);simp at this; omega
  have hcl : (caught (kept s (fv a) (ps.take k))).length <= K * (kept s (fv a) (ps.take k)).length := zEC g1 fun p hp => g3 p (List.mem_of_mem_take (zBA hp));have hK1 : K * (kept s (fv a) (ps.take k)).length <= 2600 * 5000 := Nat.mul_le_mul (by omega) (by omega);have wk' : k < ps.length -> IntKind.i64.wrap ((k : Int) + 1) = ((k + 1 : Nat) : Int) := fun _ => wrap_succ (by omega);refine ⟨fun h => ?_, fun h => ?_⟩
  · have h : k < ps.length := by simp [qB] at h; omega
    have wk' := wk' h;have ht := zK3 (s := s) (own := fv a) h;refine ⟨_, by omega, zMB h, rfl, ?_⟩;refine ⟨fun h3 => ?_, fun h3 => ?_⟩
    · refine .inl ⟨_, yP (l := fv a) (s := ps[k].1) (by omega), ?_⟩
      refine ⟨fun h4 => ?_, fun h4 => ?_⟩
      · rw [if_pos (by
          have h5 : ¬ ps[k].1 = s := fun e => by
            have h3' : (!decide (ps[k].1 = s)) = true := h3;rw [decide_eq_true e] at h3'; cases h3'
          rw [h4, decide_eq_true (p := ps[k].1 ≠ s) h5]; rfl)] at ht
        refine ⟨by simp [qB]; omega, zT1 _, xH [_], ?_⟩;refine ⟨_, by omega, zGB h, rfl, ?_⟩;refine ⟨by simp [zDD]; omega, zUG _, zGC [_], ?_⟩;refine ⟨_, by omega, zGB h, rfl, ?_⟩;have hlt := hdeep _ (List.getElem_mem h);have hfk : (fv ps[k].2).length <= G.length := zI1 (g3 _ (List.getElem_mem h));refine .inl ⟨_, zNV ps[k].2.sz ps[k].2 (Nat.le_refl _) (by omega), ?_⟩;refine ⟨by simp [eSs]; omega, xH _, xH _, ?_⟩;refine ⟨⟨k + 1, h⟩, (show ps.length - (k + 1) < ps.length - k by omega), ⟨rfl, rfl, rfl, rfl, rfl, ?_, ?_, ?_, rfl, rfl, ?_, trivial⟩, ⟨rfl, rfl, rfl, trivial⟩, rfl⟩
        · rw [ht]; exact congrArg (fun l => SV.v (AV.sl l)) (zHM _ ps[k].1 ps[k].2)
        · rw [ht]; exact congrArg (fun l => SV.v (AV.sl l)) (zHE _ ps[k].1 ps[k].2)
        · rw [ht, zG3]; exact congrArg (fun l => SV.v (AV.sl l)) (zMQ _ _)
        · exact congrArg (fun n => SV.v (AV.lit (Value.int .i64 n))) wk'
      · rw [if_neg (by rw [h4]; simp), List.append_nil] at ht
        refine ⟨⟨k + 1, h⟩, (show ps.length - (k + 1) < ps.length - k by omega), ⟨rfl, rfl, rfl, rfl, rfl, ?_, ?_, ?_, rfl, rfl, ?_, trivial⟩, ⟨rfl, rfl, rfl, trivial⟩, rfl⟩
        · rw [ht]; rfl
        · rw [ht]; rfl
        · rw [ht]; rfl
        · exact congrArg (fun n => SV.v (AV.lit (Value.int .i64 n))) wk'
    · rw [if_neg (by
        have h5 : ps[k].1 = s := Classical.byContradiction fun e => by
          have h3' : (!decide (ps[k].1 = s)) = false := h3;rw [decide_eq_false e] at h3'; cases h3'
        rw [decide_eq_false (p := ps[k].1 ≠ s) (fun h => h h5)]; simp), List.append_nil] at ht
      refine ⟨⟨k + 1, h⟩, (show ps.length - (k + 1) < ps.length - k by omega), ⟨rfl, rfl, rfl, rfl, rfl, ?_, ?_, ?_, rfl, rfl, ?_, trivial⟩, ⟨rfl, rfl, rfl, trivial⟩, rfl⟩
      · rw [ht]; rfl
      · rw [ht]; rfl
      · rw [ht]; rfl
      · exact congrArg (fun n => SV.v (AV.lit (Value.int .i64 n))) wk'
  · have h : k = ps.length := by simp [qB] at h; omega
    subst h;simp only [List.take_length] at hkl hcl hK1 ⊢;obtain ⟨q, hq⟩ : ∃ q, q = kept s (fv a) ps := ⟨_, rfl⟩
    rw [<- hq] at hkl hcl hK1 h0 h1 ⊢;refine .inl ⟨_, yP (l := caught q) (s := s) (by omega), ?_⟩;refine ⟨fun h3 => ?_, fun h3 => ?_⟩
    · obtain ⟨z, hz⟩ : ∃ z, z = lett (ff (caught q ++ fv a)) := ⟨_, rfl⟩
      have es : sub (.all s a) ps = .all z (sub a (q ++ [(s, .var z)])) := by rw [sub, <- hq, if_pos h3, <- hz]
      rw [es];have hl := zQA (l := caught q ++ fv a) (by omega) (by simp; omega);rw [<- hz] at hl h1;rw [<- zMQ] at hl;have hi := ih (K + 2) _ h1.2;unfold xM at hi;rw [<- zHM, <- zHE] at hi;refine ⟨by simp [eSs]; omega, xH _, xH _, ?_⟩;refine .inl ⟨_, hl, ?_⟩;refine ⟨by simp [qB]; omega, zT1 _, xH [_], ?_⟩;refine .inl ⟨_, zIZ z, ?_⟩;refine ⟨by simp [zDD]; omega, zUG _, zGC [_], ?_⟩;refine .inl ⟨_, hi, ?_⟩;refine .inl ⟨_, zLU z _, ?_⟩;exact rfl
    · have es : sub (.all s a) ps = .all s (sub a q) := by rw [sub, <- hq, if_neg (by rw [h3]; simp)]
      rw [es];refine .inl ⟨_, ih (K + 1) q h0, ?_⟩;refine .inl ⟨_, zLU s _, ?_⟩;exact rfl
theorem jZ (N:Nat):∀(t:Tp),t.sz<=N->∀(K:Nat) (ps:Env'),FitX K t ps->xM t ps:=by
 induction N with
 | zero=>intro t h;have:=jE t;omega
 | succ N ih =>
  intro t h K ps hf;have fin:∀t:Tp,¬t.form=2->¬t.form=4->¬t.form=5->xM t ps:=fun t h2 h4 h5=>by
   have es:sub t ps=t:=by cases t<;>first|rfl|exact absurd rfl h2|exact absurd rfl h4|exact absurd rfl h5
   unfold xM;rw[es];refine zA ttok mixed Tryz.func43 rfl (by rfl) (Nat.le_of_ble_eq_true rfl) (by kernel_rfl) ?_;refine⟨fun h=>absurd (by simpa using h) h2,fun _=>?_⟩;refine⟨fun h=>absurd (by simpa using h) h4,fun _=>?_⟩;refine⟨fun h=>absurd (by simpa using h) h5,fun _=>?_⟩;refine .inl ⟨_,qR t,?_⟩;exact rfl
  cases t with
  | no=>exact fin _ (by decide) (by decide) (by decide)
  | mt n=>exact fin _ (by simp[Tp.form]) (by simp[Tp.form]) (by simp[Tp.form])
  | con s=>exact fin _ (by simp[Tp.form]) (by simp[Tp.form]) (by simp[Tp.form])
  | var x =>
   refine zA ttok mixed Tryz.func43 rfl (by rfl) (Nat.le_of_ble_eq_true rfl) (by kernel_rfl) ?_;have hm:=hf.many;refine⟨fun _=>?_,fun h=>(by cases h)⟩;refine .inl ⟨_,zNA (l:=ps.map (fun p:ByteArray×Tp=>p.1)) (s:=x) (by simp;omega),?_⟩;rcases zMA (x:=x) (ps:=ps) with⟨h1,h2⟩|⟨k,hk,h1,h2⟩
   ·have es:sub (.var x) ps = .var x:=by simp[sub,h1]
    rw[es,zFV h2];refine⟨fun h=>(by cases h),fun _=>?_⟩;refine .inl ⟨_,qR (.var x),?_⟩;exact rfl
   ·have es:sub (.var x) ps=ps[k].2:=by simp[sub,h2]
    rw[es,h1];refine⟨fun _=>?_,fun h=>(by simp at h)⟩;refine⟨_,by omega,zGB hk,rfl,?_⟩;refine .inl ⟨_,qR _,?_⟩;exact rfl
  | app a b =>
   simp only[Tp.sz] at h;refine zA ttok mixed Tryz.func43 rfl (by rfl) (Nat.le_of_ble_eq_true rfl) (by kernel_rfl) ?_;refine⟨fun h=>(by cases h),fun _=>?_⟩;refine⟨fun _=>?_,fun h=>(by cases h)⟩;refine⟨_,by decide,rfl,rfl,?_⟩;refine .inl ⟨_,ih a (by omega) K ps hf.app.1,?_⟩;refine⟨_,by decide,rfl,rfl,?_⟩;refine .inl ⟨_,ih b (by omega) K ps hf.app.2,?_⟩;refine .inl ⟨_,zER _ _,?_⟩;exact rfl
  | all s a =>
   simp only[Tp.sz] at h;refine zA ttok mixed Tryz.func43 rfl (by rfl) (Nat.le_of_ble_eq_true rfl) (by kernel_rfl) ?_;refine⟨fun h=>(by cases h),fun _=>?_⟩;refine⟨fun h=>(by cases h),fun _=>?_⟩;refine⟨fun _=>?_,fun h=>(by cases h)⟩;refine .inl ⟨_,zTE hf (fun K ps hf=>ih a (by omega) K ps hf),?_⟩;exact rfl
theorem zQE (n:Nat) (hn:n<=100000):CallsG Tryz.prog (fnv 148) [] [.nil,.lit (.int .i64 (n:Nat))] [] fun r o h=>r = .sl []/\o=6/\h=[]:=by
 have w0:IntKind.i64.wrap ((n:Int)-IntKind.i64.wrap (0-(([]:List AV).length:Nat)))=(n:Int):=by
  rw[show IntKind.i64.wrap (0-(([]:List AV).length:Nat))=0 from rfl,Int.sub_zero];exact yN (by omega)
 refine CallsG.opened (esz:=5) (zIK (os:=[6]) ttok mixed Tryz.func148 rfl (by rfl) (fun i sz h=>?_) (Nat.le_of_ble_eq_true rfl) (by kernel_rfl) (post:=zWA 5) ?_) (fun r o h hp=>hp)
 ·match i with
  | 0=>rfl
  | i+1=>simp at h
 refine⟨fun h=>?_,fun _=>?_⟩
 ·have h:=of_decide_eq_true h;omega
 refine⟨fun h=>?_,fun h=>?_⟩
 ·have h:=of_decide_eq_true h;rw[w0] at h;refine .inl ⟨rfl,rfl,?_⟩;refine⟨n,w0,by omega,by omega,fun b cap zs h1 h2=>?_⟩;refine⟨by decide,by decide,by exact_mod_cast Nat.zero_le _,?_⟩;refine .inr ⟨rfl,b,cap,zs,?_,rfl,by omega⟩;have e:∀A B:Option Addr,A=some ⟨b,0,none⟩->B=some ⟨b,0,none⟩->AV.lit (.slice (if cap=0 then A else B) 0 cap) = .lit (.slice (some ⟨b,0,none⟩) 0 cap):=fun A B hA hB=>by rw[hA,hB];split<;>rfl
  exact e _ _ rfl rfl
 ·exact .inl ⟨rfl,rfl,rfl⟩
theorem zLK (ls:List (List AV)) (hn:ls.length<10000) (hu:∀l∈ls,Uni 5 l) (ht:ls.flatten.length<=100000):zC Tryz.prog 137 [.sl (ls.map AV.sl)] (.sl ls.flatten):=by
 refine zB ttok mixed Tryz.func137 rfl (by rfl) (Nat.le_of_ble_eq_true rfl) (by kernel_rfl) ?_;have hml:(ls.map AV.sl).length=ls.length:=by simp
 refine⟨{k:Nat // k<=ls.length},fun k=>{vs:=[(0,.v (.sl (ls.map AV.sl))),(3,sv ((ls.take k.1).flatten.length:Nat)),(9,.v (.sl (ls.map AV.sl))),(10,sv (ls.length:Nat)),(11,sv (k.1:Nat))]},
  fun k=>ls.length-k.1,⟨0,Nat.zero_le _⟩,⟨⟨rfl,rfl,rfl,svc (by rw[hml]),rfl,trivial⟩,trivial,rfl⟩,?_⟩
 rintro⟨k,hk⟩;refine⟨fun h=>?_,fun h=>?_⟩
 ·have h:k<ls.length:=by have h:=of_decide_eq_true h;simp only at h;omega
  have hfl:=zH9 h;have hle:=zIF ls (k+1);refine⟨.sl ls[k],by omega,z2H (f:=AV.sl) h,rfl,?_⟩;have w1:IntKind.i64.wrap (((ls.take k).flatten.length:Nat)+(ls[k].length:Nat))=((ls.take (k+1)).flatten.length:Nat):=by
   rw[hfl,List.length_append,<-Int.natCast_add];exact yN (by rw[hfl,List.length_append] at hle;omega)
  refine⟨fun h2=>?_,fun _=>?_⟩
  ·have h2:=of_decide_eq_true h2;simp only[w1] at h2;omega
  exact⟨⟨k+1,h⟩,by simp;omega,⟨rfl,svc w1,rfl,rfl,svc (wrap_succ (k:=k) (by omega)),trivial⟩,trivial,rfl⟩
 ·have h:k=ls.length:=by have h:=of_decide_eq_false h;simp only at h;omega
  subst h;have hg:=zQE ls.flatten.length ht;rw[show ls.flatten.length=(ls.take ls.length).flatten.length by rw[List.take_length]] at hg;refine .inr (.inr (.inr (.inr (.inr (.inl ⟨[],[],[],_,rfl,List.nodup_nil,rfl,hg,?_⟩)))));rintro r w hout ⟨rfl,rfl,rfl⟩;refine⟨{k:Nat // k<=ls.length},fun k=>{vs:=[(6,.v (.sl (ls.take k.1).flatten)),(25,.v (.sl (ls.map AV.sl))),(26,sv (ls.length:Nat)),(27,sv (k.1:Nat))],ow:=[(6,0,6)]},
   fun k=>ls.length-k.1,⟨0,Nat.zero_le _⟩,⟨⟨rfl,rfl,svc (by rw[hml]),rfl,trivial⟩,⟨rfl,trivial⟩,rfl⟩,?_⟩
  rintro⟨k,hk⟩;refine⟨fun h=>?_,fun h=>?_⟩
  ·have h:k<ls.length:=by have h:=of_decide_eq_true h;simp only at h;omega
   have hfl:=zH9 h;have hle:=zIF ls (k+1);refine⟨.sl ls[k],by omega,z2H (f:=AV.sl) h,rfl,?_⟩;refine⟨by rw[hfl,List.length_append] at hle;simp only;omega,zUO hu k,hu _ (List.getElem_mem h),?_⟩;refine⟨⟨k+1,h⟩,by simp;omega,⟨?_,rfl,rfl,svc (wrap_succ (k:=k) (by omega)),trivial⟩,⟨rfl,trivial⟩,rfl⟩;show _=SV.v (AV.sl (ls.take (k+1)).flatten);rw[hfl];rfl
  ·have h:k=ls.length:=by have h:=of_decide_eq_false h;simp only at h;omega
   subst h;show AV.sl (ls.take ls.length).flatten=_;rw[List.take_length]
structure Fd where
 nm:ByteArray
 tag:Int
 many:Int
 ar:Int
 t:Tp
abbrev Nm2:=ByteArray×Tp
def eFd (f:Fd):AV := .agg [.lit (.string f.nm),.lit (.int .i64 f.tag),.lit (.int .i64 f.many),.lit (.int .i64 f.ar),.lit (.int .i64 f.t.form),.lit (.int .i64 f.t.num),.lit (.string f.t.nam),.sl f.t.eArgs]
def eNa (x:Nm2):AV := .agg [.lit (.string x.1),.lit (.int .i64 x.2.form),.lit (.int .i64 x.2.num),.lit (.string x.2.nam),.sl x.2.eArgs]
def zA8 (l:List Fd):List AV:=l.map eFd
def wQ (l:List Nm2):List AV:=l.map eNa
structure Wd where
 fs:List Fd
 env:List Nm2
 ps:Env'
 deep:Nat
def eW (w:Wd):AV := .agg [.sl (zA8 w.fs),.sl (wQ w.env),.sl (eN w.ps),.sl (eB w.ps),.lit (.int .i64 (w.deep:Nat))]
theorem zSJ (l:List Nm2):Uni 5 (wQ l):=fun a ha=>by obtain⟨x,_,rfl⟩:=List.mem_map.1 ha;rfl
def Wd.more (w:Wd) (l:List Nm2):Wd:={w with env:=w.env++l}
theorem zHI (w:Wd) (l:List Nm2) (h:w.env.length+l.length<=100000):zC Tryz.prog 105 [eW w,.sl (wQ l)] (eW (w.more l)):=by
 have hc:=zLK [wQ w.env,wQ l] (by simp) (fun m hm=>by
  rcases List.mem_cons.1 hm with rfl|hm
  ·exact zSJ _
  ·rw[List.mem_singleton.1 hm];exact zSJ _) (by simp[wQ];omega)
 rw[show [wQ w.env,wQ l].flatten=wQ (w.env++l) by simp[wQ]] at hc;refine zB ttok mixed Tryz.func105 rfl (by rfl) (Nat.le_of_ble_eq_true rfl) (by kernel_rfl) ?_;refine .inl ⟨_,hc,?_⟩;exact rfl
noncomputable def Wd.mean (w:Wd) (t:Tp):Tp:=sub t w.ps
theorem zAN (w:Wd) (t:Tp) {K:Nat} (hf:FitX K t w.ps):zC Tryz.prog 106 [eW w,eTy t] (eTy (w.mean t)):=by
 refine zB ttok mixed Tryz.func106 rfl (by rfl) (Nat.le_of_ble_eq_true rfl) (by kernel_rfl) ?_;refine .inl ⟨_,jZ t.sz t (Nat.le_refl _) K w.ps hf,?_⟩;exact rfl
theorem zLG (w:Wd) (c:Cr):zC Tryz.prog 118 [eW w,eC c] (eTy (.con ⟨#[73,110,116]⟩)):=by
 refine zB ttok mixed Tryz.func118 rfl (by rfl) (Nat.le_of_ble_eq_true rfl) (by kernel_rfl) ?_;refine .inl ⟨_,zBZ _,?_⟩;exact rfl
theorem zR1 (w:Wd) (c:Cr) {K:Nat} (hf:FitX K c.t w.ps):zC Tryz.prog 126 [eW w,eC c] (eTy (w.mean c.t)):=by
 refine zB ttok mixed Tryz.func126 rfl (by rfl) (Nat.le_of_ble_eq_true rfl) (by kernel_rfl) ?_;refine .inl ⟨_,zAN w c.t hf,?_⟩;exact rfl
def fE (k:Int) (n:Int) (f:Nat):AV×AV:=(.lit (.int .i64 k),.agg [.lit (.int .i64 n),.lit (fnv f)])
def frmL:List (AV×AV):=[fE 1 0 116,fE 2 0 117,fE 3 0 118,fE 4 2 119,fE 5 1 120,fE 6 1 121,fE 7 1 122,fE 8 1 123,fE 9 1 124,fE 10 2 125,fE 11 0 126]
theorem zVO:∀p∈frmL,qO (.lit (.int .i64 0)) p.1:=by
 intro p hp;simp only[frmL,fE,List.mem_cons,List.not_mem_nil,or_false] at hp;rcases hp with rfl|rfl|rfl|rfl|rfl|rfl|rfl|rfl|rfl|rfl|rfl<;>rfl
theorem qK (n:Nat):∀p∈frmL.take n,qO (.lit (.int .i64 0)) p.1:=fun p hp=>zVO p (List.mem_of_mem_take hp)
theorem zN2:zC Tryz.prog 77 [] (.mpv frmL):=by
 refine CallsG.pure (post:=fun r o h=>o=0/\∃b,r = .lit (.map (some b))/\h=[(b,HO.mp frmL)]) ?_ (by
  rintro r o h ⟨rfl,b,rfl,rfl⟩;exact⟨.mp b frmL frmL (by simp) rfl (fun j c c' h1 h2=>by rw[h1] at h2;injection h2 with h2;subst h2;exact .refl _) (fun j c c' h1 h2=>by rw[h1] at h2;injection h2 with h2;subst h2;exact .refl _),rfl⟩)
 refine zN (first:=[]) (cap:=[]) ttok mixed Tryz.func77 rfl (by rfl) rfl (Nat.le_of_ble_eq_true rfl) (by kernel_rfl) ?_;refine Wsem.seq ttok mixed ?_;refine Wsem.seqS (Wsem.regionIns ttok (by kernel_rfl) ?_);intro b;refine⟨0,frmL.take 0,none,rfl,qK 0,rfl,.no (by intro p hp;simp at hp),?_⟩;refine⟨0,frmL.take 1,none,rfl,qK 1,rfl,.no (by intro p hp;simp[frmL,fE] at hp;rcases hp with rfl<;>simp),?_⟩;refine⟨0,frmL.take 2,none,rfl,qK 2,rfl,.no (by intro p hp;simp[frmL,fE] at hp;rcases hp with rfl|rfl<;>simp),?_⟩;refine⟨0,frmL.take 3,none,rfl,qK 3,rfl,.no (by intro p hp;simp[frmL,fE] at hp;rcases hp with rfl|rfl|rfl<;>simp),?_⟩;refine⟨0,frmL.take 4,none,rfl,qK 4,rfl,.no (by intro p hp;simp[frmL,fE] at hp;rcases hp with rfl|rfl|rfl|rfl<;>simp),?_⟩;refine⟨0,frmL.take 5,none,rfl,qK 5,rfl,.no (by intro p hp;simp[frmL,fE] at hp;rcases hp with rfl|rfl|rfl|rfl|rfl<;>simp),?_⟩;refine⟨0,frmL.take 6,none,rfl,qK 6,rfl,.no (by intro p hp;simp[frmL,fE] at hp;rcases hp with rfl|rfl|rfl|rfl|rfl|rfl<;>simp),?_⟩;refine⟨0,frmL.take 7,none,rfl,qK 7,rfl,.no (by intro p hp;simp[frmL,fE] at hp;rcases hp with rfl|rfl|rfl|rfl|rfl|rfl|rfl<;>simp),?_⟩;refine⟨0,frmL.take 8,none,rfl,qK 8,rfl,.no (by intro p hp;simp[frmL,fE] at hp;rcases hp with rfl|rfl|rfl|rfl|rfl|rfl|rfl|rfl<;>simp),?_⟩;refine⟨0,frmL.take 9,none,rfl,qK 9,rfl,.no (by intro p hp;simp[frmL,fE] at hp;rcases hp with rfl|rfl|rfl|rfl|rfl|rfl|rfl|rfl|rfl<;>simp),?_⟩
 refine⟨0,frmL.take 10,none,rfl,qK 10,rfl,.no (by intro p hp;simp[frmL,fE] at hp;rcases hp with rfl|rfl|rfl|rfl|rfl|rfl|rfl|rfl|rfl|rfl<;>simp),?_⟩;refine Wsem.of ttok mixed ?_;exact⟨rfl,b,rfl,rfl⟩
theorem zXV (N:Nat):∀(a b:Tp) (x y:List ByteArray),a.sz<=N->x.length+dp a<=4000000000->y.length+dp a<=4000000000->zC Tryz.prog zME [eTy a,eTy b,.sl (eSs x),.sl (eSs y)] (.sb (smb a b x y)):=by
 induction N with
 | zero=>intro a b x y h;have:=jE a;omega
 | succ N ih =>
  intro a b x y hs hx hy;have hxl:(eSs x).length=x.length:=by simp[eSs]
  have hyl:(eSs y).length=y.length:=by simp[eSs]
  by_cases hform:a.form=b.form
  ·cases a<;>cases b<;>try (simp[Tp.form] at hform;done)
   ·refine zA ttok mixed Tryz.func138 rfl (by rfl) (Nat.le_of_ble_eq_true rfl) (by kernel_rfl) ?_;refine⟨fun _=>?_,fun h=>(by cases h)⟩;refine⟨fun _=>?_,fun h=>(by cases h)⟩;refine⟨fun h=>(by cases h),fun _=>?_⟩;refine⟨fun h=>(by cases h),fun _=>?_⟩;refine⟨fun h=>(by cases h),fun _=>?_⟩;refine⟨fun h=>(by simp at h),fun _=>?_⟩;refine⟨{k:Nat // k<=0},fun k=>{vs:=[(97,.v (.lit (.int .i64 0))),(98,.v (.lit (.int .i64 0)))],ow:=[]},fun _=>0,⟨0,Nat.le_refl _⟩,⟨⟨rfl,rfl,trivial⟩,trivial,rfl⟩,?_⟩;rintro⟨k,hk⟩;refine⟨fun h=>(by cases h),fun _=>?_⟩;exact rfl
   ·rename_i n m;refine zA ttok mixed Tryz.func138 rfl (by rfl) (Nat.le_of_ble_eq_true rfl) (by kernel_rfl) ?_;refine⟨fun _=>?_,fun h=>(by cases h)⟩;refine⟨fun h=>?_,fun h=>?_⟩
    ·have hnm:n=m:=Classical.byContradiction fun e=>by
      have h':(!decide (n=m))=false:=h;rw[decide_eq_false e] at h';cases h'
     subst hnm;have es:smb (.mt n) (.mt n) x y=true:=by simp[smb]
     rw[es];refine⟨fun h=>(by cases h),fun _=>?_⟩;refine⟨fun h=>(by cases h),fun _=>?_⟩;refine⟨fun h=>(by cases h),fun _=>?_⟩;refine⟨fun h=>(by simp at h),fun _=>?_⟩;refine⟨{k:Nat // k<=0},fun k=>{vs:=[(97,.v (.lit (.int .i64 0))),(98,.v (.lit (.int .i64 0)))],ow:=[]},fun _=>0,⟨0,Nat.le_refl _⟩,⟨⟨rfl,rfl,trivial⟩,trivial,rfl⟩,?_⟩;rintro⟨k,hk⟩;refine⟨fun h=>(by cases h),fun _=>?_⟩;exact rfl
    ·have es:smb (.mt n) (.mt m) x y=false:=by
      have h':(!decide (n=m))=true:=h;simpa[smb] using h'
     rw[es];exact rfl
   ·rename_i s r;refine zA ttok mixed Tryz.func138 rfl (by rfl) (Nat.le_of_ble_eq_true rfl) (by kernel_rfl) ?_;refine⟨fun _=>?_,fun h=>(by cases h)⟩;refine⟨fun _=>?_,fun h=>(by cases h)⟩;refine⟨fun h=>(by cases h),fun _=>?_⟩;refine⟨fun h=>(by cases h),fun _=>?_⟩;refine⟨fun _=>?_,fun h=>(by cases h)⟩;refine .inl ⟨_,zMY (l:=x) (s:=s) (by omega),?_⟩;refine .inl ⟨_,zMY (l:=y) (s:=r) (by omega),?_⟩;refine⟨fun h1=>?_,fun h1=>?_⟩
    ·refine⟨fun h2=>?_,fun h2=>?_⟩
     ·have es:smb (.var s) (.var r) x y=decide (s=r):=by
       simp only[smb];rw[h1,h2];rfl
      rw[es];exact rfl
     ·have es:smb (.var s) (.var r) x y=true:=by
       simp only[smb];rw[h1,h2];rfl
      rw[es];exact rfl
    ·have es:smb (.var s) (.var r) x y=false:=by
      simp only[smb];rw[h1];rfl
     rw[es];exact rfl
   ·rename_i s r;refine zA ttok mixed Tryz.func138 rfl (by rfl) (Nat.le_of_ble_eq_true rfl) (by kernel_rfl) ?_;refine⟨fun _=>?_,fun h=>(by cases h)⟩;refine⟨fun _=>?_,fun h=>(by cases h)⟩;refine⟨fun h=>(by cases h),fun _=>?_⟩;refine⟨fun h=>(by cases h),fun _=>?_⟩;refine⟨fun h=>(by cases h),fun _=>?_⟩;refine⟨fun h=>?_,fun h=>?_⟩
    ·have es:smb (.con s) (.con r) x y=false:=by
      have h':(!decide (s=r))=true:=h;simpa[smb] using h'
     rw[es];exact rfl
    ·have es:smb (.con s) (.con r) x y=true:=by
      have h':(!decide (s=r))=false:=h;simpa[smb] using h'
     rw[es];refine⟨{k:Nat // k<=0},fun k=>{vs:=[(97,.v (.lit (.int .i64 0))),(98,.v (.lit (.int .i64 0)))],ow:=[]},fun _=>0,⟨0,Nat.le_refl _⟩,⟨⟨rfl,rfl,trivial⟩,trivial,rfl⟩,?_⟩;rintro⟨k,hk⟩;refine⟨fun h=>(by cases h),fun _=>?_⟩;exact rfl
   ·rename_i a1 a2 b1 b2;simp only[Tp.sz] at hs;simp only[dp] at hx hy;have i1:=ih a1 b1 x y (by omega) (by omega) (by omega);have i2:=ih a2 b2 x y (by omega) (by omega) (by omega);refine zA ttok mixed Tryz.func138 rfl (by rfl) (Nat.le_of_ble_eq_true rfl) (by kernel_rfl) ?_;refine⟨fun _=>?_,fun h=>(by cases h)⟩;refine⟨fun _=>?_,fun h=>(by cases h)⟩;refine⟨fun h=>(by cases h),fun _=>?_⟩;refine⟨fun h=>(by cases h),fun _=>?_⟩;refine⟨fun h=>(by cases h),fun _=>?_⟩;refine⟨fun h=>(by simp[Tp.nam] at h),fun _=>?_⟩;refine⟨{k:Nat // k=0∨(k=1/\smb a1 b1 x y=true)∨(k=2/\smb a1 b1 x y=true/\smb a2 b2 x y=true)},fun k=>{vs:=[(2,.v (.sl (eSs x))),(3,.v (.sl (eSs y))),(4,.box 0 (eTy (.app a1 a2))),(5,.box 0 (eTy (.app b1 b2))),(97,.v (.lit (.int .i64 2))),(98,.v (.lit (.int .i64 (k.1:Nat))))],ow:=[]},
     fun k=>2-k.1,⟨0,.inl rfl⟩,⟨⟨rfl,rfl,rfl,rfl,rfl,rfl,trivial⟩,trivial,rfl⟩,?_⟩
    rintro⟨k,rfl|⟨rfl,h1⟩|⟨rfl,h1,h2⟩⟩
    ·refine⟨fun _=>?_,fun h=>(by cases h)⟩;refine⟨eTy a1,Int.le_refl 0,rfl,rfl,?_⟩;refine⟨eTy b1,Int.le_refl 0,rfl,rfl,?_⟩;refine .inl ⟨_,i1,?_⟩;refine⟨fun h=>?_,fun h=>?_⟩
     ·have es:smb (.app a1 a2) (.app b1 b2) x y=false:=by
       have h':smb a1 b1 x y=false:=by simpa using h
       simp[smb,h']
      rw[es];exact rfl
     ·have h':smb a1 b1 x y=true:=by simpa using h
      exact⟨⟨1,.inr (.inl ⟨rfl,h'⟩)⟩,(show 2-1<2-0 by omega),⟨rfl,rfl,rfl,rfl,rfl,rfl,trivial⟩,trivial,rfl⟩
    ·refine⟨fun _=>?_,fun h=>(by cases h)⟩;refine⟨eTy a2,Int.natCast_nonneg 1,rfl,rfl,?_⟩;refine⟨eTy b2,Int.natCast_nonneg 1,rfl,rfl,?_⟩;refine .inl ⟨_,i2,?_⟩;refine⟨fun h=>?_,fun h=>?_⟩
     ·have es:smb (.app a1 a2) (.app b1 b2) x y=false:=by
       have h':smb a2 b2 x y=false:=by simpa using h
       simp[smb,h']
      rw[es];exact rfl
     ·have h':smb a2 b2 x y=true:=by simpa using h
      exact⟨⟨2,.inr (.inr ⟨rfl,h1,h'⟩)⟩,(show 2-2<2-1 by omega),⟨rfl,rfl,rfl,rfl,rfl,rfl,trivial⟩,trivial,rfl⟩
    ·refine⟨fun h=>(by cases h),fun _=>?_⟩;have es:smb (.app a1 a2) (.app b1 b2) x y=true:=by simp[smb,h1,h2]
     rw[es];exact rfl
   ·rename_i s a r b;simp only[Tp.sz] at hs;simp only[dp] at hx hy;have i1:=ih a b (x++[s]) (y++[r]) (by omega) (by simp;omega) (by simp;omega);rw[<-zB3,<-zB3] at i1;have hfx:=zLC (eSs x);have hfy:=zLC (eSs y);rw[<-hfx,<-hfy] at i1;refine zA ttok mixed Tryz.func138 rfl (by rfl) (Nat.le_of_ble_eq_true rfl) (by kernel_rfl) ?_;refine⟨fun _=>?_,fun h=>(by cases h)⟩;refine⟨fun _=>?_,fun h=>(by cases h)⟩;refine⟨fun h=>(by cases h),fun _=>?_⟩;refine⟨fun _=>?_,fun h=>(by cases h)⟩;refine⟨_,by decide,rfl,rfl,?_⟩;refine⟨_,by decide,rfl,rfl,?_⟩;refine⟨by decide,by omega,Int.le_refl _,rfl,.inl rfl,?_⟩;refine⟨by rw[hfx,hxl];simp;omega,by rw[hfx];exact xH _,xH [_],?_⟩;refine⟨by decide,by omega,Int.le_refl _,rfl,.inl rfl,?_⟩;refine⟨by rw[hfy,hyl];simp;omega,by rw[hfy];exact xH _,xH [_],?_⟩;refine .inl ⟨_,i1,?_⟩;exact rfl
  ·have es:smb a b x y=false:=by cases a<;>cases b<;>first|rfl|exact absurd rfl hform
   rw[es];refine zA ttok mixed Tryz.func138 rfl (by rfl) (Nat.le_of_ble_eq_true rfl) (by kernel_rfl) ?_;refine⟨fun h=>?_,fun _=>?_⟩
   ·have h':(!decide (a.form=b.form))=false:=h;rw[decide_eq_false hform] at h';cases h'
   ·exact rfl
theorem qF (a b:Tp) (h:dp a<1000000000):zC Tryz.prog zLZ [eTy a,eTy b] (.sb (smb a b [] [])):=by
 refine zA ttok mixed Tryz.func107 rfl (by rfl) (Nat.le_of_ble_eq_true rfl) (by kernel_rfl) ?_;refine .inl ⟨_,zXV a.sz a b [] [] (Nat.le_refl _) (by simp;omega) (by simp;omega),?_⟩;exact rfl
theorem yF {b:Bool} (h:b=true):zC Tryz.prog 78 [.sb b] (.tup []):=by subst h;exact zXK
theorem zAR {b:Bool} (h:b=false):wM Tryz.prog 78 [.sb b] jS:=by subst h;exact zWT
theorem z0J (f:Fd) (s:ByteArray) (ts:List AV):zC Tryz.prog 153 [eFd f,.ptr (.lit (.string s)::ts)] (.sb (decide (f.nm=s))):=by
 refine zB ttok mixed Tryz.func153 rfl (by rfl) (Nat.le_of_ble_eq_true rfl) (by kernel_rfl) ?_;exact rfl
theorem z0H {l:List Fd} {k:Nat} (h:k<l.length):(zA8 l)[k]? = some (eFd l[k]):=by simp[zA8,h]
theorem z2R (l:List Fd):(zA8 l).length=l.length:=by simp[zA8]
theorem zZA (fs:List Fd) (s:ByteArray) (ts:List AV) (hl:fs.length<10000000):zC Tryz.prog 152 [.sl (zA8 fs),.fn (.func 153) [] [.ptr (.lit (.string s)::ts)]] (.lit (.int .i64 (ixI (fs.map Fd.nm) s))):=by
 refine zB ttok mixed Tryz.func152 rfl (by rfl) (Nat.le_of_ble_eq_true rfl) (by kernel_rfl) ?_;refine⟨{k:Nat // k<=fs.length/\∀j,j<k->(fs.map Fd.nm)[j]?≠some s},fun k=>{vs:=[(0,.v (.sl (zA8 fs))),(1,.v (.fn (.func 153) [] [.ptr (.lit (.string s)::ts)])),(7,sv (fs.length:Nat)),(8,sv (k.1:Nat))]},
  fun k=>fs.length-k.1,⟨0,Nat.zero_le _,fun j h=>by omega⟩,⟨⟨rfl,rfl,svc (by rw[z2R]),rfl,trivial⟩,trivial,rfl⟩,?_⟩
 rintro⟨k,hk,hinv⟩;refine⟨fun h=>?_,fun h=>?_⟩
 ·have h:k<fs.length:=by have h:=of_decide_eq_true h;simp only at h;omega
  have hm:(fs.map Fd.nm)[k]? = some fs[k].nm:=by simp[h]
  refine⟨_,by omega,z0H h,rfl,?_⟩;refine .inl ⟨_,z0J fs[k] s ts,?_⟩;refine⟨fun h2=>?_,fun h2=>?_⟩
  ·have h2:fs[k].nm=s:=of_decide_eq_true h2;have:ixI (fs.map Fd.nm) s=(k:Nat):=zIL (l:=fs.map Fd.nm) (by simpa using h) (by simpa using h2) hinv;rw[this];exact rfl
  ·have h2:¬fs[k].nm=s:=of_decide_eq_false h2;refine⟨⟨k+1,h,fun j hj=>?_⟩,by simp;omega,⟨rfl,rfl,rfl,svc (wrap_succ (k:=k) (by omega)),trivial⟩,trivial,rfl⟩;rcases Nat.lt_or_ge j k with hlt|hge
   ·exact hinv j hlt
   ·have:j=k:=by omega
    subst this;rw[hm];intro e;exact h2 (Option.some.inj e)
 ·have h:k=fs.length:=by have h:=of_decide_eq_false h;simp only at h;omega
  have:ixI (fs.map Fd.nm) s = -1:=zFV (jD fun j hj=>hinv j (by rw[List.length_map] at hj;omega));rw[this];exact rfl
theorem zN8 (w:Wd) (s:ByteArray) {i:Nat} (hl:w.fs.length<10000000) (hi:i<w.fs.length) (hix:ixI (w.fs.map Fd.nm) s=(i:Nat)):zC Tryz.prog 141 [eW w,.lit (.string s)] (eFd w.fs[i]):=by
 refine zB ttok mixed Tryz.func141 rfl (by rfl) (Nat.le_of_ble_eq_true rfl) (by kernel_rfl) ?_;refine .inl ?_;refine .inl ⟨_,zZA w.fs s [] hl,?_⟩;rw[hix];refine .inl ⟨_,yF (decide_eq_true (by omega)),?_⟩;refine⟨_,by omega,z0H hi,rfl,?_⟩;exact rfl
theorem zZF (w:Wd) (c:Cr) {i:Nat} (hl:w.fs.length<10000000) (hi:i<w.fs.length) (hix:ixI (w.fs.map Fd.nm) c.s=(i:Nat)):zC Tryz.prog 117 [eW w,eC c] (eTy w.fs[i].t):=by
 refine zB ttok mixed Tryz.func117 rfl (by rfl) (Nat.le_of_ble_eq_true rfl) (by kernel_rfl) ?_;refine .inl ⟨_,zN8 w c.s hl hi hix,?_⟩;exact rfl
def zFM (s:ByteArray) (ps:Env'):Env':=ps.filter fun p=>decide (p.1≠s)
def Wd.all (w:Wd) (s own:ByteArray):Wd:={w with ps:=zFM s w.ps++[(s,.var own)],deep:=w.deep+1}
theorem zP2 (ps:Env'):(eN ps).length=ps.length:=by simp[eN,eSs]
theorem zW1 (ps:Env'):(eB ps).length=ps.length:=by simp[eB,zJ]
theorem zVP (a b:Env'):eN (a++b)=eN a++eN b:=by simp[eN,eSs]
theorem zX7 (a b:Env'):eB (a++b)=eB a++eB b:=by simp[eB,zJ]
theorem z1Y {ps:Env'} {k:Nat} (h:k<ps.length):(eN ps)[k]? = some (.lit (.string ps[k].1)):=by simp[eN,eSs,h]
theorem z2G {ps:Env'} {k:Nat} (h:k<ps.length):(eB ps)[k]? = some (eTy ps[k].2):=by simp[eB,zJ,h]
theorem zUH {s:ByteArray} {ps:Env'} {k:Nat} (h:k<ps.length):zFM s (ps.take (k+1))=zFM s (ps.take k)++(if ps[k].1=s then [] else [ps[k]]):=by
 unfold zFM;rw[List.take_succ_eq_append_getElem h,List.filter_append];by_cases e:ps[k].1=s
 ·rw[if_pos e];simp[e]
 ·rw[if_neg e];simp[e]
theorem zYH (s:ByteArray) (ps:Env'):(zFM s ps).length<=ps.length:=List.length_filter_le _ _
theorem zAW (l:List Tp):Uni 4 (zJ l):=fun a ha=>by obtain⟨x,_,rfl⟩:=List.mem_map.1 ha;rfl
theorem z1F (w:Wd) (s own:ByteArray) (hl:w.ps.length<=100000) (hd:w.deep<1000000):zC Tryz.prog 143 [eW w,.lit (.string s),.lit (.string own)] (eW (w.all s own)):=by
 refine zB ttok mixed Tryz.func143 rfl (by rfl) (Nat.le_of_ble_eq_true rfl) (by kernel_rfl) ?_;refine⟨{k:Nat // k<=w.ps.length},fun k=>{vs:=[(1,.v (.lit (.string s))),(2,.v (.lit (.string own))),(3,.box 0 (eW w)),(6,.box 0 (.agg [.sl [],.sl [],.sl [],.sl [],.lit (.int .i64 0)])),(7,.v (.sl (eN (zFM s (w.ps.take k.1))))),(8,.v (.sl (eB (zFM s (w.ps.take k.1))))),(12,.v (.sl (eN w.ps))),(13,sv (w.ps.length:Nat)),(14,sv (k.1:Nat))],ow:=[(7,0,2),(8,0,5)]},
  fun k=>w.ps.length-k.1,⟨0,Nat.zero_le _⟩,?_,?_⟩
 ·exact⟨⟨rfl,rfl,rfl,rfl,rfl,rfl,rfl,svc (by rw[zP2]),rfl,trivial⟩,⟨trivial,trivial,trivial⟩,rfl⟩
 rintro⟨k,hk⟩;have hle:=zYH s (w.ps.take k);have hlt:(w.ps.take k).length<=w.ps.length:=by rw[List.length_take];omega
 refine⟨fun h=>?_,fun h=>?_⟩
 ·have h:k<w.ps.length:=by have h:=of_decide_eq_true h;simp only at h;omega
  have hup:=zUH (s:=s) h;refine⟨_,by omega,z1Y h,rfl,?_⟩;refine⟨fun h2=>?_,fun h2=>?_⟩
  ·have h2:¬w.ps[k].1=s:=by simpa using h2
   rw[if_neg h2] at hup;refine⟨by show (eN (zFM s (w.ps.take k))).length+1<=_;rw[zP2];omega,zT1 _,zFR rfl,?_⟩;refine⟨_,by omega,z2G h,rfl,?_⟩;refine⟨by show (eB (zFM s (w.ps.take k))).length+1<=_;rw[zW1];omega,zUG _,zAW [_],?_⟩;refine⟨by kernel_rfl,?_⟩;refine⟨⟨k+1,h⟩,by simp;omega,⟨rfl,rfl,rfl,rfl,?_,?_,rfl,rfl,svc (wrap_succ (k:=k) (by omega)),trivial⟩,⟨rfl,rfl,trivial⟩,rfl⟩
   ·rw[hup,zVP];exact rfl
   ·rw[hup,zX7];exact rfl
  ·have h2:w.ps[k].1=s:=by simpa using h2
   rw[if_pos h2,List.append_nil] at hup;refine⟨⟨k+1,h⟩,by simp;omega,⟨rfl,rfl,rfl,rfl,?_,?_,rfl,rfl,svc (wrap_succ (k:=k) (by omega)),trivial⟩,⟨rfl,rfl,trivial⟩,rfl⟩
   ·rw[hup];exact rfl
   ·rw[hup];exact rfl
 ·have h:k=w.ps.length:=by have h:=of_decide_eq_false h;simp only at h;omega
  subst h;rw[List.take_length] at hle;refine⟨by show (eN (zFM s (w.ps.take w.ps.length))).length+1<=_;rw[zP2,List.take_length];omega,zT1 _,zFR rfl,?_⟩;refine .inl ⟨_,zIZ own,?_⟩;refine⟨by show (eB (zFM s (w.ps.take w.ps.length))).length+1<=_;rw[zW1,List.take_length];omega,zUG _,zAW [_],?_⟩;have hw:IntKind.i64.wrap ((w.deep:Nat)+1)=((w.deep+1:Nat):Int):=wrap_succ (k:=w.deep) (by omega);show AV.agg [.sl (zA8 w.fs),.sl (wQ w.env),.sl (eN (zFM s (w.ps.take w.ps.length))++[.lit (.string s)]),.sl (eB (zFM s (w.ps.take w.ps.length))++[eTy (.var own)]),.lit (.int .i64 (IntKind.i64.wrap ((w.deep:Nat)+1)))]=eW (w.all s own);rw[hw,List.take_length];unfold Wd.all eW;simp only[];rw[zVP,zX7];rfl
def fl (l:List Tp) (rest:List AV):List AV:=(zJ l).flatMap AV.cells++rest
theorem zBQ (t:Tp) (l:List Tp) (rest:List AV):fl (t::l) rest=(eTy t).cells++fl l rest:=by simp[fl,zJ]
theorem zEK (t:Tp):(eTy t).cells.length=4:=rfl
theorem zGK (l:List Tp) (rest:List AV):(fl l rest).length=l.length*4+rest.length:=by
 induction l with
 | nil=>simp[fl,zJ]
 | cons t l ih=>rw[zBQ,List.length_append,ih,zEK,List.length_cons];omega
theorem zW5 (rest:List AV):∀(l:List Tp) (k:Nat) (h:k<l.length),((fl l rest).drop (k*4)).take 4=(eTy l[k]).cells
 | [],k,h=>by simp at h
 | t::l,0,_=>by rw[zBQ,Nat.zero_mul,List.drop_zero,List.take_append_of_le_length (by rw[zEK];omega)];exact List.take_of_length_le (by rw[zEK];omega)
 | t::l,k+1,h=>by
  rw[zBQ,show (k+1)*4=(eTy t).cells.length+k*4 by rw[zEK];omega,List.drop_length_add_append];exact zW5 rest l k (by simpa using h)
theorem zPT (rest:List AV) (x:Tp):∀(l:List Tp) (k:Nat),k<l.length->setAt (fl l rest) (k*4) (eTy x).cells=fl (l.set k x) rest
 | [],k,h=>by simp at h
 | t::l,0,_=>by
  rw[List.set_cons_zero,zBQ,zBQ];unfold setAt;rw[Nat.zero_mul,List.take_zero,List.nil_append,Nat.zero_add,show (eTy x).cells.length=(eTy t).cells.length from rfl,List.drop_left]
 | t::l,k+1,h=>by
  have ih:=zPT rest x l k (by simpa using h);rw[List.set_cons_succ,zBQ,zBQ,<-ih];unfold setAt;rw[show (k+1)*4=(eTy t).cells.length+k*4 by rw[zEK];omega,List.take_length_add_append,List.append_assoc,Nat.add_assoc,List.drop_length_add_append]
def sw (l:List Tp) (k:Nat):List Tp:=(List.range l.length).map fun i=>if i<k∨l.length-1-i<k then l.getD (l.length-1-i) .no else l.getD i .no
theorem zFS (l:List Tp) (k:Nat):(sw l k).length=l.length:=by simp[sw]
theorem zP9 {l:List Tp} {k i:Nat} (h:i<(sw l k).length):(sw l k)[i]=if i<k∨l.length-1-i<k then l.getD (l.length-1-i) .no else l.getD i .no:=by simp[sw]
theorem z3B (l:List Tp):sw l 0=l:=by
 refine List.ext_getElem (zFS l 0) fun i h1 h2=>?_;rw[zP9,if_neg (by omega)];simp[h2]
theorem z1D {l:List Tp} {k:Nat} (h:l.length<=2*k+1):sw l k=l.reverse:=by
 refine List.ext_getElem (by rw[zFS];simp) fun i h1 h2=>?_;rw[zFS] at h1;rw[zP9,List.getElem_reverse];have h3:l.length-1-i<l.length:=by omega
 split
 ·simp[h3]
 ·have e:l.getD i .no=l.getD (l.length-1-i) .no:=congrArg (fun j=>l.getD j .no) (show i=l.length-1-i by omega);rw[e];simp[h3]
theorem zY1 {l:List Tp} {k:Nat} (h:2*k+1<l.length) (h1:k<(sw l k).length) (h2:l.length-1-k<(sw l k).length) :
  ((sw l k).set k (sw l k)[l.length-1-k]).set (l.length-1-k) (sw l k)[k]=sw l (k+1):=by
 refine List.ext_getElem (by simp[zFS]) fun i h3 h4=>?_;simp only[List.length_set,zFS] at h3;simp only[List.getElem_set,zP9];by_cases e1:l.length-1-k=i
 ·rw[if_pos e1,if_neg (by omega),if_pos (by omega)]
  congr 1;omega
 ·rw[if_neg e1];by_cases e2:k=i
  ·rw[if_pos e2,if_neg (by omega),if_pos (by omega)]
   congr 1;omega
  ·rw[if_neg e2];by_cases e3:i<k∨l.length-1-i<k
   ·rw[if_pos e3,if_pos (by omega)]
   ·rw[if_neg e3,if_neg (by omega)]
theorem zPE (b cap:Nat) (l:List Tp) (rest:List AV) (hl:l.length<1000000000) :
  CallsG Tryz.prog (fnv xG) [(b,.cells (fl l rest))] [.lit (.slice (some ⟨b,0,none⟩) l.length cap)] [] fun r o h=>h=[(b,.cells (fl l.reverse rest))]:=by
 refine zBV ttok mixed Tryz.func157 rfl (by rfl) (by rfl) (Nat.le_of_ble_eq_true rfl) (Nat.le_of_ble_eq_true rfl) (by kernel_rfl) ?_;have e0:IntKind.i64.wrap ((l.length:Nat)-1:Int)=(l.length:Int)-1:=zEY (by omega) (by omega);refine⟨{k:Nat // 2*k<=l.length},fun k=>{vs:=[(0,.v (.lit (.slice (some ⟨b,0,none⟩) l.length cap))),(2,.v (.lit (.int .i64 (k.1:Nat)))),(3,.v (.lit (.int .i64 ((l.length:Int)-1-(k.1:Nat)))))],ow:=[],hp:=[(b,.cells (fl (sw l k.1) rest))]},
  fun k=>l.length-k.1,⟨0,Nat.zero_le _⟩,⟨⟨rfl,rfl,?_,trivial⟩,trivial,?_⟩,?_⟩
 ·exact congrArg (fun n=>SV.v (AV.lit (Value.int .i64 n))) (e0.trans (by simp))
 ·show [(b,HO.cells (fl l rest))]=[(b,HO.cells (fl (sw l 0) rest))];rw[z3B]
 rintro⟨k,hk⟩;have hsl:=zFS l k;refine⟨fun h=>?_,fun h=>?_⟩
 ·have h:2*k+1<l.length:=by
   have:=of_decide_eq_true h;simp only at this;omega
  have h1:k<(sw l k).length:=by omega
  have h2:l.length-1-k<(sw l k).length:=by omega
  have ej:((l.length:Int)-1-(k:Nat)).toNat=l.length-1-k:=by omega
  have hfl:=zGK (sw l k) rest;have a1:=zW5 rest (sw l k) (l.length-1-k) h2;have a2:=zW5 rest (sw l k) k h1;have b1:=zPT rest (sw l k)[l.length-1-k] (sw l k) k h1;have b2:=zPT rest (sw l k)[k] ((sw l k).set k (sw l k)[l.length-1-k]) (l.length-1-k) (by simpa using h2);rw[zY1 h h1 h2] at b2;refine⟨by show (0:Int)<=(l.length:Int)-1-(k:Nat);omega,by show (l.length:Int)-1-(k:Nat)<_;omega,?_⟩;have ek:(Int.toNat ((k:Nat):Int))=k:=rfl;refine⟨0,_,rfl,by rw[ej,hfl];omega,?_⟩;rw[Nat.zero_add,ej,a1];refine⟨by omega,by show ((k:Nat):Int)<_;omega,?_⟩;refine⟨0,_,rfl,by show 0+k*4+4<=(fl (sw l k) rest).length;rw[hfl];omega,?_⟩;rw[Nat.zero_add,ek,a2];refine⟨by omega,by show ((k:Nat):Int)<_;omega,?_⟩;refine⟨rfl,0,_,rfl,by show 0+k*4+4<=(fl (sw l k) rest).length;rw[hfl];omega,?_⟩;have b1':setAt (fl (sw l k) rest) (k*4) (AV.agg (eTy (sw l k)[l.length-1-k]).cells).cells=fl ((sw l k).set k (sw l k)[l.length-1-k]) rest:=b1;have b2':setAt (fl ((sw l k).set k (sw l k)[l.length-1-k]) rest) ((l.length-1-k)*4) (AV.agg (eTy (sw l k)[k]).cells).cells=fl (sw l (k+1)) rest:=b2;rw[Nat.zero_add,ek,b1'];refine⟨by show (0:Int)<=(l.length:Int)-1-(k:Nat);omega,by show (l.length:Int)-1-(k:Nat)<_;omega,?_⟩;refine⟨rfl,0,_,rfl,by
   show 0+Int.toNat ((l.length:Int)-1-(k:Nat))*4+4<=(fl ((sw l k).set k (sw l k)[l.length-1-k]) rest).length;rw[ej,zGK,List.length_set];omega,?_⟩
  rw[Nat.zero_add,ej,b2'];refine⟨⟨k+1,by omega⟩,(show l.length-(k+1)<l.length-k by omega),⟨rfl,?_,?_,trivial⟩,trivial,rfl⟩
  ·exact congrArg (fun n=>SV.v (AV.lit (Value.int .i64 n))) (wrap_succ (k:=k) (by omega))
  ·refine congrArg (fun n=>SV.v (AV.lit (Value.int .i64 n))) ?_;show IntKind.i64.wrap ((l.length:Int)-1-(k:Nat)-1)=(l.length:Int)-1-((k+1:Nat):Int);rw[zEY (by omega) (by omega)];omega
 ·have h:l.length<=2*k+1:=by
   have:=of_decide_eq_false h;simp only at this;omega
  show [(b,HO.cells (fl (sw l k) rest))]=_;rw[z1D h]
theorem reverse_nil:zC Tryz.prog xG [.lit (.slice none 0 0)] (.tup []):=by
 refine zA ttok mixed Tryz.func157 rfl (by rfl) (Nat.le_of_ble_eq_true rfl) (by kernel_rfl) ?_;refine⟨Unit,fun _=>{vs:=[(2,.v (.lit (.int .i64 0))),(3,.v (.lit (.int .i64 (-1))))],ow:=[]},fun _=>0,(),⟨⟨rfl,rfl,trivial⟩,trivial,rfl⟩,?_⟩;rintro⟨⟩;refine⟨fun h=>(by cases h),fun _=>?_⟩;exact rfl
def xW:Tp->Tp
 | .app x _=>xW x
 | t=>t
def zI:Tp->List Tp
 | .app x b=>b::zI x
 | _=>[]
theorem zBG (t:Tp):(zI t).length<=t.sz:=by
 induction t with
 | app x b ihx _=>simp only[zI,List.length_cons,Tp.sz];omega
 | _=>simp[zI]
structure z2W (t:Tp) where
 cur:Tp
 col:List Tp
 blk:Option (Nat×Nat×List AV)
 hd:xW cur=xW t
 ar:col++zI cur=zI t
 ok:match blk with
  | none=>col=[]
  | some (_,cap,rest)=>col≠[]/\col.length<=cap/\rest.length=(cap-col.length)*4
theorem zVJ (l:List Tp) (x:Tp) (rest rest':List AV):(fl l rest).take (l.length*4)++([eTy x].flatMap AV.cells++rest')=fl (l++[x]) rest':=by
 have h:((zJ l).flatMap AV.cells).length=l.length*4:=by
  have:=zGK l [];simpa[fl] using this
 unfold fl;rw[List.take_append_of_le_length (by rw[h];omega),<-h,List.take_length,<-List.append_assoc]
 congr 1
 simp[zJ]
theorem zCG (t : Tp) (hs : (zI t).length < 1000000) : zC Tryz.prog zJY [eTy t] (.tup [eTy (xW t), .sl (zJ (zI t).reverse)]) := by
  refine zSE (esz := 4) (zGC _) (fun x hx c hc => ?_) ?_
  · obtain ⟨y, _, rfl⟩ := List.mem_map.1 hx
    simp [eTy, AV.cells] at hc;rcases hc with rfl | rfl | rfl | rfl <;> rfl
  refine zBV ttok mixed Tryz.func155 rfl (by rfl) (by rfl) (Nat.le_of_ble_eq_true rfl) (Nat.le_of_ble_eq_true rfl) (by kernel_rfl) ?_
  refine ⟨z2W t, fun s => { vs := [(1, .box 0 (eTy s.cur)), (2, .box 0 (eTy .no)), (4, .v (.lit (match s.blk with
      | none => .slice none 0 0
      | some (b, cap, _) => .slice (some ⟨b, 0, none⟩) s.col.length cap)))], ow := [], hp := (match s.blk with
      | none => []
      | some (b, _, rest) => [(b, .cells (fl s.col rest))]) }, fun s => s.cur.sz, ⟨t, [], none, rfl, rfl, rfl⟩, ⟨⟨rfl, rfl, .inl rfl, trivial⟩, trivial, rfl⟩, ?_⟩
  rintro ⟨cur, col, blk, hd, ar, ok⟩;have hlen : col.length + (zI cur).length = (zI t).length := by rw [<- ar, List.length_append]
  have hcl : (zJ col).length = col.length := by simp [zJ]
  cases blk with
  | none =>
    have ok : col = [] := ok;subst ok;refine ⟨fun h => ?_, fun h => ?_⟩
    · obtain ⟨x, b, rfl⟩ := Tp.is_app (t := cur) (by simpa using h)
      refine ⟨_, by decide, rfl, rfl, ?_⟩;refine .inl ⟨_, qR b, ?_⟩;refine ⟨rfl, by simp, by simp, zGC [b], rfl, rfl, fun b' cap' zs h1 h2 => ?_⟩;refine ⟨_, by decide, rfl, rfl, ?_⟩;refine ⟨⟨x, [b], some (b', cap', zs), hd, ar, by simp, h1, h2⟩, by simp only [Tp.sz]; have := jE b; omega, ⟨rfl, rfl, rfl, trivial⟩, trivial, ?_⟩;show [(b', HO.cells ([eTy b].flatMap AV.cells ++ zs))] = [(b', HO.cells (fl [b] zs))]
      rfl
    · have hna : ¬ cur.form = 4 := by simpa using h
      have e1 : xW cur = cur := by cases cur <;> first | rfl | exact absurd rfl hna
      have e2 : zI cur = [] := by cases cur <;> first | rfl | exact absurd rfl hna
      rw [e1] at hd;rw [e2, List.append_nil] at ar;refine .inl ⟨_, reverse_nil, ?_⟩;refine .inl ⟨_, qR cur, ?_⟩;refine ⟨rfl, .inl ⟨?_, ?_, rfl⟩⟩
      · rw [<- ar]; rfl
      · rw [<- hd]; rfl
  | some q =>
    obtain ⟨b0, cap, rest⟩ := q;obtain ⟨ok0, ok1, ok2⟩ := ok;refine ⟨fun h => ?_, fun h => ?_⟩
    · obtain ⟨x, b, rfl⟩ := Tp.is_app (t := cur) (by simpa using h)
      refine ⟨_, by decide, rfl, rfl, ?_⟩;refine .inl ⟨_, qR b, ?_⟩;refine ⟨rfl, by simp, by simp; omega, zGC [b], 0, _, rfl, ok1, ?_, fun b' cap' zs h1 h2 => ?_⟩
      · show (fl col rest).length = cap * 4
        rw [zGK, ok2, <- Nat.add_mul]; congr 1; omega
      refine ⟨_, by decide, rfl, rfl, ?_⟩;refine ⟨⟨x, col ++ [b], some (b', cap', zs), hd, by rw [List.append_assoc]; exact ar, by simp, by simpa using h1, by simpa using h2⟩, by simp only [Tp.sz]; have := jE b; omega, ⟨rfl, rfl, ?_, trivial⟩, trivial, ?_⟩
      · show SV.v (AV.lit (.slice (some ⟨b', 0, none⟩) (col.length + 1) cap')) = SV.v (AV.lit (.slice (some ⟨b', 0, none⟩) (col ++ [b]).length cap'))
        rw [List.length_append]; rfl
      · show [(b', HO.cells ((fl col rest).take (col.length * 4) ++ ([eTy b].flatMap AV.cells ++ zs)))] = [(b', HO.cells (fl (col ++ [b]) zs))]
        rw [zVJ]
    · have hna : ¬ cur.form = 4 := by simpa using h
      have e1 : xW cur = cur := by cases cur <;> first | rfl | exact absurd rfl hna
      have e2 : zI cur = [] := by cases cur <;> first | rfl | exact absurd rfl hna
      rw [e1] at hd;rw [e2, List.append_nil] at ar;refine .inr ⟨rfl, [0], _, [], _, rfl, by simp, rfl, zPE b0 cap col rest (by omega), ?_⟩;rintro _ _ _ rfl;refine .inl ⟨_, qR cur, ?_⟩;refine ⟨rfl, .inr ⟨b0, cap, rest, ?_, ?_, ?_⟩⟩
      · simp [zJ, <- ar]; exact ok1
      · have hl : (zJ col.reverse).length = col.length := by simp [zJ]
        rw [<- hd, <- ar, hl]; rfl
      · rw [<- ar]; rfl
theorem split_ok (t:Tp):zC Tryz.prog 142 [eTy t] (.tup [eTy (partsOf t).1,eTy (partsOf t).2.1,.sb (partsOf t).2.2]):=by
 refine zB ttok mixed Tryz.func142 rfl (by rfl) (Nat.le_of_ble_eq_true rfl) (by kernel_rfl) ?_;refine .inl ⟨_,zAH t,?_⟩;refine .inl ⟨_,qR _,?_⟩;refine .inl ⟨_,qR _,?_⟩;refine⟨by kernel_rfl,?_⟩;exact rfl
abbrev OfS (w:Wd) (c:Cr) (t:Tp):Prop:=zC Tryz.prog 42 [eW w,eC c] (eTy t)
abbrev OfN (w:Wd) (c:Cr):Prop:=wM Tryz.prog 42 [eW w,eC c] jS
theorem zGS {c p:Cr} {r:List Cr} (h:c.kids=p::r):(c.e3 0)[0]? = some (eC p):=by rw[zRV,h];rfl
theorem zZ3 {c p q:Cr} {r:List Cr} (h:c.kids=p::q::r):(c.e3 0)[1]? = some (eC q):=by rw[zRV,h];rfl
theorem zYN {w:Wd} {c p q:Cr} {tp tq:Tp} (hk:c.kids=[p,q]) (h1:OfS w p tp) (h2:OfS w q tq) (hs:(partsOf tp).2.2=true) (hsame:smb (partsOf tp).1 tq [] []=true) (hz:dp (partsOf tp).1<1000000000):zC Tryz.prog 119 [eW w,eC c] (eTy (partsOf tp).2.1):=by
 refine zB ttok mixed Tryz.func119 rfl (by rfl) (Nat.le_of_ble_eq_true rfl) (by kernel_rfl) ?_;refine⟨eC p,by omega,zGS hk,rfl,?_⟩;refine .inl ⟨_,h1,?_⟩;refine⟨eC q,by omega,zZ3 hk,rfl,?_⟩;refine .inl ⟨_,h2,?_⟩;refine⟨by kernel_rfl,?_⟩;refine .inl ⟨_,split_ok tp,?_⟩;rw[hs];refine⟨fun _=>?_,fun h=>(by cases h)⟩;refine .inl ⟨_,qF _ _ hz,?_⟩;rw[hsame];refine .inl ⟨_,yF rfl,?_⟩;exact rfl
theorem zUT {w:Wd} {c p q:Cr} {tp tq:Tp} (hk:c.kids=[p,q]) (h1:OfS w p tp) (h2:OfS w q tq) (hz:dp (partsOf tp).1<1000000000) (hs:¬((partsOf tp).2.2=true/\smb (partsOf tp).1 tq [] []=true)):wM Tryz.prog 119 [eW w,eC c] jS:=by
 refine yM ttok mixed Tryz.func119 rfl (by rfl) (Nat.le_of_ble_eq_true rfl) (by kernel_rfl) ?_;refine WsemQ.seq ttok mixed ?_;refine WsemQ.seq ttok mixed ?_;refine⟨eC p,by omega,zGS hk,rfl,?_⟩;refine .inl ⟨_,h1,?_⟩;refine⟨eC q,by omega,zZ3 hk,rfl,?_⟩;refine .inl ⟨_,h2,?_⟩;refine⟨by kernel_rfl,?_⟩;refine WsemQ.seq ttok mixed ?_;refine .inl ⟨_,split_ok tp,?_⟩;refine WsemQ.seqS (WsemQ.region ttok 6 ?_);refine⟨fun h=>?_,fun h=>?_⟩
 ·refine .inl ⟨_,qF _ _ hz,?_⟩;exact zAR (by simpa[h] using hs)
 ·exact zAR rfl
abbrev xI:ByteArray:=⟨#[73,110,116]⟩
abbrev qU:ByteArray:=⟨#[66,111,111,108]⟩
def zN7 (s:ByteArray):Option Tp:=if s=⟨#[97,100,100]⟩∨s=⟨#[115,117,98]⟩∨s=⟨#[109,117,108]⟩∨s=⟨#[100,105,118]⟩ then some (.con xI) else if s=⟨#[101,113]⟩∨s=⟨#[108,116]⟩ then some (.con qU) else none
structure IsInt (w:Wd) (p:Cr):Prop where
 of:∃t,OfS w p t/\smb t (.con xI) [] []=true/\dp t<1000000000
theorem zX9 {w:Wd} {c:Cr} {r:Tp} (hl:c.kids.length<=1000) (h:∀p∈c.kids,IsInt w p) (hr:zN7 c.s=some r):zC Tryz.prog 125 [eW w,eC c] (eTy r):=by
 refine zB ttok mixed Tryz.func125 rfl (by rfl) (Nat.le_of_ble_eq_true rfl) (by kernel_rfl) ?_;refine⟨{k:Nat // k<=c.kids.length},fun k=>{vs:=[(2,.box 0 (eW w)),(3,.box 0 (eC c)),(4,.box 0 (eTy .no)),(8,.v (.sl (c.e3 0))),(9,sv (c.kids.length:Nat)),(10,sv (k.1:Nat))]},
  fun k=>c.kids.length-k.1,⟨0,Nat.zero_le _⟩,⟨⟨rfl,rfl,rfl,rfl,svc (by rw[z0Q]),rfl,trivial⟩,trivial,rfl⟩,?_⟩
 rintro⟨k,hk⟩;refine⟨fun h1=>?_,fun h1=>?_⟩
 ·have h1:k<c.kids.length:=by have h:=of_decide_eq_true h1;simp only at h;omega
  obtain⟨t,q1,q2,q3⟩:=(h _ (List.getElem_mem h1)).of;refine⟨_,by omega,z2I h1,rfl,?_⟩;refine .inl ⟨_,q1,?_⟩;refine .inl ⟨_,zBZ _,?_⟩;refine .inl ⟨_,qF _ _ q3,?_⟩;refine .inl ⟨_,yF q2,?_⟩;exact⟨⟨k+1,h1⟩,by simp;omega,⟨rfl,rfl,rfl,rfl,rfl,svc (wrap_succ (k:=k) (by omega)),trivial⟩,trivial,rfl⟩
 ·have two:(c.s=⟨#[97,100,100]⟩∨c.s=⟨#[115,117,98]⟩∨c.s=⟨#[109,117,108]⟩∨c.s=⟨#[100,105,118]⟩)->r = .con xI:=fun h=>by unfold zN7 at hr;rw[if_pos h] at hr;exact (Option.some.inj hr).symm
  have yes:r = .con xI->zC Tryz.prog 13 [.lit (.string xI)] (eTy r):=fun h=>by rw[h];exact zBZ _
  have yes2:r = .con qU->zC Tryz.prog 13 [.lit (.string qU)] (eTy r):=fun h=>by rw[h];exact zBZ _
  refine⟨fun a1=>?_,fun a1=>?_⟩
  ·refine .inl ⟨_,yes (two (.inl (of_decide_eq_true a1))),?_⟩;exact rfl
  ·refine⟨fun a2=>?_,fun a2=>?_⟩
   ·refine .inl ⟨_,yes (two (.inr (.inl (of_decide_eq_true a2)))),?_⟩;exact rfl
   ·refine⟨fun a3=>?_,fun a3=>?_⟩
    ·refine .inl ⟨_,yes (two (.inr (.inr (.inl (of_decide_eq_true a3))))),?_⟩;exact rfl
    ·refine⟨fun a4=>?_,fun a4=>?_⟩
     ·refine .inl ⟨_,yes (two (.inr (.inr (.inr (of_decide_eq_true a4))))),?_⟩;exact rfl
     ·have n4:¬(c.s=⟨#[97,100,100]⟩∨c.s=⟨#[115,117,98]⟩∨c.s=⟨#[109,117,108]⟩∨c.s=⟨#[100,105,118]⟩):=fun h=>by
       rcases h with h|h|h|h
       ·exact of_decide_eq_false a1 h
       ·exact of_decide_eq_false a2 h
       ·exact of_decide_eq_false a3 h
       ·exact of_decide_eq_false a4 h
      have two2:(c.s=⟨#[101,113]⟩∨c.s=⟨#[108,116]⟩)->r = .con qU:=fun h=>by unfold zN7 at hr;rw[if_neg n4,if_pos h] at hr;exact (Option.some.inj hr).symm
      refine⟨fun b1=>?_,fun b1=>?_⟩
      ·refine .inl ⟨_,yes2 (two2 (.inl (of_decide_eq_true b1))),?_⟩;exact rfl
      ·refine⟨fun b2=>?_,fun b2=>?_⟩
       ·refine .inl ⟨_,yes2 (two2 (.inr (of_decide_eq_true b2))),?_⟩;exact rfl
       ·exfalso;unfold zN7 at hr;rw[if_neg n4,if_neg (fun h=>h.elim (of_decide_eq_false b1) (of_decide_eq_false b2))] at hr;cases hr
end Go.Proofs.YtdmbahepaglcbaaGreatDoor
