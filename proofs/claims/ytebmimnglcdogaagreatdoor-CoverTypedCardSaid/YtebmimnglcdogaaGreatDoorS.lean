/- What is free, if few names are: no bound on how great a type is. No condition but on lengths. -/
import Derived.Test.YtebmimnglcdogaaGreatDoorR
import Derived.Test.YtebmimnglcdogaaGreatDoorG
set_option linter.unusedSimpArgs false
set_option linter.unusedVariables false
namespace Go.Proofs.YtebmimnglcdogaaGreatDoor.Ck
open Go Fp
set_option maxRecDepth 100000
set_option maxHeartbeats 8000000
set_option linter.unusedVariables false
theorem zNZ {p:ByteArray->Bool} {l:List Tp} {k:Nat} (h:k<l.length):zF2 p l=(l.drop (k+1)).foldl (fun out a=>insAll p out (fv a)) (insAll p (zF2 p (l.take k)) (fv l[k])):=by
 have e:l=l.take k++(l[k]::l.drop (k+1)):=by rw[<-List.drop_eq_getElem_cons h,List.take_append_drop]
 conv=>lhs;rw[e]
 simp only[zF2,List.foldl_append,List.foldl_cons]
theorem zUI {p:ByteArray->Bool} (l:List Tp):∀(out:List ByteArray) (x:ByteArray),x∈out->x∈l.foldl (fun out a=>insAll p out (fv a)) out:=by
 induction l with
 | nil=>exact fun out x h=>h
 | cons a l ih=>exact fun out x h=>ih _ x (zGN p (fv a) out x h)
theorem zO7 {p:ByteArray->Bool} (l:List Tp):(zF2 p l).Nodup:=by
 have:∀(l:List Tp) (out:List ByteArray),out.Nodup->(l.foldl (fun out a=>insAll p out (fv a)) out).Nodup:=by
  intro l;induction l with
  | nil=>exact fun out h=>h
  | cons a l ih=>exact fun out h=>ih _ (wL h)
 exact this l [] List.nodup_nil
theorem zVA {t:Tp} (hf:¬t.form=2) {k:Nat} (h:k<t.args.length) (j:Nat):(insAll (wS t) (zF2 (wS t) (t.args.take k)) ((fv t.args[k]).take j)).length<=(fv t).length:=by
 refine x8 _ _ (wL (zO7 _)) fun x hx=>?_;rw[zRU t hf,zNZ h];refine zUI _ _ _ ?_;have e:fv t.args[k]=(fv t.args[k]).take j++(fv t.args[k]).drop j:=(List.take_append_drop j _).symm;rw[e,zC0];exact zGN _ _ _ _ hx
theorem zNN (t:Tp) (hs:(fv t).length<=1000000000) (hs2:∀a∈t.args,(fv a).length<=1000000000) (ih:∀a∈t.args,zD Tryz.prog zBD [eTy a] (.sl (eSs (fv a)))):zD Tryz.prog zBD [eTy t] (.sl (eSs (fv t))):=by
 refine zC ttok mixed Tryz.func110 rfl (by rfl) (Nat.le_of_ble_eq_true rfl) (by kernel_rfl) ?_;refine⟨fun h=>?_,fun h=>?_⟩
 ·obtain⟨s,rfl⟩:=Tp.is_var (t:=t) (by simpa using h);exact rfl
 ·have hf:¬t.form=2:=by simpa using h
  rw[zRU t hf];have hlen:t.eArgs.length=t.args.length:=zW3 t;have h2:=zF9 t;refine⟨{k:Nat // k<=t.args.length},fun k=>{vs:=[(1,.box 0 (eTy t)),(3,.v (.sl (eSs (zF2 (wS t) (t.args.take k.1))))),(15,.v (.sl t.eArgs)),(16,.v (.lit (.int .i64 (t.eArgs.length:Nat)))),(17,.v (.lit (.int .i64 (k.1:Nat))))],ow:=[(3,0,2)]},
   fun k=>t.args.length-k.1,⟨0,Nat.zero_le _⟩,⟨⟨rfl,rfl,rfl,rfl,rfl,trivial⟩,⟨trivial,trivial⟩,rfl⟩,?_⟩
  rintro⟨k,hk⟩;refine⟨fun h=>?_,fun h=>?_⟩
  ·have h:k<t.args.length:=by simp[hlen] at h;omega
   refine⟨eTy t.args[k],by simp,by rw[t.eArgs_eq];exact zLP h,rfl,?_⟩;refine .inl ⟨_,ih _ (List.getElem_mem h),?_⟩;obtain⟨out,hout⟩:∃out,out=zF2 (wS t) (t.args.take k):=⟨_,rfl⟩
   obtain⟨m,hm⟩:∃m,m=fv t.args[k]:=⟨_,rfl⟩
   rw[<-hout,<-hm];have hol:∀j,(insAll (wS t) out (m.take j)).length<=1000000000:=fun j=>by rw[hout,hm];exact Nat.le_trans (zVA hf h j) hs
   have hml:m.length<=1000000000:=by rw[hm];exact hs2 _ (List.getElem_mem h)
   have hlm:(eSs m).length=m.length:=by simp[eSs]
   refine⟨{j:Nat // j<=m.length},fun j=>{vs:=[(1,.box 0 (eTy t)),(3,.v (.sl (eSs (insAll (wS t) out (m.take j.1))))),(15,.v (.sl t.eArgs)),(16,.v (.lit (.int .i64 (t.eArgs.length:Nat)))),(17,.v (.lit (.int .i64 (k:Nat)))),(22,.v (.sl (eSs m))),(23,.v (.lit (.int .i64 ((eSs m).length:Nat)))),(24,.v (.lit (.int .i64 (j.1:Nat))))],ow:=[(3,0,2)]},
    fun j=>m.length-j.1,⟨0,Nat.zero_le _⟩,⟨⟨rfl,rfl,rfl,rfl,rfl,rfl,rfl,rfl,trivial⟩,⟨rfl,trivial⟩,rfl⟩,?_⟩
   rintro⟨j,hj⟩;refine⟨fun h3=>?_,fun h3=>?_⟩
   ·have h3:j<m.length:=by simp[hlm] at h3;omega
    have hacc:=hol j;have htk:=zLD (p:=wS t) (out:=out) h3;refine⟨_,by omega,zW1 h3,rfl,?_⟩;refine .inl ⟨_,xZ (l:=insAll (wS t) out (m.take j)) (s:=m[j]) (by omega),?_⟩;have wj:IntKind.i64.wrap ((j:Int)+1)=((j+1:Nat):Int):=wrap_succ (by omega);have skip:∀(_:insAll (wS t) out (m.take (j+1))=insAll (wS t) out (m.take j)),AV.sl (eSs (insAll (wS t) out (m.take j)))=AV.sl (eSs (insAll (wS t) out (m.take (j+1)))):=fun e=>by rw[e]
    refine⟨fun hc=>?_,fun hc=>?_⟩
    ·have hc:memb m[j] (insAll (wS t) out (m.take j))=false:=by simpa using hc
     refine⟨fun h5=>?_,fun h5=>?_⟩
     ·refine⟨fun h6=>?_,fun h6=>?_⟩
      ·rw[zPF hc (by simp[wS] at h5 h6⊢;simp[h6])] at htk;refine⟨by simp[eSs];omega,zF3 _,zF3 [_],?_⟩;refine⟨⟨j+1,h3⟩,(show m.length-(j+1)<m.length-j by omega),⟨rfl,?_,rfl,rfl,rfl,rfl,rfl,?_,trivial⟩,⟨rfl,trivial⟩,rfl⟩
       ·show SV.v (AV.sl (eSs (insAll (wS t) out (m.take j))++[AV.lit (.string m[j])]))=SV.v (AV.sl (eSs (insAll (wS t) out (m.take (j+1)))));rw[zWF,htk]
       ·exact congrArg (fun n=>SV.v (AV.lit (Value.int .i64 n))) wj
      ·rw[zR8 (.inr (by simp[wS] at h5 h6⊢;simp[h5,h6]))] at htk;refine⟨⟨j+1,h3⟩,(show m.length-(j+1)<m.length-j by omega),⟨rfl,?_,rfl,rfl,rfl,rfl,rfl,?_,trivial⟩,⟨rfl,trivial⟩,rfl⟩
       ·exact congrArg SV.v (skip htk)
       ·exact congrArg (fun n=>SV.v (AV.lit (Value.int .i64 n))) wj
     ·rw[zPF hc (by simp[wS] at h5⊢;simp[h5])] at htk;refine⟨by simp[eSs];omega,zF3 _,zF3 [_],?_⟩;refine⟨⟨j+1,h3⟩,(show m.length-(j+1)<m.length-j by omega),⟨rfl,?_,rfl,rfl,rfl,rfl,rfl,?_,trivial⟩,⟨rfl,trivial⟩,rfl⟩
      ·show SV.v (AV.sl (eSs (insAll (wS t) out (m.take j))++[AV.lit (.string m[j])]))=SV.v (AV.sl (eSs (insAll (wS t) out (m.take (j+1)))));rw[zWF,htk]
      ·exact congrArg (fun n=>SV.v (AV.lit (Value.int .i64 n))) wj
    ·have hc:memb m[j] (insAll (wS t) out (m.take j))=true:=by simpa using hc
     rw[zR8 (.inl hc)] at htk;refine⟨⟨j+1,h3⟩,(show m.length-(j+1)<m.length-j by omega),⟨rfl,?_,rfl,rfl,rfl,rfl,rfl,?_,trivial⟩,⟨rfl,trivial⟩,rfl⟩
     ·exact congrArg SV.v (skip htk)
     ·exact congrArg (fun n=>SV.v (AV.lit (Value.int .i64 n))) wj
   ·have h3:j=m.length:=by simp[hlm] at h3;omega
    subst h3;have e:insAll (wS t) out (m.take m.length)=zF2 (wS t) (t.args.take (k+1)):=by rw[List.take_length,zRH h,<-hout,<-hm]
    refine⟨⟨k+1,h⟩,(show t.args.length-(k+1)<t.args.length-k by omega),⟨rfl,?_,rfl,rfl,?_,trivial⟩,⟨rfl,trivial⟩,rfl⟩
    ·exact congrArg (fun l=>SV.v (AV.sl (eSs l))) e
    ·exact congrArg (fun n=>SV.v (AV.lit (Value.int .i64 n))) (wrap_succ (k:=k) (by omega))
  ·have h:k=t.args.length:=by simp[hlen] at h;omega
   subst h;rw[List.take_length];exact rfl
theorem zPR {t:Tp}:∀a∈t.args,(fv a).length+dp a<=(fv t).length+dp t:=by
 cases t with
 | app a b =>
  intro x hx;simp only[Tp.args,List.mem_cons,List.not_mem_nil,or_false] at hx;have h1:(fv a).length<=(fv (.app a b)).length:=x8 _ _ (zD3 a) fun s hs=>mem_fv_app.2 (.inl hs);have h2:(fv b).length<=(fv (.app a b)).length:=x8 _ _ (zD3 b) fun s hs=>mem_fv_app.2 (.inr hs);simp only[dp];rcases hx with rfl|rfl<;>omega
 | all s a =>
  intro x hx;simp only[Tp.args,List.mem_cons,List.not_mem_nil,or_false] at hx;subst hx;have h1:(fv x).length<=(s::fv (.all s x)).length:=x8 _ _ (zD3 x) fun y hy=>by
   by_cases e:y=s
   ·rw[e];exact List.mem_cons_self
   ·exact List.mem_cons_of_mem _ (mem_fv_all.2 ⟨hy,e⟩)
  simp only[dp,List.length_cons] at h1⊢;omega
 | _=>simp[Tp.args]
theorem zLA (N:Nat):∀t:Tp,t.sz<=N->(fv t).length+dp t<=1000000000->zD Tryz.prog zBD [eTy t] (.sl (eSs (fv t))):=by
 induction N with
 | zero=>intro t h;have:=zUE t;omega
 | succ N ih=>exact fun t h hb=>zNN t (by omega) (fun a ha=>by have:=zPR a ha;omega) fun a ha=>ih a (zXX h a ha) (by have:=zPR a ha;omega)
structure FitX (K:Nat) (t:Tp) (ps:Env'):Prop where
 names:∃G:List ByteArray,G.length<=K/\(∀s∈fv t,s∈G)/\∀p∈ps,∀s∈fv p.2,s∈G
 room:K+2*dp t<2600
 many:ps.length+dp t<5000
 deep:∀p∈ps,dp p.2<1000000
theorem zOD {G:List ByteArray} {t:Tp} (h:∀s∈fv t,s∈G):(fv t).length<=G.length:=x8 _ _ (zD3 t) h
theorem zHG {G:List ByteArray} {K:Nat} (hG:G.length<=K):∀{ps:Env'},(∀p∈ps,∀s∈fv p.2,s∈G)->(caught ps).length<=K*ps.length
 | [],_=>by simp[caught]
 | p::r,h=>by
  have h1:=zHG hG (ps:=r) (fun q hq=>h q (by simp[hq]));have h2:=zOD (h p (by simp));have:caught (p::r)=fv p.2++caught r:=rfl;rw[this,List.length_append,List.length_cons,Nat.mul_succ];omega
theorem zXO {G l:List ByteArray} (h:∀s∈l,s∈G):ff l<=G.length:=by
 have:=x8 ((List.range (ff l)).map lett) G (List.pairwise_map.2 (List.Pairwise.imp (fun h e=>h (zL2 e)) (List.nodup_range))) (fun x hx=>by
  obtain⟨j,hj,rfl⟩:=List.mem_map.1 hx;exact h _ (zO4 l j (List.mem_range.1 hj)))
 simpa using this
theorem zQQ {G:List ByteArray} {ps:Env'} (h:∀p∈ps,∀s∈fv p.2,s∈G):∀s∈caught ps,s∈G:=fun s hs=>by
 obtain⟨p,hp,hs⟩:=List.mem_flatMap.1 hs;exact h p hp s hs
theorem FitX.app {K:Nat} {a b:Tp} {ps:Env'} (h:FitX K (.app a b) ps):FitX K a ps/\FitX K b ps:=by
 obtain⟨⟨G,g1,g2,g3⟩,h3,h4,h6⟩:=h;simp only[dp] at h3 h4;exact⟨⟨⟨G,g1,fun s hs=>g2 s (mem_fv_app.2 (.inl hs)),g3⟩,by omega,by omega,h6⟩,⟨⟨G,g1,fun s hs=>g2 s (mem_fv_app.2 (.inr hs)),g3⟩,by omega,by omega,h6⟩⟩
theorem FitX.all0 {K:Nat} {a:Tp} {s:ByteArray} {ps:Env'} (h:FitX K (.all s a) ps):FitX (K+1) a (kept s (fv a) ps):=by
 obtain⟨⟨G,g1,g2,g3⟩,h3,h4,h6⟩:=h;simp only[dp] at h3 h4;have:=zBW s (fv a) ps;refine⟨⟨s::G,by simp;omega,fun x hx=>?_,fun p hp x hx=>List.mem_cons_of_mem _ (g3 p (zG3 hp) x hx)⟩,by omega,by omega,fun p hp=>h6 p (zG3 hp)⟩;by_cases e:x=s
 ·rw[e];exact List.mem_cons_self
 ·exact List.mem_cons_of_mem _ (g2 x (mem_fv_all.2 ⟨hx,e⟩))
theorem FitX.all1 {K:Nat} {a:Tp} {s:ByteArray} {ps:Env'} (h:FitX K (.all s a) ps):ff (caught (kept s (fv a) ps)++fv a)<=K+1/\FitX (K+2) a (kept s (fv a) ps++[(s,.var (lett (ff (caught (kept s (fv a) ps)++fv a))))]):=by
 have h0:=h.all0;obtain⟨⟨G,g1,g2,g3⟩,q3,q4,q6⟩:=h0;have hff:ff (caught (kept s (fv a) ps)++fv a)<=K+1:=Nat.le_trans (zXO (G:=G) fun x hx=>by
  rcases List.mem_append.1 hx with hx|hx
  ·exact zQQ g3 x hx
  ·exact g2 x hx) g1
 refine⟨hff,?_⟩;obtain⟨_,h3,h4,h6⟩:=h;simp only[dp] at h3 h4;have:=zBW s (fv a) ps;generalize lett (ff (caught (kept s (fv a) ps)++fv a))=z;refine⟨⟨z::G,by simp;omega,fun x hx=>List.mem_cons_of_mem _ (g2 x hx),fun p hp x hx=>?_⟩,by omega,by simp;omega,fun p hp=>?_⟩
 ·rcases List.mem_append.1 hp with hp|hp
  ·exact List.mem_cons_of_mem _ (g3 p hp x hx)
  ·rw[List.mem_singleton.1 hp] at hx;simp[fv] at hx;rw[hx];exact List.mem_cons_self
 ·rcases List.mem_append.1 hp with hp|hp
  ·exact q6 p hp
  ·rw[List.mem_singleton.1 hp];simp[dp]
theorem zQJ {K : Nat} {s : ByteArray} {a : Tp} {ps : Env'} (hf : FitX K (.all s a) ps) (ih : ∀ (K : Nat) (ps : Env'), FitX K a ps -> substSays a ps) :
    zD Tryz.prog zIL [eTy (.all s a), .sl (eN ps), .sl (eB ps)] (eTy (sub (.all s a) ps)) := by
  have h0 := hf.all0;have h1 := hf.all1;obtain ⟨⟨G, g1, g2, g3⟩, hroom, hmany, hdeep⟩ := hf;simp only [dp] at hroom hmany;have hfl : (fv a).length <= K + 1 := by
    have := zOD (t := a) (G := s :: G) fun x hx => by
      by_cases e : x = s
      · rw [e]; exact List.mem_cons_self
      · exact List.mem_cons_of_mem _ (g2 x (mem_fv_all.2 ⟨hx, e⟩))
    simp at this; omega
  refine zC ttok mixed Tryz.func84 rfl (by rfl) (Nat.le_of_ble_eq_true rfl) (by kernel_rfl) ?_;refine ⟨_, by decide, rfl, rfl, ?_⟩;refine .inl ⟨_, zLA a.sz a (Nat.le_refl _) (by omega), ?_⟩
  refine ⟨{k : Nat // k <= ps.length}, fun k => { vs := [(2, .v (.sl (eB ps))), (3, .box 0 (eTy (.all s a))), (6, .box 0 (eTy .no)), (7, .box 0 (eTy a)), (8, .v (.sl (eSs (fv a)))), (9, .v (.sl (eN (kept s (fv a) (ps.take k.1))))), (10, .v (.sl (eB (kept s (fv a) (ps.take k.1))))), (11, .v (.sl (eSs (caught (kept s (fv a) (ps.take k.1)))))),
      (21, .v (.sl (eN ps))), (22, .v (.lit (.int .i64 ((eN ps).length : Nat)))), (23, .v (.lit (.int .i64 (k.1 : Nat))))], ow := [(9, 0, 2), (10, 0, 5), (11, 0, 2)] },
    fun k => ps.length - k.1, ⟨0, Nat.zero_le _⟩, ⟨⟨rfl, rfl, rfl, rfl, rfl, rfl, rfl, rfl, rfl, rfl, rfl, trivial⟩, ⟨trivial, trivial, trivial, trivial⟩, rfl⟩, ?_⟩
  rintro ⟨k, hk⟩;have hkl : (kept s (fv a) (ps.take k)).length <= k := by
    have := zBW s (fv a) (ps.take k);simp at this; omega
  have hcl : (caught (kept s (fv a) (ps.take k))).length <= K * (kept s (fv a) (ps.take k)).length := zHG g1 fun p hp => g3 p (List.mem_of_mem_take (zG3 hp));have hK1 : K * (kept s (fv a) (ps.take k)).length <= 2600 * 5000 := Nat.mul_le_mul (by omega) (by omega);have wk' : k < ps.length -> IntKind.i64.wrap ((k : Int) + 1) = ((k + 1 : Nat) : Int) := fun _ => wrap_succ (by omega);refine ⟨fun h => ?_, fun h => ?_⟩
  · have h : k < ps.length := by simp [zCQ] at h; omega
    have wk' := wk' h;have ht := zRN (s := s) (own := fv a) h;refine ⟨_, by omega, zWX h, rfl, ?_⟩;refine ⟨fun h3 => ?_, fun h3 => ?_⟩
    · refine .inl ⟨_, xZ (l := fv a) (s := ps[k].1) (by omega), ?_⟩
      refine ⟨fun h4 => ?_, fun h4 => ?_⟩
      · rw [if_pos (by
          have h5 : ¬ ps[k].1 = s := fun e => by
            have h3' : (!decide (ps[k].1 = s)) = true := h3;rw [decide_eq_true e] at h3'; cases h3'
          rw [h4, decide_eq_true (p := ps[k].1 ≠ s) h5]; rfl)] at ht
        refine ⟨by simp [zCQ]; omega, zW6 _, zF3 [_], ?_⟩;refine ⟨_, by omega, zN6 h, rfl, ?_⟩;refine ⟨by simp [zJT]; omega, zX4 _, zQN [_], ?_⟩;refine ⟨_, by omega, zN6 h, rfl, ?_⟩;have hlt := hdeep _ (List.getElem_mem h);have hfk : (fv ps[k].2).length <= G.length := zOD (g3 _ (List.getElem_mem h));refine .inl ⟨_, zLA ps[k].2.sz ps[k].2 (Nat.le_refl _) (by omega), ?_⟩;refine ⟨by simp [eSs]; omega, zF3 _, zF3 _, ?_⟩;refine ⟨⟨k + 1, h⟩, (show ps.length - (k + 1) < ps.length - k by omega), ⟨rfl, rfl, rfl, rfl, rfl, ?_, ?_, ?_, rfl, rfl, ?_, trivial⟩, ⟨rfl, rfl, rfl, trivial⟩, rfl⟩
        · rw [ht]; exact congrArg (fun l => SV.v (AV.sl l)) (zPB _ ps[k].1 ps[k].2)
        · rw [ht]; exact congrArg (fun l => SV.v (AV.sl l)) (zPP _ ps[k].1 ps[k].2)
        · rw [ht, zNC]; exact congrArg (fun l => SV.v (AV.sl l)) (zR4 _ _)
        · exact congrArg (fun n => SV.v (AV.lit (Value.int .i64 n))) wk'
      · rw [if_neg (by rw [h4]; simp), List.append_nil] at ht
        refine ⟨⟨k + 1, h⟩, (show ps.length - (k + 1) < ps.length - k by omega), ⟨rfl, rfl, rfl, rfl, rfl, ?_, ?_, ?_, rfl, rfl, ?_, trivial⟩, ⟨rfl, rfl, rfl, trivial⟩, rfl⟩
        · rw [ht]; rfl
        · rw [ht]; rfl
        · rw [ht]; rfl
        · exact congrArg (fun n => SV.v (AV.lit (Value.int .i64 n))) wk'
    · rw [if_neg (by
        have h5 : ps[k].1 = s := Classical.byContradiction fun e => by
          have h3' : (!decide (ps[k].1 = s)) = false := h3;rw [decide_eq_false e] at h3'; cases h3'
        rw [decide_eq_false (p := ps[k].1 ≠ s) (fun h => h h5)]; simp), List.append_nil] at ht
      refine ⟨⟨k + 1, h⟩, (show ps.length - (k + 1) < ps.length - k by omega), ⟨rfl, rfl, rfl, rfl, rfl, ?_, ?_, ?_, rfl, rfl, ?_, trivial⟩, ⟨rfl, rfl, rfl, trivial⟩, rfl⟩
      · rw [ht]; rfl
      · rw [ht]; rfl
      · rw [ht]; rfl
      · exact congrArg (fun n => SV.v (AV.lit (Value.int .i64 n))) wk'
  · have h : k = ps.length := by simp [zCQ] at h; omega
    subst h;simp only [List.take_length] at hkl hcl hK1 ⊢;obtain ⟨q, hq⟩ : ∃ q, q = kept s (fv a) ps := ⟨_, rfl⟩
    rw [<- hq] at hkl hcl hK1 h0 h1 ⊢;refine .inl ⟨_, xZ (l := caught q) (s := s) (by omega), ?_⟩;refine ⟨fun h3 => ?_, fun h3 => ?_⟩
    · obtain ⟨z, hz⟩ : ∃ z, z = lett (ff (caught q ++ fv a)) := ⟨_, rfl⟩
      have es : sub (.all s a) ps = .all z (sub a (q ++ [(s, .var z)])) := by rw [sub, <- hq, if_pos h3, <- hz]
      rw [es];have hl := zNS (l := caught q ++ fv a) (by omega) (by simp; omega);rw [<- hz] at hl h1;rw [<- zR4] at hl;have hi := ih (K + 2) _ h1.2;unfold substSays at hi;rw [<- zPB, <- zPP] at hi;refine ⟨by simp [eSs]; omega, zF3 _, zF3 _, ?_⟩;refine .inl ⟨_, hl, ?_⟩;refine ⟨by simp [zCQ]; omega, zW6 _, zF3 [_], ?_⟩;refine .inl ⟨_, zWZ z, ?_⟩;refine ⟨by simp [zJT]; omega, zX4 _, zQN [_], ?_⟩;refine .inl ⟨_, hi, ?_⟩;refine .inl ⟨_, zSR z _, ?_⟩;exact rfl
    · have es : sub (.all s a) ps = .all s (sub a q) := by rw [sub, <- hq, if_neg (by rw [h3]; simp)]
      rw [es];refine .inl ⟨_, ih (K + 1) q h0, ?_⟩;refine .inl ⟨_, zSR s _, ?_⟩;exact rfl
theorem substX_ok (N:Nat):∀(t:Tp),t.sz<=N->∀(K:Nat) (ps:Env'),FitX K t ps->substSays t ps:=by
 induction N with
 | zero=>intro t h;have:=zUE t;omega
 | succ N ih =>
  intro t h K ps hf;have fin:∀t:Tp,¬t.form=2->¬t.form=4->¬t.form=5->substSays t ps:=fun t h2 h4 h5=>by
   have es:sub t ps=t:=by cases t<;>first|rfl|exact absurd rfl h2|exact absurd rfl h4|exact absurd rfl h5
   unfold substSays;rw[es];refine zC ttok mixed Tryz.func47 rfl (by rfl) (Nat.le_of_ble_eq_true rfl) (by kernel_rfl) ?_;refine⟨fun h=>absurd (by simpa using h) h2,fun _=>?_⟩;refine⟨fun h=>absurd (by simpa using h) h4,fun _=>?_⟩;refine⟨fun h=>absurd (by simpa using h) h5,fun _=>?_⟩;refine .inl ⟨_,own_ok t,?_⟩;exact rfl
  cases t with
  | no=>exact fin _ (by decide) (by decide) (by decide)
  | mt n=>exact fin _ (by simp[Tp.form]) (by simp[Tp.form]) (by simp[Tp.form])
  | con s=>exact fin _ (by simp[Tp.form]) (by simp[Tp.form]) (by simp[Tp.form])
  | var x =>
   refine zC ttok mixed Tryz.func47 rfl (by rfl) (Nat.le_of_ble_eq_true rfl) (by kernel_rfl) ?_;have hm:=hf.many;refine⟨fun _=>?_,fun h=>(by cases h)⟩;refine .inl ⟨_,zEJ (l:=ps.map (fun p:ByteArray×Tp=>p.1)) (s:=x) (by simp;omega),?_⟩;rcases zPT (x:=x) (ps:=ps) with⟨h1,h2⟩|⟨k,hk,h1,h2⟩
   ·have es:sub (.var x) ps = .var x:=by simp[sub,h1]
    rw[es,zOA h2];refine⟨fun h=>(by cases h),fun _=>?_⟩;refine .inl ⟨_,own_ok (.var x),?_⟩;exact rfl
   ·have es:sub (.var x) ps=ps[k].2:=by simp[sub,h2]
    rw[es,h1];refine⟨fun _=>?_,fun h=>(by simp at h)⟩;refine⟨_,by omega,zN6 hk,rfl,?_⟩;refine .inl ⟨_,own_ok _,?_⟩;exact rfl
  | app a b =>
   simp only[Tp.sz] at h;refine zC ttok mixed Tryz.func47 rfl (by rfl) (Nat.le_of_ble_eq_true rfl) (by kernel_rfl) ?_;refine⟨fun h=>(by cases h),fun _=>?_⟩;refine⟨fun _=>?_,fun h=>(by cases h)⟩;refine⟨_,by decide,rfl,rfl,?_⟩;refine .inl ⟨_,ih a (by omega) K ps hf.app.1,?_⟩;refine⟨_,by decide,rfl,rfl,?_⟩;refine .inl ⟨_,ih b (by omega) K ps hf.app.2,?_⟩;refine .inl ⟨_,apply_mk _ _,?_⟩;exact rfl
  | all s a =>
   simp only[Tp.sz] at h;refine zC ttok mixed Tryz.func47 rfl (by rfl) (Nat.le_of_ble_eq_true rfl) (by kernel_rfl) ?_;refine⟨fun h=>(by cases h),fun _=>?_⟩;refine⟨fun h=>(by cases h),fun _=>?_⟩;refine⟨fun _=>?_,fun h=>(by cases h)⟩;refine .inl ⟨_,zQJ hf (fun K ps hf=>ih a (by omega) K ps hf),?_⟩;exact rfl
end Go.Proofs.YtebmimnglcdogaaGreatDoor.Ck
