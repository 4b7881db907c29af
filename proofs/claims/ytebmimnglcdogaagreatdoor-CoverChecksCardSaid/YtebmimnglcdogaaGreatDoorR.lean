/- Subst says what the plain law says. Plain. No condition. -/
import Derived.Test.YtebmimnglcdogaaGreatDoorQ
import Derived.Test.YtebmimnglcdogaaGreatDoorI
import Derived.Test.YtebmimnglcdogaaGreatDoorL
import Derived.Test.YtebmimnglcdogaaGreatDoorFpN
set_option linter.unusedSimpArgs false
set_option linter.unusedVariables false
namespace Go.Proofs.YtebmimnglcdogaaGreatDoor.Ck
open Go Fp
set_option maxRecDepth 10000
set_option maxHeartbeats 4000000
set_option linter.unusedVariables false
set_option linter.unusedSimpArgs false
section
variable {ren:ByteArray->ByteArray->Cr->Cr} {fin:Cr->Cr} {far:List ByteArray} {y:ByteArray}
end
section
variable {N:Nat} {y:ByteArray} {b:Cr}
end
section
variable {N:Nat} {y:ByteArray} {b:Cr}
end
set_option maxHeartbeats 16000000
section
variable {N:Nat} {y:ByteArray} {b:Cr} {n:Int} {s:ByteArray} {q:Cr}
end
abbrev lamC (s:ByteArray) (t:Tp) (c:Cr):Cr := .node 5 0 s t (.kid c .nil)
def OwnOk (c:Cr):Prop:=zB Tryz.prog wE [eC c] (eC c)
theorem lam18_ok {s:ByteArray} {t:Tp} {c:Cr} (ht:TyS t) (hc:OwnOk c):zB Tryz.prog zRZ [str s,eTy t,eC c] (eC (lamC s t c)):=by
 refine zA ttok mixed Tryz.func17 rfl (by rfl) (Nat.le_of_ble_eq_true rfl) (by kernel_rfl) ?_;refine .inl ⟨_,zST ht,?_⟩;refine .inl ⟨_,hc,?_⟩;refine⟨by kernel_rfl,?_⟩;exact rfl
theorem zD9 {α:Type} {f:α->AV} {l:List α} {k:Nat} (h:k<l.length):(l.map f)[k]? = some (f l[k]):=by simp[h]
def zC8 (esz:Nat) (r:AV) (o:Nat) (h:List (Nat×HO)):Prop :=
 (r = .sl []/\o=esz+1/\h=[])∨(o=0/\∃b cap zs,r = .lit (.slice (some ⟨b,0,none⟩) 0 cap)/\h=[(b,HO.cells zs)]/\cap*esz<=zs.length)
theorem zKH {α:Type} {ls:List (List α)} {k:Nat} (h:k<ls.length):(ls.take (k+1)).flatten=(ls.take k).flatten++ls[k]:=by
 rw[List.take_succ_eq_append_getElem h,List.flatten_append];simp
theorem zJB {α:Type}:∀(ls:List (List α)) (k:Nat),(ls.take k).flatten.length<=ls.flatten.length
 | [],k=>by simp
 | l::ls,0=>by simp
 | l::ls,k+1=>by have:=zJB ls k;simp only[List.take_succ_cons,List.flatten_cons,List.length_append];omega
theorem zUI {n:Nat} {ls:List (List AV)} (hu:∀l∈ls,Uni n l) (k:Nat):Uni n (ls.take k).flatten:=fun a ha=>by
 obtain⟨l,hl,h⟩:=List.mem_flatten.1 ha;exact hu l (List.mem_of_mem_take hl) a h
def clo (d:List ByteArray) (t:Tp):Tp:=d.foldl (fun t v => .all v t) t
set_option maxRecDepth 100000
theorem zSS {p:ByteArray->Bool} {l:List Tp} {k:Nat} (h:k<l.length):zH6 p l=(l.drop (k+1)).foldl (fun out a=>insAll p out (fv a)) (insAll p (zH6 p (l.take k)) (fv l[k])):=by
 have e:l=l.take k++(l[k]::l.drop (k+1)):=by rw[<-List.drop_eq_getElem_cons h,List.take_append_drop]
 conv=>lhs;rw[e]
 simp only[zH6,List.foldl_append,List.foldl_cons]
theorem zZ1 {p:ByteArray->Bool} (l:List Tp):∀(out:List ByteArray) (x:ByteArray),x∈out->x∈l.foldl (fun out a=>insAll p out (fv a)) out:=by
 induction l with
 | nil=>exact fun out x h=>h
 | cons a l ih=>exact fun out x h=>ih _ x (zKU p (fv a) out x h)
theorem zSE {p:ByteArray->Bool} (l:List Tp):(zH6 p l).Nodup:=by
 have:∀(l:List Tp) (out:List ByteArray),out.Nodup->(l.foldl (fun out a=>insAll p out (fv a)) out).Nodup:=by
  intro l;induction l with
  | nil=>exact fun out h=>h
  | cons a l ih=>exact fun out h=>ih _ (qL h)
 exact this l [] List.nodup_nil
theorem z1R {t:Tp} (hf:¬t.form=2) {k:Nat} (h:k<t.args.length) (j:Nat):(insAll (jA t) (zH6 (jA t) (t.args.take k)) ((fv t.args[k]).take j)).length<=(fv t).length:=by
 refine qI _ _ (qL (zSE _)) fun x hx=>?_;rw[zX4 t hf,zSS h];refine zZ1 _ _ _ ?_;have e:fv t.args[k]=(fv t.args[k]).take j++(fv t.args[k]).drop j:=(List.take_append_drop j _).symm;rw[e,zEF];exact zKU _ _ _ _ hx
theorem zRE (t:Tp) (hs:(fv t).length<=1000000000) (hs2:∀a∈t.args,(fv a).length<=1000000000) (ih:∀a∈t.args,zB Tryz.prog zCO [eTy a] (.sl (eSs (fv a)))):zB Tryz.prog zCO [eTy t] (.sl (eSs (fv t))):=by
 refine zD ttok mixed Tryz.func110 rfl (by rfl) (Nat.le_of_ble_eq_true rfl) (by kernel_rfl) ?_;refine⟨fun h=>?_,fun h=>?_⟩
 ·obtain⟨s,rfl⟩:=Tp.is_var (t:=t) (by simpa using h);exact rfl
 ·have hf:¬t.form=2:=by simpa using h
  rw[zX4 t hf];have hlen:t.eArgs.length=t.args.length:=z1S t;have h2:=zTD t;refine⟨{k:Nat // k<=t.args.length},fun k=>{vs:=[(1,.box 0 (eTy t)),(3,.v (.sl (eSs (zH6 (jA t) (t.args.take k.1))))),(15,.v (.sl t.eArgs)),(16,.v (.lit (.int .i64 (t.eArgs.length:Nat)))),(17,.v (.lit (.int .i64 (k.1:Nat))))],ow:=[(3,0,2)]},
   fun k=>t.args.length-k.1,⟨0,Nat.zero_le _⟩,⟨⟨rfl,rfl,rfl,rfl,rfl,trivial⟩,⟨trivial,trivial⟩,rfl⟩,?_⟩
  rintro⟨k,hk⟩;refine⟨fun h=>?_,fun h=>?_⟩
  ·have h:k<t.args.length:=by simp[hlen] at h;omega
   refine⟨eTy t.args[k],by simp,by rw[t.eArgs_eq];exact zNL h,rfl,?_⟩;refine .inl ⟨_,ih _ (List.getElem_mem h),?_⟩;obtain⟨out,hout⟩:∃out,out=zH6 (jA t) (t.args.take k):=⟨_,rfl⟩
   obtain⟨m,hm⟩:∃m,m=fv t.args[k]:=⟨_,rfl⟩
   rw[<-hout,<-hm];have hol:∀j,(insAll (jA t) out (m.take j)).length<=1000000000:=fun j=>by rw[hout,hm];exact Nat.le_trans (z1R hf h j) hs
   have hml:m.length<=1000000000:=by rw[hm];exact hs2 _ (List.getElem_mem h)
   have hlm:(eSs m).length=m.length:=by simp[eSs]
   refine⟨{j:Nat // j<=m.length},fun j=>{vs:=[(1,.box 0 (eTy t)),(3,.v (.sl (eSs (insAll (jA t) out (m.take j.1))))),(15,.v (.sl t.eArgs)),(16,.v (.lit (.int .i64 (t.eArgs.length:Nat)))),(17,.v (.lit (.int .i64 (k:Nat)))),(22,.v (.sl (eSs m))),(23,.v (.lit (.int .i64 ((eSs m).length:Nat)))),(24,.v (.lit (.int .i64 (j.1:Nat))))],ow:=[(3,0,2)]},
    fun j=>m.length-j.1,⟨0,Nat.zero_le _⟩,⟨⟨rfl,rfl,rfl,rfl,rfl,rfl,rfl,rfl,trivial⟩,⟨rfl,trivial⟩,rfl⟩,?_⟩
   rintro⟨j,hj⟩;refine⟨fun h3=>?_,fun h3=>?_⟩
   ·have h3:j<m.length:=by simp[hlm] at h3;omega
    have hacc:=hol j;have htk:=zQM (p:=jA t) (out:=out) h3;refine⟨_,by omega,zKW h3,rfl,?_⟩;refine .inl ⟨_,xY (l:=insAll (jA t) out (m.take j)) (s:=m[j]) (by omega),?_⟩;have wj:IntKind.i64.wrap ((j:Int)+1)=((j+1:Nat):Int):=wrap_succ (by omega);have skip:∀(_:insAll (jA t) out (m.take (j+1))=insAll (jA t) out (m.take j)),AV.sl (eSs (insAll (jA t) out (m.take j)))=AV.sl (eSs (insAll (jA t) out (m.take (j+1)))):=fun e=>by rw[e]
    refine⟨fun hc=>?_,fun hc=>?_⟩
    ·have hc:memb m[j] (insAll (jA t) out (m.take j))=false:=by simpa using hc
     refine⟨fun h5=>?_,fun h5=>?_⟩
     ·refine⟨fun h6=>?_,fun h6=>?_⟩
      ·rw[zT3 hc (by simp[jA] at h5 h6⊢;simp[h6])] at htk;refine⟨by simp[eSs];omega,jU _,jU [_],?_⟩;refine⟨⟨j+1,h3⟩,(show m.length-(j+1)<m.length-j by omega),⟨rfl,?_,rfl,rfl,rfl,rfl,rfl,?_,trivial⟩,⟨rfl,trivial⟩,rfl⟩
       ·show SV.v (AV.sl (eSs (insAll (jA t) out (m.take j))++[AV.lit (.string m[j])]))=SV.v (AV.sl (eSs (insAll (jA t) out (m.take (j+1)))));rw[zPH,htk]
       ·exact congrArg (fun n=>SV.v (AV.lit (Value.int .i64 n))) wj
      ·rw[zX1 (.inr (by simp[jA] at h5 h6⊢;simp[h5,h6]))] at htk;refine⟨⟨j+1,h3⟩,(show m.length-(j+1)<m.length-j by omega),⟨rfl,?_,rfl,rfl,rfl,rfl,rfl,?_,trivial⟩,⟨rfl,trivial⟩,rfl⟩
       ·exact congrArg SV.v (skip htk)
       ·exact congrArg (fun n=>SV.v (AV.lit (Value.int .i64 n))) wj
     ·rw[zT3 hc (by simp[jA] at h5⊢;simp[h5])] at htk;refine⟨by simp[eSs];omega,jU _,jU [_],?_⟩;refine⟨⟨j+1,h3⟩,(show m.length-(j+1)<m.length-j by omega),⟨rfl,?_,rfl,rfl,rfl,rfl,rfl,?_,trivial⟩,⟨rfl,trivial⟩,rfl⟩
      ·show SV.v (AV.sl (eSs (insAll (jA t) out (m.take j))++[AV.lit (.string m[j])]))=SV.v (AV.sl (eSs (insAll (jA t) out (m.take (j+1)))));rw[zPH,htk]
      ·exact congrArg (fun n=>SV.v (AV.lit (Value.int .i64 n))) wj
    ·have hc:memb m[j] (insAll (jA t) out (m.take j))=true:=by simpa using hc
     rw[zX1 (.inl hc)] at htk;refine⟨⟨j+1,h3⟩,(show m.length-(j+1)<m.length-j by omega),⟨rfl,?_,rfl,rfl,rfl,rfl,rfl,?_,trivial⟩,⟨rfl,trivial⟩,rfl⟩
     ·exact congrArg SV.v (skip htk)
     ·exact congrArg (fun n=>SV.v (AV.lit (Value.int .i64 n))) wj
   ·have h3:j=m.length:=by simp[hlm] at h3;omega
    subst h3;have e:insAll (jA t) out (m.take m.length)=zH6 (jA t) (t.args.take (k+1)):=by rw[List.take_length,zU1 h,<-hout,<-hm]
    refine⟨⟨k+1,h⟩,(show t.args.length-(k+1)<t.args.length-k by omega),⟨rfl,?_,rfl,rfl,?_,trivial⟩,⟨rfl,trivial⟩,rfl⟩
    ·exact congrArg (fun l=>SV.v (AV.sl (eSs l))) e
    ·exact congrArg (fun n=>SV.v (AV.lit (Value.int .i64 n))) (wrap_succ (k:=k) (by omega))
  ·have h:k=t.args.length:=by simp[hlen] at h;omega
   subst h;rw[List.take_length];exact rfl
theorem zTC {t:Tp}:∀a∈t.args,(fv a).length+dp a<=(fv t).length+dp t:=by
 cases t with
 | app a b =>
  intro x hx;simp only[Tp.args,List.mem_cons,List.not_mem_nil,or_false] at hx;have h1:(fv a).length<=(fv (.app a b)).length:=qI _ _ (zE9 a) fun s hs=>mem_fv_app.2 (.inl hs);have h2:(fv b).length<=(fv (.app a b)).length:=qI _ _ (zE9 b) fun s hs=>mem_fv_app.2 (.inr hs);simp only[dp];rcases hx with rfl|rfl<;>omega
 | all s a =>
  intro x hx;simp only[Tp.args,List.mem_cons,List.not_mem_nil,or_false] at hx;subst hx;have h1:(fv x).length<=(s::fv (.all s x)).length:=qI _ _ (zE9 x) fun y hy=>by
   by_cases e:y=s
   ·rw[e];exact List.mem_cons_self
   ·exact List.mem_cons_of_mem _ (mem_fv_all.2 ⟨hy,e⟩)
  simp only[dp,List.length_cons] at h1⊢;omega
 | _=>simp[Tp.args]
theorem zOZ (N:Nat):∀t:Tp,t.sz<=N->(fv t).length+dp t<=1000000000->zB Tryz.prog zCO [eTy t] (.sl (eSs (fv t))):=by
 induction N with
 | zero=>intro t h;have:=zKS t;omega
 | succ N ih=>exact fun t h hb=>zRE t (by omega) (fun a ha=>by have:=zTC a ha;omega) fun a ha=>ih a (z6L h a ha) (by have:=zTC a ha;omega)
structure FitX (K:Nat) (t:Tp) (ps:Env'):Prop where
 names:∃G:List ByteArray,G.length<=K/\(∀s∈fv t,s∈G)/\∀p∈ps,∀s∈fv p.2,s∈G
 room:K+2*dp t<2600
 many:ps.length+dp t<5000
 deep:∀p∈ps,dp p.2<1000000
theorem zRR {G:List ByteArray} {t:Tp} (h:∀s∈fv t,s∈G):(fv t).length<=G.length:=qI _ _ (zE9 t) h
theorem zKL {G:List ByteArray} {K:Nat} (hG:G.length<=K):∀{ps:Env'},(∀p∈ps,∀s∈fv p.2,s∈G)->(caught ps).length<=K*ps.length
 | [],_=>by simp[caught]
 | p::r,h=>by
  have h1:=zKL hG (ps:=r) (fun q hq=>h q (by simp[hq]));have h2:=zRR (h p (by simp));have:caught (p::r)=fv p.2++caught r:=rfl;rw[this,List.length_append,List.length_cons,Nat.mul_succ];omega
theorem z4Y {G l:List ByteArray} (h:∀s∈l,s∈G):ff l<=G.length:=by
 have:=qI ((List.range (ff l)).map lett) G (List.pairwise_map.2 (List.Pairwise.imp (fun h e=>h (zPI e)) (List.nodup_range))) (fun x hx=>by
  obtain⟨j,hj,rfl⟩:=List.mem_map.1 hx;exact h _ (zSG l j (List.mem_range.1 hj)))
 simpa using this
theorem zVE {G:List ByteArray} {ps:Env'} (h:∀p∈ps,∀s∈fv p.2,s∈G):∀s∈caught ps,s∈G:=fun s hs=>by
 obtain⟨p,hp,hs⟩:=List.mem_flatMap.1 hs;exact h p hp s hs
theorem FitX.app {K:Nat} {a b:Tp} {ps:Env'} (h:FitX K (.app a b) ps):FitX K a ps/\FitX K b ps:=by
 obtain⟨⟨G,g1,g2,g3⟩,h3,h4,h6⟩:=h;simp only[dp] at h3 h4;exact⟨⟨⟨G,g1,fun s hs=>g2 s (mem_fv_app.2 (.inl hs)),g3⟩,by omega,by omega,h6⟩,⟨⟨G,g1,fun s hs=>g2 s (mem_fv_app.2 (.inr hs)),g3⟩,by omega,by omega,h6⟩⟩
theorem FitX.all0 {K:Nat} {a:Tp} {s:ByteArray} {ps:Env'} (h:FitX K (.all s a) ps):FitX (K+1) a (kept s (fv a) ps):=by
 obtain⟨⟨G,g1,g2,g3⟩,h3,h4,h6⟩:=h;simp only[dp] at h3 h4;have:=zDJ s (fv a) ps;refine⟨⟨s::G,by simp;omega,fun x hx=>?_,fun p hp x hx=>List.mem_cons_of_mem _ (g3 p (zJ7 hp) x hx)⟩,by omega,by omega,fun p hp=>h6 p (zJ7 hp)⟩;by_cases e:x=s
 ·rw[e];exact List.mem_cons_self
 ·exact List.mem_cons_of_mem _ (g2 x (mem_fv_all.2 ⟨hx,e⟩))
theorem FitX.all1 {K:Nat} {a:Tp} {s:ByteArray} {ps:Env'} (h:FitX K (.all s a) ps):ff (caught (kept s (fv a) ps)++fv a)<=K+1/\FitX (K+2) a (kept s (fv a) ps++[(s,.var (lett (ff (caught (kept s (fv a) ps)++fv a))))]):=by
 have h0:=h.all0;obtain⟨⟨G,g1,g2,g3⟩,q3,q4,q6⟩:=h0;have hff:ff (caught (kept s (fv a) ps)++fv a)<=K+1:=Nat.le_trans (z4Y (G:=G) fun x hx=>by
  rcases List.mem_append.1 hx with hx|hx
  ·exact zVE g3 x hx
  ·exact g2 x hx) g1
 refine⟨hff,?_⟩;obtain⟨_,h3,h4,h6⟩:=h;simp only[dp] at h3 h4;have:=zDJ s (fv a) ps;generalize lett (ff (caught (kept s (fv a) ps)++fv a))=z;refine⟨⟨z::G,by simp;omega,fun x hx=>List.mem_cons_of_mem _ (g2 x hx),fun p hp x hx=>?_⟩,by omega,by simp;omega,fun p hp=>?_⟩
 ·rcases List.mem_append.1 hp with hp|hp
  ·exact List.mem_cons_of_mem _ (g3 p hp x hx)
  ·rw[List.mem_singleton.1 hp] at hx;simp[fv] at hx;rw[hx];exact List.mem_cons_self
 ·rcases List.mem_append.1 hp with hp|hp
  ·exact q6 p hp
  ·rw[List.mem_singleton.1 hp];simp[dp]
theorem zWN {K : Nat} {s : ByteArray} {a : Tp} {ps : Env'} (hf : FitX K (.all s a) ps) (ih : ∀ (K : Nat) (ps : Env'), FitX K a ps -> wH a ps) :
    zB Tryz.prog zK6 [eTy (.all s a), .sl (eN ps), .sl (eB ps)] (eTy (sub (.all s a) ps)) := by
  have h0 := hf.all0;have h1 := hf.all1;obtain ⟨⟨G, g1, g2, g3⟩, hroom, hmany, hdeep⟩ := hf;simp only [dp] at hroom hmany;have hfl : (fv a).length <= K + 1 := by
    have := zRR (t := a) (G := s :: G) fun x hx => by
      by_cases e : x = s
      · rw [e]; exact List.mem_cons_self
      · exact List.mem_cons_of_mem _ (g2 x (mem_fv_all.2 ⟨hx, e⟩))
    simp at this; omega
  refine zD ttok mixed Tryz.func84 rfl (by rfl) (Nat.le_of_ble_eq_true rfl) (by kernel_rfl) ?_;refine ⟨_, by decide, rfl, rfl, ?_⟩;refine .inl ⟨_, zOZ a.sz a (Nat.le_refl _) (by omega), ?_⟩
  refine ⟨{k : Nat // k <= ps.length}, fun k => { vs := [(2, .v (.sl (eB ps))), (3, .box 0 (eTy (.all s a))), (6, .box 0 (eTy .no)), (7, .box 0 (eTy a)), (8, .v (.sl (eSs (fv a)))), (9, .v (.sl (eN (kept s (fv a) (ps.take k.1))))), (10, .v (.sl (eB (kept s (fv a) (ps.take k.1))))), (11, .v (.sl (eSs (caught (kept s (fv a) (ps.take k.1)))))),
      (21, .v (.sl (eN ps))), (22, .v (.lit (.int .i64 ((eN ps).length : Nat)))), (23, .v (.lit (.int .i64 (k.1 : Nat))))], ow := [(9, 0, 2), (10, 0, 5), (11, 0, 2)] },
    fun k => ps.length - k.1, ⟨0, Nat.zero_le _⟩, ⟨⟨rfl, rfl, rfl, rfl, rfl, rfl, rfl, rfl, rfl, rfl, rfl, trivial⟩, ⟨trivial, trivial, trivial, trivial⟩, rfl⟩, ?_⟩
  rintro ⟨k, hk⟩;have hkl : (kept s (fv a) (ps.take k)).length <= k := by
    have := zDJ s (fv a) (ps.take k);simp at this; omega
  have hcl : (caught (kept s (fv a) (ps.take k))).length <= K * (kept s (fv a) (ps.take k)).length := zKL g1 fun p hp => g3 p (List.mem_of_mem_take (zJ7 hp));have hK1 : K * (kept s (fv a) (ps.take k)).length <= 2600 * 5000 := Nat.mul_le_mul (by omega) (by omega);have wk' : k < ps.length -> IntKind.i64.wrap ((k : Int) + 1) = ((k + 1 : Nat) : Int) := fun _ => wrap_succ (by omega);refine ⟨fun h => ?_, fun h => ?_⟩
  · have h : k < ps.length := by simp [zD4] at h; omega
    have wk' := wk' h;have ht := zWK (s := s) (own := fv a) h;refine ⟨_, by omega, z3X h, rfl, ?_⟩;refine ⟨fun h3 => ?_, fun h3 => ?_⟩
    · refine .inl ⟨_, xY (l := fv a) (s := ps[k].1) (by omega), ?_⟩
      refine ⟨fun h4 => ?_, fun h4 => ?_⟩
      · rw [if_pos (by
          have h5 : ¬ ps[k].1 = s := fun e => by
            have h3' : (!decide (ps[k].1 = s)) = true := h3;rw [decide_eq_true e] at h3'; cases h3'
          rw [h4, decide_eq_true (p := ps[k].1 ≠ s) h5]; rfl)] at ht
        refine ⟨by simp [zD4]; omega, z4Z _, jU [_], ?_⟩;refine ⟨_, by omega, zRM h, rfl, ?_⟩;refine ⟨by simp [zLO]; omega, z6I _, zIY [_], ?_⟩;refine ⟨_, by omega, zRM h, rfl, ?_⟩;have hlt := hdeep _ (List.getElem_mem h);have hfk : (fv ps[k].2).length <= G.length := zRR (g3 _ (List.getElem_mem h));refine .inl ⟨_, zOZ ps[k].2.sz ps[k].2 (Nat.le_refl _) (by omega), ?_⟩;refine ⟨by simp [eSs]; omega, jU _, jU _, ?_⟩;refine ⟨⟨k + 1, h⟩, (show ps.length - (k + 1) < ps.length - k by omega), ⟨rfl, rfl, rfl, rfl, rfl, ?_, ?_, ?_, rfl, rfl, ?_, trivial⟩, ⟨rfl, rfl, rfl, trivial⟩, rfl⟩
        · rw [ht]; exact congrArg (fun l => SV.v (AV.sl l)) (zTE _ ps[k].1 ps[k].2)
        · rw [ht]; exact congrArg (fun l => SV.v (AV.sl l)) (zT0 _ ps[k].1 ps[k].2)
        · rw [ht, zOG]; exact congrArg (fun l => SV.v (AV.sl l)) (zW0 _ _)
        · exact congrArg (fun n => SV.v (AV.lit (Value.int .i64 n))) wk'
      · rw [if_neg (by rw [h4]; simp), List.append_nil] at ht
        refine ⟨⟨k + 1, h⟩, (show ps.length - (k + 1) < ps.length - k by omega), ⟨rfl, rfl, rfl, rfl, rfl, ?_, ?_, ?_, rfl, rfl, ?_, trivial⟩, ⟨rfl, rfl, rfl, trivial⟩, rfl⟩
        · rw [ht]; rfl
        · rw [ht]; rfl
        · rw [ht]; rfl
        · exact congrArg (fun n => SV.v (AV.lit (Value.int .i64 n))) wk'
    · rw [if_neg (by
        have h5 : ps[k].1 = s := Classical.byContradiction fun e => by
          have h3' : (!decide (ps[k].1 = s)) = false := h3;rw [decide_eq_false e] at h3'; cases h3'
        rw [decide_eq_false (p := ps[k].1 ≠ s) (fun h => h h5)]; simp), List.append_nil] at ht
      refine ⟨⟨k + 1, h⟩, (show ps.length - (k + 1) < ps.length - k by omega), ⟨rfl, rfl, rfl, rfl, rfl, ?_, ?_, ?_, rfl, rfl, ?_, trivial⟩, ⟨rfl, rfl, rfl, trivial⟩, rfl⟩
      · rw [ht]; rfl
      · rw [ht]; rfl
      · rw [ht]; rfl
      · exact congrArg (fun n => SV.v (AV.lit (Value.int .i64 n))) wk'
  · have h : k = ps.length := by simp [zD4] at h; omega
    subst h;simp only [List.take_length] at hkl hcl hK1 ⊢;obtain ⟨q, hq⟩ : ∃ q, q = kept s (fv a) ps := ⟨_, rfl⟩
    rw [<- hq] at hkl hcl hK1 h0 h1 ⊢;refine .inl ⟨_, xY (l := caught q) (s := s) (by omega), ?_⟩;refine ⟨fun h3 => ?_, fun h3 => ?_⟩
    · obtain ⟨z, hz⟩ : ∃ z, z = lett (ff (caught q ++ fv a)) := ⟨_, rfl⟩
      have es : sub (.all s a) ps = .all z (sub a (q ++ [(s, .var z)])) := by rw [sub, <- hq, if_pos h3, <- hz]
      rw [es];have hl := zSC (l := caught q ++ fv a) (by omega) (by simp; omega);rw [<- hz] at hl h1;rw [<- zW0] at hl;have hi := ih (K + 2) _ h1.2;unfold wH at hi;rw [<- zTE, <- zT0] at hi;refine ⟨by simp [eSs]; omega, jU _, jU _, ?_⟩;refine .inl ⟨_, hl, ?_⟩;refine ⟨by simp [zD4]; omega, z4Z _, jU [_], ?_⟩;refine .inl ⟨_, var_mk z, ?_⟩;refine ⟨by simp [zLO]; omega, z6I _, zIY [_], ?_⟩;refine .inl ⟨_, hi, ?_⟩;refine .inl ⟨_, all_mk z _, ?_⟩;exact rfl
    · have es : sub (.all s a) ps = .all s (sub a q) := by rw [sub, <- hq, if_neg (by rw [h3]; simp)]
      rw [es];refine .inl ⟨_, ih (K + 1) q h0, ?_⟩;refine .inl ⟨_, all_mk s _, ?_⟩;exact rfl
theorem substX_ok (N:Nat):∀(t:Tp),t.sz<=N->∀(K:Nat) (ps:Env'),FitX K t ps->wH t ps:=by
 induction N with
 | zero=>intro t h;have:=zKS t;omega
 | succ N ih =>
  intro t h K ps hf;have fin:∀t:Tp,¬t.form=2->¬t.form=4->¬t.form=5->wH t ps:=fun t h2 h4 h5=>by
   have es:sub t ps=t:=by cases t<;>first|rfl|exact absurd rfl h2|exact absurd rfl h4|exact absurd rfl h5
   unfold wH;rw[es];refine zD ttok mixed Tryz.func47 rfl (by rfl) (Nat.le_of_ble_eq_true rfl) (by kernel_rfl) ?_;refine⟨fun h=>absurd (by simpa using h) h2,fun _=>?_⟩;refine⟨fun h=>absurd (by simpa using h) h4,fun _=>?_⟩;refine⟨fun h=>absurd (by simpa using h) h5,fun _=>?_⟩;refine .inl ⟨_,qN t,?_⟩;exact rfl
  cases t with
  | no=>exact fin _ (by decide) (by decide) (by decide)
  | mt n=>exact fin _ (by simp[Tp.form]) (by simp[Tp.form]) (by simp[Tp.form])
  | con s=>exact fin _ (by simp[Tp.form]) (by simp[Tp.form]) (by simp[Tp.form])
  | var x =>
   refine zD ttok mixed Tryz.func47 rfl (by rfl) (Nat.le_of_ble_eq_true rfl) (by kernel_rfl) ?_;have hm:=hf.many;refine⟨fun _=>?_,fun h=>(by cases h)⟩;refine .inl ⟨_,zFF (l:=ps.map (fun p:ByteArray×Tp=>p.1)) (s:=x) (by simp;omega),?_⟩;rcases zTJ (x:=x) (ps:=ps) with⟨h1,h2⟩|⟨k,hk,h1,h2⟩
   ·have es:sub (.var x) ps = .var x:=by simp[sub,h1]
    rw[es,zNO h2];refine⟨fun h=>(by cases h),fun _=>?_⟩;refine .inl ⟨_,qN (.var x),?_⟩;exact rfl
   ·have es:sub (.var x) ps=ps[k].2:=by simp[sub,h2]
    rw[es,h1];refine⟨fun _=>?_,fun h=>(by simp at h)⟩;refine⟨_,by omega,zRM hk,rfl,?_⟩;refine .inl ⟨_,qN _,?_⟩;exact rfl
  | app a b =>
   simp only[Tp.sz] at h;refine zD ttok mixed Tryz.func47 rfl (by rfl) (Nat.le_of_ble_eq_true rfl) (by kernel_rfl) ?_;refine⟨fun h=>(by cases h),fun _=>?_⟩;refine⟨fun _=>?_,fun h=>(by cases h)⟩;refine⟨_,by decide,rfl,rfl,?_⟩;refine .inl ⟨_,ih a (by omega) K ps hf.app.1,?_⟩;refine⟨_,by decide,rfl,rfl,?_⟩;refine .inl ⟨_,ih b (by omega) K ps hf.app.2,?_⟩;refine .inl ⟨_,zFN _ _,?_⟩;exact rfl
  | all s a =>
   simp only[Tp.sz] at h;refine zD ttok mixed Tryz.func47 rfl (by rfl) (Nat.le_of_ble_eq_true rfl) (by kernel_rfl) ?_;refine⟨fun h=>(by cases h),fun _=>?_⟩;refine⟨fun h=>(by cases h),fun _=>?_⟩;refine⟨fun _=>?_,fun h=>(by cases h)⟩;refine .inl ⟨_,zWN hf (fun K ps hf=>ih a (by omega) K ps hf),?_⟩;exact rfl
theorem zQ5 (n:Nat) (hn:n<=100000):CallsG Tryz.prog (fnv 155) [] [.nil,.lit (.int .i64 (n:Nat))] [] fun r o h=>r = .sl []/\o=6/\h=[]:=by
 have w0:IntKind.i64.wrap ((n:Int)-IntKind.i64.wrap (0-(([]:List AV).length:Nat)))=(n:Int):=by
  rw[show IntKind.i64.wrap (0-(([]:List AV).length:Nat))=0 from rfl,Int.sub_zero];exact yB (by omega)
 refine CallsG.opened (esz:=5) (qU (os:=[6]) ttok mixed Tryz.func155 rfl (by rfl) (fun i sz h=>?_) (Nat.le_of_ble_eq_true rfl) (by kernel_rfl) (post:=zC8 5) ?_) (fun r o h hp=>hp)
 ·match i with
  | 0=>rfl
  | i+1=>simp at h
 refine⟨fun h=>?_,fun _=>?_⟩
 ·have h:=of_decide_eq_true h;omega
 refine⟨fun h=>?_,fun h=>?_⟩
 ·have h:=of_decide_eq_true h;rw[w0] at h;refine .inl ⟨rfl,rfl,?_⟩;refine⟨n,w0,by omega,by omega,fun b cap zs h1 h2=>?_⟩;refine⟨by decide,by decide,by exact_mod_cast Nat.zero_le _,?_⟩;refine .inr ⟨rfl,b,cap,zs,?_,rfl,by omega⟩;have e:∀A B:Option Addr,A=some ⟨b,0,none⟩->B=some ⟨b,0,none⟩->AV.lit (.slice (if cap=0 then A else B) 0 cap) = .lit (.slice (some ⟨b,0,none⟩) 0 cap):=fun A B hA hB=>by rw[hA,hB];split<;>rfl
  exact e _ _ rfl rfl
 ·exact .inl ⟨rfl,rfl,rfl⟩
theorem zM6 (ls:List (List AV)) (hn:ls.length<10000) (hu:∀l∈ls,Uni 5 l) (ht:ls.flatten.length<=100000):zB Tryz.prog 147 [.sl (ls.map AV.sl)] (.sl ls.flatten):=by
 refine zA ttok mixed Tryz.func147 rfl (by rfl) (Nat.le_of_ble_eq_true rfl) (by kernel_rfl) ?_;have hml:(ls.map AV.sl).length=ls.length:=by simp
 refine⟨{k:Nat // k<=ls.length},fun k=>{vs:=[(0,.v (.sl (ls.map AV.sl))),(3,sv ((ls.take k.1).flatten.length:Nat)),(9,.v (.sl (ls.map AV.sl))),(10,sv (ls.length:Nat)),(11,sv (k.1:Nat))]},
  fun k=>ls.length-k.1,⟨0,Nat.zero_le _⟩,⟨⟨rfl,rfl,rfl,svc (by rw[hml]),rfl,trivial⟩,trivial,rfl⟩,?_⟩
 rintro⟨k,hk⟩;refine⟨fun h=>?_,fun h=>?_⟩
 ·have h:k<ls.length:=by have h:=of_decide_eq_true h;simp only at h;omega
  have hfl:=zKH h;have hle:=zJB ls (k+1);refine⟨.sl ls[k],by omega,zD9 (f:=AV.sl) h,rfl,?_⟩;have w1:IntKind.i64.wrap (((ls.take k).flatten.length:Nat)+(ls[k].length:Nat))=((ls.take (k+1)).flatten.length:Nat):=by
   rw[hfl,List.length_append,<-Int.natCast_add];exact yB (by rw[hfl,List.length_append] at hle;omega)
  refine⟨fun h2=>?_,fun _=>?_⟩
  ·have h2:=of_decide_eq_true h2;simp only[w1] at h2;omega
  exact⟨⟨k+1,h⟩,by simp;omega,⟨rfl,svc w1,rfl,rfl,svc (wrap_succ (k:=k) (by omega)),trivial⟩,trivial,rfl⟩
 ·have h:k=ls.length:=by have h:=of_decide_eq_false h;simp only at h;omega
  subst h;have hg:=zQ5 ls.flatten.length ht;rw[show ls.flatten.length=(ls.take ls.length).flatten.length by rw[List.take_length]] at hg;refine .inr (.inr (.inr (.inr (.inr (.inl ⟨[],[],[],_,rfl,List.nodup_nil,rfl,hg,?_⟩)))));rintro r w hout ⟨rfl,rfl,rfl⟩;refine⟨{k:Nat // k<=ls.length},fun k=>{vs:=[(6,.v (.sl (ls.take k.1).flatten)),(25,.v (.sl (ls.map AV.sl))),(26,sv (ls.length:Nat)),(27,sv (k.1:Nat))],ow:=[(6,0,6)]},
   fun k=>ls.length-k.1,⟨0,Nat.zero_le _⟩,⟨⟨rfl,rfl,svc (by rw[hml]),rfl,trivial⟩,⟨rfl,trivial⟩,rfl⟩,?_⟩
  rintro⟨k,hk⟩;refine⟨fun h=>?_,fun h=>?_⟩
  ·have h:k<ls.length:=by have h:=of_decide_eq_true h;simp only at h;omega
   have hfl:=zKH h;have hle:=zJB ls (k+1);refine⟨.sl ls[k],by omega,zD9 (f:=AV.sl) h,rfl,?_⟩;refine⟨by rw[hfl,List.length_append] at hle;simp only;omega,zUI hu k,hu _ (List.getElem_mem h),?_⟩;refine⟨⟨k+1,h⟩,by simp;omega,⟨?_,rfl,rfl,svc (wrap_succ (k:=k) (by omega)),trivial⟩,⟨rfl,trivial⟩,rfl⟩;show _=SV.v (AV.sl (ls.take (k+1)).flatten);rw[hfl];rfl
  ·have h:k=ls.length:=by have h:=of_decide_eq_false h;simp only at h;omega
   subst h;show AV.sl (ls.take ls.length).flatten=_;rw[List.take_length]
structure Fd where
 nm:ByteArray
 tag:Int
 many:Int
 ar:Int
 t:Tp
abbrev Nm2:=ByteArray×Tp
def eFd (f:Fd):AV := .agg [.lit (.string f.nm),.lit (.int .i64 f.tag),.lit (.int .i64 f.many),.lit (.int .i64 f.ar),.lit (.int .i64 f.t.form),.lit (.int .i64 f.t.num),.lit (.string f.t.nam),.sl f.t.eArgs]
def eNa (x:Nm2):AV := .agg [.lit (.string x.1),.lit (.int .i64 x.2.form),.lit (.int .i64 x.2.num),.lit (.string x.2.nam),.sl x.2.eArgs]
def eFds (l:List Fd):List AV:=l.map eFd
def zC1 (l:List Nm2):List AV:=l.map eNa
structure Wd where
 fs:List Fd
 env:List Nm2
 ps:Env'
 deep:Nat
def eW (w:Wd):AV := .agg [.sl (eFds w.fs),.sl (zC1 w.env),.sl (eN w.ps),.sl (eB w.ps),.lit (.int .i64 (w.deep:Nat))]
theorem z2S (l:List Nm2):Uni 5 (zC1 l):=fun a ha=>by obtain⟨x,_,rfl⟩:=List.mem_map.1 ha;rfl
def Wd.more (w:Wd) (l:List Nm2):Wd:={w with env:=w.env++l}
theorem zDO (w:Wd) (l:List Nm2) (h:w.env.length+l.length<=100000):zB Tryz.prog 127 [eW w,.sl (zC1 l)] (eW (w.more l)):=by
 have hc:=zM6 [zC1 w.env,zC1 l] (by simp) (fun m hm=>by
  rcases List.mem_cons.1 hm with rfl|hm
  ·exact z2S _
  ·rw[List.mem_singleton.1 hm];exact z2S _) (by simp[zC1];omega)
 rw[show [zC1 w.env,zC1 l].flatten=zC1 (w.env++l) by simp[zC1]] at hc;refine zA ttok mixed Tryz.func127 rfl (by rfl) (Nat.le_of_ble_eq_true rfl) (by kernel_rfl) ?_;refine .inl ⟨_,hc,?_⟩;exact rfl
noncomputable def Wd.mean (w:Wd) (t:Tp):Tp:=sub t w.ps
theorem zDL (w:Wd) (t:Tp) {K:Nat} (hf:FitX K t w.ps):zB Tryz.prog 126 [eW w,eTy t] (eTy (w.mean t)):=by
 refine zA ttok mixed Tryz.func126 rfl (by rfl) (Nat.le_of_ble_eq_true rfl) (by kernel_rfl) ?_;refine .inl ⟨_,substX_ok t.sz t (Nat.le_refl _) K w.ps hf,?_⟩;exact rfl
theorem number_ok (w:Wd) (c:Cr):zB Tryz.prog 101 [eW w,eC c] (eTy (.con ⟨#[73,110,116]⟩)):=by
 refine zA ttok mixed Tryz.func101 rfl (by rfl) (Nat.le_of_ble_eq_true rfl) (by kernel_rfl) ?_;refine .inl ⟨_,con_mk _,?_⟩;exact rfl
theorem fail_ok (w:Wd) (c:Cr) {K:Nat} (hf:FitX K c.t w.ps):zB Tryz.prog 109 [eW w,eC c] (eTy (w.mean c.t)):=by
 refine zA ttok mixed Tryz.func109 rfl (by rfl) (Nat.le_of_ble_eq_true rfl) (by kernel_rfl) ?_;refine .inl ⟨_,zDL w c.t hf,?_⟩;exact rfl
def fE (k:Int) (n:Int) (f:Nat):AV×AV:=(.lit (.int .i64 k),.agg [.lit (.int .i64 n),.lit (fnv f)])
def frmL:List (AV×AV):=[fE 1 0 99,fE 2 0 100,fE 3 0 101,fE 4 2 102,fE 5 1 103,fE 6 1 104,fE 7 1 105,fE 8 1 106,fE 9 1 107,fE 10 2 108,fE 11 0 109]
theorem z2P:∀p∈frmL,qC (.lit (.int .i64 0)) p.1:=by
 intro p hp;simp only[frmL,fE,List.mem_cons,List.not_mem_nil,or_false] at hp;rcases hp with rfl|rfl|rfl|rfl|rfl|rfl|rfl|rfl|rfl|rfl|rfl<;>rfl
theorem qR (n:Nat):∀p∈frmL.take n,qC (.lit (.int .i64 0)) p.1:=fun p hp=>z2P p (List.mem_of_mem_take hp)
theorem zA5:zB Tryz.prog 81 [] (.mpv frmL):=by
 refine CallsG.pure (post:=fun r o h=>o=0/\∃b,r = .lit (.map (some b))/\h=[(b,HO.mp frmL)]) ?_ (by
  rintro r o h ⟨rfl,b,rfl,rfl⟩;exact⟨.mp b frmL frmL (by simp) rfl (fun j c c' h1 h2=>by rw[h1] at h2;injection h2 with h2;subst h2;exact .refl _) (fun j c c' h1 h2=>by rw[h1] at h2;injection h2 with h2;subst h2;exact .refl _),rfl⟩)
 refine xC (first:=[]) (cap:=[]) ttok mixed Tryz.func81 rfl (by rfl) rfl (Nat.le_of_ble_eq_true rfl) (by kernel_rfl) ?_;refine Wsem.seq ttok mixed ?_;refine Wsem.seqS (Wsem.regionIns ttok (by kernel_rfl) ?_);intro b;refine⟨0,frmL.take 0,none,rfl,qR 0,rfl,.no (by intro p hp;simp at hp),?_⟩;refine⟨0,frmL.take 1,none,rfl,qR 1,rfl,.no (by intro p hp;simp[frmL,fE] at hp;rcases hp with rfl<;>simp),?_⟩;refine⟨0,frmL.take 2,none,rfl,qR 2,rfl,.no (by intro p hp;simp[frmL,fE] at hp;rcases hp with rfl|rfl<;>simp),?_⟩;refine⟨0,frmL.take 3,none,rfl,qR 3,rfl,.no (by intro p hp;simp[frmL,fE] at hp;rcases hp with rfl|rfl|rfl<;>simp),?_⟩;refine⟨0,frmL.take 4,none,rfl,qR 4,rfl,.no (by intro p hp;simp[frmL,fE] at hp;rcases hp with rfl|rfl|rfl|rfl<;>simp),?_⟩;refine⟨0,frmL.take 5,none,rfl,qR 5,rfl,.no (by intro p hp;simp[frmL,fE] at hp;rcases hp with rfl|rfl|rfl|rfl|rfl<;>simp),?_⟩;refine⟨0,frmL.take 6,none,rfl,qR 6,rfl,.no (by intro p hp;simp[frmL,fE] at hp;rcases hp with rfl|rfl|rfl|rfl|rfl|rfl<;>simp),?_⟩;refine⟨0,frmL.take 7,none,rfl,qR 7,rfl,.no (by intro p hp;simp[frmL,fE] at hp;rcases hp with rfl|rfl|rfl|rfl|rfl|rfl|rfl<;>simp),?_⟩;refine⟨0,frmL.take 8,none,rfl,qR 8,rfl,.no (by intro p hp;simp[frmL,fE] at hp;rcases hp with rfl|rfl|rfl|rfl|rfl|rfl|rfl|rfl<;>simp),?_⟩;refine⟨0,frmL.take 9,none,rfl,qR 9,rfl,.no (by intro p hp;simp[frmL,fE] at hp;rcases hp with rfl|rfl|rfl|rfl|rfl|rfl|rfl|rfl|rfl<;>simp),?_⟩
 refine⟨0,frmL.take 10,none,rfl,qR 10,rfl,.no (by intro p hp;simp[frmL,fE] at hp;rcases hp with rfl|rfl|rfl|rfl|rfl|rfl|rfl|rfl|rfl|rfl<;>simp),?_⟩;refine Wsem.of ttok mixed ?_;exact⟨rfl,b,rfl,rfl⟩
end Go.Proofs.YtebmimnglcdogaaGreatDoor.Ck
