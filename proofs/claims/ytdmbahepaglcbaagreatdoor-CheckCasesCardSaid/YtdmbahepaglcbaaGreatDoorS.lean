/- Binds not of their types, or two of one name: a panic. No condition but on lengths. -/
import Derived.Test.YtdmbahepaglcbaaGreatDoorR
set_option linter.unusedSimpArgs false
set_option linter.unusedVariables false
namespace Go.Proofs.YtdmbahepaglcbaaGreatDoor
open Go Fp
set_option maxRecDepth 10000
set_option maxHeartbeats 8000000
set_option linter.unusedVariables false
theorem zYF {w w':Wd} {c p:Cr} {t:Tp} (hk:c.kids=[p]) (hb:zC Tryz.prog 65 [eW w,.sl (yV c.binds)] (eW w')) (h1:OfS w' p t):zC Tryz.prog 123 [eW w,eC c] (eTy t):=by
 rw[<-zZP] at hb;refine zB ttok mixed Tryz.func123 rfl (by rfl) (Nat.le_of_ble_eq_true rfl) (by kernel_rfl) ?_;refine .inl ⟨_,hb,?_⟩;refine⟨eC p,by omega,zGS hk,rfl,?_⟩;refine .inl ⟨_,h1,?_⟩;refine⟨by kernel_rfl,?_⟩;exact rfl
abbrev TkS (w:Wd) (t:Tp) (a:Al) (w':Wd):Prop:=zC Tryz.prog 144 [eW w,eTy t,eAl a] (eW w')
abbrev TkN (w:Wd) (t:Tp) (a:Al):Prop:=wM Tryz.prog 144 [eW w,eTy t,eAl a] jS
theorem zWN (c:Cr):(c.e3 2).length=c.alts.length:=by rw[zTO];simp[jX]
theorem zVS {c:Cr} {k:Nat} (h:k<c.alts.length):(c.e3 2)[k]? = some (eAl c.alts[k]):=by rw[zTO];exact zV7 h
def zT5 (w:Wd) (t u:Tp) (a:Al):Prop := ∃w',TkS w t a w'/\IsT w' u a.2.2
def zY0 (w:Wd) (t u:Tp) (a:Al):Prop:=TkN w t a∨∃w',TkS w t a w'/\z2Y w' u a.2.2
theorem zNB {w:Wd} {c p:Cr} {t:Tp} {K:Nat} (hk:c.kids=[p]) (h1:OfS w p t) (hf:FitX K c.t w.ps) (hl:c.alts.length<=1000000) (h:∀a∈c.alts,zT5 w t (w.mean c.t) a):zC Tryz.prog 124 [eW w,eC c] (eTy (w.mean c.t)):=by
 refine zB ttok mixed Tryz.func124 rfl (by rfl) (Nat.le_of_ble_eq_true rfl) (by kernel_rfl) ?_;refine⟨eC p,by omega,zGS hk,rfl,?_⟩;refine .inl ⟨_,h1,?_⟩;refine .inl ⟨_,zAN w c.t hf,?_⟩;refine⟨by kernel_rfl,?_⟩;refine⟨{k:Nat // k<=c.alts.length},fun k=>{vs:=[(2,.box 0 (eW w)),(4,.box 0 (eTy .no)),(5,.box 0 (eTy t)),(6,.box 0 (eTy (w.mean c.t))),(20,.v (.sl (c.e3 2))),(21,sv (c.alts.length:Nat)),(22,sv (k.1:Nat))]},fun k=>c.alts.length-k.1,⟨0,Nat.zero_le _⟩,⟨⟨rfl,rfl,rfl,rfl,rfl,svc (by rw[zWN]),rfl,trivial⟩,trivial,rfl⟩,?_⟩;rintro⟨k,hk2⟩;refine⟨fun h2=>?_,fun h2=>?_⟩
 ·have h2:k<c.alts.length:=by have h:=of_decide_eq_true h2;simp only at h;omega
  obtain⟨w',q0,q⟩:=h _ (List.getElem_mem h2);obtain⟨t2,q1,q2,q3⟩:=q.of;refine⟨eAl c.alts[k],by omega,zVS h2,rfl,?_⟩;refine .inl ⟨_,q0,?_⟩;refine .inl ⟨_,q1,?_⟩;refine .inl ⟨_,qF _ _ q3,?_⟩;refine .inl ⟨_,yF q2,?_⟩;refine⟨by kernel_rfl,?_⟩;exact⟨⟨k+1,h2⟩,by simp;omega,⟨rfl,rfl,rfl,rfl,rfl,rfl,svc (wrap_succ (k:=k) (by omega)),trivial⟩,trivial,rfl⟩
 exact rfl
theorem zQX {w:Wd} {c p:Cr} {t:Tp} {K:Nat} (hk:c.kids=[p]) (h1:OfS w p t) (hf:FitX K c.t w.ps) {m:Nat} (hm:m<c.alts.length) (h:∀(k:Nat) (hk:k<c.alts.length),k<m->zT5 w t (w.mean c.t) c.alts[k]) (hb:zY0 w t (w.mean c.t) c.alts[m]) (hl:c.alts.length<=1000000):wM Tryz.prog 124 [eW w,eC c] jS:=by
 refine yM ttok mixed Tryz.func124 rfl (by rfl) (Nat.le_of_ble_eq_true rfl) (by kernel_rfl) ?_;refine WsemQ.seq ttok mixed ?_;refine WsemQ.seq ttok mixed ?_;refine⟨eC p,by omega,zGS hk,rfl,?_⟩;refine .inl ⟨_,h1,?_⟩;refine .inl ⟨_,zAN w c.t hf,?_⟩;refine⟨by kernel_rfl,?_⟩;refine WsemQ.seqS (WsemQ.seqS (WsemQ.of ttok mixed ?_));refine WsemQ.block (WsemQ.loop (α:={k:Nat // k<=m}) (fun k=>{vs:=[(2,.box 0 (eW w)),(4,.box 0 (eTy .no)),(5,.box 0 (eTy t)),(6,.box 0 (eTy (w.mean c.t))),(20,.v (.sl (c.e3 2))),(21,sv (c.alts.length:Nat)),(22,sv (k.1:Nat))]}) (fun k=>m-k.1) ⟨0,Nat.zero_le _⟩ ⟨⟨rfl,rfl,rfl,rfl,rfl,svc (by rw[zWN]),rfl,trivial⟩,trivial,rfl⟩ ?_);rintro⟨k,hk2⟩;refine WsemQ.seq ttok mixed ?_;refine WsemQ.seq ttok mixed ?_;refine⟨fun _=>?_,fun h1=>absurd (of_decide_eq_false h1) (by simp only;omega)⟩;have h2:k<c.alts.length:=by omega
 refine WsemQ.seqS (WsemQ.block ?_);refine WsemQ.seq ttok mixed ?_;refine⟨eAl c.alts[k],by omega,zVS h2,rfl,?_⟩;rcases Nat.lt_or_ge k m with hkm|hkm
 ·obtain⟨w',q0,q⟩:=h k h2 hkm;obtain⟨t2,q1,q2,q3⟩:=q.of;refine WsemQ.of ttok mixed ?_;refine .inl ⟨_,q0,?_⟩;refine .inl ⟨_,q1,?_⟩;refine .inl ⟨_,qF _ _ q3,?_⟩;refine .inl ⟨_,yF q2,?_⟩;refine⟨by kernel_rfl,?_⟩;refine WsemQ.of ttok mixed ?_;exact⟨⟨k+1,hkm⟩,by simp;omega,⟨rfl,rfl,rfl,rfl,rfl,rfl,svc (wrap_succ (k:=k) (by omega)),trivial⟩,trivial,rfl⟩
 ·obtain rfl:k=m:=by omega
  rcases hb with hb|⟨w',q0,hb|⟨t2,q1,q2,q3⟩⟩
  ·refine WsemQ.regionP ttok mixed [0,1,2,4,5,7,3,6,8,9] 6 (by kernel_rfl) (by kernel_rfl) ?_;exact⟨by kernel_rfl,hb⟩
  ·refine WsemQ.regionP ttok mixed [0,1,2,3,4,5,7,6,8,9] 7 (by kernel_rfl) (by kernel_rfl) ?_;refine .inl ⟨_,q0,?_⟩;exact⟨by kernel_rfl,hb⟩
  ·refine WsemQ.regionI ttok mixed 9 (by kernel_rfl) ?_;refine .inl ⟨_,q0,?_⟩;refine .inl ⟨_,q1,?_⟩;refine .inl ⟨_,qF _ _ q3,?_⟩;exact⟨by kernel_rfl,zAR q2⟩
theorem zK2 {j:Nat} {k n:Int} {f:Nat} (h:frmL[j]? = some (fE k n f)):Fp.Found frmL (.int .i64 k) (some (j,.agg [.lit (.int .i64 n),.lit (fnv f)])):=by
 refine .yes j _ h fun i hi p hp=>?_;have key:∀(i:Nat) (p:AV×AV),frmL[i]? = some p->p.1 = .lit (.int .i64 ((i:Int)+1)):=by
  intro i p hp;have hlt:i<11:=(List.getElem?_eq_some_iff.1 hp).1
  match i,hlt with
  | 0,_=>cases hp;rfl
  | 1,_=>cases hp;rfl
  | 2,_=>cases hp;rfl
  | 3,_=>cases hp;rfl
  | 4,_=>cases hp;rfl
  | 5,_=>cases hp;rfl
  | 6,_=>cases hp;rfl
  | 7,_=>cases hp;rfl
  | 8,_=>cases hp;rfl
  | 9,_=>cases hp;rfl
  | 10,_=>cases hp;rfl
 rw[key i p hp];have e:=key j _ h;intro e2;have e:AV.lit (.int .i64 k) = .lit (.int .i64 ((j:Int)+1)):=e;injection e with e;injection e with _ e
 injection e2 with e2;injection e2 with _ e2
 omega
theorem jQ {w:Wd} {c:Cr} {t:Tp} {j:Nat} {k n:Int} {f:Nat} (hj:frmL[j]? = some (fE k n f)) (hk:c.f=k) (hn:(c.kids.length:Int)=n) (hc:zC Tryz.prog f [eW w,eC c] (eTy t)):OfS w c t:=by
 subst hk;have hfo:=zK2 hj;refine zB ttok mixed Tryz.func42 rfl (by rfl) (Nat.le_of_ble_eq_true rfl) (by kernel_rfl) ?_;refine .inl ⟨_,zN2,?_⟩;refine⟨_,zVO,rfl,hfo,?_⟩;refine⟨by kernel_rfl,?_⟩;refine .inl ⟨_,yF (decide_eq_true (by rw[z0Q];exact hn)),?_⟩;refine .inl ⟨_,hc,?_⟩;exact rfl
theorem zR9 {w:Wd} {c:Cr} {j:Nat} {k n:Int} {f:Nat} (hj:frmL[j]? = some (fE k n f)) (hk:c.f=k) (hn:(c.kids.length:Int)=n) (hc:wM Tryz.prog f [eW w,eC c] jS):OfN w c:=by
 subst hk;have hfo:=zK2 hj;refine yM ttok mixed Tryz.func42 rfl (by rfl) (Nat.le_of_ble_eq_true rfl) (by kernel_rfl) ?_;refine WsemQ.seq ttok mixed ?_;refine WsemQ.seq ttok mixed ?_;refine .inl ⟨_,zN2,?_⟩;refine⟨_,zVO,rfl,hfo,?_⟩;refine⟨by kernel_rfl,?_⟩;refine WsemQ.seq ttok mixed ?_;refine .inl ⟨_,yF (decide_eq_true (by rw[z0Q];exact hn)),?_⟩;refine WsemQ.seqS (WsemQ.region ttok 4 ?_);exact hc
end Go.Proofs.YtdmbahepaglcbaaGreatDoor
