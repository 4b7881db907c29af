/- Unify where a solution is told; a constructor's pattern: its types are made, and made one. No condition but on what is known. -/
import Derived.Test.YtebmimnglcdogaaGreatDoorE
import Derived.Test.YtebmimnglcdogaaGreatDoorL
import Derived.Test.YtebmimnglcdogaaGreatDoorFpN
set_option linter.unusedSimpArgs false
set_option linter.unusedVariables false
namespace Go.Proofs.YtebmimnglcdogaaGreatDoor
open Go Fp
set_option maxRecDepth 10000
set_option maxHeartbeats 16000000
set_option linter.unusedVariables false
set_option linter.unusedSimpArgs false
structure StOk (k:Nat) (l:Ck.Kn) (θ:Int->Tp):Prop where
 ok:Ck.Ok l
 flat:Ck.FlatK l
 sol:Ck.Solves θ l
 dom:∀q∈l,(∀m∈Ck.mvs q.2,m<=(k:Int))/\∀m∈Ck.mvs (.mt q.1),m<=(k:Int)
 th:∀n,Ck.tsz (θ n)<=2
structure TyOk (k:Nat) (θ:Int->Tp) (w:Nat) (t:Tp):Prop where
 flat:Ck.flat t
 dom:∀m∈Ck.mvs t,m<=(k:Int)
 ty:Ck.sbt θ t=wTy w
theorem zN2 {k:Nat} {l:Ck.Kn} {θ:Int->Tp} (h:StOk k l θ) {a b:Tp} (ha:Ck.flat a) (hb:Ck.flat b) (hma:∀m∈Ck.mvs a,m<=(k:Int)) (hmb:∀m∈Ck.mvs b,m<=(k:Int)) (he:Ck.sbt θ a=Ck.sbt θ b) :
  ∃l',StOk k l' θ/\∀b1 b2 (c:Int),CallsG Tryz.prog (fnv xM) (Ck.stH b1 b2 c l) [Ck.sP b1,eTy a,eTy b] [] fun r o hp=>r = .lit (.int .i64 0)/\o=0/\hp=Ck.stH b1 b2 c l':=by
 obtain⟨e,l',hS,_,h0⟩:=Ck.unify_ok h.ok h.flat ha hb;obtain⟨hsol,he0⟩:=hS.least θ h.sol he;have hnot:e≠39:=fun e39=>by
  obtain⟨q,hq,hgr⟩:=List.any_eq_true.1 (hS.great e39);have hgr:=of_decide_eq_true hgr;have h1:=Ck.tsz_sbt θ (Ck.fl l' (.mt q.1));rw[Ck.solves_fl hsol] at h1;have h2:Ck.tsz (Ck.sbt θ (.mt q.1))<=2:=h.th q.1;unfold Ck.szc at hgr;omega
 have he1:e=0:=he0.resolve_right hnot;refine⟨l',⟨hS.ok,hS.flat,hsol,?_,h.th⟩,h0 he1⟩;exact hS.kp (fun x => ∀m∈Ck.mvs x,m<=(k:Int)) (fun x y hp=>⟨fun m hm=>hp m (by simp[Ck.mvs,hm]),fun m hm=>hp m (by simp[Ck.mvs,hm])⟩) h.dom hma hmb
theorem StOk.fresh {k:Nat} {l:Ck.Kn} {θ:Int->Tp} (h:StOk k l θ) {a:Tp} (ha:Ck.tsz a<=2):StOk (k+1) l (fun n=>if n=((k+1:Nat):Int) then a else θ n):=by
 have hc:∀t:Tp,(∀m∈Ck.mvs t,m<=(k:Int))->Ck.sbt (fun n=>if n=((k+1:Nat):Int) then a else θ n) t=Ck.sbt θ t:=fun t ht=>Ck.sbt_congr fun n hn=>by
  have:=ht n hn;rw[if_neg (by omega)]
 refine⟨h.ok,h.flat,fun n t hn=>?_,fun q hq=>⟨fun m hm=>by have:=(h.dom q hq).1 m hm;omega,fun m hm=>by have:=(h.dom q hq).2 m hm;omega⟩,fun n=>?_⟩
 ·obtain⟨d1,d2⟩:=h.dom _ hn;have:=d2 n (by simp[Ck.mvs]);show (if n=((k+1:Nat):Int) then a else θ n)=_;rw[if_neg (by omega),hc t d1];exact h.sol n t hn
 ·split
  ·exact ha
  ·exact h.th n
theorem TyOk.fresh {k:Nat} {θ:Int->Tp} {w:Nat} {t:Tp} (h:TyOk k θ w t) (a:Tp):TyOk (k+1) (fun n=>if n=((k+1:Nat):Int) then a else θ n) w t:=by
 refine⟨h.flat,fun m hm=>by have:=h.dom m hm;omega,?_⟩;rw[<-h.ty];exact Ck.sbt_congr fun n hn=>by have:=h.dom n hn;rw[if_neg (by omega)]
abbrev sp (b:Nat):AV := .lit (.pointer (some ⟨b,0,none⟩))
abbrev mkB (bm b1:Nat) (vv:AV):Nat×HO:=(bm,HO.cells [cAV,sp b1,vv])
abbrev ptC (f at0 n:Int) (s:ByteArray) (ks:AV) (t:Tp) (ts:AV):List AV:=[.lit (.int .i64 f),.lit (.int .i64 at0),.lit (.int .i64 n),.lit (.string s),ks,.lit (.int .i64 t.form),.lit (.int .i64 t.num),.lit (.string t.nam),.sl t.eArgs,ts]
theorem zUU (bm bp:Nat) (t:Tp):zA8 Tryz.prog (fnv 65) [sp bm,sp bp,eTy t] (.lit (.int .i64 0)):=by
 refine zH ttok mixed Tryz.func65 rfl (by rfl) (Nat.le_of_ble_eq_true rfl) (by kernel_rfl) ?_;exact rfl
theorem zMQ (d:DT) (l:List Tp) (hl:l.length<1000):zD Tryz.prog zOF [eD d,.sl (zN l)] (eTy (Ck.appAllT (.con d.1) l)):=by
 refine zH ttok mixed Tryz.func85 rfl (by rfl) (Nat.le_of_ble_eq_true rfl) (by kernel_rfl) ?_;refine .inl ⟨_,Ck.con_mk d.1,?_⟩;refine .inl ⟨_,Ck.appT_ok (.con d.1) l (by omega),?_⟩;exact rfl
theorem zP5 {k:Nat} {l:Ck.Kn} {θ:Int->Tp} (h:StOk k l θ) {t:Tp} (ht:TyOk k θ 0 t) :
  ∃l',StOk k l' θ/\∀(bm b1 b2 bp:Nat) (vv:AV),CallsG Tryz.prog (fnv 67) (mkB bm b1 vv::Ck.stH b1 b2 (k:Nat) l) [sp bm,sp bp,eTy t] [] fun r o hp=>r = .lit (.int .i64 0)/\o=0/\hp=mkB bm b1 vv::Ck.stH b1 b2 (k:Nat) l':=by
 obtain⟨l',h1,h2⟩:=zN2 h ht.flat (b := .con zE7) trivial ht.dom (fun m hm=>by simp[Ck.mvs] at hm) (by rw[ht.ty];rfl);refine⟨l',h1,fun bm b1 b2 bp vv=>?_⟩;have hU:=h2 b1 b2 (k:Nat);refine zJ (first:=[]) (cap:=[]) ttok mixed Tryz.func67 rfl (by rfl) rfl (Nat.le_of_ble_eq_true rfl) (by kernel_rfl) ?_;refine⟨0,_,_,rfl,rfl,?_⟩;refine .inl ⟨_,Ck.con_mk _,?_⟩;refine .inr (.inr (.inr ⟨[1,2],Ck.stH b1 b2 (k:Nat) l,Ck.stH b1 b2 (k:Nat) l',_,rfl,by decide,rfl,hU,?_⟩));refine⟨by kernel_rfl,?_⟩;exact⟨rfl,rfl,rfl⟩
theorem zV7 {k:Nat} {l:Ck.Kn} {θ:Int->Tp} (h:StOk k l θ) {t:Tp} {w:Nat} (ht:TyOk k θ w t) {d:DT} {kk:Nat} {s:ByteArray} {fts:List Tp} (hcon:zD Tryz.prog yS [cAV,.lit (.string s)] (.tup [eD d,.lit (.int .i64 (kk:Nat)),.sb true])) (hk:d.2.2.2.2[kk]? = some (s,fts)) (hd3:d.2.2.2.2.length<=3)
  (hv:d.2.2.1=[]) (hw:wTy w = .con d.1) :
  ∃l',StOk k l' θ/\∀(bm b1 b2 bp:Nat) (vv:AV) (n0:Int) (ks:List Pt) (t0:Tp) (tz:AV),tz.cells.length=1->ks.length=fts.length->ks.length<1000->CallsG Tryz.prog (fnv 68) (mkB bm b1 vv::(Ck.stH b1 b2 (k:Nat) l++[(bp,HO.cells (ptC 4 0 n0 s (.sl (zG ks)) t0 tz))])) [sp bm,sp bp,eTy t] [] fun r o hp=>r = .lit (.int .i64 0)/\o=0/\hp=mkB bm b1 vv::(Ck.stH b1 b2 (k:Nat) l'++[(bp,HO.cells (ptC 4 0 n0 s (.sl (zG ks)) t0 .nil))]):=by
 obtain⟨l',h1,h2⟩:=zN2 h ht.flat (b := .con d.1) trivial ht.dom (fun m hm=>by simp[Ck.mvs] at hm) (by rw[ht.ty,hw];rfl);refine⟨l',h1,fun bm b1 b2 bp vv n0 ks t0 tz htz hkl hkn=>?_⟩;have hU:=h2 b1 b2 (k:Nat);have hlt:=(List.getElem?_eq_some_iff.1 hk).1;have hgc:(xJ d.2.2.2.2)[((kk:Nat):Int).toNat]? = some (zOQ (s,fts)):=by show (xJ d.2.2.2.2)[kk]? = _;unfold xJ;rw[List.getElem?_map,hk];rfl
 have hkp:(zG ks).length=ks.length:=zEU ks;have hft:(zN fts).length=fts.length:=by simp[zN]
 have hown:=zMQ d [] (by decide);refine zJ (first:=[]) (cap:=[]) ttok mixed Tryz.func68 rfl (by rfl) rfl (Nat.le_of_ble_eq_true rfl) (by kernel_rfl) ?_;refine⟨0,_,_,rfl,rfl,?_⟩;refine⟨3,_,_,rfl,rfl,?_⟩;refine .inl ⟨_,hcon,?_⟩;refine⟨by kernel_rfl,?_⟩;refine⟨fun h=>absurd h (by simp),fun _=>?_⟩;refine⟨_,by omega,hgc,rfl,?_⟩;refine⟨3,_,_,rfl,rfl,?_⟩;refine⟨by kernel_rfl,?_⟩;refine⟨fun h=>absurd h (by simp[hkp,hft,hkl]),fun _=>?_⟩;refine⟨rfl,3,_,rfl,Nat.le_of_ble_eq_true rfl,?_⟩;refine⟨Unit,fun _=>{vs:=[(0,.v (sp bm)),(1,.v (sp bp)),(5,.box 0 (eTy t)),(7,.box 0 (eD d)),(45,sv 0),(46,sv 0)],hp:=mkB bm b1 vv::(Ck.stH b1 b2 (k:Nat) l++[(bp,HO.cells (ptC 4 0 n0 s (.sl (zG ks)) t0 .nil))])},fun _=>0,(),⟨⟨rfl,rfl,rfl,rfl,?_,rfl,trivial⟩,trivial,rfl⟩,?_⟩
 ·show sv _=sv 0;rw[hv];rfl
 rintro⟨⟩;refine⟨fun h=>(by cases h),fun _=>?_⟩;refine⟨0,_,_,rfl,rfl,?_⟩;refine⟨3,_,_,rfl,rfl,?_⟩;refine .inl ⟨_,hown,?_⟩;refine .inr (.inr (.inr ⟨[1,2],Ck.stH b1 b2 (k:Nat) l,Ck.stH b1 b2 (k:Nat) l',_,rfl,by decide,rfl,hU,?_⟩));refine⟨by kernel_rfl,?_⟩;exact⟨rfl,rfl,rfl⟩
end Go.Proofs.YtebmimnglcdogaaGreatDoor
