/- Types made of a list of one that lies in a block of the caller's. No condition. -/
import Derived.Test.YtebmimnglcdogaaGreatDoorM
import Derived.Test.YtebmimnglcdogaaGreatDoorO
import Derived.Test.YtebmimnglcdogaaGreatDoorFpN
set_option linter.unusedSimpArgs false
set_option linter.unusedVariables false
namespace Go.Proofs.YtebmimnglcdogaaGreatDoor
open Go Fp
set_option maxRecDepth 10000
set_option maxHeartbeats 16000000
set_option linter.unusedVariables false
set_option linter.unusedSimpArgs false
theorem zJV (l:List Tp):Uni 4 (zN l):=fun a ha=>by obtain⟨x,_,rfl⟩:=List.mem_map.1 ha;rfl
abbrev zRM (bt:Nat) (L:List Tp) (zs:List AV):Nat×HO:=(bt,HO.cells (flR (zN L) zs))
theorem zV4 (f a:Tp) (bt cap:Nat) (zs:List AV):CallsG Tryz.prog (fnv 114) [zRM bt [a] zs] [eTy f,.lit (.slice (some ⟨bt,0,none⟩) 1 cap)] [] fun r o hp=>r=eTy (Ck.appAllT f [a])/\o=0/\hp=[zRM bt [a] zs]:=by
 refine yB (first:=[]) (cap:=[]) ttok mixed Tryz.func114 rfl (by rfl) rfl (Nat.le_of_ble_eq_true rfl) (by kernel_rfl) ?_;refine Wsem.seq ttok mixed ?_;refine Wsem.seq ttok mixed ?_;refine .inl ⟨_,Ck.own_ok f,?_⟩;refine Wsem.seqS (Wsem.seq ttok mixed ?_);refine Wsem.block (Wsem.loop (α:=Bool) (fun x=>match x with
   | false=>{vs:=[(4,.box 0 (eTy .no)),(5,.box 0 (eTy f)),(10,.v (.lit (.slice (some ⟨bt,0,none⟩) 1 cap))),(11,.v (.lit (.int .i64 1))),(12,.v (.lit (.int .i64 0)))],hp:=[zRM bt [a] zs]}
   | true=>{vs:=[(4,.box 0 (eTy .no)),(5,.box 0 (eTy (.app f a))),(10,.v (.lit (.slice (some ⟨bt,0,none⟩) 1 cap))),(11,.v (.lit (.int .i64 1))),(12,.v (.lit (.int .i64 1)))],hp:=[zRM bt [a] zs]})
  (fun x=>match x with|false=>1|true=>0) false ⟨⟨rfl,rfl,rfl,rfl,rfl,trivial⟩,trivial,rfl⟩ ?_)
 intro x
 match x with
 | false =>
  refine Wsem.of ttok mixed ?_;refine⟨fun _=>?_,fun h=>absurd h (by decide)⟩;refine⟨by decide,by decide,?_⟩;refine⟨0,_,rfl,Nat.le_add_left 4 zs.length,?_⟩;refine .inl ⟨_,Ck.own_ok a,?_⟩;refine .inl ⟨_,Ck.apply_mk f a,?_⟩;refine⟨by kernel_rfl,?_⟩;exact⟨true,Nat.zero_lt_one,⟨rfl,rfl,rfl,rfl,rfl,trivial⟩,trivial,rfl⟩
 | true =>
  refine Wsem.of ttok mixed ?_;refine⟨fun h=>absurd h (by decide),fun _=>?_⟩;refine Wsem.of ttok mixed ?_;exact⟨rfl,rfl,rfl⟩
theorem zQF (d:DT) (a:Tp) (bt cap:Nat) (zs:List AV):CallsG Tryz.prog (fnv 85) [zRM bt [a] zs] [eD d,.lit (.slice (some ⟨bt,0,none⟩) 1 cap)] [] fun r o hp=>r=eTy (.app (.con d.1) a)/\o=0/\hp=[zRM bt [a] zs]:=by
 refine yB (first:=[]) (cap:=[]) ttok mixed Tryz.func85 rfl (by rfl) rfl (Nat.le_of_ble_eq_true rfl) (by kernel_rfl) ?_;refine Wsem.seq ttok mixed ?_;refine Wsem.of ttok mixed ?_;refine .inl ⟨_,Ck.con_mk d.1,?_⟩;refine .inr (.inr (.inl ⟨[0],_,_,rfl,by decide,zV4 (.con d.1) a bt cap zs,?_⟩));exact⟨rfl,rfl,rfl⟩
theorem cellT (l:List Tp):∀x∈zN l,∀c∈x.cells,c.isCell=true:=fun x hx c hc=>by
 obtain⟨t,_,rfl⟩:=List.mem_map.1 hx;simp[eTy,AV.cells] at hc;rcases hc with rfl|rfl|rfl|rfl<;>rfl
theorem zYI {h:List (Nat×HO)} {b cap:Nat} {L:List Tp} {rest:List AV} (hm:(b,HO.cells (flR (zN L) rest))∈h) (hc:L.length<=cap):Frz h (.lit (.slice (some ⟨b,0,none⟩) L.length cap)) (.sl (zN L)):=by
 refine .sl b 0 L.length cap 4 (flR (zN L) rest) (zN L) hm (by simp[zN]) hc (zJV L) (cellT L) (by rw[zK5 (zJV L)];simp[zN]) fun i x j c c' hi hj hcc=>?_;have hil:=(List.getElem?_eq_some_iff.1 hi).1;have hjl:=(List.getElem?_eq_some_iff.1 hj).1;rw[zJV L x (List.mem_of_getElem? hi)] at hjl;rw[Nat.zero_add,zPX (zJV L) rest hil j hjl] at hcc;rw[List.getElem?_eq_getElem hil] at hi;injection hi with hi;subst hi
 rw[hj] at hcc;injection hcc with hcc;subst hcc
 exact .refl _
theorem zVF {k:Nat} {l:Ck.Kn} {θ:Int->Tp} (h:StOk k l θ) (hk6:k<1000000) {t:Tp} {w:Nat} (ht:TyOk k θ w t) {d:DT} {kk:Nat} {s:ByteArray} {fts:List Tp} {a:Tp} (hcon:zD Tryz.prog yS [cAV,.lit (.string s)] (.tup [eD d,.lit (.int .i64 (kk:Nat)),.sb true])) (hk:d.2.2.2.2[kk]? = some (s,fts)) (hd3:d.2.2.2.2.length<=3)
  (hv:d.2.2.1=[sa]) (hw:wTy w = .app (.con d.1) a) (ha:a = .con zE7∨a = .con zBM) :
  ∃l',StOk (k+1) l' (fun n=>if n=((k+1:Nat):Int) then a else θ n)/\∀(bm b1 b2 bp:Nat) (vv:AV) (n0:Int) (ks:List Pt) (t0:Tp) (tz:AV),tz.cells.length=1->ks.length=fts.length->ks.length<1000->CallsG Tryz.prog (fnv 68) (mkB bm b1 vv::(Ck.stH b1 b2 (k:Nat) l++[(bp,HO.cells (ptC 4 0 n0 s (.sl (zG ks)) t0 tz))])) [sp bm,sp bp,eTy t] [] fun r o hp=>r = .lit (.int .i64 0)/\o=0/\hp=mkB bm b1 vv::(Ck.stH b1 b2 ((k+1:Nat):Int) l'++[(bp,HO.cells (ptC 4 0 n0 s (.sl (zG ks)) t0 (.sl (zN [.mt ((k+1:Nat):Int)]))))]):=by
 have hta:Ck.tsz a<=2:=by rcases ha with rfl|rfl<;>decide
 have ht':=ht.fresh a;obtain⟨l',h1,h2⟩:=zN2 (h.fresh hta) ht'.flat (b := .app (.con d.1) (.mt ((k+1:Nat):Int))) ⟨trivial,trivial⟩ ht'.dom (fun m hm=>by simp[Ck.mvs] at hm;omega) (by rw[ht'.ty,hw];simp[Ck.sbt]);refine⟨l',h1,fun bm b1 b2 bp vv n0 ks t0 tz htz hkl hkn=>?_⟩;have hU:=h2 b1 b2 ((k+1:Nat):Int);have hF:=Ck.fresh_ok l b1 b2 k hk6;have hlt:=(List.getElem?_eq_some_iff.1 hk).1;have hgc:(xJ d.2.2.2.2)[((kk:Nat):Int).toNat]? = some (zOQ (s,fts)):=by show (xJ d.2.2.2.2)[kk]? = _;unfold xJ;rw[List.getElem?_map,hk];rfl
 have hkp:(zG ks).length=ks.length:=zEU ks;have hft:(zN fts).length=fts.length:=by simp[zN]
 have hown:=zMQ d [.mt ((k+1:Nat):Int)] (by simp);refine CallsG.freezeH (post:=fun r o hp=>r = .lit (.int .i64 0)/\o=0/\∃bt cap zs,1<=cap/\hp=(mkB bm b1 vv::(Ck.stH b1 b2 ((k+1:Nat):Int) l'++[(bp,HO.cells (ptC 4 0 n0 s (.sl (zG ks)) t0 (.lit (.slice (some ⟨bt,0,none⟩) 1 cap))))]))++[(bt,HO.cells (flR (zN [.mt ((k+1:Nat):Int)]) zs))]) ?_ (fun r o hp hpo hnd=>?_)
 rotate_left
 ·obtain⟨rfl,rfl,bt,cap,zs,hcap,rfl⟩:=hpo;refine⟨_,_,_,_,rfl,fun b hb=>?_,.refl _,rfl,?_,rfl,rfl,rfl⟩
  ·simp[keys] at hb hnd⊢;subst hb
   grind
  ·refine⟨rfl,fun i x x' hx hx'=>?_⟩
   match i with
   | 0=>cases hx;cases hx';exact⟨rfl,.inl rfl⟩
   | 1=>cases hx;cases hx';exact⟨rfl,.inl rfl⟩
   | 2=>cases hx;cases hx';exact⟨rfl,.inl rfl⟩
   | 3 =>
    cases hx;cases hx'
    refine⟨rfl,.inr ⟨_,_,rfl,rfl,rfl,fun c hc=>?_,fun j c c' hc hc'=>?_⟩⟩
    ·simp[ptC] at hc;rcases hc with rfl|rfl|rfl|rfl|rfl|rfl|rfl|rfl|rfl|rfl<;>rfl
    ·match j with
     | 0=>cases hc;cases hc';exact .refl _
     | 1=>cases hc;cases hc';exact .refl _
     | 2=>cases hc;cases hc';exact .refl _
     | 3=>cases hc;cases hc';exact .refl _
     | 4=>cases hc;cases hc';exact .refl _
     | 5=>cases hc;cases hc';exact .refl _
     | 6=>cases hc;cases hc';exact .refl _
     | 7=>cases hc;cases hc';exact .refl _
     | 8=>cases hc;cases hc';exact .refl _
     | 9=>cases hc;cases hc';exact zYI (L:=[.mt ((k+1:Nat):Int)]) (List.mem_singleton.2 rfl) hcap
     | j+10=>simp at hc
   | i+4=>simp at hx
 refine yB (first:=[]) (cap:=[]) ttok mixed Tryz.func68 rfl (by rfl) rfl (Nat.le_of_ble_eq_true rfl) (by kernel_rfl) ?_;refine Wsem.seq ttok mixed ?_;refine Wsem.seq ttok mixed ?_;refine⟨0,_,_,rfl,rfl,?_⟩;refine⟨3,_,_,rfl,rfl,?_⟩;refine .inl ⟨_,hcon,?_⟩;refine⟨by kernel_rfl,?_⟩;refine Wsem.seq ttok mixed ?_;refine⟨fun h=>absurd h (by simp),fun _=>?_⟩;refine⟨_,by omega,hgc,rfl,?_⟩;refine⟨3,_,_,rfl,rfl,?_⟩;refine⟨by kernel_rfl,?_⟩;refine⟨fun h=>absurd h (by simp[hkp,hft,hkl]),fun _=>?_⟩;refine Wsem.seq ttok mixed ?_;refine⟨rfl,3,_,rfl,Nat.le_of_ble_eq_true rfl,?_⟩;refine Wsem.cut {vs:=[(0,.v (sp bm)),(1,.v (sp bp)),(5,.box 0 (eTy t)),(7,.box 0 (eD d))],hp:=mkB bm b1 vv::(Ck.stH b1 b2 (k:Nat) l++[(bp,HO.cells (ptC 4 0 n0 s (.sl (zG ks)) t0 .nil))])} ⟨⟨rfl,rfl,rfl,rfl,trivial⟩,trivial,rfl⟩ ?_;refine Wsem.seqS (Wsem.seq ttok mixed ?_);have hvl:((eSs d.2.2.1).length:Int)=1:=by rw[hv];rfl
 refine Wsem.block (Wsem.loop (α:=Option (Nat×{c:Nat // 1<=c}×List AV)) (fun x=>match x with
   | none=>{vs:=[(0,.v (sp bm)),(1,.v (sp bp)),(5,.box 0 (eTy t)),(7,.box 0 (eD d)),(45,sv 1),(46,sv 0)],hp:=mkB bm b1 vv::(Ck.stH b1 b2 (k:Nat) l++[(bp,HO.cells (ptC 4 0 n0 s (.sl (zG ks)) t0 .nil))])}
   | some (bt,cap,zs)=>{vs:=[(0,.v (sp bm)),(1,.v (sp bp)),(5,.box 0 (eTy t)),(7,.box 0 (eD d)),(45,sv 1),(46,sv 1)],hp:=(mkB bm b1 vv::(Ck.stH b1 b2 ((k+1:Nat):Int) l++[(bp,HO.cells (ptC 4 0 n0 s (.sl (zG ks)) t0 (.lit (.slice (some ⟨bt,0,none⟩) 1 cap.1))))]))++[(bt,HO.cells (flR (zN [.mt ((k+1:Nat):Int)]) zs))]})
  (fun x=>match x with|none=>1|some _=>0) none ⟨⟨rfl,rfl,rfl,rfl,?_,rfl,trivial⟩,trivial,rfl⟩ ?_)
 ·show sv _=sv 1;rw[<-hvl]
 intro x
 match x with
 | none =>
  refine Wsem.seq ttok mixed ?_;refine Wsem.seq ttok mixed ?_;refine⟨fun _=>?_,fun h=>absurd h (by decide)⟩;refine Wsem.seqS (Wsem.block ?_);refine Wsem.regionHX (DS:=bsS tt) (rdS:=fun _=>0) (qF ttok).two (fun _ _ _ h=>zSW ttok h) ttok mixed 12 3 8 [0,1,2,3,4,5,6,7,8,9,10,11] [0,1,2,4,5,6,7,8,3,9,10,11] [0,0,0,0,0,0,0,0,0,0,2,1] [0,0,0,0,0,0,0,0,0,0,2,1] (by kernel_rfl) (by kernel_rfl) (by kernel_rfl) (by kernel_rfl) (by kernel_rfl) ?_ ?_
  ·refine⟨3,_,_,rfl,rfl,?_⟩;refine⟨0,_,_,rfl,rfl,?_⟩;refine .inr (.inr (.inr ⟨[1,2],Ck.stH b1 b2 (k:Nat) l,Ck.stH b1 b2 ((k+1:Nat):Int) l,_,rfl,by decide,rfl,hF,?_⟩));refine⟨rfl,rfl,rfl,?_⟩;refine⟨by simp,by simp,zJV [.no],rfl,rfl,fun b' cap' zs g1 g2=>?_⟩;refine⟨by kernel_rfl,?_⟩;refine⟨?_,?_,trivial⟩
   ·refine⟨by decide,by decide,?_⟩;refine⟨?_,?_,trivial⟩
    ·refine⟨rfl,4,_,rfl,Nat.le_add_left 4 zs.length,?_⟩;refine⟨?_,trivial⟩;refine⟨?_,trivial⟩;refine⟨?_,trivial⟩;refine⟨rfl,3,_,rfl,Nat.le_of_ble_eq_true rfl,?_⟩;refine Wsem.of ttok mixed ?_;exact⟨some (b',⟨cap',by simpa using g1⟩,zs),Nat.zero_lt_one,⟨⟨rfl,rfl,rfl,rfl,rfl,rfl,trivial⟩,trivial,rfl⟩⟩
    ·refine⟨?_,?_,trivial⟩
     ·refine⟨rfl,4,_,rfl,Nat.le_add_left 4 zs.length,?_⟩;refine⟨?_,trivial⟩;refine⟨?_,trivial⟩;refine⟨rfl,3,_,rfl,Nat.le_of_ble_eq_true rfl,?_⟩;refine Wsem.of ttok mixed ?_;exact⟨some (b',⟨cap',by simpa using g1⟩,zs),Nat.zero_lt_one,⟨⟨rfl,rfl,rfl,rfl,rfl,rfl,trivial⟩,trivial,rfl⟩⟩
     ·refine⟨?_,?_,trivial⟩
      ·refine⟨rfl,4,_,rfl,Nat.le_add_left 4 zs.length,?_⟩;refine⟨?_,trivial⟩;refine⟨rfl,3,_,rfl,Nat.le_of_ble_eq_true rfl,?_⟩;refine Wsem.of ttok mixed ?_;exact⟨some (b',⟨cap',by simpa using g1⟩,zs),Nat.zero_lt_one,⟨⟨rfl,rfl,rfl,rfl,rfl,rfl,trivial⟩,trivial,rfl⟩⟩
      ·refine⟨rfl,3,_,rfl,Nat.le_of_ble_eq_true rfl,?_⟩;refine⟨?_,trivial⟩;refine⟨rfl,4,_,rfl,Nat.le_add_left 4 zs.length,?_⟩;refine Wsem.of ttok mixed ?_;exact⟨some (b',⟨cap',by simpa using g1⟩,zs),Nat.zero_lt_one,⟨⟨rfl,rfl,rfl,rfl,rfl,rfl,trivial⟩,trivial,rfl⟩⟩
   ·refine⟨?_,?_,trivial⟩
    ·refine⟨by decide,by decide,?_⟩;refine⟨?_,?_,trivial⟩
     ·refine⟨rfl,4,_,rfl,Nat.le_add_left 4 zs.length,?_⟩;refine⟨?_,trivial⟩;refine⟨?_,trivial⟩;refine⟨rfl,3,_,rfl,Nat.le_of_ble_eq_true rfl,?_⟩;refine Wsem.of ttok mixed ?_;exact⟨some (b',⟨cap',by simpa using g1⟩,zs),Nat.zero_lt_one,⟨⟨rfl,rfl,rfl,rfl,rfl,rfl,trivial⟩,trivial,rfl⟩⟩
     ·refine⟨?_,?_,trivial⟩
      ·refine⟨rfl,4,_,rfl,Nat.le_add_left 4 zs.length,?_⟩;refine⟨?_,trivial⟩;refine⟨rfl,3,_,rfl,Nat.le_of_ble_eq_true rfl,?_⟩;refine Wsem.of ttok mixed ?_;exact⟨some (b',⟨cap',by simpa using g1⟩,zs),Nat.zero_lt_one,⟨⟨rfl,rfl,rfl,rfl,rfl,rfl,trivial⟩,trivial,rfl⟩⟩
      ·refine⟨rfl,3,_,rfl,Nat.le_of_ble_eq_true rfl,?_⟩;refine⟨?_,trivial⟩;refine⟨rfl,4,_,rfl,Nat.le_add_left 4 zs.length,?_⟩;refine Wsem.of ttok mixed ?_;exact⟨some (b',⟨cap',by simpa using g1⟩,zs),Nat.zero_lt_one,⟨⟨rfl,rfl,rfl,rfl,rfl,rfl,trivial⟩,trivial,rfl⟩⟩
    ·refine⟨?_,?_,trivial⟩
     ·refine⟨by decide,by decide,?_⟩;refine⟨?_,?_,trivial⟩
      ·refine⟨rfl,4,_,rfl,Nat.le_add_left 4 zs.length,?_⟩;refine⟨?_,trivial⟩;refine⟨rfl,3,_,rfl,Nat.le_of_ble_eq_true rfl,?_⟩;refine Wsem.of ttok mixed ?_;exact⟨some (b',⟨cap',by simpa using g1⟩,zs),Nat.zero_lt_one,⟨⟨rfl,rfl,rfl,rfl,rfl,rfl,trivial⟩,trivial,rfl⟩⟩
      ·refine⟨rfl,3,_,rfl,Nat.le_of_ble_eq_true rfl,?_⟩;refine⟨?_,trivial⟩;refine⟨rfl,4,_,rfl,Nat.le_add_left 4 zs.length,?_⟩;refine Wsem.of ttok mixed ?_;exact⟨some (b',⟨cap',by simpa using g1⟩,zs),Nat.zero_lt_one,⟨⟨rfl,rfl,rfl,rfl,rfl,rfl,trivial⟩,trivial,rfl⟩⟩
     ·refine⟨rfl,3,_,rfl,Nat.le_of_ble_eq_true rfl,?_⟩;refine⟨?_,trivial⟩;refine⟨by decide,by decide,?_⟩;refine⟨?_,trivial⟩;refine⟨rfl,4,_,rfl,Nat.le_add_left 4 zs.length,?_⟩;refine Wsem.of ttok mixed ?_;exact⟨some (b',⟨cap',by simpa using g1⟩,zs),Nat.zero_lt_one,⟨⟨rfl,rfl,rfl,rfl,rfl,rfl,trivial⟩,trivial,rfl⟩⟩
  ·refine⟨0,_,_,rfl,rfl,?_⟩;refine .inr (.inr (.inr ⟨[1,2],Ck.stH b1 b2 (k:Nat) l,Ck.stH b1 b2 ((k+1:Nat):Int) l,_,rfl,by decide,rfl,hF,?_⟩));refine⟨3,_,_,rfl,rfl,?_⟩;refine⟨rfl,rfl,rfl,?_⟩;refine⟨by simp,by simp,zJV [.no],rfl,rfl,fun b' cap' zs g1 g2=>?_⟩;refine⟨by kernel_rfl,?_⟩;refine⟨?_,?_,trivial⟩
   ·refine⟨by decide,by decide,?_⟩;refine⟨?_,?_,trivial⟩
    ·refine⟨rfl,4,_,rfl,Nat.le_add_left 4 zs.length,?_⟩;refine⟨?_,trivial⟩;refine⟨?_,trivial⟩;refine⟨?_,trivial⟩;refine⟨rfl,3,_,rfl,Nat.le_of_ble_eq_true rfl,?_⟩;refine Wsem.of ttok mixed ?_;exact⟨some (b',⟨cap',by simpa using g1⟩,zs),Nat.zero_lt_one,⟨⟨rfl,rfl,rfl,rfl,rfl,rfl,trivial⟩,trivial,rfl⟩⟩
    ·refine⟨?_,?_,trivial⟩
     ·refine⟨rfl,4,_,rfl,Nat.le_add_left 4 zs.length,?_⟩;refine⟨?_,trivial⟩;refine⟨?_,trivial⟩;refine⟨rfl,3,_,rfl,Nat.le_of_ble_eq_true rfl,?_⟩;refine Wsem.of ttok mixed ?_;exact⟨some (b',⟨cap',by simpa using g1⟩,zs),Nat.zero_lt_one,⟨⟨rfl,rfl,rfl,rfl,rfl,rfl,trivial⟩,trivial,rfl⟩⟩
     ·refine⟨?_,?_,trivial⟩
      ·refine⟨rfl,4,_,rfl,Nat.le_add_left 4 zs.length,?_⟩;refine⟨?_,trivial⟩;refine⟨rfl,3,_,rfl,Nat.le_of_ble_eq_true rfl,?_⟩;refine Wsem.of ttok mixed ?_;exact⟨some (b',⟨cap',by simpa using g1⟩,zs),Nat.zero_lt_one,⟨⟨rfl,rfl,rfl,rfl,rfl,rfl,trivial⟩,trivial,rfl⟩⟩
      ·refine⟨rfl,3,_,rfl,Nat.le_of_ble_eq_true rfl,?_⟩;refine⟨?_,trivial⟩;refine⟨rfl,4,_,rfl,Nat.le_add_left 4 zs.length,?_⟩;refine Wsem.of ttok mixed ?_;exact⟨some (b',⟨cap',by simpa using g1⟩,zs),Nat.zero_lt_one,⟨⟨rfl,rfl,rfl,rfl,rfl,rfl,trivial⟩,trivial,rfl⟩⟩
   ·refine⟨?_,?_,trivial⟩
    ·refine⟨by decide,by decide,?_⟩;refine⟨?_,?_,trivial⟩
     ·refine⟨rfl,4,_,rfl,Nat.le_add_left 4 zs.length,?_⟩;refine⟨?_,trivial⟩;refine⟨?_,trivial⟩;refine⟨rfl,3,_,rfl,Nat.le_of_ble_eq_true rfl,?_⟩;refine Wsem.of ttok mixed ?_;exact⟨some (b',⟨cap',by simpa using g1⟩,zs),Nat.zero_lt_one,⟨⟨rfl,rfl,rfl,rfl,rfl,rfl,trivial⟩,trivial,rfl⟩⟩
     ·refine⟨?_,?_,trivial⟩
      ·refine⟨rfl,4,_,rfl,Nat.le_add_left 4 zs.length,?_⟩;refine⟨?_,trivial⟩;refine⟨rfl,3,_,rfl,Nat.le_of_ble_eq_true rfl,?_⟩;refine Wsem.of ttok mixed ?_;exact⟨some (b',⟨cap',by simpa using g1⟩,zs),Nat.zero_lt_one,⟨⟨rfl,rfl,rfl,rfl,rfl,rfl,trivial⟩,trivial,rfl⟩⟩
      ·refine⟨rfl,3,_,rfl,Nat.le_of_ble_eq_true rfl,?_⟩;refine⟨?_,trivial⟩;refine⟨rfl,4,_,rfl,Nat.le_add_left 4 zs.length,?_⟩;refine Wsem.of ttok mixed ?_;exact⟨some (b',⟨cap',by simpa using g1⟩,zs),Nat.zero_lt_one,⟨⟨rfl,rfl,rfl,rfl,rfl,rfl,trivial⟩,trivial,rfl⟩⟩
    ·refine⟨?_,?_,trivial⟩
     ·refine⟨by decide,by decide,?_⟩;refine⟨?_,?_,trivial⟩
      ·refine⟨rfl,4,_,rfl,Nat.le_add_left 4 zs.length,?_⟩;refine⟨?_,trivial⟩;refine⟨rfl,3,_,rfl,Nat.le_of_ble_eq_true rfl,?_⟩;refine Wsem.of ttok mixed ?_;exact⟨some (b',⟨cap',by simpa using g1⟩,zs),Nat.zero_lt_one,⟨⟨rfl,rfl,rfl,rfl,rfl,rfl,trivial⟩,trivial,rfl⟩⟩
      ·refine⟨rfl,3,_,rfl,Nat.le_of_ble_eq_true rfl,?_⟩;refine⟨?_,trivial⟩;refine⟨rfl,4,_,rfl,Nat.le_add_left 4 zs.length,?_⟩;refine Wsem.of ttok mixed ?_;exact⟨some (b',⟨cap',by simpa using g1⟩,zs),Nat.zero_lt_one,⟨⟨rfl,rfl,rfl,rfl,rfl,rfl,trivial⟩,trivial,rfl⟩⟩
     ·refine⟨rfl,3,_,rfl,Nat.le_of_ble_eq_true rfl,?_⟩;refine⟨?_,trivial⟩;refine⟨by decide,by decide,?_⟩;refine⟨?_,trivial⟩;refine⟨rfl,4,_,rfl,Nat.le_add_left 4 zs.length,?_⟩;refine Wsem.of ttok mixed ?_;exact⟨some (b',⟨cap',by simpa using g1⟩,zs),Nat.zero_lt_one,⟨⟨rfl,rfl,rfl,rfl,rfl,rfl,trivial⟩,trivial,rfl⟩⟩
 | some (bt,cap,zs) =>
  refine Wsem.seq ttok mixed ?_;refine Wsem.seq ttok mixed ?_;refine⟨fun h=>absurd h (by decide),fun _=>?_⟩;refine Wsem.of ttok mixed ?_;refine⟨0,_,_,rfl,rfl,?_⟩;refine⟨3,_,_,rfl,rfl,?_⟩;refine .inr (.inr (.inl ⟨[4],_,_,rfl,by decide,zQF d (.mt ((k+1:Nat):Int)) bt cap.1 zs,?_⟩));refine .inr (.inr (.inr ⟨[1,2],Ck.stH b1 b2 ((k+1:Nat):Int) l,Ck.stH b1 b2 ((k+1:Nat):Int) l',_,rfl,by decide,rfl,hU,?_⟩));refine⟨by kernel_rfl,?_⟩;exact⟨rfl,rfl,bt,cap.1,zs,cap.2,rfl⟩
end Go.Proofs.YtebmimnglcdogaaGreatDoor
