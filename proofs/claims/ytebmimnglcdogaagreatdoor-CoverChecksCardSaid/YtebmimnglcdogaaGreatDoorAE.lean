/- A constructor's type: code. No condition but on lengths. -/
import Derived.Test.YtebmimnglcdogaaGreatDoorAC
import Derived.Test.YtebmimnglcdogaaGreatDoorAD
import Derived.Test.YtebmimnglcdogaaGreatDoorFpN
set_option linter.unusedSimpArgs false
set_option linter.unusedVariables false
namespace Go.Proofs.YtebmimnglcdogaaGreatDoor
open Go Fp
set_option maxRecDepth 10000
set_option maxHeartbeats 8000000
set_option linter.unusedVariables false
set_option linter.unusedSimpArgs false
theorem z1X (d:DT) (l:List Tp) (hl:l.length<1000):zB Tryz.prog zQ8 [eD d,.sl (zQ l)] (eTy (Ck.appAllT (.con d.1) l)):=by
 refine zA ttok mixed Tryz.func85 rfl (by rfl) (Nat.le_of_ble_eq_true rfl) (by kernel_rfl) ?_;refine .inl ⟨_,Ck.con_mk d.1,?_⟩;refine .inl ⟨_,Ck.appT_ok (.con d.1) l (by omega),?_⟩;exact rfl
theorem zV8 (vs:List ByteArray) (h:vs.length<1000):zB Tryz.prog 86 [.sl (eSs vs)] (.sl (zQ (vs.map Tp.var))):=by
 refine zA ttok mixed Tryz.func86 rfl (by rfl) (Nat.le_of_ble_eq_true rfl) (by kernel_rfl) ?_;have hls:(eSs vs).length=vs.length:=by simp[eSs]
 refine⟨{k:Nat // k<=vs.length},fun k=>{vs:=[(3,.v (.sl (zQ ((vs.take k.1).map Tp.var)))),(6,.v (.sl (eSs vs))),(7,sv (vs.length:Nat)),(8,sv (k.1:Nat))],ow:=[(3,0,5)]},fun k=>vs.length-k.1,⟨0,Nat.zero_le _⟩,⟨⟨rfl,rfl,svc (by rw[hls]),rfl,trivial⟩,⟨trivial,trivial⟩,rfl⟩,?_⟩;rintro⟨k,hk⟩;refine⟨fun h1=>?_,fun h1=>?_⟩
 ·have h1:k<vs.length:=by have h1:=of_decide_eq_true h1;simp only at h1;omega
  refine⟨_,by omega,zKW h1,rfl,?_⟩;refine .inl ⟨_,Ck.var_mk _,?_⟩;refine⟨by simp[zQ];omega,zIY _,zIY [_],?_⟩;refine⟨⟨k+1,h1⟩,(show vs.length-(k+1)<vs.length-k by omega),⟨?_,rfl,rfl,svc (wrap_succ (k:=k) (by omega)),trivial⟩,⟨rfl,trivial⟩,rfl⟩;show SV.v (.sl (zQ ((vs.take k).map Tp.var)++[eTy (.var vs[k])]))=SV.v (.sl (zQ ((vs.take (k+1)).map Tp.var)));rw[List.take_succ_eq_append_getElem h1,List.map_append];unfold zQ;rw[List.map_append]
  rfl
 ·have h1:k=vs.length:=by have h1:=of_decide_eq_false h1;simp only at h1;omega
  subst h1;show AV.sl (zQ ((vs.take vs.length).map Tp.var))=_;rw[List.take_length]
theorem zU4 (d:DT) (j:Nat) {s:ByteArray} {fts:List Tp} (hv:d.2.2.1.length<1000) (hj:d.2.2.2.2[j]? = some (s,fts)) (hf:fts.length<=1000):zB Tryz.prog 48 [eD d,.lit (.int .i64 (j:Nat))] (eTy (Ck.funT (Ck.appAllT (.con d.1) (d.2.2.1.map Tp.var)) fts)):=by
 have h1:=zV8 d.2.2.1 hv;have h2:=z1X d (d.2.2.1.map Tp.var) (by simpa using hv);have h3:=Ck.funT_ok (Ck.appAllT (.con d.1) (d.2.2.1.map Tp.var)) fts (by omega);have hlt:=(List.getElem?_eq_some_iff.1 hj).1;have hgc:(wB d.2.2.2.2)[((j:Nat):Int).toNat]? = some (zO1 (s,fts)):=by show (wB d.2.2.2.2)[j]? = _;unfold wB;rw[List.getElem?_map,hj];rfl
 refine zA ttok mixed Tryz.func48 rfl (by rfl) (Nat.le_of_ble_eq_true rfl) (by kernel_rfl) ?_;refine .inl ⟨_,h1,?_⟩;refine .inl ⟨_,h2,?_⟩;refine⟨_,by omega,hgc,rfl,?_⟩;refine .inl ⟨_,h3,?_⟩;refine⟨by kernel_rfl,?_⟩;exact rfl
set_option maxHeartbeats 16000000
theorem zHP:∀d∈wTab5,(d.2.2.2.2.length<=3/\d.2.2.1.length<=2)/\∀q∈d.2.2.2.2,q.2.length<=3:=by decide
def zAZ (d:DT) (fts:List Tp):Tp:=Ck.funT (Ck.appAllT (.con d.1) (d.2.2.1.map Tp.var)) fts
def zAB (vs:List ByteArray) (t:Tp) (k:Nat):Tp:=(vs.drop (vs.length-k)).foldr Tp.all t
theorem z3N (vs:List ByteArray) (t:Tp):zAB vs t 0=t:=by unfold zAB;rw[Nat.sub_zero,List.drop_length];rfl
def z4N (d:DT) (j:Nat):Ck.Fd:=match d.2.2.2.2[j]? with
 | some (s,fts)=>⟨s,j,d.2.2.2.2.length,fts.length,zAB d.2.2.1 (zAZ d fts) d.2.2.1.length⟩
 | none=>⟨.empty,0,0,0,.no⟩
def zGQ (d:DT) (n:Nat):List Ck.Fd:=(List.range n).map (z4N d)
def zEA (n:Nat):List Ck.Fd:=(wTab5.take n).flatMap fun d=>zGQ d d.2.2.2.2.length
theorem zZV:zEA 5=flds:=by rfl
abbrev zGB (D:Nat):Nat×HO:=(D,HO.raw zLC)
abbrev sp8 (b:Nat):AV := .lit (.pointer (some ⟨b,0,none⟩))
theorem z6H (l:List Ck.Fd):Uni 8 (Ck.eFds l):=fun a ha=>by obtain⟨x,_,rfl⟩:=List.mem_map.1 ha;rfl
theorem zY1 {i:Nat} (h:i<5):(zEA i).length<=100:=by
 match i,h with
 | 0,_=>decide
 | 1,_=>decide
 | 2,_=>decide
 | 3,_=>decide
 | 4,_=>decide
theorem zV1:zB Tryz.prog 16 [cAV] (.sl (Ck.eFds flds)):=by
 refine CallsG.pure (post:=fun r o h=>r = .sl (Ck.eFds flds)/\o=0) ?_ (fun r o h ⟨e1,e2⟩=>⟨by rw[e1];exact .refl _,e2⟩);refine zH3 ttok Tryz.func16 rfl (by rfl) (Nat.le_of_ble_eq_true rfl) (by kernel_rfl) (by kernel_rfl) ?_;refine WsemM.seq ttok mixed ?_;refine⟨MK.nil _,?_⟩;refine WsemM.seq ttok mixed ?_;refine⟨MK.nil _,?_⟩;refine WsemM.seqS (WsemM.seq ttok mixed ?_);refine⟨MK.nil _,?_⟩;refine WsemM.block (WsemM.loop (α:={p:Nat×List Nat // p.1<=5}) (fun p=>{vs:=[(3,.v (.sl (Ck.eFds (zEA p.1.1)))),(14,.v (.sl (wTab5.map eD))),(15,sv 5),(16,sv (p.1.1:Nat))],ow:=[(3,0,9)],hp:=p.1.2.map zGB}) (fun p=>5-p.1.1) ⟨(0,[]),Nat.zero_le _⟩ ⟨⟨rfl,rfl,rfl,rfl,trivial⟩,⟨trivial,trivial⟩,rfl⟩ ?_);rintro⟨⟨i,Ds⟩,hi⟩;refine WsemM.seq ttok mixed ?_;refine⟨MK.refl _,?_⟩;refine WsemM.seq ttok mixed ?_;refine⟨fun h1=>⟨MK.refl _,?_⟩,fun h1=>⟨MK.refl _,?_⟩⟩
 ·have h1:i<5:=by have h1:=of_decide_eq_true h1;simp only at h1;omega
  obtain⟨d,hd⟩:∃d,wTab5[i]? = some d:=⟨_,List.getElem?_eq_getElem h1⟩
  have hgd:(wTab5.map eD)[((i:Nat):Int).toNat]? = some (eD d):=by show (wTab5.map eD)[i]? = _;rw[List.getElem?_map,hd];rfl
  refine WsemM.seqS (WsemM.block ?_);refine WsemM.seq ttok mixed ?_;refine⟨_,by omega,hgd,rfl,?_⟩;refine⟨MK.refl _,?_⟩;refine WsemM.seq ttok mixed ?_;refine⟨MK.refl _,?_⟩;have hlc:(wB d.2.2.2.2).length=d.2.2.2.2.length:=by simp[wB]
  have hsmall:d.2.2.2.2.length<=3/\d.2.2.1.length<=2:=(zHP d (List.mem_of_getElem? hd)).1;have hstep:zEA (i+1)=zEA i++zGQ d d.2.2.2.2.length:=by
   unfold zEA;rw[List.take_add_one,hd,List.flatMap_append];simp
  refine WsemM.block (WsemM.loop (α:={q:Nat×List Nat // q.1<=d.2.2.2.2.length}) (fun q=>{vs:=[(3,.v (.sl (Ck.eFds (zEA i++zGQ d q.1.1)))),(5,.box 0 (eD d)),(14,.v (.sl (wTab5.map eD))),(15,sv 5),(16,sv (i:Nat)),(21,.v (.sl (wB d.2.2.2.2))),(22,sv (d.2.2.2.2.length:Nat)),(23,sv (q.1.1:Nat))],ow:=[(3,0,9)],hp:=q.1.2.map zGB}) (fun q=>d.2.2.2.2.length-q.1.1) ⟨(0,Ds),Nat.zero_le _⟩ ⟨⟨?_,rfl,rfl,rfl,rfl,rfl,svc (by rw[hlc]),rfl,trivial⟩,⟨rfl,trivial⟩,rfl⟩ ?_)
  ·show SV.v (.sl (Ck.eFds (zEA i)))=SV.v (.sl (Ck.eFds (zEA i++zGQ d 0)));rw[show zGQ d 0=[] from rfl,List.append_nil]
  rintro⟨⟨j,Es⟩,hj⟩;refine WsemM.seq ttok mixed ?_;refine⟨MK.refl _,?_⟩;refine WsemM.seq ttok mixed ?_;refine⟨fun h2=>⟨MK.refl _,?_⟩,fun h2=>⟨MK.refl _,?_⟩⟩
  ·have h2:j<d.2.2.2.2.length:=by have h2:=of_decide_eq_true h2;simp only at h2;omega
   obtain⟨⟨s,fts⟩,hjc⟩:∃q,d.2.2.2.2[j]? = some q:=⟨_,List.getElem?_eq_getElem h2⟩
   have hgc:(wB d.2.2.2.2)[((j:Nat):Int).toNat]? = some (zO1 (s,fts)):=by show (wB d.2.2.2.2)[j]? = _;unfold wB;rw[List.getElem?_map,hjc];rfl
   have hfts:fts.length<=1000:=Nat.le_trans ((zHP d (List.mem_of_getElem? hd)).2 _ (List.mem_of_getElem? hjc)) (by decide);have hty:=zU4 d j (by omega) hjc hfts;have hbk:=zUQ d.2.2.1;have hit:=zO3 d.2.2.1 (by omega);refine WsemM.seqS (WsemM.block ?_);refine WsemM.seq ttok mixed ?_;refine⟨_,by omega,hgc,rfl,?_⟩;refine⟨MK.refl _,?_⟩;refine WsemM.seq ttok mixed ?_;refine .inl ⟨_,hty,?_⟩;refine⟨MK.refl _,?_⟩;refine WsemM.seqS (WsemM.seq ttok mixed ?_);refine .inl ⟨_,hbk,?_⟩;refine⟨MK.refl _,?_⟩;refine WsemM.cut {vs:=[(3,.v (.sl (Ck.eFds (zEA i++zGQ d j)))),(5,.box 0 (eD d)),(6,sv (j:Nat)),(7,.box 0 (zO1 (s,fts))),(8,.box 0 (eTy (zAB d.2.2.1 (zAZ d fts) 0))),(14,.v (.sl (wTab5.map eD))),(15,sv 5),(16,sv (i:Nat)),(21,.v (.sl (wB d.2.2.2.2))),(22,sv (d.2.2.2.2.length:Nat)),(23,sv (j:Nat)),(33,.v (.fn (.func 87) [] [.ptr [.sl (eSs d.2.2.1)]]))],ow:=[(3,0,9)],hp:=Es.map zGB} ⟨⟨rfl,rfl,rfl,rfl,?_,rfl,rfl,rfl,rfl,rfl,rfl,rfl,trivial⟩,⟨rfl,trivial⟩,rfl⟩ ?_
   ·show SV.box 0 (eTy (zAZ d fts))=SV.box 0 (eTy (zAB d.2.2.1 (zAZ d fts) 0));rw[z3N]
   refine WsemM.letout 8 rfl (by kernel_rfl) fun b8=>?_;refine WsemM.block ?_;refine WsemM.range (p1:=34) (p2:=35) (hp:=fun k=>Es.map zGB++[(b8,HO.cells (eTy (zAB d.2.2.1 (zAZ d fts) k)).cells)]) (vs0:=[(8,.v (sp8 b8))]) rfl ?_ (by decide) ?_ hit (fun k hk=>⟨_,_,rfl,fun l0 q1 q2 hq1 hq2=>?_⟩) (fun D h=>by simpa using h) (fun D=>?_)
   ·exact⟨rfl,trivial⟩
   ·exact rfl
   ·refine WsemB.of ttok mixed ?_;refine⟨rfl,?_⟩;refine WsemB.block ?_;refine WsemB.of ttok mixed ?_;refine⟨Es.length,(eTy (zAB d.2.2.1 (zAZ d fts) k)).cells,?_,Nat.le_of_ble_eq_true rfl,?_⟩
    ·show ((Es.map zGB++[(b8,HO.cells (eTy (zAB d.2.2.1 (zAZ d fts) k)).cells)])++[(l0,HO.raw q2)])[Es.length]? = _;rw[List.append_assoc,List.getElem?_append_right (by simp)];simp
    refine .inl ⟨_,Ck.all_mk _ _,?_⟩;refine⟨rfl,Es.length,(eTy (zAB d.2.2.1 (zAZ d fts) k)).cells,?_,Nat.le_of_ble_eq_true rfl,?_⟩
    ·show ((Es.map zGB++[(b8,HO.cells (eTy (zAB d.2.2.1 (zAZ d fts) k)).cells)])++[(l0,HO.raw q2)])[Es.length]? = _;rw[List.append_assoc,List.getElem?_append_right (by simp)];simp
    have hk1:k<d.2.2.1.length:=hk;have hst:Tp.all (d.2.2.1.getD (d.2.2.1.length-1-k) .empty) (zAB d.2.2.1 (zAZ d fts) k)=zAB d.2.2.1 (zAZ d fts) (k+1):=by
     unfold zAB;rw[show d.2.2.1.length-(k+1)=d.2.2.1.length-1-k by omega,List.drop_eq_getElem_cons (i:=d.2.2.1.length-1-k) (by omega),show d.2.2.1.length-1-k+1=d.2.2.1.length-k by omega];rw[List.foldr_cons,List.getD_eq_getElem?_getD,List.getElem?_eq_getElem (by omega)]
     rfl
    show List.Sublist ((Es.map zGB++[(b8,HO.cells (eTy (zAB d.2.2.1 (zAZ d fts) (k+1))).cells)])++[(l0,HO.raw q2)]) (((Es.map zGB++[(b8,HO.cells (eTy (zAB d.2.2.1 (zAZ d fts) k)).cells)])++[(l0,HO.raw q2)]).set Es.length (b8,HO.cells (eTy (Tp.all (d.2.2.1.getD (d.2.2.1.length-1-k) .empty) (zAB d.2.2.1 (zAZ d fts) k))).cells));rw[hst,List.append_assoc,List.append_assoc,List.set_append_right _ _ (by simp)];simp
   refine WsemM.of (WsemB.of ttok mixed ?_);refine⟨Es.length+1,(eTy (zAB d.2.2.1 (zAZ d fts) d.2.2.1.length)).cells,?_,Nat.le_of_ble_eq_true rfl,?_⟩
   ·show (zGB D::(Es.map zGB++[(b8,HO.cells (eTy (zAB d.2.2.1 (zAZ d fts) d.2.2.1.length)).cells)]))[Es.length+1]? = _;rw[List.getElem?_cons_succ,List.getElem?_append_right (by simp)];simp
   refine⟨?_,z6H _,?_,?_⟩
   ·have:=zY1 h1;simp[Ck.eFds,zGQ];omega
   ·intro a ha;rw[List.mem_singleton.1 ha];rfl
   refine⟨MK.refl _,?_⟩;have hfd:z4N d j=⟨s,j,d.2.2.2.2.length,fts.length,zAB d.2.2.1 (zAZ d fts) d.2.2.1.length⟩:=by unfold z4N;rw[hjc]
   have hnew:zEA i++zGQ d (j+1)=(zEA i++zGQ d j)++[⟨s,j,d.2.2.2.2.length,fts.length,zAB d.2.2.1 (zAZ d fts) d.2.2.1.length⟩]:=by
    unfold zGQ;rw[List.range_succ,List.map_append,List.append_assoc,List.map_singleton,hfd]
   have hlf:(zQ fts).length=fts.length:=by simp[zQ]
   refine WsemM.cut {vs:=[(3,.v (.sl (Ck.eFds (zEA i++zGQ d (j+1))))),(5,.box 0 (eD d)),(14,.v (.sl (wTab5.map eD))),(15,sv 5),(16,sv (i:Nat)),(21,.v (.sl (wB d.2.2.2.2))),(22,sv (d.2.2.2.2.length:Nat)),(23,sv (j:Nat))],ow:=[(3,0,9)],hp:=zGB D::(Es.map zGB++[(b8,HO.cells (eTy (zAB d.2.2.1 (zAZ d fts) d.2.2.1.length)).cells)])} ⟨⟨?_,rfl,rfl,rfl,rfl,rfl,rfl,rfl,trivial⟩,⟨rfl,trivial⟩,rfl⟩ ?_
   ·show SV.v (AV.sl (Ck.eFds (zEA i++zGQ d j)++[AV.agg [.lit (.string s),.lit (.int .i64 (j:Nat)),.lit (.int .i64 ((wB d.2.2.2.2).length:Nat)),.lit (.int .i64 ((zQ fts).length:Nat)),.lit (.int .i64 (zAB d.2.2.1 (zAZ d fts) d.2.2.1.length).form),.lit (.int .i64 (zAB d.2.2.1 (zAZ d fts) d.2.2.1.length).num),.lit (.string (zAB d.2.2.1 (zAZ d fts) d.2.2.1.length).nam),.sl (zAB d.2.2.1 (zAZ d fts) d.2.2.1.length).eArgs]]))=_;rw[hlc,hlf,hnew];simp only[Ck.eFds,List.map_append,List.map_cons,List.map_nil]
    rfl
   refine WsemM.drop (hp':=zGB D::Es.map zGB) (List.Sublist.cons_cons _ (List.sublist_append_left _ _)) (fun D' h=>by simpa using h) ?_;refine WsemM.of (WsemB.of ttok mixed ?_);refine⟨MK.refl _,⟨(j+1,D::Es),h2⟩,(show d.2.2.2.2.length-(j+1)<d.2.2.2.2.length-j by omega),⟨rfl,rfl,rfl,rfl,rfl,rfl,rfl,svc (wrap_succ (k:=j) (by omega)),trivial⟩,⟨rfl,trivial⟩,rfl⟩
  ·have h2:j=d.2.2.2.2.length:=by have h2:=of_decide_eq_false h2;simp only at h2 hj;omega
   subst h2;refine WsemM.of (WsemB.of ttok mixed ?_);refine⟨MK.refl _,⟨(i+1,Es),h1⟩,(show 5-(i+1)<5-i by omega),⟨?_,rfl,rfl,svc (wrap_succ (k:=i) (by omega)),trivial⟩,⟨rfl,trivial⟩,rfl⟩;show SV.v (.sl (Ck.eFds (zEA i++zGQ d d.2.2.2.2.length)))=SV.v (.sl (Ck.eFds (zEA (i+1))));rw[hstep]
 ·have h1:i=5:=by have h1:=of_decide_eq_false h1;simp only at h1 hi;omega
  subst h1;refine WsemM.seq ttok mixed ?_;refine⟨MK.refl _,?_⟩;refine WsemM.of (WsemB.of ttok mixed ?_);refine⟨MK.refl _,?_⟩;exact⟨congrArg (fun x=>AV.sl (Ck.eFds x)) zZV,rfl⟩
theorem zIX {l:List Int} (hl:l.length<9223372036854775808) (hr:∀x∈l,InR x):zB Tryz.prog 4 [.sl (eIs l)] (.sb true) :=
 zR7 zV1 z4F (by decide) hl hr
end Go.Proofs.YtebmimnglcdogaaGreatDoor
