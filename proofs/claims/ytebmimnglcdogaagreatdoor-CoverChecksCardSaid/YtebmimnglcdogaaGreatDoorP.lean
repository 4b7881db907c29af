/- Types of the code. No condition but that there are not too many. -/
import Derived.Test.YtebmimnglcdogaaGreatDoorO
import Derived.Test.YtebmimnglcdogaaGreatDoorFpM
set_option linter.unusedSimpArgs false
set_option linter.unusedVariables false
namespace Go.Proofs.YtebmimnglcdogaaGreatDoor.Ck
open Go Fp
set_option maxRecDepth 10000
set_option maxHeartbeats 16000000
set_option linter.unusedVariables false
structure TyS (t:Tp):Prop where
 sub:wH t []
theorem zST {t:Tp} (h:TyS t):zB Tryz.prog zIO [eTy t] (eTy t):=by
 have hc:wH t []:=h.sub;unfold wH at hc;rw[zT2] at hc;refine zA ttok mixed Tryz.func51 rfl (by rfl) (Nat.le_of_ble_eq_true rfl) (by kernel_rfl) ?_;refine .inl ⟨_,hc,?_⟩;exact rfl
abbrev pt (b off:Nat):AV := .lit (.pointer (some ⟨b,off,none⟩))
def zAR (ad:Ad) (x:Nd):List AV:=if x.f=5 then [pt ad.b0 2] else []
def zZ3 (ad:Ad) (j:Nat):AV:=pt ad.b.no (j*15)
def zD7 (ad:Ad) (j:Nat):AV:=pt ad.k.no (j*10)
def zGY (ad:Ad) (j:Nat):AV:=pt ad.b.no (j*15+5)
def zPP (v:VA) (i:Nat):AV:=pt v.no i
abbrev rg (F:Nat->AV) (n:Nat):List AV:=(List.range n).map F
def mGA (ad:Ad) (x:Nd) (j:Nat):AV:=match x.ls[j]?,ad.vs[j]? with
 | some a,some v => .agg [.sl (rg (zPP v) a.2.1.length),.sl [pt ad.a.no (j*14+4)]]
 | _,_ => .agg [.sl [],.sl []]
def mNm (ad:Ad) (x:Nd):List AV:=zAR ad x++rg (zZ3 ad) x.bs.length
def mPt (ad:Ad) (x:Nd):List AV:=rg (zD7 ad) x.ks.length++rg (zGY ad) x.bs.length
def mG (ad:Ad) (x:Nd):List AV:=eG0 (.sl (mNm ad x)) (mPt ad x)::rg (mGA ad x) x.ls.length
theorem rgS (F:Nat->AV) (k:Nat):rg F k++[F k]=rg F (k+1):=by simp[rg,List.range_succ]
theorem z5C (F:Nat->AV) (k:Nat) (r:List AV):(r++rg F k)++[F k]=r++rg F (k+1):=by rw[List.append_assoc,rgS]
theorem zGC (F:Nat->AV) (hF:∀j,(F j).cells.length=1) (k:Nat):Uni 1 (rg F k):=z3S F hF _
theorem z2A (ad:Ad) (x:Nd):(zAR ad x).length<=1:=by unfold zAR;split<;>simp
theorem z5N (ad:Ad) (x:Nd):Uni 1 (zAR ad x):=by unfold zAR;split;exact zCV rfl;exact z5Z 1
theorem z2Y {α:Type} (l1 l2:List α) (x:α) (tl:List α):((l1++x::l2)++tl)[l1.length]? = some x:=by simp
theorem zKM (ad:Ad) (x:Nd) (tl:List (Nat×HO)) {off:Nat} {c:AV} (hc:(zAG ad x)[off]? = some c):∃(i:Nat) (l:List AV),(HP ad x++tl)[i]? = some (ad.b0,HO.cells l)/\l[off]? = some c :=
 ⟨(hM ad x).length,_,z2Y _ [] _ tl,hc⟩
theorem zG5 {ls:List Alg} {vs:List VA} {j:Nat} {a:Alg} {v:VA} (ha:ls[j]? = some a) (hv:vs[j]? = some v):(xX ls vs)[j]? = some (zSD a v):=by
 rw[xX,List.getElem?_zipWith,ha,hv]
theorem z5D {ad:Ad} {x:Nd} (hok:AdOk ad x) (tl:List (Nat×HO)) {j:Nat} {a:Alg} {v:VA} (ha:x.ls[j]? = some a) (hv:ad.vs[j]? = some v) {off:Nat} (ho:off<14) {c:AV} (hc:(zSD a v).cells[off]? = some c):∃(i:Nat) (l:List AV),(HP ad x++tl)[i]? = some (ad.a.no,HO.cells l)/\l[j*14+off]? = some c:=by
 have hj:=(List.getElem?_eq_some_iff.1 ha).1;have hb:blk ad.a x.ls.length (flR (xX x.ls ad.vs) ad.a.z)=[(ad.a.no,HO.cells (flR (xX x.ls ad.vs) ad.a.z))]:=zC6 hok.a (by omega);have hg:=zG5 ha hv;have hj2:=(List.getElem?_eq_some_iff.1 hg).1;have hx:(xX x.ls ad.vs)[j]=zSD a v:=by rw[List.getElem?_eq_getElem hj2] at hg;exact Option.some.inj hg
 refine⟨(blk ad.k x.ks.length (flR (eCs x.ks) ad.k.z)++blk ad.b x.bs.length (flR (xB x.bs) ad.b.z)).length,flR (xX x.ls ad.vs) ad.a.z,?_,?_⟩
 ·unfold HP hM;rw[hb];simp only[List.append_assoc,List.cons_append,List.nil_append];rw[<-List.append_assoc];simp
 ·rw[zID (zG8 _ _) ad.a.z hj2 off ho,hx];exact hc
theorem zNU {ad : Ad} {x : Nd} (hok : AdOk ad x) (v : VA) (N : Nat) (tl : List (Nat × HO)) (post : AV -> Nat -> List (Nat × HO) -> Prop) (hpost : post (.sl (eG0 (slA v N) (mPt ad x) :: rg (mGA ad x) x.ls.length)) 3 (HP ad x ++ tl)) (ha : x.ls.length <= 1000000) (hv : ∀ a ∈ x.ls, a.2.1.length <= 1000000) :
    Wsem Tryz.prog (zBI (sn4 (bodyC Tryz.f91))) (mkC { vs := [(0, .v (pt ad.b0 0)), (3, .box 0 (eG0 (slA v N) (mPt ad x)))], hp := HP ad x ++ tl })
      (fun c2 => xA tt Tryz.f91.results.toList post (den c2)) (fun _ _ => False) (fun c2 => xA tt Tryz.f91.results.toList post (den c2)) := by
  refine Wsem.seq ttok mixed ?_;refine Wsem.seq ttok mixed ?_;obtain ⟨i0, l0, q1, q2⟩ := zKM ad x tl (off := 9) (c := slA ad.a x.ls.length) rfl;refine ⟨i0, l0, _, q1, q2, ?_⟩;refine ⟨{k : Nat // k <= x.ls.length}, fun k => { vs := [(0, .v (pt ad.b0 0)), (7, .v (.sl (eG0 (slA v N) (mPt ad x) :: rg (mGA ad x) k.1))), (82, sv (x.ls.length : Nat)), (83, sv (k.1 : Nat))], ow := [(7, 0, 3)], hp := HP ad x ++ tl },
    fun k => x.ls.length - k.1, ⟨0, Nat.zero_le _⟩, ⟨⟨rfl, rfl, rfl, rfl, trivial⟩, ⟨rfl, trivial⟩, rfl⟩, ?_⟩
  rintro ⟨k, hkk⟩;refine ⟨fun h => ?_, fun h => ?_⟩
  · have h : k < x.ls.length := by have h := of_decide_eq_true h; simp only at h; omega
    have hvv := hv _ (List.getElem_mem h);have hal := List.getElem?_eq_getElem h;have hvl : k < ad.vs.length := by rw [hok.len]; exact h
    have hva := List.getElem?_eq_getElem hvl;have hvok := hok.vs k _ _ hal hva;have hmga : mGA ad x k = .agg [.sl (rg (zPP ad.vs[k]) x.ls[k].2.1.length), .sl [pt ad.a.no (k * 14 + 4)]] := by unfold mGA; rw [hal, hva]
    generalize x.ls[k] = A at hal hvok hmga hvv;generalize ad.vs[k] = V at hva hvok hmga;have hA0 := hok.a.at (by omega);obtain ⟨i1, l1, q3, q4⟩ := zKM ad x tl (off := 9) (c := .lit (.slice (some ⟨ad.a.no, 0, none⟩) x.ls.length ad.a.cap)) (by show some (slA ad.a x.ls.length) = _; unfold slA; rw [hA0]);refine ⟨i1, l1, _, q3, q4, ?_⟩;refine ⟨by omega, by show (k : Int) < _; omega, ?_⟩;obtain ⟨i2, l2, q5, q6⟩ := z5D hok tl hal hva (off := 3) (by decide) (c := slA V A.2.1.length) rfl;refine ⟨i2, l2, _, q5, by show l2[0 + k * 14 + 3]? = _; rw [Nat.zero_add]; exact q6, ?_⟩
    refine ⟨{j : Nat // j <= A.2.1.length}, fun j => { vs := [(0, .v (pt ad.b0 0)), (7, .v (.sl (eG0 (slA v N) (mPt ad x) :: rg (mGA ad x) k))), (82, sv (x.ls.length : Nat)), (83, sv (k : Nat)),
        (9, .v (pt ad.a.no (k * 14))), (10, .box 0 (.agg [.sl (rg (zPP V) j.1), .sl [pt ad.a.no (k * 14 + 4)]])), (101, sv (A.2.1.length : Nat)), (102, sv (j.1 : Nat))], ow := [(7, 0, 3), (10, 0, 2)], hp := HP ad x ++ tl },
      fun j => A.2.1.length - j.1, ⟨0, Nat.zero_le _⟩, ⟨⟨rfl, rfl, rfl, rfl, ?_, ?_, rfl, rfl, trivial⟩, ⟨rfl, trivial, trivial⟩, rfl⟩, ?_⟩
    · show SV.v (pt ad.a.no (0 + k * 14)) = _; rw [Nat.zero_add]
    · show SV.box 0 (AV.agg [AV.sl [], AV.sl [pt ad.a.no (0 + k * 14 + 4)]]) = _; rw [Nat.zero_add]; rfl
    rintro ⟨j, hjj⟩;refine ⟨fun h2 => ?_, fun h2 => ?_⟩
    · have h2 : j < A.2.1.length := by have h := of_decide_eq_true h2; simp only at h; omega
      have hV0 := hvok.at (by omega);obtain ⟨i3, l3, q7, q8⟩ := z5D hok tl hal hva (off := 3) (by decide) (c := .lit (.slice (some ⟨V.no, 0, none⟩) A.2.1.length V.cap)) (by show some (slA V A.2.1.length) = _; unfold slA; rw [hV0]);refine ⟨i3, l3, _, q7, q8, ?_⟩;refine ⟨by omega, by show (j : Int) < _; omega, ?_⟩;refine ⟨by simp; omega, zGC _ (fun _ => rfl) _, zCV rfl, ?_⟩;refine ⟨by kernel_rfl, ?_⟩;refine ⟨⟨j + 1, h2⟩, by simp; omega, ⟨rfl, rfl, rfl, rfl, rfl, ?_, rfl, svc (hcut h2 hvv), trivial⟩, ⟨rfl, rfl, trivial⟩, rfl⟩;show SV.box 0 (AV.agg [AV.sl (rg (zPP V) j ++ [pt V.no (0 + j * 1)]), AV.sl [pt ad.a.no (k * 14 + 4)]]) = SV.box 0 (AV.agg [AV.sl (rg (zPP V) (j + 1)), AV.sl [pt ad.a.no (k * 14 + 4)]]);rw [<- rgS, show 0 + j * 1 = j by omega]; rfl
    · have h2 : j = A.2.1.length := by have h := of_decide_eq_false h2; simp only at h; omega
      subst h2;refine ⟨by simp; omega, ?_, zCV rfl, ?_⟩
      · intro a ha2
        rcases List.mem_cons.1 ha2 with rfl | ha2
        · rfl
        · obtain ⟨y, _, rfl⟩ := List.mem_map.1 ha2; unfold mGA; split <;> rfl
      refine ⟨⟨k + 1, h⟩, by simp; omega, ⟨rfl, ?_, rfl, svc (hcut h ha), trivial⟩, ⟨rfl, trivial⟩, rfl⟩;show SV.v (AV.sl ((_ :: rg (mGA ad x) k) ++ [AV.agg [AV.sl (rg (zPP V) A.2.1.length), AV.sl [pt ad.a.no (k * 14 + 4)]]])) = SV.v (AV.sl (_ :: rg (mGA ad x) (k + 1)));rw [List.cons_append, <- hmga, rgS]
  · have h : k = x.ls.length := by have h := of_decide_eq_false h; simp only at h; omega
    subst h;refine Wsem.of ttok mixed ?_;exact hpost
abbrev ML (ad:Ad) (x:Nd) (k:Nat):List AV:=zAR ad x++rg (zZ3 ad) k
theorem z2T (ad:Ad) (x:Nd) (k:Nat):Uni 1 (ML ad x k):=zE3 (z5N ad x) (zGC _ (fun _=>rfl) _)
def zNT (ad:Ad) (x:Nd) (r:AV) (h:List (Nat×HO)):Prop := ∃v:VA,Grown v (mNm ad x).length/\r = .sl (eG0 (slA v (mNm ad x).length) (mPt ad x)::rg (mGA ad x) x.ls.length)/\h=HP ad x++blk v (mNm ad x).length (flR (mNm ad x) v.z)
theorem zEG {ad:Ad} {x:Nd} (hok:AdOk ad x) (v0:VA) (hG0:Grown v0 (zAR ad x).length) (hb:x.bs.length<=1000000) (hk:x.ks.length<=1000000) (ha:x.ls.length<=1000000) (hv:∀a∈x.ls,a.2.1.length<=1000000) :
  Wsem Tryz.prog (sn4 (bodyC Tryz.f91)) (mkC {vs:=[(0,.v (pt ad.b0 0)),(3,.box 0 (eG0 (slA v0 (zAR ad x).length) (rg (zD7 ad) x.ks.length)))],ow:=[(3,1,2)],hp:=HP ad x++blk v0 (zAR ad x).length (flR (zAR ad x) v0.z)})
   (fun c2=>xA tt Tryz.f91.results.toList (fun r _ h=>zNT ad x r h) (den c2)) (fun _ _=>False) (fun c2=>xA tt Tryz.f91.results.toList (fun r _ h=>zNT ad x r h) (den c2)):=by
 have hn1:=z2A ad x;obtain⟨i0,l0,q1,q2⟩:=zKM ad x (blk v0 (zAR ad x).length (flR (zAR ad x) v0.z)) (off:=8) (c:=slA ad.b x.bs.length) rfl;refine Wsem.seqS (Wsem.seq ttok mixed ?_);refine⟨i0,l0,_,q1,q2,?_⟩;refine Wsem.block (Wsem.loop (α:={p:Nat×VA // p.1<=x.bs.length/\Grown p.2 (ML ad x p.1).length}) (fun p=>{vs:=[(0,.v (pt ad.b0 0)),(3,.box 0 (eG0 (slA p.1.2 (ML ad x p.1.1).length) (rg (zD7 ad) x.ks.length++rg (zGY ad) p.1.1))),(49,sv (x.bs.length:Nat)),(50,sv (p.1.1:Nat))],ow:=[(3,1,2)],hp:=HP ad x++blk p.1.2 (ML ad x p.1.1).length (flR (ML ad x p.1.1) p.1.2.z)})
  (fun p=>x.bs.length-p.1.1) ⟨(0,v0),Nat.zero_le _,by simpa[ML] using hG0⟩ ⟨⟨rfl,?_,rfl,rfl,trivial⟩,⟨rfl,trivial⟩,?_⟩ ?_)
 ·show SV.box 0 (eG0 _ _)=SV.box 0 (eG0 _ _);simp[ML]
 ·show HP ad x++blk v0 _ _=HP ad x++blk v0 _ _;simp[ML,rg]
 rintro⟨⟨k,v⟩,hkk,hG⟩;simp only at hkk hG;have hlen:(ML ad x k).length=(zAR ad x).length+k:=by simp[ML]
 refine Wsem.seq ttok mixed ?_;refine Wsem.seq ttok mixed ?_;refine⟨fun h0=>?_,fun h0=>?_⟩
 ·have h:k<x.bs.length:=by have h:=of_decide_eq_true h0;simp only at h;omega
  clear h0;have hB0:=hok.b.at (by omega);obtain⟨i1,l1,q3,q4⟩:=zKM ad x (blk v (ML ad x k).length (flR (ML ad x k) v.z)) (off:=8) (c := .lit (.slice (some ⟨ad.b.no,0,none⟩) x.bs.length ad.b.cap)) (by show some (slA ad.b x.bs.length)=_;unfold slA;rw[hB0]);refine Wsem.seqS (Wsem.block ?_);refine Wsem.seq ttok mixed ?_;refine Wsem.seq ttok mixed ?_;refine⟨i1,l1,_,q3,q4,?_⟩;refine⟨by omega,by show (k:Int)<_;omega,?_⟩;clear q3 q4;obtain⟨A,cap,z⟩:=v;have hun:=z2T ad x k;have e2:ML ad x k++[zZ3 ad k]=ML ad x (k+1):=z5C (zZ3 ad) k _;have e3:(rg (zD7 ad) x.ks.length++rg (zGY ad) k)++[zGY ad k]=rg (zD7 ad) x.ks.length++rg (zGY ad) (k+1):=z5C (zGY ad) k _;have hlen1:(ML ad x (k+1)).length=(ML ad x k).length+1:=by rw[<-e2,List.length_append];rfl
  have hpos:0<(ML ad x (k+1)).length:=by omega
  have ep:(0+k*15+5)=k*15+5:=by omega
  have en:(0+k*15+0)=k*15:=by omega
  have pb:pt ad.b.no (0+k*15+5)=zGY ad k:=by rw[ep];rfl
  have nb:pt ad.b.no (0+k*15+0)=zZ3 ad k:=by rw[en];rfl
  rcases hG with⟨h0,hA,hcap⟩|⟨h0,b,hA,hcap,hz⟩
  ·simp only at hA hcap;subst hA;subst hcap;rw[show blk (⟨none,0,z⟩:VA) (ML ad x k).length (flR (ML ad x k) z)=[] from z19 rfl];refine Wsem.regionTA (zCW ttok).two ttok mixed [0,1,2,3,4,5,7,8,9,10,11,12,6,13,14,15,16,17] [false,false,false,false,false,false,false,false,false,false,false,false,true] (by kernel_rfl) ?_;refine⟨by simp,by show (ML ad x k).length+1<=_;omega,zCV rfl,h0,rfl,fun b' cap' zs g1 g2=>?_⟩;refine⟨by simp;omega,zE3 (zGC _ (fun _=>rfl) _) (zGC _ (fun _=>rfl) _),zCV rfl,?_⟩;refine⟨by kernel_rfl,?_⟩;refine Wsem.of ttok mixed ?_;have h00:ML ad x k=[]:=List.length_eq_zero_iff.1 h0;have g1':1<=cap':=g1;have g2':zs.length=(cap'-1)*1:=g2;have hg:Grown (⟨some ⟨b',0,none⟩,cap',zs⟩:VA) (ML ad x (k+1)).length := .inr ⟨hpos,b',rfl,by simp only;omega,by simp only;omega⟩;refine⟨⟨(k+1,⟨some ⟨b',0,none⟩,cap',zs⟩),h,hg⟩,by show x.bs.length-(k+1)<x.bs.length-k;omega,⟨rfl,?_,rfl,svc (hcut h hb),trivial⟩,⟨rfl,trivial⟩,?_⟩
   ·show SV.box 0 (eG0 (.lit (.slice (some ⟨b',0,none⟩) (0+1) cap')) ((rg (zD7 ad) x.ks.length++rg (zGY ad) k)++[pt ad.b.no (0+k*15+5)]))=SV.box 0 (eG0 (.lit (.slice (some ⟨b',0,none⟩) (ML ad x (k+1)).length cap')) (rg (zD7 ad) x.ks.length++rg (zGY ad) (k+1)));rw[hlen1,pb,e3,h0]
   ·show (HP ad x++[])++[(b',HO.cells ([]++([pt ad.b.no (0+k*15+0)].flatMap AV.cells++zs)))]=HP ad x++blk (⟨some ⟨b',0,none⟩,cap',zs⟩:VA) (ML ad x (k+1)).length (flR (ML ad x (k+1)) zs);rw[zG0 hpos rfl,<-e2,h00,List.append_nil,nb];rfl
  ·simp only at hA hcap hz;subst hA;rw[show blk (⟨some ⟨b,0,none⟩,cap,z⟩:VA) (ML ad x k).length (flR (ML ad x k) z)=[(b,HO.cells (flR (ML ad x k) z))] from zG0 h0 rfl];refine Wsem.regionTA (zCW ttok).two ttok mixed [0,1,2,3,4,5,7,8,9,10,11,12,6,13,14,15,16,17] [false,false,false,false,false,false,false,false,false,false,false,false,true] (by kernel_rfl) ?_;refine⟨by simp,by show (ML ad x k).length+1<=_;omega,zCV rfl,(HP ad x).length,flR (ML ad x k) z,by show (HP ad x++[(b,HO.cells (flR (ML ad x k) z))])[(HP ad x).length]? = _;simp,hcap,by have e:(flR (ML ad x k) z).length=(ML ad x k).length*1+z.length:=zDW hun z;show 0+cap*1<=(flR (ML ad x k) z).length;omega,fun hgr b' cap' zs g1 g2=>?_,fun hin=>?_⟩
   ·refine⟨by simp;omega,zE3 (zGC _ (fun _=>rfl) _) (zGC _ (fun _=>rfl) _),zCV rfl,?_⟩;refine⟨by kernel_rfl,?_⟩;refine Wsem.of ttok mixed ?_;have g1':(ML ad x k).length+1<=cap':=g1;have g2':zs.length=(cap'-((ML ad x k).length+1))*1:=g2;have hg:Grown (⟨some ⟨b',0,none⟩,cap',zs⟩:VA) (ML ad x (k+1)).length := .inr ⟨hpos,b',rfl,by simp only;omega,by simp only;omega⟩;refine⟨⟨(k+1,⟨some ⟨b',0,none⟩,cap',zs⟩),h,hg⟩,by show x.bs.length-(k+1)<x.bs.length-k;omega,⟨rfl,?_,rfl,svc (hcut h hb),trivial⟩,⟨rfl,trivial⟩,?_⟩
    ·show SV.box 0 (eG0 (.lit (.slice (some ⟨b',0,none⟩) ((ML ad x k).length+1) cap')) ((rg (zD7 ad) x.ks.length++rg (zGY ad) k)++[pt ad.b.no (0+k*15+5)]))=SV.box 0 (eG0 (.lit (.slice (some ⟨b',0,none⟩) (ML ad x (k+1)).length cap')) (rg (zD7 ad) x.ks.length++rg (zGY ad) (k+1)));rw[hlen1,pb,e3]
    ·show (HP ad x++[(b,HO.cells (flR (ML ad x k) z))]).set (HP ad x).length (b',HO.cells (((flR (ML ad x k) z).drop 0).take ((ML ad x k).length*1)++([pt ad.b.no (0+k*15+0)].flatMap AV.cells++zs)))=HP ad x++blk (⟨some ⟨b',0,none⟩,cap',zs⟩:VA) (ML ad x (k+1)).length (flR (ML ad x (k+1)) zs);rw[zG0 hpos rfl,<-e2,zIA,nb,z4J rfl hun rfl]
   ·refine⟨by simp;omega,zE3 (zGC _ (fun _=>rfl) _) (zGC _ (fun _=>rfl) _),zCV rfl,?_⟩;refine⟨by kernel_rfl,?_⟩;refine Wsem.of ttok mixed ?_;have hin':(ML ad x k).length+1<=cap:=hin;have hg:Grown (⟨some ⟨b,0,none⟩,cap,z.drop 1⟩:VA) (ML ad x (k+1)).length := .inr ⟨hpos,b,rfl,by simp only;omega,by simp only[List.length_drop];omega⟩;refine⟨⟨(k+1,⟨some ⟨b,0,none⟩,cap,z.drop 1⟩),h,hg⟩,by show x.bs.length-(k+1)<x.bs.length-k;omega,⟨rfl,?_,rfl,svc (hcut h hb),trivial⟩,⟨rfl,trivial⟩,?_⟩
    ·show SV.box 0 (eG0 (.lit (.slice (some ⟨b,0,none⟩) ((ML ad x k).length+1) cap)) ((rg (zD7 ad) x.ks.length++rg (zGY ad) k)++[pt ad.b.no (0+k*15+5)]))=SV.box 0 (eG0 (.lit (.slice (some ⟨b,0,none⟩) (ML ad x (k+1)).length cap)) (rg (zD7 ad) x.ks.length++rg (zGY ad) (k+1)));rw[hlen1,pb,e3]
    ·show (HP ad x++[(b,HO.cells (flR (ML ad x k) z))]).set (HP ad x).length (b,HO.cells (setAt (flR (ML ad x k) z) (0+(ML ad x k).length*1) ([pt ad.b.no (0+k*15+0)].flatMap AV.cells)))=HP ad x++blk (⟨some ⟨b,0,none⟩,cap,z.drop 1⟩:VA) (ML ad x (k+1)).length (flR (ML ad x (k+1)) (z.drop 1));rw[zG0 hpos rfl,<-e2,zIA,nb,z5P rfl hun rfl (by omega)]
 ·have h:k=x.bs.length:=by have h:=of_decide_eq_false h0;simp only at h;omega
  clear h0;subst h;have e1:ML ad x x.bs.length=mNm ad x:=rfl;simp only[e1] at hG hlen⊢;refine Wsem.cut _ ?_ (zNU hok v (mNm ad x).length (blk v (mNm ad x).length (flR (mNm ad x) v.z)) _ ⟨v,hG,rfl,rfl⟩ ha hv);exact⟨⟨rfl,rfl,trivial⟩,trivial,rfl⟩
theorem zV4 {ad:Ad} {x:Nd} (hok:AdOk ad x) (hk:x.ks.length<=1000000) (hb:x.bs.length<=1000000) (ha:x.ls.length<=1000000) (hv:∀a∈x.ls,a.2.1.length<=1000000):CallsG Tryz.prog (fnv zEC) (HP ad x) [pt ad.b0 0] [] fun r _ h=>zNT ad x r h:=by
 obtain⟨i0,l0,q1,q2⟩:=zKM ad x [] (off:=7) (c:=slA ad.k x.ks.length) rfl;rw[List.append_nil] at q1;refine xC (first:=[]) (cap:=[]) ttok mixed Tryz.func91 rfl (by rfl) rfl (Nat.le_of_ble_eq_true rfl) (by kernel_rfl) ?_;refine Wsem.seq ttok mixed ?_;refine Wsem.seq ttok mixed ?_;refine Wsem.nilBox 3 0 rfl rfl ?_;refine Wsem.seq ttok mixed ?_;refine⟨i0,l0,_,q1,q2,?_⟩;refine⟨{k:Nat // k<=x.ks.length},fun k=>{vs:=[(0,.v (pt ad.b0 0)),(3,.box 0 (eG0 (.lit (.slice none 0 0)) (rg (zD7 ad) k.1))),(16,sv (x.ks.length:Nat)),(17,sv (k.1:Nat))],ow:=[(3,1,2)],hp:=HP ad x},
  fun k=>x.ks.length-k.1,⟨0,Nat.zero_le _⟩,⟨⟨rfl,rfl,rfl,rfl,trivial⟩,⟨trivial,trivial⟩,rfl⟩,?_⟩
 rintro⟨k,hkk⟩;refine⟨fun h=>?_,fun h=>?_⟩
 ·have h:k<x.ks.length:=by have h:=of_decide_eq_true h;simp only at h;omega
  have hK0:=hok.k.at (by omega);obtain⟨i1,l1,q3,q4⟩:=zKM ad x [] (off:=7) (c := .lit (.slice (some ⟨ad.k.no,0,none⟩) x.ks.length ad.k.cap)) (by show some (slA ad.k x.ks.length)=_;unfold slA;rw[hK0]);rw[List.append_nil] at q3;refine⟨i1,l1,_,q3,q4,?_⟩;refine⟨by omega,by show (k:Int)<_;omega,?_⟩;refine⟨by simp;omega,zGC _ (fun _=>rfl) _,zCV rfl,?_⟩;refine⟨by kernel_rfl,?_⟩;refine⟨⟨k+1,h⟩,by simp;omega,⟨rfl,?_,rfl,svc (hcut h hk),trivial⟩,⟨rfl,trivial⟩,rfl⟩;show SV.box 0 (eG0 (.lit (.slice none 0 0)) (rg (zD7 ad) k++[pt ad.k.no (0+k*10)]))=SV.box 0 (eG0 (.lit (.slice none 0 0)) (rg (zD7 ad) (k+1)));rw[<-rgS,Nat.zero_add];rfl
 ·have h:k=x.ks.length:=by have h:=of_decide_eq_false h;simp only at h;omega
  subst h;obtain⟨i2,l2,q5,q6⟩:=zKM ad x [] (off:=0) (c := .lit (.int .i64 x.f)) rfl;rw[List.append_nil] at q5;refine Wsem.seqS (Wsem.seq ttok mixed ?_);refine⟨i2,l2,_,q5,q6,?_⟩;refine Wsem.cond rfl (fun h5=>?_) (fun h5=>?_)
  ·have h5:x.f=5:=of_decide_eq_true h5;have hnm:zAR ad x=[pt ad.b0 2]:=by unfold zAR;rw[if_pos h5]
   refine Wsem.regionTA (zCW ttok).two ttok mixed [0,1,2,3,4,5,6,7,8] [false,false,false,false,false,false,true] (by kernel_rfl) ?_;refine⟨by simp,by simp,zCV rfl,rfl,rfl,fun b' cap' zs g1 g2=>?_⟩;refine⟨by kernel_rfl,?_⟩;have g1':1<=cap':=g1;have g2':zs.length=(cap'-1)*1:=g2;refine Wsem.cut _ ?_ (zEG hok ⟨some ⟨b',0,none⟩,cap',zs⟩ (.inr ⟨by rw[hnm];exact Nat.zero_lt_one,b',rfl,by rw[hnm];exact g1',by rw[hnm];simp only[List.length_cons,List.length_nil];omega⟩) hb hk ha hv);refine⟨⟨rfl,?_,trivial⟩,⟨rfl,trivial⟩,?_⟩
   ·show SV.box 0 (eG0 (.lit (.slice (some ⟨b',0,none⟩) (0+1) cap')) (rg (zD7 ad) x.ks.length))=SV.box 0 (eG0 (slA _ (zAR ad x).length) (rg (zD7 ad) x.ks.length));rw[hnm];rfl
   ·show HP ad x++[(b',HO.cells ([]++([pt ad.b0 (0+2)].flatMap AV.cells++zs)))]=HP ad x++blk _ (zAR ad x).length (flR (zAR ad x) zs);rw[hnm];rfl
  ·have h5:¬x.f=5:=of_decide_eq_false h5;have hnm:zAR ad x=[]:=by unfold zAR;rw[if_neg h5]
   refine Wsem.of ttok mixed ?_;refine Wsem.cut _ ?_ (zEG hok ⟨none,0,[]⟩ (.inl ⟨by rw[hnm];rfl,rfl,rfl⟩) hb hk ha hv);refine⟨⟨rfl,?_,trivial⟩,⟨rfl,trivial⟩,?_⟩
   ·rw[hnm];rfl
   ·show HP ad x=HP ad x++blk _ (zAR ad x).length _;rw[hnm];simp[blk]
theorem z1K {P:Program} {fv:Value} {hin:List (Nat×HO)} {args:List AV} {os:List Nat} {post:AV->Nat->List (Nat×HO)->Prop} (hc:CallsG P fv hin args os post):CallsG P fv hin args os fun r o h=>post r o h/\(keys h).Nodup:=by
 obtain⟨f,first,cap,he,hen,hcalls⟩:=hc;refine⟨f,first,cap,he,hen,fun F w vs h1 h2 h3 h4=>(hcalls F w vs h1 h2 h3 h4).mono fun e w' hpo=>?_⟩;obtain⟨v,r,o,hout,F',rfl,hpost,p2,p3,p4,p5,p6,p7,p8⟩:=hpo;exact⟨v,r,o,hout,F',rfl,⟨hpost,p7.nodup⟩,p2,p3,p4,p5,p6,p7,p8⟩
theorem zS7 {l:List AV} (h:∀a∈l,∃b off,a=pt b off):∀x∈l,∀a∈x.cells,a.isCell=true:=fun x hx a ha=>by
 obtain⟨b,off,rfl⟩:=h x hx;simp[AV.cells] at ha;subst ha;rfl
theorem zSX {ad:Ad} {x:Nd} (hok:AdOk ad x) (hk:x.ks.length<=1000000) (hb:x.bs.length<=1000000) (ha:x.ls.length<=1000000) (hv:∀a∈x.ls,a.2.1.length<=1000000):CallsG Tryz.prog (fnv zEC) (HP ad x) [pt ad.b0 0] [] fun r o h=>r = .sl (mG ad x)/\o=0/\h=HP ad x:=by
 refine CallsG.freeze (z1K ((zV4 hok hk hb ha hv).less0 (post':=fun r o h=>o=0/\zNT ad x r h) fun r o h hp=>⟨h,[],by simp,rfl,hp⟩)) ?_;rintro r o h ⟨⟨rfl,v,hG,rfl,rfl⟩,hnd⟩;have hun:Uni 1 (mNm ad x):=z2T ad x _;have hcell:∀a∈mNm ad x,∃b off,a=pt b off:=fun a ha=>by
  rcases List.mem_append.1 ha with h|h
  ·unfold zAR at h;split at h
   ·simp at h;exact⟨_,_,h⟩
   ·cases h
  ·obtain⟨j,_,rfl⟩:=List.mem_map.1 h;exact⟨_,_,rfl⟩
 have hf:=hG.frz hun (zS7 hcell) (blk v (mNm ad x).length (flR (mNm ad x) v.z)) fun y hy=>hy;refine⟨HP ad x,_,.sl (mG ad x),rfl,fun b hb hb2=>?_,?_,rfl,rfl,rfl,rfl⟩
 ·rw[show keys (HP ad x++blk v (mNm ad x).length (flR (mNm ad x) v.z))=keys (HP ad x)++keys (blk v (mNm ad x).length (flR (mNm ad x) v.z)) by simp[keys]] at hnd;exact (List.nodup_append.1 hnd).2.2 b hb2 b hb rfl
 ·refine .sls _ _ rfl (fun i a y ha hy=>?_) (fun y hy c2 hc2=>?_) (fun i a y j c1 c2 ha hy hxa hyb=>?_)
  ·cases i with
   | zero=>simp[mG] at ha hy;subst ha;subst hy;rfl
   | succ i =>
    have ha:(rg (mGA ad x) x.ls.length)[i]? = some a:=ha;have hy:(rg (mGA ad x) x.ls.length)[i]? = some y:=hy;rw[ha] at hy;injection hy with hy;subst hy;rfl
  ·have:∃p q,y = .agg [.sl p,.sl q]:=by
    rcases List.mem_cons.1 hy with rfl|hy
    ·exact⟨_,_,rfl⟩
    ·obtain⟨a,_,rfl⟩:=List.mem_map.1 hy;unfold mGA;split<;>exact⟨_,_,rfl⟩
   obtain⟨p,q,rfl⟩:=this;simp[AV.cells] at hc2;rcases hc2 with rfl|rfl<;>rfl
  ·cases i with
   | zero =>
    simp[mG] at ha hy;subst ha;subst hy
    match j with
    | 0=>simp[AV.cells] at hxa hyb;subst hxa;subst hyb;exact hf
    | 1=>simp[AV.cells] at hxa hyb;subst hxa;subst hyb;exact .refl _
    | j+2=>simp[AV.cells] at hxa
   | succ i =>
    have ha:(rg (mGA ad x) x.ls.length)[i]? = some a:=ha;have hy:(rg (mGA ad x) x.ls.length)[i]? = some y:=hy;rw[ha] at hy;injection hy with hy;subst hy;rw[hxa] at hyb;injection hyb with hyb;subst hyb;exact .refl _
inductive Pp where
 | kid (j:Nat)
 | bind (j:Nat)
 | alt (j:Nat)
inductive Pn where
 | own
 | bind (j:Nat)
 | var (j i:Nat)
def zEN (x:Nd):Pp->Option Cr
 | .kid j=>x.ks[j]?
 | .bind j=>(x.bs[j]?).map (·.2.2)
 | .alt j=>(x.ls[j]?).map (·.2.2)
def zIR (x:Nd) (p:Pp) (c:Cr):Nd:=match p with
 | .kid j=>{x with ks:=x.ks.set j c}
 | .bind j=>{x with bs:=x.bs.modify j fun b=>(b.1,b.2.1,c)}
 | .alt j=>{x with ls:=x.ls.modify j fun a=>(a.1,a.2.1,c)}
def z6U (x:Nd):Pn->Option ByteArray
 | .own=>if x.f=5 then some x.s else none
 | .bind j=>(x.bs[j]?).map (·.1)
 | .var j i=>(x.ls[j]?).bind (·.2.1[i]?)
def adP (ad:Ad):Pp->Nat×Nat
 | .kid j=>(ad.k.no,j*10)
 | .bind j=>(ad.b.no,j*15+5)
 | .alt j=>(ad.a.no,j*14+4)
def adN (ad:Ad):Pn->Nat×Nat
 | .own=>(ad.b0,2)
 | .bind j=>(ad.b.no,j*15)
 | .var j i=>((ad.vs[j]?.map VA.no).getD 0,i)
theorem zAO {α:Type} {l:List α} {j:Nat} {a:α} (h:l[j]? = some a) (f:α->α):l.modify j f=l.set j (f a):=by
 have hj:=(List.getElem?_eq_some_iff.1 h).1;apply List.ext_getElem?;intro i;rw[List.getElem?_modify,List.getElem?_set];by_cases hi:j=i
 ·subst hi;rw[h];simp[hj]
 ·simp[hi]
theorem zO6 {α:Type} (f:α->AV) (l:List α) (j:Nat) (a:α):(l.set j a).map f=(l.map f).set j (f a):=List.map_set
theorem zNM {α β γ:Type} (f:α->β->γ):∀(l:List α) (m:List β) (j:Nat) (a:α) (b:β),m[j]? = some b->List.zipWith f (l.set j a) m=(List.zipWith f l m).set j (f a b)
 | [],m,j,a,b,_=>by simp
 | x::l,[],j,a,b,h=>by simp at h
 | x::l,y::m,0,a,b,h=>by simp at h;subst h;simp
 | x::l,y::m,j+1,a,b,h=>by simp only[List.set_cons_succ,List.zipWith_cons_cons];rw[zNM f l m j a b (by simpa using h)]
theorem z1G {ad:Ad} {x:Nd} (hok:AdOk ad x) {p:Pp} {c:Cr} (hc:zEN x p=some c):∃(i:Nat) (l:List AV),(HP ad x)[i]? = some ((adP ad p).1,HO.cells l)/\(adP ad p).2+10<=l.length/\(l.drop (adP ad p).2).take 10=(eC c).cells /\
  ∀c',(HP ad x).set i ((adP ad p).1,HO.cells (setAt l (adP ad p).2 (eC c').cells))=HP ad (zIR x p c')/\AdOk ad (zIR x p c'):=by
 cases p with
 | kid j =>
  have hc:x.ks[j]? = some c:=hc;have hj:=(List.getElem?_eq_some_iff.1 hc).1;have hbk:∀l,blk ad.k x.ks.length l=[(ad.k.no,HO.cells l)]:=fun l=>zC6 hok.k (by omega);have hjc:j<(eCs x.ks).length:=by simp[eCs];exact hj
  have hx:(eCs x.ks)[j]=eC c:=by
   have:=z6M hj;rw[List.getElem?_eq_getElem hjc] at this;rw[List.getElem?_eq_getElem hj] at hc;injection hc with hc
   rw[hc] at this;exact Option.some.inj this
  refine⟨0,flR (eCs x.ks) ad.k.z,?_,?_,?_,fun c'=>⟨?_,?_⟩⟩
  ·unfold HP hM;rw[hbk];rfl
  ·exact zDF (zVI _) ad.k.z hjc 0 10 (by decide)
  ·have:=zFA (zVI x.ks) ad.k.z hjc 0 10 (by decide);rw[hx] at this;exact this
  ·unfold HP hM;have e1:=zVJ (zVI x.ks) ad.k.z hjc (eC c') rfl;show _=(blk ad.k (x.ks.set j c').length (flR (eCs (x.ks.set j c')) ad.k.z)++(blk ad.b x.bs.length (flR (xB x.bs) ad.b.z)++(blk ad.a x.ls.length (flR (xX x.ls ad.vs) ad.a.z)++hV x.ls ad.vs)))++[(ad.b0,HO.cells (zAG ad (zIR x (.kid j) c')))];have e2:zAG ad (zIR x (.kid j) c')=zAG ad x:=by simp[zAG,zIR]
   rw[e2,List.length_set,hbk,hbk];show ((ad.k.no,HO.cells (setAt (flR (eCs x.ks) ad.k.z) (j*10) (eC c').cells))::_)++_=_;rw[e1,eCs,eCs,zO6];rfl
  ·exact⟨by simpa[zIR] using hok.k,hok.b,hok.a,hok.len,hok.vs⟩
 | bind j =>
  have hc:(x.bs[j]?).map (·.2.2)=some c:=hc;cases hb:x.bs[j]? with
  | none=>rw[hb] at hc;cases hc
  | some b =>
   rw[hb] at hc;simp at hc;subst hc;have hj:=(List.getElem?_eq_some_iff.1 hb).1;have hbk:∀l,blk ad.b x.bs.length l=[(ad.b.no,HO.cells l)]:=fun l=>zC6 hok.b (by omega);have hjc:j<(xB x.bs).length:=by simp[xB];exact hj
   have hx:(xB x.bs)[j]=eBd b:=by
    have:=zTN hj;rw[List.getElem?_eq_getElem hjc] at this;rw[List.getElem?_eq_getElem hj] at hb;injection hb with hb
    rw[hb] at this;exact Option.some.inj this
   refine⟨(blk ad.k x.ks.length (flR (eCs x.ks) ad.k.z)).length,flR (xB x.bs) ad.b.z,?_,?_,?_,fun c'=>⟨?_,?_⟩⟩
   ·unfold HP hM;rw[hbk,List.append_assoc];simp[adP]
   ·exact zDF (zHQ _) ad.b.z hjc 5 10 (by decide)
   ·have:=zFA (zHQ x.bs) ad.b.z hjc 5 10 (by decide);rw[hx] at this;exact this
   ·have hm:zIR x (.bind j) c'={x with bs:=x.bs.set j (b.1,b.2.1,c')}:=by show ({x with bs:=x.bs.modify j _}:Nd)=_;rw[zAO hb]
    rw[hm];unfold HP hM;have e1:=zGW (zHQ x.bs) ad.b.z hjc 5 (eC c').cells (by show 5+10<=15;decide);rw[hx] at e1;have e2:zAG ad {x with bs:=x.bs.set j (b.1,b.2.1,c')} = zAG ad x:=by simp[zAG]
    rw[e2];simp only[List.length_set];rw[hbk,hbk];simp only[List.append_assoc,List.cons_append,List.nil_append,adP];rw[zIA,e1]
    congr 4
    rw[xB,xB,zO6];rfl
   ·have hm:zIR x (.bind j) c'={x with bs:=x.bs.set j (b.1,b.2.1,c')}:=by show ({x with bs:=x.bs.modify j _}:Nd)=_;rw[zAO hb]
    rw[hm];exact⟨hok.k,by simpa using hok.b,hok.a,hok.len,hok.vs⟩
 | alt j =>
  have hc:(x.ls[j]?).map (·.2.2)=some c:=hc;cases hb:x.ls[j]? with
  | none=>rw[hb] at hc;cases hc
  | some b =>
   rw[hb] at hc;simp at hc;subst hc;have hj:=(List.getElem?_eq_some_iff.1 hb).1;have hvl:j<ad.vs.length:=by rw[hok.len];exact hj
   have hv:=List.getElem?_eq_getElem hvl;have hbk:∀l,blk ad.a x.ls.length l=[(ad.a.no,HO.cells l)]:=fun l=>zC6 hok.a (by omega);have hg:=zG5 hb hv;have hjc:=(List.getElem?_eq_some_iff.1 hg).1;have hx:(xX x.ls ad.vs)[j]=zSD b ad.vs[j]:=by rw[List.getElem?_eq_getElem hjc] at hg;exact Option.some.inj hg
   refine⟨(blk ad.k x.ks.length (flR (eCs x.ks) ad.k.z)++blk ad.b x.bs.length (flR (xB x.bs) ad.b.z)).length,flR (xX x.ls ad.vs) ad.a.z,?_,?_,?_,fun c'=>⟨?_,?_⟩⟩
   ·unfold HP hM;rw[hbk];simp only[List.append_assoc,List.cons_append,List.nil_append];rw[<-List.append_assoc];simp[adP]
   ·exact zDF (zG8 _ _) ad.a.z hjc 4 10 (by decide)
   ·have:=zFA (zG8 x.ls ad.vs) ad.a.z hjc 4 10 (by decide);rw[hx] at this;exact this
   ·have hm:zIR x (.alt j) c'={x with ls:=x.ls.set j (b.1,b.2.1,c')}:=by show ({x with ls:=x.ls.modify j _}:Nd)=_;rw[zAO hb]
    rw[hm];unfold HP hM;have e1:=zGW (zG8 x.ls ad.vs) ad.a.z hjc 4 (eC c').cells (by show 4+10<=14;decide);rw[hx] at e1;have e2:zAG ad {x with ls:=x.ls.set j (b.1,b.2.1,c')} = zAG ad x:=by simp[zAG]
    have e3:hV (x.ls.set j (b.1,b.2.1,c')) ad.vs=hV x.ls ad.vs:=by
     unfold hV;rw[zNM _ _ _ _ _ _ hv]
     congr 1
     apply List.ext_getElem?;intro i;rw[List.getElem?_set];by_cases hi:j=i
     ·subst hi;have:(List.zipWith (fun (a:Alg) (v:VA)=>blk v a.2.1.length (flR (eSs a.2.1) v.z)) x.ls ad.vs)[j]? = some (blk ad.vs[j] b.2.1.length (flR (eSs b.2.1) ad.vs[j].z)):=by rw[List.getElem?_zipWith,hb,hv]
      have hl:=(List.getElem?_eq_some_iff.1 this).1;rw[if_pos rfl,if_pos hl,this]
     ·simp[hi]
    rw[e2];simp only[List.length_set];rw[hbk,hbk,e3];simp only[List.append_assoc,List.cons_append,List.nil_append,adP];rw[<-List.append_assoc,<-List.append_assoc (blk ad.k x.ks.length _),zIA,e1]
    congr 3
    unfold xX;rw[zNM _ _ _ _ _ _ hv];rfl
   ·have hm:zIR x (.alt j) c'={x with ls:=x.ls.set j (b.1,b.2.1,c')}:=by show ({x with ls:=x.ls.modify j _}:Nd)=_;rw[zAO hb]
    rw[hm];refine⟨hok.k,hok.b,by simpa using hok.a,by simpa using hok.len,fun i a v ha hv2=>?_⟩;have ha:(x.ls.set j (b.1,b.2.1,c'))[i]? = some a:=ha;rw[List.getElem?_set] at ha;by_cases hi:j=i
    ·subst hi;rw[if_pos rfl,if_pos hj] at ha;injection ha with ha;subst ha
     exact hok.vs j b v hb hv2
    ·rw[if_neg hi] at ha;exact hok.vs i a v ha hv2
def ptP (ad:Ad) (p:Pp):AV:=pt (adP ad p).1 (adP ad p).2
def ptN (ad:Ad) (p:Pn):AV:=pt (adN ad p).1 (adN ad p).2
def nvs (x:Nd) (j:Nat):Nat:=match x.ls[j]? with|some a=>a.2.1.length|none=>0
def z4T (x:Nd):List Pp:=(List.range x.ks.length).map .kid++(List.range x.bs.length).map .bind
def z5T (x:Nd):List Pn:=(if x.f=5 then [.own] else [])++(List.range x.bs.length).map .bind
def zDC (x:Nd):List (List Pn×List Pp):=(z5T x,z4T x)::(List.range x.ls.length).map fun j=>((List.range (nvs x j)).map (.var j),[.alt j])
def eGp (ad:Ad) (g:List Pn×List Pp):AV:=eG0 (.sl (g.1.map (ptN ad))) (g.2.map (ptP ad))
theorem z2J {ad:Ad} {x:Nd} (hok:AdOk ad x):mG ad x=(zDC x).map (eGp ad):=by
 unfold mG zDC;rw[List.map_cons,List.map_map]
 congr 1
 ·unfold eGp mNm mPt z5T z4T zAR;simp only[List.map_append,List.map_map]
  congr 2
  by_cases h5:x.f=5
  ·rw[if_pos h5,if_pos h5];rfl
  ·rw[if_neg h5,if_neg h5];rfl
 ·refine List.map_congr_left fun j hj=>?_;have hj:=List.mem_range.1 hj;have hvl:j<ad.vs.length:=by rw[hok.len];exact hj
  unfold mGA nvs;simp only[Function.comp];rw[List.getElem?_eq_getElem hj,List.getElem?_eq_getElem hvl];unfold eGp;simp only[List.map_map,List.map_cons,List.map_nil]
  congr 1
  have:rg (zPP ad.vs[j]) x.ls[j].2.1.length=(List.range x.ls[j].2.1.length).map (ptN ad ∘ Pn.var j):=by
   refine List.map_congr_left fun i _=>?_;simp only[Function.comp,ptN,adN,List.getElem?_eq_getElem hvl,Option.map_some,Option.getD_some,zPP]
  rw[this]
  rfl
theorem z0T {x:Nd}:∀g∈zDC x,∀p∈g.2,∃c,zEN x p=some c:=by
 intro g hg p hp;rcases List.mem_cons.1 hg with rfl|hg
 ·rcases List.mem_append.1 hp with h|h
  ·obtain⟨j,hj,rfl⟩:=List.mem_map.1 h;exact⟨_,List.getElem?_eq_getElem (List.mem_range.1 hj)⟩
  ·obtain⟨j,hj,rfl⟩:=List.mem_map.1 h;exact⟨_,by show (x.bs[j]?).map _=_;rw[List.getElem?_eq_getElem (List.mem_range.1 hj)];rfl⟩
 ·obtain⟨j,hj,rfl⟩:=List.mem_map.1 hg;simp at hp;subst hp;exact⟨_,by show (x.ls[j]?).map _=_;rw[List.getElem?_eq_getElem (List.mem_range.1 hj)];rfl⟩
theorem zG1 {α:Type} {l:List α} {j:Nat} {a:α} (h:l[j]? = some a):l.set j a=l:=by
 have hj:=(List.getElem?_eq_some_iff.1 h)
 obtain⟨h1,h2⟩:=hj;rw[<-h2];exact List.set_getElem_self h1
theorem zUL {x:Nd} {p:Pp} {c:Cr} (h:zEN x p=some c):zIR x p c=x:=by
 cases p with
 | kid j=>show ({x with ks:=x.ks.set j c}:Nd)=x;rw[zG1 h]
 | bind j =>
  have h:(x.bs[j]?).map (·.2.2)=some c:=h;cases hb:x.bs[j]? with
  | none=>rw[hb] at h;cases h
  | some b =>
   rw[hb] at h;simp at h;subst h;show ({x with bs:=x.bs.modify j _}:Nd)=x;rw[zAO hb,zG1 hb]
 | alt j =>
  have h:(x.ls[j]?).map (·.2.2)=some c:=h;cases hb:x.ls[j]? with
  | none=>rw[hb] at h;cases h
  | some b =>
   rw[hb] at h;simp at h;subst h;show ({x with ls:=x.ls.modify j _}:Nd)=x;rw[zAO hb,zG1 hb]
theorem zPV (h:List (Nat×HO)):xK (List.range h.length) h=some h:=by
 have:∀(n:Nat),n<=h.length->xK ((List.range h.length).drop (h.length-n)) h=some (h.drop (h.length-n)):=by
  intro n;induction n with
  | zero=>intro _;rw[Nat.sub_zero,List.drop_eq_nil_of_le (by simp),List.drop_eq_nil_of_le (Nat.le_refl _)];rfl
  | succ n ih =>
   intro hn;have hlt:h.length-(n+1)<h.length:=by omega
   have e1:(List.range h.length).drop (h.length-(n+1))=(h.length-(n+1))::(List.range h.length).drop (h.length-n):=by
    rw[List.drop_eq_getElem_cons (by simp;omega)];simp only[List.getElem_range]
    congr 2;omega
   have e2:h.drop (h.length-(n+1))=h[h.length-(n+1)]::h.drop (h.length-n):=by
    rw[List.drop_eq_getElem_cons hlt];congr 2;omega
   rw[e1,e2];simp only[xK,List.getElem?_eq_getElem hlt,ih (by omega)]
 have h0:=this h.length (Nat.le_refl _);simpa using h0
theorem zJY:∀(h:List (Nat×HO)) (k n:Nat),k+h.length<=n->wX (List.range n) k h=[]
 | [],_,_,_=>rfl
 | x::r,k,n,hk=>by
  have:(List.range n).any (Nat.beq k)=true:=List.any_eq_true.2 ⟨k,List.mem_range.2 (by simp at hk;omega),Nat.beq_refl k⟩;simp only[wX,this];exact zJY r (k+1) n (by simp at hk;omega)
theorem zN9 (h:List (Nat×HO)):yF (List.range h.length) h=[]:=zJY h 0 h.length (by omega)
def ClK {α:Type} (l:List α) (L:List AV) (r:AV) (o:Nat) (h:List (Nat×HO)):Prop:=o=0/\∃v:VA,VAok v l.length/\r=slA v l.length/\h=blk v l.length (flR L v.z)
theorem zGT {α:Type} {l:List α} {L:List AV} (hl:L.length=l.length) {r:AV} {o:Nat} {h:List (Nat×HO)} (hp:zE2 L r o h):ClK l L r o h:=by
 obtain⟨h1,v,h2,h3,h4⟩:=hp;rw[hl] at h2 h3 h4;exact⟨h1,v,h2,h3,h4⟩
theorem zNA {α:Type} (l:List α) {L:List AV} (hl:L.length=l.length):∃r o h,ClK l L r o h:=by
 cases L with
 | nil=>exact⟨_,_,_,zGT hl (zFI none 0 (.inl ⟨rfl,rfl⟩))⟩
 | cons a L=>exact⟨_,_,_,zGT hl (zF1 (l:=a::L) (by simp) (b:=0) (cap:=(a::L).length) (Nat.le_refl _) [])⟩
theorem z4I (c:Cr) (h:c.kids.length<=1000000):CallsG Tryz.prog (fnv 88) [] [.sl (c.e3 0)] [] (ClK c.kids (eCs c.kids)):=by
 rw[z0N];exact (zVO _ (zVI _) (by simpa[eCs] using h)).post fun r o h hp=>zGT (by simp[eCs]) hp
theorem z2V (c:Cr) (h:c.binds.length<=1000000):CallsG Tryz.prog (fnv 33) [] [.sl (c.e3 1)] [] (ClK c.binds (xB c.binds)):=by
 rw[z0G];exact (zWS _ (zHQ _) (by simpa[xB] using h)).post fun r o h hp=>zGT (by simp[xB]) hp
theorem z3D (c:Cr) (h:c.alts.length<=1000000):CallsG Tryz.prog (fnv 89) [] [.sl (c.e3 2)] [] (ClK c.alts (zA4 c.alts)):=by
 rw[z16];exact (zVF _ (zYA _) (by simpa[zA4] using h)).post fun r o h hp=>zGT (by simp[zA4]) hp
theorem z4R (l:List ByteArray) (h:l.length<=1000000):CallsG Tryz.prog (fnv 90) [] [.sl (eSs l)] [] (ClK l (eSs l)) :=
 (zWD _ (jU _) (by simpa[eSs] using h)).post fun r o h hp=>zGT (by simp[eSs]) hp
theorem zTA {l:List AV} {off m:Nat} (h:off+m<=l.length):setAt l off ((l.drop off).take m)=l:=by
 unfold setAt;have h1:((l.drop off).take m).length=m:=by simp;omega
 rw[h1,<-List.drop_drop,List.take_append_drop,List.take_append_drop]
def z6T (c:Cr) (r:AV) (o:Nat) (h:List (Nat×HO)):Prop:=o=0/\∃ad:Ad,AdOk ad (jW c)/\r = .agg (zAG ad (jW c))/\h=hM ad (jW c)
theorem z1A {bs:List Bdg} {z:List AV} {k:Nat} (h:k<bs.length):((flR (xB bs) z).drop (0+k*15+1)).take 4=(eTy bs[k].2.1).cells/\0+k*15+1+4<=(flR (xB bs) z).length:=by
 have hjc:k<(xB bs).length:=by simp[xB];exact h
 have hx:(xB bs)[k]=eBd bs[k]:=by
  have:=zTN h;rw[List.getElem?_eq_getElem hjc] at this;exact Option.some.inj this
 have h1:=zFA (zHQ bs) z hjc 1 4 (by decide);have h2:=zDF (zHQ bs) z hjc 1 4 (by decide);rw[hx] at h1;rw[Nat.zero_add];exact⟨h1,by omega⟩
theorem jH:∀(n:Nat) (h:List (Nat×HO)),wX [] n h=h
 | _,[]=>rfl
 | n,x::r=>by show x::wX [] (n+1) r=_;rw[jH]
theorem zGO (h:List (Nat×HO)):yF [] h=h:=jH 0 h
def eZ:AV := .agg [.lit (.int .i64 0),.lit (.int .i64 0),.lit (.string ⟨#[]⟩),.lit (.int .i64 0),.lit (.int .i64 0),.lit (.string ⟨#[]⟩),.sl [],.sl [],.sl [],.sl []]
def zI7 (c:Cr) (r:AV) (o:Nat) (h:List (Nat×HO)):Prop:=o=0/\∃ad:Ad,AdOk ad (jW c)/\r = .agg (zAG ad (jW c))/\h=HP ad (jW c)
theorem zW4 {x:Nd}:(zDC x).length=x.ls.length+1:=by simp[zDC]
theorem z1H {x:Nd} {g:List Pn×List Pp} (h:g∈zDC x):g.2.length<=x.ks.length+x.bs.length+1:=by
 rcases List.mem_cons.1 h with rfl|h
 ·simp[z4T]
 ·obtain⟨j,hj,rfl⟩:=List.mem_map.1 h;simp
theorem zYR (c:Cr) (ad:Ad) (x:Nd) (hok:AdOk ad x) (hk:x.ks.length<=100000) (hb:x.bs.length<=100000) (ha:x.ls.length<=100000) (hx:x=jW c)
  (ih:∀(p:Pp) (d:Cr),zEN x p=some d->zB Tryz.prog wE [eC d] (eC d)) :
  Wsem Tryz.prog (zBI (z6N (zBI (sn4 (bodyC Tryz.f52))))) (mkC {vs:=[(1,.v (pt ad.b0 0)),(2,.box 0 eZ),(63,.v (.sl ((zDC x).map (eGp ad)))),(64,sv ((zDC x).length:Nat)),(65,sv 0)],hp:=HP ad x})
   (fun c2=>Wsem Tryz.prog (zBI (zBI (sn4 (bodyC Tryz.f52)))) c2 (fun c2=>xA tt Tryz.f52.results.toList (fun r o h=>zI7 c r o h) (den c2)) (fun _ _=>False) (fun c2=>xA tt Tryz.f52.results.toList (fun r o h=>zI7 c r o h) (den c2))) (fun _ _=>False) (fun c2=>xA tt Tryz.f52.results.toList (fun r o h=>zI7 c r o h) (den c2)):=by
 have hgl := @zW4 x;refine Wsem.of ttok mixed ?_;refine⟨{k:Nat // k<=(zDC x).length},fun k=>{vs:=[(1,.v (pt ad.b0 0)),(2,.box 0 eZ),(63,.v (.sl ((zDC x).map (eGp ad)))),(64,sv ((zDC x).length:Nat)),(65,sv (k.1:Nat))],hp:=HP ad x},
  fun k=>(zDC x).length-k.1,⟨0,Nat.zero_le _⟩,⟨⟨rfl,rfl,rfl,rfl,rfl,trivial⟩,trivial,rfl⟩,?_⟩
 rintro⟨k,hkk⟩;refine⟨fun h=>?_,fun h=>?_⟩
 ·have h:k<(zDC x).length:=by have h:=of_decide_eq_true h;simp only at h;omega
  have hg:=List.getElem?_eq_getElem h;have hgm:=List.getElem_mem h;have hg2:=z1H hgm;have hg3:=z0T _ hgm;generalize (zDC x)[k]=G at hg hgm hg2 hg3;refine⟨_,by omega,by show ((zDC x).map (eGp ad))[(k:Int).toNat]? = _;rw[show (k:Int).toNat=k from rfl,List.getElem?_map,hg];rfl,rfl,?_⟩;refine⟨{j:Nat // j<=G.2.length},fun j=>{vs:=[(1,.v (pt ad.b0 0)),(2,.box 0 eZ),(63,.v (.sl ((zDC x).map (eGp ad)))),(64,sv ((zDC x).length:Nat)),(65,sv (k:Nat)),(70,.v (.sl (G.2.map (ptP ad)))),(71,sv (G.2.length:Nat)),(72,sv (j.1:Nat))],hp:=HP ad x},
   fun j=>G.2.length-j.1,⟨0,Nat.zero_le _⟩,⟨⟨rfl,rfl,rfl,rfl,rfl,rfl,?_,rfl,trivial⟩,trivial,rfl⟩,?_⟩
  ·show sv _=sv _;simp
  rintro⟨j,hjj⟩;refine⟨fun h2=>?_,fun h2=>?_⟩
  ·have h2:j<G.2.length:=by have h:=of_decide_eq_true h2;simp only at h;omega
   have hp:=List.getElem?_eq_getElem h2;obtain⟨d,hd⟩:=hg3 _ (List.getElem_mem h2);generalize G.2[j]=p at hp hd;obtain⟨i,l,r1,r2,r3,r4⟩:=z1G hok hd;refine⟨_,by omega,by show (G.2.map (ptP ad))[(j:Int).toNat]? = _;rw[show (j:Int).toNat=j from rfl,List.getElem?_map,hp];rfl,rfl,?_⟩;refine⟨i,l,r1,r2,?_⟩;refine .inr (.inl ⟨eC d,by rw[r3];exact ih p d hd,?_⟩);refine⟨rfl,i,l,r1,r2,?_⟩;refine⟨⟨j+1,h2⟩,by simp;omega,⟨rfl,rfl,rfl,rfl,rfl,rfl,rfl,svc (wrap_succ (k:=j) (by omega)),trivial⟩,trivial,?_⟩;show (HP ad x).set i ((adP ad p).1,HO.cells (setAt l (adP ad p).2 (eC d).cells))=HP ad x;rw[(r4 d).1,zUL hd]
  ·refine⟨⟨k+1,h⟩,by simp;omega,⟨rfl,rfl,rfl,rfl,svc (wrap_succ (k:=k) (by omega)),trivial⟩,trivial,rfl⟩
 ·refine Wsem.seq ttok mixed ?_;refine⟨(hM ad x).length,zAG ad x,by show (hM ad x++[(ad.b0,HO.cells (zAG ad x))])[(hM ad x).length]? = _;simp,by show 0+10<=10;decide,?_⟩;subst hx;refine Wsem.of ttok mixed ?_;exact⟨rfl,ad,hok,rfl,rfl⟩
theorem z0V (c:Cr) (ad:Ad) (x:Nd) (hok:AdOk ad x) (hk:x.ks.length<=100000) (hb:x.bs.length<=100000) (ha:x.ls.length<=100000) (hv:∀a∈x.ls,a.2.1.length<=1000000) (hx:x=jW c)
  (ih:∀(p:Pp) (d:Cr),zEN x p=some d->zB Tryz.prog wE [eC d] (eC d)) :
  Wsem Tryz.prog (zBI (sn4 (bodyC Tryz.f52))) (mkC {vs:=[(1,.box 0 (.agg (zAG ad x))),(2,.box 0 eZ)],hp:=hM ad x})
   (fun c2=>xA tt Tryz.f52.results.toList (fun r o h=>zI7 c r o h) (den c2)) (fun _ _=>False) (fun c2=>xA tt Tryz.f52.results.toList (fun r o h=>zI7 c r o h) (den c2)):=by
 refine Wsem.seqS (Wsem.seqS (Wsem.of ttok mixed ?_));refine .inr (.inr (.inr (.inr (.inr (.inr ⟨rfl,fun b => .inr ?_⟩)))));have hok1:AdOk {ad with b0:=b} x:=⟨hok.k,hok.b,hok.a,hok.len,hok.vs⟩
 refine⟨rfl,List.range (HP {ad with b0:=b} x).length,HP {ad with b0:=b} x,[],_,zPV _,List.nodup_range,rfl,zSX (ad:={ad with b0:=b}) hok1 (by omega) (by omega) (by omega) hv,?_⟩;rintro _ _ _ ⟨rfl,rfl,rfl⟩;have hl:=zYR c {ad with b0:=b} x hok1 hk hb ha hx ih;rw[<-z2J hok1] at hl;refine Wsem.cut _ ?_ hl;refine⟨⟨rfl,rfl,rfl,?_,rfl,trivial⟩,trivial,?_⟩
 ·show sv _=sv _;rw[z2J hok1];simp
 ·show yF (List.range _) (HP {ad with b0:=b} x)++HP {ad with b0:=b} x=_;rw[zN9,List.nil_append]
abbrev lA (ls:List Alg) (k:Nat) (vs:List VA):List AV:=xX (ls.take k) vs++zA4 (ls.drop k)
theorem z5W (ls:List Alg) (k:Nat) (vs:List VA):Uni 14 (lA ls k vs):=zE3 (zG8 _ _) (zYA _)
theorem z5J {ls:List Alg} {k:Nat} {vs:List VA} (hk:k<=ls.length) (hv:vs.length=k):(lA ls k vs).length=ls.length:=by
 simp[lA,xX,zA4,hv];omega
theorem z5R {ls:List Alg} {k:Nat} {vs:List VA} (hk:k<ls.length) (hv:vs.length=k):(lA ls k vs)[k]? = some (eAl ls[k]):=by
 have h1:(xX (ls.take k) vs).length=k:=by simp[xX,hv];omega
 rw[List.getElem?_append_right (by omega),h1,Nat.sub_self];unfold zA4;rw[List.getElem?_map,List.getElem?_drop,Nat.add_zero,List.getElem?_eq_getElem hk];rfl
theorem z2X {ls:List Alg} {k:Nat} {vs:List VA} {v:VA} (hk:k<ls.length) (hv:vs.length=k):(lA ls k vs).set k (zSD ls[k] v)=lA ls (k+1) (vs++[v]):=by
 have h1:(xX (ls.take k) vs).length=k:=by simp[xX,hv];omega
 unfold lA;rw[List.set_append_right _ _ (by omega),h1,Nat.sub_self,List.drop_eq_getElem_cons hk,List.take_succ_eq_append_getElem hk];simp only[zA4,List.map_cons,List.set_cons_zero];rw[xX,xX,List.zipWith_append (by simp[hv];omega)];simp[List.append_assoc]
theorem z4M {ls:List Alg} {k:Nat} {vs:List VA} {v:VA} (hk:k<ls.length) (hv:vs.length=k):hV (ls.take k) vs++blk v ls[k].2.1.length (flR (eSs ls[k].2.1) v.z)=hV (ls.take (k+1)) (vs++[v]):=by
 unfold hV;rw[List.take_succ_eq_append_getElem hk,List.zipWith_append (by simp[hv];omega)];simp
structure VsOk (ls:List Alg) (vs:List VA):Prop where
 vs:∀(i:Nat) (a:Alg) (v:VA),ls[i]? = some a->vs[i]? = some v->VAok v a.2.1.length
theorem VsOk.snoc {ls:List Alg} {k:Nat} {vs:List VA} {v:VA} (h:VsOk ls vs) (hk:k<ls.length) (hv:vs.length=k) (hok:VAok v ls[k].2.1.length):VsOk ls (vs++[v]):=⟨fun i a w ha hw=>by
 rcases Nat.lt_or_ge i vs.length with hi|hi
 ·rw[List.getElem?_append_left hi] at hw;exact h.vs i a w ha hw
 ·rw[List.getElem?_append_right hi] at hw;have:i=k:=by
   have:=(List.getElem?_eq_some_iff.1 hw).1;simp at this;omega
  subst this;rw[hv,Nat.sub_self] at hw;simp at hw;subst hw;rw[List.getElem?_eq_getElem hk] at ha;injection ha with ha;subst ha;exact hok⟩
theorem zYZ (c:Cr) (b0:Nat) (vk vb va:VA) (hvk:VAok vk c.kids.length) (hvb:VAok vb c.binds.length) (hva:VAok va c.alts.length) (hk:c.kids.length<=100000) (hb:c.binds.length<=100000) (ha:c.alts.length<=100000) (hv:∀a∈c.alts,a.2.1.length<=1000000)
  (ih:∀(p:Pp) (d:Cr),zEN (jW c) p=some d->zB Tryz.prog wE [eC d] (eC d)) (HB:List (Nat×HO)) (hHB:HB=blk vk c.kids.length (flR (eCs c.kids) vk.z)++blk vb c.binds.length (flR (xB c.binds) vb.z)) :
  Wsem Tryz.prog (sn4 (bodyC Tryz.f52)) (mkC {vs:=[(1,.box 0 (.agg (zAG ⟨b0,vk,vb,va,[]⟩ (jW c)))),(2,.box 0 eZ)],hp:=HB++blk va c.alts.length (flR (zA4 c.alts) va.z)})
   (fun c2=>xA tt Tryz.f52.results.toList (fun r o h=>zI7 c r o h) (den c2)) (fun _ _=>False) (fun c2=>xA tt Tryz.f52.results.toList (fun r o h=>zI7 c r o h) (den c2)):=by
 obtain⟨BX,hBX⟩:∃BX,BX=zAG ⟨b0,vk,vb,va,[]⟩ (jW c):=⟨_,rfl⟩
 refine Wsem.seqS (Wsem.seqS (Wsem.of ttok mixed ?_));refine Wsem.block (Wsem.loop (α:={p:Nat×List VA // p.1<=c.alts.length/\p.2.length=p.1/\VsOk c.alts p.2})
  (fun p=>{vs:=[(1,.box 0 (.agg (zAG ⟨b0,vk,vb,va,[]⟩ (jW c)))),(2,.box 0 eZ),(46,sv (c.alts.length:Nat)),(47,sv (p.1.1:Nat))],hp:=HB++(blk va c.alts.length (flR (lA c.alts p.1.1 p.1.2) va.z)++hV (c.alts.take p.1.1) p.1.2)})
  (fun p=>c.alts.length-p.1.1) ⟨(0,[]),Nat.zero_le _,rfl,⟨fun i a v _ h=>by simp at h⟩⟩ ⟨⟨rfl,rfl,rfl,rfl,trivial⟩,trivial,?_⟩ ?_)
 ·show HB++_=HB++_;simp[hV,lA,xX]
 rintro⟨⟨k,vs⟩,hkk,hvl,hvo⟩;simp only at hkk hvl hvo;refine Wsem.seq ttok mixed ?_;refine Wsem.seq ttok mixed ?_;refine⟨fun h0=>?_,fun h0=>?_⟩
 ·have h:k<c.alts.length:=by have h:=of_decide_eq_true h0;simp only at h;omega
  clear h0;obtain⟨b,hA,hcap⟩:=hva.pos (by omega);obtain⟨A,cap,z⟩:=va;simp only at hA hcap;subst hA;have hun:=z5W c.alts k vs;have hlen:=z5J (ls:=c.alts) hkk hvl;have hgl:=z5R h hvl;have hkl:k<(lA c.alts k vs).length:=by omega
  have hgx:(lA c.alts k vs)[k]=eAl c.alts[k]:=by rw[List.getElem?_eq_getElem hkl] at hgl;exact Option.some.inj hgl
  have hbk:∀l,blk (⟨some ⟨b,0,none⟩,cap,z⟩:VA) c.alts.length l=[(b,HO.cells l)]:=fun l=>zG0 (by omega) rfl;have hget:(HB++(blk (⟨some ⟨b,0,none⟩,cap,z⟩:VA) c.alts.length (flR (lA c.alts k vs) z)++hV (c.alts.take k) vs))[HB.length]? = some (b,HO.cells (flR (lA c.alts k vs) z)):=by rw[hbk];simp
  have hrd:=zID hun z hkl 3 (by decide);rw[hgx] at hrd;have hrd2:(flR (lA c.alts k vs) z)[0+k*14+3]? = some (.sl (eSs c.alts[k].2.1)):=by rw[Nat.zero_add];exact hrd
  have hvn:=hv _ (List.getElem_mem h);refine Wsem.seqS (Wsem.block ?_);refine Wsem.seq ttok mixed ?_;refine Wsem.regionT ttok mixed [0,1,2,3,4,5,6,7,8,9,10,11,12] [false,false,false,false,false,false,false,false,false,true] (by kernel_rfl) ?_;refine⟨by omega,by show (k:Int)<_;simp only[jW];omega,?_⟩;refine⟨HB.length,_,_,hget,hrd2,?_⟩;refine⟨[],[],_,rfl,List.nodup_nil,z4R c.alts[k].2.1 hvn,zNA _ (by simp[eSs]),?_⟩;rintro _ _ _ ⟨rfl,v,hv1,rfl,rfl⟩;have hfit:0+k*14+3+1<=(flR (lA c.alts k vs) z).length:=by have:=zDF hun z hkl 3 1 (by decide);omega
  have hget2:(yF [] (HB++(blk (⟨some ⟨b,0,none⟩,cap,z⟩:VA) c.alts.length (flR (lA c.alts k vs) z)++hV (c.alts.take k) vs))++blk v c.alts[k].2.1.length (flR (eSs c.alts[k].2.1) v.z))[HB.length]? = some (b,HO.cells (flR (lA c.alts k vs) z)):=by rw[hbk,zGO];simp
  refine⟨by omega,by show (k:Int)<_;simp only[jW];omega,?_⟩;refine⟨rfl,HB.length,_,hget2,hfit,?_⟩;refine⟨by kernel_rfl,?_⟩;refine Wsem.of ttok mixed ?_;refine⟨⟨(k+1,vs++[v]),h,by simp[hvl],hvo.snoc h hvl hv1⟩,by show c.alts.length-(k+1)<c.alts.length-k;omega,⟨rfl,rfl,rfl,svc (wrap_succ (k:=k) (by omega)),trivial⟩,trivial,?_⟩;show (yF [] (HB++(blk (⟨some ⟨b,0,none⟩,cap,z⟩:VA) c.alts.length (flR (lA c.alts k vs) z)++hV (c.alts.take k) vs))++blk v c.alts[k].2.1.length (flR (eSs c.alts[k].2.1) v.z)).set HB.length (b,HO.cells (setAt (flR (lA c.alts k vs) z) (0+k*14+3) [slA v c.alts[k].2.1.length]))=HB++(blk (⟨some ⟨b,0,none⟩,cap,z⟩:VA) c.alts.length (flR (lA c.alts (k+1) (vs++[v])) z)++hV (c.alts.take (k+1)) (vs++[v]));have hw:=zGW hun z hkl 3 [slA v c.alts[k].2.1.length] (Nat.le_of_ble_eq_true rfl);rw[hgx] at hw;rw[zGO,hbk,hbk,<-z4M h hvl,<-z2X h hvl,Nat.zero_add,hw];simp
  rfl
 ·have h:k=c.alts.length:=by have h:=of_decide_eq_false h0;simp only at h;omega
  clear h0;subst h;have hoks:AdOk (⟨b0,vk,vb,va,vs⟩:Ad) (jW c):=⟨hvk,hvb,hva,hvl,hvo.vs⟩
  refine Wsem.cut _ ?_ (z0V c ⟨b0,vk,vb,va,vs⟩ (jW c) hoks hk hb ha hv rfl ih);refine⟨⟨rfl,rfl,trivial⟩,trivial,?_⟩;show HB++(_++hV (c.alts.take c.alts.length) vs)=hM _ _;simp only[lA,List.take_length,List.drop_length,zA4,List.map_nil,List.append_nil];rw[hHB,List.append_assoc];rfl
theorem zX6 (c:Cr) (hN:c.isN=true) (ho:c.Ok) (hf:c.Few) (hl:c.kids.length+c.binds.length+c.alts.length<90000) (ht:TyS c.t) (hbt:∀b∈c.binds,TyS b.2.1) (ih:∀(p:Pp) (d:Cr),zEN (jW c) p=some d->zB Tryz.prog wE [eC d] (eC d)) :
  CallsG Tryz.prog (fnv wE) [] [eC c] [] fun r o h=>zI7 c r o h:=by
 refine xC (first:=[]) (cap:=[]) ttok mixed Tryz.func52 rfl (by rfl) rfl (Nat.le_of_ble_eq_true rfl) (by kernel_rfl) ?_;refine Wsem.seq ttok mixed ?_;refine Wsem.seq ttok mixed ?_;refine .inl ⟨_,zST ht,?_⟩;refine Wsem.seqS (Wsem.regionT ttok mixed [0,1,3,4,6,7,2,5,8,9,10,11,12,13,14] [false,false,false,false,false,false,true,true,true] (by kernel_rfl) ?_);refine⟨[],[],_,rfl,List.nodup_nil,z4I c (by omega),zNA _ (by simp[eCs]),?_⟩;rintro _ _ _ ⟨rfl,vk,hvk,rfl,rfl⟩;refine⟨[],[],_,rfl,List.nodup_nil,z2V c (by omega),zNA _ (by simp[xB]),?_⟩;rintro _ _ _ ⟨rfl,vb,hvb,rfl,rfl⟩;refine⟨[],[],_,rfl,List.nodup_nil,z3D c (by omega),zNA _ (by simp[zA4]),?_⟩;rintro _ _ _ ⟨rfl,va,hva,rfl,rfl⟩;refine⟨by kernel_rfl,?_⟩;have lb:(c.e3 1).length=c.binds.length:=z6S c;obtain⟨x,hx⟩:∃x,x=jW c:=⟨_,rfl⟩
 obtain⟨ad0,had⟩:∃ad0:Ad,ad0=⟨0,vk,vb,va,[]⟩:=⟨_,rfl⟩
 obtain⟨HK,hHK⟩:∃HK,HK=blk vk c.kids.length (flR (eCs c.kids) vk.z):=⟨_,rfl⟩
 obtain⟨HA,hHA⟩:∃HA,HA=blk va c.alts.length (flR (zA4 c.alts) va.z):=⟨_,rfl⟩
 refine Wsem.cut {vs:=[(1,.box 0 (.agg (zAG ad0 x))),(2,.box 0 eZ)],hp:=HK++(blk vb c.binds.length (flR (xB c.binds) vb.z)++HA)} ?_ ?_
 ·subst hx;subst had;subst hHK;subst hHA;refine⟨⟨rfl,rfl,trivial⟩,trivial,?_⟩;show yF [] (yF [] (_++_)++_)++_=_;simp only[zGO];simp only[List.nil_append,List.append_assoc]
 refine Wsem.seq ttok mixed ?_;refine⟨{k:Nat // k<=c.binds.length},fun k=>{vs:=[(1,.box 0 (.agg (zAG ad0 x))),(2,.box 0 eZ),(27,sv (c.binds.length:Nat)),(28,sv (k.1:Nat))],hp:=HK++(blk vb c.binds.length (flR (xB c.binds) vb.z)++HA)},
  fun k=>c.binds.length-k.1,⟨0,Nat.zero_le _⟩,⟨⟨rfl,rfl,?_,rfl,trivial⟩,trivial,rfl⟩,?_⟩
 ·subst hx;rfl
 rintro⟨k,hkk⟩;refine⟨fun h=>?_,fun h=>?_⟩
 ·have h:k<c.binds.length:=by have h:=of_decide_eq_true h;simp only at h;omega
  obtain⟨b,hA,hcap⟩:=hvb.pos (by omega);obtain⟨A,cap,z⟩:=vb;simp only at hA;subst hA;have hbk:blk (⟨some ⟨b,0,none⟩,cap,z⟩:VA) c.binds.length (flR (xB c.binds) z)=[(b,HO.cells (flR (xB c.binds) z))]:=zG0 (by omega) rfl;obtain⟨t1,t2⟩:=z1A (bs:=c.binds) (z:=z) h;have hty:zB Tryz.prog zIO [.agg (((flR (xB c.binds) z).drop (0+k*15+1)).take 4)] (eTy c.binds[k].2.1):=by rw[t1];exact zST (hbt _ (List.getElem_mem h))
  have hget:(HK++(blk (⟨some ⟨b,0,none⟩,cap,z⟩:VA) c.binds.length (flR (xB c.binds) z)++HA))[HK.length]? = some (b,HO.cells (flR (xB c.binds) z)):=by rw[hbk];simp
  subst hx;subst had;refine⟨by omega,by show (k:Int)<_;simp only[jW];omega,?_⟩;refine⟨HK.length,_,hget,t2,?_⟩;refine .inr (.inl ⟨_,hty,?_⟩);refine⟨by omega,by show (k:Int)<_;simp only[jW];omega,?_⟩;refine⟨rfl,HK.length,_,hget,t2,?_⟩;refine⟨by kernel_rfl,?_⟩;refine⟨⟨k+1,h⟩,by simp;omega,⟨rfl,rfl,rfl,svc (wrap_succ (k:=k) (by omega)),trivial⟩,trivial,?_⟩;show (HK++(blk (⟨some ⟨b,0,none⟩,cap,z⟩:VA) c.binds.length (flR (xB c.binds) z)++HA)).set HK.length (b,HO.cells (setAt (flR (xB c.binds) z) (0+k*15+1) (eTy c.binds[k].2.1).cells))=_;rw[<-t1,zTA t2,hbk];simp
 ·have h:k=c.binds.length:=by have h:=of_decide_eq_false h;simp only at h;omega
  subst h;subst hx;subst had;subst hHK;subst hHA;refine Wsem.cut _ ?_ (zYZ c 0 vk vb va hvk hvb hva (by omega) (by omega) (by omega) (fun a ha=>by have:=(hf.alt ha).2;omega) ih _ rfl);refine⟨⟨rfl,rfl,trivial⟩,trivial,?_⟩;show blk vk _ _++(blk vb _ _++blk va _ _)=(blk vk _ _++blk vb _ _)++blk va _ _;rw[List.append_assoc]
theorem zIG {v:VA} {n sz:Nat} {M L:List AV} {h:List (Nat×HO)} (hv:VAok v n) (hM:M.length=n) (hL:L.length=n) (uM:Uni sz M) (uL:Uni sz L) (hcl:∀x∈L,∀c∈x.cells,c.isCell=true) (hin:∀e∈blk v n (flR M v.z),e∈h)
  (he:∀(i:Nat) x y,M[i]? = some x->L[i]? = some y->∀(j:Nat) c c',x.cells[j]? = some c->y.cells[j]? = some c'->Frz h c c'):Frz h (slA v n) (.sl L):=by
 rcases Nat.eq_zero_or_pos n with h0|h0
 ·subst h0;have:L=[]:=List.length_eq_zero_iff.1 hL;subst this;exact (hv.n0 rfl).frz
 ·obtain⟨b,hb,hcap⟩:=hv.pos h0;have hbl:=zC6 (l:=flR M v.z) hv h0;have hno:v.no=b:=by simp[VA.no,hb]
  rw[hno] at hbl;unfold slA;rw[hb];refine .sl b 0 n v.cap sz (flR M v.z) L (hin _ (by rw[hbl];simp)) hL hcap uL hcl (by rw[zDW uM,hM];omega) fun i x j c c' hx hj hc'=>?_;have hi:=(List.getElem?_eq_some_iff.1 hx).1;have hiM:i<M.length:=by omega
  have hj1:=(List.getElem?_eq_some_iff.1 hj).1;rw[uL x (List.mem_of_getElem? hx)] at hj1;rw[Nat.zero_add,zID uM v.z hiM j hj1] at hc';exact he i _ x (List.getElem?_eq_getElem hiM) hx j _ _ hc' hj
theorem zJE {h:List (Nat×HO)} {M:List AV}:∀(i:Nat) x y,M[i]? = some x->M[i]? = some y->∀(j:Nat) c c',x.cells[j]? = some c->y.cells[j]? = some c'->Frz h c c':=fun i x y hx hy j c c' hc hc'=>by
 rw[hx] at hy;injection hy with hy;subst hy;rw[hc] at hc';injection hc' with hc';subst hc';exact .refl _
theorem cellC {l:List Cr}:∀x∈eCs l,∀c∈x.cells,c.isCell=true:=fun x hx c hc=>by
 obtain⟨y,_,rfl⟩:=List.mem_map.1 hx;simp only[eC,AV.cells,List.mem_cons,List.not_mem_nil,or_false] at hc;rcases hc with rfl|rfl|rfl|rfl|rfl|rfl|rfl|rfl|rfl|rfl<;>rfl
theorem z6F {l:List Bdg}:∀x∈xB l,∀c∈x.cells,c.isCell=true:=fun x hx c hc=>by
 obtain⟨y,_,rfl⟩:=List.mem_map.1 hx;simp only[eBd,AV.cells,List.mem_cons,List.not_mem_nil,or_false] at hc;rcases hc with rfl|rfl|rfl|rfl|rfl|rfl|rfl|rfl|rfl|rfl|rfl|rfl|rfl|rfl|rfl<;>rfl
theorem z5G {l:List Alg}:∀x∈zA4 l,∀c∈x.cells,c.isCell=true:=fun x hx c hc=>by
 obtain⟨y,_,rfl⟩:=List.mem_map.1 hx;simp only[eAl,AV.cells,List.mem_cons,List.not_mem_nil,or_false] at hc;rcases hc with rfl|rfl|rfl|rfl|rfl|rfl|rfl|rfl|rfl|rfl|rfl|rfl|rfl|rfl<;>rfl
theorem cellS {l:List ByteArray}:∀x∈eSs l,∀c∈x.cells,c.isCell=true:=fun x hx c hc=>by
 obtain⟨y,_,rfl⟩:=List.mem_map.1 hx;simp[AV.cells] at hc;subst hc;rfl
theorem z5M {ls:List Alg} {vs:List VA} {j:Nat} {a:Alg} {v:VA} (ha:ls[j]? = some a) (hv:vs[j]? = some v):∀e∈blk v a.2.1.length (flR (eSs a.2.1) v.z),e∈hV ls vs:=fun e he=>by
 unfold hV;refine List.mem_flatten.2 ⟨_,?_,he⟩;exact List.mem_of_getElem? (i:=j) (by rw[List.getElem?_zipWith,ha,hv])
theorem AdOk.frz {ad:Ad} {x:Nd} (hok:AdOk ad x) {h:List (Nat×HO)} (hin:∀e∈hM ad x,e∈h):Frz h (.agg (zAG ad x)) (eC x.cr):=by
 obtain⟨e0,e1,e2⟩:=z5B x;have h0:Frz h (slA ad.k x.ks.length) (.sl (eCs x.ks)):=zIG hok.k (by simp[eCs]) (by simp[eCs]) (zVI _) (zVI _) cellC (fun e he=>hin e (by unfold hM;simp only[List.mem_append];exact .inl he)) zJE;have h1:Frz h (slA ad.b x.bs.length) (.sl (xB x.bs)):=zIG hok.b (by simp[xB]) (by simp[xB]) (zHQ _) (zHQ _) z6F (fun e he=>hin e (by unfold hM;simp only[List.mem_append];exact .inr (.inl he))) zJE;have h2:Frz h (slA ad.a x.ls.length) (.sl (zA4 x.ls)):=by
  refine zIG (M:=xX x.ls ad.vs) (L:=zA4 x.ls) hok.a (by simp[xX,hok.len]) (by simp[zA4]) (zG8 _ _) (zYA _) z5G (fun e he=>hin e (by unfold hM;simp only[List.mem_append];exact .inr (.inr (.inl he)))) ?_;intro i p q hp hq j c c' hc hc';have hi:=(List.getElem?_eq_some_iff.1 hq).1;have hil:i<x.ls.length:=by simpa[zA4] using hi
  have hiv:i<ad.vs.length:=by rw[hok.len];exact hil
  have ha:=List.getElem?_eq_getElem hil;have hv:=List.getElem?_eq_getElem hiv;have hg:=zG5 ha hv;rw[hp] at hg;injection hg with hg;subst hg
  rw[z2N hil] at hq;injection hq with hq;subst hq
  have hvok:=hok.vs i _ _ ha hv;have hs:Frz h (slA ad.vs[i] x.ls[i].2.1.length) (.sl (eSs x.ls[i].2.1)):=zIG hvok (by simp[eSs]) (by simp[eSs]) (jU _) (jU _) cellS (fun e he=>hin e (by unfold hM;simp only[List.mem_append];exact .inr (.inr (.inr (z5M ha hv e he))))) zJE;simp only[zSD,eAl,AV.cells] at hc hc'
  match j with
  | 3=>simp at hc hc';subst hc;subst hc';exact hs
  | 0|1|2|4|5|6|7|8|9|10|11|12|13=>simp at hc hc';subst hc;subst hc';exact .refl _
  | j+14=>simp at hc
 unfold eC;rw[e0,e1,e2];refine .agg _ _ rfl (fun c hc=>?_) fun j c c' hc hc'=>?_
 ·simp only[List.mem_cons,List.not_mem_nil,or_false] at hc;rcases hc with rfl|rfl|rfl|rfl|rfl|rfl|rfl|rfl|rfl|rfl<;>rfl
 ·simp only[zAG] at hc
  match j with
  | 7=>simp at hc hc';subst hc;subst hc';exact h0
  | 8=>simp at hc hc';subst hc;subst hc';exact h1
  | 9=>simp at hc hc';subst hc;subst hc';exact h2
  | 0|1|2|3|4|5|6=>simp at hc hc';subst hc;subst hc';exact .refl _
  | j+10=>simp at hc
theorem z02 {c:Cr} {os:List Nat} {fv:Value} {args:List AV} (h:CallsG Tryz.prog fv [] args os fun r o h=>zI7 c r o h):CallsG Tryz.prog fv [] args os fun r o h=>z6T c r o h :=
 h.less0 fun r o h hp=>by
  obtain⟨rfl,ad,h1,rfl,rfl⟩:=hp;exact⟨hM ad (jW c),_,rfl,rfl,ad,h1,rfl,rfl⟩
def Cr.TyA:Cr->Prop
 | .nil=>True
 | .node _ _ _ t g=>TyS t/\g.TyA
 | .kid p r=>p.TyA/\r.TyA
 | .bind _ t p r=>TyS t/\p.TyA/\r.TyA
 | .alt _ _ _ _ p r=>p.TyA/\r.TyA
theorem Cr.TyA.kid {c p:Cr} (h:c.TyA) (hp:p∈c.kids):p.TyA:=by
 induction c with
 | nil=>cases hp
 | node f n s t g ih=>exact ih h.2 hp
 | kid q r _ ih=>rcases List.mem_cons.1 hp with rfl|hp;exact h.1;exact ih h.2 hp
 | bind x t q r _ ih=>exact ih h.2.2 hp
 | alt f n s vs q r _ ih=>exact ih h.2 hp
theorem Cr.TyA.bind {c:Cr} {b:Bdg} (h:c.TyA) (hp:b∈c.binds):TyS b.2.1/\b.2.2.TyA:=by
 induction c with
 | nil=>cases hp
 | node f n s t g ih=>exact ih h.2 hp
 | kid q r _ ih=>exact ih h.2 hp
 | bind x t q r _ ih=>rcases List.mem_cons.1 hp with rfl|hp;exact⟨h.1,h.2.1⟩;exact ih h.2.2 hp
 | alt f n s vs q r _ ih=>exact ih h.2 hp
theorem Cr.TyA.alt {c:Cr} {a:Alg} (h:c.TyA) (hp:a∈c.alts):a.2.2.TyA:=by
 induction c with
 | nil=>cases hp
 | node f n s t g ih=>exact ih h.2 hp
 | kid q r _ ih=>exact ih h.2 hp
 | bind x t q r _ ih=>exact ih h.2.2 hp
 | alt f n s vs q r _ ih=>rcases List.mem_cons.1 hp with rfl|hp;exact h.1;exact ih h.2 hp
theorem Cr.TyA.node {c:Cr} (h:c.TyA) (hn:c.isN=true):TyS c.t:=by cases c<;>first|(cases hn;done)|exact h.1
structure Gd (c:Cr):Prop where
 n:c.isN=true
 ok:c.Ok
 few:c.Few
 ty:c.TyA
theorem Gd.part {c d:Cr} (h:Gd c) {p:Pp} (hd:zEN (jW c) p=some d):Gd d/\d.sz<c.sz:=by
 cases p with
 | kid j =>
  have hm:d∈c.kids:=List.mem_of_getElem? hd;have:=zYX hm;rw[h.n] at this;exact⟨⟨(h.ok.kid hm).1,(h.ok.kid hm).2,h.few.kid hm,h.ty.kid hm⟩,by simp at this;omega⟩
 | bind j =>
  have hd:(c.binds[j]?).map (·.2.2)=some d:=hd;cases hb:c.binds[j]? with
  | none=>rw[hb] at hd;cases hd
  | some b =>
   rw[hb] at hd;simp at hd;subst hd;have hm:=List.mem_of_getElem? hb;have:=z1M hm;rw[h.n] at this;exact⟨⟨(h.ok.bind hm).1,(h.ok.bind hm).2,h.few.bind hm,(h.ty.bind hm).2⟩,by simp at this;omega⟩
 | alt j =>
  have hd:(c.alts[j]?).map (·.2.2)=some d:=hd;cases hb:c.alts[j]? with
  | none=>rw[hb] at hd;cases hd
  | some b =>
   rw[hb] at hd;simp at hd;subst hd;have hm:=List.mem_of_getElem? hb;have:=z4B hm;rw[h.n] at this;exact⟨⟨(h.ok.alt hm).1,(h.ok.alt hm).2.1,(h.few.alt hm).1,h.ty.alt hm⟩,by simp at this;omega⟩
theorem zOX {c:Cr} (h:Gd c) (hc:CallsG Tryz.prog (fnv wE) [] [eC c] [] fun r o h=>zI7 c r o h):zB Tryz.prog wE [eC c] (eC c):=by
 refine (z02 hc).pure fun r o hp hpo=>?_;obtain⟨rfl,ad,h1,rfl,rfl⟩:=hpo;have:=h1.frz (h:=hM ad (jW c)) fun e he=>he;rw[z5H h.n h.ok] at this;exact⟨this,rfl⟩
deriving instance DecidableEq for Pp
deriving instance DecidableEq for Pn
abbrev str (s:ByteArray):AV := .lit (.string s)
end Go.Proofs.YtebmimnglcdogaaGreatDoor.Ck
