/- Names given anew. Plain. No condition. -/
import Derived.Test.YtdmbahepaglcbaaGreatDoorG
set_option linter.unusedSimpArgs false
set_option linter.unusedVariables false
namespace Go.Proofs.YtdmbahepaglcbaaGreatDoor
open Go Fp
set_option maxRecDepth 10000
set_option maxHeartbeats 2000000
set_option linter.unusedVariables false
set_option linter.unusedSimpArgs false
set_option maxHeartbeats 4000000
set_option maxHeartbeats 8000000
def Cr.Few:Cr->Prop
 | .nil=>True
 | .node _ _ _ _ g=>g.Few
 | .kid p r=>p.Few/\r.Few
 | .bind _ _ p r=>p.Few/\r.Few
 | .alt _ _ _ vs p r=>vs.length<=10000/\p.Few/\r.Few
theorem Cr.Few.kid {c p:Cr} (h:c.Few) (hp:p∈c.kids):p.Few:=by
 induction c with
 | nil=>cases hp
 | node f n s t g ih=>exact ih h hp
 | kid q r _ ih=>rcases List.mem_cons.1 hp with rfl|hp;exact h.1;exact ih h.2 hp
 | bind x t q r _ ih=>exact ih h.2 hp
 | alt f n s vs q r _ ih=>exact ih h.2.2 hp
theorem Cr.Few.bind {c:Cr} {b:Bdg} (h:c.Few) (hp:b∈c.binds):b.2.2.Few:=by
 induction c with
 | nil=>cases hp
 | node f n s t g ih=>exact ih h hp
 | kid q r _ ih=>exact ih h.2 hp
 | bind x t q r _ ih=>rcases List.mem_cons.1 hp with rfl|hp;exact h.1;exact ih h.2 hp
 | alt f n s vs q r _ ih=>exact ih h.2.2 hp
theorem Cr.Few.alt {c:Cr} {a:Alg} (h:c.Few) (hp:a∈c.alts):a.2.2.Few/\a.2.1.length<=10000:=by
 induction c with
 | nil=>cases hp
 | node f n s t g ih=>exact ih h hp
 | kid q r _ ih=>exact ih h.2 hp
 | bind x t q r _ ih=>exact ih h.2 hp
 | alt f n s vs q r _ ih=>rcases List.mem_cons.1 hp with rfl|hp;exact⟨h.2.1,h.1⟩;exact ih h.2.2 hp
theorem zHG {c:Cr} (h:c.isN=true):0<c.sz:=by cases c<;>first|(cases h;done)|(simp[Cr.sz];omega)
theorem zZE (g:Cr):g.Ok->g.kids.length+g.binds.length+g.alts.length<=g.sz:=by
 induction g with
 | nil=>intro _;simp[Cr.kids,Cr.binds,Cr.alts]
 | node f n s t g ih=>intro ho;have:=ih (zXP ho).2;simp only[Cr.kids,Cr.binds,Cr.alts,Cr.sz];omega
 | kid p r _ ih=>intro ho;have:=ih ho.2.2.2;have:=zHG ho.1;simp only[Cr.kids,Cr.binds,Cr.alts,Cr.sz,List.length_cons];omega
 | bind x t p r _ ih=>intro ho;have:=ih ho.2.2.2.2;have:=zHG ho.1;simp only[Cr.kids,Cr.binds,Cr.alts,Cr.sz,List.length_cons];omega
 | alt f n s vs p r _ ih=>intro ho;have:=ih ho.2.2.2.2.2.2;have:=zHG ho.1;simp only[Cr.kids,Cr.binds,Cr.alts,Cr.sz,List.length_cons];omega
set_option maxHeartbeats 16000000
structure TyS (t:Tp):Prop where
 sub:xM t []
theorem zMM {t:Tp} (h:TyS t):zC Tryz.prog zI4 [eTy t] (eTy t):=by
 have hc:xM t []:=h.sub;unfold xM at hc;rw[zL2] at hc;refine zB ttok mixed Tryz.func57 rfl (by rfl) (Nat.le_of_ble_eq_true rfl) (by kernel_rfl) ?_;refine .inl ⟨_,hc,?_⟩;exact rfl
abbrev pt (b off:Nat):AV := .lit (.pointer (some ⟨b,off,none⟩))
def zAG (ad:Ad) (x:Nd):List AV:=if x.f=5 then [pt ad.b0 2] else []
def zXE (ad:Ad) (j:Nat):AV:=pt ad.b.no (j*15)
def zDF (ad:Ad) (j:Nat):AV:=pt ad.k.no (j*10)
def zF5 (ad:Ad) (j:Nat):AV:=pt ad.b.no (j*15+5)
def zOY (v:VA) (i:Nat):AV:=pt v.no i
abbrev rg (F:Nat->AV) (n:Nat):List AV:=(List.range n).map F
def mGA (ad:Ad) (x:Nd) (j:Nat):AV:=match x.ls[j]?,ad.vs[j]? with
 | some a,some v => .agg [.sl (rg (zOY v) a.2.1.length),.sl [pt ad.a.no (j*14+4)]]
 | _,_ => .agg [.sl [],.sl []]
def mNm (ad:Ad) (x:Nd):List AV:=zAG ad x++rg (zXE ad) x.bs.length
def mPt (ad:Ad) (x:Nd):List AV:=rg (zDF ad) x.ks.length++rg (zF5 ad) x.bs.length
def mG (ad:Ad) (x:Nd):List AV:=eG0 (.sl (mNm ad x)) (mPt ad x)::rg (mGA ad x) x.ls.length
theorem rgS (F:Nat->AV) (k:Nat):rg F k++[F k]=rg F (k+1):=by simp[rg,List.range_succ]
theorem z1W (F:Nat->AV) (k:Nat) (r:List AV):(r++rg F k)++[F k]=r++rg F (k+1):=by rw[List.append_assoc,rgS]
theorem zEG (F:Nat->AV) (hF:∀j,(F j).cells.length=1) (k:Nat):Uni 1 (rg F k):=z07 F hF _
theorem zYJ (ad:Ad) (x:Nd):(zAG ad x).length<=1:=by unfold zAG;split<;>simp
theorem z16 (ad:Ad) (x:Nd):Uni 1 (zAG ad x):=by unfold zAG;split;exact zFR rfl;exact zXS 1
theorem z0O {α:Type} (l1 l2:List α) (x:α) (tl:List α):((l1++x::l2)++tl)[l1.length]? = some x:=by simp
theorem zIV (ad:Ad) (x:Nd) (tl:List (Nat×HO)) {off:Nat} {c:AV} (hc:(jT ad x)[off]? = some c):∃(i:Nat) (l:List AV),(HP ad x++tl)[i]? = some (ad.b0,HO.cells l)/\l[off]? = some c :=
 ⟨(hM ad x).length,_,z0O _ [] _ tl,hc⟩
theorem zF3 {ls:List Alg} {vs:List VA} {j:Nat} {a:Alg} {v:VA} (ha:ls[j]? = some a) (hv:vs[j]? = some v):(xO ls vs)[j]? = some (zQV a v):=by
 rw[xO,List.getElem?_zipWith,ha,hv]
theorem z14 {ad:Ad} {x:Nd} (hok:AdOk ad x) (tl:List (Nat×HO)) {j:Nat} {a:Alg} {v:VA} (ha:x.ls[j]? = some a) (hv:ad.vs[j]? = some v) {off:Nat} (ho:off<14) {c:AV} (hc:(zQV a v).cells[off]? = some c):∃(i:Nat) (l:List AV),(HP ad x++tl)[i]? = some (ad.a.no,HO.cells l)/\l[j*14+off]? = some c:=by
 have hj:=(List.getElem?_eq_some_iff.1 ha).1;have hb:blk ad.a x.ls.length (flR (xO x.ls ad.vs) ad.a.z)=[(ad.a.no,HO.cells (flR (xO x.ls ad.vs) ad.a.z))]:=zB8 hok.a (by omega);have hg:=zF3 ha hv;have hj2:=(List.getElem?_eq_some_iff.1 hg).1;have hx:(xO x.ls ad.vs)[j]=zQV a v:=by rw[List.getElem?_eq_getElem hj2] at hg;exact Option.some.inj hg
 refine⟨(blk ad.k x.ks.length (flR (eCs x.ks) ad.k.z)++blk ad.b x.bs.length (flR (yV x.bs) ad.b.z)).length,flR (xO x.ls ad.vs) ad.a.z,?_,?_⟩
 ·unfold HP hM;rw[hb];simp only[List.append_assoc,List.cons_append,List.nil_append];rw[<-List.append_assoc];simp
 ·rw[zHL (zGG _ _) ad.a.z hj2 off ho,hx];exact hc
theorem zMF {ad : Ad} {x : Nd} (hok : AdOk ad x) (v : VA) (N : Nat) (tl : List (Nat × HO)) (post : AV -> Nat -> List (Nat × HO) -> Prop) (hpost : post (.sl (eG0 (slA v N) (mPt ad x) :: rg (mGA ad x) x.ls.length)) 3 (HP ad x ++ tl)) (ha : x.ls.length <= 1000000) (hv : ∀ a ∈ x.ls, a.2.1.length <= 1000000) :
    Wsem Tryz.prog (xZ (sn4 (bodyC Tryz.f102))) (mkC { vs := [(0, .v (pt ad.b0 0)), (3, .box 0 (eG0 (slA v N) (mPt ad x)))], hp := HP ad x ++ tl })
      (fun c2 => wY tt Tryz.f102.results.toList post (den c2)) (fun _ _ => False) (fun c2 => wY tt Tryz.f102.results.toList post (den c2)) := by
  refine Wsem.seq ttok mixed ?_;refine Wsem.seq ttok mixed ?_;obtain ⟨i0, l0, q1, q2⟩ := zIV ad x tl (off := 9) (c := slA ad.a x.ls.length) rfl;refine ⟨i0, l0, _, q1, q2, ?_⟩;refine ⟨{k : Nat // k <= x.ls.length}, fun k => { vs := [(0, .v (pt ad.b0 0)), (7, .v (.sl (eG0 (slA v N) (mPt ad x) :: rg (mGA ad x) k.1))), (82, sv (x.ls.length : Nat)), (83, sv (k.1 : Nat))], ow := [(7, 0, 3)], hp := HP ad x ++ tl },
    fun k => x.ls.length - k.1, ⟨0, Nat.zero_le _⟩, ⟨⟨rfl, rfl, rfl, rfl, trivial⟩, ⟨rfl, trivial⟩, rfl⟩, ?_⟩
  rintro ⟨k, hkk⟩;refine ⟨fun h => ?_, fun h => ?_⟩
  · have h : k < x.ls.length := by have h := of_decide_eq_true h; simp only at h; omega
    have hvv := hv _ (List.getElem_mem h);have hal := List.getElem?_eq_getElem h;have hvl : k < ad.vs.length := by rw [hok.len]; exact h
    have hva := List.getElem?_eq_getElem hvl;have hvok := hok.vs k _ _ hal hva;have hmga : mGA ad x k = .agg [.sl (rg (zOY ad.vs[k]) x.ls[k].2.1.length), .sl [pt ad.a.no (k * 14 + 4)]] := by unfold mGA; rw [hal, hva]
    generalize x.ls[k] = A at hal hvok hmga hvv;generalize ad.vs[k] = V at hva hvok hmga;have hA0 := hok.a.at (by omega);obtain ⟨i1, l1, q3, q4⟩ := zIV ad x tl (off := 9) (c := .lit (.slice (some ⟨ad.a.no, 0, none⟩) x.ls.length ad.a.cap)) (by show some (slA ad.a x.ls.length) = _; unfold slA; rw [hA0]);refine ⟨i1, l1, _, q3, q4, ?_⟩;refine ⟨by omega, by show (k : Int) < _; omega, ?_⟩;obtain ⟨i2, l2, q5, q6⟩ := z14 hok tl hal hva (off := 3) (by decide) (c := slA V A.2.1.length) rfl;refine ⟨i2, l2, _, q5, by show l2[0 + k * 14 + 3]? = _; rw [Nat.zero_add]; exact q6, ?_⟩
    refine ⟨{j : Nat // j <= A.2.1.length}, fun j => { vs := [(0, .v (pt ad.b0 0)), (7, .v (.sl (eG0 (slA v N) (mPt ad x) :: rg (mGA ad x) k))), (82, sv (x.ls.length : Nat)), (83, sv (k : Nat)),
        (9, .v (pt ad.a.no (k * 14))), (10, .box 0 (.agg [.sl (rg (zOY V) j.1), .sl [pt ad.a.no (k * 14 + 4)]])), (101, sv (A.2.1.length : Nat)), (102, sv (j.1 : Nat))], ow := [(7, 0, 3), (10, 0, 2)], hp := HP ad x ++ tl },
      fun j => A.2.1.length - j.1, ⟨0, Nat.zero_le _⟩, ⟨⟨rfl, rfl, rfl, rfl, ?_, ?_, rfl, rfl, trivial⟩, ⟨rfl, trivial, trivial⟩, rfl⟩, ?_⟩
    · show SV.v (pt ad.a.no (0 + k * 14)) = _; rw [Nat.zero_add]
    · show SV.box 0 (AV.agg [AV.sl [], AV.sl [pt ad.a.no (0 + k * 14 + 4)]]) = _; rw [Nat.zero_add]; rfl
    rintro ⟨j, hjj⟩;refine ⟨fun h2 => ?_, fun h2 => ?_⟩
    · have h2 : j < A.2.1.length := by have h := of_decide_eq_true h2; simp only at h; omega
      have hV0 := hvok.at (by omega);obtain ⟨i3, l3, q7, q8⟩ := z14 hok tl hal hva (off := 3) (by decide) (c := .lit (.slice (some ⟨V.no, 0, none⟩) A.2.1.length V.cap)) (by show some (slA V A.2.1.length) = _; unfold slA; rw [hV0]);refine ⟨i3, l3, _, q7, q8, ?_⟩;refine ⟨by omega, by show (j : Int) < _; omega, ?_⟩;refine ⟨by simp; omega, zEG _ (fun _ => rfl) _, zFR rfl, ?_⟩;refine ⟨by kernel_rfl, ?_⟩;refine ⟨⟨j + 1, h2⟩, by simp; omega, ⟨rfl, rfl, rfl, rfl, rfl, ?_, rfl, svc (hcut h2 hvv), trivial⟩, ⟨rfl, rfl, trivial⟩, rfl⟩;show SV.box 0 (AV.agg [AV.sl (rg (zOY V) j ++ [pt V.no (0 + j * 1)]), AV.sl [pt ad.a.no (k * 14 + 4)]]) = SV.box 0 (AV.agg [AV.sl (rg (zOY V) (j + 1)), AV.sl [pt ad.a.no (k * 14 + 4)]]);rw [<- rgS, show 0 + j * 1 = j by omega]; rfl
    · have h2 : j = A.2.1.length := by have h := of_decide_eq_false h2; simp only at h; omega
      subst h2;refine ⟨by simp; omega, ?_, zFR rfl, ?_⟩
      · intro a ha2
        rcases List.mem_cons.1 ha2 with rfl | ha2
        · rfl
        · obtain ⟨y, _, rfl⟩ := List.mem_map.1 ha2; unfold mGA; split <;> rfl
      refine ⟨⟨k + 1, h⟩, by simp; omega, ⟨rfl, ?_, rfl, svc (hcut h ha), trivial⟩, ⟨rfl, trivial⟩, rfl⟩;show SV.v (AV.sl ((_ :: rg (mGA ad x) k) ++ [AV.agg [AV.sl (rg (zOY V) A.2.1.length), AV.sl [pt ad.a.no (k * 14 + 4)]]])) = SV.v (AV.sl (_ :: rg (mGA ad x) (k + 1)));rw [List.cons_append, <- hmga, rgS]
  · have h : k = x.ls.length := by have h := of_decide_eq_false h; simp only at h; omega
    subst h;refine Wsem.of ttok mixed ?_;exact hpost
abbrev ML (ad:Ad) (x:Nd) (k:Nat):List AV:=zAG ad x++rg (zXE ad) k
theorem z0I (ad:Ad) (x:Nd) (k:Nat):Uni 1 (ML ad x k):=zI5 (z16 ad x) (zEG _ (fun _=>rfl) _)
def zMI (ad:Ad) (x:Nd) (r:AV) (h:List (Nat×HO)):Prop := ∃v:VA,Grown v (mNm ad x).length/\r = .sl (eG0 (slA v (mNm ad x).length) (mPt ad x)::rg (mGA ad x) x.ls.length)/\h=HP ad x++blk v (mNm ad x).length (flR (mNm ad x) v.z)
theorem zDJ {ad:Ad} {x:Nd} (hok:AdOk ad x) (v0:VA) (hG0:Grown v0 (zAG ad x).length) (hb:x.bs.length<=1000000) (hk:x.ks.length<=1000000) (ha:x.ls.length<=1000000) (hv:∀a∈x.ls,a.2.1.length<=1000000) :
  Wsem Tryz.prog (sn4 (bodyC Tryz.f102)) (mkC {vs:=[(0,.v (pt ad.b0 0)),(3,.box 0 (eG0 (slA v0 (zAG ad x).length) (rg (zDF ad) x.ks.length)))],ow:=[(3,1,2)],hp:=HP ad x++blk v0 (zAG ad x).length (flR (zAG ad x) v0.z)})
   (fun c2=>wY tt Tryz.f102.results.toList (fun r _ h=>zMI ad x r h) (den c2)) (fun _ _=>False) (fun c2=>wY tt Tryz.f102.results.toList (fun r _ h=>zMI ad x r h) (den c2)):=by
 have hn1:=zYJ ad x;obtain⟨i0,l0,q1,q2⟩:=zIV ad x (blk v0 (zAG ad x).length (flR (zAG ad x) v0.z)) (off:=8) (c:=slA ad.b x.bs.length) rfl;refine Wsem.seqS (Wsem.seq ttok mixed ?_);refine⟨i0,l0,_,q1,q2,?_⟩;refine Wsem.block (Wsem.loop (α:={p:Nat×VA // p.1<=x.bs.length/\Grown p.2 (ML ad x p.1).length}) (fun p=>{vs:=[(0,.v (pt ad.b0 0)),(3,.box 0 (eG0 (slA p.1.2 (ML ad x p.1.1).length) (rg (zDF ad) x.ks.length++rg (zF5 ad) p.1.1))),(49,sv (x.bs.length:Nat)),(50,sv (p.1.1:Nat))],ow:=[(3,1,2)],hp:=HP ad x++blk p.1.2 (ML ad x p.1.1).length (flR (ML ad x p.1.1) p.1.2.z)})
  (fun p=>x.bs.length-p.1.1) ⟨(0,v0),Nat.zero_le _,by simpa[ML] using hG0⟩ ⟨⟨rfl,?_,rfl,rfl,trivial⟩,⟨rfl,trivial⟩,?_⟩ ?_)
 ·show SV.box 0 (eG0 _ _)=SV.box 0 (eG0 _ _);simp[ML]
 ·show HP ad x++blk v0 _ _=HP ad x++blk v0 _ _;simp[ML,rg]
 rintro⟨⟨k,v⟩,hkk,hG⟩;simp only at hkk hG;have hlen:(ML ad x k).length=(zAG ad x).length+k:=by simp[ML]
 refine Wsem.seq ttok mixed ?_;refine Wsem.seq ttok mixed ?_;refine⟨fun h0=>?_,fun h0=>?_⟩
 ·have h:k<x.bs.length:=by have h:=of_decide_eq_true h0;simp only at h;omega
  clear h0;have hB0:=hok.b.at (by omega);obtain⟨i1,l1,q3,q4⟩:=zIV ad x (blk v (ML ad x k).length (flR (ML ad x k) v.z)) (off:=8) (c := .lit (.slice (some ⟨ad.b.no,0,none⟩) x.bs.length ad.b.cap)) (by show some (slA ad.b x.bs.length)=_;unfold slA;rw[hB0]);refine Wsem.seqS (Wsem.block ?_);refine Wsem.seq ttok mixed ?_;refine Wsem.seq ttok mixed ?_;refine⟨i1,l1,_,q3,q4,?_⟩;refine⟨by omega,by show (k:Int)<_;omega,?_⟩;clear q3 q4;obtain⟨A,cap,z⟩:=v;have hun:=z0I ad x k;have e2:ML ad x k++[zXE ad k]=ML ad x (k+1):=z1W (zXE ad) k _;have e3:(rg (zDF ad) x.ks.length++rg (zF5 ad) k)++[zF5 ad k]=rg (zDF ad) x.ks.length++rg (zF5 ad) (k+1):=z1W (zF5 ad) k _;have hlen1:(ML ad x (k+1)).length=(ML ad x k).length+1:=by rw[<-e2,List.length_append];rfl
  have hpos:0<(ML ad x (k+1)).length:=by omega
  have ep:(0+k*15+5)=k*15+5:=by omega
  have en:(0+k*15+0)=k*15:=by omega
  have pb:pt ad.b.no (0+k*15+5)=zF5 ad k:=by rw[ep];rfl
  have nb:pt ad.b.no (0+k*15+0)=zXE ad k:=by rw[en];rfl
  rcases hG with⟨h0,hA,hcap⟩|⟨h0,b,hA,hcap,hz⟩
  ·simp only at hA hcap;subst hA;subst hcap;rw[show blk (⟨none,0,z⟩:VA) (ML ad x k).length (flR (ML ad x k) z)=[] from zY7 rfl];refine Wsem.regionTA (jL ttok).two ttok mixed [0,1,2,3,4,5,7,8,9,10,11,12,6,13,14,15,16,17] [false,false,false,false,false,false,false,false,false,false,false,false,true] (by kernel_rfl) ?_;refine⟨by simp,by show (ML ad x k).length+1<=_;omega,zFR rfl,h0,rfl,fun b' cap' zs g1 g2=>?_⟩;refine⟨by simp;omega,zI5 (zEG _ (fun _=>rfl) _) (zEG _ (fun _=>rfl) _),zFR rfl,?_⟩;refine⟨by kernel_rfl,?_⟩;refine Wsem.of ttok mixed ?_;have h00:ML ad x k=[]:=List.length_eq_zero_iff.1 h0;have g1':1<=cap':=g1;have g2':zs.length=(cap'-1)*1:=g2;have hg:Grown (⟨some ⟨b',0,none⟩,cap',zs⟩:VA) (ML ad x (k+1)).length := .inr ⟨hpos,b',rfl,by simp only;omega,by simp only;omega⟩;refine⟨⟨(k+1,⟨some ⟨b',0,none⟩,cap',zs⟩),h,hg⟩,by show x.bs.length-(k+1)<x.bs.length-k;omega,⟨rfl,?_,rfl,svc (hcut h hb),trivial⟩,⟨rfl,trivial⟩,?_⟩
   ·show SV.box 0 (eG0 (.lit (.slice (some ⟨b',0,none⟩) (0+1) cap')) ((rg (zDF ad) x.ks.length++rg (zF5 ad) k)++[pt ad.b.no (0+k*15+5)]))=SV.box 0 (eG0 (.lit (.slice (some ⟨b',0,none⟩) (ML ad x (k+1)).length cap')) (rg (zDF ad) x.ks.length++rg (zF5 ad) (k+1)));rw[hlen1,pb,e3,h0]
   ·show (HP ad x++[])++[(b',HO.cells ([]++([pt ad.b.no (0+k*15+0)].flatMap AV.cells++zs)))]=HP ad x++blk (⟨some ⟨b',0,none⟩,cap',zs⟩:VA) (ML ad x (k+1)).length (flR (ML ad x (k+1)) zs);rw[zF4 hpos rfl,<-e2,h00,List.append_nil,nb];rfl
  ·simp only at hA hcap hz;subst hA;rw[show blk (⟨some ⟨b,0,none⟩,cap,z⟩:VA) (ML ad x k).length (flR (ML ad x k) z)=[(b,HO.cells (flR (ML ad x k) z))] from zF4 h0 rfl];refine Wsem.regionTA (jL ttok).two ttok mixed [0,1,2,3,4,5,7,8,9,10,11,12,6,13,14,15,16,17] [false,false,false,false,false,false,false,false,false,false,false,false,true] (by kernel_rfl) ?_;refine⟨by simp,by show (ML ad x k).length+1<=_;omega,zFR rfl,(HP ad x).length,flR (ML ad x k) z,by show (HP ad x++[(b,HO.cells (flR (ML ad x k) z))])[(HP ad x).length]? = _;simp,hcap,by have e:(flR (ML ad x k) z).length=(ML ad x k).length*1+z.length:=zCX hun z;show 0+cap*1<=(flR (ML ad x k) z).length;omega,fun hgr b' cap' zs g1 g2=>?_,fun hin=>?_⟩
   ·refine⟨by simp;omega,zI5 (zEG _ (fun _=>rfl) _) (zEG _ (fun _=>rfl) _),zFR rfl,?_⟩;refine⟨by kernel_rfl,?_⟩;refine Wsem.of ttok mixed ?_;have g1':(ML ad x k).length+1<=cap':=g1;have g2':zs.length=(cap'-((ML ad x k).length+1))*1:=g2;have hg:Grown (⟨some ⟨b',0,none⟩,cap',zs⟩:VA) (ML ad x (k+1)).length := .inr ⟨hpos,b',rfl,by simp only;omega,by simp only;omega⟩;refine⟨⟨(k+1,⟨some ⟨b',0,none⟩,cap',zs⟩),h,hg⟩,by show x.bs.length-(k+1)<x.bs.length-k;omega,⟨rfl,?_,rfl,svc (hcut h hb),trivial⟩,⟨rfl,trivial⟩,?_⟩
    ·show SV.box 0 (eG0 (.lit (.slice (some ⟨b',0,none⟩) ((ML ad x k).length+1) cap')) ((rg (zDF ad) x.ks.length++rg (zF5 ad) k)++[pt ad.b.no (0+k*15+5)]))=SV.box 0 (eG0 (.lit (.slice (some ⟨b',0,none⟩) (ML ad x (k+1)).length cap')) (rg (zDF ad) x.ks.length++rg (zF5 ad) (k+1)));rw[hlen1,pb,e3]
    ·show (HP ad x++[(b,HO.cells (flR (ML ad x k) z))]).set (HP ad x).length (b',HO.cells (((flR (ML ad x k) z).drop 0).take ((ML ad x k).length*1)++([pt ad.b.no (0+k*15+0)].flatMap AV.cells++zs)))=HP ad x++blk (⟨some ⟨b',0,none⟩,cap',zs⟩:VA) (ML ad x (k+1)).length (flR (ML ad x (k+1)) zs);rw[zF4 hpos rfl,<-e2,zHQ,nb,z1E rfl hun rfl]
   ·refine⟨by simp;omega,zI5 (zEG _ (fun _=>rfl) _) (zEG _ (fun _=>rfl) _),zFR rfl,?_⟩;refine⟨by kernel_rfl,?_⟩;refine Wsem.of ttok mixed ?_;have hin':(ML ad x k).length+1<=cap:=hin;have hg:Grown (⟨some ⟨b,0,none⟩,cap,z.drop 1⟩:VA) (ML ad x (k+1)).length := .inr ⟨hpos,b,rfl,by simp only;omega,by simp only[List.length_drop];omega⟩;refine⟨⟨(k+1,⟨some ⟨b,0,none⟩,cap,z.drop 1⟩),h,hg⟩,by show x.bs.length-(k+1)<x.bs.length-k;omega,⟨rfl,?_,rfl,svc (hcut h hb),trivial⟩,⟨rfl,trivial⟩,?_⟩
    ·show SV.box 0 (eG0 (.lit (.slice (some ⟨b,0,none⟩) ((ML ad x k).length+1) cap)) ((rg (zDF ad) x.ks.length++rg (zF5 ad) k)++[pt ad.b.no (0+k*15+5)]))=SV.box 0 (eG0 (.lit (.slice (some ⟨b,0,none⟩) (ML ad x (k+1)).length cap)) (rg (zDF ad) x.ks.length++rg (zF5 ad) (k+1)));rw[hlen1,pb,e3]
    ·show (HP ad x++[(b,HO.cells (flR (ML ad x k) z))]).set (HP ad x).length (b,HO.cells (setAt (flR (ML ad x k) z) (0+(ML ad x k).length*1) ([pt ad.b.no (0+k*15+0)].flatMap AV.cells)))=HP ad x++blk (⟨some ⟨b,0,none⟩,cap,z.drop 1⟩:VA) (ML ad x (k+1)).length (flR (ML ad x (k+1)) (z.drop 1));rw[zF4 hpos rfl,<-e2,zHQ,nb,z1V rfl hun rfl (by omega)]
 ·have h:k=x.bs.length:=by have h:=of_decide_eq_false h0;simp only at h;omega
  clear h0;subst h;have e1:ML ad x x.bs.length=mNm ad x:=rfl;simp only[e1] at hG hlen⊢;refine Wsem.cut _ ?_ (zMF hok v (mNm ad x).length (blk v (mNm ad x).length (flR (mNm ad x) v.z)) _ ⟨v,hG,rfl,rfl⟩ ha hv);exact⟨⟨rfl,rfl,trivial⟩,trivial,rfl⟩
theorem zS5 {ad:Ad} {x:Nd} (hok:AdOk ad x) (hk:x.ks.length<=1000000) (hb:x.bs.length<=1000000) (ha:x.ls.length<=1000000) (hv:∀a∈x.ls,a.2.1.length<=1000000):CallsG Tryz.prog (fnv zDK) (HP ad x) [pt ad.b0 0] [] fun r _ h=>zMI ad x r h:=by
 obtain⟨i0,l0,q1,q2⟩:=zIV ad x [] (off:=7) (c:=slA ad.k x.ks.length) rfl;rw[List.append_nil] at q1;refine zN (first:=[]) (cap:=[]) ttok mixed Tryz.func102 rfl (by rfl) rfl (Nat.le_of_ble_eq_true rfl) (by kernel_rfl) ?_;refine Wsem.seq ttok mixed ?_;refine Wsem.seq ttok mixed ?_;refine Wsem.nilBox 3 0 rfl rfl ?_;refine Wsem.seq ttok mixed ?_;refine⟨i0,l0,_,q1,q2,?_⟩;refine⟨{k:Nat // k<=x.ks.length},fun k=>{vs:=[(0,.v (pt ad.b0 0)),(3,.box 0 (eG0 (.lit (.slice none 0 0)) (rg (zDF ad) k.1))),(16,sv (x.ks.length:Nat)),(17,sv (k.1:Nat))],ow:=[(3,1,2)],hp:=HP ad x},
  fun k=>x.ks.length-k.1,⟨0,Nat.zero_le _⟩,⟨⟨rfl,rfl,rfl,rfl,trivial⟩,⟨trivial,trivial⟩,rfl⟩,?_⟩
 rintro⟨k,hkk⟩;refine⟨fun h=>?_,fun h=>?_⟩
 ·have h:k<x.ks.length:=by have h:=of_decide_eq_true h;simp only at h;omega
  have hK0:=hok.k.at (by omega);obtain⟨i1,l1,q3,q4⟩:=zIV ad x [] (off:=7) (c := .lit (.slice (some ⟨ad.k.no,0,none⟩) x.ks.length ad.k.cap)) (by show some (slA ad.k x.ks.length)=_;unfold slA;rw[hK0]);rw[List.append_nil] at q3;refine⟨i1,l1,_,q3,q4,?_⟩;refine⟨by omega,by show (k:Int)<_;omega,?_⟩;refine⟨by simp;omega,zEG _ (fun _=>rfl) _,zFR rfl,?_⟩;refine⟨by kernel_rfl,?_⟩;refine⟨⟨k+1,h⟩,by simp;omega,⟨rfl,?_,rfl,svc (hcut h hk),trivial⟩,⟨rfl,trivial⟩,rfl⟩;show SV.box 0 (eG0 (.lit (.slice none 0 0)) (rg (zDF ad) k++[pt ad.k.no (0+k*10)]))=SV.box 0 (eG0 (.lit (.slice none 0 0)) (rg (zDF ad) (k+1)));rw[<-rgS,Nat.zero_add];rfl
 ·have h:k=x.ks.length:=by have h:=of_decide_eq_false h;simp only at h;omega
  subst h;obtain⟨i2,l2,q5,q6⟩:=zIV ad x [] (off:=0) (c := .lit (.int .i64 x.f)) rfl;rw[List.append_nil] at q5;refine Wsem.seqS (Wsem.seq ttok mixed ?_);refine⟨i2,l2,_,q5,q6,?_⟩;refine Wsem.cond rfl (fun h5=>?_) (fun h5=>?_)
  ·have h5:x.f=5:=of_decide_eq_true h5;have hnm:zAG ad x=[pt ad.b0 2]:=by unfold zAG;rw[if_pos h5]
   refine Wsem.regionTA (jL ttok).two ttok mixed [0,1,2,3,4,5,6,7,8] [false,false,false,false,false,false,true] (by kernel_rfl) ?_;refine⟨by simp,by simp,zFR rfl,rfl,rfl,fun b' cap' zs g1 g2=>?_⟩;refine⟨by kernel_rfl,?_⟩;have g1':1<=cap':=g1;have g2':zs.length=(cap'-1)*1:=g2;refine Wsem.cut _ ?_ (zDJ hok ⟨some ⟨b',0,none⟩,cap',zs⟩ (.inr ⟨by rw[hnm];exact Nat.zero_lt_one,b',rfl,by rw[hnm];exact g1',by rw[hnm];simp only[List.length_cons,List.length_nil];omega⟩) hb hk ha hv);refine⟨⟨rfl,?_,trivial⟩,⟨rfl,trivial⟩,?_⟩
   ·show SV.box 0 (eG0 (.lit (.slice (some ⟨b',0,none⟩) (0+1) cap')) (rg (zDF ad) x.ks.length))=SV.box 0 (eG0 (slA _ (zAG ad x).length) (rg (zDF ad) x.ks.length));rw[hnm];rfl
   ·show HP ad x++[(b',HO.cells ([]++([pt ad.b0 (0+2)].flatMap AV.cells++zs)))]=HP ad x++blk _ (zAG ad x).length (flR (zAG ad x) zs);rw[hnm];rfl
  ·have h5:¬x.f=5:=of_decide_eq_false h5;have hnm:zAG ad x=[]:=by unfold zAG;rw[if_neg h5]
   refine Wsem.of ttok mixed ?_;refine Wsem.cut _ ?_ (zDJ hok ⟨none,0,[]⟩ (.inl ⟨by rw[hnm];rfl,rfl,rfl⟩) hb hk ha hv);refine⟨⟨rfl,?_,trivial⟩,⟨rfl,trivial⟩,?_⟩
   ·rw[hnm];rfl
   ·show HP ad x=HP ad x++blk _ (zAG ad x).length _;rw[hnm];simp[blk]
theorem zYC {P:Program} {fv:Value} {hin:List (Nat×HO)} {args:List AV} {os:List Nat} {post:AV->Nat->List (Nat×HO)->Prop} (hc:CallsG P fv hin args os post):CallsG P fv hin args os fun r o h=>post r o h/\(keys h).Nodup:=by
 obtain⟨f,first,cap,he,hen,hcalls⟩:=hc;refine⟨f,first,cap,he,hen,fun F w vs h1 h2 h3 h4=>(hcalls F w vs h1 h2 h3 h4).mono fun e w' hpo=>?_⟩;obtain⟨v,r,o,hout,F',rfl,hpost,p2,p3,p4,p5,p6,p7,p8⟩:=hpo;exact⟨v,r,o,hout,F',rfl,⟨hpost,p7.nodup⟩,p2,p3,p4,p5,p6,p7,p8⟩
theorem zQI {l:List AV} (h:∀a∈l,∃b off,a=pt b off):∀x∈l,∀a∈x.cells,a.isCell=true:=fun x hx a ha=>by
 obtain⟨b,off,rfl⟩:=h x hx;simp[AV.cells] at ha;subst ha;rfl
theorem zPX {ad:Ad} {x:Nd} (hok:AdOk ad x) (hk:x.ks.length<=1000000) (hb:x.bs.length<=1000000) (ha:x.ls.length<=1000000) (hv:∀a∈x.ls,a.2.1.length<=1000000):CallsG Tryz.prog (fnv zDK) (HP ad x) [pt ad.b0 0] [] fun r o h=>r = .sl (mG ad x)/\o=0/\h=HP ad x:=by
 refine CallsG.freeze (zYC ((zS5 hok hk hb ha hv).less0 (post':=fun r o h=>o=0/\zMI ad x r h) fun r o h hp=>⟨h,[],by simp,rfl,hp⟩)) ?_;rintro r o h ⟨⟨rfl,v,hG,rfl,rfl⟩,hnd⟩;have hun:Uni 1 (mNm ad x):=z0I ad x _;have hcell:∀a∈mNm ad x,∃b off,a=pt b off:=fun a ha=>by
  rcases List.mem_append.1 ha with h|h
  ·unfold zAG at h;split at h
   ·simp at h;exact⟨_,_,h⟩
   ·cases h
  ·obtain⟨j,_,rfl⟩:=List.mem_map.1 h;exact⟨_,_,rfl⟩
 have hf:=hG.frz hun (zQI hcell) (blk v (mNm ad x).length (flR (mNm ad x) v.z)) fun y hy=>hy;refine⟨HP ad x,_,.sl (mG ad x),rfl,fun b hb hb2=>?_,?_,rfl,rfl,rfl,rfl⟩
 ·rw[show keys (HP ad x++blk v (mNm ad x).length (flR (mNm ad x) v.z))=keys (HP ad x)++keys (blk v (mNm ad x).length (flR (mNm ad x) v.z)) by simp[keys]] at hnd;exact (List.nodup_append.1 hnd).2.2 b hb2 b hb rfl
 ·refine .sls _ _ rfl (fun i a y ha hy=>?_) (fun y hy c2 hc2=>?_) (fun i a y j c1 c2 ha hy hxa hyb=>?_)
  ·cases i with
   | zero=>simp[mG] at ha hy;subst ha;subst hy;rfl
   | succ i =>
    have ha:(rg (mGA ad x) x.ls.length)[i]? = some a:=ha;have hy:(rg (mGA ad x) x.ls.length)[i]? = some y:=hy;rw[ha] at hy;injection hy with hy;subst hy;rfl
  ·have:∃p q,y = .agg [.sl p,.sl q]:=by
    rcases List.mem_cons.1 hy with rfl|hy
    ·exact⟨_,_,rfl⟩
    ·obtain⟨a,_,rfl⟩:=List.mem_map.1 hy;unfold mGA;split<;>exact⟨_,_,rfl⟩
   obtain⟨p,q,rfl⟩:=this;simp[AV.cells] at hc2;rcases hc2 with rfl|rfl<;>rfl
  ·cases i with
   | zero =>
    simp[mG] at ha hy;subst ha;subst hy
    match j with
    | 0=>simp[AV.cells] at hxa hyb;subst hxa;subst hyb;exact hf
    | 1=>simp[AV.cells] at hxa hyb;subst hxa;subst hyb;exact .refl _
    | j+2=>simp[AV.cells] at hxa
   | succ i =>
    have ha:(rg (mGA ad x) x.ls.length)[i]? = some a:=ha;have hy:(rg (mGA ad x) x.ls.length)[i]? = some y:=hy;rw[ha] at hy;injection hy with hy;subst hy;rw[hxa] at hyb;injection hyb with hyb;subst hyb;exact .refl _
inductive Pp where
 | kid (j:Nat)
 | bind (j:Nat)
 | alt (j:Nat)
inductive Pn where
 | own
 | bind (j:Nat)
 | var (j i:Nat)
def zOT (x:Nd):Pp->Option Cr
 | .kid j=>x.ks[j]?
 | .bind j=>(x.bs[j]?).map (·.2.2)
 | .alt j=>(x.ls[j]?).map (·.2.2)
def zJG (x:Nd) (p:Pp) (c:Cr):Nd:=match p with
 | .kid j=>{x with ks:=x.ks.set j c}
 | .bind j=>{x with bs:=x.bs.modify j fun b=>(b.1,b.2.1,c)}
 | .alt j=>{x with ls:=x.ls.modify j fun a=>(a.1,a.2.1,c)}
def z3E (x:Nd):Pn->Option ByteArray
 | .own=>if x.f=5 then some x.s else none
 | .bind j=>(x.bs[j]?).map (·.1)
 | .var j i=>(x.ls[j]?).bind (·.2.1[i]?)
def adP (ad:Ad):Pp->Nat×Nat
 | .kid j=>(ad.k.no,j*10)
 | .bind j=>(ad.b.no,j*15+5)
 | .alt j=>(ad.a.no,j*14+4)
def adN (ad:Ad):Pn->Nat×Nat
 | .own=>(ad.b0,2)
 | .bind j=>(ad.b.no,j*15)
 | .var j i=>((ad.vs[j]?.map VA.no).getD 0,i)
theorem zAA {α:Type} {l:List α} {j:Nat} {a:α} (h:l[j]? = some a) (f:α->α):l.modify j f=l.set j (f a):=by
 have hj:=(List.getElem?_eq_some_iff.1 h).1;apply List.ext_getElem?;intro i;rw[List.getElem?_modify,List.getElem?_set];by_cases hi:j=i
 ·subst hi;rw[h];simp[hj]
 ·simp[hi]
theorem zNN {α:Type} (f:α->AV) (l:List α) (j:Nat) (a:α):(l.set j a).map f=(l.map f).set j (f a):=List.map_set
theorem zMR {α β γ:Type} (f:α->β->γ):∀(l:List α) (m:List β) (j:Nat) (a:α) (b:β),m[j]? = some b->List.zipWith f (l.set j a) m=(List.zipWith f l m).set j (f a b)
 | [],m,j,a,b,_=>by simp
 | x::l,[],j,a,b,h=>by simp at h
 | x::l,y::m,0,a,b,h=>by simp at h;subst h;simp
 | x::l,y::m,j+1,a,b,h=>by simp only[List.set_cons_succ,List.zipWith_cons_cons];rw[zMR f l m j a b (by simpa using h)]
theorem zYD {ad:Ad} {x:Nd} (hok:AdOk ad x) {p:Pp} {c:Cr} (hc:zOT x p=some c):∃(i:Nat) (l:List AV),(HP ad x)[i]? = some ((adP ad p).1,HO.cells l)/\(adP ad p).2+10<=l.length/\(l.drop (adP ad p).2).take 10=(eC c).cells /\
  ∀c',(HP ad x).set i ((adP ad p).1,HO.cells (setAt l (adP ad p).2 (eC c').cells))=HP ad (zJG x p c')/\AdOk ad (zJG x p c'):=by
 cases p with
 | kid j =>
  have hc:x.ks[j]? = some c:=hc;have hj:=(List.getElem?_eq_some_iff.1 hc).1;have hbk:∀l,blk ad.k x.ks.length l=[(ad.k.no,HO.cells l)]:=fun l=>zB8 hok.k (by omega);have hjc:j<(eCs x.ks).length:=by simp[eCs];exact hj
  have hx:(eCs x.ks)[j]=eC c:=by
   have:=z18 hj;rw[List.getElem?_eq_getElem hjc] at this;rw[List.getElem?_eq_getElem hj] at hc;injection hc with hc
   rw[hc] at this;exact Option.some.inj this
  refine⟨0,flR (eCs x.ks) ad.k.z,?_,?_,?_,fun c'=>⟨?_,?_⟩⟩
  ·unfold HP hM;rw[hbk];rfl
  ·exact zB7 (zS6 _) ad.k.z hjc 0 10 (by decide)
  ·have:=zFA (zS6 x.ks) ad.k.z hjc 0 10 (by decide);rw[hx] at this;exact this
  ·unfold HP hM;have e1:=zTF (zS6 x.ks) ad.k.z hjc (eC c') rfl;show _=(blk ad.k (x.ks.set j c').length (flR (eCs (x.ks.set j c')) ad.k.z)++(blk ad.b x.bs.length (flR (yV x.bs) ad.b.z)++(blk ad.a x.ls.length (flR (xO x.ls ad.vs) ad.a.z)++hV x.ls ad.vs)))++[(ad.b0,HO.cells (jT ad (zJG x (.kid j) c')))];have e2:jT ad (zJG x (.kid j) c')=jT ad x:=by simp[jT,zJG]
   rw[e2,List.length_set,hbk,hbk];show ((ad.k.no,HO.cells (setAt (flR (eCs x.ks) ad.k.z) (j*10) (eC c').cells))::_)++_=_;rw[e1,eCs,eCs,zNN];rfl
  ·exact⟨by simpa[zJG] using hok.k,hok.b,hok.a,hok.len,hok.vs⟩
 | bind j =>
  have hc:(x.bs[j]?).map (·.2.2)=some c:=hc;cases hb:x.bs[j]? with
  | none=>rw[hb] at hc;cases hc
  | some b =>
   rw[hb] at hc;simp at hc;subst hc;have hj:=(List.getElem?_eq_some_iff.1 hb).1;have hbk:∀l,blk ad.b x.bs.length l=[(ad.b.no,HO.cells l)]:=fun l=>zB8 hok.b (by omega);have hjc:j<(yV x.bs).length:=by simp[yV];exact hj
   have hx:(yV x.bs)[j]=eBd b:=by
    have:=zSB hj;rw[List.getElem?_eq_getElem hjc] at this;rw[List.getElem?_eq_getElem hj] at hb;injection hb with hb
    rw[hb] at this;exact Option.some.inj this
   refine⟨(blk ad.k x.ks.length (flR (eCs x.ks) ad.k.z)).length,flR (yV x.bs) ad.b.z,?_,?_,?_,fun c'=>⟨?_,?_⟩⟩
   ·unfold HP hM;rw[hbk,List.append_assoc];simp[adP]
   ·exact zB7 (zGV _) ad.b.z hjc 5 10 (by decide)
   ·have:=zFA (zGV x.bs) ad.b.z hjc 5 10 (by decide);rw[hx] at this;exact this
   ·have hm:zJG x (.bind j) c'={x with bs:=x.bs.set j (b.1,b.2.1,c')}:=by show ({x with bs:=x.bs.modify j _}:Nd)=_;rw[zAA hb]
    rw[hm];unfold HP hM;have e1:=zFO (zGV x.bs) ad.b.z hjc 5 (eC c').cells (by show 5+10<=15;decide);rw[hx] at e1;have e2:jT ad {x with bs:=x.bs.set j (b.1,b.2.1,c')} = jT ad x:=by simp[jT]
    rw[e2];simp only[List.length_set];rw[hbk,hbk];simp only[List.append_assoc,List.cons_append,List.nil_append,adP];rw[zHQ,e1]
    congr 4
    rw[yV,yV,zNN];rfl
   ·have hm:zJG x (.bind j) c'={x with bs:=x.bs.set j (b.1,b.2.1,c')}:=by show ({x with bs:=x.bs.modify j _}:Nd)=_;rw[zAA hb]
    rw[hm];exact⟨hok.k,by simpa using hok.b,hok.a,hok.len,hok.vs⟩
 | alt j =>
  have hc:(x.ls[j]?).map (·.2.2)=some c:=hc;cases hb:x.ls[j]? with
  | none=>rw[hb] at hc;cases hc
  | some b =>
   rw[hb] at hc;simp at hc;subst hc;have hj:=(List.getElem?_eq_some_iff.1 hb).1;have hvl:j<ad.vs.length:=by rw[hok.len];exact hj
   have hv:=List.getElem?_eq_getElem hvl;have hbk:∀l,blk ad.a x.ls.length l=[(ad.a.no,HO.cells l)]:=fun l=>zB8 hok.a (by omega);have hg:=zF3 hb hv;have hjc:=(List.getElem?_eq_some_iff.1 hg).1;have hx:(xO x.ls ad.vs)[j]=zQV b ad.vs[j]:=by rw[List.getElem?_eq_getElem hjc] at hg;exact Option.some.inj hg
   refine⟨(blk ad.k x.ks.length (flR (eCs x.ks) ad.k.z)++blk ad.b x.bs.length (flR (yV x.bs) ad.b.z)).length,flR (xO x.ls ad.vs) ad.a.z,?_,?_,?_,fun c'=>⟨?_,?_⟩⟩
   ·unfold HP hM;rw[hbk];simp only[List.append_assoc,List.cons_append,List.nil_append];rw[<-List.append_assoc];simp[adP]
   ·exact zB7 (zGG _ _) ad.a.z hjc 4 10 (by decide)
   ·have:=zFA (zGG x.ls ad.vs) ad.a.z hjc 4 10 (by decide);rw[hx] at this;exact this
   ·have hm:zJG x (.alt j) c'={x with ls:=x.ls.set j (b.1,b.2.1,c')}:=by show ({x with ls:=x.ls.modify j _}:Nd)=_;rw[zAA hb]
    rw[hm];unfold HP hM;have e1:=zFO (zGG x.ls ad.vs) ad.a.z hjc 4 (eC c').cells (by show 4+10<=14;decide);rw[hx] at e1;have e2:jT ad {x with ls:=x.ls.set j (b.1,b.2.1,c')} = jT ad x:=by simp[jT]
    have e3:hV (x.ls.set j (b.1,b.2.1,c')) ad.vs=hV x.ls ad.vs:=by
     unfold hV;rw[zMR _ _ _ _ _ _ hv]
     congr 1
     apply List.ext_getElem?;intro i;rw[List.getElem?_set];by_cases hi:j=i
     ·subst hi;have:(List.zipWith (fun (a:Alg) (v:VA)=>blk v a.2.1.length (flR (eSs a.2.1) v.z)) x.ls ad.vs)[j]? = some (blk ad.vs[j] b.2.1.length (flR (eSs b.2.1) ad.vs[j].z)):=by rw[List.getElem?_zipWith,hb,hv]
      have hl:=(List.getElem?_eq_some_iff.1 this).1;rw[if_pos rfl,if_pos hl,this]
     ·simp[hi]
    rw[e2];simp only[List.length_set];rw[hbk,hbk,e3];simp only[List.append_assoc,List.cons_append,List.nil_append,adP];rw[<-List.append_assoc,<-List.append_assoc (blk ad.k x.ks.length _),zHQ,e1]
    congr 3
    unfold xO;rw[zMR _ _ _ _ _ _ hv];rfl
   ·have hm:zJG x (.alt j) c'={x with ls:=x.ls.set j (b.1,b.2.1,c')}:=by show ({x with ls:=x.ls.modify j _}:Nd)=_;rw[zAA hb]
    rw[hm];refine⟨hok.k,hok.b,by simpa using hok.a,by simpa using hok.len,fun i a v ha hv2=>?_⟩;have ha:(x.ls.set j (b.1,b.2.1,c'))[i]? = some a:=ha;rw[List.getElem?_set] at ha;by_cases hi:j=i
    ·subst hi;rw[if_pos rfl,if_pos hj] at ha;injection ha with ha;subst ha
     exact hok.vs j b v hb hv2
    ·rw[if_neg hi] at ha;exact hok.vs i a v ha hv2
def ptP (ad:Ad) (p:Pp):AV:=pt (adP ad p).1 (adP ad p).2
def ptN (ad:Ad) (p:Pn):AV:=pt (adN ad p).1 (adN ad p).2
def nvs (x:Nd) (j:Nat):Nat:=match x.ls[j]? with|some a=>a.2.1.length|none=>0
def z06 (x:Nd):List Pp:=(List.range x.ks.length).map .kid++(List.range x.bs.length).map .bind
def z2J (x:Nd):List Pn:=(if x.f=5 then [.own] else [])++(List.range x.bs.length).map .bind
def zCC (x:Nd):List (List Pn×List Pp):=(z2J x,z06 x)::(List.range x.ls.length).map fun j=>((List.range (nvs x j)).map (.var j),[.alt j])
def eGp (ad:Ad) (g:List Pn×List Pp):AV:=eG0 (.sl (g.1.map (ptN ad))) (g.2.map (ptP ad))
theorem z0B {ad:Ad} {x:Nd} (hok:AdOk ad x):mG ad x=(zCC x).map (eGp ad):=by
 unfold mG zCC;rw[List.map_cons,List.map_map]
 congr 1
 ·unfold eGp mNm mPt z2J z06 zAG;simp only[List.map_append,List.map_map]
  congr 2
  by_cases h5:x.f=5
  ·rw[if_pos h5,if_pos h5];rfl
  ·rw[if_neg h5,if_neg h5];rfl
 ·refine List.map_congr_left fun j hj=>?_;have hj:=List.mem_range.1 hj;have hvl:j<ad.vs.length:=by rw[hok.len];exact hj
  unfold mGA nvs;simp only[Function.comp];rw[List.getElem?_eq_getElem hj,List.getElem?_eq_getElem hvl];unfold eGp;simp only[List.map_map,List.map_cons,List.map_nil]
  congr 1
  have:rg (zOY ad.vs[j]) x.ls[j].2.1.length=(List.range x.ls[j].2.1.length).map (ptN ad ∘ Pn.var j):=by
   refine List.map_congr_left fun i _=>?_;simp only[Function.comp,ptN,adN,List.getElem?_eq_getElem hvl,Option.map_some,Option.getD_some,zOY]
  rw[this]
  rfl
theorem zZC {x:Nd}:∀g∈zCC x,∀p∈g.2,∃c,zOT x p=some c:=by
 intro g hg p hp;rcases List.mem_cons.1 hg with rfl|hg
 ·rcases List.mem_append.1 hp with h|h
  ·obtain⟨j,hj,rfl⟩:=List.mem_map.1 h;exact⟨_,List.getElem?_eq_getElem (List.mem_range.1 hj)⟩
  ·obtain⟨j,hj,rfl⟩:=List.mem_map.1 h;exact⟨_,by show (x.bs[j]?).map _=_;rw[List.getElem?_eq_getElem (List.mem_range.1 hj)];rfl⟩
 ·obtain⟨j,hj,rfl⟩:=List.mem_map.1 hg;simp at hp;subst hp;exact⟨_,by show (x.ls[j]?).map _=_;rw[List.getElem?_eq_getElem (List.mem_range.1 hj)];rfl⟩
theorem zGJ {α:Type} {l:List α} {j:Nat} {a:α} (h:l[j]? = some a):l.set j a=l:=by
 have hj:=(List.getElem?_eq_some_iff.1 h)
 obtain⟨h1,h2⟩:=hj;rw[<-h2];exact List.set_getElem_self h1
theorem zTU {x:Nd} {p:Pp} {c:Cr} (h:zOT x p=some c):zJG x p c=x:=by
 cases p with
 | kid j=>show ({x with ks:=x.ks.set j c}:Nd)=x;rw[zGJ h]
 | bind j =>
  have h:(x.bs[j]?).map (·.2.2)=some c:=h;cases hb:x.bs[j]? with
  | none=>rw[hb] at h;cases h
  | some b =>
   rw[hb] at h;simp at h;subst h;show ({x with bs:=x.bs.modify j _}:Nd)=x;rw[zAA hb,zGJ hb]
 | alt j =>
  have h:(x.ls[j]?).map (·.2.2)=some c:=h;cases hb:x.ls[j]? with
  | none=>rw[hb] at h;cases h
  | some b =>
   rw[hb] at h;simp at h;subst h;show ({x with ls:=x.ls.modify j _}:Nd)=x;rw[zAA hb,zGJ hb]
theorem zNW (h:List (Nat×HO)):xB (List.range h.length) h=some h:=by
 have:∀(n:Nat),n<=h.length->xB ((List.range h.length).drop (h.length-n)) h=some (h.drop (h.length-n)):=by
  intro n;induction n with
  | zero=>intro _;rw[Nat.sub_zero,List.drop_eq_nil_of_le (by simp),List.drop_eq_nil_of_le (Nat.le_refl _)];rfl
  | succ n ih =>
   intro hn;have hlt:h.length-(n+1)<h.length:=by omega
   have e1:(List.range h.length).drop (h.length-(n+1))=(h.length-(n+1))::(List.range h.length).drop (h.length-n):=by
    rw[List.drop_eq_getElem_cons (by simp;omega)];simp only[List.getElem_range]
    congr 2;omega
   have e2:h.drop (h.length-(n+1))=h[h.length-(n+1)]::h.drop (h.length-n):=by
    rw[List.drop_eq_getElem_cons hlt];congr 2;omega
   rw[e1,e2];simp only[xB,List.getElem?_eq_getElem hlt,ih (by omega)]
 have h0:=this h.length (Nat.le_refl _);simpa using h0
theorem zJA:∀(h:List (Nat×HO)) (k n:Nat),k+h.length<=n->wW (List.range n) k h=[]
 | [],_,_,_=>rfl
 | x::r,k,n,hk=>by
  have:(List.range n).any (Nat.beq k)=true:=List.any_eq_true.2 ⟨k,List.mem_range.2 (by simp at hk;omega),Nat.beq_refl k⟩;simp only[wW,this];exact zJA r (k+1) n (by simp at hk;omega)
theorem zOO (h:List (Nat×HO)):zZ (List.range h.length) h=[]:=zJA h 0 h.length (by omega)
def ClK {α:Type} (l:List α) (L:List AV) (r:AV) (o:Nat) (h:List (Nat×HO)):Prop:=o=0/\∃v:VA,VAok v l.length/\r=slA v l.length/\h=blk v l.length (flR L v.z)
theorem zFK {α:Type} {l:List α} {L:List AV} (hl:L.length=l.length) {r:AV} {o:Nat} {h:List (Nat×HO)} (hp:zED L r o h):ClK l L r o h:=by
 obtain⟨h1,v,h2,h3,h4⟩:=hp;rw[hl] at h2 h3 h4;exact⟨h1,v,h2,h3,h4⟩
theorem zMH {α:Type} (l:List α) {L:List AV} (hl:L.length=l.length):∃r o h,ClK l L r o h:=by
 cases L with
 | nil=>exact⟨_,_,_,zFK hl (zEZ none 0 (.inl ⟨rfl,rfl⟩))⟩
 | cons a L=>exact⟨_,_,_,zFK hl (zE0 (l:=a::L) (by simp) (b:=0) (cap:=(a::L).length) (Nat.le_refl _) [])⟩
theorem z0V (c:Cr) (h:c.kids.length<=1000000):CallsG Tryz.prog (fnv 98) [] [.sl (c.e3 0)] [] (ClK c.kids (eCs c.kids)):=by
 rw[zRV];exact (zTP _ (zS6 _) (by simpa[eCs] using h)).post fun r o h hp=>zFK (by simp[eCs]) hp
theorem z09 (c:Cr) (h:c.binds.length<=1000000):CallsG Tryz.prog (fnv 99) [] [.sl (c.e3 1)] [] (ClK c.binds (yV c.binds)):=by
 rw[zZP];exact (zUC _ (zGV _) (by simpa[yV] using h)).post fun r o h hp=>zFK (by simp[yV]) hp
theorem z1H (c:Cr) (h:c.alts.length<=1000000):CallsG Tryz.prog (fnv 100) [] [.sl (c.e3 2)] [] (ClK c.alts (jX c.alts)):=by
 rw[zTO];exact (zTT _ (zXJ _) (by simpa[jX] using h)).post fun r o h hp=>zFK (by simp[jX]) hp
theorem z0U (l:List ByteArray) (h:l.length<=1000000):CallsG Tryz.prog (fnv 101) [] [.sl (eSs l)] [] (ClK l (eSs l)) :=
 (zUJ _ (xH _) (by simpa[eSs] using h)).post fun r o h hp=>zFK (by simp[eSs]) hp
theorem zP7 {l:List AV} {off m:Nat} (h:off+m<=l.length):setAt l off ((l.drop off).take m)=l:=by
 unfold setAt;have h1:((l.drop off).take m).length=m:=by simp;omega
 rw[h1,<-List.drop_drop,List.take_append_drop,List.take_append_drop]
def z2Z (c:Cr) (r:AV) (o:Nat) (h:List (Nat×HO)):Prop:=o=0/\∃ad:Ad,AdOk ad (jV c)/\r = .agg (jT ad (jV c))/\h=hM ad (jV c)
theorem zZM {bs:List Bdg} {z:List AV} {k:Nat} (h:k<bs.length):((flR (yV bs) z).drop (0+k*15+1)).take 4=(eTy bs[k].2.1).cells/\0+k*15+1+4<=(flR (yV bs) z).length:=by
 have hjc:k<(yV bs).length:=by simp[yV];exact h
 have hx:(yV bs)[k]=eBd bs[k]:=by
  have:=zSB h;rw[List.getElem?_eq_getElem hjc] at this;exact Option.some.inj this
 have h1:=zFA (zGV bs) z hjc 1 4 (by decide);have h2:=zB7 (zGV bs) z hjc 1 4 (by decide);rw[hx] at h1;rw[Nat.zero_add];exact⟨h1,by omega⟩
theorem qY:∀(n:Nat) (h:List (Nat×HO)),wW [] n h=h
 | _,[]=>rfl
 | n,x::r=>by show x::wW [] (n+1) r=_;rw[qY]
theorem zF8 (h:List (Nat×HO)):zZ [] h=h:=qY 0 h
def eZ:AV := .agg [.lit (.int .i64 0),.lit (.int .i64 0),.lit (.string ⟨#[]⟩),.lit (.int .i64 0),.lit (.int .i64 0),.lit (.string ⟨#[]⟩),.sl [],.sl [],.sl [],.sl []]
def zIG (c:Cr) (r:AV) (o:Nat) (h:List (Nat×HO)):Prop:=o=0/\∃ad:Ad,AdOk ad (jV c)/\r = .agg (jT ad (jV c))/\h=HP ad (jV c)
theorem zX6 {x:Nd}:(zCC x).length=x.ls.length+1:=by simp[zCC]
theorem zYZ {x:Nd} {g:List Pn×List Pp} (h:g∈zCC x):g.2.length<=x.ks.length+x.bs.length+1:=by
 rcases List.mem_cons.1 h with rfl|h
 ·simp[z06]
 ·obtain⟨j,hj,rfl⟩:=List.mem_map.1 h;simp
theorem zVX (c:Cr) (ad:Ad) (x:Nd) (hok:AdOk ad x) (hk:x.ks.length<=100000) (hb:x.bs.length<=100000) (ha:x.ls.length<=100000) (hx:x=jV c)
  (ih:∀(p:Pp) (d:Cr),zOT x p=some d->zC Tryz.prog xE [eC d] (eC d)) :
  Wsem Tryz.prog (xZ (z2V (xZ (sn4 (bodyC Tryz.f56))))) (mkC {vs:=[(1,.v (pt ad.b0 0)),(2,.box 0 eZ),(63,.v (.sl ((zCC x).map (eGp ad)))),(64,sv ((zCC x).length:Nat)),(65,sv 0)],hp:=HP ad x})
   (fun c2=>Wsem Tryz.prog (xZ (xZ (sn4 (bodyC Tryz.f56)))) c2 (fun c2=>wY tt Tryz.f56.results.toList (fun r o h=>zIG c r o h) (den c2)) (fun _ _=>False) (fun c2=>wY tt Tryz.f56.results.toList (fun r o h=>zIG c r o h) (den c2))) (fun _ _=>False) (fun c2=>wY tt Tryz.f56.results.toList (fun r o h=>zIG c r o h) (den c2)):=by
 have hgl := @zX6 x;refine Wsem.of ttok mixed ?_;refine⟨{k:Nat // k<=(zCC x).length},fun k=>{vs:=[(1,.v (pt ad.b0 0)),(2,.box 0 eZ),(63,.v (.sl ((zCC x).map (eGp ad)))),(64,sv ((zCC x).length:Nat)),(65,sv (k.1:Nat))],hp:=HP ad x},
  fun k=>(zCC x).length-k.1,⟨0,Nat.zero_le _⟩,⟨⟨rfl,rfl,rfl,rfl,rfl,trivial⟩,trivial,rfl⟩,?_⟩
 rintro⟨k,hkk⟩;refine⟨fun h=>?_,fun h=>?_⟩
 ·have h:k<(zCC x).length:=by have h:=of_decide_eq_true h;simp only at h;omega
  have hg:=List.getElem?_eq_getElem h;have hgm:=List.getElem_mem h;have hg2:=zYZ hgm;have hg3:=zZC _ hgm;generalize (zCC x)[k]=G at hg hgm hg2 hg3;refine⟨_,by omega,by show ((zCC x).map (eGp ad))[(k:Int).toNat]? = _;rw[show (k:Int).toNat=k from rfl,List.getElem?_map,hg];rfl,rfl,?_⟩;refine⟨{j:Nat // j<=G.2.length},fun j=>{vs:=[(1,.v (pt ad.b0 0)),(2,.box 0 eZ),(63,.v (.sl ((zCC x).map (eGp ad)))),(64,sv ((zCC x).length:Nat)),(65,sv (k:Nat)),(70,.v (.sl (G.2.map (ptP ad)))),(71,sv (G.2.length:Nat)),(72,sv (j.1:Nat))],hp:=HP ad x},
   fun j=>G.2.length-j.1,⟨0,Nat.zero_le _⟩,⟨⟨rfl,rfl,rfl,rfl,rfl,rfl,?_,rfl,trivial⟩,trivial,rfl⟩,?_⟩
  ·show sv _=sv _;simp
  rintro⟨j,hjj⟩;refine⟨fun h2=>?_,fun h2=>?_⟩
  ·have h2:j<G.2.length:=by have h:=of_decide_eq_true h2;simp only at h;omega
   have hp:=List.getElem?_eq_getElem h2;obtain⟨d,hd⟩:=hg3 _ (List.getElem_mem h2);generalize G.2[j]=p at hp hd;obtain⟨i,l,r1,r2,r3,r4⟩:=zYD hok hd;refine⟨_,by omega,by show (G.2.map (ptP ad))[(j:Int).toNat]? = _;rw[show (j:Int).toNat=j from rfl,List.getElem?_map,hp];rfl,rfl,?_⟩;refine⟨i,l,r1,r2,?_⟩;refine .inr (.inl ⟨eC d,by rw[r3];exact ih p d hd,?_⟩);refine⟨rfl,i,l,r1,r2,?_⟩;refine⟨⟨j+1,h2⟩,by simp;omega,⟨rfl,rfl,rfl,rfl,rfl,rfl,rfl,svc (wrap_succ (k:=j) (by omega)),trivial⟩,trivial,?_⟩;show (HP ad x).set i ((adP ad p).1,HO.cells (setAt l (adP ad p).2 (eC d).cells))=HP ad x;rw[(r4 d).1,zTU hd]
  ·refine⟨⟨k+1,h⟩,by simp;omega,⟨rfl,rfl,rfl,rfl,svc (wrap_succ (k:=k) (by omega)),trivial⟩,trivial,rfl⟩
 ·refine Wsem.seq ttok mixed ?_;refine⟨(hM ad x).length,jT ad x,by show (hM ad x++[(ad.b0,HO.cells (jT ad x))])[(hM ad x).length]? = _;simp,by show 0+10<=10;decide,?_⟩;subst hx;refine Wsem.of ttok mixed ?_;exact⟨rfl,ad,hok,rfl,rfl⟩
theorem zZN (c:Cr) (ad:Ad) (x:Nd) (hok:AdOk ad x) (hk:x.ks.length<=100000) (hb:x.bs.length<=100000) (ha:x.ls.length<=100000) (hv:∀a∈x.ls,a.2.1.length<=1000000) (hx:x=jV c)
  (ih:∀(p:Pp) (d:Cr),zOT x p=some d->zC Tryz.prog xE [eC d] (eC d)) :
  Wsem Tryz.prog (xZ (sn4 (bodyC Tryz.f56))) (mkC {vs:=[(1,.box 0 (.agg (jT ad x))),(2,.box 0 eZ)],hp:=hM ad x})
   (fun c2=>wY tt Tryz.f56.results.toList (fun r o h=>zIG c r o h) (den c2)) (fun _ _=>False) (fun c2=>wY tt Tryz.f56.results.toList (fun r o h=>zIG c r o h) (den c2)):=by
 refine Wsem.seqS (Wsem.seqS (Wsem.of ttok mixed ?_));refine .inr (.inr (.inr (.inr (.inr (.inr ⟨rfl,fun b => .inr ?_⟩)))));have hok1:AdOk {ad with b0:=b} x:=⟨hok.k,hok.b,hok.a,hok.len,hok.vs⟩
 refine⟨rfl,List.range (HP {ad with b0:=b} x).length,HP {ad with b0:=b} x,[],_,zNW _,List.nodup_range,rfl,zPX (ad:={ad with b0:=b}) hok1 (by omega) (by omega) (by omega) hv,?_⟩;rintro _ _ _ ⟨rfl,rfl,rfl⟩;have hl:=zVX c {ad with b0:=b} x hok1 hk hb ha hx ih;rw[<-z0B hok1] at hl;refine Wsem.cut _ ?_ hl;refine⟨⟨rfl,rfl,rfl,?_,rfl,trivial⟩,trivial,?_⟩
 ·show sv _=sv _;rw[z0B hok1];simp
 ·show zZ (List.range _) (HP {ad with b0:=b} x)++HP {ad with b0:=b} x=_;rw[zOO,List.nil_append]
end Go.Proofs.YtdmbahepaglcbaaGreatDoor
