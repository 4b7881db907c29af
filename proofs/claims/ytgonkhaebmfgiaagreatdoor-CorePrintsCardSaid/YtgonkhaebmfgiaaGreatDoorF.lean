/- slices.Clone: the copy lies in a block of its own, which is known. No condition but that there are not too many. -/
import Derived.Test.YtgonkhaebmfgiaaGreatDoorE
set_option linter.unusedSimpArgs false
set_option linter.unusedVariables false
namespace Go.Proofs.YtgonkhaebmfgiaaGreatDoor
open Go Fp
set_option maxRecDepth 10000
set_option maxHeartbeats 4000000
set_option linter.unusedVariables false
def zFG (l:List AV) (r:AV) (o:Nat) (h:List (Nat×HO)):Prop:=o=0/\∃v:VA,VAok v l.length/\r=slA v l.length/\h=blk v l.length (flR l v.z)
theorem zGC (A:Option Addr) (cap:Nat) (h:Sl0 A cap):zFG [] (.lit (.slice A 0 cap)) 0 []:=⟨rfl,⟨A,cap,[]⟩,⟨fun _=>h,fun h=>absurd h (by decide)⟩,rfl,(blk_none (v:=⟨A,cap,[]⟩)).symm⟩
theorem zF2 {l:List AV} (hl:0<l.length) {b cap:Nat} (hc:l.length<=cap) (zs:List AV):zFG l (.lit (.slice (some ⟨b,0,none⟩) l.length cap)) 0 [(b,HO.cells (flR l zs))] :=
 ⟨rfl,⟨some ⟨b,0,none⟩,cap,zs⟩,⟨fun h=>absurd h (by omega),fun _=>⟨b,rfl,hc⟩⟩,rfl,by
  obtain⟨m,hm⟩:∃m,l.length=m+1:=⟨l.length-1,by omega⟩
  simp[blk,hm]⟩
theorem zQI (l:List AV) (hu:Uni 1 l) (hl:l.length<=1000000):zF Tryz.prog 74 [.sl l] (.sl l):=by
 refine zD ttok mixed Tryz.func74 rfl (by rfl) (Nat.le_of_ble_eq_true rfl) (by kernel_rfl) ?_;cases l with
 | nil=>exact⟨rfl,by simp,by simp[Uni],hu,rfl⟩
 | cons x l=>exact⟨by show 0+(x::l).length<=_;omega,by simp[Uni],hu,rfl⟩
theorem zVL (l:List AV) (hu:Uni 1 l) (hl:l.length<=1000000):CallsG Tryz.prog (fnv 74) [] [.sl l] [] (zFG l):=by
 cases l with
 | nil=>exact (zQI [] hu hl).lit0 zGC
 | cons x l =>
  refine zM (first:=[]) (cap:=[]) ttok mixed Tryz.func74 rfl (by rfl) rfl (Nat.le_of_ble_eq_true rfl) (by kernel_rfl) ?_;refine Wsem.seq ttok mixed ?_;refine Wsem.seq ttok mixed ?_;refine Wsem.seqS (Wsem.regionB ttok rfl rfl rfl rfl rfl fun b=>?_);refine⟨rfl,by simp,by show 0+(x::l).length<=_;omega,hu,?_⟩;refine⟨0,[],rfl,Nat.le_refl _,rfl,fun b' cap' zs h1 h2=>?_⟩;refine Wsem.of ttok mixed ?_;have:=zF2 (l:=x::l) (by simp) (b:=b') (cap:=cap') (by omega) zs;rw[show (x::l).length=0+(x::l).length by omega] at this;exact this
theorem zQ3 (l:List AV) (hu:Uni 10 l) (hl:l.length<=1000000):zF Tryz.prog 100 [.sl l] (.sl l):=by
 refine zD ttok mixed Tryz.func100 rfl (by rfl) (Nat.le_of_ble_eq_true rfl) (by kernel_rfl) ?_;cases l with
 | nil=>exact⟨rfl,by simp,by simp[Uni],hu,rfl⟩
 | cons x l=>exact⟨by show 0+(x::l).length<=_;omega,by simp[Uni],hu,rfl⟩
theorem zTJ (l:List AV) (hu:Uni 10 l) (hl:l.length<=1000000):CallsG Tryz.prog (fnv 100) [] [.sl l] [] (zFG l):=by
 cases l with
 | nil=>exact (zQ3 [] hu hl).lit0 zGC
 | cons x l =>
  refine zM (first:=[]) (cap:=[]) ttok mixed Tryz.func100 rfl (by rfl) rfl (Nat.le_of_ble_eq_true rfl) (by kernel_rfl) ?_;refine Wsem.seq ttok mixed ?_;refine Wsem.seq ttok mixed ?_;refine Wsem.seqS (Wsem.regionB ttok rfl rfl rfl rfl rfl fun b=>?_);refine⟨rfl,by simp,by show 0+(x::l).length<=_;omega,hu,?_⟩;refine⟨0,[],rfl,Nat.le_refl _,rfl,fun b' cap' zs h1 h2=>?_⟩;refine Wsem.of ttok mixed ?_;have:=zF2 (l:=x::l) (by simp) (b:=b') (cap:=cap') (by omega) zs;rw[show (x::l).length=0+(x::l).length by omega] at this;exact this
theorem zQ6 (l:List AV) (hu:Uni 15 l) (hl:l.length<=1000000):zF Tryz.prog 101 [.sl l] (.sl l):=by
 refine zD ttok mixed Tryz.func101 rfl (by rfl) (Nat.le_of_ble_eq_true rfl) (by kernel_rfl) ?_;cases l with
 | nil=>exact⟨rfl,by simp,by simp[Uni],hu,rfl⟩
 | cons x l=>exact⟨by show 0+(x::l).length<=_;omega,by simp[Uni],hu,rfl⟩
theorem zTT (l:List AV) (hu:Uni 15 l) (hl:l.length<=1000000):CallsG Tryz.prog (fnv 101) [] [.sl l] [] (zFG l):=by
 cases l with
 | nil=>exact (zQ6 [] hu hl).lit0 zGC
 | cons x l =>
  refine zM (first:=[]) (cap:=[]) ttok mixed Tryz.func101 rfl (by rfl) rfl (Nat.le_of_ble_eq_true rfl) (by kernel_rfl) ?_;refine Wsem.seq ttok mixed ?_;refine Wsem.seq ttok mixed ?_;refine Wsem.seqS (Wsem.regionB ttok rfl rfl rfl rfl rfl fun b=>?_);refine⟨rfl,by simp,by show 0+(x::l).length<=_;omega,hu,?_⟩;refine⟨0,[],rfl,Nat.le_refl _,rfl,fun b' cap' zs h1 h2=>?_⟩;refine Wsem.of ttok mixed ?_;have:=zF2 (l:=x::l) (by simp) (b:=b') (cap:=cap') (by omega) zs;rw[show (x::l).length=0+(x::l).length by omega] at this;exact this
theorem zQK (l:List AV) (hu:Uni 14 l) (hl:l.length<=1000000):zF Tryz.prog 102 [.sl l] (.sl l):=by
 refine zD ttok mixed Tryz.func102 rfl (by rfl) (Nat.le_of_ble_eq_true rfl) (by kernel_rfl) ?_;cases l with
 | nil=>exact⟨rfl,by simp,by simp[Uni],hu,rfl⟩
 | cons x l=>exact⟨by show 0+(x::l).length<=_;omega,by simp[Uni],hu,rfl⟩
theorem zVK (l:List AV) (hu:Uni 14 l) (hl:l.length<=1000000):CallsG Tryz.prog (fnv 102) [] [.sl l] [] (zFG l):=by
 cases l with
 | nil=>exact (zQK [] hu hl).lit0 zGC
 | cons x l =>
  refine zM (first:=[]) (cap:=[]) ttok mixed Tryz.func102 rfl (by rfl) rfl (Nat.le_of_ble_eq_true rfl) (by kernel_rfl) ?_;refine Wsem.seq ttok mixed ?_;refine Wsem.seq ttok mixed ?_;refine Wsem.seqS (Wsem.regionB ttok rfl rfl rfl rfl rfl fun b=>?_);refine⟨rfl,by simp,by show 0+(x::l).length<=_;omega,hu,?_⟩;refine⟨0,[],rfl,Nat.le_refl _,rfl,fun b' cap' zs h1 h2=>?_⟩;refine Wsem.of ttok mixed ?_;have:=zF2 (l:=x::l) (by simp) (b:=b') (cap:=cap') (by omega) zs;rw[show (x::l).length=0+(x::l).length by omega] at this;exact this
set_option maxHeartbeats 8000000
abbrev sv (n:Int):SV := .v (.lit (.int .i64 n))
theorem svc {a b:Int} (h:a=b):sv a=sv b:=by rw[h]
def nmK (c:Cr):List AV:=if c.f=5 then [.ptr ((eC c).cells.drop 2)] else []
def nmB (b:Bdg):AV := .ptr (eBd b).cells
def ptK (c:Cr):AV := .ptr (eC c).cells
def ptB (b:Bdg):AV := .ptr (eC b.2.2).cells
def nmV (s:ByteArray):AV := .ptr [.lit (.string s)]
def ptA (a:Alg):AV := .ptr (eC a.2.2).cells
def gA (a:Alg):AV := .agg [.sl (a.2.1.map nmV),.sl [ptA a]]
def gS (c:Cr):List AV := .agg [.sl (nmK c++c.binds.map nmB),.sl (c.kids.map ptK++c.binds.map ptB)]::c.alts.map gA
theorem z3Z (c:Cr):(c.e3 0).length=c.kids.length:=by rw[zU2];simp[eCs]
theorem zVA (c:Cr):(c.e3 1).length=c.binds.length:=by rw[zZX];simp[yM]
theorem zYL (c:Cr):(c.e3 2).length=c.alts.length:=by rw[z0M];simp[xO]
theorem z1S {c:Cr} {k:Nat} (h:k<c.kids.length):(c.e3 0)[k]? = some (eC c.kids[k]):=by rw[zU2];exact z5L h
theorem zS9 {c:Cr} {k:Nat} (h:k<c.binds.length):(c.e3 1)[k]? = some (eBd c.binds[k]):=by rw[zZX];exact zO4 h
theorem zS1 {c:Cr} {k:Nat} (h:k<c.alts.length):(c.e3 2)[k]? = some (eAl c.alts[k]):=by rw[z0M];exact z1F h
theorem jB {α:Type} (f:α->AV) (hf:∀x,(f x).cells.length=1) (l:List α):Uni 1 (l.map f):=fun a ha=>by obtain⟨x,_,rfl⟩:=List.mem_map.1 ha;exact hf x
theorem zSG {α:Type} {f:α->AV} {l:List α} {k:Nat} (h:k<l.length):(l.take k).map f++[f l[k]]=(l.take (k+1)).map f:=by
 rw[List.take_succ_eq_append_getElem h,List.map_append];rfl
theorem zAM {n:Nat} {l m:List AV} (h1:Uni n l) (h2:Uni n m):Uni n (l++m):=fun a ha=>by rcases List.mem_append.1 ha with h|h;exact h1 a h;exact h2 a h
theorem zRD (c:Cr):Uni 1 (nmK c):=by unfold nmK;split;exact qK rfl;exact z05 1
theorem z3E (c:Cr):(nmK c).length<=1:=by unfold nmK;split<;>simp
def Grown (v:VA) (k:Nat):Prop:=(k=0/\v.A=none/\v.cap=0)∨(0<k/\∃b,v.A=some ⟨b,0,none⟩/\k<=v.cap/\v.z.length=v.cap-k)
theorem Grown.frz {v:VA} {l:List AV} (h:Grown v l.length) (hu:Uni 1 l) (hc:∀x∈l,∀c∈x.cells,c.isCell=true) (hp:List (Nat×HO)) (hin:∀x∈blk v l.length (flR l v.z),x∈hp):Frz hp (slA v l.length) (.sl l):=by
 rcases h with⟨h0,hA,hcap⟩|⟨h0,b,hA,hcap,hz⟩
 ·have:l=[]:=List.length_eq_zero_iff.1 h0;subst this;unfold slA;rw[hA,hcap];exact .nilL
 ·unfold slA;rw[hA];refine .sl b 0 l.length v.cap 1 (flR l v.z) l ?_ rfl hcap hu hc (by rw[zA4 hu];omega) fun i x j c c' hx hj hc'=>?_
  ·obtain⟨m,hm⟩:∃m,l.length=m+1:=⟨l.length-1,by omega⟩
   refine hin _ ?_;simp[blk,hm,hA]
  ·have hi:=(List.getElem?_eq_some_iff.1 hx).1;have hj1:=(List.getElem?_eq_some_iff.1 hj).1;rw[hu x (List.mem_of_getElem? hx)] at hj1;rw[Nat.zero_add,zCL hu v.z hi j hj1] at hc';rw[List.getElem?_eq_getElem hi] at hx;injection hx with hx;subst hx
   rw[hj] at hc';injection hc' with hc';subst hc'
   exact .refl _
abbrev eG0 (nm:AV) (pt:List AV):AV := .agg [nm,.sl pt]
def gNm (c:Cr):List AV:=nmK c++c.binds.map nmB
def gPt (c:Cr):List AV:=c.kids.map ptK++c.binds.map ptB
def zST (c:Cr) (r:AV) (h:List (Nat×HO)):Prop := ∃v:VA,Grown v (gNm c).length/\r = .sl (eG0 (slA v (gNm c).length) (gPt c)::c.alts.map gA)/\h=blk v (gNm c).length (flR (gNm c) v.z)
theorem zYZ {nl z zs:List AV} {x:AV} {n:Nat} (hn:nl.length=n) (hu:Uni 1 nl) (hx:x.cells.length=1):((flR nl z).drop 0).take (n*1)++([x].flatMap AV.cells++zs)=flR (nl++[x]) zs:=by
 have h1:(flR nl z).take n=nl.flatMap AV.cells:=by
  unfold flR;have:(nl.flatMap AV.cells).length=n:=by have:=zA4 hu [];unfold flR at this;rw[List.append_nil] at this;simp only[List.length_nil] at this;omega
  rw[List.take_append_of_le_length (by omega),List.take_of_length_le (by omega)]
 rw[List.drop_zero,Nat.mul_one,h1];simp[flR]
theorem z1H {nl z:List AV} {x:AV} {n:Nat} (hn:nl.length=n) (hu:Uni 1 nl) (hx:x.cells.length=1) (hz:1<=z.length):setAt (flR nl z) (0+n*1) ([x].flatMap AV.cells)=flR (nl++[x]) (z.drop 1):=by
 have hl:(nl.flatMap AV.cells).length=n:=by have:=zA4 hu [];unfold flR at this;rw[List.append_nil] at this;simp only[List.length_nil] at this;omega
 unfold flR;have e:0+n*1=(nl.flatMap AV.cells).length+0:=by omega
 rw[e,zGO];simp[setAt,hx]
abbrev sn4 (q:Code):Code:=zAX (zAX (zAX (zAX q)))
theorem hcut {k n:Nat} (h1:k<n) (h2:n<=1000000):IntKind.i64.wrap ((k:Int)+1)=((k+1:Nat):Int):=wrap_succ (by omega)
theorem zNU (c : Cr) (v : VA) (N : Nat) (hp : List (Nat × HO)) (post : AV -> Nat -> List (Nat × HO) -> Prop) (hpost : post (.sl (eG0 (slA v N) (c.kids.map ptK ++ c.binds.map ptB) :: c.alts.map gA)) 3 hp) (ha : c.alts.length <= 1000000) (hv : ∀ a ∈ c.alts, a.2.1.length <= 1000000) :
    Wsem Tryz.prog (zAX (sn4 (bodyC Tryz.f57))) (mkC { vs := [(0, .v (.ptr (eC c).cells)), (3, .box 0 (eG0 (slA v N) (c.kids.map ptK ++ c.binds.map ptB)))], hp := hp })
      (fun c2 => yP tt Tryz.f57.results.toList post (den c2)) (fun _ _ => False) (fun c2 => yP tt Tryz.f57.results.toList post (den c2)) := by
  refine Wsem.seq ttok mixed ?_;refine Wsem.seq ttok mixed ?_;refine ⟨{k : Nat // k <= c.alts.length}, fun k => { vs := [(0, .v (.ptr (eC c).cells)), (7, .v (.sl (eG0 (slA v N) (c.kids.map ptK ++ c.binds.map ptB) :: (c.alts.take k.1).map gA))), (82, sv (c.alts.length : Nat)), (83, sv (k.1 : Nat))], ow := [(7, 0, 3)], hp := hp },
    fun k => c.alts.length - k.1, ⟨0, Nat.zero_le _⟩, ⟨⟨rfl, rfl, svc (by rw [zYL]), rfl, trivial⟩, ⟨rfl, trivial⟩, rfl⟩, ?_⟩
  rintro ⟨k, hkk⟩;refine ⟨fun h => ?_, fun h => ?_⟩
  · have h : k < c.alts.length := by have h := of_decide_eq_true h; simp only at h; omega
    have hvv := hv _ (List.getElem_mem h);refine ⟨_, by omega, zS1 h, rfl, ?_⟩
    refine ⟨{j : Nat // j <= c.alts[k].2.1.length}, fun j => { vs := [(0, .v (.ptr (eC c).cells)), (7, .v (.sl (eG0 (slA v N) (c.kids.map ptK ++ c.binds.map ptB) :: (c.alts.take k).map gA))), (82, sv (c.alts.length : Nat)), (83, sv (k : Nat)),
        (9, .v (.ptr (eAl c.alts[k]).cells)), (10, .box 0 (.agg [.sl ((c.alts[k].2.1.take j.1).map nmV), .sl [ptA c.alts[k]]])), (101, sv (c.alts[k].2.1.length : Nat)), (102, sv (j.1 : Nat))], ow := [(7, 0, 3), (10, 0, 2)], hp := hp },
      fun j => c.alts[k].2.1.length - j.1, ⟨0, Nat.zero_le _⟩, ⟨⟨rfl, rfl, rfl, rfl, rfl, rfl, svc (by simp [eSs]), rfl, trivial⟩, ⟨rfl, trivial, trivial⟩, rfl⟩, ?_⟩
    rintro ⟨j, hjj⟩;refine ⟨fun h2 => ?_, fun h2 => ?_⟩
    · have h2 : j < c.alts[k].2.1.length := by have h := of_decide_eq_true h2; simp only at h; omega
      refine ⟨_, by omega, zNQ h2, rfl, ?_⟩;refine ⟨by simp; omega, jB _ (fun _ => rfl) _, qK rfl, ?_⟩;refine ⟨by kernel_rfl, ?_⟩;refine ⟨⟨j + 1, h2⟩, by simp; omega, ⟨rfl, rfl, rfl, rfl, rfl, ?_, rfl, svc (hcut h2 hvv), trivial⟩, ⟨rfl, rfl, trivial⟩, rfl⟩;exact congrArg (fun l => SV.box 0 (AV.agg [AV.sl l, AV.sl [ptA c.alts[k]]])) (zSG (f := nmV) h2)
    · have h2 : j = c.alts[k].2.1.length := by have h := of_decide_eq_false h2; simp only at h; omega
      subst h2;rw [List.take_length];refine ⟨by simp; omega, ?_, qK rfl, ?_⟩
      · intro a ha2
        rcases List.mem_cons.1 ha2 with rfl | ha2
        · rfl
        · obtain ⟨x, _, rfl⟩ := List.mem_map.1 ha2; rfl
      refine ⟨⟨k + 1, h⟩, by simp; omega, ⟨rfl, ?_, rfl, svc (hcut h ha), trivial⟩, ⟨rfl, trivial⟩, rfl⟩;show SV.v (AV.sl ((_ :: (c.alts.take k).map gA) ++ [gA c.alts[k]])) = _;rw [List.cons_append, zSG (f := gA) h]
  · have h : k = c.alts.length := by have h := of_decide_eq_false h; simp only at h; omega
    subst h;rw [List.take_length];refine Wsem.of ttok mixed ?_;exact hpost
theorem zX3 {α:Type} {f:α->AV} {l:List α} {k:Nat} (h:k<l.length) (r:List AV):(r++(l.take k).map f)++[f l[k]]=r++(l.take (k+1)).map f:=by rw[List.append_assoc,zSG h]
theorem zR0 {v:VA} {n:Nat} {l:List AV} (hA:v.A=none):blk v n l=[]:=by unfold blk;rw[hA];cases n<;>rfl
theorem jX {v:VA} {n:Nat} {l:List AV} {b:Nat} (h:0<n) (hA:v.A=some ⟨b,0,none⟩):blk v n l=[(b,HO.cells l)]:=by
 obtain⟨m,hm⟩:∃m,n=m+1:=⟨n-1,by omega⟩
 simp[blk,hm,hA]
theorem z4L (c:Cr) (k:Nat):Uni 1 (nmK c++(c.binds.take k).map nmB):=zAM (zRD c) (jB _ (fun _=>rfl) _)
abbrev NL (c:Cr) (k:Nat):List AV:=nmK c++(c.binds.take k).map nmB
theorem zFY (c:Cr) (v0:VA) (hG0:Grown v0 (nmK c).length) (hb:c.binds.length<=1000000) (hk:c.kids.length<=1000000) (ha:c.alts.length<=1000000) (hv:∀a∈c.alts,a.2.1.length<=1000000) :
  Wsem Tryz.prog (sn4 (bodyC Tryz.f57)) (mkC {vs:=[(0,.v (.ptr (eC c).cells)),(3,.box 0 (eG0 (slA v0 (nmK c).length) (c.kids.map ptK)))],ow:=[(3,1,2)],hp:=blk v0 (nmK c).length (flR (nmK c) v0.z)})
   (fun c2=>yP tt Tryz.f57.results.toList (fun r _ h=>zST c r h) (den c2)) (fun _ _=>False) (fun c2=>yP tt Tryz.f57.results.toList (fun r _ h=>zST c r h) (den c2)):=by
 have hn1:=z3E c;refine Wsem.seqS (Wsem.seq ttok mixed ?_);refine Wsem.block (Wsem.loop (α:={p:Nat×VA // p.1<=c.binds.length/\Grown p.2 (NL c p.1).length}) (fun p=>{vs:=[(0,.v (.ptr (eC c).cells)),(3,.box 0 (eG0 (slA p.1.2 (NL c p.1.1).length) (c.kids.map ptK++(c.binds.take p.1.1).map ptB))),(49,sv (c.binds.length:Nat)),(50,sv (p.1.1:Nat))],ow:=[(3,1,2)],hp:=blk p.1.2 (NL c p.1.1).length (flR (NL c p.1.1) p.1.2.z)})
  (fun p=>c.binds.length-p.1.1) ⟨(0,v0),Nat.zero_le _,by simpa[NL] using hG0⟩ ⟨⟨rfl,?_,svc (by rw[zVA]),rfl,trivial⟩,⟨rfl,trivial⟩,?_⟩ ?_)
 ·show SV.box 0 (eG0 _ _)=SV.box 0 (eG0 _ _);simp[NL]
 ·show blk v0 _ _=blk v0 _ _;simp[NL]
 rintro⟨⟨k,v⟩,hkk,hG⟩;simp only at hkk hG;have hlen:(NL c k).length=(nmK c).length+k:=by simp[NL];omega
 refine Wsem.seq ttok mixed ?_;refine Wsem.seq ttok mixed ?_;refine⟨fun h0=>?_,fun h0=>?_⟩
 ·have h:k<c.binds.length:=by have h:=of_decide_eq_true h0;simp only at h;omega
  clear h0;refine Wsem.seqS (Wsem.block ?_);refine Wsem.seq ttok mixed ?_;refine Wsem.seq ttok mixed ?_;refine⟨_,by omega,zS9 h,rfl,?_⟩;obtain⟨A,cap,z⟩:=v;have hun:=z4L c k;have e2:NL c k++[nmB c.binds[k]]=NL c (k+1):=zX3 (f:=nmB) h (nmK c);have e3:(c.kids.map ptK++(c.binds.take k).map ptB)++[ptB c.binds[k]]=c.kids.map ptK++(c.binds.take (k+1)).map ptB:=zX3 (f:=ptB) h _;have hlen1:(NL c (k+1)).length=(NL c k).length+1:=by rw[<-e2,List.length_append];rfl
  have hpos:0<(NL c (k+1)).length:=by omega
  rcases hG with⟨h0,hA,hcap⟩|⟨h0,b,hA,hcap,hz⟩
  ·simp only at hA hcap;subst hA;subst hcap;rw[show blk (⟨none,0,z⟩:VA) (NL c k).length (flR (NL c k) z)=[] from zR0 rfl];refine Wsem.regionTA (qA ttok).two ttok mixed [0,1,2,3,4,5,7,8,9,10,11,12,6,13,14,15,16,17] [false,false,false,false,false,false,false,false,false,false,false,false,true] (by kernel_rfl) ?_;refine⟨by simp,by show (NL c k).length+1<=_;omega,qK rfl,h0,rfl,fun b' cap' zs g1 g2=>?_⟩;refine⟨by simp;omega,zAM (jB _ (fun _=>rfl) _) (jB _ (fun _=>rfl) _),qK rfl,?_⟩;refine⟨by kernel_rfl,?_⟩;refine Wsem.of ttok mixed ?_;have h00:NL c k=[]:=List.length_eq_zero_iff.1 h0;have g1':1<=cap':=g1;have g2':zs.length=(cap'-1)*1:=g2;have hg:Grown (⟨some ⟨b',0,none⟩,cap',zs⟩:VA) (NL c (k+1)).length := .inr ⟨hpos,b',rfl,by simp only;omega,by simp only[List.length_drop];omega⟩;refine⟨⟨(k+1,⟨some ⟨b',0,none⟩,cap',zs⟩),h,hg⟩,by show c.binds.length-(k+1)<c.binds.length-k;omega,⟨rfl,?_,rfl,svc (hcut h hb),trivial⟩,⟨rfl,trivial⟩,?_⟩
   ·show SV.box 0 (eG0 (.lit (.slice (some ⟨b',0,none⟩) (0+1) cap')) ((c.kids.map ptK++(c.binds.take k).map ptB)++[ptB c.binds[k]]))=SV.box 0 (eG0 (.lit (.slice (some ⟨b',0,none⟩) (NL c (k+1)).length cap')) (c.kids.map ptK++(c.binds.take (k+1)).map ptB));rw[hlen1,e3] ;rw[h0]
   ·show ([]:List (Nat×HO))++[(b',HO.cells ([]++([nmB c.binds[k]].flatMap AV.cells++zs)))]=blk (⟨some ⟨b',0,none⟩,cap',zs⟩:VA) (NL c (k+1)).length (flR (NL c (k+1)) zs);rw[jX hpos rfl,<-e2];rw[h00];rfl
  ·simp only at hA hcap hz;subst hA;rw[show blk (⟨some ⟨b,0,none⟩,cap,z⟩:VA) (NL c k).length (flR (NL c k) z)=[(b,HO.cells (flR (NL c k) z))] from jX h0 rfl];refine Wsem.regionTA (qA ttok).two ttok mixed [0,1,2,3,4,5,7,8,9,10,11,12,6,13,14,15,16,17] [false,false,false,false,false,false,false,false,false,false,false,false,true] (by kernel_rfl) ?_;refine⟨by simp,by show (NL c k).length+1<=_;omega,qK rfl,0,flR (NL c k) z,rfl,hcap,by have e:(flR (NL c k) z).length=(NL c k).length*1+z.length:=zA4 hun z;show 0+cap*1<=(flR (NL c k) z).length;omega,fun hgr b' cap' zs g1 g2=>?_,fun hin=>?_⟩
   ·refine⟨by simp;omega,zAM (jB _ (fun _=>rfl) _) (jB _ (fun _=>rfl) _),qK rfl,?_⟩;refine⟨by kernel_rfl,?_⟩;refine Wsem.of ttok mixed ?_;have g1':(NL c k).length+1<=cap':=g1;have g2':zs.length=(cap'-((NL c k).length+1))*1:=g2;have hg:Grown (⟨some ⟨b',0,none⟩,cap',zs⟩:VA) (NL c (k+1)).length := .inr ⟨hpos,b',rfl,by simp only;omega,by simp only[List.length_drop];omega⟩;refine⟨⟨(k+1,⟨some ⟨b',0,none⟩,cap',zs⟩),h,hg⟩,by show c.binds.length-(k+1)<c.binds.length-k;omega,⟨rfl,?_,rfl,svc (hcut h hb),trivial⟩,⟨rfl,trivial⟩,?_⟩
    ·show SV.box 0 (eG0 (.lit (.slice (some ⟨b',0,none⟩) ((NL c k).length+1) cap')) ((c.kids.map ptK++(c.binds.take k).map ptB)++[ptB c.binds[k]]))=SV.box 0 (eG0 (.lit (.slice (some ⟨b',0,none⟩) (NL c (k+1)).length cap')) (c.kids.map ptK++(c.binds.take (k+1)).map ptB));rw[hlen1,e3]
    ·show [(b',HO.cells (((flR (NL c k) z).drop 0).take ((NL c k).length*1)++([nmB c.binds[k]].flatMap AV.cells++zs)))]=blk (⟨some ⟨b',0,none⟩,cap',zs⟩:VA) (NL c (k+1)).length (flR (NL c (k+1)) zs);rw[jX hpos rfl,<-e2];exact congrArg (fun l=>[(b',HO.cells l)]) (zYZ rfl hun rfl)
   ·refine⟨by simp;omega,zAM (jB _ (fun _=>rfl) _) (jB _ (fun _=>rfl) _),qK rfl,?_⟩;refine⟨by kernel_rfl,?_⟩;refine Wsem.of ttok mixed ?_;have hin':(NL c k).length+1<=cap:=hin;have hg:Grown (⟨some ⟨b,0,none⟩,cap,z.drop 1⟩:VA) (NL c (k+1)).length := .inr ⟨hpos,b,rfl,by simp only;omega,by simp only[List.length_drop];omega⟩;refine⟨⟨(k+1,⟨some ⟨b,0,none⟩,cap,z.drop 1⟩),h,hg⟩,by show c.binds.length-(k+1)<c.binds.length-k;omega,⟨rfl,?_,rfl,svc (hcut h hb),trivial⟩,⟨rfl,trivial⟩,?_⟩
    ·show SV.box 0 (eG0 (.lit (.slice (some ⟨b,0,none⟩) ((NL c k).length+1) cap)) ((c.kids.map ptK++(c.binds.take k).map ptB)++[ptB c.binds[k]]))=SV.box 0 (eG0 (.lit (.slice (some ⟨b,0,none⟩) (NL c (k+1)).length cap)) (c.kids.map ptK++(c.binds.take (k+1)).map ptB));rw[hlen1,e3]
    ·show [(b,HO.cells (setAt (flR (NL c k) z) (0+(NL c k).length*1) ([nmB c.binds[k]].flatMap AV.cells)))]=blk (⟨some ⟨b,0,none⟩,cap,z.drop 1⟩:VA) (NL c (k+1)).length (flR (NL c (k+1)) (z.drop 1));rw[jX hpos rfl,<-e2];exact congrArg (fun l=>[(b,HO.cells l)]) (z1H rfl hun rfl (by omega))
 ·have h:k=c.binds.length:=by have h:=of_decide_eq_false h0;simp only at h;omega
  clear h0;subst h;have e1:NL c c.binds.length=gNm c:=by simp[NL,gNm]
  simp only[e1] at hG hlen⊢;refine Wsem.cut _ ?_ (zNU c v (gNm c).length (blk v (gNm c).length (flR (gNm c) v.z)) _ ⟨v,hG,rfl,rfl⟩ ha hv);rw[List.take_length];exact⟨⟨rfl,rfl,trivial⟩,trivial,rfl⟩
theorem zXF (c:Cr) (hk:c.kids.length<=1000000) (hb:c.binds.length<=1000000) (ha:c.alts.length<=1000000) (hv:∀a∈c.alts,a.2.1.length<=1000000):CallsG Tryz.prog (fnv jJ) [] [.ptr (eC c).cells] [] fun r _ h=>zST c r h:=by
 refine zM (first:=[]) (cap:=[]) ttok mixed Tryz.func57 rfl (by rfl) rfl (Nat.le_of_ble_eq_true rfl) (by kernel_rfl) ?_;refine Wsem.seq ttok mixed ?_;refine Wsem.seq ttok mixed ?_;refine Wsem.nilBox 3 0 rfl rfl ?_;refine Wsem.seq ttok mixed ?_;refine⟨{k:Nat // k<=c.kids.length},fun k=>{vs:=[(0,.v (.ptr (eC c).cells)),(3,.box 0 (eG0 (.lit (.slice none 0 0)) ((c.kids.take k.1).map ptK))),(16,sv (c.kids.length:Nat)),(17,sv (k.1:Nat))],ow:=[(3,1,2)]},
  fun k=>c.kids.length-k.1,⟨0,Nat.zero_le _⟩,⟨⟨rfl,rfl,svc (by rw[z3Z]),rfl,trivial⟩,⟨trivial,trivial⟩,rfl⟩,?_⟩
 rintro⟨k,hkk⟩;refine⟨fun h=>?_,fun h=>?_⟩
 ·have h:k<c.kids.length:=by have h:=of_decide_eq_true h;simp only at h;omega
  refine⟨_,by omega,z1S h,rfl,?_⟩;refine⟨by simp;omega,jB _ (fun _=>rfl) _,qK rfl,?_⟩;refine⟨by kernel_rfl,?_⟩;refine⟨⟨k+1,h⟩,by simp;omega,⟨rfl,?_,rfl,svc (hcut h hk),trivial⟩,⟨rfl,trivial⟩,rfl⟩;exact congrArg (fun l=>SV.box 0 (eG0 (.lit (.slice none 0 0)) l)) (zSG (f:=ptK) h)
 ·have h:k=c.kids.length:=by have h:=of_decide_eq_false h;simp only at h;omega
  subst h;rw[List.take_length];refine Wsem.seqS (Wsem.seq ttok mixed ?_);refine Wsem.cond rfl (fun h5=>?_) (fun h5=>?_)
  ·have h5:c.f=5:=of_decide_eq_true h5;have hnm:nmK c=[.ptr ((eC c).cells.drop 2)]:=by unfold nmK;rw[if_pos h5]
   refine Wsem.regionTA (qA ttok).two ttok mixed [0,1,2,3,4,5,6,7,8] [false,false,false,false,false,false,true] (by kernel_rfl) ?_;refine⟨by simp,by simp,qK rfl,rfl,rfl,fun b' cap' zs g1 g2=>?_⟩;refine⟨by kernel_rfl,?_⟩;have g1':1<=cap':=g1;have g2':zs.length=(cap'-1)*1:=g2;refine Wsem.cut _ ?_ (zFY c ⟨some ⟨b',0,none⟩,cap',zs⟩ (.inr ⟨by rw[hnm];exact Nat.zero_lt_one,b',rfl,by rw[hnm];exact g1',by rw[hnm];simp only[List.length_cons,List.length_nil];omega⟩) hb hk ha hv);refine⟨⟨rfl,?_,trivial⟩,⟨rfl,trivial⟩,?_⟩
   ·show SV.box 0 (eG0 (.lit (.slice (some ⟨b',0,none⟩) (0+1) cap')) (c.kids.map ptK))=SV.box 0 (eG0 (slA _ (nmK c).length) (c.kids.map ptK));rw[hnm];rfl
   ·show ([]:List (Nat×HO))++[(b',HO.cells ([]++([AV.ptr ((eC c).cells.drop 2)].flatMap AV.cells++zs)))]=blk _ (nmK c).length (flR (nmK c) zs);rw[hnm];rfl
  ·have h5:¬c.f=5:=of_decide_eq_false h5;have hnm:nmK c=[]:=by unfold nmK;rw[if_neg h5]
   refine Wsem.of ttok mixed ?_;refine Wsem.cut _ ?_ (zFY c ⟨none,0,[]⟩ (.inl ⟨by rw[hnm];rfl,rfl,rfl⟩) hb hk ha hv);refine⟨⟨rfl,?_,trivial⟩,⟨rfl,trivial⟩,?_⟩
   ·rw[hnm];rfl
   ·rw[hnm];rfl
theorem zVG {c:Cr}:∀x∈gNm c,∀a∈x.cells,a.isCell=true:=fun x hx a ha=>by
 have:∃l,x = .ptr l:=by
  rcases List.mem_append.1 hx with h|h
  ·unfold nmK at h;split at h
   ·simp at h;exact⟨_,h⟩
   ·cases h
  ·obtain⟨b,_,rfl⟩:=List.mem_map.1 h;exact⟨_,rfl⟩
 obtain⟨l,rfl⟩:=this;simp[AV.cells] at ha;subst ha;rfl
theorem zVI (c:Cr) (hk:c.kids.length<=1000000) (hb:c.binds.length<=1000000) (ha:c.alts.length<=1000000) (hv:∀a∈c.alts,a.2.1.length<=1000000):zF Tryz.prog jJ [.ptr (eC c).cells] (.sl (gS c)):=by
 refine CallsG.pure ((zXF c hk hb ha hv).less0 (post':=fun r o h=>o=0/\zST c r h) fun r o h hp=>⟨h,[],by simp,rfl,hp⟩) ?_;rintro r o h ⟨rfl,v,hG,rfl,rfl⟩;refine⟨?_,rfl⟩;have hun:Uni 1 (gNm c):=zAM (zRD c) (jB _ (fun _=>rfl) _);have hf:=hG.frz hun zVG (blk v (gNm c).length (flR (gNm c) v.z)) fun x hx=>hx;refine .sls _ _ rfl (fun i x y hx hy=>?_) (fun x hx c2 hc2=>?_) (fun i x y j a b hx hy hxa hyb=>?_)
 ·cases i with
  | zero=>simp[gS] at hx hy;subst hx;subst hy;rfl
  | succ i =>
   have hx:(c.alts.map gA)[i]? = some x:=hx;have hy:(c.alts.map gA)[i]? = some y:=hy;rw[hx] at hy;injection hy with hy;subst hy;rfl
 ·have:∃p q,x = .agg [.sl p,.sl q]:=by
   rcases List.mem_cons.1 hx with rfl|hx
   ·exact⟨_,_,rfl⟩
   ·obtain⟨a,_,rfl⟩:=List.mem_map.1 hx;exact⟨_,_,rfl⟩
  obtain⟨p,q,rfl⟩:=this;simp[AV.cells] at hc2;rcases hc2 with rfl|rfl<;>rfl
 ·cases i with
  | zero =>
   simp[gS] at hx hy;subst hx;subst hy
   match j with
   | 0=>simp[AV.cells] at hxa hyb;subst hxa;subst hyb;exact hf
   | 1=>simp[AV.cells] at hxa hyb;subst hxa;subst hyb;exact .refl _
   | j+2=>simp[AV.cells] at hxa
  | succ i =>
   have hx:(c.alts.map gA)[i]? = some x:=hx;have hy:(c.alts.map gA)[i]? = some y:=hy;rw[hx] at hy;injection hy with hy;subst hy;rw[hxa] at hyb;injection hyb with hyb;subst hyb;exact .refl _
theorem zAZ (l:List ByteArray):(eSs l).length=l.length:=by simp[eSs]
abbrev zWS (out l:List ByteArray):Prop:=CallsG Tryz.prog (fnv zO5) [] [.sl (eSs out),.sl (eSs l)] [2,0] fun r o h=>r = .sl (eSs (zC no out l))/\o=2/\h=[]
theorem zB5 (out l:List ByteArray) (ho:out.length<=2000000) (hl:l.length<=2000000):zWS out l:=by
 refine zN5 ttok mixed Tryz.func84 rfl (by rfl) (by rfl) (Nat.le_of_ble_eq_true rfl) (Nat.le_of_ble_eq_true rfl) (by kernel_rfl) ?_;refine⟨{k:Nat // k<=l.length},fun k=>{vs:=[(0,.v (.sl (eSs (zC no out (l.take k.1))))),(7,.v (.sl (eSs l))),(8,sv (l.length:Nat)),(9,sv (k.1:Nat))],ow:=[(0,0,2)]},
  fun k=>l.length-k.1,⟨0,Nat.zero_le _⟩,⟨⟨rfl,rfl,svc (by rw[zAZ]),rfl,trivial⟩,⟨rfl,trivial⟩,rfl⟩,?_⟩
 rintro⟨k,hk⟩;have hlen:=zO no (l.take k) out;have hlk:(l.take k).length<=l.length:=by simp;omega
 refine⟨fun h=>?_,fun h=>?_⟩
 ·have h:k<l.length:=by have h:=of_decide_eq_true h;simp only at h;omega
  have e1:=zDD (p:=no) (out:=out) h;refine⟨_,by omega,zNQ h,rfl,?_⟩;refine .inl ⟨_,yS (l:=zC no out (l.take k)) (s:=l[k]) (by omega),?_⟩;refine⟨fun h1=>?_,fun h1=>?_⟩
  ·have h1:memb l[k] (zC no out (l.take k))=false:=by simpa using h1
   refine⟨by rw[zAZ];simp only[List.length_cons,List.length_nil];omega,xU _,qK rfl,?_⟩;refine⟨⟨k+1,h⟩,by simp;omega,⟨?_,rfl,rfl,svc (wrap_succ (k:=k) (by omega)),trivial⟩,⟨rfl,trivial⟩,rfl⟩;have:zC no out (l.take (k+1))=zC no out (l.take k)++[l[k]]:=by rw[e1];exact zCU h1 rfl
   show SV.v (AV.sl (eSs (zC no out (l.take k))++[.lit (.string l[k])]))=SV.v (AV.sl (eSs (zC no out (l.take (k+1)))));rw[this,zVO]
  ·have h1:memb l[k] (zC no out (l.take k))=true:=by simpa using h1
   refine⟨⟨k+1,h⟩,by simp;omega,⟨?_,rfl,rfl,svc (wrap_succ (k:=k) (by omega)),trivial⟩,⟨rfl,trivial⟩,rfl⟩;show SV.v (AV.sl (eSs (zC no out (l.take k))))=SV.v (AV.sl (eSs (zC no out (l.take (k+1)))));rw[e1,zCJ (.inl h1)]
 ·have h:k=l.length:=by have h:=of_decide_eq_false h;simp only at h;omega
  subst h;rw[List.take_length];exact⟨rfl,rfl,rfl⟩
theorem zOS {α:Type} (l:List α) (g:α->Bool):∃i:Int,((∃k:Nat,i=k/\∃h:k<l.length,g l[k]=true/\∀j (hj:j<l.length),j<k->g l[j]=false)∨(i = -1/\∀x∈l,g x=false))/\decide (0<=i)=l.any g:=by
 induction l with
 | nil=>exact⟨-1,.inr ⟨rfl,by simp⟩,rfl⟩
 | cons x l ih =>
  cases hx:g x with
  | true=>exact⟨0,.inl ⟨0,rfl,by simp,hx,fun j hj h=>by omega⟩,by simp[hx]⟩
  | false =>
   obtain⟨i,h1,h2⟩:=ih;rcases h1 with⟨k,rfl,h,hk,hj⟩|⟨rfl,h1⟩
   ·refine⟨((k+1:Nat):Int),.inl ⟨k+1,rfl,by simp;omega,by simpa using hk,fun j hjl hjk=>?_⟩,?_⟩
    ·match j with
     | 0=>exact hx
     | j+1=>simpa using hj j (by simpa using hjl) (by omega)
    ·rw[List.any_cons,hx,Bool.false_or,<-h2];simp;omega
   ·refine⟨-1,.inr ⟨rfl,fun y hy=>?_⟩,by rw[List.any_cons,hx,Bool.false_or,<-h2]⟩;rcases List.mem_cons.1 hy with rfl|hy
    ·exact hx
    ·exact h1 y hy
def NamesAt (l:List AV) (ns:List ByteArray):Prop:=l.length=ns.length/\∀(i:Nat) a s,l[i]? = some a->ns[i]? = some s->∃tl,a = .ptr (.lit (.string s)::tl)
theorem NamesAt.at {l:List AV} {ns:List ByteArray} (h:NamesAt l ns) {k:Nat} (hk:k<ns.length):∃tl,l[k]? = some (.ptr (.lit (.string ns[k])::tl)):=by
 have hk':k<l.length:=by rw[h.1];exact hk
 obtain⟨tl,h2⟩:=h.2 k _ _ (List.getElem?_eq_getElem hk') (List.getElem?_eq_getElem hk);exact⟨tl,by rw[List.getElem?_eq_getElem hk',h2]⟩
theorem zT1 (tl:List AV) (n s:ByteArray) (ts:List AV):zF Tryz.prog 83 [.ptr (.lit (.string n)::tl),.ptr (.lit (.string s)::ts)] (.sb (decide (n=s))):=by
 refine zD ttok mixed Tryz.func83 rfl (by rfl) (Nat.le_of_ble_eq_true rfl) (by kernel_rfl) ?_;refine⟨by kernel_rfl,?_⟩;exact rfl
theorem zH0 (l:List AV) (ns:List ByteArray) (hn:NamesAt l ns) (hu:Uni 1 l) (s:ByteArray) (ts:List AV) (hl:ns.length<10000000) :
  zF Tryz.prog wV [.sl l,.fn (.func 83) [] [.ptr (.lit (.string s)::ts)]] (.sb (memb s ns)):=by
 obtain⟨i,hi,hd⟩:=zOS ns (fun n=>decide (n=s));have hany:ns.any (fun n=>decide (n=s))=memb s ns:=by
  rw[Bool.eq_iff_iff,List.any_eq_true,memb_iff];constructor
  ·rintro⟨x,h1,h2⟩;rw[of_decide_eq_true h2] at h1;exact h1
  ·intro h;exact⟨s,h,by simp⟩
 have hI:zF Tryz.prog qX [.sl l,.fn (.func 83) [] [.ptr (.lit (.string s)::ts)]] (.lit (.int .i64 i)):=by
  refine zD ttok mixed Tryz.func124 rfl (by rfl) (Nat.le_of_ble_eq_true rfl) (by kernel_rfl) ?_;refine⟨{k:Nat // k<=ns.length/\∀j (hj:j<ns.length),j<k->decide (ns[j]=s)=false},fun k=>{vs:=[(0,.v (.sl l)),(1,.v (.fn (.func 83) [] [.ptr (.lit (.string s)::ts)])),(6,.v (.sl l)),(7,sv (ns.length:Nat)),(8,sv (k.1:Nat))]},
   fun k=>ns.length-k.1,⟨0,Nat.zero_le _,fun j hj h=>by omega⟩,⟨⟨rfl,rfl,rfl,svc (by rw[hn.1]),rfl,trivial⟩,trivial,rfl⟩,?_⟩
  rintro⟨k,hk,hinv⟩;refine⟨fun h=>?_,fun h=>?_⟩
  ·have h:k<ns.length:=by have h:=of_decide_eq_true h;simp only at h;omega
   obtain⟨tl,hge⟩:=hn.at h;refine⟨_,by omega,hge,rfl,?_⟩;refine .inl ⟨_,zT1 tl ns[k] s ts,?_⟩;refine⟨fun h2=>?_,fun h2=>?_⟩
   ·have hi':i=k:=by
     rcases hi with⟨k',rfl,h3,h4,h5⟩|⟨_,h3⟩
     ·rcases Nat.lt_trichotomy k k' with q|q|q
      ·have:=h5 k h q;rw[h2] at this;cases this
      ·rw[q]
      ·have:=hinv k' h3 q;rw[h4] at this;cases this
     ·have:=h3 _ (List.getElem_mem h);rw[h2] at this;cases this
    subst hi';exact rfl
   ·refine⟨⟨k+1,h,fun j hjl hj=>?_⟩,by simp;omega,⟨rfl,rfl,rfl,rfl,svc (wrap_succ (k:=k) (by omega)),trivial⟩,trivial,rfl⟩;rcases Nat.lt_or_ge j k with hlt|hge
    ·exact hinv j hjl hlt
    ·have:j=k:=by omega
     subst this;exact h2
  ·have h:k=ns.length:=by have h:=of_decide_eq_false h;simp only at h;omega
   have hi':i = -1:=by
    rcases hi with⟨k',rfl,h3,h4,h5⟩|⟨h3,_⟩
    ·have:=hinv k' h3 (by omega);rw[h4] at this;cases this
    ·exact h3
   subst hi';exact rfl
 rw[<-hany,<-hd];refine zD ttok mixed Tryz.func82 rfl (by rfl) (Nat.le_of_ble_eq_true rfl) (by kernel_rfl) ?_;exact .inl ⟨_,hI,rfl⟩
abbrev zBH (ns:List ByteArray) (out:List ByteArray) (ps:List Cr):List ByteArray:=ps.foldl (fun o p=>zC (fun y=>memb y ns) o p.fv) out
abbrev z19 (out:List ByteArray) (ls:List Alg):List ByteArray:=ls.foldl (fun o a=>zC (fun y=>memb y a.2.1) o a.2.2.fv) out
theorem zY9 (ns:List ByteArray) (g:Cr):∀out,g.isN=false->g.Ok->(g.alts≠[]->ns=[])->zC (fun y=>memb y ns) out g.fv=z19 (zBH ns out g.parts0) g.alts:=by
 induction g with
 | nil=>intro out _ _ _;rfl
 | node=>intro out h;cases h
 | kid p r _ ih =>
  intro out _ ho hn;show zC _ out (zC no p.fv r.fv)=_;rw[y9 _ no (fun y=>memb y ns) (fun s=>by simp[no]),ih _ ho.2.1 ho.2.2.2 hn]
  rfl
 | bind x t p r _ ih =>
  intro out _ ho hn;show zC _ out (zC no p.fv r.fv)=_;rw[y9 _ no (fun y=>memb y ns) (fun s=>by simp[no]),ih _ ho.2.1 ho.2.2.2.2 hn];simp only[Cr.parts0,Cr.kids,Cr.binds,Cr.alts,ho.2.2.1,List.nil_append,List.map_cons,zBH,List.foldl_cons]
 | alt f n s vs p r _ ih =>
  intro out _ ho hn;have hn0:=hn (by simp[Cr.alts]);subst hn0;show zC _ out (zC no (zC (fun y=>memb y vs) [] p.fv) r.fv)=_;rw[y9 _ no (fun y=>memb y []) (fun s=>by simp[no]),ih _ ho.2.1 ho.2.2.2.2.2.2 (fun _=>rfl)];rw[y9 _ (fun y=>memb y vs) (fun y=>memb y vs) (fun s=>by simp[memb])];simp only[Cr.parts0,Cr.kids,Cr.binds,Cr.alts,ho.2.2.1,ho.2.2.2.1,List.nil_append,List.map_nil,zBH,List.foldl_nil,z19,List.foldl_cons,zCV]
theorem z0Z {c:Cr} (hN:c.isN=true) (ho:c.Ok) (h1:c.f≠1):c.fv=z19 (zBH c.names0 [] c.parts0) c.alts:=by
 cases c with
 | node f n s t g =>
  have h1':¬f=1:=h1;show (if f=1 then [s] else _)=_;rw[if_neg h1'];exact zY9 _ g [] (xQ ho).1 (xQ ho).2 fun hne=>zQF ho hne
 | _=>cases hN
def Cr.Few:Cr->Prop
 | .nil=>True
 | .node _ _ _ _ g=>g.Few
 | .kid p r=>p.Few/\r.Few
 | .bind _ _ p r=>p.Few/\r.Few
 | .alt _ _ _ vs p r=>vs.length<=10000/\p.Few/\r.Few
theorem Cr.Few.kid {c p:Cr} (h:c.Few) (hp:p∈c.kids):p.Few:=by
 induction c with
 | nil=>cases hp
 | node f n s t g ih=>exact ih h hp
 | kid q r _ ih=>rcases List.mem_cons.1 hp with rfl|hp;exact h.1;exact ih h.2 hp
 | bind x t q r _ ih=>exact ih h.2 hp
 | alt f n s vs q r _ ih=>exact ih h.2.2 hp
theorem Cr.Few.bind {c:Cr} {b:Bdg} (h:c.Few) (hp:b∈c.binds):b.2.2.Few:=by
 induction c with
 | nil=>cases hp
 | node f n s t g ih=>exact ih h hp
 | kid q r _ ih=>exact ih h.2 hp
 | bind x t q r _ ih=>rcases List.mem_cons.1 hp with rfl|hp;exact h.1;exact ih h.2 hp
 | alt f n s vs q r _ ih=>exact ih h.2.2 hp
theorem Cr.Few.alt {c:Cr} {a:Alg} (h:c.Few) (hp:a∈c.alts):a.2.2.Few/\a.2.1.length<=10000:=by
 induction c with
 | nil=>cases hp
 | node f n s t g ih=>exact ih h hp
 | kid q r _ ih=>exact ih h.2 hp
 | bind x t q r _ ih=>exact ih h.2 hp
 | alt f n s vs q r _ ih=>rcases List.mem_cons.1 hp with rfl|hp;exact⟨h.2.1,h.1⟩;exact ih h.2.2 hp
theorem zAC {c:Cr} (h:c.isN=true):0<c.sz:=by cases c<;>first|(cases h;done)|(simp[Cr.sz];omega)
theorem zAG (g:Cr):g.Ok->g.kids.length+g.binds.length+g.alts.length<=g.sz:=by
 induction g with
 | nil=>intro _;simp[Cr.kids,Cr.binds,Cr.alts]
 | node f n s t g ih=>intro ho;have:=ih (xQ ho).2;simp only[Cr.kids,Cr.binds,Cr.alts,Cr.sz];omega
 | kid p r _ ih=>intro ho;have:=ih ho.2.2.2;have:=zAC ho.1;simp only[Cr.kids,Cr.binds,Cr.alts,Cr.sz,List.length_cons];omega
 | bind x t p r _ ih=>intro ho;have:=ih ho.2.2.2.2;have:=zAC ho.1;simp only[Cr.kids,Cr.binds,Cr.alts,Cr.sz,List.length_cons];omega
 | alt f n s vs p r _ ih=>intro ho;have:=ih ho.2.2.2.2.2.2;have:=zAC ho.1;simp only[Cr.kids,Cr.binds,Cr.alts,Cr.sz,List.length_cons];omega
theorem zEV (c:Cr):c.fv.length<=c.sz:=by
 induction c with
 | nil=>simp[Cr.fv]
 | node f n s t g ih =>
  simp only[Cr.fv,Cr.sz];split
  ·simp
  ·have:=zO (fun y=>memb y (Cr.node f n s t g).names0) g.fv [];simp at this;omega
 | kid p r ihp ihr=>have:=zO no r.fv p.fv;simp only[Cr.fv,Cr.sz];omega
 | bind x t p r ihp ihr=>have:=zO no r.fv p.fv;simp only[Cr.fv,Cr.sz];omega
 | alt f n s vs p r ihp ihr =>
  have h1:=zO no r.fv (zC (fun y=>memb y vs) [] p.fv);have h2:=zO (fun y=>memb y vs) p.fv [];simp only[List.length_nil] at h2;simp only[Cr.fv,Cr.sz];omega
def gD (c:Cr):List (List ByteArray×List AV×List Cr):=(c.names0,gNm c,c.parts0)::c.alts.map fun a=>(a.2.1,a.2.1.map nmV,[a.2.2])
def eGd (g:List ByteArray×List AV×List Cr):AV := .agg [.sl g.2.1,.sl (g.2.2.map ptK)]
theorem z1J (c:Cr):gS c=(gD c).map eGd:=by
 unfold gS gD;rw[List.map_cons,List.map_map]
 congr 1
 unfold eGd gNm Cr.parts0;rw[List.map_append,List.map_map]
 rfl
theorem z16 {c:Cr} (hN:c.isN=true):NamesAt (gNm c) c.names0:=by
 cases c with
 | node f n s t g =>
  have hb:∀(l:List Bdg) (i:Nat) a x,(l.map nmB)[i]? = some a->(l.map (·.1))[i]? = some x->∃tl,a = .ptr (.lit (.string x)::tl):=fun l i a x ha hx=>by
   rw[List.getElem?_map] at ha hx;cases hl:l[i]? with
   | none=>rw[hl] at ha;cases ha
   | some b =>
    rw[hl] at ha hx;simp only[Option.map_some,Option.some.injEq] at ha hx;subst ha;subst hx;exact⟨_,rfl⟩
  by_cases h5:f=5
  ·have e1:nmK (.node f n s t g)=[.ptr ((eC (.node f n s t g)).cells.drop 2)]:=by unfold nmK;rw[if_pos (show (Cr.node f n s t g).f=5 from h5)]
   have e2:(Cr.node f n s t g).own=[s]:=by simp[Cr.own,h5]
   unfold gNm Cr.names0;rw[e1,e2];refine⟨by simp,fun i a x ha hx=>?_⟩;cases i with
   | zero=>simp at ha hx;subst ha;subst hx;exact⟨_,rfl⟩
   | succ i=>exact hb _ i a x (by simpa using ha) (by simpa using hx)
  ·have e1:nmK (.node f n s t g)=[]:=by unfold nmK;rw[if_neg (show ¬(Cr.node f n s t g).f=5 from h5)]
   have e2:(Cr.node f n s t g).own=[]:=by simp[Cr.own,h5]
   unfold gNm Cr.names0;rw[e1,e2];exact⟨by simp,fun i a x ha hx=>hb _ i a x (by simpa using ha) (by simpa using hx)⟩
 | _=>cases hN
theorem z3Q (vs:List ByteArray):NamesAt (vs.map nmV) vs:=⟨by simp,fun i a s ha hs=>by
 rw[List.getElem?_map,hs] at ha;simp at ha;subst ha;exact⟨[],rfl⟩⟩
structure z6C (N:Nat) (g:List ByteArray×List AV×List Cr):Prop where
 names:NamesAt g.2.1 g.1
 uni:Uni 1 g.2.1
 few:g.1.length<=1000000
 parts:∀p∈g.2.2,p.isN=true/\p.Ok/\p.Few/\p.sz<=N
 many:g.2.2.length<=1000000
theorem z5G {c:Cr} {N:Nat} (hN:c.isN=true) (ho:c.Ok) (hf:c.Few) (hs:c.sz<=N+1) (hn:N<900000):∀g∈gD c,z6C N g:=by
 have hl:=zAG c ho;have hpart:∀p,p∈c.kids->p.isN=true/\p.Ok/\p.Few/\p.sz<=N:=fun p hp=>⟨(ho.kid hp).1,(ho.kid hp).2,hf.kid hp,by have:=zNN hp;rw[hN] at this;simp at this;omega⟩
 have hpartb:∀b,b∈c.binds->b.2.2.isN=true/\b.2.2.Ok/\b.2.2.Few/\b.2.2.sz<=N:=fun b hp=>⟨(ho.bind hp).1,(ho.bind hp).2,hf.bind hp,by have:=zH6 hp;rw[hN] at this;simp at this;omega⟩
 intro g hg;rcases List.mem_cons.1 hg with rfl|hg
 ·refine⟨z16 hN,zAM (zRD c) (jB _ (fun _=>rfl) _),?_,fun p hp=>?_,?_⟩
  ·show c.names0.length<=_;have:c.own.length<=1:=by cases c<;>simp[Cr.own];split<;>simp
   simp[Cr.names0];omega
  ·rcases List.mem_append.1 hp with hp|hp
   ·exact hpart p hp
   ·obtain⟨b,hb,rfl⟩:=List.mem_map.1 hp;exact hpartb b hb
  ·show c.parts0.length<=_;simp[Cr.parts0];omega
 ·obtain⟨a,ha,rfl⟩:=List.mem_map.1 hg;refine⟨z3Q _,jB _ (fun _=>rfl) _,Nat.le_trans (hf.alt ha).2 (by decide),fun p hp=>?_,by simp⟩;simp at hp;subst hp;exact⟨(ho.alt ha).1,(ho.alt ha).2.1,(hf.alt ha).1,by have:=zMV ha;rw[hN] at this;simp at this;omega⟩
abbrev stepG (out:List ByteArray) (g:List ByteArray×List AV×List Cr):List ByteArray:=zBH g.1 out g.2.2
theorem z1G {c:Cr} (hN:c.isN=true) (ho:c.Ok) (h1:c.f≠1):c.fv=(gD c).foldl stepG []:=by
 rw[z0Z hN ho h1];unfold gD;rw[List.foldl_cons,List.foldl_map]
 rfl
theorem zL3 {ns out:List ByteArray} {ps:List Cr} {k:Nat} (h:k<ps.length):zBH ns out (ps.take (k+1))=zC (fun y=>memb y ns) (zBH ns out (ps.take k)) ps[k].fv:=by
 rw[List.take_succ_eq_append_getElem h,zBH,List.foldl_append];rfl
theorem zJ5 {c:Cr} {k:Nat} (h:k<(gD c).length):((gD c).take (k+1)).foldl stepG []=stepG (((gD c).take k).foldl stepG []) (gD c)[k]:=by
 rw[List.take_succ_eq_append_getElem h,List.foldl_append];rfl
theorem z2R (c:Cr):(gD c).length=c.alts.length+1:=by simp[gD]
theorem z4T {c:Cr} {k:Nat} (h:k<(gD c).length):(gS c)[k]? = some (eGd (gD c)[k]):=by rw[z1J,List.getElem?_map,List.getElem?_eq_getElem h];rfl
theorem z5N {l:List Cr} {k:Nat} (h:k<l.length):(l.map ptK)[k]? = some (ptK l[k]):=by rw[List.getElem?_map,List.getElem?_eq_getElem h];rfl
theorem zFZ (ns:List ByteArray):∀(ps:List Cr) (out:List ByteArray),(∀x∈out,x∈zBH ns out ps)/\(out.Nodup->(zBH ns out ps).Nodup)
 | [],out=>⟨fun _ h=>h,id⟩
 | p::ps,out=>by
  obtain⟨h1,h2⟩:=zFZ ns ps (zC (fun y=>memb y ns) out p.fv);exact⟨fun x hx=>h1 x (zKL _ _ _ x hx),fun h=>h2 (qV h)⟩
theorem zG1:∀(l:List (List ByteArray×List AV×List Cr)) (out:List ByteArray),(∀x∈out,x∈l.foldl stepG out)/\(out.Nodup->(l.foldl stepG out).Nodup)
 | [],out=>⟨fun _ h=>h,id⟩
 | g::l,out=>by
  obtain⟨h1,h2⟩:=zG1 l (stepG out g);obtain⟨h3,h4⟩:=zFZ g.1 g.2.2 out;exact⟨fun x hx=>h1 x (h3 x hx),fun h=>h2 (h4 h)⟩
theorem z3C {c:Cr} (hN:c.isN=true) (ho:c.Ok) (h1:c.f≠1) {i j:Nat} (hi:i<(gD c).length) (hj:j<(gD c)[i].2.2.length) (k:Nat) :
  (zC (fun y=>memb y (gD c)[i].1) (zBH (gD c)[i].1 (((gD c).take i).foldl stepG []) ((gD c)[i].2.2.take j)) ((gD c)[i].2.2[j].fv.take k)).length<=c.sz:=by
 refine Nat.le_trans (zEB _ c.fv ?_ fun x hx=>?_) (zEV c)
 ·exact qV ((zFZ _ _ _).2 ((zG1 _ _).2 List.nodup_nil))
 ·rw[z1G hN ho h1];have e1:x∈zBH (gD c)[i].1 (((gD c).take i).foldl stepG []) ((gD c)[i].2.2.take (j+1)):=by
   rw[zL3 hj];have:(gD c)[i].2.2[j].fv=(gD c)[i].2.2[j].fv.take k++(gD c)[i].2.2[j].fv.drop k:=(List.take_append_drop _ _).symm;rw[this,yE];exact zKL _ _ _ x hx
  have e2:x∈((gD c).take (i+1)).foldl stepG []:=by
   rw[zJ5 hi];have:(gD c)[i].2.2=(gD c)[i].2.2.take (j+1)++(gD c)[i].2.2.drop (j+1):=(List.take_append_drop _ _).symm;show x∈zBH _ _ _;rw[this,zBH,List.foldl_append];exact (zFZ _ _ _).1 x e1
  have:gD c=(gD c).take (i+1)++(gD c).drop (i+1):=(List.take_append_drop _ _).symm;rw[this,List.foldl_append];exact (zG1 _ _).1 x e2
theorem zPQ (N:Nat) (hn:N<900000) (c:Cr) (hN:c.isN=true) (ho:c.Ok) (hf:c.Few) (hs:c.sz<=N+1) (ih:∀p:Cr,p.isN=true->p.Ok->p.Few->p.sz<=N->zF Tryz.prog qI [eC p] (.sl (eSs p.fv))):zF Tryz.prog qI [eC c] (.sl (eSs c.fv)):=by
 have hl:=zAG c ho;have hgd:=z5G hN ho hf hs (by omega);refine zEO ttok mixed Tryz.func36 rfl (by rfl) (Nat.le_of_ble_eq_true rfl) (by kernel_rfl) ?_;refine Wsem.seq ttok mixed ?_;refine Wsem.seq ttok mixed ?_;refine⟨fun h=>?_,fun h=>?_⟩
 ·have h:c.f=1:=of_decide_eq_true h;have:c.fv=[c.s]:=by
   cases c with
   | node f n s t g=>have h:f=1:=h;subst h;exact z3M _ _ _ _
   | _=>cases hN
  rw[this];exact rfl
 ·have h1:¬c.f=1:=of_decide_eq_false h;have hgr:=zVI c (by omega) (by omega) (by omega) (fun a ha=>Nat.le_trans (hf.alt ha).2 (by decide));refine Wsem.shut 1 rfl ?_;refine Wsem.seq ttok mixed ?_;refine Wsem.seq ttok mixed ?_;refine .inl ⟨_,hgr,?_⟩;have hG0:(gS c).length=(gD c).length:=by rw[z1J];simp
  refine⟨{i:Nat // i<=(gD c).length},fun i=>{vs:=[(3,.v (.sl (eSs (((gD c).take i.1).foldl stepG [])))),(16,.v (.sl (gS c))),(17,sv ((gD c).length:Nat)),(18,sv (i.1:Nat))],ow:=[(3,0,2)]},
   fun i=>(gD c).length-i.1,⟨0,Nat.zero_le _⟩,⟨⟨rfl,rfl,svc (by rw[hG0]),rfl,trivial⟩,⟨trivial,trivial⟩,rfl⟩,?_⟩
  rintro⟨i,hi⟩;have hgl:=z2R c;refine⟨fun h=>?_,fun h=>?_⟩
  ·have h:i<(gD c).length:=by have h:=of_decide_eq_true h;simp only at h;omega
   obtain⟨hnm,hun,hfew,hps,hmany⟩:=hgd _ (List.getElem_mem h);have hacc:=fun j hj k=>z3C hN ho h1 h (j:=j) hj k;have hst:=zJ5 h;have hget:=z4T h;generalize hg:(gD c)[i]=g at hnm hun hfew hps hmany hacc hst hget;obtain⟨ns,nm,ps⟩:=g;simp only at hnm hun hfew hps hmany hacc hst;generalize hout:((gD c).take i).foldl stepG []=out at hacc hst;refine⟨_,by omega,hget,rfl,?_⟩;refine⟨{j:Nat // j<=ps.length},fun j=>{vs:=[(3,.v (.sl (eSs (zBH ns out (ps.take j.1))))),(16,.v (.sl (gS c))),(17,sv ((gD c).length:Nat)),(18,sv (i:Nat)),(5,.box 0 (.agg [.sl nm,.sl (ps.map ptK)])),(23,.v (.sl (ps.map ptK))),(24,sv (ps.length:Nat)),(25,sv (j.1:Nat))],ow:=[(3,0,2)]},
    fun j=>ps.length-j.1,⟨0,Nat.zero_le _⟩,⟨⟨?_,rfl,rfl,rfl,rfl,rfl,svc (by simp),rfl,trivial⟩,⟨rfl,trivial⟩,rfl⟩,?_⟩
   ·rfl
   rintro⟨j,hj⟩;refine⟨fun h2=>?_,fun h2=>?_⟩
   ·have h2:j<ps.length:=by have h:=of_decide_eq_true h2;simp only at h;omega
    obtain⟨q1,q2,q3,q4⟩:=hps _ (List.getElem_mem h2);have hacc:=hacc j h2;have hpt:=zL3 (ns:=ns) (out:=out) h2;have hfl:=zEV ps[j];refine⟨_,by omega,z5N h2,rfl,?_⟩;generalize hp:ps[j]=p at q1 q2 q3 q4 hacc hpt hfl;refine .inl ⟨_,ih p q1 q2 q3 q4,?_⟩;refine⟨{k:Nat // k<=p.fv.length},fun k=>{vs:=[(3,.v (.sl (eSs (zC (fun y=>memb y ns) (zBH ns out (ps.take j)) (p.fv.take k.1))))),(16,.v (.sl (gS c))),(17,sv ((gD c).length:Nat)),(18,sv (i:Nat)),(5,.box 0 (.agg [.sl nm,.sl (ps.map ptK)])),(23,.v (.sl (ps.map ptK))),(24,sv (ps.length:Nat)),(25,sv (j:Nat)),(32,.v (.sl (eSs p.fv))),(33,sv (p.fv.length:Nat)),(34,sv (k.1:Nat))],ow:=[(3,0,2)]},
     fun k=>p.fv.length-k.1,⟨0,Nat.zero_le _⟩,⟨⟨rfl,rfl,rfl,rfl,rfl,rfl,rfl,rfl,rfl,svc (by rw[zAZ]),rfl,trivial⟩,⟨rfl,trivial⟩,rfl⟩,?_⟩
    rintro⟨k,hk⟩;refine⟨fun h3=>?_,fun h3=>?_⟩
    ·have h3:k<p.fv.length:=by have h:=of_decide_eq_true h3;simp only at h;omega
     refine⟨_,by omega,zNQ h3,rfl,?_⟩;have hac:=hacc k;have hac1:=hacc (k+1);have e1:=zDD (p:=fun y=>memb y ns) (out:=zBH ns out (ps.take j)) h3;generalize hA:zC (fun y=>memb y ns) (zBH ns out (ps.take j)) (p.fv.take k)=A at hac e1;refine .inl ?_;refine .inl ⟨_,zH0 nm ns hnm hun p.fv[k] [] (by omega),?_⟩;refine⟨fun h4=>?_,fun h4=>?_⟩
     ·have h4:memb p.fv[k] ns=false:=by simpa using h4
      refine .inr (.inr (.inr (.inr (.inl (.inr ⟨rfl,[],[],[2,0],_,rfl,List.nodup_nil,rfl,zB5 A [p.fv[k]] (by omega) (by simp),?_⟩)))));rintro _ _ _ ⟨rfl,rfl,rfl⟩;refine⟨⟨k+1,h3⟩,by simp;omega,⟨?_,rfl,rfl,rfl,rfl,rfl,rfl,rfl,rfl,rfl,svc (wrap_succ (k:=k) (by omega)),trivial⟩,⟨rfl,trivial⟩,rfl⟩;show SV.v (AV.sl (eSs (zC no A [p.fv[k]])))=SV.v (AV.sl (eSs (zC (fun y=>memb y ns) (zBH ns out (ps.take j)) (p.fv.take (k+1)))));rw[e1];show SV.v (AV.sl (eSs (ins no A p.fv[k])))=_;cases hm:memb p.fv[k] A with
      | true=>rw[zCJ (.inl hm),zCJ (.inl hm)]
      | false=>rw[zCU hm rfl,zCU hm h4]
     ·have h4:memb p.fv[k] ns=true:=by simpa using h4
      refine⟨⟨k+1,h3⟩,by simp;omega,⟨?_,rfl,rfl,rfl,rfl,rfl,rfl,rfl,rfl,rfl,svc (wrap_succ (k:=k) (by omega)),trivial⟩,⟨rfl,trivial⟩,rfl⟩;show SV.v (AV.sl (eSs A))=SV.v (AV.sl (eSs (zC (fun y=>memb y ns) (zBH ns out (ps.take j)) (p.fv.take (k+1)))));rw[e1,zCJ (.inr h4)]
    ·have h3:k=p.fv.length:=by have h:=of_decide_eq_false h3;simp only at h;omega
     subst h3;refine⟨⟨j+1,h2⟩,by simp;omega,⟨?_,rfl,rfl,rfl,rfl,rfl,rfl,svc (hcut h2 hmany),trivial⟩,⟨rfl,trivial⟩,rfl⟩;rw[List.take_length,<-hpt];rfl
   ·have h2:j=ps.length:=by have h:=of_decide_eq_false h2;simp only at h;omega
    subst h2;rw[List.take_length];refine⟨⟨i+1,h⟩,by simp;omega,⟨?_,rfl,rfl,svc (wrap_succ (k:=i) (by omega)),trivial⟩,⟨rfl,trivial⟩,rfl⟩;rw[hst];rfl
  ·have h:i=(gD c).length:=by have h:=of_decide_eq_false h;simp only at h;omega
   subst h;rw[List.take_length,<-z1G hN ho h1];refine Wsem.of ttok mixed ?_;exact rfl
theorem zVJ (N:Nat) (hn:N<900000):∀c:Cr,c.isN=true->c.Ok->c.Few->c.sz<=N->zF Tryz.prog qI [eC c] (.sl (eSs c.fv)):=by
 induction N with
 | zero=>intro c hN _ _ hs;have:=zAC hN;omega
 | succ N ih=>exact fun c hN ho hf hs=>zPQ N (by omega) c hN ho hf hs (ih (by omega))
theorem zC8 {c:Cr} (hN:c.isN=true) (ho:c.Ok) (hf:c.Few) (hs:c.sz<900000):zF Tryz.prog qI [eC c] (.sl (eSs c.fv)):=zVJ c.sz hs c hN ho hf (Nat.le_refl _)
def Cr.tn:Cr->Nat
 | .nil=>0
 | .node _ _ _ t g=>t.sz+g.tn
 | .kid p r=>p.tn+r.tn
 | .bind _ t p r=>t.sz+p.tn+r.tn
 | .alt _ _ _ _ p r=>p.tn+r.tn
theorem z2K {c p:Cr} (hp:p∈c.kids):p.tn<=c.tn:=by
 induction c with
 | nil=>cases hp
 | node f n s t g ih=>have:=ih hp;simp only[Cr.tn];omega
 | kid q r _ ih=>simp only[Cr.tn];rcases List.mem_cons.1 hp with rfl|hp;omega;have:=ih hp;omega
 | bind x t q r _ ih=>have:=ih hp;simp only[Cr.tn];omega
 | alt f n s vs q r _ ih=>have:=ih hp;simp only[Cr.tn];omega
theorem zZK {c:Cr} {b:Bdg} (hp:b∈c.binds):b.2.1.sz+b.2.2.tn<=c.tn:=by
 induction c with
 | nil=>cases hp
 | node f n s t g ih=>have:=ih hp;simp only[Cr.tn];omega
 | kid q r _ ih=>have:=ih hp;simp only[Cr.tn];omega
 | bind x t q r _ ih=>simp only[Cr.tn];rcases List.mem_cons.1 hp with rfl|hp;simp only;omega;have:=ih hp;omega
 | alt f n s vs q r _ ih=>have:=ih hp;simp only[Cr.tn];omega
theorem z4F {c:Cr} {a:Alg} (hp:a∈c.alts):a.2.2.tn<=c.tn:=by
 induction c with
 | nil=>cases hp
 | node f n s t g ih=>have:=ih hp;simp only[Cr.tn];omega
 | kid q r _ ih=>have:=ih hp;simp only[Cr.tn];omega
 | bind x t q r _ ih=>have:=ih hp;simp only[Cr.tn];omega
 | alt f n s vs q r _ ih=>simp only[Cr.tn];rcases List.mem_cons.1 hp with rfl|hp;simp only;omega;have:=ih hp;omega
theorem z5S {c:Cr} (hN:c.isN=true):c.t.sz<=c.tn:=by cases c<;>first|(cases hN;done)|(simp only[Cr.t,Cr.tn];omega)
def barT (c:Cr):ByteArray->Bool:=fun y=>decide (c.f=7) && decide (y=c.s)
def zQQ (c:Cr):List ByteArray:=fvT c.t++(c.kids.flatMap Cr.tv++(c.binds.flatMap (fun b=>fvT b.2.1++b.2.2.tv)++c.alts.flatMap fun a=>a.2.2.tv))
theorem zZY (P:ByteArray->Bool) (g:Cr):∀out,g.isN=false->g.Ok->(g.binds≠[]∨g.alts≠[]->P=no)->zC P out g.tv=zC P out (g.kids.flatMap Cr.tv++(g.binds.flatMap (fun b=>fvT b.2.1++b.2.2.tv)++g.alts.flatMap fun a=>a.2.2.tv)):=by
 induction g with
 | nil=>intro out _ _ _;rfl
 | node=>intro out h;cases h
 | kid p r _ ih =>
  intro out _ ho hn;show zC _ out (zC no p.tv r.tv)=_;rw[y9 _ no P (fun s=>by simp[no]),ih _ ho.2.1 ho.2.2.2 hn];simp only[Cr.kids,Cr.binds,Cr.alts,List.flatMap_cons,List.append_assoc];rw[yE P out p.tv]
 | bind x t p r _ ih =>
  intro out _ ho hn;have hP:=hn (.inl (by simp[Cr.binds]));subst hP;show zC _ out (zC no (zC no (fvT t) p.tv) r.tv)=_;rw[y9 _ no no (fun s=>by simp[no]),y9 _ no no (fun s=>by simp[no]),ih _ ho.2.1 ho.2.2.2.2 (fun _=>rfl)];simp only[Cr.kids,Cr.binds,Cr.alts,ho.2.2.1,List.flatMap_nil,List.nil_append,List.flatMap_cons,List.append_assoc];rw[yE no out (fvT t),yE no _ p.tv]
 | alt f n s vs p r _ ih =>
  intro out _ ho hn;have hP:=hn (.inr (by simp[Cr.alts]));subst hP;show zC _ out (zC no p.tv r.tv)=_;rw[y9 _ no no (fun s=>by simp[no]),ih _ ho.2.1 ho.2.2.2.2.2.2 (fun _=>rfl)];simp only[Cr.kids,Cr.binds,Cr.alts,ho.2.2.1,ho.2.2.2.1,List.flatMap_nil,List.nil_append,List.flatMap_cons];rw[yE no out p.tv]
theorem zH5 {c:Cr} (h:c.f≠7):barT c=no:=by funext y;simp[barT,h,no]
theorem z2O {c:Cr} (hN:c.isN=true) (ho:c.Ok) (h:c.binds≠[]∨c.alts≠[]):c.f≠7:=by
 cases c with
 | node f n s t g =>
  show f≠7;rcases h with h|h
  ·have:=ho.2.2.2.2.1 h;omega
  ·have:=ho.2.2.2.2.2.1 h;omega
 | _=>cases hN
theorem z4N {c:Cr} (hN:c.isN=true) (ho:c.Ok):zC no [] (fvT c.t)=zC (barT c) [] (fvT c.t):=by
 by_cases h7:c.f=7
 ·cases c with
  | node f n s t g =>
   have:t = .no:=ho.2.2.1 h7;subst this;rfl
  | _=>cases hN
 ·rw[zH5 h7]
theorem z4C {c:Cr} (hN:c.isN=true) (ho:c.Ok):c.tv=zC (barT c) [] (zQQ c):=by
 have h0:=z4N hN ho;have h1:zC no [] (fvT c.t)=fvT c.t:=by have:=zOF (out:=[]) (l:=fvT c.t) (by simpa using zOU c.t);simpa using this
 unfold zQQ;rw[yE,<-h0,h1];cases c with
 | node f n s t g=>exact zZY _ g (fvT t) (xQ ho).1 (xQ ho).2 fun h=>zH5 (z2O rfl ho h)
 | _=>cases hN
theorem jW (c:Cr):c.tv.length<=c.tn:=by
 induction c with
 | nil=>simp[Cr.tv]
 | node f n s t g ih=>have:=zO (fun y=>decide (f=7) && decide (y=s)) g.tv (fvT t);have:=yU t;simp only[Cr.tv,Cr.tn];simp only[fvT] at *;omega
 | kid p r ihp ihr=>have:=zO no r.tv p.tv;simp only[Cr.tv,Cr.tn];omega
 | bind x t p r ihp ihr =>
  have h1:=zO no r.tv (zC no (fvT t) p.tv);have h2:=zO no p.tv (fvT t);have h3:=yU t;simp only[Cr.tv,Cr.tn];simp only[fvT] at *;omega
 | alt f n s vs p r ihp ihr=>have:=zO no r.tv p.tv;simp only[Cr.tv,Cr.tn];omega
theorem zV9 (g:Cr):(g.kids.flatMap Cr.tv++(g.binds.flatMap (fun b=>fvT b.2.1++b.2.2.tv)++g.alts.flatMap fun a=>a.2.2.tv)).length<=g.tn:=by
 induction g with
 | nil=>simp[Cr.kids,Cr.binds,Cr.alts]
 | node f n s t g ih=>simp only[Cr.tn];exact Nat.le_trans ih (by omega)
 | kid p r _ ih=>have:=jW p;simp only[Cr.kids,Cr.binds,Cr.alts,Cr.tn,List.flatMap_cons,List.length_append] at *;omega
 | bind x t p r _ ih=>have:=jW p;have:=yU t;simp only[Cr.kids,Cr.binds,Cr.alts,Cr.tn,List.flatMap_cons,List.length_append,fvT] at *;omega
 | alt f n s vs p r _ ih=>have:=jW p;simp only[Cr.kids,Cr.binds,Cr.alts,Cr.tn,List.flatMap_cons,List.length_append] at *;omega
theorem z0C {c:Cr} (hN:c.isN=true):(zQQ c).length<=c.tn:=by
 cases c with
 | node f n s t g =>
  have h1:=zV9 g;have h2:=yU t;unfold zQQ;rw[List.length_append];show (fv t).length+_<=t.sz+g.tn;exact Nat.add_le_add h2 h1
 | _=>cases hN
theorem zM0 {α β:Type} (F:α->List β) (l:List α) {k:Nat} (h:k<l.length) (j:Nat):((l.take k).flatMap F).length+((F l[k]).take j).length<=(l.flatMap F).length:=by
 have e:l=l.take k++(l[k]::l.drop (k+1)):=by rw[List.getElem_cons_drop,List.take_append_drop]
 have:(l.flatMap F).length=((l.take k).flatMap F).length+((F l[k]).length+((l.drop (k+1)).flatMap F).length):=by
  conv=>lhs;rw[e]
  simp only[List.flatMap_append,List.flatMap_cons,List.length_append]
 have h2:((F l[k]).take j).length<=(F l[k]).length:=by simp;omega
 omega
theorem zGP {α β:Type} (F:α->List β) {l:List α} {k:Nat} (h:k<l.length):(l.take (k+1)).flatMap F=(l.take k).flatMap F++F l[k]:=by
 rw[List.take_succ_eq_append_getElem h,List.flatMap_append];simp
set_option maxHeartbeats 16000000
abbrev tB (b:Bdg):List ByteArray:=fvT b.2.1++b.2.2.tv
abbrev tA (a:Alg):List ByteArray:=a.2.2.tv
theorem zNM (N:Nat) (hn:N<900000) (c:Cr) (hN:c.isN=true) (ho:c.Ok) (hs:c.sz<=N+1) (ht:c.tn<900000) (ih:∀p:Cr,p.isN=true->p.Ok->p.sz<=N->p.tn<900000->zF Tryz.prog zB7 [eC p] (.sl (eSs p.tv))):CallsG Tryz.prog (fnv 42) [] [eC c] [] fun r o h=>r = .sl (eSs c.tv)/\o=2/\h=[]:=by
 have hl:=zAG c ho;have hall:=z0C hN;have h0:=z4N hN ho;have htt:=z5S hN;have hfl:=yU c.t;obtain⟨P,hP⟩:∃P,P=barT c:=⟨_,rfl⟩
 have htv:=z4C hN ho;rw[<-hP] at h0 htv;obtain⟨T0,hT0⟩:∃T0,T0=fvT c.t:=⟨_,rfl⟩
 have hT0l:T0.length<=900000:=by rw[hT0];simp only[fvT];omega
 have hlen:(zQQ c).length=T0.length+((c.kids.flatMap Cr.tv).length+((c.binds.flatMap tB).length+(c.alts.flatMap tA).length)):=by
  unfold zQQ;rw[<-hT0];simp only[List.length_append]
 have ilen:=fun l=>zO P l [];simp only[List.length_nil,Nat.zero_add] at ilen;have tail2:Wsem Tryz.prog (sn4 (bodyC Tryz.f42)) (mkC {vs:=[(1,.box 0 (eC c)),(3,.v (.sl (eSs (zC P [] (T0++(c.kids.flatMap Cr.tv++c.binds.flatMap tB))))))],ow:=[(3,0,2)]})
   (fun c2=>yP tt Tryz.f42.results.toList (fun r o h=>r = .sl (eSs c.tv)/\o=2/\h=[]) (den c2)) (fun _ _=>False) (fun c2=>yP tt Tryz.f42.results.toList (fun r o h=>r = .sl (eSs c.tv)/\o=2/\h=[]) (den c2)):=by
  refine Wsem.of ttok mixed ?_;refine⟨{k:Nat // k<=c.alts.length},fun k=>{vs:=[(1,.box 0 (eC c)),(3,.v (.sl (eSs (zC P [] (T0++(c.kids.flatMap Cr.tv++(c.binds.flatMap tB++(c.alts.take k.1).flatMap tA))))))),(63,.v (.sl (c.e3 2))),(64,sv (c.alts.length:Nat)),(65,sv (k.1:Nat))],ow:=[(3,0,2)]},
   fun k=>c.alts.length-k.1,⟨0,Nat.zero_le _⟩,⟨⟨rfl,?_,rfl,svc (by rw[zYL]),rfl,trivial⟩,⟨rfl,trivial⟩,rfl⟩,?_⟩
  ·show SV.v (AV.sl (eSs _))=SV.v (AV.sl (eSs _));rw[List.take_zero,List.flatMap_nil,List.append_nil]
  rintro⟨k,hk⟩;refine⟨fun h=>?_,fun h=>?_⟩
  ·have h:k<c.alts.length:=by have h:=of_decide_eq_true h;simp only at h;omega
   have h7:=z2O hN ho (.inr (fun q=>by rw[q] at h;simp at h));have hPn:P=no:=hP.trans (zH5 h7);have hsz:=zMV (List.getElem_mem h);rw[hN] at hsz;simp only[if_true] at hsz;have htn:=z4F (List.getElem_mem h);have hpl:=zM0 tA c.alts h (tA c.alts[k]).length;have hpl0:=zM0 tA c.alts h 0;rw[List.take_length] at hpl;have hi:=ilen (T0++(c.kids.flatMap Cr.tv++(c.binds.flatMap tB++(c.alts.take k).flatMap tA)));simp only[List.length_append,List.length_take,List.take_zero,List.length_nil] at hi hpl0;have hkt:=jW c.alts[k].2.2;refine⟨_,by omega,zS1 h,rfl,?_⟩;refine .inl ⟨_,ih _ (ho.alt (List.getElem_mem h)).1 (ho.alt (List.getElem_mem h)).2.1 (by omega) (by omega),?_⟩;refine .inr (.inr (.inr (.inr (.inl (.inr ⟨rfl,[],[],[2,0],_,rfl,List.nodup_nil,rfl,zB5 (zC P [] (T0++(c.kids.flatMap Cr.tv++(c.binds.flatMap tB++(c.alts.take k).flatMap tA)))) c.alts[k].2.2.tv (by omega) (by omega),?_⟩)))));rintro _ _ _ ⟨rfl,rfl,rfl⟩;refine⟨⟨k+1,h⟩,by simp;omega,⟨rfl,?_,rfl,rfl,svc (wrap_succ (k:=k) (by omega)),trivial⟩,⟨rfl,trivial⟩,rfl⟩;show SV.v (AV.sl (eSs (zC no (zC P [] _) _)))=SV.v (AV.sl (eSs (zC P [] _)));rw[hPn,<-yE,zGP tA h];simp only[List.append_assoc]
  ·have h:k=c.alts.length:=by have h:=of_decide_eq_false h;simp only at h;omega
   subst h;rw[List.take_length];refine⟨?_,rfl,rfl⟩;show AV.sl (eSs _)=_;rw[htv];unfold zQQ;rw[<-hT0]
 have tail1:Wsem Tryz.prog (zAX (zAX (zAX (bodyC Tryz.f42)))) (mkC {vs:=[(1,.box 0 (eC c)),(3,.v (.sl (eSs (zC P [] (T0++c.kids.flatMap Cr.tv)))))],ow:=[(3,0,2)]})
   (fun c2=>yP tt Tryz.f42.results.toList (fun r o h=>r = .sl (eSs c.tv)/\o=2/\h=[]) (den c2)) (fun _ _=>False) (fun c2=>yP tt Tryz.f42.results.toList (fun r o h=>r = .sl (eSs c.tv)/\o=2/\h=[]) (den c2)):=by
  refine Wsem.seqS (Wsem.seq ttok mixed ?_);refine Wsem.block (Wsem.loop (α:={k:Nat // k<=c.binds.length}) (fun k=>{vs:=[(1,.box 0 (eC c)),(3,.v (.sl (eSs (zC P [] (T0++(c.kids.flatMap Cr.tv++(c.binds.take k.1).flatMap tB)))))),(46,.v (.sl (c.e3 1))),(47,sv (c.binds.length:Nat)),(48,sv (k.1:Nat))],ow:=[(3,0,2)]})
   (fun k=>c.binds.length-k.1) ⟨0,Nat.zero_le _⟩ ⟨⟨rfl,?_,rfl,svc (by rw[zVA]),rfl,trivial⟩,⟨rfl,trivial⟩,rfl⟩ ?_)
  ·show SV.v (AV.sl (eSs _))=SV.v (AV.sl (eSs _));rw[List.take_zero,List.flatMap_nil,List.append_nil]
  rintro⟨k,hk⟩;refine Wsem.seq ttok mixed ?_;refine Wsem.seq ttok mixed ?_;refine⟨fun h=>?_,fun h=>?_⟩
  ·have h:k<c.binds.length:=by have h:=of_decide_eq_true h;simp only at h;omega
   have h7:=z2O hN ho (.inl (fun q=>by rw[q] at h;simp at h));have hPn:P=no:=hP.trans (zH5 h7);have hsz:=zH6 (List.getElem_mem h);rw[hN] at hsz;simp only[if_true] at hsz;have htn:=zZK (List.getElem_mem h);have hpl:=zM0 tB c.binds h (tB c.binds[k]).length;rw[List.take_length] at hpl;have hi:=ilen (T0++(c.kids.flatMap Cr.tv++(c.binds.take k).flatMap tB));have hi2:=ilen ((T0++(c.kids.flatMap Cr.tv++(c.binds.take k).flatMap tB))++fvT c.binds[k].2.1);simp only[List.length_append] at hi hi2 hpl;have hkt:=jW c.binds[k].2.2;have hkf:=yU c.binds[k].2.1;refine Wsem.seqS (Wsem.block ?_);refine Wsem.seq ttok mixed ?_;refine⟨_,by omega,zS9 h,rfl,?_⟩;refine Wsem.regionTA zFL ttok mixed [0,1,2,3,5,6,4,7,8,9] [false,false,false,false,false,false,true,false,true] (by kernel_rfl) ?_;refine .inl ⟨_,zF9 900000 (by decide) c.binds[k].2.1 (by omega),?_⟩;refine⟨[],[],[2,0],_,rfl,List.nodup_nil,rfl,zB5 (zC P [] (T0++(c.kids.flatMap Cr.tv++(c.binds.take k).flatMap tB))) (fvT c.binds[k].2.1) (by omega) (by simp only[fvT];omega),⟨_,_,_,rfl,rfl,rfl⟩,?_⟩;rintro _ _ _ ⟨rfl,rfl,rfl⟩;refine .inl ⟨_,ih _ (ho.bind (List.getElem_mem h)).1 (ho.bind (List.getElem_mem h)).2 (by omega) (by omega),?_⟩;refine⟨[],[],[2,0],_,rfl,List.nodup_nil,rfl,zB5 (zC no (zC P [] (T0++(c.kids.flatMap Cr.tv++(c.binds.take k).flatMap tB))) (fvT c.binds[k].2.1)) c.binds[k].2.2.tv (by rw[<-hPn,<-yE];simp only[fvT] at *;omega) (by omega),⟨_,_,_,rfl,rfl,rfl⟩,?_⟩
   rintro _ _ _ ⟨rfl,rfl,rfl⟩;refine⟨by kernel_rfl,?_⟩;refine Wsem.of ttok mixed ?_;refine⟨⟨k+1,h⟩,by simp;omega,⟨rfl,?_,rfl,rfl,svc (wrap_succ (k:=k) (by omega)),trivial⟩,⟨rfl,trivial⟩,rfl⟩;show SV.v (AV.sl (eSs (zC no (zC no (zC P [] _) _) _)))=SV.v (AV.sl (eSs (zC P [] _)));rw[hPn,<-yE,<-yE,zGP tB h];simp only[List.append_assoc,tB]
  ·have h:k=c.binds.length:=by have h:=of_decide_eq_false h;simp only at h;omega
   subst h;refine Wsem.cut _ ?_ tail2;rw[List.take_length];exact⟨⟨rfl,rfl,trivial⟩,⟨rfl,trivial⟩,rfl⟩
 refine zM (first:=[]) (cap:=[]) ttok mixed Tryz.func42 rfl (by rfl) rfl (Nat.le_of_ble_eq_true rfl) (by kernel_rfl) ?_;refine Wsem.seq ttok mixed ?_;refine Wsem.seq ttok mixed ?_;refine .inl ⟨_,zF9 900000 (by decide) c.t (by omega),?_⟩;refine .inr (.inr (.inr (.inr (.inl (.inr ⟨rfl,[],[],[2,0],_,rfl,List.nodup_nil,rfl,zB5 [] (fvT c.t) (by simp) (by rw[<-hT0];omega),?_⟩)))));rintro _ _ _ ⟨rfl,rfl,rfl⟩;rw[h0,<-hT0];refine Wsem.seq ttok mixed ?_;refine⟨{k:Nat // k<=c.kids.length},fun k=>{vs:=[(1,.box 0 (eC c)),(3,.v (.sl (eSs (zC P [] (T0++(c.kids.take k.1).flatMap Cr.tv))))),(17,.v (.sl (c.e3 0))),(18,sv (c.kids.length:Nat)),(19,sv (k.1:Nat))],ow:=[(3,0,2)]},
  fun k=>c.kids.length-k.1,⟨0,Nat.zero_le _⟩,⟨⟨rfl,?_,rfl,svc (by rw[z3Z]),rfl,trivial⟩,⟨rfl,trivial⟩,rfl⟩,?_⟩
 ·show SV.v (AV.sl (eSs _))=SV.v (AV.sl (eSs _));rw[List.take_zero,List.flatMap_nil,List.append_nil]
 rintro⟨k,hk⟩;refine⟨fun h=>?_,fun h=>?_⟩
 ·have h:k<c.kids.length:=by have h:=of_decide_eq_true h;simp only at h;omega
  have hsz:=zNN (List.getElem_mem h);rw[hN] at hsz;simp only[if_true] at hsz;have htn:=z2K (List.getElem_mem h);have hpl:=fun j=>zM0 Cr.tv c.kids h j;have hfk:=zGP Cr.tv h;have hkt:=jW c.kids[k];refine⟨_,by omega,z1S h,rfl,?_⟩;refine .inl ⟨_,ih _ (ho.kid (List.getElem_mem h)).1 (ho.kid (List.getElem_mem h)).2 (by omega) (by omega),?_⟩;generalize hV:c.kids[k].tv=V at hpl hfk hkt;refine⟨{j:Nat // j<=V.length},fun j=>{vs:=[(1,.box 0 (eC c)),(3,.v (.sl (eSs (zC P [] (T0++((c.kids.take k).flatMap Cr.tv++V.take j.1)))))),(17,.v (.sl (c.e3 0))),(18,sv (c.kids.length:Nat)),(19,sv (k:Nat)),(24,.v (.sl (eSs V))),(25,sv (V.length:Nat)),(26,sv (j.1:Nat))],ow:=[(3,0,2)]},
   fun j=>V.length-j.1,⟨0,Nat.zero_le _⟩,⟨⟨rfl,?_,rfl,rfl,rfl,rfl,svc (by rw[zAZ]),rfl,trivial⟩,⟨rfl,trivial⟩,rfl⟩,?_⟩
  ·show SV.v (AV.sl (eSs _))=SV.v (AV.sl (eSs _));rw[List.take_zero,List.append_nil]
  rintro⟨j,hj⟩;refine⟨fun h2=>?_,fun h2=>?_⟩
  ·have h2:j<V.length:=by have h:=of_decide_eq_true h2;simp only at h;omega
   have hpl:=hpl j;have hi:=ilen (T0++((c.kids.take k).flatMap Cr.tv++V.take j));simp only[List.length_append] at hi hpl;have e1:zC P [] (T0++((c.kids.take k).flatMap Cr.tv++V.take (j+1)))=ins P (zC P [] (T0++((c.kids.take k).flatMap Cr.tv++V.take j))) V[j]:=by
    rw[List.take_succ_eq_append_getElem h2,<-List.append_assoc,<-List.append_assoc,yE,List.append_assoc]
    rfl
   generalize hA:zC P [] (T0++((c.kids.take k).flatMap Cr.tv++V.take j))=A at hi e1;refine⟨_,by omega,zNQ h2,rfl,?_⟩;by_cases hPj:P V[j]=false
   ·
    have hput:eSs (zC no A [V[j]])=eSs (zC P [] (T0++((c.kids.take k).flatMap Cr.tv++V.take (j+1)))):=by
     rw[e1];show eSs (ins no A V[j])=_;cases hm:memb V[j] A with
     | true=>rw[zCJ (.inl hm),zCJ (.inl hm)]
     | false=>rw[zCU hm rfl,zCU hm hPj]
    by_cases h7:c.f=7
    ·have hne:¬V[j]=c.s:=fun q=>by rw[hP] at hPj;simp[barT,h7,q] at hPj
     refine⟨fun hb=>?_,fun hb=>by simp[h7] at hb⟩;refine⟨fun hb2=>?_,fun hb2=>by simp[hne] at hb2⟩;refine .inr (.inr (.inr (.inr (.inl (.inr ⟨rfl,[],[],[2,0],_,rfl,List.nodup_nil,rfl,zB5 A [V[j]] (by omega) (by simp),?_⟩)))));rintro _ _ _ ⟨rfl,rfl,rfl⟩;refine⟨⟨j+1,h2⟩,by simp;omega,⟨rfl,?_,rfl,rfl,rfl,rfl,rfl,svc (wrap_succ (k:=j) (by omega)),trivial⟩,⟨rfl,trivial⟩,rfl⟩;show SV.v (AV.sl (eSs (zC no A [V[j]])))=SV.v (AV.sl (eSs (zC P [] _)));rw[hput]
    ·refine⟨fun hb=>by simp[h7] at hb,fun hb=>?_⟩;refine .inr (.inr (.inr (.inr (.inl (.inr ⟨rfl,[],[],[2,0],_,rfl,List.nodup_nil,rfl,zB5 A [V[j]] (by omega) (by simp),?_⟩)))));rintro _ _ _ ⟨rfl,rfl,rfl⟩;refine⟨⟨j+1,h2⟩,by simp;omega,⟨rfl,?_,rfl,rfl,rfl,rfl,rfl,svc (wrap_succ (k:=j) (by omega)),trivial⟩,⟨rfl,trivial⟩,rfl⟩;show SV.v (AV.sl (eSs (zC no A [V[j]])))=SV.v (AV.sl (eSs (zC P [] _)));rw[hput]
   ·have hPj:P V[j]=true:=by simpa using hPj
    have hP2:=hPj;rw[hP] at hP2;simp only[barT,Bool.and_eq_true,decide_eq_true_eq] at hP2;obtain⟨h7,hs7⟩:=hP2;refine⟨fun hb=>?_,fun hb=>by simp[h7] at hb⟩;refine⟨fun hb2=>by simp[hs7] at hb2,fun hb2=>?_⟩;refine⟨⟨j+1,h2⟩,by simp;omega,⟨rfl,?_,rfl,rfl,rfl,rfl,rfl,svc (wrap_succ (k:=j) (by omega)),trivial⟩,⟨rfl,trivial⟩,rfl⟩;show SV.v (AV.sl (eSs A))=SV.v (AV.sl (eSs (zC P [] _)));rw[e1,zCJ (.inr hPj)]
  ·have h2:j=V.length:=by have h:=of_decide_eq_false h2;simp only at h;omega
   subst h2;refine⟨⟨k+1,h⟩,by simp;omega,⟨rfl,?_,rfl,rfl,svc (wrap_succ (k:=k) (by omega)),trivial⟩,⟨rfl,trivial⟩,rfl⟩;show SV.v (AV.sl (eSs _))=SV.v (AV.sl (eSs _));rw[List.take_length,hfk]
 ·have h:k=c.kids.length:=by have h:=of_decide_eq_false h;simp only at h;omega
  subst h;refine Wsem.cut _ ?_ tail1;rw[List.take_length];exact⟨⟨rfl,rfl,trivial⟩,⟨rfl,trivial⟩,rfl⟩
theorem zQR {f:Nat} {a:List AV} {x:AV} {k:Nat} (h:CallsG Tryz.prog (fnv f) [] a [] fun r o h=>r=x/\o=k/\h=[]):zF Tryz.prog f a x :=
 h.lessS fun r o h hp=>⟨h,List.Sublist.refl _,hp.1,rfl,hp.2.2⟩
theorem zQ2 (N:Nat) (hn:N<900000):∀c:Cr,c.isN=true->c.Ok->c.sz<=N->c.tn<900000->zF Tryz.prog zB7 [eC c] (.sl (eSs c.tv)):=by
 induction N with
 | zero=>intro c hN _ hs;have:=zAC hN;omega
 | succ N ih=>exact fun c hN ho hs ht=>zQR (zNM N (by omega) c hN ho hs ht (ih (by omega)))
theorem zCK {c:Cr} (hN:c.isN=true) (ho:c.Ok) (hs:c.sz<900000) (ht:c.tn<900000):zF Tryz.prog zB7 [eC c] (.sl (eSs c.tv)):=zQ2 c.sz hs c hN ho (Nat.le_refl _) ht
structure TyS (t:Tp):Prop where
 low:LowT 2000 t
 dp:dp t<=590
 sz:t.sz<900000
theorem zP7 {t:Tp} (h:TyS t):zF Tryz.prog zIN [eTy t] (eTy t):=by
 have hd:=h.dp;have hs:=h.sz;have hc:jD t []:=zOM t.sz t (Nat.le_refl _) 2000 [] ⟨h.low,fun p hp=>by simp at hp,by omega,by simp;omega,by omega,fun p hp=>by simp at hp⟩;unfold jD at hc;rw[z07] at hc;refine zD ttok mixed Tryz.func81 rfl (by rfl) (Nat.le_of_ble_eq_true rfl) (by kernel_rfl) ?_;refine .inl ⟨_,hc,?_⟩;exact rfl
theorem zOZ (l:List ByteArray) (hl:l.length<1000000) (hf:ff l<2599):zF Tryz.prog zFP [.sl (eSs l)] (.lit (.string (lett (ff l)))):=by
 refine zD ttok mixed Tryz.func103 rfl (by rfl) (Nat.le_of_ble_eq_true rfl) (by kernel_rfl) ?_;refine⟨{k:Nat // k<=ff l},fun k=>{vs:=[(0,.v (.sl (eSs l))),(3,sv (k.1:Nat))]},fun k=>ff l-k.1,⟨0,Nat.zero_le _⟩,⟨⟨rfl,rfl,trivial⟩,trivial,rfl⟩,?_⟩;rintro⟨k,hk⟩;refine .inl ⟨_,zEU (n:=k) (by omega),?_⟩;refine .inl ⟨_,yS (l:=l) (s:=lett k) (by omega),?_⟩;have hnew:=zN7 l;have hold:=zJ2 l;refine⟨fun h=>?_,fun h=>?_⟩
 ·have h:lett k∈l:=memb_iff.1 (by simpa using h);have:k<ff l:=by
   rcases Nat.lt_or_ge k (ff l) with q|q
   ·exact q
   ·have:k=ff l:=by omega
    subst this;exact absurd h hnew
  exact⟨⟨k+1,this⟩,by simp;omega,⟨rfl,svc (wrap_succ (k:=k) (by omega)),trivial⟩,trivial,rfl⟩
 ·have h:lett k∉l:=fun q=>by have:=memb_iff.2 q;rw[this] at h;cases h
  have:k=ff l:=by
   rcases Nat.lt_or_ge k (ff l) with q|q
   ·exact absurd (hold k q) h
   ·omega
  subst this;refine .inl ⟨_,zEU (n:=ff l) (by omega),?_⟩;exact rfl
end Go.Proofs.YtgonkhaebmfgiaaGreatDoor
