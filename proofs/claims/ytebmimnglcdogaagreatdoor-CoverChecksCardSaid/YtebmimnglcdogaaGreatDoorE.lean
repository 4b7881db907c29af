/- The program's 'useful'. No condition. -/
import Derived.Test.YtebmimnglcdogaaGreatDoorD
set_option linter.unusedSimpArgs false
set_option linter.unusedVariables false
namespace Go.Proofs.YtebmimnglcdogaaGreatDoor
open Go Fp
set_option maxRecDepth 10000
set_option maxHeartbeats 16000000
theorem zHY {α:Type} (l:List α) (g:α->Bool):∃i:Int,((∃k:Nat,i=k/\∃h:k<l.length,g l[k]=true/\∀j (hj:j<l.length),j<k->g l[j]=false)∨(i = -1/\∀x∈l,g x=false))/\decide (0<=i)=l.any g:=by
 induction l with
 | nil=>exact⟨-1,.inr ⟨rfl,by simp⟩,rfl⟩
 | cons x l ih =>
  cases hx:g x with
  | true=>exact⟨0,.inl ⟨0,rfl,by simp,hx,fun j hj h=>by omega⟩,by simp[hx]⟩
  | false =>
   obtain⟨i,h1,h2⟩:=ih;rcases h1 with⟨k,rfl,h,hk,hj⟩|⟨rfl,h1⟩
   ·refine⟨((k+1:Nat):Int),.inl ⟨k+1,rfl,by simp;omega,by simpa using hk,fun j hjl hjk=>?_⟩,?_⟩
    ·match j with
     | 0=>exact hx
     | j+1=>simpa using hj j (by simpa using hjl) (by omega)
    ·rw[List.any_cons,hx,Bool.false_or,<-h2];simp;omega
   ·refine⟨-1,.inr ⟨rfl,fun y hy=>?_⟩,by rw[List.any_cons,hx,Bool.false_or,<-h2]⟩;rcases List.mem_cons.1 hy with rfl|hy
    ·exact hx
    ·exact h1 y hy
set_option linter.unusedVariables false
def eCi (i:Int):AV := .agg [.lit (.int .i64 3),.lit (.int .i64 i),.lit (.string .empty),.lit (.int .i64 0),.lit (.int .i64 0),.lit (.string .empty),.sl [],.sl [],.sl [],.sl []]
def zGA (l:List Int):List AV:=l.map eCi
theorem z2U (l:List Int):Uni 10 (zGA l):=wW (f:=eCi) (n:=10) (fun _=>rfl) l
theorem z5Q (l:List Int):(zGA l).length=l.length:=by simp[zGA]
def upto (n:Nat):List Int:=(List.range n).map Int.ofNat
theorem zJM (n:Nat):(upto n).length=n:=by simp[upto]
theorem upto_succ (n:Nat):upto (n+1)=upto n++[(n:Int)]:=by unfold upto;rw[List.range_succ,List.map_append];rfl
theorem zZE {n k:Nat} (h:k<n):(upto n)[k]? = some (k:Int):=by simp[upto,h]
theorem zVH (n:Nat) (hn:n<10000):zB Tryz.prog zEB [.lit (.int .i64 (n:Nat))] (.sl (zGA (upto n))):=by
 refine zA ttok mixed Tryz.func14 rfl (by rfl) (Nat.le_of_ble_eq_true rfl) (by kernel_rfl) ?_;refine⟨{k:Nat // k<=n},fun k=>{vs:=[(0,sv (n:Nat)),(3,.v (.sl (zGA (upto k.1)))),(4,sv (k.1:Nat))],ow:=[(3,0,11)]},
  fun k=>n-k.1,⟨0,Nat.zero_le _⟩,⟨⟨rfl,rfl,rfl,trivial⟩,⟨trivial,trivial⟩,rfl⟩,?_⟩
 rintro⟨k,hk⟩;refine⟨fun h=>?_,fun h=>?_⟩
 ·have h:k<n:=by have h:=of_decide_eq_true h;simp only at h;omega
  refine⟨by rw[z5Q,zJM];simp;omega,z2U _,z2U [(k:Int)],?_⟩;refine⟨⟨k+1,h⟩,by simp;omega,⟨rfl,?_,svc (wrap_succ (k:=k) (by omega)),trivial⟩,⟨rfl,trivial⟩,rfl⟩;show SV.v (AV.sl (zGA (upto k)++[eCi (k:Int)]))=SV.v (AV.sl (zGA (upto (k+1))));rw[upto_succ];simp[zGA]
 ·have h:k=n:=by have h:=of_decide_eq_false h;simp only at h;omega
  subst h;exact rfl
def zPX (L:List AV) (r:AV) (o:Nat) (h:List (Nat×HO)):Prop :=
 (L=[]/\r = .lit (.slice none 0 0)/\o=0/\h=[])∨∃b cap zs,r = .lit (.slice (some ⟨b,0,none⟩) L.length cap)/\o=0/\h=[(b,HO.cells (L.flatMap AV.cells++zs))]/\L.length<=cap/\zs.length=(cap-L.length)*12
theorem zXA (l : List Pt) (hl : l.length < 1000) : CallsG Tryz.prog (fnv zF9) [] [.sl (zM l)] [] (zPX (yL 0 (fun _ => 0) (zI 0 l))) := by
  refine yS (first := []) (cap := []) ttok mixed Tryz.func26 rfl (by rfl) rfl (Nat.le_of_ble_eq_true rfl) (by kernel_rfl) ?_;refine ⟨{s : Nat × Option (Nat × Nat × List AV) // s.1 <= l.length /\ match s.2 with | none => s.1 = 0 | some (b, cap, zs) => s.1 <= cap /\ zs.length = (cap - s.1) * 12},
    fun s => { vs := [(3, .v (.lit (match s.1.2 with
      | none => .slice none 0 0
      | some (b, cap, _) => .slice (some ⟨b, 0, none⟩) s.1.1 cap))), (6, .v (.sl (zM l))), (7, sv ((zM l).length : Nat)), (8, sv (s.1.1 : Nat))], ow := [], hp := match s.1.2 with
      | none => []
      | some (b, cap, zs) => [(b, HO.cells ((yL 0 (fun _ => 0) (zI 0 (l.take s.1.1))).flatMap AV.cells ++ zs))] },
    fun s => l.length - s.1.1, ⟨(0, none), Nat.zero_le _, rfl⟩, ⟨⟨.inl rfl, rfl, rfl, rfl, trivial⟩, trivial, rfl⟩, ?_⟩
  rintro ⟨⟨k, blk⟩, hk, hb⟩;have hlen : (zI 0 (l.take k)).length = k := by rw [qX, List.length_take]; simp only at hk; omega
  cases blk with
  | none =>
    simp only at hb;subst hb;refine ⟨fun h => ?_, fun h => ?_⟩
    · have h : 0 < l.length := by have h := of_decide_eq_true h; rw [zFU] at h; simp only at h; omega
      refine ⟨_, by omega, zEN h, rfl, ?_⟩;refine ⟨rfl, by simp, by simp, wW (f := eRw 0 (fun _ => 0)) (fun _ => rfl) [⟨[l[0]], [], 0⟩], rfl, rfl, fun b' cap' zs h1 h2 => ?_⟩;refine ⟨⟨(1, some (b', cap', zs)), h, h1, h2⟩, by simp; omega, ⟨rfl, rfl, rfl, rfl, trivial⟩, trivial, ?_⟩;show [(b', HO.cells ([eRw 0 (fun _ => 0) ⟨[l[0]], [], 0⟩].flatMap AV.cells ++ zs))] = [(b', HO.cells ((yL 0 (fun _ => 0) (zI 0 (l.take 1))).flatMap AV.cells ++ zs))];rw [List.take_succ_eq_append_getElem h]; rfl
    · have h : l = [] := by have h := of_decide_eq_false h; rw [zFU] at h; simp only at h; exact List.length_eq_zero_iff.1 (by omega)
      subst h;exact .inl ⟨rfl, rfl, rfl, rfl⟩
  | some x =>
    obtain ⟨b, cap, zs⟩ := x;obtain ⟨hb1, hb2⟩ := hb;simp only at hk hb1 hb2;refine ⟨fun h => ?_, fun h => ?_⟩
    · have h : k < l.length := by have h := of_decide_eq_true h; rw [zFU] at h; simp only at h; omega
      refine ⟨_, by omega, zEN h, rfl, ?_⟩;have hfl : ((yL 0 (fun _ => 0) (zI 0 (l.take k))).flatMap AV.cells).length = k * 12 := by
        rw [yO (zIP _ _ _), jQ, hlen]
      refine ⟨rfl, by simp, by simp; omega, wW (f := eRw 0 (fun _ => 0)) (fun _ => rfl) [⟨[l[k]], [], k⟩], 0, _, rfl, hb1, by rw [List.length_append, hfl, hb2]; rw [<- Nat.add_mul]; congr 1; omega, fun b' cap' zs' h1 h2 => ?_⟩;refine ⟨⟨(k + 1, some (b', cap', zs')), h, h1, h2⟩, by simp; omega, ⟨rfl, rfl, rfl, svc (wrap_succ (k := k) (by omega)), trivial⟩, trivial, ?_⟩;show [(b', HO.cells (List.take (k * 12) ((yL 0 (fun _ => 0) (zI 0 (l.take k))).flatMap AV.cells ++ zs) ++ ([eRw 0 (fun _ => 0) ⟨[l[k]], [], k⟩].flatMap AV.cells ++ zs')))] = [(b', HO.cells ((yL 0 (fun _ => 0) (zI 0 (l.take (k + 1)))).flatMap AV.cells ++ zs'))];rw [List.take_append_of_le_length (by omega), List.take_of_length_le (by omega), List.take_succ_eq_append_getElem h, zBL, show 0 + (l.take k).length = k by simp; omega];unfold yL;rw [List.map_append, List.flatMap_append, List.append_assoc]; rfl
    · have h : k = l.length := by have h := of_decide_eq_false h; rw [zFU] at h; simp only at h; omega
      subst h;rw [List.take_length] at hlen;have hfin : zPX (yL 0 (fun _ => 0) (zI 0 l)) (.lit (.slice (some ⟨b, 0, none⟩) l.length cap)) 0 [(b, HO.cells ((yL 0 (fun _ => 0) (zI 0 (l.take l.length))).flatMap AV.cells ++ zs))] :=
        .inr ⟨b, cap, zs, by rw [jQ, hlen], rfl, by rw [List.take_length], by rw [jQ, hlen]; exact hb1, by rw [jQ, hlen]; exact hb2⟩
      exact hfin
theorem zUK (n:Nat) (hn:n<=100000):CallsG Tryz.prog (fnv 71) [] [.nil,.lit (.int .i64 (n:Nat))] [] fun r o h=>r = .sl []/\o=2/\h=[]:=by
 have w0:IntKind.i64.wrap ((n:Int)-IntKind.i64.wrap (0-(([]:List AV).length:Nat)))=(n:Int):=by
  rw[show IntKind.i64.wrap (0-(([]:List AV).length:Nat))=0 from rfl,Int.sub_zero];exact yB (by omega)
 refine CallsG.opened (esz:=1) (qU (os:=[2]) ttok mixed Tryz.func71 rfl (by rfl) (fun i sz h=>?_) (Nat.le_of_ble_eq_true rfl) (by kernel_rfl) (post:=zC8 1) ?_) (fun r o h hp=>hp)
 ·match i with
  | 0=>rfl
  | i+1=>simp at h
 refine⟨fun h=>?_,fun _=>?_⟩
 ·have h:=of_decide_eq_true h;omega
 refine⟨fun h=>?_,fun h=>?_⟩
 ·have h:=of_decide_eq_true h;rw[w0] at h;refine .inl ⟨rfl,rfl,?_⟩;refine⟨n,w0,by omega,by omega,fun b cap zs h1 h2=>?_⟩;refine⟨by decide,by decide,by exact_mod_cast Nat.zero_le _,?_⟩;refine .inr ⟨rfl,b,cap,zs,?_,rfl,by omega⟩;have e:∀A B:Option Addr,A=some ⟨b,0,none⟩->B=some ⟨b,0,none⟩->AV.lit (.slice (if cap=0 then A else B) 0 cap) = .lit (.slice (some ⟨b,0,none⟩) 0 cap):=fun A B hA hB=>by rw[hA,hB];split<;>rfl
  exact e _ _ rfl rfl
 ·exact .inl ⟨rfl,rfl,rfl⟩
theorem zQI (ls:List (List AV)) (hn:ls.length<10000) (hu:∀l∈ls,Uni 1 l) (ht:ls.flatten.length<=100000):zB Tryz.prog 36 [.sl (ls.map AV.sl)] (.sl ls.flatten):=by
 refine zA ttok mixed Tryz.func36 rfl (by rfl) (Nat.le_of_ble_eq_true rfl) (by kernel_rfl) ?_;have hml:(ls.map AV.sl).length=ls.length:=by simp
 refine⟨{k:Nat // k<=ls.length},fun k=>{vs:=[(0,.v (.sl (ls.map AV.sl))),(3,sv ((ls.take k.1).flatten.length:Nat)),(9,.v (.sl (ls.map AV.sl))),(10,sv (ls.length:Nat)),(11,sv (k.1:Nat))]},
  fun k=>ls.length-k.1,⟨0,Nat.zero_le _⟩,⟨⟨rfl,rfl,rfl,svc (by rw[hml]),rfl,trivial⟩,trivial,rfl⟩,?_⟩
 rintro⟨k,hk⟩;refine⟨fun h=>?_,fun h=>?_⟩
 ·have h:k<ls.length:=by have h:=of_decide_eq_true h;simp only at h;omega
  have hfl:=jC h;have hle:=zCE ls (k+1);refine⟨.sl ls[k],by omega,zD9 (f:=AV.sl) h,rfl,?_⟩;have w1:IntKind.i64.wrap (((ls.take k).flatten.length:Nat)+(ls[k].length:Nat))=((ls.take (k+1)).flatten.length:Nat):=by
   rw[hfl,List.length_append,<-Int.natCast_add];exact yB (by rw[hfl,List.length_append] at hle;omega)
  refine⟨fun h2=>?_,fun _=>?_⟩
  ·have h2:=of_decide_eq_true h2;simp only[w1] at h2;omega
  exact⟨⟨k+1,h⟩,by simp;omega,⟨rfl,svc w1,rfl,rfl,svc (wrap_succ (k:=k) (by omega)),trivial⟩,trivial,rfl⟩
 ·have h:k=ls.length:=by have h:=of_decide_eq_false h;simp only at h;omega
  subst h;have hg:=zUK ls.flatten.length ht;rw[show ls.flatten.length=(ls.take ls.length).flatten.length by rw[List.take_length]] at hg;refine .inr (.inr (.inr (.inr (.inr (.inl ⟨[],[],[],_,rfl,List.nodup_nil,rfl,hg,?_⟩)))));rintro r w hout ⟨rfl,rfl,rfl⟩;refine⟨{k:Nat // k<=ls.length},fun k=>{vs:=[(6,.v (.sl (ls.take k.1).flatten)),(25,.v (.sl (ls.map AV.sl))),(26,sv (ls.length:Nat)),(27,sv (k.1:Nat))],ow:=[(6,0,2)]},
   fun k=>ls.length-k.1,⟨0,Nat.zero_le _⟩,⟨⟨rfl,rfl,svc (by rw[hml]),rfl,trivial⟩,⟨rfl,trivial⟩,rfl⟩,?_⟩
  rintro⟨k,hk⟩;refine⟨fun h=>?_,fun h=>?_⟩
  ·have h:k<ls.length:=by have h:=of_decide_eq_true h;simp only at h;omega
   have hfl:=jC h;have hle:=zCE ls (k+1);refine⟨.sl ls[k],by omega,zD9 (f:=AV.sl) h,rfl,?_⟩;refine⟨by rw[hfl,List.length_append] at hle;simp only;omega,zJL hu k,hu _ (List.getElem_mem h),?_⟩;refine⟨⟨k+1,h⟩,by simp;omega,⟨?_,rfl,rfl,svc (wrap_succ (k:=k) (by omega)),trivial⟩,⟨rfl,trivial⟩,rfl⟩;show _=SV.v (AV.sl (ls.take (k+1)).flatten);rw[hfl];rfl
  ·have h:k=ls.length:=by have h:=of_decide_eq_false h;simp only at h;omega
   subst h;show AV.sl (ls.take ls.length).flatten=_;rw[List.take_length]
def dig (i:Nat):ByteArray:=⟨#[(48+i).toUInt8]⟩
theorem zJ1 (i:Nat) (hi:i<3):zB Tryz.prog wZ [.lit (.int .i64 (i:Nat))] (.lit (.string (dig i))):=by
 refine zA ttok mixed Tryz.func118 rfl (by rfl) (Nat.le_of_ble_eq_true rfl) (by kernel_rfl) ?_
 match i,hi with
 | 0,_=>exact⟨fun _=>⟨by decide,by decide,by decide,rfl⟩,fun h=>absurd h (by decide)⟩
 | 1,_=>exact⟨fun _=>⟨by decide,by decide,by decide,rfl⟩,fun h=>absurd h (by decide)⟩
 | 2,_=>exact⟨fun _=>⟨by decide,by decide,by decide,rfl⟩,fun h=>absurd h (by decide)⟩
theorem zU9 (i:Nat) (hi:i<3):zB Tryz.prog zAE [.lit (.int .i64 (i:Nat)),.lit (.int .i64 10)] (.lit (.string (dig i))):=by
 have hs:=zJ1 i hi;refine zA ttok mixed Tryz.func95 rfl (by rfl) (Nat.le_of_ble_eq_true rfl) (by kernel_rfl) ?_;refine⟨fun _=>?_,fun h=>absurd h (by decide)⟩;refine⟨fun _=>?_,fun h=>absurd (of_decide_eq_false h) (by omega)⟩;refine⟨fun _=>?_,fun h=>absurd (of_decide_eq_false h) (by omega)⟩;exact .inl ⟨_,hs,rfl⟩
theorem zZQ (i:Nat) (hi:i<3):zB Tryz.prog zBQ [.lit (.int .i64 (i:Nat))] (.lit (.string (dig i))):=by
 refine zA ttok mixed Tryz.func72 rfl (by rfl) (Nat.le_of_ble_eq_true rfl) (by kernel_rfl) ?_;exact .inl ⟨_,zU9 i hi,rfl⟩
theorem zNK (i:Nat) (hi:i<3):zB Tryz.prog zC0 [.lit (.int .i64 (i:Nat))] (.lit (.string (dig i))):=by
 refine zA ttok mixed Tryz.func38 rfl (by rfl) (Nat.le_of_ble_eq_true rfl) (by kernel_rfl) ?_;exact .inl ⟨_,zZQ i hi,rfl⟩
def xJ (ns:List ByteArray) (a:Nat) (own:List ByteArray):List ByteArray:=ns.take a++(own++ns.drop (a+1))
theorem zDO (ns own:List ByteArray) (a:Nat) (ha:a<ns.length) (hn:ns.length<10000) (ho:own.length<10000) :
  zB Tryz.prog xQ [.sl (eSs own),.ptr [.sl (eSs ns)],.ptr [.lit (.int .i64 (a:Nat))]] (.sl (eSs (xJ ns a own))):=by
 have hls:(eSs ns).length=ns.length:=by simp[eSs]
 have e1:([eSs (ns.take a),eSs own,eSs (ns.drop (a+1))]:List (List AV)).flatten=eSs (xJ ns a own):=by simp[eSs,xJ]
 have hc:=zQI [eSs (ns.take a),eSs own,eSs (ns.drop (a+1))] (by simp) (fun l hl=>by simp at hl;rcases hl with rfl|rfl|rfl<;>exact jU _) (by rw[e1];simp[eSs,xJ];omega);rw[e1] at hc;have t1:List.drop (Int.toNat 0) (List.take (Int.toNat (a:Int)) (eSs ns))=eSs (ns.take a):=by simp[eSs]
 have t2:List.drop (Int.toNat ((a+1:Nat):Int)) (List.take (Int.toNat ((eSs ns).length:Nat)) (eSs ns))=eSs (ns.drop (a+1)):=by
  rw[Int.toNat_natCast,Int.toNat_natCast,List.take_length];simp[eSs]
 have hw:IntKind.i64.wrap ((a:Int)+1)=((a+1:Nat):Int):=wrap_succ (k:=a) (by omega);have hc':zB Tryz.prog zAC [.sl [.sl (List.drop (Int.toNat 0) (List.take (Int.toNat (a:Int)) (eSs ns))),.sl (eSs own),.sl (List.drop (Int.toNat (IntKind.i64.wrap ((a:Int)+1))) (List.take (Int.toNat ((eSs ns).length:Nat)) (eSs ns)))]] (.sl (eSs (xJ ns a own))):=by
  rw[t1,hw,t2];exact hc
 refine zA ttok mixed Tryz.func35 rfl (by rfl) (Nat.le_of_ble_eq_true rfl) (by kernel_rfl) ?_;refine⟨by decide,by omega,by rw[hls];omega,rfl,.inl rfl,?_⟩;refine⟨by rw[hw];omega,by rw[hw,hls];omega,by omega,.inr (jU _),?_⟩;refine .inl ⟨_,hc',?_⟩;exact⟨by kernel_rfl,rfl⟩
theorem zSP (p:Pt):zB Tryz.prog wY [ePt p] (.sb (!p.opn)):=by
 refine zA ttok mixed Tryz.func31 rfl (by rfl) (Nat.le_of_ble_eq_true rfl) (by kernel_rfl) ?_;exact .inl ⟨_,zTI p,rfl⟩
def zND (l:List Pt) (i:Int):Prop:=(∃k:Nat,i=k/\∃h:k<l.length,l[k].opn=false/\∀j (hj:j<l.length),j<k->l[j].opn=true)∨(i = -1/\∀x∈l,x.opn=true)
theorem zG6 (l:List Pt):∃i,zND l i:=by
 obtain⟨i,h,_⟩:=zHY l (fun p => !p.opn);refine⟨i,?_⟩;rcases h with⟨k,rfl,h,h1,h2⟩|⟨rfl,h1⟩
 ·exact .inl ⟨k,rfl,h,by simpa using h1,fun j hj hjk=>by simpa using h2 j hj hjk⟩
 ·exact .inr ⟨rfl,fun x hx=>by simpa using h1 x hx⟩
theorem zCP (l:List Pt) (i:Int) (hl:l.length<10000) (hi:zND l i):zB Tryz.prog qY [.sl (zM l),.lit (fnv wY)] (.lit (.int .i64 i)):=by
 refine zA ttok mixed Tryz.func30 rfl (by rfl) (Nat.le_of_ble_eq_true rfl) (by kernel_rfl) ?_;refine⟨{k:Nat // k<=l.length/\∀j (hj:j<l.length),j<k->l[j].opn=true},fun k=>{vs:=[(0,.v (.sl (zM l))),(1,.v (.lit (fnv wY))),(6,.v (.sl (zM l))),(7,sv (l.length:Nat)),(8,sv (k.1:Nat))]},
  fun k=>l.length-k.1,⟨0,Nat.zero_le _,fun j hj h=>by omega⟩,⟨⟨rfl,rfl,rfl,svc (by rw[zFU]),rfl,trivial⟩,trivial,rfl⟩,?_⟩
 rintro⟨k,hk,hinv⟩;refine⟨fun h=>?_,fun h=>?_⟩
 ·have h:k<l.length:=by have h:=of_decide_eq_true h;simp only at h;omega
  have hc:=zSP l[k];refine⟨_,by omega,zEN h,rfl,?_⟩;refine .inl ⟨_,hc,?_⟩;refine⟨fun h2=>?_,fun h2=>?_⟩
  ·have hi':i=k:=by
    rcases hi with⟨k',rfl,h3,h4,h5⟩|⟨_,h3⟩
    ·rcases Nat.lt_trichotomy k k' with q|q|q
     ·have:=h5 k h q;rw[this] at h2;cases h2
     ·rw[q]
     ·have:=hinv k' h3 q;rw[h4] at this;cases this
    ·have:=h3 _ (List.getElem_mem h);rw[this] at h2;cases h2
   subst hi';exact rfl
  ·refine⟨⟨k+1,h,fun j hjl hj=>?_⟩,by simp;omega,⟨rfl,rfl,rfl,rfl,svc (wrap_succ (k:=k) (by omega)),trivial⟩,trivial,rfl⟩;rcases Nat.lt_or_ge j k with hlt|hge
   ·exact hinv j hjl hlt
   ·have:j=k:=by omega
    subst this;simpa using h2
 ·have h:k=l.length:=by have h:=of_decide_eq_false h;simp only at h;omega
  have hi':i = -1:=by
   rcases hi with⟨k',rfl,h3,h4,h5⟩|⟨h3,_⟩
   ·have:=hinv k' h3 (by omega);rw[h4] at this;cases this
   ·exact h3
  subst hi';exact rfl
end Go.Proofs.YtebmimnglcdogaaGreatDoor
