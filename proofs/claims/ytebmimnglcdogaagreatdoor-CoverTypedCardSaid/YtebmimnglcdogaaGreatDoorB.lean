/- A part of the proof of a given statement: contracts of functions of the program, under no condition but those that each states. -/
import Derived.Test.YtebmimnglcdogaaGreatDoorA
set_option linter.unusedSimpArgs false
set_option linter.unusedVariables false
namespace Go.Proofs.YtebmimnglcdogaaGreatDoor
open Go Fp
set_option maxRecDepth 10000
set_option maxHeartbeats 4000000
theorem zPK {f:Nat} {l:List Int} {k:Nat} (hr:∀x∈l,InR x)
  (h:(l.length<=k->zD Tryz.prog f [.sl (eIs l),.lit (.int .i64 (k:Nat))] (.lit (.int .i64 0)))/\∀x,l[k]? = some x ->
   (x<0->zD Tryz.prog f [.sl (eIs l),.lit (.int .i64 (k:Nat))] (.lit (.int .i64 (IntKind.i64.wrap (0-IntKind.i64.wrap (x+1))))))/\(¬x<0->zD Tryz.prog f [.sl (eIs l),.lit (.int .i64 (k:Nat))] (.lit (.int .i64 x)))) :
  ∃r:Nat,r<9223372036854775808/\zD Tryz.prog f [.sl (eIs l),.lit (.int .i64 (k:Nat))] (.lit (.int .i64 (r:Nat))):=by
 by_cases hk:k<l.length
 ·obtain⟨h1,h2⟩:=h.2 l[k] (by simp[hk]);have hx:=hr l[k] (List.getElem_mem hk);generalize l[k]=x at *;have hx':=hx;unfold InR at hx;by_cases h0:x<0
  ·have e1:IntKind.i64.wrap (x+1)=x+1:=wrap_in (by unfold InR;omega);have e2:IntKind.i64.wrap (0-(x+1)) = -(x+1):=by rw[wrap_in (by unfold InR;omega)];omega
   refine⟨(-(x+1)).toNat,by omega,?_⟩;have:=h1 h0;rw[e1,e2] at this;rw[show ((-(x+1)).toNat:Int) = -(x+1) by omega];exact this
  ·refine⟨x.toNat,by omega,?_⟩;rw[show (x.toNat:Int)=x by omega];exact h2 h0
 ·exact⟨0,by omega,h.1 (by omega)⟩
theorem zQV {l:List Int} {k:Nat} (hr:∀x∈l,InR x):∃r:Nat,r<9223372036854775808/\zD Tryz.prog zD1 [.sl (eIs l),.lit (.int .i64 (k:Nat))] (.lit (.int .i64 (r:Nat))):=by
 refine zPK hr ⟨fun h=>?_,fun x hx=>⟨fun h0=>?_,fun h0=>?_⟩⟩
 ·refine zC ttok mixed Tryz.func20 rfl (by rfl) (Nat.le_of_ble_eq_true rfl) (by kernel_rfl) ?_;refine⟨fun _=>rfl,fun h'=>?_⟩;simp[eIs] at h';omega
 all_goals
  have hk:=(List.getElem?_eq_some_iff.1 hx).1;have hm:(eIs l)[k]? = some (.lit (.int .i64 x)):=by simp[eIs,hx]
  refine zC ttok mixed Tryz.func20 rfl (by rfl) (Nat.le_of_ble_eq_true rfl) (by kernel_rfl) ?_;refine⟨fun h'=>by simp[eIs] at h';omega,fun _=>?_⟩;refine⟨_,by omega,hm,rfl,?_⟩
 ·refine⟨fun _=>?_,fun h'=>by simp at h';omega⟩;exact⟨_,by omega,hm,rfl,rfl⟩
 ·refine⟨fun h'=>by simp at h';omega,fun _=>?_⟩;exact⟨_,by omega,hm,rfl,rfl⟩
theorem zI0 {l:List Int} {k:Nat} (hr:∀x∈l,InR x):∃r:Nat,r<9223372036854775808/\zD Tryz.prog yO [.sl (eIs l),.lit (.int .i64 (k:Nat))] (.lit (.int .i64 (r:Nat))):=by
 refine zPK hr ⟨fun h=>?_,fun x hx=>⟨fun h0=>?_,fun h0=>?_⟩⟩
 ·refine zC ttok mixed Tryz.func57 rfl (by rfl) (Nat.le_of_ble_eq_true rfl) (by kernel_rfl) ?_;refine⟨fun _=>rfl,fun h'=>?_⟩;simp[eIs] at h';omega
 all_goals
  have hk:=(List.getElem?_eq_some_iff.1 hx).1;have hm:(eIs l)[k]? = some (.lit (.int .i64 x)):=by simp[eIs,hx]
  refine zC ttok mixed Tryz.func57 rfl (by rfl) (Nat.le_of_ble_eq_true rfl) (by kernel_rfl) ?_;refine⟨fun h'=>by simp[eIs] at h';omega,fun _=>?_⟩;refine⟨_,by omega,hm,rfl,?_⟩
 ·refine⟨fun _=>?_,fun h'=>by simp at h';omega⟩;exact⟨_,by omega,hm,rfl,rfl⟩
 ·refine⟨fun h'=>by simp at h';omega,fun _=>?_⟩;exact⟨_,by omega,hm,rfl,rfl⟩
theorem digit_ok (n:Int):∃s:ByteArray,s.size<=1/\zD Tryz.prog zDT [.lit (.int .i64 n)] (.lit (.string s)):=by
 refine⟨⟨#[UInt8.ofNat (IntKind.u8.wrap (IntKind.i64.wrap (48+n.tmod 10))).toNat]⟩,Nat.le_refl 1,?_⟩;refine zC ttok mixed Tryz.func58 rfl (by rfl) (Nat.le_of_ble_eq_true rfl) (by kernel_rfl) ?_;refine⟨by decide,?_⟩;exact rfl
theorem qC (s:ByteArray) (l:List Tp) (hl:l.length<1000):zD Tryz.prog zDM [.lit (.string s),.sl (zN l)] (eTy (l.foldl .app (.con s))):=by
 refine zC ttok mixed Tryz.func62 rfl (by rfl) (Nat.le_of_ble_eq_true rfl) (by kernel_rfl) ?_;refine⟨{k:Nat // k<=l.length},fun k=>{vs:=[(1,.v (.sl (zN l))),(4,.box 0 (eTy .no)),(5,.box 0 (eTy ((l.take k.1).foldl .app (.con s)))),(6,.v (.lit (.int .i64 (k.1:Nat))))]},
  fun k=>l.length-k.1,⟨0,Nat.zero_le _⟩,⟨⟨rfl,rfl,rfl,rfl,trivial⟩,trivial,rfl⟩,?_⟩
 rintro⟨k,hk⟩;refine⟨fun h=>?_,fun h=>?_⟩
 ·have h:k<l.length:=by simp[zN] at h;omega
  refine⟨_,by omega,zLP h,rfl,?_⟩;refine⟨⟨k+1,h⟩,by simp;omega,⟨rfl,rfl,?_,?_,trivial⟩,trivial,rfl⟩
  ·show SV.box _ (eTy (.app ((l.take k).foldl .app (.con s)) l[k]))=SV.box _ (eTy ((l.take (k+1)).foldl .app (.con s)));rw[List.take_succ_eq_append_getElem h,List.foldl_append];rfl
  ·exact congrArg (fun l=>SV.v (AV.lit (Value.int .i64 l))) (wrap_succ (k:=k) (by omega))
 ·have h:k=l.length:=by simp[zN] at h;omega
  subst h;show eTy ((l.take l.length).foldl .app (.con s))=_;rw[List.take_length]
theorem yJ (t:Nat) (ht:t<5):zD Tryz.prog zBA [.lit (.int .i64 (t:Nat))] (eTy (wTy t)):=by
 refine zC ttok mixed Tryz.func28 rfl (by rfl) (Nat.le_of_ble_eq_true rfl) (by kernel_rfl) ?_
 match t,ht with
 | 0,_=>exact⟨fun _ => .inl ⟨_,qC zE7 [] (by decide),rfl⟩,fun h=>by simp at h⟩
 | 1,_=>exact⟨fun h=>by simp at h,fun _=>⟨fun _ => .inl ⟨_,qC zBM [] (by decide),rfl⟩,fun h=>by simp at h⟩⟩
 | 2,_=>exact⟨fun h=>by simp at h,fun _=>⟨fun h=>by simp at h,fun _=>⟨fun _ => .inl ⟨_,qC zE7 [] (by decide),.inl ⟨_,qC sL [.con zE7] (by decide),rfl⟩⟩,fun h=>by simp at h⟩⟩⟩
 | 3,_=>exact⟨fun h=>by simp at h,fun _=>⟨fun h=>by simp at h,fun _=>⟨fun h=>by simp at h,fun _=>⟨fun _ => .inl ⟨_,qC sT [] (by decide),rfl⟩,fun h=>by simp at h⟩⟩⟩⟩
 | 4,_=>exact⟨fun h=>by simp at h,fun _=>⟨fun h=>by simp at h,fun _=>⟨fun h=>by simp at h,fun _=>⟨fun h=>by simp at h,fun _ => .inl ⟨_,qC zBM [] (by decide),.inl ⟨_,qC sL [.con zBM] (by decide),rfl⟩⟩⟩⟩⟩⟩
 | n+5,h=>omega
def eFs (l:List (ByteArray×List Nat)):List AV:=l.map fun p => .sl (eIs (p.2.map Int.ofNat))
theorem zGY (t:Nat) (ht:0<t/\t<5):zD Tryz.prog zAH [.lit (.int .i64 (t:Nat))] (.tup [.sl (eSs ((zL t).map (·.1))),.sl (eFs (zL t))]):=by
 refine zC ttok mixed Tryz.func59 rfl (by rfl) (Nat.le_of_ble_eq_true rfl) (by kernel_rfl) ?_
 match t,ht with
 | 0,h=>omega
 | 1,_=>exact⟨fun _=>rfl,fun h=>by simp at h⟩
 | 2,_=>exact⟨fun h=>by simp at h,fun _=>⟨fun _=>rfl,fun h=>by simp at h⟩⟩
 | 3,_=>exact⟨fun h=>by simp at h,fun _=>⟨fun h=>by simp at h,fun _=>⟨fun _=>rfl,fun h=>by simp at h⟩⟩⟩
 | 4,_=>exact⟨fun h=>by simp at h,fun _=>⟨fun h=>by simp at h,fun _=>⟨fun h=>by simp at h,fun _=>⟨fun _=>rfl,fun h=>by simp at h⟩⟩⟩⟩
 | n+5,h=>omega
def cap:Nat->Nat
 | 0=>1
 | d+1=>1+2*cap d
abbrev aPt (f n:Int) (s:ByteArray) (k:List AV) (t:Tp) (ts:List Tp):AV :=
 .agg [.lit (.int .i64 f),.lit (.int .i64 0),.lit (.int .i64 n),.lit (.string s),.sl k,.lit (.int .i64 t.form),.lit (.int .i64 t.num),.lit (.string t.nam),.sl t.eArgs,.sl (zN ts)]
theorem zKU (f n:Int) (s:ByteArray) (k:List Pt) (t:Tp) (ts:List Tp):aPt f n s (zG k) t ts=ePt (.mk f n s t ts k):=by
 unfold aPt ePt;rw[Pt.eKids_eq];rfl
section
variable {l:List Int} {a t d n:Nat}
theorem zR2 (ha:a<4611686018427387904) (ht:t<5) (hpick:zD Tryz.prog yO [.sl (eIs l),.lit (.int .i64 (a:Nat))] (.lit (.int .i64 (n:Nat))))
  (h0:n % 5=0∨d=0/\0<t) :
  zD Tryz.prog zX [.sl (eIs l),.lit (.int .i64 (a:Nat)),.lit (.int .i64 (t:Nat)),.lit (.int .i64 (d:Nat))] (.tup [ePt (.mk 1 0 .empty (wTy t) [] []),.lit (.int .i64 ((a+1:Nat):Int))]):=by
 have hw:=yJ t ht;have m5:((n:Int).tmod 5)=((n % 5:Nat):Int):=rfl;rw[<-wrap_succ (k:=a) (by omega)];refine zC ttok mixed Tryz.func21 rfl (by rfl) (Nat.le_of_ble_eq_true rfl) (by kernel_rfl) ?_;refine .inl ⟨_,hpick,.inl ⟨_,hw,?_⟩⟩;refine⟨by decide,?_⟩;refine⟨fun h=>?_,fun h=>?_⟩
 ·have h:¬n % 5=0:=by simp at h;omega
  refine⟨fun h'=>?_,fun h'=>?_⟩
  ·refine⟨fun _=>?_,fun h''=>?_⟩
   ·exact rfl
   ·simp at h'';omega
  ·simp at h';omega
 ·exact rfl
theorem zV9 (ha:a<4611686018427387904) (ht:t<5) (hpick:zD Tryz.prog yO [.sl (eIs l),.lit (.int .i64 (a:Nat))] (.lit (.int .i64 (n:Nat))))
  (h0:¬(n % 5=0∨d=0/\0<t)) (h1:n % 5=1) :
  ∃s:ByteArray,s.size<=4/\zD Tryz.prog zX [.sl (eIs l),.lit (.int .i64 (a:Nat)),.lit (.int .i64 (t:Nat)),.lit (.int .i64 (d:Nat))] (.tup [ePt (.mk 2 0 s (wTy t) [] []),.lit (.int .i64 ((a+1:Nat):Int))]):=by
 have hw:=yJ t ht;have m5:((n:Int).tmod 5)=((n % 5:Nat):Int):=rfl;obtain⟨s1,hs1,hc1⟩:=digit_ok (IntKind.i64.wrap ((a:Int).tdiv 10));obtain⟨s2,hs2,hc2⟩:=digit_ok (a:Int);refine⟨⟨#[118]⟩++s1++s2,?_,?_⟩
 ·rw[ByteArray.size_append,ByteArray.size_append,show (⟨#[118]⟩:ByteArray).size=1 from rfl];omega
 rw[<-wrap_succ (k:=a) (by omega)];refine zC ttok mixed Tryz.func21 rfl (by rfl) (Nat.le_of_ble_eq_true rfl) (by kernel_rfl) ?_;refine .inl ⟨_,hpick,.inl ⟨_,hw,?_⟩⟩;refine⟨by decide,?_⟩;have fin:∀(F:Prop),F->F:=fun _ h=>h;refine⟨fun h=>?_,fun h=>by simp at h;omega⟩;refine⟨fun h=>?_,fun h=>?_⟩
 ·refine⟨fun h'=>?_,fun h'=>?_⟩
  ·simp at h h';omega
  ·refine⟨by decide,⟨fun _=>?_,fun h=>by simp at h;omega⟩⟩;refine⟨by decide,.inl ⟨_,hc1,?_⟩⟩;refine⟨by rw[show (⟨#[118]⟩:ByteArray).size=1 from rfl];omega,.inl ⟨_,hc2,?_⟩⟩;refine⟨by rw[ByteArray.size_append,show (⟨#[118]⟩:ByteArray).size=1 from rfl];omega,?_⟩;exact rfl
 ·refine⟨by decide,⟨fun _=>?_,fun h=>by simp at h;omega⟩⟩;refine⟨by decide,.inl ⟨_,hc1,?_⟩⟩;refine⟨by rw[show (⟨#[118]⟩:ByteArray).size=1 from rfl];omega,.inl ⟨_,hc2,?_⟩⟩;refine⟨by rw[ByteArray.size_append,show (⟨#[118]⟩:ByteArray).size=1 from rfl];omega,?_⟩;exact rfl
theorem zU1 (ha:a<4611686018427387904) (hpick:zD Tryz.prog yO [.sl (eIs l),.lit (.int .i64 (a:Nat))] (.lit (.int .i64 (n:Nat)))) (hn:n<9223372036854775808)
  (h0:¬n % 5=0) (h1:¬n % 5=1) :
  zD Tryz.prog zX [.sl (eIs l),.lit (.int .i64 (a:Nat)),.lit (.int .i64 ((0:Nat):Int)),.lit (.int .i64 (d:Nat))] (.tup [ePt (.mk 3 ((n / 5 % 4:Nat):Int) .empty (wTy 0) [] []),.lit (.int .i64 ((a+1:Nat):Int))]):=by
 have hw:=yJ 0 (by decide);have m5:((n:Int).tmod 5)=((n % 5:Nat):Int):=rfl;have w5:IntKind.i64.wrap ((n:Int).tdiv 5)=((n / 5:Nat):Int):=by rw[show ((n:Int).tdiv 5)=((n / 5:Nat):Int) by simp];exact yL (by omega)
 have w4:((n / 5 % 4:Nat):Int)=(IntKind.i64.wrap ((n:Int).tdiv 5)).tmod 4:=by rw[w5];rfl
 rw[<-wrap_succ (k:=a) (by omega),w4];refine zC ttok mixed Tryz.func21 rfl (by rfl) (Nat.le_of_ble_eq_true rfl) (by kernel_rfl) ?_;refine .inl ⟨_,hpick,.inl ⟨_,hw,?_⟩⟩;refine⟨by decide,?_⟩;refine⟨fun h=>?_,fun h=>by simp at h;omega⟩;refine⟨fun h=>?_,fun h=>?_⟩
 ·refine⟨fun h=>by simp at h,fun _=>?_⟩;refine⟨by decide,⟨fun h=>by simp at h;omega,fun _=>?_⟩⟩;refine⟨fun _=>?_,fun h=>by simp at h⟩;refine⟨by decide,by decide,?_⟩;exact rfl
 ·refine⟨by decide,⟨fun h=>by simp at h;omega,fun _=>?_⟩⟩;refine⟨fun _=>?_,fun h=>by simp at h⟩;refine⟨by decide,by decide,?_⟩;exact rfl
end
set_option maxHeartbeats 8000000
def stp (P:Nat->Nat->Pt) (N:Nat->Nat->Nat):List Nat->Nat->List Pt×Nat
 | [],a=>([],a)
 | u::fs,a=>(P a u::(stp P N fs (N a u)).1,(stp P N fs (N a u)).2)
theorem zAY {P:Nat->Nat->Pt} {N:Nat->Nat->Nat} (u:Nat):∀(fs:List Nat) (a:Nat),stp P N (fs++[u]) a=((stp P N fs a).1++[P (stp P N fs a).2 u],N (stp P N fs a).2 u)
 | [],a=>rfl
 | v::fs,a=>by simp only[List.cons_append,stp,zAY u fs]
theorem zCP {P:Nat->Nat->Pt} {N:Nat->Nat->Nat} {c:Nat} (h:∀a t,a+c<4611686018427387904->t<5->TyP t (P a t)/\N a t<=a+c/\(P a t).sz<=c) :
  ∀(fs:List Nat) (a:Nat),(∀u∈fs,u<5)->a+fs.length*c<4611686018427387904 ->
  (stp P N fs a).1.length=fs.length/\(∀(i:Nat) (x:Pt) u,(stp P N fs a).1[i]? = some x->fs[i]? = some u->TyP u x)/\(stp P N fs a).2<=a+fs.length*c/\szL (stp P N fs a).1<=fs.length*c
 | [],a,_,_=>⟨rfl,fun i x u hx=>by simp[stp] at hx,by simp[stp],by simp[stp,szL]⟩
 | v::fs,a,h5,hb=>by
  have e1:(v::fs).length*c=c+fs.length*c:=by rw[List.length_cons,Nat.add_mul,Nat.one_mul,Nat.add_comm]
  rw[e1] at hb⊢;obtain⟨h1,h2,h3⟩:=h a v (by omega) (h5 v (by simp));obtain⟨k1,k2,k3,k4⟩:=zCP h fs (N a v) (fun u hu=>h5 u (by simp[hu])) (by omega);refine⟨by simp[stp,k1],fun i x u hx hu=>?_,by simp only[stp];omega,by simp only[stp,szL];omega⟩;cases i with
  | zero=>simp[stp] at hx hu;subst hx;subst hu;exact h1
  | succ i=>exact k2 i x u (by simpa[stp] using hx) (by simpa using hu)
def zWU (t:Nat):List Tp:=if t=2 then [wTy 0] else if t=4 then [wTy 1] else []
theorem zI8 {t:Nat} (h0:0<t) (h5:t<5):0<(zL t).length/\(zL t).length<=3:=by
 match t,h0,h5 with
 | 1,_,_|2,_,_|3,_,_|4,_,_=>decide
 | n+5,_,h=>omega
theorem zAZ {t:Nat} {q:ByteArray×List Nat} (h:q∈zL t):q.2.length<=2/\(∀u∈q.2,u<5)/\0<t/\t<5:=by
 match t with
 | 0=>simp[zL] at h
 | 1|2|3|4=>simp[zL] at h;rcases h with rfl|rfl|rfl<;>decide
 | n+5=>simp[zL] at h
theorem zV3 {l : List Int} {a t d n : Nat} {P : Nat -> Nat -> Pt} {N : Nat -> Nat -> Nat} (ha : a + (1 + 2 * cap d) < 4611686018427387904) (h0 : 0 < t) (h5 : t < 5)
    (hpick : zD Tryz.prog yO [.sl (eIs l), .lit (.int .i64 (a : Nat))] (.lit (.int .i64 (n : Nat)))) (hn : n < 9223372036854775808) (hn0 : ¬ n % 5 = 0) (hn1 : ¬ n % 5 = 1) (hd : d < 1000)
    (hP : ∀ a t, a + cap d < 4611686018427387904 -> t < 5 -> zD Tryz.prog zX [.sl (eIs l), .lit (.int .i64 (a : Nat)), .lit (.int .i64 (t : Nat)), .lit (.int .i64 (d : Nat))] (.tup [ePt (P a t), .lit (.int .i64 (N a t : Nat))]))
    (hF : ∀ a t, a + cap d < 4611686018427387904 -> t < 5 -> TyP t (P a t) /\ N a t <= a + cap d /\ (P a t).sz <= cap d) {k : Nat} (hk : k = n / 5 % (zL t).length) (hkl : k < (zL t).length) :
    zD Tryz.prog zX [.sl (eIs l), .lit (.int .i64 (a : Nat)), .lit (.int .i64 (t : Nat)), .lit (.int .i64 ((d + 1 : Nat) : Int))]
      (.tup [ePt (.mk 4 0 (zL t)[k].1 (wTy t) (zWU t) (stp P N (zL t)[k].2 (a + 1)).1), .lit (.int .i64 ((stp P N (zL t)[k].2 (a + 1)).2 : Nat))]) := by
  have hw := yJ t h5;have hwf := zGY t ⟨h0, h5⟩;have m5 : ((n : Int).tmod 5) = ((n % 5 : Nat) : Int) := rfl;have w5 : IntKind.i64.wrap ((n : Int).tdiv 5) = ((n / 5 : Nat) : Int) := by rw [show ((n : Int).tdiv 5) = ((n / 5 : Nat) : Int) by simp]; exact yL (by omega)
  have hl1 : (eSs ((zL t).map (·.1))).length = (zL t).length := by simp [eSs]
  have e14 : (IntKind.i64.wrap ((n : Int).tdiv 5)).tmod ((eSs ((zL t).map (·.1))).length : Nat) = (k : Int) := by
    rw [w5, hl1, hk]; rfl
  have wd : IntKind.i64.wrap (((d + 1 : Nat) : Int) - 1) = (d : Int) := zEY (by omega);have hlen := zI8 h0 h5;have hfs := zAZ (List.getElem_mem hkl);have hnm : (eSs ((zL t).map (·.1)))[((IntKind.i64.wrap ((n : Int).tdiv 5)).tmod ((eSs ((zL t).map (·.1))).length : Nat)).toNat]? = some (.lit (.string (zL t)[k].1)) := by
    rw [e14]; simp [eSs, hkl]
  have hfi : (eFs (zL t))[k]? = some (.sl (eIs ((zL t)[k].2.map Int.ofNat))) := by simp [eFs, hkl]
  generalize hq : (zL t)[k] = q at *;obtain ⟨nm, fs⟩ := q;simp only at hfs hnm hfi ⊢;refine zC ttok mixed Tryz.func21 rfl (by rfl) (Nat.le_of_ble_eq_true rfl) (by kernel_rfl) ?_;refine .inl ⟨_, hpick, .inl ⟨_, hw, ?_⟩⟩;refine ⟨by decide, ?_⟩;refine ⟨fun h => ?_, fun h => by simp at h; omega⟩;refine ⟨fun h => by simp at h; omega, fun h => ?_⟩;refine ⟨by decide, ⟨fun h => by simp at h; omega, fun _ => ?_⟩⟩;refine ⟨fun h => by simp at h; omega, fun _ => ?_⟩;refine .inl ⟨_, hwf, ?_⟩;refine ⟨by decide, by rw [hl1]; omega, ?_⟩;refine ⟨_, by rw [e14]; omega, hnm, rfl, ?_⟩;have hw0 := yJ 0 (by decide);have hw1 := yJ 1 (by decide);obtain ⟨ts, hts⟩ : ∃ ts, ts = zWU t := ⟨_, rfl⟩
  have stT : ∀ i, (stp P N (fs.take i) (a + 1)).1.length <= 2 /\ (stp P N (fs.take i) (a + 1)).2 <= a + 1 + i * cap d := fun i => by
    have hm : (fs.take i).length <= i := List.length_take_le _ _;have hm2 : (fs.take i).length * cap d <= i * cap d := Nat.mul_le_mul_right _ hm;have hm3 : (fs.take i).length * cap d <= 2 * cap d := Nat.mul_le_mul_right _ (by simp; omega);obtain ⟨s1, _, s2, _⟩ := zCP hF (fs.take i) (a + 1) (fun u hu => hfs.2.1 u (List.mem_of_mem_take hu)) (by omega);exact ⟨by rw [s1]; simp; omega, by omega⟩
  have inv : ∀ (F : (α : Type) -> (α -> Fr) -> (α -> Nat) -> α -> Prop), F {i : Nat // i <= fs.length} (fun i => { vs := [(0, .v (.sl (eIs l))), (1, .v (.lit (.int .i64 ((stp P N (fs.take i.1) (a + 1)).2 : Nat)))), (3, .v (.lit (.int .i64 ((d + 1 : Nat) : Int)))), (8, .box 0 (ePt (.mk 0 0 .empty .no [] []))),
      (11, .box 0 (aPt 4 0 nm (zG (stp P N (fs.take i.1) (a + 1)).1) (wTy t) ts)), (13, .v (.sl (eFs (zL t)))), (14, .v (.lit (.int .i64 (k : Nat)))), (15, .v (.lit (.int .i64 (i.1 : Nat))))], ow := [(11, 4, 11)] })
    (fun i => fs.length - i.1) ⟨0, Nat.zero_le _⟩ -> ∃ α I μ y, F α I μ y := fun F h => ⟨_, _, _, _, h⟩
  have lenF : (eIs (fs.map Int.ofNat)).length = fs.length := by simp [eIs]
  by_cases h2 : t = 2
  · have e : ts = [wTy 0] := by rw [hts, h2]; rfl
    refine ⟨fun _ => .inl ⟨_, hw0, ?_⟩, fun h => by simp at h; omega⟩;refine ⟨fun h => by simp at h; omega, fun _ => ?_⟩;refine inv _ ⟨⟨⟨rfl, congrArg (fun l => SV.v (AV.lit (Value.int .i64 l))) (wrap_succ (k := a) (by omega)), rfl, rfl, by rw [e]; exact rfl, rfl, congrArg (fun l => SV.v (AV.lit (Value.int .i64 l))) e14, rfl, trivial⟩, ⟨trivial, trivial⟩, rfl⟩, ?_⟩;rintro ⟨i, hi⟩;refine ⟨_, by omega, hfi, rfl, ?_⟩;refine ⟨fun h => ?_, fun h => ?_⟩
    · have h : i < fs.length := by simp [lenF] at h; omega
      have st2 := stT i;have hib : i * cap d + cap d <= 2 * cap d := by have : (i + 1) * cap d <= 2 * cap d := Nat.mul_le_mul_right _ (by omega); rw [Nat.add_mul, Nat.one_mul] at this; exact this
      have hc := hP (stp P N (fs.take i) (a + 1)).2 fs[i] (by omega) (hfs.2.1 _ (List.getElem_mem h));rw [<- wd] at hc;refine ⟨_, by omega, hfi, rfl, ?_⟩;refine ⟨.lit (.int .i64 (fs[i] : Nat)), by omega, by simp [eIs, h], rfl, ?_⟩;refine .inl ⟨_, hc, ?_⟩;refine ⟨by rw [zEU]; simp; omega, zDE _, qU (f := ePt) (fun _ => rfl) [_], ?_⟩;have hs := zAY (P := P) (N := N) fs[i] (fs.take i) (a + 1);rw [<- List.take_succ_eq_append_getElem h] at hs;refine ⟨⟨i + 1, h⟩, by simp; omega, ⟨rfl, ?_, rfl, rfl, ?_, rfl, rfl, ?_, trivial⟩, ⟨rfl, trivial⟩, rfl⟩
      · show _ = SV.v (AV.lit (Value.int .i64 ((stp P N (fs.take (i + 1)) (a + 1)).2 : Nat)))
        rw [hs]; rfl
      · show _ = SV.box _ (aPt 4 0 nm (zG (stp P N (fs.take (i + 1)) (a + 1)).1) (wTy t) ts)
        rw [hs, show zG ((stp P N (fs.take i) (a + 1)).1 ++ [P (stp P N (fs.take i) (a + 1)).2 fs[i]]) = zG (stp P N (fs.take i) (a + 1)).1 ++ [ePt (P (stp P N (fs.take i) (a + 1)).2 fs[i])] by simp [zG]]
        rfl
      · exact congrArg (fun l => SV.v (AV.lit (Value.int .i64 l))) (wrap_succ (k := i) (by omega))
    · have h : i = fs.length := by simp [lenF] at h; omega
      subst h;show AV.tup [aPt 4 0 nm (zG (stp P N (fs.take fs.length) (a + 1)).1) (wTy t) ts, .lit (.int .i64 ((stp P N (fs.take fs.length) (a + 1)).2 : Nat))] = _;rw [List.take_length, zKU, hts]
  by_cases h4 : t = 4
  · have e : ts = [wTy 1] := by rw [hts, h4]; rfl
    refine ⟨fun h => by simp at h; omega, fun _ => ?_⟩;refine ⟨fun _ => .inl ⟨_, hw1, ?_⟩, fun h => by simp at h; omega⟩;refine inv _ ⟨⟨⟨rfl, congrArg (fun l => SV.v (AV.lit (Value.int .i64 l))) (wrap_succ (k := a) (by omega)), rfl, rfl, by rw [e]; exact rfl, rfl, congrArg (fun l => SV.v (AV.lit (Value.int .i64 l))) e14, rfl, trivial⟩, ⟨trivial, trivial⟩, rfl⟩, ?_⟩;rintro ⟨i, hi⟩;refine ⟨_, by omega, hfi, rfl, ?_⟩;refine ⟨fun h => ?_, fun h => ?_⟩
    · have h : i < fs.length := by simp [lenF] at h; omega
      have st2 := stT i;have hib : i * cap d + cap d <= 2 * cap d := by have : (i + 1) * cap d <= 2 * cap d := Nat.mul_le_mul_right _ (by omega); rw [Nat.add_mul, Nat.one_mul] at this; exact this
      have hc := hP (stp P N (fs.take i) (a + 1)).2 fs[i] (by omega) (hfs.2.1 _ (List.getElem_mem h));rw [<- wd] at hc;refine ⟨_, by omega, hfi, rfl, ?_⟩;refine ⟨.lit (.int .i64 (fs[i] : Nat)), by omega, by simp [eIs, h], rfl, ?_⟩;refine .inl ⟨_, hc, ?_⟩;refine ⟨by rw [zEU]; simp; omega, zDE _, qU (f := ePt) (fun _ => rfl) [_], ?_⟩;have hs := zAY (P := P) (N := N) fs[i] (fs.take i) (a + 1);rw [<- List.take_succ_eq_append_getElem h] at hs;refine ⟨⟨i + 1, h⟩, by simp; omega, ⟨rfl, ?_, rfl, rfl, ?_, rfl, rfl, ?_, trivial⟩, ⟨rfl, trivial⟩, rfl⟩
      · show _ = SV.v (AV.lit (Value.int .i64 ((stp P N (fs.take (i + 1)) (a + 1)).2 : Nat)))
        rw [hs]; rfl
      · show _ = SV.box _ (aPt 4 0 nm (zG (stp P N (fs.take (i + 1)) (a + 1)).1) (wTy t) ts)
        rw [hs, show zG ((stp P N (fs.take i) (a + 1)).1 ++ [P (stp P N (fs.take i) (a + 1)).2 fs[i]]) = zG (stp P N (fs.take i) (a + 1)).1 ++ [ePt (P (stp P N (fs.take i) (a + 1)).2 fs[i])] by simp [zG]]
        rfl
      · exact congrArg (fun l => SV.v (AV.lit (Value.int .i64 l))) (wrap_succ (k := i) (by omega))
    · have h : i = fs.length := by simp [lenF] at h; omega
      subst h;show AV.tup [aPt 4 0 nm (zG (stp P N (fs.take fs.length) (a + 1)).1) (wTy t) ts, .lit (.int .i64 ((stp P N (fs.take fs.length) (a + 1)).2 : Nat))] = _;rw [List.take_length, zKU, hts]
  · have e : ts = [] := by rw [hts]; simp [zWU, h2, h4]
    refine ⟨fun h => by simp at h; omega, fun _ => ?_⟩;refine ⟨fun h => by simp at h; omega, fun _ => ?_⟩;refine inv _ ⟨⟨⟨rfl, congrArg (fun l => SV.v (AV.lit (Value.int .i64 l))) (wrap_succ (k := a) (by omega)), rfl, rfl, by rw [e]; exact rfl, rfl, congrArg (fun l => SV.v (AV.lit (Value.int .i64 l))) e14, rfl, trivial⟩, ⟨trivial, trivial⟩, rfl⟩, ?_⟩;rintro ⟨i, hi⟩;refine ⟨_, by omega, hfi, rfl, ?_⟩;refine ⟨fun h => ?_, fun h => ?_⟩
    · have h : i < fs.length := by simp [lenF] at h; omega
      have st2 := stT i;have hib : i * cap d + cap d <= 2 * cap d := by have : (i + 1) * cap d <= 2 * cap d := Nat.mul_le_mul_right _ (by omega); rw [Nat.add_mul, Nat.one_mul] at this; exact this
      have hc := hP (stp P N (fs.take i) (a + 1)).2 fs[i] (by omega) (hfs.2.1 _ (List.getElem_mem h));rw [<- wd] at hc;refine ⟨_, by omega, hfi, rfl, ?_⟩;refine ⟨.lit (.int .i64 (fs[i] : Nat)), by omega, by simp [eIs, h], rfl, ?_⟩;refine .inl ⟨_, hc, ?_⟩;refine ⟨by rw [zEU]; simp; omega, zDE _, qU (f := ePt) (fun _ => rfl) [_], ?_⟩;have hs := zAY (P := P) (N := N) fs[i] (fs.take i) (a + 1);rw [<- List.take_succ_eq_append_getElem h] at hs;refine ⟨⟨i + 1, h⟩, by simp; omega, ⟨rfl, ?_, rfl, rfl, ?_, rfl, rfl, ?_, trivial⟩, ⟨rfl, trivial⟩, rfl⟩
      · show _ = SV.v (AV.lit (Value.int .i64 ((stp P N (fs.take (i + 1)) (a + 1)).2 : Nat)))
        rw [hs]; rfl
      · show _ = SV.box _ (aPt 4 0 nm (zG (stp P N (fs.take (i + 1)) (a + 1)).1) (wTy t) ts)
        rw [hs, show zG ((stp P N (fs.take i) (a + 1)).1 ++ [P (stp P N (fs.take i) (a + 1)).2 fs[i]]) = zG (stp P N (fs.take i) (a + 1)).1 ++ [ePt (P (stp P N (fs.take i) (a + 1)).2 fs[i])] by simp [zG]]
        rfl
      · exact congrArg (fun l => SV.v (AV.lit (Value.int .i64 l))) (wrap_succ (k := i) (by omega))
    · have h : i = fs.length := by simp [lenF] at h; omega
      subst h;show AV.tup [aPt 4 0 nm (zG (stp P N (fs.take fs.length) (a + 1)).1) (wTy t) ts, .lit (.int .i64 ((stp P N (fs.take fs.length) (a + 1)).2 : Nat))] = _;rw [List.take_length, zKU, hts]
theorem zNM {l:List Int} (hr:∀x∈l,InR x):∀(d:Nat),d<=3->∀(a t:Nat),a+cap d<4611686018427387904->t<5 ->
  ∃p nx,zD Tryz.prog zX [.sl (eIs l),.lit (.int .i64 (a:Nat)),.lit (.int .i64 (t:Nat)),.lit (.int .i64 (d:Nat))] (.tup [ePt p,.lit (.int .i64 (nx:Nat))])/\TyP t p/\nx<=a+cap d/\p.sz<=cap d:=by
 have c1:∀d,1<=cap d:=fun d=>by cases d<;>simp[cap]
 have base:∀(d a t n:Nat),a+cap d<4611686018427387904->t<5->n<9223372036854775808->zD Tryz.prog yO [.sl (eIs l),.lit (.int .i64 (a:Nat))] (.lit (.int .i64 (n:Nat))) ->
   (n % 5=0∨n % 5=1∨t=0∨d=0)->∃p nx,zD Tryz.prog zX [.sl (eIs l),.lit (.int .i64 (a:Nat)),.lit (.int .i64 (t:Nat)),.lit (.int .i64 (d:Nat))] (.tup [ePt p,.lit (.int .i64 (nx:Nat))])/\TyP t p/\nx<=a+cap d/\p.sz<=cap d:=by
  intro d a t n ha ht hn hp hc;have:=c1 d;by_cases h0:n % 5=0∨d=0/\0<t
  ·exact⟨_,_,zR2 (by omega) ht hp h0,.any _ _ (.inl rfl) rfl (fun h=>by cases h),by omega,by simp[Pt.sz,szL];omega⟩
  by_cases h1:n % 5=1
  ·obtain⟨s,hs,hq⟩:=zV9 (by omega) ht hp h0 h1;exact⟨_,_,hq,.any _ _ (.inr rfl) rfl (fun _=>⟨hs,rfl⟩),by omega,by simp[Pt.sz,szL];omega⟩
  have ht0:t=0:=by omega
  subst ht0;exact⟨_,_,zU1 (by omega) hp hn (by omega) h1,.int _ rfl rfl ⟨by simp[Pt.n];omega,by simp[Pt.n];omega⟩,by omega,by simp[Pt.sz,szL];omega⟩
 intro d;induction d with
 | zero =>
  intro _ a t ha ht;obtain⟨n,hn,hp⟩:=zI0 (l:=l) (k:=a) hr;exact base 0 a t n ha ht hn hp (.inr (.inr (.inr rfl)))
 | succ d ih =>
  intro hd a t ha ht;obtain⟨n,hn,hp⟩:=zI0 (l:=l) (k:=a) hr;by_cases hb:n % 5=0∨n % 5=1∨t=0
  ·exact base (d+1) a t n ha ht hn hp (by omega)
  have h0:0<t:=by omega
  have ih':=ih (by omega);have hlen:=zI8 h0 ht;have hk:n / 5 % (zL t).length<(zL t).length:=Nat.mod_lt _ hlen.1;let P:Nat->Nat->Pt:=fun a t=>if h:a+cap d<4611686018427387904/\t<5 then (ih' a t h.1 h.2).choose else xK
  let N:Nat->Nat->Nat:=fun a t=>if h:a+cap d<4611686018427387904/\t<5 then (ih' a t h.1 h.2).choose_spec.choose else 0
  have hPN:∀a t,a+cap d<4611686018427387904->t<5->zD Tryz.prog zX [.sl (eIs l),.lit (.int .i64 (a:Nat)),.lit (.int .i64 (t:Nat)),.lit (.int .i64 (d:Nat))] (.tup [ePt (P a t),.lit (.int .i64 (N a t:Nat))])/\TyP t (P a t)/\N a t<=a+cap d/\(P a t).sz<=cap d:=fun a t h1 h2=>by
   have:=(ih' a t h1 h2).choose_spec.choose_spec;simp only[P,N,dif_pos (show a+cap d<4611686018427387904/\t<5 from⟨h1,h2⟩)];exact this
  have hc:=zV3 (P:=P) (N:=N) (d:=d) (by simpa[cap] using ha) h0 ht hp hn (by omega) (by omega) (by omega) (fun a t h1 h2=>(hPN a t h1 h2).1) (fun a t h1 h2=>(hPN a t h1 h2).2) rfl hk;have hfs:=zAZ (List.getElem_mem hk);have hm2:(zL t)[n / 5 % (zL t).length].2.length*cap d<=2*cap d:=Nat.mul_le_mul_right _ hfs.1;obtain⟨s1,s2,s3,s4⟩:=zCP (P:=P) (N:=N) (c:=cap d) (fun a t h1 h2=>(hPN a t h1 h2).2) (zL t)[n / 5 % (zL t).length].2 (a+1) hfs.2.1 (by simp[cap] at ha;omega);refine⟨_,_,hc,.con t _ _ rfl (List.getElem_mem hk) s1 s2,by simp only[cap];omega,by simp only[Pt.sz,cap];omega⟩
theorem zLR {P:Nat->Nat->Pt} {N:Nat->Nat->Nat} (h:∀a t,a+15<4611686018427387904->t<5->N a t<=a+15/\(P a t).sz<=15):∀(fs:List Nat) (a:Nat),(∀u∈fs,u<5)->a+fs.length*15<4611686018427387904->∀p∈(stp P N fs a).1,p.sz<=15
 | [],a,_,_,p,hp=>by simp[stp] at hp
 | v::fs,a,h5,hb,p,hp=>by
  obtain⟨h2,h3⟩:=h a v (by simp at hb;omega) (h5 v (by simp));rcases List.mem_cons.1 hp with rfl|hp
  ·exact h3
  ·exact zLR h fs (N a v) (fun u hu=>h5 u (by simp[hu])) (by simp at hb;omega) p hp
theorem zV1 {l:List Int} (hr:∀x∈l,InR x) (hl:l.length<9223372036854775808):∃ps t,zD Tryz.prog wP [.sl (eIs l)] (.tup [.sl (zG ps),.lit (.int .i64 (t:Nat))])/\t<5/\ps.length<=5/\∀p∈ps,TyP t p/\p.sz<=15:=by
 have hr':∀x∈l.take 40,InR x:=fun x hx=>hr x (List.mem_of_mem_take hx);obtain⟨n,hn,hp⟩:=zQV (l:=l.take 40) (k:=0) hr';have pat:=zNM hr' 3 (by decide);let P:Nat->Nat->Pt:=fun a t=>if h:a+cap 3<4611686018427387904/\t<5 then (pat a t h.1 h.2).choose else xK
 let N:Nat->Nat->Nat:=fun a t=>if h:a+cap 3<4611686018427387904/\t<5 then (pat a t h.1 h.2).choose_spec.choose else 0
 have hPN:∀a t,a+cap 3<4611686018427387904->t<5->zD Tryz.prog zX [.sl (eIs (l.take 40)),.lit (.int .i64 (a:Nat)),.lit (.int .i64 (t:Nat)),.lit (.int .i64 (3:Nat))] (.tup [ePt (P a t),.lit (.int .i64 (N a t:Nat))])/\TyP t (P a t)/\N a t<=a+cap 3/\(P a t).sz<=cap 3:=fun a t h1 h2=>by
  have:=(pat a t h1 h2).choose_spec.choose_spec;simp only[P,N,dif_pos (show a+cap 3<4611686018427387904/\t<5 from⟨h1,h2⟩)];exact this
 have c3:cap 3=15:=rfl;obtain⟨t,ht⟩:∃t,t=n % 5:=⟨_,rfl⟩
 obtain⟨m,hm⟩:∃m,m=n / 5 % 6:=⟨_,rfl⟩
 have facts:=fun k=>zCP (P:=P) (N:=N) (c:=15) (fun a t h1 h2=>(hPN a t h1 h2).2) (List.replicate k t) 1 (fun u hu=>by rw[(List.mem_replicate.1 hu).2];omega);refine⟨(stp P N (List.replicate m t) 1).1,t,?_,by omega,?_,?_⟩
 ·have w5:IntKind.i64.wrap ((n:Int).tdiv 5)=((n / 5:Nat):Int):=by rw[show ((n:Int).tdiv 5)=((n / 5:Nat):Int) by simp];exact yL (by omega)
  have w6:(IntKind.i64.wrap ((n:Int).tdiv 5)).tmod 6=(m:Int):=by rw[w5,hm];rfl
  have m5:((n:Int).tmod 5)=(t:Int):=by rw[ht];rfl
  refine zC ttok mixed Tryz.func5 rfl (by rfl) (Nat.le_of_ble_eq_true rfl) (by kernel_rfl) ?_;have inv:∀(F:(α:Type)->(α->Fr)->(α->Nat)->α->Prop),F {i:Nat // i<=m} (fun i=>{vs:=[(0,.v (.sl (eIs (l.take 40)))),(4,.v (.lit (.int .i64 (t:Nat)))),(5,.v (.lit (.int .i64 ((stp P N (List.replicate i.1 t) 1).2:Nat)))),(6,.v (.sl (zG (stp P N (List.replicate i.1 t) 1).1))),(7,.v (.lit (.int .i64 (i.1:Nat))))],ow:=[(6,0,11)]})
   (fun i=>m-i.1) ⟨0,Nat.zero_le _⟩->∃α I μ y,F α I μ y:=fun F h=>⟨_,_,_,_,h⟩
  have l0:(0:Int)=((0:Nat):Int):=rfl;refine⟨fun h=>?_,fun h=>?_⟩
  ·have h:40<l.length:=by simp[eIs] at h;omega
   have hdr:List.drop (Int.toNat 0) (List.take (Int.toNat 40) (eIs l))=eIs (l.take 40):=by simp[eIs]
   have hp':=hp;rw[<-hdr] at hp';refine⟨by decide,by decide,by simp[eIs];omega,.inl rfl,?_⟩;refine .inl ⟨_,hp',?_⟩;refine⟨by decide,?_⟩;refine inv _ ⟨⟨⟨congrArg (fun l=>SV.v (AV.sl l)) hdr,congrArg (fun l=>SV.v (AV.lit (Value.int .i64 l))) m5,rfl,rfl,rfl,trivial⟩,⟨trivial,trivial⟩,rfl⟩,?_⟩;rintro⟨i,hi⟩;refine .inl ⟨_,hp,?_⟩;refine⟨by decide,by decide,?_⟩;refine⟨fun h=>?_,fun h=>?_⟩
   ·have h:=of_decide_eq_true h;simp only at h;rw[w6] at h;have h:i<m:=by omega
    have st:=facts i (by simp;omega);have hb:(stp P N (List.replicate i t) 1).2<=1+i*15:=by simpa using st.2.2.1
    have hc:=(hPN (stp P N (List.replicate i t) 1).2 t (by omega) (by omega)).1;refine .inl ⟨_,hc,?_⟩;refine⟨by rw[zEU,st.1];simp;omega,zDE _,qU (f:=ePt) (fun _=>rfl) [_],?_⟩;have hs:=zAY (P:=P) (N:=N) t (List.replicate i t) 1;rw[<-List.replicate_succ'] at hs;refine⟨⟨i+1,h⟩,by simp;omega,⟨rfl,rfl,?_,?_,?_,trivial⟩,⟨rfl,trivial⟩,rfl⟩
    ·show _=SV.v (AV.lit (Value.int .i64 ((stp P N (List.replicate (i+1) t) 1).2:Nat)));rw[hs];rfl
    ·show _=SV.v (AV.sl (zG (stp P N (List.replicate (i+1) t) 1).1));rw[hs,show zG ((stp P N (List.replicate i t) 1).1++[P (stp P N (List.replicate i t) 1).2 t])=zG (stp P N (List.replicate i t) 1).1++[ePt (P (stp P N (List.replicate i t) 1).2 t)] by simp[zG]]
     rfl
    ·exact congrArg (fun l=>SV.v (AV.lit (Value.int .i64 l))) (wrap_succ (k:=i) (by omega))
   ·have h:=of_decide_eq_false h;simp only at h;rw[w6] at h;have h:i=m:=by omega
    subst h;exact rfl
  ·have h:¬40<l.length:=by simp[eIs] at h;omega
   have hdr:l.take 40=l:=List.take_of_length_le (by omega);have hp':=hp;rw[hdr] at hp';refine .inl ⟨_,hp',?_⟩;refine⟨by decide,?_⟩;refine inv _ ⟨⟨⟨by rw[hdr];exact rfl,congrArg (fun l=>SV.v (AV.lit (Value.int .i64 l))) m5,rfl,rfl,rfl,trivial⟩,⟨trivial,trivial⟩,rfl⟩,?_⟩;rintro⟨i,hi⟩;refine .inl ⟨_,hp,?_⟩;refine⟨by decide,by decide,?_⟩;refine⟨fun h=>?_,fun h=>?_⟩
   ·have h:=of_decide_eq_true h;simp only at h;rw[w6] at h;have h:i<m:=by omega
    have st:=facts i (by simp;omega);have hb:(stp P N (List.replicate i t) 1).2<=1+i*15:=by simpa using st.2.2.1
    have hc:=(hPN (stp P N (List.replicate i t) 1).2 t (by omega) (by omega)).1;refine .inl ⟨_,hc,?_⟩;refine⟨by rw[zEU,st.1];simp;omega,zDE _,qU (f:=ePt) (fun _=>rfl) [_],?_⟩;have hs:=zAY (P:=P) (N:=N) t (List.replicate i t) 1;rw[<-List.replicate_succ'] at hs;refine⟨⟨i+1,h⟩,by simp;omega,⟨rfl,rfl,?_,?_,?_,trivial⟩,⟨rfl,trivial⟩,rfl⟩
    ·show _=SV.v (AV.lit (Value.int .i64 ((stp P N (List.replicate (i+1) t) 1).2:Nat)));rw[hs];rfl
    ·show _=SV.v (AV.sl (zG (stp P N (List.replicate (i+1) t) 1).1));rw[hs,show zG ((stp P N (List.replicate i t) 1).1++[P (stp P N (List.replicate i t) 1).2 t])=zG (stp P N (List.replicate i t) 1).1++[ePt (P (stp P N (List.replicate i t) 1).2 t)] by simp[zG]]
     rfl
    ·exact congrArg (fun l=>SV.v (AV.lit (Value.int .i64 l))) (wrap_succ (k:=i) (by omega))
   ·have h:=of_decide_eq_false h;simp only at h;rw[w6] at h;have h:i=m:=by omega
    subst h;exact rfl
 ·have:=facts m (by simp;omega);rw[this.1];simp;omega
 ·intro p hp;have:=facts m (by simp;omega);obtain⟨i,hi⟩:=List.getElem?_of_mem hp;have hlt:=(List.getElem?_eq_some_iff.1 hi).1;rw[this.1] at hlt;have h2:=this.2.1 i p t hi (by rw[List.getElem?_replicate,if_pos (by simpa using hlt)]);refine⟨h2,?_⟩;exact zLR (fun a t h1 h2=>⟨(hPN a t h1 h2).2.2.1,(hPN a t h1 h2).2.2.2⟩) _ 1 (fun u hu=>by rw[(List.mem_replicate.1 hu).2];omega) (by simp;omega) p hp
structure Rw where
 ps:List Pt
 lost:List (ByteArray×Tp×ByteArray)
 body:Nat
def eL (q:ByteArray×Tp×ByteArray):AV :=
 .agg [.lit (.string q.1),.lit (.int .i64 q.2.1.form),.lit (.int .i64 q.2.1.num),.lit (.string q.2.1.nam),.sl q.2.1.eArgs,.lit (.int .i64 1),.lit (.int .i64 0),.lit (.string q.2.2),.lit (.int .i64 0),.lit (.int .i64 0),.lit (.string .empty),.sl [],.sl [],.sl [],.sl []]
def eLs (l:List (ByteArray×Tp×ByteArray)):List AV:=l.map eL
def eN (q:ByteArray×Tp×ByteArray):AV := .agg [.lit (.string q.1),.lit (.int .i64 q.2.1.form),.lit (.int .i64 q.2.1.num),.lit (.string q.2.1.nam),.sl q.2.1.eArgs,.lit (.string q.2.2)]
def eNs (l:List (ByteArray×Tp×ByteArray)):List AV:=l.map eN
def eRw (F:Int) (b:Nat->Int) (r:Rw):AV :=
 .agg [.sl (zG r.ps),.sl (eLs r.lost),.lit (.int .i64 F),.lit (.int .i64 (b r.body)),.lit (.string .empty),.lit (.int .i64 0),.lit (.int .i64 0),.lit (.string .empty),.sl [],.sl [],.sl [],.sl []]
def xO (F:Int) (b:Nat->Int) (l:List Rw):List AV:=l.map (eRw F b)
theorem zX6 (l):Uni 15 (eLs l):=qU (f:=eL) (n:=15) (fun _=>rfl) l
theorem zW6 (l):Uni 6 (eNs l):=qU (f:=eN) (n:=6) (fun _=>rfl) l
theorem zWG (F b) (l):Uni 12 (xO F b l):=qU (f:=eRw F b) (n:=12) (fun _=>rfl) l
def Pt.opn (p:Pt):Bool:=decide (p.f=1) || decide (p.f=2)
theorem zVN (p:Pt):zD Tryz.prog zJ7 [ePt p] (.sb p.opn):=by
 refine zC ttok mixed Tryz.func32 rfl (by rfl) (Nat.le_of_ble_eq_true rfl) (by kernel_rfl) ?_;refine⟨fun h=>?_,fun h=>?_⟩
 ·have h:=of_decide_eq_false h;show AV.sb (decide (p.f=2))=_;simp[Pt.opn,h]
 ·have h:=of_decide_eq_true h;show AV.sb true=_;simp[Pt.opn,h]
def yC (n:Nat):List Pt->List Rw
 | []=>[]
 | p::l=>⟨[p],[],n⟩::yC (n+1) l
theorem zBB:∀(l:List Pt) (n:Nat),(yC n l).length=l.length
 | [],_=>rfl
 | p::l,n=>by simp[yC,zBB l]
theorem zCZ (p:Pt):∀(l:List Pt) (n:Nat),yC n (l++[p])=yC n l++[⟨[p],[],n+l.length⟩]
 | [],_=>rfl
 | q::l,n=>by simp only[List.cons_append,yC,zCZ p l,List.length_cons];rw[show n+1+l.length=n+(l.length+1) by omega]
theorem rows_ok (l:List Pt) (hl:l.length<1000):zD Tryz.prog zJ9 [.sl (zG l)] (.sl (xO 0 (fun _=>0) (yC 0 l))):=by
 refine zC ttok mixed Tryz.func26 rfl (by rfl) (Nat.le_of_ble_eq_true rfl) (by kernel_rfl) ?_;refine⟨{k:Nat // k<=l.length},fun k=>{vs:=[(3,.v (.sl (xO 0 (fun _=>0) (yC 0 (l.take k.1))))),(6,.v (.sl (zG l))),(7,.v (.lit (.int .i64 ((zG l).length:Nat)))),(8,.v (.lit (.int .i64 (k.1:Nat))))],ow:=[(3,0,13)]},
  fun k=>l.length-k.1,⟨0,Nat.zero_le _⟩,⟨⟨rfl,rfl,rfl,rfl,trivial⟩,⟨trivial,trivial⟩,rfl⟩,?_⟩
 rintro⟨k,hk⟩;refine⟨fun h=>?_,fun h=>?_⟩
 ·have h:k<l.length:=by simp[zG] at h;omega
  refine⟨_,by omega,zXW h,rfl,?_⟩;refine⟨by simp[xO,zBB];omega,zWG _ _ _,qU (f:=eRw 0 (fun _=>0)) (fun _=>rfl) [⟨[l[k]],[],k⟩],?_⟩;refine⟨⟨k+1,h⟩,by simp;omega,⟨?_,rfl,rfl,?_,trivial⟩,⟨rfl,trivial⟩,rfl⟩
  ·show _=SV.v (AV.sl (xO 0 (fun _=>0) (yC 0 (l.take (k+1)))));rw[List.take_succ_eq_append_getElem h,zCZ,show 0+(l.take k).length=k by simp;omega];unfold xO;rw[List.map_append];rfl
  ·exact congrArg (fun l=>SV.v (AV.lit (Value.int .i64 l))) (wrap_succ (k:=k) (by omega))
 ·have h:k=l.length:=by simp[zG] at h;omega
  subst h;show AV.sl (xO 0 (fun _=>0) (yC 0 (l.take l.length)))=_;rw[List.take_length]
inductive Kn where
 | con (s:ByteArray) (n:Nat)
 | int (n:Int)
 | none
def Kn.form:Kn->Int|con _ _=>4|int _=>3|none=>1
def Kn.nam:Kn->ByteArray|con s _=>s|_ => .empty
def Kn.many:Kn->Nat|con _ n=>n|_=>0
def Kn.hits (K:Kn) (p:Pt):Bool:=match K with
 | con s _=>decide (p.f=4) && decide (p.s=s)
 | int n=>decide (p.f=3) && decide (p.n=n)
 | none=>false
def part (K:Kn) (a:Nat) (y:ByteArray) (r:Rw):Option Rw:=match r.ps[a]? with
 | none=>none
 | some p=>if p.opn=true then some ⟨r.ps.take a++List.replicate K.many xK++r.ps.drop (a+1),r.lost++(if p.f=2 then [(p.s,p.t,y)] else []),r.body⟩
  else if K.hits p=true then some ⟨r.ps.take a++p.k++r.ps.drop (a+1),r.lost,r.body⟩ else none
def parts (K:Kn) (a:Nat) (y:ByteArray) (l:List Rw):List Rw:=l.filterMap (part K a y)
theorem zWV (l:List Pt) (k:Nat):List.drop (Int.toNat 0) (List.take (Int.toNat (k:Int)) (zG l))=zG (l.take k):=by simp[zG]
def zOQ (q:ByteArray×List Tp):AV := .agg [.lit (.string q.1),.lit (.int .i64 0),.sl (zN q.2)]
def xJ (l:List (ByteArray×List Tp)):List AV:=l.map zOQ
abbrev zNY:List (ByteArray×List Tp):=[(zKA,[]),(zPD,[])]
abbrev wsL:List (ByteArray×List Tp):=[(sN,[]),(sC,[.var sa,.app (.con sL) (.var sa)])]
abbrev wsT:List (ByteArray×List Tp):=[(sA,[]),(sB,[.con zE7,.con zBM]),(sD,[.con sT])]
def zTZ (s:ByteArray) (a:Int) (vs:List ByteArray) (ks:List AV) (cs:List (ByteArray×List Tp)):AV :=
 .agg [.lit (.string s),.lit (.int .i64 a),.sl (eSs vs),.sl ks,.sl (xJ cs)]
def dL:AV:=zTZ sL 1 [sa] [.agg [.sl []]] wsL
def dT:AV:=zTZ sT 2 [] [] wsT
def zTC:AV := .agg [.sl [dL,dT],.sl [],.sl [],.sl []]
theorem zUM:zD Tryz.prog zDR [] zTC:=by
 refine zC ttok mixed Tryz.func24 rfl (by rfl) (Nat.le_of_ble_eq_true rfl) (by kernel_rfl) ?_;refine .inl ⟨_,qC sL [.var sa] (by decide),?_⟩;refine .inl ⟨_,yJ 0 (by decide),.inl ⟨_,yJ 1 (by decide),.inl ⟨_,yJ 3 (by decide),?_⟩⟩⟩;exact rfl
theorem zDK:zD Tryz.prog zB9 [] zTC:=by
 refine zC ttok mixed Tryz.func7 rfl (by rfl) (Nat.le_of_ble_eq_true rfl) (by kernel_rfl) ?_;exact .inl ⟨_,zUM,rfl⟩
def zLZ (a:Nat) (r:Rw):Prop := ∃p,r.ps[a]? = some p/\(p.f=1∨p.f=2∨p.f=3/\p.k=[]∨p.f=4)/\p.k.length<=2/\r.ps.length<10000/\r.lost.length<10000
theorem zD4 (K:Kn) (a:Nat) (y:ByteArray) (l:List Rw):(parts K a y l).length<=l.length:=List.length_filterMap_le _ _
theorem zOW (K:Kn) (a:Nat) (y:ByteArray) (l:List Rw) (r:Rw):parts K a y (l++[r])=parts K a y l++(match part K a y r with|some x=>[x]|none=>[]):=by
 unfold parts;rw[List.filterMap_append]
 congr 1
 cases h:part K a y r<;>simp[List.filterMap_cons,h]
theorem zPE {α β:Type} {f:α->Option β} {b:β}:∀{l:List α} {k:Nat} {x:α},l[k]? = some x->(∀j y,j<k->l[j]? = some y->f y=none)->f x=some b->l.findSome? f=some b
 | [],k,x,h,_,_=>by simp at h
 | y::l,0,x,h,_,h2=>by simp at h;subst h;simp[List.findSome?,h2]
 | y::l,k+1,x,h,h1,h2=>by
  have h0:=h1 0 y (by omega) rfl;simp only[List.findSome?,h0];exact zPE (k:=k) (by simpa using h) (fun j z hj hz=>h1 (j+1) z (by omega) (by simpa using hz)) h2
theorem zJ4 {α β:Type} {f:α->Option β} {l:List α} (h:∀j y,j<l.length->l[j]? = some y->f y=none):l.findSome? f=none:=by
 rw[List.findSome?_eq_none_iff];intro x hx;obtain⟨j,hj⟩:=List.getElem?_of_mem hx;exact h j x (List.getElem?_eq_some_iff.1 hj).1 hj
abbrev DT:=ByteArray×Int×List ByteArray×List AV×List (ByteArray×List Tp)
def eD (q:DT):AV:=zTZ q.1 q.2.1 q.2.2.1 q.2.2.2.1 q.2.2.2.2
def wTab:List DT:=[(zBM,0,[],[],zNY),(sL,1,[sa],[.agg [.sl []]],wsL),(sT,2,[],[],wsT)]
def zWN (s:ByteArray) (q:DT):Option (List (ByteArray×List Tp)):=if ∃c∈q.2.2.2.2,c.1=s then some q.2.2.2.2 else none
def zHZ (s:ByteArray):Option (List (ByteArray×List Tp)):=wTab.findSome? (zWN s)
def jW (a:Nat) (r:Rw):Option (List (ByteArray×List Tp)):=match r.ps[a]? with
 | some p=>if p.f=4 then zHZ p.s else none
 | none=>none
def jY (a:Nat) (l:List Rw):Option (List (ByteArray×List Tp)):=l.findSome? (jW a)
def qA (a:Nat) (out:List Int) (r:Rw):List Int:=match r.ps[a]? with
 | some p=>if p.f=3/\p.n∉out then out++[p.n] else out
 | none=>out
def intsOf (a:Nat) (l:List Rw):List Int:=l.foldl (qA a) []
theorem zO5 (a:Nat) (out:List Int) (r:Rw):(qA a out r).length<=out.length+1:=by
 unfold qA;split
 ·split<;>simp
 ·omega
theorem zKZ (a:Nat):∀(l:List Rw) (out:List Int),(l.foldl (qA a) out).length<=out.length+l.length
 | [],out=>by simp
 | r::l,out=>by have:=zKZ a l (qA a out r);have:=zO5 a out r;simp;omega
def TyPs:List Nat->List Pt->Prop
 | [],[]=>True
 | t::cs,p::ps=>TyP t p/\TyPs cs ps
 | _,_=>False
theorem TyPs.len:∀{cs:List Nat} {ps:List Pt},TyPs cs ps->ps.length=cs.length
 | [],[],_=>rfl
 | t::cs,p::ps,h=>by simp[TyPs.len h.2]
theorem TyPs.app:∀{cs ds:List Nat} {ps qs:List Pt},TyPs cs ps->TyPs ds qs->TyPs (cs++ds) (ps++qs)
 | [],ds,[],qs,_,k=>k
 | t::cs,ds,p::ps,qs,h,k=>⟨h.1,TyPs.app h.2 k⟩
theorem TyPs.take:∀{cs:List Nat} {ps:List Pt} (a:Nat),TyPs cs ps->TyPs (cs.take a) (ps.take a)
 | _,_,0,_=>by simp[TyPs]
 | [],[],a+1,_=>trivial
 | t::cs,p::ps,a+1,h=>⟨h.1,TyPs.take a h.2⟩
theorem TyPs.drop:∀{cs:List Nat} {ps:List Pt} (a:Nat),TyPs cs ps->TyPs (cs.drop a) (ps.drop a)
 | _,_,0,h=>h
 | [],[],a+1,_=>trivial
 | t::cs,p::ps,a+1,h=>TyPs.drop (cs:=cs) (ps:=ps) a h.2
theorem TyPs.get:∀{cs:List Nat} {ps:List Pt} {a t:Nat},TyPs cs ps->cs[a]? = some t->∃p,ps[a]? = some p/\TyP t p
 | t::cs,p::ps,0,u,h,e=>by simp at e;subst e;exact⟨p,rfl,h.1⟩
 | t::cs,p::ps,a+1,u,h,e=>by simpa using TyPs.get (a:=a) h.2 (by simpa using e)
 | [],ps,a,u,h,e=>by simp at e
 | t::cs,[],a,u,h,e=>h.elim
theorem TyPs.of:∀{cs:List Nat} {ps:List Pt},ps.length=cs.length->(∀(i:Nat) (x:Pt) u,ps[i]? = some x->cs[i]? = some u->TyP u x)->TyPs cs ps
 | [],[],_,_=>trivial
 | t::cs,p::ps,hl,h=>⟨h 0 p t rfl rfl,TyPs.of (by simpa using hl) fun i x u hx hu=>h (i+1) x u (by simpa using hx) (by simpa using hu)⟩
 | [],p::ps,hl,_=>by simp at hl
 | t::cs,[],hl,_=>by simp at hl
theorem zGF (t:Nat):TyP t xK := .any t _ (.inl rfl) rfl (fun h=>by cases h)
theorem zJB:∀fs:List Nat,TyPs fs (List.replicate fs.length xK)
 | []=>trivial
 | t::fs=>⟨zGF t,zJB fs⟩
theorem TyP.form {t:Nat} {p:Pt} (h:TyP t p):(p.f=1∨p.f=2∨p.f=3/\p.k=[]∨p.f=4)/\p.k.length<=2:=by
 cases h with
 | any _ _ hf hk=>exact⟨by rcases hf with h|h<;>simp[h],by rw[hk];simp⟩
 | int _ hf hk=>exact⟨.inr (.inr (.inl ⟨hf,hk⟩)),by rw[hk];simp⟩
 | con _ _ fs hf hs hl=>exact⟨.inr (.inr (.inr hf)),by rw[hl];exact (zAZ hs).1⟩
inductive Fit:Nat->Kn->List Nat->Prop
 | con (t:Nat) (s:ByteArray) (fs:List Nat) (h:(s,fs)∈zL t):Fit t (.con s fs.length) fs
 | int (n:Int):Fit 0 (.int n) []
 | none (t:Nat):Fit t .none []
theorem zO6 {t:Nat} {s:ByteArray} {fs gs:List Nat} (h:(s,fs)∈zL t) (k:(s,gs)∈zL t):fs=gs:=by
 have ne:zKA≠zPD/\sN≠sC/\sA≠sB/\sA≠sD/\sB≠sD:=by decide
 match t with
 | 0=>simp[zL] at h
 | 1=>simp[zL] at h k;rcases h with⟨_,rfl⟩|⟨_,rfl⟩<;>rcases k with⟨_,rfl⟩|⟨_,rfl⟩<;>rfl
 | 2=>simp[zL] at h k;rcases h with⟨rfl,rfl⟩|⟨rfl,rfl⟩<;>rcases k with⟨hs,rfl⟩|⟨hs,rfl⟩<;>first|rfl|(exact absurd hs (by decide))
 | 3=>simp[zL] at h k;rcases h with⟨rfl,rfl⟩|⟨rfl,rfl⟩|⟨rfl,rfl⟩<;>rcases k with⟨hs,rfl⟩|⟨hs,rfl⟩|⟨hs,rfl⟩<;>first|rfl|(exact absurd hs (by decide))
 | 4=>simp[zL] at h k;rcases h with⟨rfl,rfl⟩|⟨rfl,rfl⟩<;>rcases k with⟨hs,rfl⟩|⟨hs,rfl⟩<;>first|rfl|(exact absurd hs (by decide))
 | n+5=>simp[zL] at h
theorem Fit.many {t:Nat} {K:Kn} {fs:List Nat} (h:Fit t K fs):K.many=fs.length:=by cases h<;>rfl
structure RowTy (cs:List Nat) (N:Nat) (r:Rw):Prop where
 ty:TyPs cs r.ps
 lost:r.lost.length+N<10000
theorem RowTy.col {cs:List Nat} {N a t:Nat} {r:Rw} (h:RowTy cs N r) (ha:cs[a]? = some t) (hc:cs.length<10000):zLZ a r:=by
 obtain⟨p,hp,ht⟩:=h.ty.get ha;exact⟨p,hp,ht.form.1,ht.form.2,by rw[h.ty.len];exact hc,by have:=h.lost;omega⟩
theorem zQZ {t:Nat} {K:Kn} {fs:List Nat} {p:Pt} (hp:TyP t p) (hK:Fit t K fs) (hh:K.hits p=true):TyPs fs p.k:=by
 cases hK with
 | con _ s _ h =>
  simp only[Kn.hits,Bool.and_eq_true,decide_eq_true_eq] at hh;cases hp with
  | any _ _ hf hk=>omega
  | int _ hf=>omega
  | con _ _ gs hf hs hl hk =>
   rw[hh.2] at hs;rw[zO6 h hs];exact TyPs.of hl hk
 | int n =>
  simp only[Kn.hits,Bool.and_eq_true,decide_eq_true_eq] at hh;cases hp with
  | any _ _ hf hk=>omega
  | int _ hf hk=>rw[hk];trivial
  | con _ _ gs hf=>omega
 | none=>simp[Kn.hits] at hh
theorem zWB {cs fs:List Nat} {N a t:Nat} {r x:Rw} {K:Kn} {y:ByteArray} (h:RowTy cs (N+1) r) (ha:cs[a]? = some t) (hK:Fit t K fs) (hx:part K a y r=some x):RowTy (cs.take a++fs++cs.drop (a+1)) N x:=by
 obtain⟨p,hp,ht⟩:=h.ty.get ha;have hl:=h.lost;unfold part at hx;rw[hp] at hx;simp only at hx;split at hx
 ·injection hx with hx;subst hx
  refine⟨((h.ty.take a).app ?_).app (h.ty.drop (a+1)),?_⟩
  ·rw[hK.many];exact zJB fs
  ·simp only[List.length_append];split<;>simp<;>omega
 ·split at hx
  ·rename_i hh;injection hx with hx;subst hx
   exact⟨((h.ty.take a).app (zQZ ht hK hh)).app (h.ty.drop (a+1)),by simp only;omega⟩
  ·cases hx
theorem zHJ {cs fs:List Nat} {N a t:Nat} {l:List Rw} {K:Kn} {y:ByteArray} (h:∀r∈l,RowTy cs (N+1) r) (ha:cs[a]? = some t) (hK:Fit t K fs):∀r∈parts K a y l,RowTy (cs.take a++fs++cs.drop (a+1)) N r:=fun x hx=>by
 obtain⟨r,hr,hp⟩:=List.mem_filterMap.1 hx;exact zWB (h r hr) ha hK hp
theorem zLM (p:Pt):p.nodes=(if p.f=3∨p.f=4 then 1 else 0)+yM p.k:=by cases p;rw[Pt.nodes];rfl
theorem zFL {ps:List Pt} {a:Nat} {p:Pt} (h:ps[a]? = some p):yM ps=yM (ps.take a)+p.nodes+yM (ps.drop (a+1)):=by
 have hlt:=(List.getElem?_eq_some_iff.1 h).1;have e:ps=ps.take a++(p::ps.drop (a+1)):=by
  rw[List.getElem?_eq_getElem hlt] at h;injection h with h;subst h
  rw[List.getElem_cons_drop,List.take_append_drop]
 conv=>lhs;rw[e]
 rw[jH];simp only[yM];omega
theorem zHT:∀n:Nat,yM (List.replicate n xK)=0
 | 0=>rfl
 | n+1=>by rw[List.replicate_succ];simp only[yM,zHT n];rfl
def wt:List Rw->Nat
 | []=>0
 | r::l=>yM r.ps+wt l
theorem zUW {K:Kn} {a:Nat} {y:ByteArray} {r x:Rw} (hx:part K a y r=some x):yM x.ps<=yM r.ps/\∀p,r.ps[a]? = some p->p.f=4->yM x.ps+1<=yM r.ps:=by
 unfold part at hx;split at hx
 ·cases hx
 ·rename_i p hp;have hs:=zFL hp;have hn:=zLM p;split at hx
  ·rename_i ho;injection hx with hx;subst hx
   refine⟨by simp only[jH,zHT];omega,fun q hq h4=>?_⟩;rw[hp] at hq;injection hq with hq;subst hq
   simp[Pt.opn,h4] at ho
  ·split at hx
   ·injection hx with hx;subst hx
    refine⟨by simp only[jH];omega,fun q hq h4=>?_⟩;rw[hp] at hq;injection hq with hq;subst hq
    rw[if_pos (.inr h4)] at hn;simp only[jH];omega
   ·cases hx
theorem zEG (K:Kn) (a:Nat) (y:ByteArray):∀l:List Rw,wt (parts K a y l)<=wt l/\((∃r∈l,∃p,r.ps[a]? = some p/\p.f=4)->wt (parts K a y l)+1<=wt l)
 | []=>⟨Nat.le_refl _,fun⟨r,hr,_⟩=>by simp at hr⟩
 | r::l=>by
  obtain⟨h1,h2⟩:=zEG K a y l;unfold parts at h1 h2⊢;cases hx:part K a y r with
  | none =>
   rw[List.filterMap_cons_none hx];simp only[wt];refine⟨by omega,fun⟨r',hr,p,hp,h4⟩=>?_⟩;rcases List.mem_cons.1 hr with rfl|hr
   ·have:=zFL hp;have hn:=zLM p;rw[if_pos (.inr h4)] at hn;omega
   ·have:=h2 ⟨r',hr,p,hp,h4⟩;omega
  | some x =>
   rw[List.filterMap_cons_some hx];obtain⟨k1,k2⟩:=zUW hx;simp only[wt];refine⟨by omega,fun⟨r',hr,p,hp,h4⟩=>?_⟩;rcases List.mem_cons.1 hr with rfl|hr
   ·have:=k2 p hp h4;omega
   ·have:=h2 ⟨r',hr,p,hp,h4⟩;omega
def zAD:Nat->List (ByteArray×List Tp)
 | 1=>zNY
 | 2=>wsL
 | 3=>wsT
 | 4=>wsL
 | _=>[]
theorem zTS (t:Nat):(zAD t).map (fun q=>(q.1,q.2.length))=(zL t).map (fun q=>(q.1,q.2.length)):=by
 match t with
 | 0|1|2|3|4=>rfl
 | n+5=>rfl
theorem zFV {t:Nat} {s:ByteArray} {fs:List Nat} (h:(s,fs)∈zL t):zHZ s=some (zAD t):=by
 match t with
 | 0=>simp[zL] at h
 | 1=>simp[zL] at h;rcases h with⟨rfl,rfl⟩|⟨rfl,rfl⟩<;>decide
 | 2=>simp[zL] at h;rcases h with⟨rfl,rfl⟩|⟨rfl,rfl⟩<;>decide
 | 3=>simp[zL] at h;rcases h with⟨rfl,rfl⟩|⟨rfl,rfl⟩|⟨rfl,rfl⟩<;>decide
 | 4=>simp[zL] at h;rcases h with⟨rfl,rfl⟩|⟨rfl,rfl⟩<;>decide
 | n+5=>simp[zL] at h
theorem zSQ {t:Nat} {p:Pt} (h:TyP t p) (hf:p.f=4):∃fs,(p.s,fs)∈zL t/\TyPs fs p.k:=by
 cases h with
 | any _ _ h=>omega
 | int _ h=>omega
 | con _ _ fs _ hs hl hk=>exact⟨fs,hs,TyPs.of hl hk⟩
theorem zXC {t:Nat} {p:Pt} (h:TyP t p) (hf:p.f=3):t=0/\p.k=[]/\0<=p.n/\p.n<1000:=by
 cases h with
 | any _ _ h=>omega
 | int _ h hk hn=>exact⟨rfl,hk,hn⟩
 | con _ _ fs hf'=>omega
theorem zDO {cs:List Nat} {a t:Nat} (ha:cs[a]? = some t):∀{l:List Rw},(∀r∈l,TyPs cs r.ps) ->
  (jY a l=none/\∀r∈l,∀p,r.ps[a]? = some p->p.f≠4)∨(jY a l=some (zAD t)/\0<t/\t<5/\∃r∈l,∃p,r.ps[a]? = some p/\p.f=4)
 | [],_ => .inl ⟨rfl,fun r hr=>by simp at hr⟩
 | r::l,h=>by
  obtain⟨p,hp,ht⟩:=(h r (by simp)).get ha;have ih:=zDO ha (l:=l) (fun r hr=>h r (by simp[hr]));unfold jY at ih⊢;by_cases h4:p.f=4
  ·obtain⟨fs,hs,_⟩:=zSQ ht h4;have h0:=(zAZ hs).2.2;refine .inr ⟨?_,h0.1,h0.2,r,by simp,p,hp,h4⟩;have:jW a r=some (zAD t):=by unfold jW;rw[hp];simp only[if_pos h4,zFV hs]
   simp[List.findSome?,this]
  ·have:jW a r=none:=by unfold jW;rw[hp];simp only[if_neg h4]
   simp only[List.findSome?,this];rcases ih with⟨k1,k2⟩|⟨k1,k2,k3,r',k4,k5⟩
   ·refine .inl ⟨k1,fun r' hr' p' hp'=>?_⟩;rcases List.mem_cons.1 hr' with rfl|hr'
    ·rw[hp] at hp';injection hp' with hp';subst hp';exact h4
    ·exact k2 r' hr' p' hp'
   ·exact .inr ⟨k1,k2,k3,r',by simp[k4],k5⟩
theorem zGO {cs:List Nat} {a t:Nat} (ha:cs[a]? = some t):∀{l:List Rw} {out:List Int},(∀r∈l,TyPs cs r.ps)->(∀x∈out,t=0/\0<=x/\x<1000)->∀x∈l.foldl (qA a) out,t=0/\0<=x/\x<1000
 | [],out,_,h=>h
 | r::l,out,hl,h=>by
  refine zGO ha (l:=l) (fun r hr=>hl r (by simp[hr])) fun x hx=>?_;unfold qA at hx;split at hx
  ·rename_i p hp;split at hx
   ·rename_i hc;rcases List.mem_append.1 hx with hx|hx
    ·exact h x hx
    ·simp at hx;subst hx;obtain⟨q,hq,hty⟩:=(hl r (by simp)).get ha;rw[hp] at hq;injection hq with hq;subst hq
     obtain⟨k1,k2,k3⟩:=zXC hty hc.1;exact⟨k1,k3⟩
   ·exact h x hx
  ·exact h x hx
def zC1 (l:List Int):Pt:=if l=[] then xK else zG1 (l.foldl max 0+1)
theorem zS0 (l:List Int) (x:Int):(l++[x]).foldl max 0=max (l.foldl max 0) x:=by rw[List.foldl_append];rfl
theorem zUQ:∀(l:List Int) (b:Int),(∀x∈l,x<1000)->b<1000->0<=b->l.foldl max b<1000/\0<=l.foldl max b
 | [],b,_,h,k=>⟨h,k⟩
 | x::l,b,h,hb,h0=>by
  have:=h x (by simp);exact zUQ l (max b x) (fun y hy=>h y (by simp[hy])) (by omega) (by omega)
def miss:Nat->List Rw->Nat->Option (List Pt)
 | 0,_,_=>none
 | _+1,l,0=>match l with
  | []=>some []
  | _::_=>none
 | n+1,l,c+1=>match jY 0 l with
  | some ks=>ks.findSome? fun q=>(miss n (parts (.con q.1 q.2.length) 0 .empty l) (q.2.length+c)).map fun m=>zFY q.1 (m.take q.2.length)::m.drop q.2.length
  | none=>match miss n (parts .none 0 .empty l) c with
   | some m=>some (zC1 (intsOf 0 l)::m)
   | none=>(intsOf 0 l).findSome? fun x=>(miss n (parts (.int x) 0 .empty l) c).map fun m=>zG1 x::m
theorem jL:∀(n:Nat) (l:List Rw) (c:Nat) (m:List Pt),miss n l c=some m->m.length=c
 | 0,_,_,_,h=>by simp[miss] at h
 | n+1,l,0,m,h=>by
  cases l with
  | nil=>simp[miss] at h;subst h;rfl
  | cons r l=>simp[miss] at h
 | n+1,l,c+1,m,h=>by
  unfold miss at h;split at h
  ·obtain⟨q,_,hq⟩:=List.exists_of_findSome?_eq_some h;obtain⟨m',hm,rfl⟩:=Option.map_eq_some_iff.1 hq;have:=jL n _ _ _ hm;simp;omega
  ·split at h
   ·rename_i m' hm;injection h with h;subst h
    have:=jL n _ _ _ hm;simp;omega
   ·obtain⟨q,_,hq⟩:=List.exists_of_findSome?_eq_some h;obtain⟨m',hm,rfl⟩:=Option.map_eq_some_iff.1 hq;have:=jL n _ _ _ hm;simp;omega
def zC8:Option (List Pt)->AV
 | some m => .tup [.sl (zG m),.sb true]
 | none => .tup [.sl [],.sb false]
structure RowsTy (cs:List Nat) (n:Nat) (l:List Rw):Prop where
 row:∀r∈l,RowTy cs n r
 col:∀t∈cs,t<5
 len:l.length<10000
 fuel:3*wt l+cs.length<n
 cap:n<10000
theorem RowsTy.tys {cs:List Nat} {n:Nat} {l:List Rw} (h:RowsTy cs n l):∀r∈l,TyPs cs r.ps:=fun r hr=>(h.row r hr).ty
theorem RowsTy.ok {cs:List Nat} {t n:Nat} {l:List Rw} (h:RowsTy (t::cs) n l):∀r∈l,zLZ 0 r:=fun r hr=>(h.row r hr).col (t:=t) rfl (by have:=h.fuel;have:=h.cap;omega)
theorem RowsTy.con {cs fs:List Nat} {t n:Nat} {l:List Rw} {s:ByteArray} (h:RowsTy (t::cs) (n+1) l) (hs:(s,fs)∈zL t) (h4:∃r∈l,∃p,r.ps[0]? = some p/\p.f=4):RowsTy (fs++cs) n (parts (.con s fs.length) 0 .empty l):=by
 have hw:=(zEG (.con s fs.length) 0 .empty l).2 h4;have hf:=zAZ hs;have:=h.fuel;have:=zD4 (.con s fs.length) 0 .empty l;have:=h.len;have:=h.cap;refine⟨fun r hr=>zHJ h.row (a:=0) (t:=t) rfl (.con t s fs hs) r hr,fun u hu=>?_,by omega,by simp at *;omega,by omega⟩;rcases List.mem_append.1 hu with hu|hu
 ·exact hf.2.1 u hu
 ·exact h.col u (by simp[hu])
theorem RowsTy.int {cs:List Nat} {t n:Nat} {l:List Rw} {x:Int} (h:RowsTy (t::cs) (n+1) l) (ht:t=0):RowsTy cs n (parts (.int x) 0 .empty l):=by
 have hw:=(zEG (.int x) 0 .empty l).1;have:=h.fuel;have:=zD4 (.int x) 0 .empty l;have:=h.len;have:=h.cap;subst ht;exact⟨fun r hr=>zHJ h.row (a:=0) (t:=0) rfl (.int x) r hr,fun u hu=>h.col u (by simp[hu]),by omega,by simp at *;omega,by omega⟩
theorem RowsTy.none {cs:List Nat} {t n:Nat} {l:List Rw} (h:RowsTy (t::cs) (n+1) l):RowsTy cs n (parts .none 0 .empty l):=by
 have hw:=(zEG .none 0 .empty l).1;have:=h.fuel;have:=zD4 .none 0 .empty l;have:=h.len;have:=h.cap;exact⟨fun r hr=>zHJ h.row (a:=0) (t:=t) rfl (.none t) r hr,fun u hu=>h.col u (by simp[hu]),by omega,by simp at *;omega,by omega⟩
theorem zMI {t:Nat} {q:ByteArray×List Tp} (h:q∈zAD t):∃fs,(q.1,fs)∈zL t/\fs.length=q.2.length:=by
 have h1:(q.1,q.2.length)∈(zAD t).map (fun q=>(q.1,q.2.length)):=List.mem_map.2 ⟨q,h,rfl⟩;rw[zTS] at h1;obtain⟨p,hp,he⟩:=List.mem_map.1 h1;injection he with h2 h3
 exact⟨p.2,by rw[<-h2];exact hp,h3⟩
theorem zQC (t:Nat):(zAD t).length<=3:=by
 match t with
 | 0|1|2|3|4=>decide
 | n+5=>simp[zAD]
set_option maxHeartbeats 16000000
abbrev sv (n:Int):SV := .v (.lit (.int .i64 n))
theorem svc {n m:Int} (h:n=m):SV.v (AV.lit (Value.int .i64 n))=SV.v (AV.lit (Value.int .i64 m)):=by rw[h]
theorem zVG (l:List Int):(eIs l).length=l.length:=by simp[eIs]
theorem zYD (l:List (ByteArray×List Tp)):(xJ l).length=l.length:=by simp[xJ]
theorem zW3 (l:List Tp):(zN l).length=l.length:=by simp[zN]
theorem zW4 (s:ByteArray) (m:List Pt):aPt 4 0 s (zG m) .no []=ePt (zFY s m):=zKU 4 0 s m .no []
theorem zSC (p:Pt) (K:List AV) (B:List Pt) (k:K=zG B):AV.tup [.sl ([ePt p]++K),.sb true]=zC8 (some (p::B)):=by
 rw[k];rfl
end Go.Proofs.YtebmimnglcdogaaGreatDoor
