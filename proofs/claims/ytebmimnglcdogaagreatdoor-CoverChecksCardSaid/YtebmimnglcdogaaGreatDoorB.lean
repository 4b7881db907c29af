/- A part of the proof of a given statement: contracts of functions of the program, under no condition but those that each states. -/
import Derived.Test.YtebmimnglcdogaaGreatDoorA
set_option linter.unusedSimpArgs false
set_option linter.unusedVariables false
namespace Go.Proofs.YtebmimnglcdogaaGreatDoor
open Go Fp
set_option maxRecDepth 10000
set_option maxHeartbeats 4000000
theorem zT5 {f:Nat} {l:List Int} {k:Nat} (hr:∀x∈l,InR x)
  (h:(l.length<=k->zB Tryz.prog f [.sl (eIs l),.lit (.int .i64 (k:Nat))] (.lit (.int .i64 0)))/\∀x,l[k]? = some x ->
   (x<0->zB Tryz.prog f [.sl (eIs l),.lit (.int .i64 (k:Nat))] (.lit (.int .i64 (IntKind.i64.wrap (0-IntKind.i64.wrap (x+1))))))/\(¬x<0->zB Tryz.prog f [.sl (eIs l),.lit (.int .i64 (k:Nat))] (.lit (.int .i64 x)))) :
  ∃r:Nat,r<9223372036854775808/\zB Tryz.prog f [.sl (eIs l),.lit (.int .i64 (k:Nat))] (.lit (.int .i64 (r:Nat))):=by
 by_cases hk:k<l.length
 ·obtain⟨h1,h2⟩:=h.2 l[k] (by simp[hk]);have hx:=hr l[k] (List.getElem_mem hk);generalize l[k]=x at *;have hx':=hx;unfold InR at hx;by_cases h0:x<0
  ·have e1:IntKind.i64.wrap (x+1)=x+1:=wrap_in (by unfold InR;omega);have e2:IntKind.i64.wrap (0-(x+1)) = -(x+1):=by rw[wrap_in (by unfold InR;omega)];omega
   refine⟨(-(x+1)).toNat,by omega,?_⟩;have:=h1 h0;rw[e1,e2] at this;rw[show ((-(x+1)).toNat:Int) = -(x+1) by omega];exact this
  ·refine⟨x.toNat,by omega,?_⟩;rw[show (x.toNat:Int)=x by omega];exact h2 h0
 ·exact⟨0,by omega,h.1 (by omega)⟩
theorem zVC {l:List Int} {k:Nat} (hr:∀x∈l,InR x):∃r:Nat,r<9223372036854775808/\zB Tryz.prog zFY [.sl (eIs l),.lit (.int .i64 (k:Nat))] (.lit (.int .i64 (r:Nat))):=by
 refine zT5 hr ⟨fun h=>?_,fun x hx=>⟨fun h0=>?_,fun h0=>?_⟩⟩
 ·refine zD ttok mixed Tryz.func20 rfl (by rfl) (Nat.le_of_ble_eq_true rfl) (by kernel_rfl) ?_;refine⟨fun _=>rfl,fun h'=>?_⟩;simp[eIs] at h';omega
 all_goals
  have hk:=(List.getElem?_eq_some_iff.1 hx).1;have hm:(eIs l)[k]? = some (.lit (.int .i64 x)):=by simp[eIs,hx]
  refine zD ttok mixed Tryz.func20 rfl (by rfl) (Nat.le_of_ble_eq_true rfl) (by kernel_rfl) ?_;refine⟨fun h'=>by simp[eIs] at h';omega,fun _=>?_⟩;refine⟨_,by omega,hm,rfl,?_⟩
 ·refine⟨fun _=>?_,fun h'=>by simp at h';omega⟩;exact⟨_,by omega,hm,rfl,rfl⟩
 ·refine⟨fun h'=>by simp at h';omega,fun _=>?_⟩;exact⟨_,by omega,hm,rfl,rfl⟩
theorem zV5 {l:List Int} {k:Nat} (hr:∀x∈l,InR x):∃r:Nat,r<9223372036854775808/\zB Tryz.prog yN [.sl (eIs l),.lit (.int .i64 (k:Nat))] (.lit (.int .i64 (r:Nat))):=by
 refine zT5 hr ⟨fun h=>?_,fun x hx=>⟨fun h0=>?_,fun h0=>?_⟩⟩
 ·refine zD ttok mixed Tryz.func57 rfl (by rfl) (Nat.le_of_ble_eq_true rfl) (by kernel_rfl) ?_;refine⟨fun _=>rfl,fun h'=>?_⟩;simp[eIs] at h';omega
 all_goals
  have hk:=(List.getElem?_eq_some_iff.1 hx).1;have hm:(eIs l)[k]? = some (.lit (.int .i64 x)):=by simp[eIs,hx]
  refine zD ttok mixed Tryz.func57 rfl (by rfl) (Nat.le_of_ble_eq_true rfl) (by kernel_rfl) ?_;refine⟨fun h'=>by simp[eIs] at h';omega,fun _=>?_⟩;refine⟨_,by omega,hm,rfl,?_⟩
 ·refine⟨fun _=>?_,fun h'=>by simp at h';omega⟩;exact⟨_,by omega,hm,rfl,rfl⟩
 ·refine⟨fun h'=>by simp at h';omega,fun _=>?_⟩;exact⟨_,by omega,hm,rfl,rfl⟩
theorem jL (s:ByteArray) (l:List Tp) (hl:l.length<1000):zB Tryz.prog zEO [.lit (.string s),.sl (zQ l)] (eTy (l.foldl .app (.con s))):=by
 refine zD ttok mixed Tryz.func62 rfl (by rfl) (Nat.le_of_ble_eq_true rfl) (by kernel_rfl) ?_;refine⟨{k:Nat // k<=l.length},fun k=>{vs:=[(1,.v (.sl (zQ l))),(4,.box 0 (eTy .no)),(5,.box 0 (eTy ((l.take k.1).foldl .app (.con s)))),(6,.v (.lit (.int .i64 (k.1:Nat))))]},
  fun k=>l.length-k.1,⟨0,Nat.zero_le _⟩,⟨⟨rfl,rfl,rfl,rfl,trivial⟩,trivial,rfl⟩,?_⟩
 rintro⟨k,hk⟩;refine⟨fun h=>?_,fun h=>?_⟩
 ·have h:k<l.length:=by simp[zQ] at h;omega
  refine⟨_,by omega,zNL h,rfl,?_⟩;refine⟨⟨k+1,h⟩,by simp;omega,⟨rfl,rfl,?_,?_,trivial⟩,trivial,rfl⟩
  ·show SV.box _ (eTy (.app ((l.take k).foldl .app (.con s)) l[k]))=SV.box _ (eTy ((l.take (k+1)).foldl .app (.con s)));rw[List.take_succ_eq_append_getElem h,List.foldl_append];rfl
  ·exact congrArg (fun l=>SV.v (AV.lit (Value.int .i64 l))) (wrap_succ (k:=k) (by omega))
 ·have h:k=l.length:=by simp[zQ] at h;omega
  subst h;show eTy ((l.take l.length).foldl .app (.con s))=_;rw[List.take_length]
theorem yR (t:Nat) (ht:t<5):zB Tryz.prog zCA [.lit (.int .i64 (t:Nat))] (eTy (wTy t)):=by
 refine zD ttok mixed Tryz.func28 rfl (by rfl) (Nat.le_of_ble_eq_true rfl) (by kernel_rfl) ?_
 match t,ht with
 | 0,_=>exact⟨fun _ => .inl ⟨_,jL zKZ [] (by decide),rfl⟩,fun h=>by simp at h⟩
 | 1,_=>exact⟨fun h=>by simp at h,fun _=>⟨fun _ => .inl ⟨_,jL zAW [] (by decide),rfl⟩,fun h=>by simp at h⟩⟩
 | 2,_=>exact⟨fun h=>by simp at h,fun _=>⟨fun h=>by simp at h,fun _=>⟨fun _ => .inl ⟨_,jL zKZ [] (by decide),.inl ⟨_,jL sL [.con zKZ] (by decide),rfl⟩⟩,fun h=>by simp at h⟩⟩⟩
 | 3,_=>exact⟨fun h=>by simp at h,fun _=>⟨fun h=>by simp at h,fun _=>⟨fun h=>by simp at h,fun _=>⟨fun _ => .inl ⟨_,jL sT [] (by decide),rfl⟩,fun h=>by simp at h⟩⟩⟩⟩
 | 4,_=>exact⟨fun h=>by simp at h,fun _=>⟨fun h=>by simp at h,fun _=>⟨fun h=>by simp at h,fun _=>⟨fun h=>by simp at h,fun _ => .inl ⟨_,jL zAW [] (by decide),.inl ⟨_,jL sL [.con zAW] (by decide),rfl⟩⟩⟩⟩⟩⟩
 | n+5,h=>omega
def eFs (l:List (ByteArray×List Nat)):List AV:=l.map fun p => .sl (eIs (p.2.map Int.ofNat))
theorem zKN (t:Nat) (ht:0<t/\t<5):zB Tryz.prog zBH [.lit (.int .i64 (t:Nat))] (.tup [.sl (eSs ((zO t).map (·.1))),.sl (eFs (zO t))]):=by
 refine zD ttok mixed Tryz.func59 rfl (by rfl) (Nat.le_of_ble_eq_true rfl) (by kernel_rfl) ?_
 match t,ht with
 | 0,h=>omega
 | 1,_=>exact⟨fun _=>rfl,fun h=>by simp at h⟩
 | 2,_=>exact⟨fun h=>by simp at h,fun _=>⟨fun _=>rfl,fun h=>by simp at h⟩⟩
 | 3,_=>exact⟨fun h=>by simp at h,fun _=>⟨fun h=>by simp at h,fun _=>⟨fun _=>rfl,fun h=>by simp at h⟩⟩⟩
 | 4,_=>exact⟨fun h=>by simp at h,fun _=>⟨fun h=>by simp at h,fun _=>⟨fun h=>by simp at h,fun _=>⟨fun _=>rfl,fun h=>by simp at h⟩⟩⟩⟩
 | n+5,h=>omega
def cap:Nat->Nat
 | 0=>1
 | d+1=>1+2*cap d
abbrev aPt (f n:Int) (s:ByteArray) (k:List AV) (t:Tp) (ts:List Tp):AV :=
 .agg [.lit (.int .i64 f),.lit (.int .i64 0),.lit (.int .i64 n),.lit (.string s),.sl k,.lit (.int .i64 t.form),.lit (.int .i64 t.num),.lit (.string t.nam),.sl t.eArgs,.sl (zQ ts)]
theorem zNY (f n:Int) (s:ByteArray) (k:List Pt) (t:Tp) (ts:List Tp):aPt f n s (zM k) t ts=ePt (.mk f n s t ts k):=by
 unfold aPt ePt;rw[Pt.eKids_eq];rfl
section
variable {l:List Int} {a t d n:Nat}
theorem zXP (ha:a<4611686018427387904) (ht:t<5) (hpick:zB Tryz.prog yN [.sl (eIs l),.lit (.int .i64 (a:Nat))] (.lit (.int .i64 (n:Nat))))
  (h0:n % 5=0∨d=0/\0<t) :
  zB Tryz.prog zX [.sl (eIs l),.lit (.int .i64 (a:Nat)),.lit (.int .i64 (t:Nat)),.lit (.int .i64 (d:Nat))] (.tup [ePt (.mk 1 0 .empty (wTy t) [] []),.lit (.int .i64 ((a+1:Nat):Int))]):=by
 have hw:=yR t ht;have m5:((n:Int).tmod 5)=((n % 5:Nat):Int):=rfl;rw[<-wrap_succ (k:=a) (by omega)];refine zD ttok mixed Tryz.func21 rfl (by rfl) (Nat.le_of_ble_eq_true rfl) (by kernel_rfl) ?_;refine .inl ⟨_,hpick,.inl ⟨_,hw,?_⟩⟩;refine⟨by decide,?_⟩;refine⟨fun h=>?_,fun h=>?_⟩
 ·have h:¬n % 5=0:=by simp at h;omega
  refine⟨fun h'=>?_,fun h'=>?_⟩
  ·refine⟨fun _=>?_,fun h''=>?_⟩
   ·exact rfl
   ·simp at h'';omega
  ·simp at h';omega
 ·exact rfl
theorem z04 (ha:a<4611686018427387904) (hpick:zB Tryz.prog yN [.sl (eIs l),.lit (.int .i64 (a:Nat))] (.lit (.int .i64 (n:Nat)))) (hn:n<9223372036854775808)
  (h0:¬n % 5=0) (h1:¬n % 5=1) :
  zB Tryz.prog zX [.sl (eIs l),.lit (.int .i64 (a:Nat)),.lit (.int .i64 ((0:Nat):Int)),.lit (.int .i64 (d:Nat))] (.tup [ePt (.mk 3 ((n / 5 % 4:Nat):Int) .empty (wTy 0) [] []),.lit (.int .i64 ((a+1:Nat):Int))]):=by
 have hw:=yR 0 (by decide);have m5:((n:Int).tmod 5)=((n % 5:Nat):Int):=rfl;have w5:IntKind.i64.wrap ((n:Int).tdiv 5)=((n / 5:Nat):Int):=by rw[show ((n:Int).tdiv 5)=((n / 5:Nat):Int) by simp];exact yB (by omega)
 have w4:((n / 5 % 4:Nat):Int)=(IntKind.i64.wrap ((n:Int).tdiv 5)).tmod 4:=by rw[w5];rfl
 rw[<-wrap_succ (k:=a) (by omega),w4];refine zD ttok mixed Tryz.func21 rfl (by rfl) (Nat.le_of_ble_eq_true rfl) (by kernel_rfl) ?_;refine .inl ⟨_,hpick,.inl ⟨_,hw,?_⟩⟩;refine⟨by decide,?_⟩;refine⟨fun h=>?_,fun h=>by simp at h;omega⟩;refine⟨fun h=>?_,fun h=>?_⟩
 ·refine⟨fun h=>by simp at h,fun _=>?_⟩;refine⟨by decide,⟨fun h=>by simp at h;omega,fun _=>?_⟩⟩;refine⟨fun _=>?_,fun h=>by simp at h⟩;refine⟨by decide,by decide,?_⟩;exact rfl
 ·refine⟨by decide,⟨fun h=>by simp at h;omega,fun _=>?_⟩⟩;refine⟨fun _=>?_,fun h=>by simp at h⟩;refine⟨by decide,by decide,?_⟩;exact rfl
end
set_option maxHeartbeats 8000000
def stp (P:Nat->Nat->Pt) (N:Nat->Nat->Nat):List Nat->Nat->List Pt×Nat
 | [],a=>([],a)
 | u::fs,a=>(P a u::(stp P N fs (N a u)).1,(stp P N fs (N a u)).2)
theorem zBP {P:Nat->Nat->Pt} {N:Nat->Nat->Nat} (u:Nat):∀(fs:List Nat) (a:Nat),stp P N (fs++[u]) a=((stp P N fs a).1++[P (stp P N fs a).2 u],N (stp P N fs a).2 u)
 | [],a=>rfl
 | v::fs,a=>by simp only[List.cons_append,stp,zBP u fs]
theorem zD3 {P:Nat->Nat->Pt} {N:Nat->Nat->Nat} {c:Nat} (h:∀a t,a+c<4611686018427387904->t<5->TyP t (P a t)/\N a t<=a+c/\(P a t).sz<=c) :
  ∀(fs:List Nat) (a:Nat),(∀u∈fs,u<5)->a+fs.length*c<4611686018427387904 ->
  (stp P N fs a).1.length=fs.length/\(∀(i:Nat) (x:Pt) u,(stp P N fs a).1[i]? = some x->fs[i]? = some u->TyP u x)/\(stp P N fs a).2<=a+fs.length*c/\szL (stp P N fs a).1<=fs.length*c
 | [],a,_,_=>⟨rfl,fun i x u hx=>by simp[stp] at hx,by simp[stp],by simp[stp,szL]⟩
 | v::fs,a,h5,hb=>by
  have e1:(v::fs).length*c=c+fs.length*c:=by rw[List.length_cons,Nat.add_mul,Nat.one_mul,Nat.add_comm]
  rw[e1] at hb⊢;obtain⟨h1,h2,h3⟩:=h a v (by omega) (h5 v (by simp));obtain⟨k1,k2,k3,k4⟩:=zD3 h fs (N a v) (fun u hu=>h5 u (by simp[hu])) (by omega);refine⟨by simp[stp,k1],fun i x u hx hu=>?_,by simp only[stp];omega,by simp only[stp,szL];omega⟩;cases i with
  | zero=>simp[stp] at hx hu;subst hx;subst hu;exact h1
  | succ i=>exact k2 i x u (by simpa[stp] using hx) (by simpa using hu)
def z3B (t:Nat):List Tp:=if t=2 then [wTy 0] else if t=4 then [wTy 1] else []
theorem zL6 {t:Nat} (h0:0<t) (h5:t<5):0<(zO t).length/\(zO t).length<=3:=by
 match t,h0,h5 with
 | 1,_,_|2,_,_|3,_,_|4,_,_=>decide
 | n+5,_,h=>omega
theorem wQ {t:Nat} {q:ByteArray×List Nat} (h:q∈zO t):q.2.length<=2/\(∀u∈q.2,u<5)/\0<t/\t<5:=by
 match t with
 | 0=>simp[zO] at h
 | 1|2|3|4=>simp[zO] at h;rcases h with rfl|rfl|rfl<;>decide
 | n+5=>simp[zO] at h
theorem z2H {l : List Int} {a t d n : Nat} {P : Nat -> Nat -> Pt} {N : Nat -> Nat -> Nat} (ha : a + (1 + 2 * cap d) < 4611686018427387904) (h0 : 0 < t) (h5 : t < 5)
    (hpick : zB Tryz.prog yN [.sl (eIs l), .lit (.int .i64 (a : Nat))] (.lit (.int .i64 (n : Nat)))) (hn : n < 9223372036854775808) (hn0 : ¬ n % 5 = 0) (hn1 : ¬ n % 5 = 1) (hd : d < 1000)
    (hP : ∀ a t, a + cap d < 4611686018427387904 -> t < 5 -> zB Tryz.prog zX [.sl (eIs l), .lit (.int .i64 (a : Nat)), .lit (.int .i64 (t : Nat)), .lit (.int .i64 (d : Nat))] (.tup [ePt (P a t), .lit (.int .i64 (N a t : Nat))]))
    (hF : ∀ a t, a + cap d < 4611686018427387904 -> t < 5 -> TyP t (P a t) /\ N a t <= a + cap d /\ (P a t).sz <= cap d) {k : Nat} (hk : k = n / 5 % (zO t).length) (hkl : k < (zO t).length) :
    zB Tryz.prog zX [.sl (eIs l), .lit (.int .i64 (a : Nat)), .lit (.int .i64 (t : Nat)), .lit (.int .i64 ((d + 1 : Nat) : Int))]
      (.tup [ePt (.mk 4 0 (zO t)[k].1 (wTy t) (z3B t) (stp P N (zO t)[k].2 (a + 1)).1), .lit (.int .i64 ((stp P N (zO t)[k].2 (a + 1)).2 : Nat))]) := by
  have hw := yR t h5;have hwf := zKN t ⟨h0, h5⟩;have m5 : ((n : Int).tmod 5) = ((n % 5 : Nat) : Int) := rfl;have w5 : IntKind.i64.wrap ((n : Int).tdiv 5) = ((n / 5 : Nat) : Int) := by rw [show ((n : Int).tdiv 5) = ((n / 5 : Nat) : Int) by simp]; exact yB (by omega)
  have hl1 : (eSs ((zO t).map (·.1))).length = (zO t).length := by simp [eSs]
  have e14 : (IntKind.i64.wrap ((n : Int).tdiv 5)).tmod ((eSs ((zO t).map (·.1))).length : Nat) = (k : Int) := by
    rw [w5, hl1, hk]; rfl
  have wd : IntKind.i64.wrap (((d + 1 : Nat) : Int) - 1) = (d : Int) := zGG (by omega);have hlen := zL6 h0 h5;have hfs := wQ (List.getElem_mem hkl);have hnm : (eSs ((zO t).map (·.1)))[((IntKind.i64.wrap ((n : Int).tdiv 5)).tmod ((eSs ((zO t).map (·.1))).length : Nat)).toNat]? = some (.lit (.string (zO t)[k].1)) := by
    rw [e14]; simp [eSs, hkl]
  have hfi : (eFs (zO t))[k]? = some (.sl (eIs ((zO t)[k].2.map Int.ofNat))) := by simp [eFs, hkl]
  generalize hq : (zO t)[k] = q at *;obtain ⟨nm, fs⟩ := q;simp only at hfs hnm hfi ⊢;refine zD ttok mixed Tryz.func21 rfl (by rfl) (Nat.le_of_ble_eq_true rfl) (by kernel_rfl) ?_;refine .inl ⟨_, hpick, .inl ⟨_, hw, ?_⟩⟩;refine ⟨by decide, ?_⟩;refine ⟨fun h => ?_, fun h => by simp at h; omega⟩;refine ⟨fun h => by simp at h; omega, fun h => ?_⟩;refine ⟨by decide, ⟨fun h => by simp at h; omega, fun _ => ?_⟩⟩;refine ⟨fun h => by simp at h; omega, fun _ => ?_⟩;refine .inl ⟨_, hwf, ?_⟩;refine ⟨by decide, by rw [hl1]; omega, ?_⟩;refine ⟨_, by rw [e14]; omega, hnm, rfl, ?_⟩;have hw0 := yR 0 (by decide);have hw1 := yR 1 (by decide);obtain ⟨ts, hts⟩ : ∃ ts, ts = z3B t := ⟨_, rfl⟩
  have stT : ∀ i, (stp P N (fs.take i) (a + 1)).1.length <= 2 /\ (stp P N (fs.take i) (a + 1)).2 <= a + 1 + i * cap d := fun i => by
    have hm : (fs.take i).length <= i := List.length_take_le _ _;have hm2 : (fs.take i).length * cap d <= i * cap d := Nat.mul_le_mul_right _ hm;have hm3 : (fs.take i).length * cap d <= 2 * cap d := Nat.mul_le_mul_right _ (by simp; omega);obtain ⟨s1, _, s2, _⟩ := zD3 hF (fs.take i) (a + 1) (fun u hu => hfs.2.1 u (List.mem_of_mem_take hu)) (by omega);exact ⟨by rw [s1]; simp; omega, by omega⟩
  have inv : ∀ (F : (α : Type) -> (α -> Fr) -> (α -> Nat) -> α -> Prop), F {i : Nat // i <= fs.length} (fun i => { vs := [(0, .v (.sl (eIs l))), (1, .v (.lit (.int .i64 ((stp P N (fs.take i.1) (a + 1)).2 : Nat)))), (3, .v (.lit (.int .i64 ((d + 1 : Nat) : Int)))), (8, .box 0 (ePt (.mk 0 0 .empty .no [] []))),
      (11, .box 0 (aPt 4 0 nm (zM (stp P N (fs.take i.1) (a + 1)).1) (wTy t) ts)), (13, .v (.sl (eFs (zO t)))), (14, .v (.lit (.int .i64 (k : Nat)))), (15, .v (.lit (.int .i64 (i.1 : Nat))))], ow := [(11, 4, 11)] })
    (fun i => fs.length - i.1) ⟨0, Nat.zero_le _⟩ -> ∃ α I μ y, F α I μ y := fun F h => ⟨_, _, _, _, h⟩
  have lenF : (eIs (fs.map Int.ofNat)).length = fs.length := by simp [eIs]
  by_cases h2 : t = 2
  · have e : ts = [wTy 0] := by rw [hts, h2]; rfl
    refine ⟨fun _ => .inl ⟨_, hw0, ?_⟩, fun h => by simp at h; omega⟩;refine ⟨fun h => by simp at h; omega, fun _ => ?_⟩;refine inv _ ⟨⟨⟨rfl, congrArg (fun l => SV.v (AV.lit (Value.int .i64 l))) (wrap_succ (k := a) (by omega)), rfl, rfl, by rw [e]; exact rfl, rfl, congrArg (fun l => SV.v (AV.lit (Value.int .i64 l))) e14, rfl, trivial⟩, ⟨trivial, trivial⟩, rfl⟩, ?_⟩;rintro ⟨i, hi⟩;refine ⟨_, by omega, hfi, rfl, ?_⟩;refine ⟨fun h => ?_, fun h => ?_⟩
    · have h : i < fs.length := by simp [lenF] at h; omega
      have st2 := stT i;have hib : i * cap d + cap d <= 2 * cap d := by have : (i + 1) * cap d <= 2 * cap d := Nat.mul_le_mul_right _ (by omega); rw [Nat.add_mul, Nat.one_mul] at this; exact this
      have hc := hP (stp P N (fs.take i) (a + 1)).2 fs[i] (by omega) (hfs.2.1 _ (List.getElem_mem h));rw [<- wd] at hc;refine ⟨_, by omega, hfi, rfl, ?_⟩;refine ⟨.lit (.int .i64 (fs[i] : Nat)), by omega, by simp [eIs, h], rfl, ?_⟩;refine .inl ⟨_, hc, ?_⟩;refine ⟨by rw [zFU]; simp; omega, zJV _, wW (f := ePt) (fun _ => rfl) [_], ?_⟩;have hs := zBP (P := P) (N := N) fs[i] (fs.take i) (a + 1);rw [<- List.take_succ_eq_append_getElem h] at hs;refine ⟨⟨i + 1, h⟩, by simp; omega, ⟨rfl, ?_, rfl, rfl, ?_, rfl, rfl, ?_, trivial⟩, ⟨rfl, trivial⟩, rfl⟩
      · show _ = SV.v (AV.lit (Value.int .i64 ((stp P N (fs.take (i + 1)) (a + 1)).2 : Nat)))
        rw [hs]; rfl
      · show _ = SV.box _ (aPt 4 0 nm (zM (stp P N (fs.take (i + 1)) (a + 1)).1) (wTy t) ts)
        rw [hs, show zM ((stp P N (fs.take i) (a + 1)).1 ++ [P (stp P N (fs.take i) (a + 1)).2 fs[i]]) = zM (stp P N (fs.take i) (a + 1)).1 ++ [ePt (P (stp P N (fs.take i) (a + 1)).2 fs[i])] by simp [zM]]
        rfl
      · exact congrArg (fun l => SV.v (AV.lit (Value.int .i64 l))) (wrap_succ (k := i) (by omega))
    · have h : i = fs.length := by simp [lenF] at h; omega
      subst h;show AV.tup [aPt 4 0 nm (zM (stp P N (fs.take fs.length) (a + 1)).1) (wTy t) ts, .lit (.int .i64 ((stp P N (fs.take fs.length) (a + 1)).2 : Nat))] = _;rw [List.take_length, zNY, hts]
  by_cases h4 : t = 4
  · have e : ts = [wTy 1] := by rw [hts, h4]; rfl
    refine ⟨fun h => by simp at h; omega, fun _ => ?_⟩;refine ⟨fun _ => .inl ⟨_, hw1, ?_⟩, fun h => by simp at h; omega⟩;refine inv _ ⟨⟨⟨rfl, congrArg (fun l => SV.v (AV.lit (Value.int .i64 l))) (wrap_succ (k := a) (by omega)), rfl, rfl, by rw [e]; exact rfl, rfl, congrArg (fun l => SV.v (AV.lit (Value.int .i64 l))) e14, rfl, trivial⟩, ⟨trivial, trivial⟩, rfl⟩, ?_⟩;rintro ⟨i, hi⟩;refine ⟨_, by omega, hfi, rfl, ?_⟩;refine ⟨fun h => ?_, fun h => ?_⟩
    · have h : i < fs.length := by simp [lenF] at h; omega
      have st2 := stT i;have hib : i * cap d + cap d <= 2 * cap d := by have : (i + 1) * cap d <= 2 * cap d := Nat.mul_le_mul_right _ (by omega); rw [Nat.add_mul, Nat.one_mul] at this; exact this
      have hc := hP (stp P N (fs.take i) (a + 1)).2 fs[i] (by omega) (hfs.2.1 _ (List.getElem_mem h));rw [<- wd] at hc;refine ⟨_, by omega, hfi, rfl, ?_⟩;refine ⟨.lit (.int .i64 (fs[i] : Nat)), by omega, by simp [eIs, h], rfl, ?_⟩;refine .inl ⟨_, hc, ?_⟩;refine ⟨by rw [zFU]; simp; omega, zJV _, wW (f := ePt) (fun _ => rfl) [_], ?_⟩;have hs := zBP (P := P) (N := N) fs[i] (fs.take i) (a + 1);rw [<- List.take_succ_eq_append_getElem h] at hs;refine ⟨⟨i + 1, h⟩, by simp; omega, ⟨rfl, ?_, rfl, rfl, ?_, rfl, rfl, ?_, trivial⟩, ⟨rfl, trivial⟩, rfl⟩
      · show _ = SV.v (AV.lit (Value.int .i64 ((stp P N (fs.take (i + 1)) (a + 1)).2 : Nat)))
        rw [hs]; rfl
      · show _ = SV.box _ (aPt 4 0 nm (zM (stp P N (fs.take (i + 1)) (a + 1)).1) (wTy t) ts)
        rw [hs, show zM ((stp P N (fs.take i) (a + 1)).1 ++ [P (stp P N (fs.take i) (a + 1)).2 fs[i]]) = zM (stp P N (fs.take i) (a + 1)).1 ++ [ePt (P (stp P N (fs.take i) (a + 1)).2 fs[i])] by simp [zM]]
        rfl
      · exact congrArg (fun l => SV.v (AV.lit (Value.int .i64 l))) (wrap_succ (k := i) (by omega))
    · have h : i = fs.length := by simp [lenF] at h; omega
      subst h;show AV.tup [aPt 4 0 nm (zM (stp P N (fs.take fs.length) (a + 1)).1) (wTy t) ts, .lit (.int .i64 ((stp P N (fs.take fs.length) (a + 1)).2 : Nat))] = _;rw [List.take_length, zNY, hts]
  · have e : ts = [] := by rw [hts]; simp [z3B, h2, h4]
    refine ⟨fun h => by simp at h; omega, fun _ => ?_⟩;refine ⟨fun h => by simp at h; omega, fun _ => ?_⟩;refine inv _ ⟨⟨⟨rfl, congrArg (fun l => SV.v (AV.lit (Value.int .i64 l))) (wrap_succ (k := a) (by omega)), rfl, rfl, by rw [e]; exact rfl, rfl, congrArg (fun l => SV.v (AV.lit (Value.int .i64 l))) e14, rfl, trivial⟩, ⟨trivial, trivial⟩, rfl⟩, ?_⟩;rintro ⟨i, hi⟩;refine ⟨_, by omega, hfi, rfl, ?_⟩;refine ⟨fun h => ?_, fun h => ?_⟩
    · have h : i < fs.length := by simp [lenF] at h; omega
      have st2 := stT i;have hib : i * cap d + cap d <= 2 * cap d := by have : (i + 1) * cap d <= 2 * cap d := Nat.mul_le_mul_right _ (by omega); rw [Nat.add_mul, Nat.one_mul] at this; exact this
      have hc := hP (stp P N (fs.take i) (a + 1)).2 fs[i] (by omega) (hfs.2.1 _ (List.getElem_mem h));rw [<- wd] at hc;refine ⟨_, by omega, hfi, rfl, ?_⟩;refine ⟨.lit (.int .i64 (fs[i] : Nat)), by omega, by simp [eIs, h], rfl, ?_⟩;refine .inl ⟨_, hc, ?_⟩;refine ⟨by rw [zFU]; simp; omega, zJV _, wW (f := ePt) (fun _ => rfl) [_], ?_⟩;have hs := zBP (P := P) (N := N) fs[i] (fs.take i) (a + 1);rw [<- List.take_succ_eq_append_getElem h] at hs;refine ⟨⟨i + 1, h⟩, by simp; omega, ⟨rfl, ?_, rfl, rfl, ?_, rfl, rfl, ?_, trivial⟩, ⟨rfl, trivial⟩, rfl⟩
      · show _ = SV.v (AV.lit (Value.int .i64 ((stp P N (fs.take (i + 1)) (a + 1)).2 : Nat)))
        rw [hs]; rfl
      · show _ = SV.box _ (aPt 4 0 nm (zM (stp P N (fs.take (i + 1)) (a + 1)).1) (wTy t) ts)
        rw [hs, show zM ((stp P N (fs.take i) (a + 1)).1 ++ [P (stp P N (fs.take i) (a + 1)).2 fs[i]]) = zM (stp P N (fs.take i) (a + 1)).1 ++ [ePt (P (stp P N (fs.take i) (a + 1)).2 fs[i])] by simp [zM]]
        rfl
      · exact congrArg (fun l => SV.v (AV.lit (Value.int .i64 l))) (wrap_succ (k := i) (by omega))
    · have h : i = fs.length := by simp [lenF] at h; omega
      subst h;show AV.tup [aPt 4 0 nm (zM (stp P N (fs.take fs.length) (a + 1)).1) (wTy t) ts, .lit (.int .i64 ((stp P N (fs.take fs.length) (a + 1)).2 : Nat))] = _;rw [List.take_length, zNY, hts]
theorem zPT {P:Nat->Nat->Pt} {N:Nat->Nat->Nat} (h:∀a t,a+15<4611686018427387904->t<5->N a t<=a+15/\(P a t).sz<=15):∀(fs:List Nat) (a:Nat),(∀u∈fs,u<5)->a+fs.length*15<4611686018427387904->∀p∈(stp P N fs a).1,p.sz<=15
 | [],a,_,_,p,hp=>by simp[stp] at hp
 | v::fs,a,h5,hb,p,hp=>by
  obtain⟨h2,h3⟩:=h a v (by simp at hb;omega) (h5 v (by simp));rcases List.mem_cons.1 hp with rfl|hp
  ·exact h3
  ·exact zPT h fs (N a v) (fun u hu=>h5 u (by simp[hu])) (by simp at hb;omega) p hp
structure Rw where
 ps:List Pt
 lost:List (ByteArray×Tp×ByteArray)
 body:Nat
def eL (q:ByteArray×Tp×ByteArray):AV :=
 .agg [.lit (.string q.1),.lit (.int .i64 q.2.1.form),.lit (.int .i64 q.2.1.num),.lit (.string q.2.1.nam),.sl q.2.1.eArgs,.lit (.int .i64 1),.lit (.int .i64 0),.lit (.string q.2.2),.lit (.int .i64 0),.lit (.int .i64 0),.lit (.string .empty),.sl [],.sl [],.sl [],.sl []]
def eLs (l:List (ByteArray×Tp×ByteArray)):List AV:=l.map eL
def eN (q:ByteArray×Tp×ByteArray):AV := .agg [.lit (.string q.1),.lit (.int .i64 q.2.1.form),.lit (.int .i64 q.2.1.num),.lit (.string q.2.1.nam),.sl q.2.1.eArgs,.lit (.string q.2.2)]
def eNs (l:List (ByteArray×Tp×ByteArray)):List AV:=l.map eN
def eRw (F:Int) (b:Nat->Int) (r:Rw):AV :=
 .agg [.sl (zM r.ps),.sl (eLs r.lost),.lit (.int .i64 F),.lit (.int .i64 (b r.body)),.lit (.string .empty),.lit (.int .i64 0),.lit (.int .i64 0),.lit (.string .empty),.sl [],.sl [],.sl [],.sl []]
def yL (F:Int) (b:Nat->Int) (l:List Rw):List AV:=l.map (eRw F b)
theorem zVN (l):Uni 15 (eLs l):=wW (f:=eL) (n:=15) (fun _=>rfl) l
theorem z4Z (l):Uni 6 (eNs l):=wW (f:=eN) (n:=6) (fun _=>rfl) l
theorem zIP (F b) (l):Uni 12 (yL F b l):=wW (f:=eRw F b) (n:=12) (fun _=>rfl) l
def Pt.opn (p:Pt):Bool:=decide (p.f=1) || decide (p.f=2)
theorem zTI (p:Pt):zB Tryz.prog zN0 [ePt p] (.sb p.opn):=by
 refine zD ttok mixed Tryz.func32 rfl (by rfl) (Nat.le_of_ble_eq_true rfl) (by kernel_rfl) ?_;refine⟨fun h=>?_,fun h=>?_⟩
 ·have h:=of_decide_eq_false h;show AV.sb (decide (p.f=2))=_;simp[Pt.opn,h]
 ·have h:=of_decide_eq_true h;show AV.sb true=_;simp[Pt.opn,h]
def zI (n:Nat):List Pt->List Rw
 | []=>[]
 | p::l=>⟨[p],[],n⟩::zI (n+1) l
theorem qX:∀(l:List Pt) (n:Nat),(zI n l).length=l.length
 | [],_=>rfl
 | p::l,n=>by simp[zI,qX l]
theorem zBL (p:Pt):∀(l:List Pt) (n:Nat),zI n (l++[p])=zI n l++[⟨[p],[],n+l.length⟩]
 | [],_=>rfl
 | q::l,n=>by simp only[List.cons_append,zI,zBL p l,List.length_cons];rw[show n+1+l.length=n+(l.length+1) by omega]
theorem rows_ok (l:List Pt) (hl:l.length<1000):zB Tryz.prog zF9 [.sl (zM l)] (.sl (yL 0 (fun _=>0) (zI 0 l))):=by
 refine zD ttok mixed Tryz.func26 rfl (by rfl) (Nat.le_of_ble_eq_true rfl) (by kernel_rfl) ?_;refine⟨{k:Nat // k<=l.length},fun k=>{vs:=[(3,.v (.sl (yL 0 (fun _=>0) (zI 0 (l.take k.1))))),(6,.v (.sl (zM l))),(7,.v (.lit (.int .i64 ((zM l).length:Nat)))),(8,.v (.lit (.int .i64 (k.1:Nat))))],ow:=[(3,0,13)]},
  fun k=>l.length-k.1,⟨0,Nat.zero_le _⟩,⟨⟨rfl,rfl,rfl,rfl,trivial⟩,⟨trivial,trivial⟩,rfl⟩,?_⟩
 rintro⟨k,hk⟩;refine⟨fun h=>?_,fun h=>?_⟩
 ·have h:k<l.length:=by simp[zM] at h;omega
  refine⟨_,by omega,zEN h,rfl,?_⟩;refine⟨by simp[yL,qX];omega,zIP _ _ _,wW (f:=eRw 0 (fun _=>0)) (fun _=>rfl) [⟨[l[k]],[],k⟩],?_⟩;refine⟨⟨k+1,h⟩,by simp;omega,⟨?_,rfl,rfl,?_,trivial⟩,⟨rfl,trivial⟩,rfl⟩
  ·show _=SV.v (AV.sl (yL 0 (fun _=>0) (zI 0 (l.take (k+1)))));rw[List.take_succ_eq_append_getElem h,zBL,show 0+(l.take k).length=k by simp;omega];unfold yL;rw[List.map_append];rfl
  ·exact congrArg (fun l=>SV.v (AV.lit (Value.int .i64 l))) (wrap_succ (k:=k) (by omega))
 ·have h:k=l.length:=by simp[zM] at h;omega
  subst h;show AV.sl (yL 0 (fun _=>0) (zI 0 (l.take l.length)))=_;rw[List.take_length]
inductive Kn where
 | con (s:ByteArray) (n:Nat)
 | int (n:Int)
 | none
def Kn.form:Kn->Int|con _ _=>4|int _=>3|none=>1
def Kn.nam:Kn->ByteArray|con s _=>s|_ => .empty
def Kn.many:Kn->Nat|con _ n=>n|_=>0
def Kn.hits (K:Kn) (p:Pt):Bool:=match K with
 | con s _=>decide (p.f=4) && decide (p.s=s)
 | int n=>decide (p.f=3) && decide (p.n=n)
 | none=>false
def part (K:Kn) (a:Nat) (y:ByteArray) (r:Rw):Option Rw:=match r.ps[a]? with
 | none=>none
 | some p=>if p.opn=true then some ⟨r.ps.take a++List.replicate K.many wJ++r.ps.drop (a+1),r.lost++(if p.f=2 then [(p.s,p.t,y)] else []),r.body⟩
  else if K.hits p=true then some ⟨r.ps.take a++p.k++r.ps.drop (a+1),r.lost,r.body⟩ else none
def parts (K:Kn) (a:Nat) (y:ByteArray) (l:List Rw):List Rw:=l.filterMap (part K a y)
theorem z3J (l:List Pt) (k:Nat):List.drop (Int.toNat 0) (List.take (Int.toNat (k:Int)) (zM l))=zM (l.take k):=by simp[zM]
def zO1 (q:ByteArray×List Tp):AV := .agg [.lit (.string q.1),.lit (.int .i64 0),.sl (zQ q.2)]
def wB (l:List (ByteArray×List Tp)):List AV:=l.map zO1
abbrev zS3:List (ByteArray×List Tp):=[(zJ5,[]),(zO5,[])]
abbrev wsL:List (ByteArray×List Tp):=[(sN,[]),(sC,[.var sa,.app (.con sL) (.var sa)])]
abbrev wsT:List (ByteArray×List Tp):=[(sA,[]),(sB,[.con zKZ,.con zAW]),(sD,[.con sT])]
def zZH (s:ByteArray) (a:Int) (vs:List ByteArray) (ks:List AV) (cs:List (ByteArray×List Tp)):AV :=
 .agg [.lit (.string s),.lit (.int .i64 a),.sl (eSs vs),.sl ks,.sl (wB cs)]
def dL:AV:=zZH sL 1 [sa] [.agg [.sl []]] wsL
def dT:AV:=zZH sT 2 [] [] wsT
def zYB:AV := .agg [.sl [dL,dT],.sl [],.sl [],.sl []]
theorem zZX:zB Tryz.prog zE1 [] zYB:=by
 refine zD ttok mixed Tryz.func24 rfl (by rfl) (Nat.le_of_ble_eq_true rfl) (by kernel_rfl) ?_;refine .inl ⟨_,jL sL [.var sa] (by decide),?_⟩;refine .inl ⟨_,yR 0 (by decide),.inl ⟨_,yR 1 (by decide),.inl ⟨_,yR 3 (by decide),?_⟩⟩⟩;exact rfl
theorem zKT:zB Tryz.prog zC4 [] zYB:=by
 refine zD ttok mixed Tryz.func7 rfl (by rfl) (Nat.le_of_ble_eq_true rfl) (by kernel_rfl) ?_;exact .inl ⟨_,zZX,rfl⟩
def zHS (a:Nat) (r:Rw):Prop := ∃p,r.ps[a]? = some p/\(p.f=1∨p.f=2∨p.f=3/\p.k=[]∨p.f=4)/\p.k.length<=2/\r.ps.length<10000/\r.lost.length<10000
theorem zBU (K:Kn) (a:Nat) (y:ByteArray) (l:List Rw):(parts K a y l).length<=l.length:=List.length_filterMap_le _ _
theorem zQ9 (K:Kn) (a:Nat) (y:ByteArray) (l:List Rw) (r:Rw):parts K a y (l++[r])=parts K a y l++(match part K a y r with|some x=>[x]|none=>[]):=by
 unfold parts;rw[List.filterMap_append]
 congr 1
 cases h:part K a y r<;>simp[List.filterMap_cons,h]
theorem zTT {α β:Type} {f:α->Option β} {b:β}:∀{l:List α} {k:Nat} {x:α},l[k]? = some x->(∀j y,j<k->l[j]? = some y->f y=none)->f x=some b->l.findSome? f=some b
 | [],k,x,h,_,_=>by simp at h
 | y::l,0,x,h,_,h2=>by simp at h;subst h;simp[List.findSome?,h2]
 | y::l,k+1,x,h,h1,h2=>by
  have h0:=h1 0 y (by omega) rfl;simp only[List.findSome?,h0];exact zTT (k:=k) (by simpa using h) (fun j z hj hz=>h1 (j+1) z (by omega) (by simpa using hz)) h2
theorem zN3 {α β:Type} {f:α->Option β} {l:List α} (h:∀j y,j<l.length->l[j]? = some y->f y=none):l.findSome? f=none:=by
 rw[List.findSome?_eq_none_iff];intro x hx;obtain⟨j,hj⟩:=List.getElem?_of_mem hx;exact h j x (List.getElem?_eq_some_iff.1 hj).1 hj
abbrev DT:=ByteArray×Int×List ByteArray×List AV×List (ByteArray×List Tp)
def eD (q:DT):AV:=zZH q.1 q.2.1 q.2.2.1 q.2.2.2.1 q.2.2.2.2
def wTab:List DT:=[(zAW,0,[],[],zS3),(sL,1,[sa],[.agg [.sl []]],wsL),(sT,2,[],[],wsT)]
def z3L (s:ByteArray) (q:DT):Option (List (ByteArray×List Tp)):=if ∃c∈q.2.2.2.2,c.1=s then some q.2.2.2.2 else none
def zIU (s:ByteArray):Option (List (ByteArray×List Tp)):=wTab.findSome? (z3L s)
def zBE (a:Nat) (r:Rw):Option (List (ByteArray×List Tp)):=match r.ps[a]? with
 | some p=>if p.f=4 then zIU p.s else none
 | none=>none
def jK (a:Nat) (l:List Rw):Option (List (ByteArray×List Tp)):=l.findSome? (zBE a)
def jI (a:Nat) (out:List Int) (r:Rw):List Int:=match r.ps[a]? with
 | some p=>if p.f=3/\p.n∉out then out++[p.n] else out
 | none=>out
def intsOf (a:Nat) (l:List Rw):List Int:=l.foldl (jI a) []
theorem zRJ (a:Nat) (out:List Int) (r:Rw):(jI a out r).length<=out.length+1:=by
 unfold jI;split
 ·split<;>simp
 ·omega
theorem zDS (a:Nat):∀(l:List Rw) (out:List Int),(l.foldl (jI a) out).length<=out.length+l.length
 | [],out=>by simp
 | r::l,out=>by have:=zDS a l (jI a out r);have:=zRJ a out r;simp;omega
def TyPs:List Nat->List Pt->Prop
 | [],[]=>True
 | t::cs,p::ps=>TyP t p/\TyPs cs ps
 | _,_=>False
theorem TyPs.len:∀{cs:List Nat} {ps:List Pt},TyPs cs ps->ps.length=cs.length
 | [],[],_=>rfl
 | t::cs,p::ps,h=>by simp[TyPs.len h.2]
theorem TyPs.app:∀{cs ds:List Nat} {ps qs:List Pt},TyPs cs ps->TyPs ds qs->TyPs (cs++ds) (ps++qs)
 | [],ds,[],qs,_,k=>k
 | t::cs,ds,p::ps,qs,h,k=>⟨h.1,TyPs.app h.2 k⟩
theorem TyPs.take:∀{cs:List Nat} {ps:List Pt} (a:Nat),TyPs cs ps->TyPs (cs.take a) (ps.take a)
 | _,_,0,_=>by simp[TyPs]
 | [],[],a+1,_=>trivial
 | t::cs,p::ps,a+1,h=>⟨h.1,TyPs.take a h.2⟩
theorem TyPs.drop:∀{cs:List Nat} {ps:List Pt} (a:Nat),TyPs cs ps->TyPs (cs.drop a) (ps.drop a)
 | _,_,0,h=>h
 | [],[],a+1,_=>trivial
 | t::cs,p::ps,a+1,h=>TyPs.drop (cs:=cs) (ps:=ps) a h.2
theorem TyPs.get:∀{cs:List Nat} {ps:List Pt} {a t:Nat},TyPs cs ps->cs[a]? = some t->∃p,ps[a]? = some p/\TyP t p
 | t::cs,p::ps,0,u,h,e=>by simp at e;subst e;exact⟨p,rfl,h.1⟩
 | t::cs,p::ps,a+1,u,h,e=>by simpa using TyPs.get (a:=a) h.2 (by simpa using e)
 | [],ps,a,u,h,e=>by simp at e
 | t::cs,[],a,u,h,e=>h.elim
theorem TyPs.of:∀{cs:List Nat} {ps:List Pt},ps.length=cs.length->(∀(i:Nat) (x:Pt) u,ps[i]? = some x->cs[i]? = some u->TyP u x)->TyPs cs ps
 | [],[],_,_=>trivial
 | t::cs,p::ps,hl,h=>⟨h 0 p t rfl rfl,TyPs.of (by simpa using hl) fun i x u hx hu=>h (i+1) x u (by simpa using hx) (by simpa using hu)⟩
 | [],p::ps,hl,_=>by simp at hl
 | t::cs,[],hl,_=>by simp at hl
theorem zIK (t:Nat):TyP t wJ := .any t _ (.inl rfl) rfl (fun h=>by cases h)
theorem zMR:∀fs:List Nat,TyPs fs (List.replicate fs.length wJ)
 | []=>trivial
 | t::fs=>⟨zIK t,zMR fs⟩
theorem TyP.form {t:Nat} {p:Pt} (h:TyP t p):(p.f=1∨p.f=2∨p.f=3/\p.k=[]∨p.f=4)/\p.k.length<=2:=by
 cases h with
 | any _ _ hf hk=>exact⟨by rcases hf with h|h<;>simp[h],by rw[hk];simp⟩
 | int _ hf hk=>exact⟨.inr (.inr (.inl ⟨hf,hk⟩)),by rw[hk];simp⟩
 | con _ _ fs hf hs hl=>exact⟨.inr (.inr (.inr hf)),by rw[hl];exact (wQ hs).1⟩
inductive Fit:Nat->Kn->List Nat->Prop
 | con (t:Nat) (s:ByteArray) (fs:List Nat) (h:(s,fs)∈zO t):Fit t (.con s fs.length) fs
 | int (n:Int):Fit 0 (.int n) []
 | none (t:Nat):Fit t .none []
theorem zRL {t:Nat} {s:ByteArray} {fs gs:List Nat} (h:(s,fs)∈zO t) (k:(s,gs)∈zO t):fs=gs:=by
 have ne:zJ5≠zO5/\sN≠sC/\sA≠sB/\sA≠sD/\sB≠sD:=by decide
 match t with
 | 0=>simp[zO] at h
 | 1=>simp[zO] at h k;rcases h with⟨_,rfl⟩|⟨_,rfl⟩<;>rcases k with⟨_,rfl⟩|⟨_,rfl⟩<;>rfl
 | 2=>simp[zO] at h k;rcases h with⟨rfl,rfl⟩|⟨rfl,rfl⟩<;>rcases k with⟨hs,rfl⟩|⟨hs,rfl⟩<;>first|rfl|(exact absurd hs (by decide))
 | 3=>simp[zO] at h k;rcases h with⟨rfl,rfl⟩|⟨rfl,rfl⟩|⟨rfl,rfl⟩<;>rcases k with⟨hs,rfl⟩|⟨hs,rfl⟩|⟨hs,rfl⟩<;>first|rfl|(exact absurd hs (by decide))
 | 4=>simp[zO] at h k;rcases h with⟨rfl,rfl⟩|⟨rfl,rfl⟩<;>rcases k with⟨hs,rfl⟩|⟨hs,rfl⟩<;>first|rfl|(exact absurd hs (by decide))
 | n+5=>simp[zO] at h
theorem Fit.many {t:Nat} {K:Kn} {fs:List Nat} (h:Fit t K fs):K.many=fs.length:=by cases h<;>rfl
structure RowTy (cs:List Nat) (N:Nat) (r:Rw):Prop where
 ty:TyPs cs r.ps
 lost:r.lost.length+N<10000
theorem RowTy.col {cs:List Nat} {N a t:Nat} {r:Rw} (h:RowTy cs N r) (ha:cs[a]? = some t) (hc:cs.length<10000):zHS a r:=by
 obtain⟨p,hp,ht⟩:=h.ty.get ha;exact⟨p,hp,ht.form.1,ht.form.2,by rw[h.ty.len];exact hc,by have:=h.lost;omega⟩
theorem zUP {t:Nat} {K:Kn} {fs:List Nat} {p:Pt} (hp:TyP t p) (hK:Fit t K fs) (hh:K.hits p=true):TyPs fs p.k:=by
 cases hK with
 | con _ s _ h =>
  simp only[Kn.hits,Bool.and_eq_true,decide_eq_true_eq] at hh;cases hp with
  | any _ _ hf hk=>omega
  | int _ hf=>omega
  | con _ _ gs hf hs hl hk =>
   rw[hh.2] at hs;rw[zRL h hs];exact TyPs.of hl hk
 | int n =>
  simp only[Kn.hits,Bool.and_eq_true,decide_eq_true_eq] at hh;cases hp with
  | any _ _ hf hk=>omega
  | int _ hf hk=>rw[hk];trivial
  | con _ _ gs hf=>omega
 | none=>simp[Kn.hits] at hh
theorem z2E {cs fs:List Nat} {N a t:Nat} {r x:Rw} {K:Kn} {y:ByteArray} (h:RowTy cs (N+1) r) (ha:cs[a]? = some t) (hK:Fit t K fs) (hx:part K a y r=some x):RowTy (cs.take a++fs++cs.drop (a+1)) N x:=by
 obtain⟨p,hp,ht⟩:=h.ty.get ha;have hl:=h.lost;unfold part at hx;rw[hp] at hx;simp only at hx;split at hx
 ·injection hx with hx;subst hx
  refine⟨((h.ty.take a).app ?_).app (h.ty.drop (a+1)),?_⟩
  ·rw[hK.many];exact zMR fs
  ·simp only[List.length_append];split<;>simp<;>omega
 ·split at hx
  ·rename_i hh;injection hx with hx;subst hx
   exact⟨((h.ty.take a).app (zUP ht hK hh)).app (h.ty.drop (a+1)),by simp only;omega⟩
  ·cases hx
theorem zDB {cs fs:List Nat} {N a t:Nat} {l:List Rw} {K:Kn} {y:ByteArray} (h:∀r∈l,RowTy cs (N+1) r) (ha:cs[a]? = some t) (hK:Fit t K fs):∀r∈parts K a y l,RowTy (cs.take a++fs++cs.drop (a+1)) N r:=fun x hx=>by
 obtain⟨r,hr,hp⟩:=List.mem_filterMap.1 hx;exact z2E (h r hr) ha hK hp
theorem zOE (p:Pt):p.nodes=(if p.f=3∨p.f=4 then 1 else 0)+yT p.k:=by cases p;rw[Pt.nodes];rfl
theorem zHX {ps:List Pt} {a:Nat} {p:Pt} (h:ps[a]? = some p):yT ps=yT (ps.take a)+p.nodes+yT (ps.drop (a+1)):=by
 have hlt:=(List.getElem?_eq_some_iff.1 h).1;have e:ps=ps.take a++(p::ps.drop (a+1)):=by
  rw[List.getElem?_eq_getElem hlt] at h;injection h with h;subst h
  rw[List.getElem_cons_drop,List.take_append_drop]
 conv=>lhs;rw[e]
 rw[zAS];simp only[yT];omega
theorem zJI:∀n:Nat,yT (List.replicate n wJ)=0
 | 0=>rfl
 | n+1=>by rw[List.replicate_succ];simp only[yT,zJI n];rfl
def wt:List Rw->Nat
 | []=>0
 | r::l=>yT r.ps+wt l
theorem z15 {K:Kn} {a:Nat} {y:ByteArray} {r x:Rw} (hx:part K a y r=some x):yT x.ps<=yT r.ps/\∀p,r.ps[a]? = some p->p.f=4->yT x.ps+1<=yT r.ps:=by
 unfold part at hx;split at hx
 ·cases hx
 ·rename_i p hp;have hs:=zHX hp;have hn:=zOE p;split at hx
  ·rename_i ho;injection hx with hx;subst hx
   refine⟨by simp only[zAS,zJI];omega,fun q hq h4=>?_⟩;rw[hp] at hq;injection hq with hq;subst hq
   simp[Pt.opn,h4] at ho
  ·split at hx
   ·injection hx with hx;subst hx
    refine⟨by simp only[zAS];omega,fun q hq h4=>?_⟩;rw[hp] at hq;injection hq with hq;subst hq
    rw[if_pos (.inr h4)] at hn;simp only[zAS];omega
   ·cases hx
theorem zBV (K:Kn) (a:Nat) (y:ByteArray):∀l:List Rw,wt (parts K a y l)<=wt l/\((∃r∈l,∃p,r.ps[a]? = some p/\p.f=4)->wt (parts K a y l)+1<=wt l)
 | []=>⟨Nat.le_refl _,fun⟨r,hr,_⟩=>by simp at hr⟩
 | r::l=>by
  obtain⟨h1,h2⟩:=zBV K a y l;unfold parts at h1 h2⊢;cases hx:part K a y r with
  | none =>
   rw[List.filterMap_cons_none hx];simp only[wt];refine⟨by omega,fun⟨r',hr,p,hp,h4⟩=>?_⟩;rcases List.mem_cons.1 hr with rfl|hr
   ·have:=zHX hp;have hn:=zOE p;rw[if_pos (.inr h4)] at hn;omega
   ·have:=h2 ⟨r',hr,p,hp,h4⟩;omega
  | some x =>
   rw[List.filterMap_cons_some hx];obtain⟨k1,k2⟩:=z15 hx;simp only[wt];refine⟨by omega,fun⟨r',hr,p,hp,h4⟩=>?_⟩;rcases List.mem_cons.1 hr with rfl|hr
   ·have:=k2 p hp h4;omega
   ·have:=h2 ⟨r',hr,p,hp,h4⟩;omega
def qA:Nat->List (ByteArray×List Tp)
 | 1=>zS3
 | 2=>wsL
 | 3=>wsT
 | 4=>wsL
 | _=>[]
theorem zXW (t:Nat):(qA t).map (fun q=>(q.1,q.2.length))=(zO t).map (fun q=>(q.1,q.2.length)):=by
 match t with
 | 0|1|2|3|4=>rfl
 | n+5=>rfl
theorem zHM {t:Nat} {s:ByteArray} {fs:List Nat} (h:(s,fs)∈zO t):zIU s=some (qA t):=by
 match t with
 | 0=>simp[zO] at h
 | 1=>simp[zO] at h;rcases h with⟨rfl,rfl⟩|⟨rfl,rfl⟩<;>decide
 | 2=>simp[zO] at h;rcases h with⟨rfl,rfl⟩|⟨rfl,rfl⟩<;>decide
 | 3=>simp[zO] at h;rcases h with⟨rfl,rfl⟩|⟨rfl,rfl⟩|⟨rfl,rfl⟩<;>decide
 | 4=>simp[zO] at h;rcases h with⟨rfl,rfl⟩|⟨rfl,rfl⟩<;>decide
 | n+5=>simp[zO] at h
theorem zX0 {t:Nat} {p:Pt} (h:TyP t p) (hf:p.f=4):∃fs,(p.s,fs)∈zO t/\TyPs fs p.k:=by
 cases h with
 | any _ _ h=>omega
 | int _ h=>omega
 | con _ _ fs _ hs hl hk=>exact⟨fs,hs,TyPs.of hl hk⟩
theorem zNB {t:Nat} {p:Pt} (h:TyP t p) (hf:p.f=3):t=0/\p.k=[]/\0<=p.n/\p.n<1000:=by
 cases h with
 | any _ _ h=>omega
 | int _ h hk hn=>exact⟨rfl,hk,hn⟩
 | con _ _ fs hf'=>omega
theorem zA2 {cs:List Nat} {a t:Nat} (ha:cs[a]? = some t):∀{l:List Rw},(∀r∈l,TyPs cs r.ps) ->
  (jK a l=none/\∀r∈l,∀p,r.ps[a]? = some p->p.f≠4)∨(jK a l=some (qA t)/\0<t/\t<5/\∃r∈l,∃p,r.ps[a]? = some p/\p.f=4)
 | [],_ => .inl ⟨rfl,fun r hr=>by simp at hr⟩
 | r::l,h=>by
  obtain⟨p,hp,ht⟩:=(h r (by simp)).get ha;have ih:=zA2 ha (l:=l) (fun r hr=>h r (by simp[hr]));unfold jK at ih⊢;by_cases h4:p.f=4
  ·obtain⟨fs,hs,_⟩:=zX0 ht h4;have h0:=(wQ hs).2.2;refine .inr ⟨?_,h0.1,h0.2,r,by simp,p,hp,h4⟩;have:zBE a r=some (qA t):=by unfold zBE;rw[hp];simp only[if_pos h4,zHM hs]
   simp[List.findSome?,this]
  ·have:zBE a r=none:=by unfold zBE;rw[hp];simp only[if_neg h4]
   simp only[List.findSome?,this];rcases ih with⟨k1,k2⟩|⟨k1,k2,k3,r',k4,k5⟩
   ·refine .inl ⟨k1,fun r' hr' p' hp'=>?_⟩;rcases List.mem_cons.1 hr' with rfl|hr'
    ·rw[hp] at hp';injection hp' with hp';subst hp';exact h4
    ·exact k2 r' hr' p' hp'
   ·exact .inr ⟨k1,k2,k3,r',by simp[k4],k5⟩
theorem zO9 {cs:List Nat} {a t:Nat} (ha:cs[a]? = some t):∀{l:List Rw} {out:List Int},(∀r∈l,TyPs cs r.ps)->(∀x∈out,t=0/\0<=x/\x<1000)->∀x∈l.foldl (jI a) out,t=0/\0<=x/\x<1000
 | [],out,_,h=>h
 | r::l,out,hl,h=>by
  refine zO9 ha (l:=l) (fun r hr=>hl r (by simp[hr])) fun x hx=>?_;unfold jI at hx;split at hx
  ·rename_i p hp;split at hx
   ·rename_i hc;rcases List.mem_append.1 hx with hx|hx
    ·exact h x hx
    ·simp at hx;subst hx;obtain⟨q,hq,hty⟩:=(hl r (by simp)).get ha;rw[hp] at hq;injection hq with hq;subst hq
     obtain⟨k1,k2,k3⟩:=zNB hty hc.1;exact⟨k1,k3⟩
   ·exact h x hx
  ·exact h x hx
def zLZ (l:List Int):Pt:=if l=[] then wJ else zK2 (l.foldl max 0+1)
theorem zYC (l:List Int) (x:Int):(l++[x]).foldl max 0=max (l.foldl max 0) x:=by rw[List.foldl_append];rfl
theorem zW3:∀(l:List Int) (b:Int),(∀x∈l,x<1000)->b<1000->0<=b->l.foldl max b<1000/\0<=l.foldl max b
 | [],b,_,h,k=>⟨h,k⟩
 | x::l,b,h,hb,h0=>by
  have:=h x (by simp);exact zW3 l (max b x) (fun y hy=>h y (by simp[hy])) (by omega) (by omega)
def miss:Nat->List Rw->Nat->Option (List Pt)
 | 0,_,_=>none
 | _+1,l,0=>match l with
  | []=>some []
  | _::_=>none
 | n+1,l,c+1=>match jK 0 l with
  | some ks=>ks.findSome? fun q=>(miss n (parts (.con q.1 q.2.length) 0 .empty l) (q.2.length+c)).map fun m=>zI8 q.1 (m.take q.2.length)::m.drop q.2.length
  | none=>match miss n (parts .none 0 .empty l) c with
   | some m=>some (zLZ (intsOf 0 l)::m)
   | none=>(intsOf 0 l).findSome? fun x=>(miss n (parts (.int x) 0 .empty l) c).map fun m=>zK2 x::m
theorem zA6:∀(n:Nat) (l:List Rw) (c:Nat) (m:List Pt),miss n l c=some m->m.length=c
 | 0,_,_,_,h=>by simp[miss] at h
 | n+1,l,0,m,h=>by
  cases l with
  | nil=>simp[miss] at h;subst h;rfl
  | cons r l=>simp[miss] at h
 | n+1,l,c+1,m,h=>by
  unfold miss at h;split at h
  ·obtain⟨q,_,hq⟩:=List.exists_of_findSome?_eq_some h;obtain⟨m',hm,rfl⟩:=Option.map_eq_some_iff.1 hq;have:=zA6 n _ _ _ hm;simp;omega
  ·split at h
   ·rename_i m' hm;injection h with h;subst h
    have:=zA6 n _ _ _ hm;simp;omega
   ·obtain⟨q,_,hq⟩:=List.exists_of_findSome?_eq_some h;obtain⟨m',hm,rfl⟩:=Option.map_eq_some_iff.1 hq;have:=zA6 n _ _ _ hm;simp;omega
def zET:Option (List Pt)->AV
 | some m => .tup [.sl (zM m),.sb true]
 | none => .tup [.sl [],.sb false]
structure RowsTy (cs:List Nat) (n:Nat) (l:List Rw):Prop where
 row:∀r∈l,RowTy cs n r
 col:∀t∈cs,t<5
 len:l.length<10000
 fuel:3*wt l+cs.length<n
 cap:n<10000
theorem RowsTy.tys {cs:List Nat} {n:Nat} {l:List Rw} (h:RowsTy cs n l):∀r∈l,TyPs cs r.ps:=fun r hr=>(h.row r hr).ty
theorem RowsTy.ok {cs:List Nat} {t n:Nat} {l:List Rw} (h:RowsTy (t::cs) n l):∀r∈l,zHS 0 r:=fun r hr=>(h.row r hr).col (t:=t) rfl (by have:=h.fuel;have:=h.cap;omega)
theorem RowsTy.con {cs fs:List Nat} {t n:Nat} {l:List Rw} {s:ByteArray} (h:RowsTy (t::cs) (n+1) l) (hs:(s,fs)∈zO t) (h4:∃r∈l,∃p,r.ps[0]? = some p/\p.f=4):RowsTy (fs++cs) n (parts (.con s fs.length) 0 .empty l):=by
 have hw:=(zBV (.con s fs.length) 0 .empty l).2 h4;have hf:=wQ hs;have:=h.fuel;have:=zBU (.con s fs.length) 0 .empty l;have:=h.len;have:=h.cap;refine⟨fun r hr=>zDB h.row (a:=0) (t:=t) rfl (.con t s fs hs) r hr,fun u hu=>?_,by omega,by simp at *;omega,by omega⟩;rcases List.mem_append.1 hu with hu|hu
 ·exact hf.2.1 u hu
 ·exact h.col u (by simp[hu])
theorem RowsTy.int {cs:List Nat} {t n:Nat} {l:List Rw} {x:Int} (h:RowsTy (t::cs) (n+1) l) (ht:t=0):RowsTy cs n (parts (.int x) 0 .empty l):=by
 have hw:=(zBV (.int x) 0 .empty l).1;have:=h.fuel;have:=zBU (.int x) 0 .empty l;have:=h.len;have:=h.cap;subst ht;exact⟨fun r hr=>zDB h.row (a:=0) (t:=0) rfl (.int x) r hr,fun u hu=>h.col u (by simp[hu]),by omega,by simp at *;omega,by omega⟩
theorem RowsTy.none {cs:List Nat} {t n:Nat} {l:List Rw} (h:RowsTy (t::cs) (n+1) l):RowsTy cs n (parts .none 0 .empty l):=by
 have hw:=(zBV .none 0 .empty l).1;have:=h.fuel;have:=zBU .none 0 .empty l;have:=h.len;have:=h.cap;exact⟨fun r hr=>zDB h.row (a:=0) (t:=t) rfl (.none t) r hr,fun u hu=>h.col u (by simp[hu]),by omega,by simp at *;omega,by omega⟩
theorem zC5 {t:Nat} {q:ByteArray×List Tp} (h:q∈qA t):∃fs,(q.1,fs)∈zO t/\fs.length=q.2.length:=by
 have h1:(q.1,q.2.length)∈(qA t).map (fun q=>(q.1,q.2.length)):=List.mem_map.2 ⟨q,h,rfl⟩;rw[zXW] at h1;obtain⟨p,hp,he⟩:=List.mem_map.1 h1;injection he with h2 h3
 exact⟨p.2,by rw[<-h2];exact hp,h3⟩
theorem zDT (t:Nat):(qA t).length<=3:=by
 match t with
 | 0|1|2|3|4=>decide
 | n+5=>simp[qA]
set_option maxHeartbeats 16000000
abbrev sv (n:Int):SV := .v (.lit (.int .i64 n))
theorem svc {n m:Int} (h:n=m):SV.v (AV.lit (Value.int .i64 n))=SV.v (AV.lit (Value.int .i64 m)):=by rw[h]
theorem zW1 (l:List Int):(eIs l).length=l.length:=by simp[eIs]
theorem zZM (l:List (ByteArray×List Tp)):(wB l).length=l.length:=by simp[wB]
theorem z1S (l:List Tp):(zQ l).length=l.length:=by simp[zQ]
theorem z3I (s:ByteArray) (m:List Pt):aPt 4 0 s (zM m) .no []=ePt (zI8 s m):=zNY 4 0 s m .no []
theorem zXG (p:Pt) (K:List AV) (B:List Pt) (k:K=zM B):AV.tup [.sl ([ePt p]++K),.sb true]=zET (some (p::B)):=by
 rw[k];rfl
end Go.Proofs.YtebmimnglcdogaaGreatDoor
