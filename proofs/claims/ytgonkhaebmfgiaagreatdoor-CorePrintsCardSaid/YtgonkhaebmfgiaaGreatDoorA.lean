/- A part of the proof of a given statement: contracts of functions of the program, under no condition but those that each states. -/
import Derived.Test.YtgonkhaebmfgiaaGreatDoorS1
import Derived.Test.YtgonkhaebmfgiaaGreatDoorFpE
set_option linter.unusedSimpArgs false
set_option linter.unusedVariables false
namespace Go.Proofs.YtgonkhaebmfgiaaGreatDoor
open Go Fp
def zAA:Tp->Bool
 | .app (.app f _) _=>decide (f.form=3) && decide (f.nam=arrow)
 | _=>false
set_option maxRecDepth 10000
theorem xY (t:Tp):zF Tryz.prog zCY [eTy t] (.sb (zAA t)):=by
 refine zH ttok mixed Tryz.func121 rfl (by rfl) (Nat.le_of_ble_eq_true rfl) (by kernel_rfl) ?_;refine⟨fun h=>?_,fun h=>?_⟩
 ·cases t<;>first|(simp[Tp.form] at h;done)|exact rfl
 ·cases t<;>first|(simp[Tp.form] at h;done)|skip
  rename_i x y;refine⟨_,by decide,rfl,rfl,?_⟩;refine⟨fun h=>?_,fun h=>?_⟩
  ·cases x<;>first|(simp[Tp.form] at h;done)|exact rfl
  ·cases x<;>first|(simp[Tp.form] at h;done)|skip
   rename_i f z;refine⟨_,by decide,rfl,rfl,?_⟩;refine⟨_,by decide,rfl,rfl,?_⟩;refine⟨fun h=>?_,fun h=>?_⟩
   ·conv=>whnf
    simp_all [zAA]
    rfl
   ·conv=>whnf
    simp_all [zAA]
    rfl
theorem z4Y {l:List Tp} {k:Nat} (h:k<l.length):(zDK l)[k]? = some (eTy l[k]):=by
 simp[zDK,h]
theorem zVX (l:List Tp):Uni 4 (zDK l):=fun a ha=>by
 obtain⟨x,_,rfl⟩:=List.mem_map.1 ha;rfl
theorem z4R {l:List Tp} {k:Nat} (h:k<l.length):zDK (l.take k)++[eTy l[k]]=zDK (l.take (k+1)):=by
 rw[List.take_succ_eq_append_getElem h];unfold zDK;rw[List.map_append];rfl
theorem zSD (t:Tp):t.args.length<=2:=by cases t<;>simp[Tp.args]
theorem xC {n:Nat} (h:n<9223372036854775808):IntKind.i64.wrap (n:Int)=n:=by
 simp[IntKind.wrap,IntKind.signed,IntKind.bits,Int.bmod];omega
theorem wrap_succ {k:Nat} (h:k+1<9223372036854775808):IntKind.i64.wrap ((k:Int)+1)=((k+1:Nat):Int):=by
 have:=xC h;simpa using this
theorem zVM (a b:Tp):zF Tryz.prog zGL [eTy a,eTy b] (eTy (.app a b)):=by
 refine zH ttok mixed Tryz.func109 rfl (by rfl) (Nat.le_of_ble_eq_true rfl) (by kernel_rfl) ?_;exact rfl
theorem zJ7 (t:Tp) (ih:∀a∈t.args,zF Tryz.prog zDB [eTy a] (eTy a)):zF Tryz.prog zDB [eTy t] (eTy t):=by
 refine zH ttok mixed Tryz.func88 rfl (by rfl) (Nat.le_of_ble_eq_true rfl) (by kernel_rfl) ?_;refine⟨{k:Nat // k<=t.args.length},fun k=>{vs:=[(1,.box 0 (eTy t)),(2,.box 0 (eTy .no)),(3,.v (.sl (zDK (t.args.take k.1)))),(7,.v (.sl t.eArgs)),(8,.v (.lit (.int .i64 (t.eArgs.length:Nat)))),(9,.v (.lit (.int .i64 (k.1:Nat))))],ow:=[(3,0,5)]},
  fun k=>t.args.length-k.1,⟨0,Nat.zero_le _⟩,⟨⟨rfl,rfl,rfl,rfl,rfl,rfl,trivial⟩,⟨trivial,trivial⟩,rfl⟩,?_⟩
 rintro⟨k,hk⟩;have hlen:t.eArgs.length=t.args.length:=by rw[t.eArgs_eq];simp[zDK]
 have h2:=zSD t;refine⟨fun h=>?_,fun h=>?_⟩
 ·have h:k<t.args.length:=by simp[hlen] at h;omega
  refine⟨eTy t.args[k],by simp,by rw[t.eArgs_eq];exact z4Y h,rfl,?_⟩;refine .inl ⟨_,ih _ (List.getElem_mem h),?_⟩;refine⟨by simp[zDK];omega,zVX _,zVX [_],?_⟩;refine⟨⟨k+1,h⟩,by simp;omega,⟨rfl,rfl,?_,rfl,rfl,?_,trivial⟩,⟨rfl,trivial⟩,rfl⟩
  ·exact congrArg (fun l=>SV.v (AV.sl l)) (z4R h)
  ·exact congrArg (fun l=>SV.v (AV.lit (Value.int .i64 l))) (wrap_succ (k:=k) (by omega))
 ·have h:k=t.args.length:=by simp[hlen] at h;omega
  subst h;have:zDK (t.args.take t.args.length)=t.eArgs:=by rw[List.take_length,t.eArgs_eq]
  show AV.agg [_,_,_,AV.sl (zDK (t.args.take t.args.length))]=_;rw[this];rfl
theorem zNX (t:Tp):zF Tryz.prog zDB [eTy t] (eTy t):=by
 induction t with
 | app a b iha ihb=>exact zJ7 _ (by simp[Tp.args];exact⟨iha,ihb⟩)
 | all s a ih=>exact zJ7 _ (by simp[Tp.args];exact ih)
 | _=>exact zJ7 _ (by simp[Tp.args])
theorem wrap_in {n:Int} (h:InR n):IntKind.i64.wrap n=n:=by
 unfold InR at h;simp[IntKind.wrap,IntKind.signed,IntKind.bits];omega
theorem z6D {l:List Int} {k:Nat} (h:k<l.length):(eIs l)[k]? = some (.lit (.int .i64 l[k])):=by simp[eIs,h]
theorem zNQ {l:List ByteArray} {k:Nat} (h:k<l.length):(eSs l)[k]? = some (.lit (.string l[k])):=by simp[eSs,h]
theorem z5H (l:List Int):Uni 1 (eIs l):=fun a ha=>by obtain⟨x,_,rfl⟩:=List.mem_map.1 ha;rfl
theorem xU (l:List ByteArray):Uni 1 (eSs l):=fun a ha=>by obtain⟨x,_,rfl⟩:=List.mem_map.1 ha;rfl
theorem qK {x:AV} {n:Nat} (h:x.cells.length=n):Uni n [x]:=fun a ha=>by simp at ha;subst ha;exact h
theorem z05 (n:Nat):Uni n []:=fun a ha=>by simp at ha
theorem zBS {n m:Int} (hn:InR n) (hm:0<m) (hm2:m<9223372036854775808):∃r:Nat,(r:Int)<m/\zF Tryz.prog zEJ [.lit (.int .i64 n),.lit (.int .i64 m)] (.lit (.int .i64 (r:Nat))):=by
 have hn':=hn;unfold InR at hn;by_cases h0:n<0
 ·have e1:IntKind.i64.wrap (n+1)=n+1:=wrap_in (by unfold InR;omega);have e2:IntKind.i64.wrap (0-(n+1)) = -(n+1):=by rw[wrap_in (by unfold InR;omega)];omega
  refine⟨((-(n+1)).tmod m).toNat,?_,?_⟩
  ·have:=Int.tmod_nonneg m (show 0<=-(n+1) by omega);have:=Int.tmod_lt_of_pos (-(n+1)) hm;omega
  ·refine zH ttok mixed Tryz.func31 rfl (by rfl) (Nat.le_of_ble_eq_true rfl) (by kernel_rfl) ?_;refine⟨fun h=>?_,fun h=>by simp at h;omega⟩;refine⟨by omega,?_⟩
   conv=>whnf
   have:=Int.tmod_nonneg m (show 0<=-(n+1) by omega);show AV.lit (.int .i64 (Int.tmod (IntKind.i64.wrap (0-IntKind.i64.wrap (n+1))) m))=_;rw[e1,e2]
   congr 2;omega
 ·refine⟨(n.tmod m).toNat,?_,?_⟩
  ·have:=Int.tmod_nonneg m (show 0<=n by omega);have:=Int.tmod_lt_of_pos n hm;omega
  ·refine zH ttok mixed Tryz.func31 rfl (by rfl) (Nat.le_of_ble_eq_true rfl) (by kernel_rfl) ?_;refine⟨fun h=>by simp at h;omega,fun h=>?_⟩;refine⟨by omega,?_⟩
   conv=>whnf
   have:=Int.tmod_nonneg m (show 0<=n by omega);show AV.lit (.int .i64 (Int.tmod n m))=_
   congr 2;omega
def wF:List ByteArray:=[⟨#[97]⟩,⟨#[98]⟩,⟨#[99]⟩,⟨#[120]⟩]
def zCT:List ByteArray:=[⟨#[73,110,116]⟩,⟨#[66,111,111,108]⟩,⟨#[76]⟩,⟨#[80]⟩,⟨#[70]⟩,⟨#[45,62]⟩]
theorem zA9:∀s∈wF,s.size<=4:=by unfold wF;intro s h;simp at h;rcases h with rfl|rfl|rfl|rfl<;>decide
theorem zHO:∀s∈zCT,s.size<=4:=by unfold zCT;intro s h;simp at h;rcases h with rfl|rfl|rfl|rfl|rfl|rfl<;>decide
def good:Tp->Prop
 | .app a b=>good a/\good b
 | .all s a=>s∈wF/\good a
 | .var s=>s∈wF
 | .con s=>s∈zCT
 | .mt n => ∃k:Nat,n=(k:Int)/\k<10
 | .no=>False
theorem zG6 (t:Tp) (h:good t):t.fine:=by
 induction t with
 | no=>exact h.elim
 | mt n=>obtain⟨k,rfl,hk⟩:=h;show InR _;unfold InR;omega
 | var s=>exact zA9 s h
 | con s=>exact zHO s h
 | app a b iha ihb=>exact⟨iha h.1,ihb h.2⟩
 | all s a ih=>exact⟨zA9 s h.1,ih h.2⟩
theorem zRY {n:Int} (hn:InR n):∃s,s∈wF/\zF Tryz.prog qR [.lit (.int .i64 n)] (.lit (.string s)):=by
 obtain⟨r,hr,hc⟩:=zBS hn (m:=4) (by decide) (by decide);refine⟨[⟨#[97]⟩,⟨#[98]⟩,⟨#[99]⟩,⟨#[120]⟩].getD r .empty,?_,?_⟩
 ·match r,hr with
  | 0,_|1,_|2,_|3,_=>simp[wF]
  | n+4,h=>omega
 ·refine zH ttok mixed Tryz.func21 rfl (by rfl) (Nat.le_of_ble_eq_true rfl) (by kernel_rfl) ?_;refine .inl ⟨_,hc,?_⟩
  match r,hr with
  | 0,_|1,_|2,_|3,_=>exact⟨_,by decide,rfl,rfl,rfl⟩
  | n+4,h=>omega
theorem zZU {l:List Int} {n:Nat} (hl:l.length<9223372036854775808) (hn:n<=4294967296):zF Tryz.prog zFJ [.sl (eIs l),.lit (.int .i64 (n:Nat))] (.sl (eIs (l.take n))):=by
 refine zH ttok mixed Tryz.func14 rfl (by rfl) (Nat.le_of_ble_eq_true rfl) (by kernel_rfl) ?_;have e1:((eIs l).length:Int)=l.length:=by simp[eIs]
 refine⟨by decide,?_,?_,.inl rfl,?_⟩
 ·show (0:Int)<=(if ((n:Nat):Int)<((eIs l).length:Int) then _ else _);split<;>omega
 ·show (if ((n:Nat):Int)<((eIs l).length:Int) then _ else _:Int)<=_;split<;>omega
 ·have e2:((eIs l).take (if ((n:Nat):Int)<((eIs l).length:Int) then ((n:Nat):Int) else ((eIs l).length:Int)).toNat).drop (Int.toNat 0)=eIs (l.take n):=by
   rw[e1];unfold eIs;rw[<-List.map_take];split
   ·simp
   ·rw[List.take_of_length_le (by omega),List.take_of_length_le (by omega)];simp
  refine⟨?_,z05 _,?_,?_⟩
  ·show 0+(List.drop _ _).length<=_;rw[e2];simp[eIs];omega
  ·show Uni 1 (List.drop _ _);rw[e2];exact z5H _
  ·show AV.sl ([]++List.drop _ _)=_;rw[List.nil_append,e2]
theorem zT7 (a b:Tp):zF Tryz.prog zG9 [eTy a,eTy b] (eTy (.app (.app (.con arrow) a) b)):=by
 refine zH ttok mixed Tryz.func108 rfl (by rfl) (Nat.le_of_ble_eq_true rfl) (by kernel_rfl) ?_;refine .inl ⟨_,zVM (.con arrow) a,?_⟩;refine .inl ⟨_,zVM (.app (.con arrow) a) b,?_⟩;exact rfl
set_option maxHeartbeats 4000000
def partsOf:Tp->Tp×Tp×Bool
 | .app (.app f a) b=>if f.form=3/\f.nam=arrow then (a,b,true) else (.no,.no,false)
 | _=>(.no,.no,false)
theorem zAO (t:Tp):zF Tryz.prog zKT [eTy t] (.tup [eTy (partsOf t).1,eTy (partsOf t).2.1,.sb (partsOf t).2.2]):=by
 refine zH ttok mixed Tryz.func137 rfl (by rfl) (Nat.le_of_ble_eq_true rfl) (by kernel_rfl) ?_;refine⟨fun h=>?_,fun h=>?_⟩
 ·obtain⟨x,y,rfl⟩:=Tp.is_app (t:=t) (by simpa using h);refine⟨_,by decide,rfl,rfl,?_⟩;refine⟨fun h=>?_,fun h=>?_⟩
  ·have hx:¬x.form=4:=by simpa using h
   have e:partsOf (.app x y)=(.no,.no,false):=by cases x<;>first|rfl|exact absurd rfl hx
   rw[e];exact rfl
  ·obtain⟨f,z,rfl⟩:=Tp.is_app (t:=x) (by simpa using h);refine⟨_,by decide,rfl,rfl,?_⟩;refine⟨_,by decide,rfl,rfl,?_⟩;refine⟨fun h=>?_,fun h=>?_⟩
   ·have hf:f.form=3:=by simpa using h
    refine⟨fun h=>?_,fun h=>?_⟩
    ·have e:partsOf (.app (.app f z) y)=(.no,.no,false):=by simp at h;simp[partsOf,hf,h]
     rw[e];exact rfl
    ·have e:partsOf (.app (.app f z) y)=(z,y,true):=by simp at h;simp[partsOf,hf,h]
     rw[e];refine⟨_,by decide,rfl,rfl,?_⟩;refine⟨_,by decide,rfl,rfl,?_⟩;refine⟨_,by decide,rfl,rfl,?_⟩;exact rfl
   ·have hf:¬f.form=3:=by simpa using h
    have e:partsOf (.app (.app f z) y)=(.no,.no,false):=by simp[partsOf,hf]
    rw[e];exact rfl
 ·have e:partsOf t=(.no,.no,false):=by cases t<;>first|(simp[Tp.form] at h;done)|rfl
  rw[e];exact rfl
theorem zRO (s:ByteArray):zF Tryz.prog zPY [.lit (.string s)] (eTy (.var s)):=by
 refine zH ttok mixed Tryz.func41 rfl (by rfl) (Nat.le_of_ble_eq_true rfl) (by kernel_rfl) ?_;exact rfl
theorem zX4 (a b:Tp):zF Tryz.prog zKZ [eTy a,eTy b] (eTy (.app a b)):=by
 refine zH ttok mixed Tryz.func89 rfl (by rfl) (Nat.le_of_ble_eq_true rfl) (by kernel_rfl) ?_;exact rfl
theorem zQP (b:Bool):zF Tryz.prog zH2 [.sb b] (.lit (.int .i64 (if b then 1 else 0))):=by
 refine zH ttok mixed Tryz.func138 rfl (by rfl) (Nat.le_of_ble_eq_true rfl) (by kernel_rfl) ?_;refine⟨fun h=>?_,fun h=>?_⟩<;>subst h<;>exact rfl
theorem z5T (t:Tp):t.eArgs.length=t.args.length:=by rw[t.eArgs_eq];simp[zDK]
def brk (b:Bool) (s:ByteArray):ByteArray:=if b then (⟨#[40]⟩++s)++⟨#[41]⟩ else s
def pr (dec:Int->ByteArray):Tp->Nat->ByteArray
 | .no,_ => .empty
 | .mt n,_=>⟨#[63]⟩++dec n
 | .var s,_=>s
 | .con s,_=>brk (decide (s=arrow)) s
 | .all s a,h=>brk (decide (h≠0)) (((⟨#[102,111,114,97,108,108,32]⟩++s)++⟨#[46,32]⟩)++pr dec a 0)
 | .app (.app f a) b,h=>if f.form=3/\f.nam=arrow then brk (decide (h≠0)) ((pr dec a 1++⟨#[32,45,62,32]⟩)++pr dec b (if b.form=5 then 1 else 0)) else brk (decide (h=3)) ((pr dec (.app f a) 2++⟨#[32]⟩)++pr dec b 3)
 | .app x b,h=>brk (decide (h=3)) ((pr dec x 2++⟨#[32]⟩)++pr dec b 3)
theorem zC2 (b:Bool) (s:ByteArray):(brk b s).size<=s.size+2:=by
 have h1:(ByteArray.mk #[40]).size=1:=rfl;have h2:(ByteArray.mk #[41]).size=1:=rfl;unfold brk;split
 ·rw[ByteArray.size_append,ByteArray.size_append,h1,h2];omega
 ·omega
theorem zCH (t:Tp):0<t.sz:=by cases t<;>simp[Tp.sz]<;>omega
theorem zB9 {dec:Int->ByteArray} (hd:∀n,(dec n).size<=30) (N:Nat):∀(t:Tp) (h:Nat),t.sz<=N->t.fine->(pr dec t h).size+10<=50*t.sz:=by
 have q1:(ByteArray.mk #[63]).size=1:=rfl;have q2:(ByteArray.mk #[102,111,114,97,108,108,32]).size=7:=rfl;have q3:(ByteArray.mk #[46,32]).size=2:=rfl;have q4:(ByteArray.mk #[32,45,62,32]).size=4:=rfl;have q5:(ByteArray.mk #[32]).size=1:=rfl;induction N with
 | zero=>intro t h hs;have:=zCH t;omega
 | succ N ih =>
  intro t h hs hf;cases t with
  | no=>exact hf.elim
  | mt n=>have:=hd n;simp only[pr,ByteArray.size_append,Tp.sz,q1];omega
  | var s=>simp only[pr,Tp.sz];have:s.size<=4:=hf;omega
  | con s=>simp only[pr,Tp.sz];have:=zC2 (decide (s=arrow)) s;have:s.size<=4:=hf;omega
  | all s a =>
   obtain⟨h1,h2⟩:=hf;simp only[Tp.sz] at hs;have:=ih a 0 (by omega) h2;have hb:=zC2 (decide (h≠0)) (((⟨#[102,111,114,97,108,108,32]⟩++s)++⟨#[46,32]⟩)++pr dec a 0);simp only[pr,Tp.sz];simp only[ByteArray.size_append,q2,q3] at hb;omega
  | app x b =>
   obtain⟨h1,h2⟩:=hf;simp only[Tp.sz] at hs;have hb0:=zCH b;have hx0:=zCH x;have hx:=ih x 2 (by omega) h1;have hb3:=ih b 3 (by omega) h2;have gen:(brk (decide (h=3)) ((pr dec x 2++⟨#[32]⟩)++pr dec b 3)).size+10<=50*(1+x.sz+b.sz):=by
    have hb:=zC2 (decide (h=3)) ((pr dec x 2++⟨#[32]⟩)++pr dec b 3);simp only[ByteArray.size_append,q5] at hb;omega
   cases x with
   | app f a =>
    simp only[Tp.sz] at hs hx0 hx gen;have ha:=ih a 1 (by omega) h1.2;have hbb:=ih b (if b.form=5 then 1 else 0) (by omega) h2;simp only[pr,Tp.sz];split
    ·have hb:=zC2 (decide (h≠0)) ((pr dec a 1++⟨#[32,45,62,32]⟩)++pr dec b (if b.form=5 then 1 else 0));simp only[ByteArray.size_append,q4] at hb;omega
    ·exact gen
   | _=>exact gen
def mts:Tp->List Int
 | .mt n=>[n]
 | .app a b=>mts a++mts b
 | .all _ a=>mts a
 | _=>[]
theorem zW5 {dec:Int->ByteArray} (hd:∀n,(dec n).size<=30) (N:Nat) (hN:N<1000000):∀(t:Tp) (h:Nat),t.sz<=N->t.fine->(∀n∈mts t,zF Tryz.prog yT [.lit (.int .i64 n)] (.lit (.string (dec n)))) ->
  zF Tryz.prog zEN [eTy t,.lit (.int .i64 (h:Nat))] (.lit (.string (pr dec t h))):=by
 have q1:(ByteArray.mk #[63]).size=1:=rfl;have q2:(ByteArray.mk #[102,111,114,97,108,108,32]).size=7:=rfl;have q3:(ByteArray.mk #[46,32]).size=2:=rfl;have q4:(ByteArray.mk #[32,45,62,32]).size=4:=rfl;have q5:(ByteArray.mk #[32]).size=1:=rfl;have q6:(ByteArray.mk #[40]).size=1:=rfl;have q7:(ByteArray.mk #[41]).size=1:=rfl;induction N with
 | zero=>intro t h hs;have:=zCH t;omega
 | succ N ih =>
  intro t how hs hf hI;have ih:=ih (by omega);cases t with
  | no=>exact hf.elim
  | mt n =>
   refine zH ttok mixed Tryz.func112 rfl (by rfl) (Nat.le_of_ble_eq_true rfl) (by kernel_rfl) ?_;have:=hd n;refine .inl ⟨_,zAO _,?_⟩;refine⟨fun h=>(by cases h),fun _=>?_⟩;refine⟨fun _=>?_,fun h=>(by cases h)⟩;refine .inl ⟨_,hI n (by simp[mts]),?_⟩;refine⟨by rw[q1];omega,?_⟩;exact rfl
  | var s =>
   refine zH ttok mixed Tryz.func112 rfl (by rfl) (Nat.le_of_ble_eq_true rfl) (by kernel_rfl) ?_;refine .inl ⟨_,zAO _,?_⟩;refine⟨fun h=>(by cases h),fun _=>?_⟩;refine⟨fun h=>(by cases h),fun _=>?_⟩;refine⟨fun h=>(by cases h),fun _=>?_⟩;refine⟨fun h=>(by cases h),fun _=>?_⟩;refine⟨fun h=>(by cases h),fun _=>?_⟩;exact rfl
  | con s =>
   refine zH ttok mixed Tryz.func112 rfl (by rfl) (Nat.le_of_ble_eq_true rfl) (by kernel_rfl) ?_;have hs4:s.size<=4:=hf;have hnm:(Tp.con s).nam.size<=4:=hs4;refine .inl ⟨_,zAO _,?_⟩;refine⟨fun h=>(by cases h),fun _=>?_⟩;refine⟨fun h=>(by cases h),fun _=>?_⟩;refine⟨fun _=>?_,fun h=>(by cases h)⟩;refine⟨fun h=>?_,fun h=>?_⟩
   ·have h:s=arrow:=of_decide_eq_true h;refine⟨by simp only[ByteArray.size_append,q1,q2,q3,q4,q5,q6,q7];omega,?_⟩;refine⟨by simp only[ByteArray.size_append,q1,q2,q3,q4,q5,q6,q7];omega,?_⟩;show _=AV.lit (.string (brk (decide (s=arrow)) s));rw[decide_eq_true h];exact rfl
   ·have h:¬s=arrow:=of_decide_eq_false h;refine⟨fun h=>(by cases h),fun _=>?_⟩;refine⟨fun h=>(by cases h),fun _=>?_⟩;show _=AV.lit (.string (brk (decide (s=arrow)) s));rw[decide_eq_false h];exact rfl
  | all s a =>
   obtain⟨hs4,h2⟩:=hf;simp only[Tp.sz] at hs;refine zH ttok mixed Tryz.func112 rfl (by rfl) (Nat.le_of_ble_eq_true rfl) (by kernel_rfl) ?_;have hp:=zB9 hd N a 0 (by omega) h2;have hnm:(Tp.all s a).nam.size<=4:=hs4;refine .inl ⟨_,zAO _,?_⟩;refine⟨fun h=>(by cases h),fun _=>?_⟩;refine⟨fun h=>(by cases h),fun _=>?_⟩;refine⟨fun h=>(by cases h),fun _=>?_⟩;refine⟨fun _=>?_,fun h=>(by cases h)⟩;refine⟨by simp only[ByteArray.size_append,q1,q2,q3,q4,q5,q6,q7];omega,?_⟩;refine⟨by simp only[ByteArray.size_append,q1,q2,q3,q4,q5,q6,q7];omega,?_⟩;refine⟨_,by decide,rfl,rfl,?_⟩;refine .inl ⟨_,ih a 0 (by omega) h2 hI,?_⟩;refine⟨by simp only[ByteArray.size_append,q1,q2,q3,q4,q5,q6,q7];omega,?_⟩;refine⟨fun h=>?_,fun h=>?_⟩
   ·have h:¬how=0:=by simp at h;omega
    refine⟨by simp only[ByteArray.size_append,q1,q2,q3,q4,q5,q6,q7];omega,?_⟩;refine⟨by simp only[ByteArray.size_append,q1,q2,q3,q4,q5,q6,q7];omega,?_⟩;show _=AV.lit (.string (brk (decide (how≠0)) _));rw[decide_eq_true h];exact rfl
   ·have h:how=0:=by simp at h;omega
    show _=AV.lit (.string (brk (decide (how≠0)) _));rw[decide_eq_false (p:=how≠0) (by omega)];exact rfl
  | app x b =>
   obtain⟨h1,h2⟩:=hf;simp only[Tp.sz] at hs;have hb0:=zCH b;have hx0:=zCH x;have hpx:=zB9 hd N x 2 (by omega) h1;have hpb:=zB9 hd N b 3 (by omega) h2;have hIx:∀n∈mts x,zF Tryz.prog yT [.lit (.int .i64 n)] (.lit (.string (dec n))):=fun n hn=>hI n (by simp[mts,hn]);have hIb:∀n∈mts b,zF Tryz.prog yT [.lit (.int .i64 n)] (.lit (.string (dec n))):=fun n hn=>hI n (by simp[mts,hn]);by_cases hfun:∃f a,x = .app f a/\f.form=3/\f.nam=arrow
   ·obtain⟨f,a,rfl,hf3,hfn⟩:=hfun;simp only[Tp.sz] at hs hx0;have hpa:=zB9 hd N a 1 (by omega) h1.2;have hpbb:=zB9 hd N b (if b.form=5 then 1 else 0) (by omega) h2;have e:partsOf (.app (.app f a) b)=(a,b,true):=by simp[partsOf,hf3,hfn]
    have hparts:=zAO (.app (.app f a) b);rw[e] at hparts;have hIa:∀n∈mts a,zF Tryz.prog yT [.lit (.int .i64 n)] (.lit (.string (dec n))):=fun n hn=>hIx n (by simp[mts,hn]);refine zH ttok mixed Tryz.func112 rfl (by rfl) (Nat.le_of_ble_eq_true rfl) (by kernel_rfl) ?_;refine .inl ⟨_,hparts,?_⟩;refine⟨fun _=>?_,fun h=>(by cases h)⟩;refine .inl ⟨_,ih a 1 (by omega) h1.2 hIa,?_⟩;refine⟨by simp only[ByteArray.size_append,q1,q2,q3,q4,q5,q6,q7];omega,?_⟩;refine .inl ⟨_,zQP _,?_⟩;have eb:IntKind.i64.wrap (0+(if decide (b.form=5)=true then 1 else 0))=(((if b.form=5 then 1 else 0):Nat):Int):=by
     by_cases hb5:b.form=5
     ·simp[hb5];decide
     ·simp[hb5];decide
    have ihb:=ih b (if b.form=5 then 1 else 0) (by omega) h2 hIb;rw[<-eb] at ihb;refine .inl ⟨_,ihb,?_⟩;refine⟨by simp only[ByteArray.size_append,q1,q2,q3,q4,q5,q6,q7];omega,?_⟩;have epr:pr dec (.app (.app f a) b) how=brk (decide (how≠0)) ((pr dec a 1++⟨#[32,45,62,32]⟩)++pr dec b (if b.form=5 then 1 else 0)):=by
     show (if f.form=3/\f.nam=arrow then _ else _)=_;rw[if_pos ⟨hf3,hfn⟩]
    rw[epr];refine⟨fun h=>?_,fun h=>?_⟩
    ·have h:¬how=0:=by simp at h;omega
     refine⟨by simp only[ByteArray.size_append,q1,q2,q3,q4,q5,q6,q7];omega,?_⟩;refine⟨by simp only[ByteArray.size_append,q1,q2,q3,q4,q5,q6,q7];omega,?_⟩;rw[decide_eq_true h];exact rfl
    ·have h:how=0:=by simp at h;omega
     rw[decide_eq_false (p:=how≠0) (by omega)];exact rfl
   ·have e:partsOf (.app x b)=(.no,.no,false):=by
     cases x with
     | app f a=>exact if_neg (fun h=>hfun ⟨f,a,rfl,h⟩)
     | _=>rfl
    have hparts:=zAO (.app x b);rw[e] at hparts;have epr:pr dec (.app x b) how=brk (decide (how=3)) ((pr dec x 2++⟨#[32]⟩)++pr dec b 3):=by
     cases x with
     | app f a=>exact if_neg (fun h=>hfun ⟨f,a,rfl,h⟩)
     | _=>rfl
    rw[epr];refine zH ttok mixed Tryz.func112 rfl (by rfl) (Nat.le_of_ble_eq_true rfl) (by kernel_rfl) ?_;refine .inl ⟨_,hparts,?_⟩;refine⟨fun h=>(by cases h),fun _=>?_⟩;refine⟨fun h=>(by cases h),fun _=>?_⟩;refine⟨fun h=>(by cases h),fun _=>?_⟩;refine⟨fun h=>(by cases h),fun _=>?_⟩;refine⟨fun _=>?_,fun h=>(by cases h)⟩;refine⟨_,by decide,rfl,rfl,?_⟩;refine .inl ⟨_,ih x 2 (by omega) h1 hIx,?_⟩;refine⟨by simp only[ByteArray.size_append,q1,q2,q3,q4,q5,q6,q7];omega,?_⟩;refine⟨_,by decide,rfl,rfl,?_⟩;refine .inl ⟨_,ih b 3 (by omega) h2 hIb,?_⟩;refine⟨by simp only[ByteArray.size_append,q1,q2,q3,q4,q5,q6,q7];omega,?_⟩;refine⟨fun h=>?_,fun h=>?_⟩
    ·have h:how=3:=by simp at h;omega
     refine⟨by simp only[ByteArray.size_append,q1,q2,q3,q4,q5,q6,q7];omega,?_⟩;refine⟨by simp only[ByteArray.size_append,q1,q2,q3,q4,q5,q6,q7];omega,?_⟩;rw[decide_eq_true h];exact rfl
    ·have h:¬how=3:=by simp at h;omega
     rw[decide_eq_false h];exact rfl
theorem zL1 {dec:Int->ByteArray} (hd:∀n,(dec n).size<=30) (t:Tp) (hs:t.sz<1000000) (hf:t.fine) (hI:∀n∈mts t,zF Tryz.prog yT [.lit (.int .i64 n)] (.lit (.string (dec n)))) :
  zF Tryz.prog jL [eTy t] (.lit (.string (pr dec t 0))):=by
 refine zH ttok mixed Tryz.func67 rfl (by rfl) (Nat.le_of_ble_eq_true rfl) (by kernel_rfl) ?_;refine .inl ⟨_,zW5 hd t.sz hs t 0 (Nat.le_refl _) hf hI,?_⟩;exact rfl
def ixI {α:Type} [DecidableEq α] (l:List α) (s:α):Int:=if s∈l then (l.idxOf s:Nat) else -1
theorem zYY {α:Type} [DecidableEq α] {l:List α} {s:α} {k:Nat} (hk:k<l.length) (h:l[k]=s) (hn:∀j,j<k->l[j]?≠some s):ixI l s=(k:Nat):=by
 have hm:s∈l:=h ▸ List.getElem_mem hk;rw[ixI,if_pos hm];have h1:l.idxOf s<l.length:=List.idxOf_lt_length_iff.2 hm;have h2:l[l.idxOf s]=s:=List.getElem_idxOf h1;rcases Nat.lt_trichotomy (l.idxOf s) k with q|q|q
 ·exact absurd (by rw[List.getElem?_eq_getElem h1,h2]) (hn _ q)
 ·rw[q]
 ·have:=List.not_of_lt_findIdx (p:=(· == s)) (xs:=l) (i:=k) q;simp[h] at this
theorem zFD {α:Type} {l:List α} {s:α} (hn:∀j,j<l.length->l[j]?≠some s):s∉l:=fun hm=>by
 obtain⟨j,hj,he⟩:=List.getElem_of_mem hm;exact hn j hj (by rw[List.getElem?_eq_getElem hj,he])
theorem zMY {α:Type} [DecidableEq α] {l:List α} {s:α} (hn:s∉l):ixI l s = -1:=by rw[ixI,if_neg hn]
def memb {α:Type} [DecidableEq α] (s:α) (l:List α):Bool:=decide (s∈l)
theorem zJ3 {α:Type} [DecidableEq α] {s:α} {l:List α} (h:s∈l):memb s l=true:=decide_eq_true h
theorem zZ8 {α:Type} [DecidableEq α] {s:α} {l:List α} (h:s∉l):memb s l=false:=decide_eq_false h
theorem memb_iff {α:Type} [DecidableEq α] {s:α} {l:List α}:memb s l=true↔s∈l:=decide_eq_true_iff
theorem zXJ {α:Type} [DecidableEq α] (l:List α) (s:α):decide (0<=ixI l s)=memb s l:=by
 unfold ixI memb;split<;>rename_i h
 ·rw[decide_eq_true h];exact decide_eq_true (Int.natCast_nonneg _)
 ·rw[decide_eq_false h];rfl
theorem zMT {α:Type} {l:List α} {s:α} {k:Nat} (hk:k<l.length) (h:l[k]≠s) (hn:∀j,j<k->l[j]?≠some s):∀j,j<k+1->l[j]?≠some s:=fun j hj=>by
 rcases Nat.lt_or_ge j k with q|q
 ·exact hn j q
 ·obtain rfl:j=k:=by omega
  rw[List.getElem?_eq_getElem hk];intro e;injection e with e;exact h e
theorem zOB {l:List ByteArray} {s:ByteArray} (hl:l.length<9223372036854775807):zF Tryz.prog zAF [.sl (eSs l),.lit (.string s)] (.lit (.int .i64 (ixI l s))):=by
 refine zH ttok mixed Tryz.func87 rfl (by rfl) (Nat.le_of_ble_eq_true rfl) (by kernel_rfl) ?_;refine⟨{k:Nat // k<=l.length/\∀j,j<k->l[j]?≠some s},fun k=>{vs:=[(0,.v (.sl (eSs l))),(1,.v (.lit (.string s))),(7,.v (.lit (.int .i64 ((eSs l).length:Nat)))),(8,.v (.lit (.int .i64 (k.1:Nat))))],ow:=[]},
  fun k=>l.length-k.1,⟨0,Nat.zero_le _,fun j hj=>absurd hj (by omega)⟩,⟨⟨rfl,rfl,rfl,rfl,trivial⟩,trivial,rfl⟩,?_⟩
 rintro⟨k,hk,hn⟩;have hlen:(eSs l).length=l.length:=by simp[eSs]
 refine⟨fun h=>?_,fun h=>?_⟩
 ·have h:k<l.length:=by simp[hlen] at h;omega
  refine⟨_,by omega,zNQ h,rfl,?_⟩;refine⟨fun h2=>?_,fun h2=>?_⟩
  ·have h2:l[k]=s:=by simpa[eq_comm] using h2
   rw[zYY h h2 hn];exact rfl
  ·have h2:l[k]≠s:=by intro e;simp[e] at h2
   refine⟨⟨k+1,h,zMT h h2 hn⟩,(show l.length-(k+1)<l.length-k by omega),⟨rfl,rfl,rfl,?_,trivial⟩,trivial,rfl⟩;exact congrArg (fun n=>SV.v (AV.lit (Value.int .i64 n))) (wrap_succ (k:=k) (by omega))
 ·have h:k=l.length:=by simp[hlen] at h;omega
  subst h;rw[zMY (zFD hn)];exact rfl
theorem zUG {l:List Int} {s:Int} (hl:l.length<9223372036854775807):zF Tryz.prog zCX [.sl (eIs l),.lit (.int .i64 s)] (.lit (.int .i64 (ixI l s))):=by
 refine zH ttok mixed Tryz.func149 rfl (by rfl) (Nat.le_of_ble_eq_true rfl) (by kernel_rfl) ?_;refine⟨{k:Nat // k<=l.length/\∀j,j<k->l[j]?≠some s},fun k=>{vs:=[(0,.v (.sl (eIs l))),(1,.v (.lit (.int .i64 s))),(7,.v (.lit (.int .i64 ((eIs l).length:Nat)))),(8,.v (.lit (.int .i64 (k.1:Nat))))],ow:=[]},
  fun k=>l.length-k.1,⟨0,Nat.zero_le _,fun j hj=>absurd hj (by omega)⟩,⟨⟨rfl,rfl,rfl,rfl,trivial⟩,trivial,rfl⟩,?_⟩
 rintro⟨k,hk,hn⟩;have hlen:(eIs l).length=l.length:=by simp[eIs]
 refine⟨fun h=>?_,fun h=>?_⟩
 ·have h:k<l.length:=by simp[hlen] at h;omega
  refine⟨_,by omega,z6D h,rfl,?_⟩;refine⟨fun h2=>?_,fun h2=>?_⟩
  ·have h2:l[k]=s:=by simpa[eq_comm] using h2
   rw[zYY h h2 hn];exact rfl
  ·have h2:l[k]≠s:=by intro e;simp[e] at h2
   refine⟨⟨k+1,h,zMT h h2 hn⟩,(show l.length-(k+1)<l.length-k by omega),⟨rfl,rfl,rfl,?_,trivial⟩,trivial,rfl⟩;exact congrArg (fun n=>SV.v (AV.lit (Value.int .i64 n))) (wrap_succ (k:=k) (by omega))
 ·have h:k=l.length:=by simp[hlen] at h;omega
  subst h;rw[zMY (zFD hn)];exact rfl
theorem yS {l:List ByteArray} {s:ByteArray} (hl:l.length<9223372036854775807):zF Tryz.prog jC [.sl (eSs l),.lit (.string s)] (.sb (memb s l)):=by
 refine zH ttok mixed Tryz.func55 rfl (by rfl) (Nat.le_of_ble_eq_true rfl) (by kernel_rfl) ?_;refine .inl ⟨_,zOB hl,?_⟩;rw[<-zXJ];exact rfl
theorem zFV {l:List Int} {s:Int} (hl:l.length<9223372036854775807):zF Tryz.prog zBE [.sl (eIs l),.lit (.int .i64 s)] (.sb (memb s l)):=by
 refine zH ttok mixed Tryz.func140 rfl (by rfl) (Nat.le_of_ble_eq_true rfl) (by kernel_rfl) ?_;refine .inl ⟨_,zUG hl,?_⟩;rw[<-zXJ];exact rfl
theorem z3H {l:List ByteArray} {s:ByteArray} (hl:l.length<9223372036854775807):zF Tryz.prog zHB [.sl (eSs l),.lit (.string s)] (.sb (memb s l)):=by
 refine zH ttok mixed Tryz.func35 rfl (by rfl) (Nat.le_of_ble_eq_true rfl) (by kernel_rfl) ?_;refine⟨{k:Nat // k<=l.length/\∀j,j<k->l[j]?≠some s},fun k=>{vs:=[(0,.v (.sl (eSs l))),(1,.v (.lit (.string s))),(5,.v (.lit (.int .i64 (k.1:Nat))))],ow:=[]},
  fun k=>l.length-k.1,⟨0,Nat.zero_le _,fun j hj=>absurd hj (by omega)⟩,⟨⟨rfl,rfl,rfl,trivial⟩,trivial,rfl⟩,?_⟩
 rintro⟨k,hk,hn⟩;have hlen:(eSs l).length=l.length:=by simp[eSs]
 refine⟨fun h=>?_,fun h=>?_⟩
 ·have h:k<l.length:=by simp[hlen] at h;omega
  refine⟨_,by omega,zNQ h,rfl,?_⟩;refine⟨fun h2=>?_,fun h2=>?_⟩
  ·have h2:l[k]=s:=by simpa using h2
   rw[zJ3 (h2 ▸ List.getElem_mem h)];exact rfl
  ·have h2:l[k]≠s:=by intro e;simp[e] at h2
   refine⟨⟨k+1,h,zMT h h2 hn⟩,(show l.length-(k+1)<l.length-k by omega),⟨rfl,rfl,?_,trivial⟩,trivial,rfl⟩;exact congrArg (fun n=>SV.v (AV.lit (Value.int .i64 n))) (wrap_succ (k:=k) (by omega))
 ·have h:k=l.length:=by simp[hlen] at h;omega
  subst h;rw[zZ8 (zFD hn)];exact rfl
theorem zY2 (s:ByteArray) (t:Tp):zF Tryz.prog zOO [.lit (.string s),eTy t] (eTy (.all s t)):=by
 refine zH ttok mixed Tryz.func131 rfl (by rfl) (Nat.le_of_ble_eq_true rfl) (by kernel_rfl) ?_;refine .inl ⟨_,zNX t,?_⟩;exact rfl
set_option maxRecDepth 100000
def dcm (n:Nat):ByteArray:=if h:n<10 then ⟨#[UInt8.ofNat (48+n)]⟩ else dcm (n / 10)++⟨#[UInt8.ofNat (48+n % 10)]⟩
termination_by n
theorem wY {n:Nat} (h:n<10):dcm n=⟨#[UInt8.ofNat (48+n)]⟩:=by rw[dcm,dif_pos h]
theorem zFQ {n:Nat} (h:¬n<10):dcm n=dcm (n / 10)++⟨#[UInt8.ofNat (48+n % 10)]⟩:=by rw[dcm,dif_neg h]
theorem sz1 (x:UInt8):(ByteArray.mk #[x]).size=1:=rfl
theorem zAW:∀(k n:Nat),n<10 ^ k->0<k->(dcm n).size<=k
 | 0,n,h,hk=>by omega
 | k+1,n,h,_=>by
  by_cases h10:n<10
  ·rw[wY h10,sz1];omega
  ·rw[zFQ h10,ByteArray.size_append,sz1];have hk:0<k:=by
    rcases Nat.eq_zero_or_pos k with rfl|h'
    ·simp at h;omega
    ·exact h'
   have:=zAW k (n / 10) (by rw[Nat.pow_succ] at h;omega) hk;omega
theorem z4M {n:Nat} (h:n<256):IntKind.u8.wrap (n:Int)=n:=by
 simp[IntKind.wrap,IntKind.signed,IntKind.bits];omega
theorem zJP (N:Nat):∀n:Nat,n<=N->N<1000000000->zF Tryz.prog zDJ [.lit (.int .i64 (n:Nat))] (.lit (.string (dcm n))):=by
 induction N using Nat.strongRecOn with
 | _ N ih =>
  intro n hn hN;refine zH ttok mixed Tryz.func75 rfl (by rfl) (Nat.le_of_ble_eq_true rfl) (by kernel_rfl) ?_;have e1:((n:Int).tmod 10)=((n % 10:Nat):Int):=rfl;have e2:IntKind.i64.wrap (48+(n:Int).tmod 10)=((48+n % 10:Nat):Int):=by rw[e1,show (48:Int)+((n % 10:Nat):Int)=((48+n % 10:Nat):Int) by omega];exact xC (by omega)
  have e3:IntKind.u8.wrap (IntKind.i64.wrap (48+(n:Int).tmod 10))=((48+n % 10:Nat):Int):=by rw[e2];exact z4M (by omega)
  have e4:IntKind.i64.wrap ((n:Int).tdiv 10)=((n / 10:Nat):Int):=by rw[show ((n:Int).tdiv 10)=((n / 10:Nat):Int) by simp];exact xC (by omega)
  have hb:(IntKind.u8.wrap (IntKind.i64.wrap (48+(n:Int).tmod 10))).toNat=48+n % 10:=by rw[e3];rfl
  refine⟨by decide,?_⟩;refine⟨fun h=>by simp at h;omega,fun _=>?_⟩;refine⟨fun _=>?_,fun h=>by simp at h;omega⟩;refine⟨fun h=>?_,fun h=>?_⟩
  ·have h:n<10:=by simp at h;omega
   refine⟨fun h=>by simp at h;omega,fun _=>?_⟩;show AV.lit (.string ⟨[UInt8.ofNat (IntKind.u8.wrap (IntKind.i64.wrap (48+(n:Int).tmod 10))).toNat].toArray⟩)=_;rw[hb,wY h,Nat.mod_eq_of_lt h]
  ·have h:¬n<10:=by simp at h;omega
   have hc:=ih (n / 10) (by omega) (n / 10) (Nat.le_refl _) (by omega);rw[<-e4] at hc;refine⟨by decide,.inl ⟨_,hc,?_⟩⟩;refine⟨?_,?_⟩
   ·have:=zAW 9 (n / 10) (by omega) (by decide);show _+(ByteArray.mk #[_]).size<=_;rw[sz1];omega
   ·show AV.lit (.string (dcm (n / 10)++⟨[UInt8.ofNat (IntKind.u8.wrap (IntKind.i64.wrap (48+(n:Int).tmod 10))).toNat].toArray⟩))=_;rw[hb,zFQ h]
theorem zRR {a:Nat} (h1:¬a<10) (h2:a<100):dcm a=⟨#[UInt8.ofNat (48+a / 10),UInt8.ofNat (48+a % 10)]⟩:=by
 rw[zFQ h1,wY (by omega)];rfl
def sm100:ByteArray:=⟨((List.range 100).flatMap fun i=>[UInt8.ofNat (48+i / 10),UInt8.ofNat (48+i % 10)]).toArray⟩
theorem zV8:∀i:Fin 100,sm100.extract (Int.toNat ((i.val*2:Nat):Int)) (Int.toNat ((i.val*2+2:Nat):Int))=⟨#[UInt8.ofNat (48+i.val / 10),UInt8.ofNat (48+i.val % 10)]⟩:=by decide +kernel
theorem zX1 {n:Nat} (hn:n<100):zF Tryz.prog zBB [.lit (.int .i64 (n:Nat))] (.lit (.string (dcm n))):=by
 refine zH ttok mixed Tryz.func145 rfl (by rfl) (Nat.le_of_ble_eq_true rfl) (by kernel_rfl) ?_;have e1:IntKind.i64.wrap ((n:Int)+1)=((n+1:Nat):Int):=wrap_succ (by omega);have e2:IntKind.i64.wrap ((n:Int)*2)=((n*2:Nat):Int):=by rw[show (n:Int)*2=((n*2:Nat):Int) by omega];exact xC (by omega)
 have e3:IntKind.i64.wrap (IntKind.i64.wrap ((n:Int)*2)+2)=((n*2+2:Nat):Int):=by rw[e2,show ((n*2:Nat):Int)+2=((n*2+2:Nat):Int) by omega];exact xC (by omega)
 refine⟨fun h=>?_,fun h=>?_⟩
 ·have h:n<10:=by simp at h;omega
  refine⟨by omega,by rw[e1];omega,?_,?_⟩
  ·rw[e1];show ((n+1:Nat):Int)<=((36:Nat):Int);omega
  ·rw[e1];have:∀i:Fin 10,(ByteArray.mk #[48,49,50,51,52,53,54,55,56,57,97,98,99,100,101,102,103,104,105,106,107,108,109,110,111,112,113,114,115,116,117,118,119,120,121,122]).extract (Int.toNat (i.val:Int)) (Int.toNat ((i.val+1:Nat):Int))=⟨#[UInt8.ofNat (48+i.val)]⟩:=by decide +kernel
   have:=this ⟨n,h⟩;rw[wY h,<-this];exact rfl
 ·have h:¬n<10:=by simp at h;omega
  refine⟨by rw[e2];omega,by rw[e3,e2];omega,?_,?_⟩
  ·rw[e3];show ((n*2+2:Nat):Int)<=((200:Nat):Int);omega
  ·rw[e3,e2];have hf:AV.lit (.string (sm100.extract (Int.toNat ((n*2:Nat):Int)) (Int.toNat ((n*2+2:Nat):Int))))=AV.lit (.string (dcm n)):=by
    rw[zRR h hn];exact congrArg (fun s=>AV.lit (.string s)) (zV8 ⟨n,hn⟩)
   refine Eq.trans (congrArg (fun s:ByteArray=>AV.lit (.string (s.extract (Int.toNat ((n*2:Nat):Int)) (Int.toNat ((n*2+2:Nat):Int))))) (?_:_=sm100)) hf
   kernel_rfl
theorem zID {n:Nat} (hn:n<100):zF Tryz.prog yT [.lit (.int .i64 (n:Nat))] (.lit (.string (dcm n))):=by
 refine zH ttok mixed Tryz.func68 rfl (by rfl) (Nat.le_of_ble_eq_true rfl) (by kernel_rfl) ?_;refine .inl ⟨.lit (.string (dcm n)),?_,rfl⟩;refine zH ttok mixed Tryz.func113 rfl (by rfl) (Nat.le_of_ble_eq_true rfl) (by kernel_rfl) ?_;refine .inl ⟨.lit (.string (dcm n)),?_,rfl⟩;refine zH ttok mixed Tryz.func139 rfl (by rfl) (Nat.le_of_ble_eq_true rfl) (by kernel_rfl) ?_;refine⟨fun _=>?_,fun h=>(by simp at h)⟩;refine⟨fun _=>?_,fun h=>(by simp at h)⟩;refine⟨fun _=>?_,fun h=>(by simp at h;omega)⟩;refine .inl ⟨_,zX1 hn,?_⟩;exact rfl
def lett (n:Nat):ByteArray:=if n<26 then ⟨#[UInt8.ofNat (97+n % 26)]⟩ else ⟨#[UInt8.ofNat (97+n % 26)]⟩++dcm (n / 26)
theorem z5C:∀i:Fin 26,Utf8.encode ((97+i.val:Nat):Int)=⟨#[UInt8.ofNat (97+i.val)]⟩:=by decide +kernel
theorem wrap32 {n:Nat} (h:n<256):IntKind.i32.wrap (n:Int)=n:=by
 simp[IntKind.wrap,IntKind.signed,IntKind.bits];omega
theorem zEU {n:Nat} (hn:n<2600):zF Tryz.prog zH3 [.lit (.int .i64 (n:Nat))] (.lit (.string (lett n))):=by
 refine zH ttok mixed Tryz.func135 rfl (by rfl) (Nat.le_of_ble_eq_true rfl) (by kernel_rfl) ?_;have e1:((n:Int).tmod 26)=((n % 26:Nat):Int):=rfl;have e2:IntKind.i64.wrap (97+(n:Int).tmod 26)=((97+n % 26:Nat):Int):=by rw[e1,show (97:Int)+((n % 26:Nat):Int)=((97+n % 26:Nat):Int) by omega];exact xC (by omega)
 have e3:Utf8.encode (IntKind.i32.wrap (IntKind.i64.wrap (97+(n:Int).tmod 26)))=⟨#[UInt8.ofNat (97+n % 26)]⟩:=by rw[e2,wrap32 (by omega)];exact z5C ⟨n % 26,by omega⟩
 have e4:IntKind.i64.wrap ((n:Int).tdiv 26)=((n / 26:Nat):Int):=by rw[show ((n:Int).tdiv 26)=((n / 26:Nat):Int) by simp];exact xC (by omega)
 refine⟨by decide,?_⟩;refine⟨fun h=>?_,fun h=>?_⟩
 ·have h:n<26:=by simp at h;omega
  show AV.lit (.string (Utf8.encode (IntKind.i32.wrap (IntKind.i64.wrap (97+(n:Int).tmod 26)))))=_;rw[e3,lett,if_pos h]
 ·have h:¬n<26:=by simp at h;omega
  have hc:=zID (n:=n / 26) (by omega);rw[<-e4] at hc;refine⟨by decide,.inl ⟨_,hc,?_,?_⟩⟩
  ·have:=zAW 9 (n / 26) (by omega) (by decide);rw[e3,sz1];omega
  ·show AV.lit (.string (Utf8.encode (IntKind.i32.wrap (IntKind.i64.wrap (97+(n:Int).tmod 26)))++dcm (n / 26)))=_;rw[e3,lett,if_neg h]
end Go.Proofs.YtgonkhaebmfgiaaGreatDoor
