/- A part of the proof of a given statement: contracts of functions of the program, under no condition but those that each states. -/
import Derived.Test.YtgonkhaebmfgiaaGreatDoorC
set_option linter.unusedSimpArgs false
set_option linter.unusedVariables false
namespace Go.Proofs.YtgonkhaebmfgiaaGreatDoor
open Go Fp
set_option maxRecDepth 100000
set_option maxHeartbeats 8000000
def zGS (n:Int):ByteArray:=if n.toNat<100 then dcm n.toNat else .empty
theorem zHF (n:Int):(zGS n).size<=30:=by
 unfold zGS;split
 ·have:=zAW 2 n.toNat (by omega) (by decide);omega
 ·decide
theorem zPL {k:Nat} (h:k<10):zGS (k:Int)=dcm k:=by unfold zGS;rw[if_pos (by simp;omega)];rfl
theorem zUP {t:Tp} (h:good t):∀n∈mts t,zF Tryz.prog yT [.lit (.int .i64 n)] (.lit (.string (zGS n))):=by
 induction t with
 | mt m =>
  intro n hn;simp[mts] at hn;subst hn;obtain⟨k,rfl,hk⟩:=h;rw[zPL hk];exact zID (by omega)
 | app a b iha ihb =>
  intro n hn;rcases List.mem_append.1 hn with hn|hn
  ·exact iha h.1 n hn
  ·exact ihb h.2 n hn
 | all s a ih=>exact fun n hn=>ih h.2 n hn
 | _=>intro n hn;simp[mts] at hn
abbrev P0 (t:Tp):ByteArray:=pr zGS t 0
theorem isFun_app {f a b:Tp}:zAA (.app (.app f a) b)=true↔(f.form=3/\f.nam=arrow):=by simp[zAA]
theorem zDM {t:Tp} (h:zAA t=true):∃a b,t = .app (.app (.con arrow) a) b:=by
 cases t with
 | app x b=>cases x with
  | app f a =>
   obtain⟨h1,h2⟩:=isFun_app.1 h;obtain⟨s,rfl⟩:=Tp.is_con h1;have:s=arrow:=h2;subst this;exact⟨a,b,rfl⟩
  | _=>cases h
 | _=>cases h
theorem zFI (dec:Int->ByteArray) (a b:Tp) (h:Nat):pr dec (.app (.app (.con arrow) a) b) h=brk (decide (h≠0)) ((pr dec a 1++⟨#[32,45,62,32]⟩)++pr dec b (if b.form=5 then 1 else 0)):=by
 show (if _ then _ else _)=_;rw[if_pos ⟨rfl,rfl⟩]
theorem zF3 (dec:Int->ByteArray) {x b:Tp} (hf:zAA (.app x b)=false) (h:Nat):pr dec (.app x b) h=brk (decide (h=3)) ((pr dec x 2++⟨#[32]⟩)++pr dec b 3):=by
 cases x with
 | app f a =>
  show (if _ then _ else _)=_;rw[if_neg (fun e=>by rw[isFun_app.2 e] at hf;cases hf)]
 | _=>rfl
theorem z1N (dec:Int->ByteArray) (t:Tp) (h:Nat) (h1:h=1∨h=2):pr dec t h=brk (zAA t || decide (t.form=5)) (pr dec t 0):=by
 have h0:¬h=0:=by omega
 have h3:¬h=3:=by omega
 by_cases hf:zAA t=true
 ·obtain⟨a,b,rfl⟩:=zDM hf;rw[hf,zFI,zFI,decide_eq_true (p:=h≠0) h0]
  rfl
 ·have hf:zAA t=false:=by simpa using hf
  rw[hf];cases t with
  | app x b =>
   rw[zF3 dec hf,zF3 dec hf,decide_eq_false (p:=h=3) h3]
   rfl
  | all s a=>simp only[pr];rw[decide_eq_true (p:=h≠0) h0];rfl
  | _=>rfl
theorem z5Z (dec:Int->ByteArray) (t:Tp):pr dec t 3=brk (decide (t.form=4) || decide (t.form=5)) (pr dec t 0):=by
 cases t with
 | app x b =>
  by_cases hf:zAA (.app x b)=true
  ·obtain⟨a,c,e⟩:=zDM hf;rw[e,zFI,zFI];rfl
  ·have hf:zAA (.app x b)=false:=by simpa using hf
   rw[zF3 dec hf,zF3 dec hf];rfl
 | _=>rfl
theorem z4Z (dec:Int->ByteArray) (t:Tp):pr dec t (if t.form=5 then 1 else 0)=brk (decide (t.form=5)) (pr dec t 0):=by
 by_cases h:t.form=5
 ·obtain⟨s,a,rfl⟩:=Tp.is_all h
  rfl
 ·rw[if_neg h,decide_eq_false h];rfl
theorem yY {s:ByteArray} {b:Bool} (h:s.size<=1000000000):zF Tryz.prog zC9 [.lit (.string s),.sb b] (.lit (.string (brk b s))):=by
 refine zH ttok mixed Tryz.func122 rfl (by rfl) (Nat.le_of_ble_eq_true rfl) (by kernel_rfl) ?_;refine⟨fun e=>?_,fun e=>?_⟩
 ·subst e;refine⟨by rw[sz1];omega,?_⟩;refine⟨by rw[ByteArray.size_append,sz1,sz1];omega,?_⟩;exact rfl
 ·subst e;exact rfl
theorem zU1 (N:Nat) (hN:N<1000000):∀t:Tp,t.sz<=N->good t->zF Tryz.prog zFE [eTy t] (.lit (.string (P0 t))):=by
 have q2:(ByteArray.mk #[102,111,114,97,108,108,32]).size=7:=rfl;have q3:(ByteArray.mk #[46,32]).size=2:=rfl;have q4:(ByteArray.mk #[32,45,62,32]).size=4:=rfl;have psz:∀t:Tp,good t->(P0 t).size+10<=50*t.sz:=fun t h=>zB9 zHF t.sz t 0 (Nat.le_refl _) (zG6 t h);have bsz:∀(t:Tp) (b:Bool),good t->(brk b (P0 t)).size+8<=50*t.sz:=fun t b h=>by have:=zC2 b (P0 t);have:=psz t h;omega
 induction N with
 | zero=>intro t h;have:=zCH t;omega
 | succ N ih =>
  intro t hs hg;have ih:=ih (by omega);cases t with
  | no=>exact hg.elim
  | mt n =>
   obtain⟨k,rfl,hk⟩:=hg;have:=zAW 1 k (by omega) (by decide);have e:P0 (.mt (k:Int))=⟨#[63]⟩++dcm k:=by show _++zGS _=_;rw[zPL hk]
   rw[e];refine zH ttok mixed Tryz.func78 rfl (by rfl) (Nat.le_of_ble_eq_true rfl) (by kernel_rfl) ?_;refine .inl ⟨_,xY _,?_⟩;refine⟨fun h=>(by cases h),fun _=>?_⟩;refine⟨fun _=>?_,fun h=>(by cases h)⟩;refine .inl ⟨_,zJP k k (Nat.le_refl _) (by omega),?_⟩;refine⟨by rw[sz1];omega,?_⟩;exact rfl
  | var s =>
   have:=zA9 s hg;refine zH ttok mixed Tryz.func78 rfl (by rfl) (Nat.le_of_ble_eq_true rfl) (by kernel_rfl) ?_;refine .inl ⟨_,xY _,?_⟩;refine⟨fun h=>(by cases h),fun _=>?_⟩;refine⟨fun h=>(by cases h),fun _=>?_⟩;refine⟨fun h=>(by cases h),fun _=>?_⟩;refine⟨fun h=>(by cases h),fun _=>?_⟩;refine⟨fun h=>(by cases h),fun _=>?_⟩;refine .inl ⟨_,yY (s:=s) (b:=false) (by omega),?_⟩;exact rfl
  | con s =>
   have:=zHO s hg;refine zH ttok mixed Tryz.func78 rfl (by rfl) (Nat.le_of_ble_eq_true rfl) (by kernel_rfl) ?_;refine .inl ⟨_,xY _,?_⟩;refine⟨fun h=>(by cases h),fun _=>?_⟩;refine⟨fun h=>(by cases h),fun _=>?_⟩;refine⟨fun h=>(by cases h),fun _=>?_⟩;refine⟨fun h=>(by cases h),fun _=>?_⟩;refine⟨fun _=>?_,fun h=>(by cases h)⟩;refine .inl ⟨_,yY (s:=s) (b:=decide (s=arrow)) (by omega),?_⟩;exact rfl
  | all s a =>
   simp only[Tp.sz] at hs;have hss:=zA9 s hg.1;have hp:=psz a hg.2;refine zH ttok mixed Tryz.func78 rfl (by rfl) (Nat.le_of_ble_eq_true rfl) (by kernel_rfl) ?_;refine .inl ⟨_,xY _,?_⟩;refine⟨fun h=>(by cases h),fun _=>?_⟩;refine⟨fun h=>(by cases h),fun _=>?_⟩;refine⟨fun h=>(by cases h),fun _=>?_⟩;refine⟨fun _=>?_,fun h=>(by cases h)⟩;refine⟨by show _+s.size<=_;rw[q2];omega,?_⟩;refine⟨by simp only[ByteArray.size_append,q2,q3];show 7+s.size+_<=_;omega,?_⟩;refine⟨_,by decide,rfl,rfl,?_⟩;refine .inl ⟨_,ih a (by omega) hg.2,?_⟩;refine⟨by simp only[ByteArray.size_append,q2,q3];show 7+s.size+2+_<=_;omega,?_⟩;exact rfl
  | app x b =>
   simp only[Tp.sz] at hs;by_cases hf:zAA (.app x b)=true
   ·obtain⟨a,c,e⟩:=zDM hf;injection e with e1 e2
    subst e1;subst e2;have ga:good a:=hg.1.2;have gb:good b:=hg.2;simp only[Tp.sz] at hs;have pa:=psz a ga;have pb:=psz b gb;have ba:=fun q=>bsz a q ga;have bb:=fun q=>bsz b q gb;have e:P0 (.app (.app (.con arrow) a) b)=(brk (zAA a || decide (a.form=5)) (P0 a)++⟨#[32,45,62,32]⟩)++brk (decide (b.form=5)) (P0 b):=by
     show pr zGS _ 0=_;rw[zFI,z1N zGS a 1 (.inl rfl),z4Z];rfl
    rw[e];refine zH ttok mixed Tryz.func78 rfl (by rfl) (Nat.le_of_ble_eq_true rfl) (by kernel_rfl) ?_;refine .inl ⟨_,xY _,?_⟩;refine⟨fun _=>?_,fun h=>(by cases h)⟩;refine⟨_,by decide,rfl,rfl,?_⟩;refine⟨_,by decide,rfl,rfl,?_⟩;refine⟨_,by decide,rfl,rfl,?_⟩;refine .inl ⟨_,xY a,?_⟩;refine .inl ⟨_,ih a (by omega) ga,?_⟩;refine⟨fun h1=>?_,fun h1=>?_⟩
    ·rw[h1,Bool.false_or];have:=ba (decide (a.form=5));have:=bb (decide (b.form=5));refine .inl ⟨_,yY (b:=decide (a.form=5)) (by omega),?_⟩;refine⟨by rw[q4];omega,?_⟩;refine .inl ⟨_,ih b (by omega) gb,?_⟩;refine .inl ⟨_,yY (b:=decide (b.form=5)) (by omega),?_⟩;refine⟨by rw[ByteArray.size_append,q4];omega,?_⟩;exact rfl
    ·rw[h1];have:=ba true;have:=bb (decide (b.form=5));refine .inl ⟨_,yY (b:=true) (by omega),?_⟩;refine⟨by rw[q4];omega,?_⟩;refine .inl ⟨_,ih b (by omega) gb,?_⟩;refine .inl ⟨_,yY (b:=decide (b.form=5)) (by omega),?_⟩;refine⟨by rw[ByteArray.size_append,q4];omega,?_⟩;exact rfl
   ·have hf:zAA (.app x b)=false:=by simpa using hf
    have gx:good x:=hg.1;have gb:good b:=hg.2;have px:=psz x gx;have pb:=psz b gb;have bx:=fun q=>bsz x q gx;have bb:=fun q=>bsz b q gb;have e:P0 (.app x b)=(brk (zAA x || decide (x.form=5)) (P0 x)++⟨#[32]⟩)++brk (decide (b.form=4) || decide (b.form=5)) (P0 b):=by
     show pr zGS _ 0=_;rw[zF3 zGS hf,z1N zGS x 2 (.inr rfl),z5Z];rfl
    rw[e];refine zH ttok mixed Tryz.func78 rfl (by rfl) (Nat.le_of_ble_eq_true rfl) (by kernel_rfl) ?_;refine .inl ⟨_,xY _,?_⟩;rw[hf];refine⟨fun h=>(by cases h),fun _=>?_⟩;refine⟨fun h=>(by cases h),fun _=>?_⟩;refine⟨fun _=>?_,fun h=>(by cases h)⟩;refine⟨_,by decide,rfl,rfl,?_⟩;refine⟨_,by decide,rfl,rfl,?_⟩;refine .inl ⟨_,xY x,?_⟩;refine .inl ⟨_,ih x (by omega) gx,?_⟩;refine⟨fun h1=>?_,fun h1=>?_⟩
    ·rw[h1,Bool.false_or];have:=bx (decide (x.form=5));refine .inl ⟨_,yY (b:=decide (x.form=5)) (by omega),?_⟩;refine⟨by rw[sz1];omega,?_⟩;refine .inl ⟨_,ih b (by omega) gb,?_⟩;refine⟨fun h2=>?_,fun h2=>?_⟩
     ·rw[h2,Bool.false_or];have:=bb (decide (b.form=5));refine .inl ⟨_,yY (b:=decide (b.form=5)) (by omega),?_⟩;refine⟨by rw[ByteArray.size_append,sz1];omega,?_⟩;exact rfl
     ·rw[h2];have:=bb true;refine .inl ⟨_,yY (b:=true) (by omega),?_⟩;refine⟨by rw[ByteArray.size_append,sz1];omega,?_⟩;exact rfl
    ·rw[h1];have:=bx true;refine .inl ⟨_,yY (b:=true) (by omega),?_⟩;refine⟨by rw[sz1];omega,?_⟩;refine .inl ⟨_,ih b (by omega) gb,?_⟩;refine⟨fun h2=>?_,fun h2=>?_⟩
     ·rw[h2,Bool.false_or];have:=bb (decide (b.form=5));refine .inl ⟨_,yY (b:=decide (b.form=5)) (by omega),?_⟩;refine⟨by rw[ByteArray.size_append,sz1];omega,?_⟩;exact rfl
     ·rw[h2];have:=bb true;refine .inl ⟨_,yY (b:=true) (by omega),?_⟩;refine⟨by rw[ByteArray.size_append,sz1];omega,?_⟩;exact rfl
def E0 (r:List UInt8):Prop:=r=[]∨∃l,r=41::l
end Go.Proofs.YtgonkhaebmfgiaaGreatDoor
