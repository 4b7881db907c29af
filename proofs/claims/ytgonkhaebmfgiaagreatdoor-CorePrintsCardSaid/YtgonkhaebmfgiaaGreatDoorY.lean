/- Core in print: how long it is; what alternatives and binds are. Plain. No condition. -/
import Derived.Test.YtgonkhaebmfgiaaGreatDoorX
import Derived.Test.YtgonkhaebmfgiaaGreatDoorT
import Derived.Test.YtgonkhaebmfgiaaGreatDoorD
set_option linter.unusedSimpArgs false
set_option linter.unusedVariables false
namespace Go.Proofs.YtgonkhaebmfgiaaGreatDoor
open Go Fp
set_option maxRecDepth 10000
set_option maxHeartbeats 4000000
set_option linter.unusedVariables false
theorem zOJ (sep:ByteArray):∀l:List ByteArray,(jnS sep l.reverse).size<=(l.map fun x=>x.size+sep.size).sum
 | []=>Nat.zero_le _
 | x::l=>by
  have ih:=zOJ sep l;rw[List.reverse_cons,List.map_cons,List.sum_cons];by_cases hl:l.reverse=[]
  ·rw[hl,List.nil_append,zNF];omega
  ·rw[zIZ sep hl];simp only[ByteArray.size_append];omega
theorem z0D (sep:ByteArray) (l:List ByteArray):(jnS sep l).size<=(l.map fun x=>x.size+sep.size).sum:=by
 have h:=zOJ sep l.reverse;rw[List.reverse_reverse,List.map_reverse] at h;exact Nat.le_trans h (Nat.le_of_eq (List.reverse_perm _).sum_nat)
theorem zNI {α:Type} {f g:α->Nat}:∀{l:List α},(∀x∈l,f x<=g x)->(l.map f).sum<=(l.map g).sum
 | [],_=>Nat.le_refl _
 | x::l,h=>by
  have h1:=h x List.mem_cons_self;have h2:=zNI (l:=l) fun y hy=>h y (List.mem_cons_of_mem _ hy);simp only[List.map_cons,List.sum_cons];omega
theorem zJF {α:Type} {f:α->Nat} (K:Nat):∀{l:List α},(l.map fun x=>K*f x).sum=K*(l.map f).sum
 | []=>by simp
 | x::l=>by
  have:=zJF (f:=f) K (l:=l);simp only[List.map_cons,List.sum_cons,this,Nat.mul_add]
theorem zTZ (g:Cr):(g.kids.map Cr.sz).sum+((g.binds.map fun b=>b.2.2.sz).sum+(g.alts.map fun a=>a.2.2.sz).sum)<=g.sz:=by
 induction g with
 | nil=>simp[Cr.kids,Cr.binds,Cr.alts]
 | node f n s t g ih=>simp only[Cr.kids,Cr.binds,Cr.alts,Cr.sz];omega
 | kid p r _ ih=>simp only[Cr.kids,Cr.binds,Cr.alts,Cr.sz,List.map_cons,List.sum_cons];omega
 | bind x t p r _ ih=>simp only[Cr.kids,Cr.binds,Cr.alts,Cr.sz,List.map_cons,List.sum_cons];omega
 | alt f n s vs p r _ ih=>simp only[Cr.kids,Cr.binds,Cr.alts,Cr.sz,List.map_cons,List.sum_cons];omega
structure Pg (c:Cr):Prop where
 n:c.isN=true
 ok:c.Ok
 pk:c.Pk
 wt:c.wt<=590
def Lg (c:Cr) (s:ByteArray):Prop:=s.size+40000<=100000*c.sz
def tHd (a:Alg):ByteArray:=if a.1.1=1 then jnS ⟨#[32]⟩ (a.1.2.2::a.2.1) else if a.1.1=2 then dci a.1.2.1 else ⟨#[95]⟩
def tBi (S:Cr->ByteArray) (b:Bdg):ByteArray:=(((b.1++⟨#[32,58,32]⟩)++P0 b.2.1)++⟨#[32,61,32]⟩)++S b.2.2
def tAl (S:Cr->ByteArray) (a:Alg):ByteArray:=(tHd a++⟨#[32,45,62,32]⟩)++S a.2.2
theorem zV1 (g:Cr):g.Pk->(∀p∈g.kids,p.Pk)/\(∀b∈g.binds,b.1∈W18/\good b.2.1/\b.2.2.Pk)/\∀a∈g.alts,(1<=a.1.1/\a.1.1<=3)/\(0<=a.1.2.1/\a.1.2.1<100)/\a.1.2.2∈W18/\(∀v∈a.2.1,v∈W18)/\a.2.2.Pk:=by
 induction g with
 | nil=>intro _;exact⟨fun _ h=>absurd h List.not_mem_nil,fun _ h=>absurd h List.not_mem_nil,fun _ h=>absurd h List.not_mem_nil⟩
 | node f n s t g ih=>exact fun h=>ih h.2.2.2.2
 | kid p r _ ih =>
  intro h;obtain⟨h1,h2,h3⟩:=ih h.2;refine⟨fun q hq=>?_,h2,h3⟩;rcases List.mem_cons.1 hq with rfl|hq
  ·exact h.1
  ·exact h1 q hq
 | bind x t p r _ ih =>
  intro h;obtain⟨h1,h2,h3⟩:=ih h.2.2.2;refine⟨h1,fun q hq=>?_,h3⟩;rcases List.mem_cons.1 hq with rfl|hq
  ·exact⟨h.1,h.2.1,h.2.2.1⟩
  ·exact h2 q hq
 | alt f n s vs p r _ ih =>
  intro h;obtain⟨h1,h2,h3⟩:=ih h.2.2.2.2.2;refine⟨h1,h2,fun q hq=>?_⟩;rcases List.mem_cons.1 hq with rfl|hq
  ·exact⟨h.1,h.2.1,h.2.2.1,h.2.2.2.1,h.2.2.2.2.1⟩
  ·exact h3 q hq
theorem zY1 (g:Cr):(∀p∈g.kids,p.wt<=g.wt)/\(∀b∈g.binds,b.2.1.sz+b.2.2.wt<=g.wt)/\∀a∈g.alts,a.2.1.length+a.2.2.wt<=g.wt:=by
 induction g with
 | nil=>exact⟨fun _ h=>absurd h List.not_mem_nil,fun _ h=>absurd h List.not_mem_nil,fun _ h=>absurd h List.not_mem_nil⟩
 | node f n s t g ih=>exact⟨fun p h=>by have:=ih.1 p h;simp only[Cr.wt];omega,fun p h=>by have:=ih.2.1 p h;simp only[Cr.wt];omega,fun p h=>by have:=ih.2.2 p h;simp only[Cr.wt];omega⟩
 | kid p r _ ih =>
  refine⟨fun q hq=>?_,fun q h=>by have:=ih.2.1 q h;simp only[Cr.wt];omega,fun q h=>by have:=ih.2.2 q h;simp only[Cr.wt];omega⟩;rcases List.mem_cons.1 hq with rfl|hq
  ·simp only[Cr.wt];omega
  ·have:=ih.1 q hq;simp only[Cr.wt];omega
 | bind x t p r _ ih =>
  refine⟨fun q h=>by have:=ih.1 q h;simp only[Cr.wt];omega,fun q hq=>?_,fun q h=>by have:=ih.2.2 q h;simp only[Cr.wt];omega⟩;rcases List.mem_cons.1 hq with rfl|hq
  ·simp only[Cr.wt];omega
  ·have:=ih.2.1 q hq;simp only[Cr.wt];omega
 | alt f n s vs p r _ ih =>
  refine⟨fun q h=>by have:=ih.1 q h;simp only[Cr.wt];omega,fun q h=>by have:=ih.2.1 q h;simp only[Cr.wt];omega,fun q hq=>?_⟩;rcases List.mem_cons.1 hq with rfl|hq
  ·simp only[Cr.wt];omega
  ·have:=ih.2.2 q hq;simp only[Cr.wt];omega
theorem z0R {f n:Int} {s:ByteArray} {t:Tp} {g:Cr} (h:Pg (.node f n s t g)):t.sz<=590/\(∀p∈g.kids,Pg p)/\(∀b∈g.binds,b.1∈W18/\good b.2.1/\b.2.1.sz<=590/\Pg b.2.2)/\∀a∈g.alts,(1<=a.1.1/\a.1.1<=3)/\(0<=a.1.2.1/\a.1.2.1<100)/\a.1.2.2∈W18/\(∀v∈a.2.1,v∈W18)/\a.2.1.length<=590/\Pg a.2.2:=by
 obtain⟨hgn,hgo⟩:=xQ h.ok;obtain⟨p1,p2,p3⟩:=zV1 _ h.pk;obtain⟨w1,w2,w3⟩:=zY1 g;have hw:=h.wt;simp only[Cr.wt] at hw;refine⟨by omega,fun p hp=>⟨(hgo.kid hp).1,(hgo.kid hp).2,p1 p hp,by have:=w1 p hp;omega⟩,fun b hb=>?_,fun a ha=>?_⟩
 ·have:=w2 b hb;obtain⟨q1,q2,q3⟩:=p2 b hb;exact⟨q1,q2,by omega,(hgo.bind hb).1,(hgo.bind hb).2,q3,by omega⟩
 ·have:=w3 a ha;obtain⟨q1,q2,q3,q4,q5⟩:=p3 a ha;exact⟨q1,q2,q3,q4,by omega,(hgo.alt ha).1,(hgo.alt ha).2.1,q5,by omega⟩
theorem jI {t:Tp} (h:good t) (hs:t.sz<=590):(P0 t).size+10<=29500:=by
 have h1:=zB9 zHF t.sz t 0 (Nat.le_refl _) (zG6 t h);show (pr zGS t 0).size+10<=29500;omega
theorem zZR {a:Alg} (h1:1<=a.1.1/\a.1.1<=3) (h2:0<=a.1.2.1/\a.1.2.1<100) (h3:a.1.2.2∈W18) (h4:∀v∈a.2.1,v∈W18) (h5:a.2.1.length<=590):(tHd a).size<=10000:=by
 unfold tHd;split
 ·have:=zD0 ⟨#[32]⟩ (a.1.2.2::a.2.1) (M:=5) fun x hx=>by
   rcases List.mem_cons.1 hx with rfl|hx
   ·exact (zES h3).2
   ·exact (zES (h4 x hx)).2
  rw[show (ByteArray.mk #[32]).size=1 from rfl,List.length_cons] at this;omega
 ·split
  ·have:(dci a.1.2.1).size<=7:=zSM (by omega) (by omega);omega
  ·rw[sz1];decide
theorem zMO {S:Cr->ByteArray} {b:Bdg} (h1:b.1∈W18) (h2:good b.2.1) (h3:b.2.1.sz<=590) (hS:Lg b.2.2 (S b.2.2)):(tBi S b).size+3<=100000*b.2.2.sz/\(((b.1++⟨#[32,58,32]⟩)++P0 b.2.1)++⟨#[32,61,32]⟩).size<=30000:=by
 have q1:(ByteArray.mk #[32,58,32]).size=3:=rfl;have q2:(ByteArray.mk #[32,61,32]).size=3:=rfl;have:=(zES h1).2;have:=jI h2 h3;unfold Lg at hS;unfold tBi;simp only[ByteArray.size_append,q1,q2];omega
theorem zM8 {S:Cr->ByteArray} {a:Alg} (h:(tHd a).size<=10000) (hS:Lg a.2.2 (S a.2.2)):(tAl S a).size+3<=100000*a.2.2.sz:=by
 have q1:(ByteArray.mk #[32,45,62,32]).size=4:=rfl;unfold Lg at hS;unfold tAl;simp only[ByteArray.size_append,q1];omega
theorem zPE (l:List ByteArray):(brc l).size<=4+(l.map fun x=>x.size+3).sum:=by
 have:=z0D semi l;unfold brc;split
 ·exact Nat.le_trans (show (3:Nat)<=4 by decide) (Nat.le_add_right _ _)
 ·rw[ByteArray.size_append,ByteArray.size_append,show (ByteArray.mk #[123,32]).size=2 from rfl,show (ByteArray.mk #[32,125]).size=2 from rfl];rw[show semi.size=3 from rfl] at this;omega
theorem zW6 {S:Cr->ByteArray} {l:List Bdg} (h:∀b∈l,(tBi S b).size+3<=100000*b.2.2.sz):(brc (l.map (tBi S))).size<=4+100000*(l.map fun b=>b.2.2.sz).sum:=by
 have h1:=zPE (l.map (tBi S));have h2:=zNI h;rw[zJF 100000 (f:=fun b:Bdg=>b.2.2.sz)] at h2;rw[List.map_map] at h1;exact Nat.le_trans h1 (Nat.add_le_add_left h2 4)
theorem zV5 {S:Cr->ByteArray} {l:List Alg} (h:∀b∈l,(tAl S b).size+3<=100000*b.2.2.sz):(brc (l.map (tAl S))).size<=4+100000*(l.map fun b=>b.2.2.sz).sum:=by
 have h1:=zPE (l.map (tAl S));have h2:=zNI h;rw[zJF 100000 (f:=fun b:Alg=>b.2.2.sz)] at h2;rw[List.map_map] at h1;exact Nat.le_trans h1 (Nat.add_le_add_left h2 4)
set_option maxHeartbeats 16000000
theorem zA6 {f n:Int} {s:ByteArray} {t:Tp} {g p:Cr} {r:List Cr} (h:g.kids=p::r):((Cr.node f n s t g).e3 0)[0]? = some (eC p):=by
 rw[zU2];show (eCs g.kids)[0]? = _;rw[h];rfl
theorem zTF {f n:Int} {s:ByteArray} {t:Tp} {g p q:Cr} {r:List Cr} (h:g.kids=p::q::r):((Cr.node f n s t g).e3 0)[1]? = some (eC q):=by
 rw[zU2];show (eCs g.kids)[1]? = _;rw[h];rfl
abbrev RpS (c:Cr) (s:ByteArray):Prop:=zF Tryz.prog 25 [eC c] (str s)
theorem zL2 {c:Cr} {s:ByteArray} (h1:1<=c.f/\c.f<=11) (hc:RpS c s) (hs:s.size<=100000000):zF Tryz.prog 76 [eC c] (str (zCW c s)):=by
 refine zD ttok mixed Tryz.func76 rfl (by rfl) (Nat.le_of_ble_eq_true rfl) (by kernel_rfl) ?_;refine .inl ⟨_,hc,?_⟩;refine⟨fun h=>?_,fun h=>?_⟩
 ·have h:4<c.f:=of_decide_eq_true h;refine .inl ⟨_,zDA (b := !decide (c.f=6)) (s:=s) (by omega),?_⟩;refine⟨by kernel_rfl,?_⟩;show AV.lit _=AV.lit _;unfold zCW;by_cases h6:c.f=6
  ·rw[if_pos (by rw[h6];decide),decide_eq_true h6];rfl
  ·rw[if_neg (by simp only[List.mem_cons,List.not_mem_nil,or_false];omega),decide_eq_false h6];rfl
 ·have h:¬4<c.f:=of_decide_eq_false h;refine .inl ⟨_,zDA (b:=false) (by omega),?_⟩;refine⟨by kernel_rfl,?_⟩;show AV.lit _=AV.lit _;unfold zCW;rw[if_pos (by simp only[List.mem_cons,List.not_mem_nil,or_false];omega)];rfl
theorem zE3 {c:Cr} {s:ByteArray} (h1:1<=c.f/\c.f<=11) (hc:RpS c s) (hs:s.size<=100000000):zF Tryz.prog 77 [eC c] (str (zB0 c s)):=by
 refine zD ttok mixed Tryz.func77 rfl (by rfl) (Nat.le_of_ble_eq_true rfl) (by kernel_rfl) ?_;refine .inl ⟨_,hc,?_⟩;refine .inl ⟨_,zDA (b:=decide (3<c.f)) (by omega),?_⟩;refine⟨by kernel_rfl,?_⟩;show AV.lit _=AV.lit _;unfold zB0;by_cases h:3<c.f
 ·rw[if_neg (by simp only[List.mem_cons,List.not_mem_nil,or_false];omega),decide_eq_true h];rfl
 ·rw[if_pos (by simp only[List.mem_cons,List.not_mem_nil,or_false];omega),decide_eq_false h];rfl
theorem zUV {a:Alg} (h1:1<=a.1.1/\a.1.1<=3) (h2:0<=a.1.2.1/\a.1.2.1<100) (h3:a.1.2.2∈W18) (h4:∀v∈a.2.1,v∈W18) (h5:a.2.1.length<=590):zF Tryz.prog 80 [eAl a] (str (tHd a)):=by
 refine zD ttok mixed Tryz.func80 rfl (by rfl) (Nat.le_of_ble_eq_true rfl) (by kernel_rfl) ?_;refine⟨fun h=>?_,fun h=>?_⟩
 ·have h:a.1.1=1:=of_decide_eq_true h;refine⟨by show 0+1<=_;decide,z05 1,qK rfl,?_⟩;refine⟨by show 1+(eSs a.2.1).length<=_;rw[zAZ];omega,qK rfl,xU _,?_⟩;refine .inl ⟨_,zL8 ⟨#[32]⟩ (a.1.2.2::a.2.1) (M:=5) (fun x hx=>?_) (by simp;omega) (by rw[sz1];decide),?_⟩
  ·rcases List.mem_cons.1 hx with rfl|hx
   ·exact (zES h3).2
   ·exact (zES (h4 x hx)).2
  ·unfold tHd;rw[if_pos h];exact rfl
 ·have h:¬a.1.1=1:=of_decide_eq_false h;refine⟨fun h'=>?_,fun h'=>?_⟩
  ·have h':a.1.1=2:=of_decide_eq_true h';refine .inl ⟨_,zYT (n:=a.1.2.1) (by omega) (by omega),?_⟩;unfold tHd;rw[if_neg h,if_pos h'];exact rfl
  ·have h':¬a.1.1=2:=of_decide_eq_false h';unfold tHd;rw[if_neg h,if_neg h'];exact rfl
theorem zJB {t:Tp} (hg:good t) (hs:t.sz<=590):zF Tryz.prog 78 [eTy t] (str (P0 t)):=zU1 900000 (by decide) t (by omega) hg
theorem psz {b c:ByteArray}:(b++c).size=b.size+c.size:=ByteArray.size_append
theorem b1:(ByteArray.mk #[32]).size=1:=rfl
theorem b92:(ByteArray.mk #[92]).size=1:=rfl
theorem b35:(ByteArray.mk #[35]).size=1:=rfl
theorem b93:(ByteArray.mk #[93]).size=1:=rfl
theorem bco:(ByteArray.mk #[32,58,32]).size=3:=rfl
theorem beq':(ByteArray.mk #[32,61,32]).size=3:=rfl
theorem bar':(ByteArray.mk #[32,45,62,32]).size=4:=rfl
theorem bbr:(ByteArray.mk #[32,91]).size=2:=rfl
theorem bLa:(ByteArray.mk #[47,92]).size=2:=rfl
theorem blet:(ByteArray.mk #[108,101,116,32]).size=4:=rfl
theorem bin':(ByteArray.mk #[32,105,110,32]).size=4:=rfl
theorem bcase:(ByteArray.mk #[99,97,115,101,32]).size=5:=rfl
theorem bof:(ByteArray.mk #[32,111,102,32]).size=4:=rfl
theorem bfail:(ByteArray.mk #[102,97,105,108,32,91]).size=6:=rfl
theorem rp1 {n:Int} {s:ByteArray} {t:Tp} {g:Cr} (ok:(Cr.node 1 n s t g).Ok)  : RpS (.node 1 n s t g) (s):=by
 refine zD ttok mixed Tryz.func25 rfl (by rfl) (Nat.le_of_ble_eq_true rfl) (by kernel_rfl) ?_;refine .inl ⟨_,wL rfl ok,?_⟩;refine⟨fun h=>(by cases h),fun _=>?_⟩;refine⟨fun h=>absurd h (by simp[Cr.f]),fun _=>?_⟩;refine⟨fun h=>absurd h (by simp[Cr.f]),fun _=>?_⟩;refine⟨fun h=>absurd h (by simp[Cr.f]),fun _=>?_⟩;refine⟨fun h=>absurd h (by simp[Cr.f]),fun _=>?_⟩;refine⟨fun h=>absurd h (by simp[Cr.f]),fun _=>?_⟩;refine⟨fun h=>absurd h (by simp[Cr.f]),fun _=>?_⟩;refine⟨fun h=>absurd h (by simp[Cr.f]),fun _=>?_⟩;refine⟨fun h=>absurd h (by simp[Cr.f]),fun _=>?_⟩;refine⟨fun h=>absurd h (by simp[Cr.f]),fun _=>?_⟩;exact rfl
theorem rp2 {n:Int} {s:ByteArray} {t:Tp} {g:Cr} (ok:(Cr.node 2 n s t g).Ok)  : RpS (.node 2 n s t g) (s):=by
 refine zD ttok mixed Tryz.func25 rfl (by rfl) (Nat.le_of_ble_eq_true rfl) (by kernel_rfl) ?_;refine .inl ⟨_,wL rfl ok,?_⟩;refine⟨fun h=>(by cases h),fun _=>?_⟩;refine⟨fun h=>absurd h (by simp[Cr.f]),fun _=>?_⟩;refine⟨fun h=>absurd h (by simp[Cr.f]),fun _=>?_⟩;refine⟨fun h=>absurd h (by simp[Cr.f]),fun _=>?_⟩;refine⟨fun h=>absurd h (by simp[Cr.f]),fun _=>?_⟩;refine⟨fun h=>absurd h (by simp[Cr.f]),fun _=>?_⟩;refine⟨fun h=>absurd h (by simp[Cr.f]),fun _=>?_⟩;refine⟨fun h=>absurd h (by simp[Cr.f]),fun _=>?_⟩;refine⟨fun h=>absurd h (by simp[Cr.f]),fun _=>?_⟩;refine⟨fun h=>absurd h (by simp[Cr.f]),fun _=>?_⟩;exact rfl
theorem rp3 {n:Int} {s:ByteArray} {t:Tp} {g:Cr} (ok:(Cr.node 3 n s t g).Ok) (hn : -3<=n/\n<100):RpS (.node 3 n s t g) (dci n):=by
 refine zD ttok mixed Tryz.func25 rfl (by rfl) (Nat.le_of_ble_eq_true rfl) (by kernel_rfl) ?_;refine .inl ⟨_,wL rfl ok,?_⟩;refine⟨fun h=>(by cases h),fun _=>?_⟩;refine⟨fun _=>?_,fun h=>absurd h (by simp[Cr.f])⟩;refine .inl ⟨_,zYT (n:=n) (by omega) (by omega),?_⟩;exact rfl
theorem rp4 {n:Int} {s:ByteArray} {t:Tp} {g:Cr} (ok:(Cr.node 4 n s t g).Ok) {p q:Cr} {a b:ByteArray} (hk:g.kids=[p,q]) (hpf:1<=p.f/\p.f<=11) (hqf:1<=q.f/\q.f<=11) (hp:RpS p a) (hq:RpS q b) (ha:a.size<=20000000) (hb:b.size<=20000000):RpS (.node 4 n s t g) (zCW p a++⟨#[32]⟩++zB0 q b):=by
 have s1:=yX p a;have s2:=xG q b;refine zD ttok mixed Tryz.func25 rfl (by rfl) (Nat.le_of_ble_eq_true rfl) (by kernel_rfl) ?_;refine .inl ⟨_,wL rfl ok,?_⟩;refine⟨fun h=>(by cases h),fun _=>?_⟩;refine⟨fun h=>absurd h (by simp[Cr.f]),fun _=>?_⟩;refine⟨fun _=>?_,fun h=>absurd h (by simp[Cr.f])⟩;refine⟨eC p,by omega,zA6 hk,rfl,?_⟩;refine .inl ⟨_,zL2 hpf hp (by omega),?_⟩;refine⟨by simp only[psz,b1,b92,b35,b93,bco,beq',bar',bbr,bLa,blet,bin',bcase,bof,bfail,Cr.s,Cr.t];omega,?_⟩;refine⟨eC q,by omega,zTF hk,rfl,?_⟩;refine .inl ⟨_,zE3 hqf hq (by omega),?_⟩;refine⟨by simp only[psz,b1,b92,b35,b93,bco,beq',bar',bbr,bLa,blet,bin',bcase,bof,bfail,Cr.s,Cr.t];omega,?_⟩;refine⟨by kernel_rfl,?_⟩;exact rfl
theorem rp5 {n:Int} {s:ByteArray} {t:Tp} {g:Cr} (ok:(Cr.node 5 n s t g).Ok) {p:Cr} {a:ByteArray} (hk:g.kids=[p]) (hp:RpS p a) (ha:a.size<=20000000) (hs:s.size<=5) (hg:good t) (ht:t.sz<=590):RpS (.node 5 n s t g) (((((⟨#[92]⟩++s)++⟨#[32,58,32]⟩)++P0 t)++⟨#[32,45,62,32]⟩)++a):=by
 have s3:=jI hg ht;refine zD ttok mixed Tryz.func25 rfl (by rfl) (Nat.le_of_ble_eq_true rfl) (by kernel_rfl) ?_;refine .inl ⟨_,wL rfl ok,?_⟩;refine⟨fun h=>(by cases h),fun _=>?_⟩;refine⟨fun h=>absurd h (by simp[Cr.f]),fun _=>?_⟩;refine⟨fun h=>absurd h (by simp[Cr.f]),fun _=>?_⟩;refine⟨fun _=>?_,fun h=>absurd h (by simp[Cr.f])⟩;refine⟨by simp only[psz,b1,b92,b35,b93,bco,beq',bar',bbr,bLa,blet,bin',bcase,bof,bfail,Cr.s,Cr.t];omega,?_⟩;refine⟨by simp only[psz,b1,b92,b35,b93,bco,beq',bar',bbr,bLa,blet,bin',bcase,bof,bfail,Cr.s,Cr.t];omega,?_⟩;refine .inl ⟨_,zJB hg ht,?_⟩;refine⟨by simp only[psz,b1,b92,b35,b93,bco,beq',bar',bbr,bLa,blet,bin',bcase,bof,bfail,Cr.s,Cr.t];omega,?_⟩;refine⟨by simp only[psz,b1,b92,b35,b93,bco,beq',bar',bbr,bLa,blet,bin',bcase,bof,bfail,Cr.s,Cr.t];omega,?_⟩;refine⟨eC p,by omega,zA6 hk,rfl,?_⟩;refine .inl ⟨_,hp,?_⟩;refine⟨by simp only[psz,b1,b92,b35,b93,bco,beq',bar',bbr,bLa,blet,bin',bcase,bof,bfail,Cr.s,Cr.t];omega,?_⟩;refine⟨by kernel_rfl,?_⟩;exact rfl
theorem rp6 {n:Int} {s:ByteArray} {t:Tp} {g:Cr} (ok:(Cr.node 6 n s t g).Ok) {p:Cr} {a:ByteArray} (hk:g.kids=[p]) (hp:RpS p a) (ha:a.size<=20000000) (hs:s.size<=5) (hpf:1<=p.f/\p.f<=11) (hg:good t) (ht:t.sz<=590):RpS (.node 6 n s t g) (((zCW p a++⟨#[32,91]⟩)++P0 t)++⟨#[93]⟩):=by
 have s3:=jI hg ht;have s1:=yX p a;refine zD ttok mixed Tryz.func25 rfl (by rfl) (Nat.le_of_ble_eq_true rfl) (by kernel_rfl) ?_;refine .inl ⟨_,wL rfl ok,?_⟩;refine⟨fun h=>(by cases h),fun _=>?_⟩;refine⟨fun h=>absurd h (by simp[Cr.f]),fun _=>?_⟩;refine⟨fun h=>absurd h (by simp[Cr.f]),fun _=>?_⟩;refine⟨fun h=>absurd h (by simp[Cr.f]),fun _=>?_⟩;refine⟨fun _=>?_,fun h=>absurd h (by simp[Cr.f])⟩;refine⟨eC p,by omega,zA6 hk,rfl,?_⟩;refine .inl ⟨_,zL2 hpf hp (by omega),?_⟩;refine⟨by simp only[psz,b1,b92,b35,b93,bco,beq',bar',bbr,bLa,blet,bin',bcase,bof,bfail,Cr.s,Cr.t];omega,?_⟩;refine .inl ⟨_,zJB hg ht,?_⟩;refine⟨by simp only[psz,b1,b92,b35,b93,bco,beq',bar',bbr,bLa,blet,bin',bcase,bof,bfail,Cr.s,Cr.t];omega,?_⟩;refine⟨by simp only[psz,b1,b92,b35,b93,bco,beq',bar',bbr,bLa,blet,bin',bcase,bof,bfail,Cr.s,Cr.t];omega,?_⟩;refine⟨by kernel_rfl,?_⟩;exact rfl
theorem rp7 {n:Int} {s:ByteArray} {t:Tp} {g:Cr} (ok:(Cr.node 7 n s t g).Ok) {p:Cr} {a:ByteArray} (hk:g.kids=[p]) (hp:RpS p a) (ha:a.size<=20000000) (hs:s.size<=5):RpS (.node 7 n s t g) (((⟨#[47,92]⟩++s)++⟨#[32,45,62,32]⟩)++a):=by
 refine zD ttok mixed Tryz.func25 rfl (by rfl) (Nat.le_of_ble_eq_true rfl) (by kernel_rfl) ?_;refine .inl ⟨_,wL rfl ok,?_⟩;refine⟨fun h=>(by cases h),fun _=>?_⟩;refine⟨fun h=>absurd h (by simp[Cr.f]),fun _=>?_⟩;refine⟨fun h=>absurd h (by simp[Cr.f]),fun _=>?_⟩;refine⟨fun h=>absurd h (by simp[Cr.f]),fun _=>?_⟩;refine⟨fun h=>absurd h (by simp[Cr.f]),fun _=>?_⟩;refine⟨fun _=>?_,fun h=>absurd h (by simp[Cr.f])⟩;refine⟨by simp only[psz,b1,b92,b35,b93,bco,beq',bar',bbr,bLa,blet,bin',bcase,bof,bfail,Cr.s,Cr.t];omega,?_⟩;refine⟨by simp only[psz,b1,b92,b35,b93,bco,beq',bar',bbr,bLa,blet,bin',bcase,bof,bfail,Cr.s,Cr.t];omega,?_⟩;refine⟨eC p,by omega,zA6 hk,rfl,?_⟩;refine .inl ⟨_,hp,?_⟩;refine⟨by simp only[psz,b1,b92,b35,b93,bco,beq',bar',bbr,bLa,blet,bin',bcase,bof,bfail,Cr.s,Cr.t];omega,?_⟩;refine⟨by kernel_rfl,?_⟩;exact rfl
theorem z5Y {n:Int} {s:ByteArray} {t:Tp} {g:Cr} (ok:(Cr.node 10 n s t g).Ok) {p q:Cr} {a b:ByteArray} (hk:g.kids=[p,q]) (hpf:1<=p.f/\p.f<=11) (hqf:1<=q.f/\q.f<=11) (hp:RpS p a) (hq:RpS q b) (ha:a.size<=20000000) (hb:b.size<=20000000) (hs:s.size<=5):RpS (.node 10 n s t g) ((((⟨#[35]⟩++s)++⟨#[32]⟩)++zB0 p a)++⟨#[32]⟩++zB0 q b):=by
 have s1:=xG p a;have s2:=xG q b;refine zD ttok mixed Tryz.func25 rfl (by rfl) (Nat.le_of_ble_eq_true rfl) (by kernel_rfl) ?_;refine .inl ⟨_,wL rfl ok,?_⟩;refine⟨fun h=>(by cases h),fun _=>?_⟩;refine⟨fun h=>absurd h (by simp[Cr.f]),fun _=>?_⟩;refine⟨fun h=>absurd h (by simp[Cr.f]),fun _=>?_⟩;refine⟨fun h=>absurd h (by simp[Cr.f]),fun _=>?_⟩;refine⟨fun h=>absurd h (by simp[Cr.f]),fun _=>?_⟩;refine⟨fun h=>absurd h (by simp[Cr.f]),fun _=>?_⟩;refine⟨fun h=>absurd h (by simp[Cr.f]),fun _=>?_⟩;refine⟨fun h=>absurd h (by simp[Cr.f]),fun _=>?_⟩;refine⟨fun _=>?_,fun h=>absurd h (by simp[Cr.f])⟩;refine⟨by simp only[psz,b1,b92,b35,b93,bco,beq',bar',bbr,bLa,blet,bin',bcase,bof,bfail,Cr.s,Cr.t];omega,?_⟩;refine⟨by simp only[psz,b1,b92,b35,b93,bco,beq',bar',bbr,bLa,blet,bin',bcase,bof,bfail,Cr.s,Cr.t];omega,?_⟩;refine⟨eC p,by omega,zA6 hk,rfl,?_⟩;refine .inl ⟨_,zE3 hpf hp (by omega),?_⟩;refine⟨by simp only[psz,b1,b92,b35,b93,bco,beq',bar',bbr,bLa,blet,bin',bcase,bof,bfail,Cr.s,Cr.t];omega,?_⟩;refine⟨by simp only[psz,b1,b92,b35,b93,bco,beq',bar',bbr,bLa,blet,bin',bcase,bof,bfail,Cr.s,Cr.t];omega,?_⟩;refine⟨eC q,by omega,zTF hk,rfl,?_⟩;refine .inl ⟨_,zE3 hqf hq (by omega),?_⟩;refine⟨by simp only[psz,b1,b92,b35,b93,bco,beq',bar',bbr,bLa,blet,bin',bcase,bof,bfail,Cr.s,Cr.t];omega,?_⟩;refine⟨by kernel_rfl,?_⟩;exact rfl
theorem z5U {n:Int} {s:ByteArray} {t:Tp} {g:Cr} (ok:(Cr.node 11 n s t g).Ok) (hg:good t) (ht:t.sz<=590):RpS (.node 11 n s t g) ((⟨#[102,97,105,108,32,91]⟩++P0 t)++⟨#[93]⟩):=by
 have s3:=jI hg ht;refine zD ttok mixed Tryz.func25 rfl (by rfl) (Nat.le_of_ble_eq_true rfl) (by kernel_rfl) ?_;refine .inl ⟨_,wL rfl ok,?_⟩;refine⟨fun h=>(by cases h),fun _=>?_⟩;refine⟨fun h=>absurd h (by simp[Cr.f]),fun _=>?_⟩;refine⟨fun h=>absurd h (by simp[Cr.f]),fun _=>?_⟩;refine⟨fun h=>absurd h (by simp[Cr.f]),fun _=>?_⟩;refine⟨fun h=>absurd h (by simp[Cr.f]),fun _=>?_⟩;refine⟨fun h=>absurd h (by simp[Cr.f]),fun _=>?_⟩;refine⟨fun h=>absurd h (by simp[Cr.f]),fun _=>?_⟩;refine⟨fun h=>absurd h (by simp[Cr.f]),fun _=>?_⟩;refine⟨fun h=>absurd h (by simp[Cr.f]),fun _=>?_⟩;refine⟨fun _=>?_,fun h=>absurd h (by simp[Cr.f])⟩;refine .inl ⟨_,zJB hg ht,?_⟩;refine⟨by simp only[psz,b1,b92,b35,b93,bco,beq',bar',bbr,bLa,blet,bin',bcase,bof,bfail,Cr.s,Cr.t];omega,?_⟩;refine⟨by simp only[psz,b1,b92,b35,b93,bco,beq',bar',bbr,bLa,blet,bin',bcase,bof,bfail,Cr.s,Cr.t];omega,?_⟩;exact rfl
theorem zDZ {α β:Type} (F:α->β) {l:List α} {k:Nat} (h:k<l.length):(l.take (k+1)).map F=(l.take k).map F++[F l[k]]:=by
 rw[List.take_succ_eq_append_getElem h,List.map_append];rfl
theorem zCE (l r:List ByteArray):eSs (l++r)=eSs l++eSs r:=by simp[eSs]
structure BiOk (Q:Cr->ByteArray->Prop) (S:Cr->ByteArray) (b:Bdg):Prop where
 w:b.1∈W18
 g:good b.2.1
 z:b.2.1.sz<=590
 q:Q b.2.2 (S b.2.2)
 lg:Lg b.2.2 (S b.2.2)
 sm:b.2.2.sz<=200
structure AlOk (Q:Cr->ByteArray->Prop) (S:Cr->ByteArray) (a:Alg):Prop where
 f:1<=a.1.1/\a.1.1<=3
 n:0<=a.1.2.1/\a.1.2.1<100
 s:a.1.2.2∈W18
 v:∀v∈a.2.1,v∈W18
 vl:a.2.1.length<=590
 q:Q a.2.2 (S a.2.2)
 lg:Lg a.2.2 (S a.2.2)
 sm:a.2.2.sz<=200
theorem BiOk.size {Q:Cr->ByteArray->Prop} {S:Cr->ByteArray} {b:Bdg} (h:BiOk Q S b):(tBi S b).size<=20000000/\(S b.2.2).size<=20000000/\b.1.size<=5/\(P0 b.2.1).size<=29490:=by
 have h1:=(zMO h.w h.g h.z h.lg).1;have h2:=h.lg;have h3:=h.sm;have h4:=jI h.g h.z;unfold Lg at h2;exact⟨by omega,by omega,(zES h.w).2,by omega⟩
theorem AlOk.size {Q:Cr->ByteArray->Prop} {S:Cr->ByteArray} {a:Alg} (h:AlOk Q S a):(tAl S a).size<=20000000/\(S a.2.2).size<=20000000/\(tHd a).size<=10000:=by
 have h0:=zZR h.f h.n h.s h.v h.vl;have h1:=zM8 h0 h.lg;have h2:=h.lg;have h3:=h.sm;unfold Lg at h2;exact⟨by omega,by omega,h0⟩
theorem zS7 {Q:Cr->ByteArray->Prop} {S:Cr->ByteArray} {l:List Bdg} (h:∀b∈l,BiOk Q S b) (hz:(l.map fun b=>b.2.2.sz).sum<=200):(brc (l.map (tBi S))).size<=20000004/\∀x∈l.map (tBi S),x.size<=20000000:=by
 refine⟨Nat.le_trans (zW6 fun b hb=>(zMO (h b hb).w (h b hb).g (h b hb).z (h b hb).lg).1) (by omega),fun x hx=>?_⟩;obtain⟨b,hb,rfl⟩:=List.mem_map.1 hx;exact (h b hb).size.1
theorem zS4 {Q:Cr->ByteArray->Prop} {S:Cr->ByteArray} {l:List Alg} (h:∀b∈l,AlOk Q S b) (hz:(l.map fun b=>b.2.2.sz).sum<=200):(brc (l.map (tAl S))).size<=20000004/\∀x∈l.map (tAl S),x.size<=20000000:=by
 refine⟨Nat.le_trans (zV5 fun b hb=>zM8 (h b hb).size.2.2 (h b hb).lg) (by omega),fun x hx=>?_⟩;obtain⟨b,hb,rfl⟩:=List.mem_map.1 hx;exact (h b hb).size.1
theorem rp8 {n:Int} {s:ByteArray} {t:Tp} {g:Cr} (ok:(Cr.node 8 n s t g).Ok) {S:Cr->ByteArray} {p:Cr} {a:ByteArray} (hk:g.kids=[p]) (hp:RpS p a) (ha:a.size<=20000000) (hB:∀b∈g.binds,BiOk RpS S b) (hz:(g.binds.map fun b=>b.2.2.sz).sum<=200) (hl:g.binds.length<=590):RpS (.node 8 n s t g) (((⟨#[108,101,116,32]⟩++brc (g.binds.map (tBi S)))++⟨#[32,105,110,32]⟩)++a):=by
 obtain⟨z1,z2⟩:=zS7 hB hz;refine zD ttok mixed Tryz.func25 rfl (by rfl) (Nat.le_of_ble_eq_true rfl) (by kernel_rfl) ?_;refine .inl ⟨_,wL rfl ok,?_⟩;refine⟨fun h=>(by cases h),fun _=>?_⟩;refine⟨fun h=>absurd h (by simp[Cr.f]),fun _=>?_⟩;refine⟨fun h=>absurd h (by simp[Cr.f]),fun _=>?_⟩;refine⟨fun h=>absurd h (by simp[Cr.f]),fun _=>?_⟩;refine⟨fun h=>absurd h (by simp[Cr.f]),fun _=>?_⟩;refine⟨fun h=>absurd h (by simp[Cr.f]),fun _=>?_⟩;refine⟨fun _=>?_,fun h=>absurd h (by simp[Cr.f])⟩;refine⟨{k:Nat // k<=g.binds.length},fun k=>{vs:=[(1,.box 0 (eC (.node 8 n s t g))),(3,.v (.sl (eSs ((g.binds.take k.1).map (tBi S))))),(4,sv (k.1:Nat))],ow:=[(3,0,2)]},
  fun k=>g.binds.length-k.1,⟨0,Nat.zero_le _⟩,⟨⟨rfl,rfl,rfl,trivial⟩,⟨trivial,trivial⟩,rfl⟩,?_⟩
 rintro⟨k,hk2⟩;refine⟨fun h=>?_,fun h=>?_⟩
 ·have h:k<g.binds.length:=by have h:=of_decide_eq_true h;rw[zVA] at h;simp only[Cr.binds] at h;omega
  have hb:=hB _ (List.getElem_mem h);have hgl:=zS9 (c := .node 8 n s t g) h;have e:(Cr.node 8 n s t g).binds[k]=g.binds[k]:=rfl;rw[e] at hgl;have hup:=zDZ (tBi S) h;generalize g.binds[k]=b at hb hgl hup;obtain⟨s1,s2,s3,s4⟩:=hb.size;refine⟨_,by omega,hgl,rfl,?_⟩;refine⟨by simp only[psz,b1,b92,b35,b93,bco,beq',bar',bbr,bLa,blet,bin',bcase,bof,bfail,Cr.s,Cr.t];omega,?_⟩;refine .inl ⟨_,zJB hb.g hb.z,?_⟩;refine⟨by simp only[psz,b1,b92,b35,b93,bco,beq',bar',bbr,bLa,blet,bin',bcase,bof,bfail,Cr.s,Cr.t];omega,?_⟩;refine⟨by simp only[psz,b1,b92,b35,b93,bco,beq',bar',bbr,bLa,blet,bin',bcase,bof,bfail,Cr.s,Cr.t];omega,?_⟩;refine .inl ⟨_,hb.q,?_⟩;refine⟨by simp only[psz,b1,b92,b35,b93,bco,beq',bar',bbr,bLa,blet,bin',bcase,bof,bfail,Cr.s,Cr.t];omega,?_⟩;refine⟨by show (eSs ((g.binds.take k).map (tBi S))).length+1<=_;rw[zAZ,List.length_map,List.length_take];omega,xU _,qK rfl,?_⟩;refine⟨by kernel_rfl,?_⟩;refine⟨⟨k+1,h⟩,by simp;omega,⟨rfl,?_,svc (wrap_succ (k:=k) (by omega)),trivial⟩,⟨rfl,trivial⟩,rfl⟩;rw[hup,zCE];exact rfl
 ·have h:k=g.binds.length:=by have h:=of_decide_eq_false h;rw[zVA] at h;simp only[Cr.binds] at h;omega
  subst h;rw[List.take_length];refine .inl ⟨_,zLY _ z2 (by rw[List.length_map];omega) (by omega),?_⟩;refine⟨by simp only[psz,b1,b92,b35,b93,bco,beq',bar',bbr,bLa,blet,bin',bcase,bof,bfail,Cr.s,Cr.t];omega,?_⟩;refine⟨by simp only[psz,b1,b92,b35,b93,bco,beq',bar',bbr,bLa,blet,bin',bcase,bof,bfail,Cr.s,Cr.t];omega,?_⟩;refine⟨eC p,by omega,zA6 hk,rfl,?_⟩;refine .inl ⟨_,hp,?_⟩;refine⟨by simp only[psz,b1,b92,b35,b93,bco,beq',bar',bbr,bLa,blet,bin',bcase,bof,bfail,Cr.s,Cr.t];omega,?_⟩;refine⟨by kernel_rfl,?_⟩;exact rfl
theorem rp9 {n:Int} {s:ByteArray} {t:Tp} {g:Cr} (ok:(Cr.node 9 n s t g).Ok) {S:Cr->ByteArray} {p:Cr} {a:ByteArray} (hk:g.kids=[p]) (hp:RpS p a) (ha:a.size<=20000000) (hg:good t) (ht:t.sz<=590) (hA:∀b∈g.alts,AlOk RpS S b) (hz:(g.alts.map fun b=>b.2.2.sz).sum<=200) (hl:g.alts.length<=590):RpS (.node 9 n s t g) (((((⟨#[99,97,115,101,32]⟩++a)++⟨#[32,58,32]⟩)++P0 t)++⟨#[32,111,102,32]⟩)++brc (g.alts.map (tAl S))):=by
 obtain⟨z1,z2⟩:=zS4 hA hz;have s3:=jI hg ht;refine zD ttok mixed Tryz.func25 rfl (by rfl) (Nat.le_of_ble_eq_true rfl) (by kernel_rfl) ?_;refine .inl ⟨_,wL rfl ok,?_⟩;refine⟨fun h=>(by cases h),fun _=>?_⟩;refine⟨fun h=>absurd h (by simp[Cr.f]),fun _=>?_⟩;refine⟨fun h=>absurd h (by simp[Cr.f]),fun _=>?_⟩;refine⟨fun h=>absurd h (by simp[Cr.f]),fun _=>?_⟩;refine⟨fun h=>absurd h (by simp[Cr.f]),fun _=>?_⟩;refine⟨fun h=>absurd h (by simp[Cr.f]),fun _=>?_⟩;refine⟨fun h=>absurd h (by simp[Cr.f]),fun _=>?_⟩;refine⟨fun _=>?_,fun h=>absurd h (by simp[Cr.f])⟩;refine⟨{k:Nat // k<=g.alts.length},fun k=>{vs:=[(1,.box 0 (eC (.node 9 n s t g))),(6,.v (.sl (eSs ((g.alts.take k.1).map (tAl S))))),(7,sv (k.1:Nat))],ow:=[(6,0,2)]},
  fun k=>g.alts.length-k.1,⟨0,Nat.zero_le _⟩,⟨⟨rfl,rfl,rfl,trivial⟩,⟨trivial,trivial⟩,rfl⟩,?_⟩
 rintro⟨k,hk2⟩;refine⟨fun h=>?_,fun h=>?_⟩
 ·have h:k<g.alts.length:=by have h:=of_decide_eq_true h;rw[zYL] at h;simp only[Cr.alts] at h;omega
  have hb:=hA _ (List.getElem_mem h);have hgl:=zS1 (c := .node 9 n s t g) h;have e:(Cr.node 9 n s t g).alts[k]=g.alts[k]:=rfl;rw[e] at hgl;have hup:=zDZ (tAl S) h;generalize g.alts[k]=b at hb hgl hup;obtain⟨s1,s2,s4⟩:=hb.size;refine⟨_,by omega,hgl,rfl,?_⟩;refine .inl ⟨_,zUV hb.f hb.n hb.s hb.v hb.vl,?_⟩;refine⟨by simp only[psz,b1,b92,b35,b93,bco,beq',bar',bbr,bLa,blet,bin',bcase,bof,bfail,Cr.s,Cr.t];omega,?_⟩;refine⟨_,by omega,hgl,rfl,?_⟩;refine .inl ⟨_,hb.q,?_⟩;refine⟨by simp only[psz,b1,b92,b35,b93,bco,beq',bar',bbr,bLa,blet,bin',bcase,bof,bfail,Cr.s,Cr.t];omega,?_⟩;refine⟨by show (eSs ((g.alts.take k).map (tAl S))).length+1<=_;rw[zAZ,List.length_map,List.length_take];omega,xU _,qK rfl,?_⟩;refine⟨by kernel_rfl,?_⟩;refine⟨⟨k+1,h⟩,by simp;omega,⟨rfl,?_,svc (wrap_succ (k:=k) (by omega)),trivial⟩,⟨rfl,trivial⟩,rfl⟩;rw[hup,zCE];exact rfl
 ·have h:k=g.alts.length:=by have h:=of_decide_eq_false h;rw[zYL] at h;simp only[Cr.alts] at h;omega
  subst h;rw[List.take_length];refine⟨eC p,by omega,zA6 hk,rfl,?_⟩;refine .inl ⟨_,hp,?_⟩;refine⟨by simp only[psz,b1,b92,b35,b93,bco,beq',bar',bbr,bLa,blet,bin',bcase,bof,bfail,Cr.s,Cr.t];omega,?_⟩;refine⟨by simp only[psz,b1,b92,b35,b93,bco,beq',bar',bbr,bLa,blet,bin',bcase,bof,bfail,Cr.s,Cr.t];omega,?_⟩;refine .inl ⟨_,zJB hg ht,?_⟩;refine⟨by simp only[psz,b1,b92,b35,b93,bco,beq',bar',bbr,bLa,blet,bin',bcase,bof,bfail,Cr.s,Cr.t];omega,?_⟩;refine⟨by simp only[psz,b1,b92,b35,b93,bco,beq',bar',bbr,bLa,blet,bin',bcase,bof,bfail,Cr.s,Cr.t];omega,?_⟩;refine .inl ⟨_,zLY _ z2 (by rw[List.length_map];omega) (by omega),?_⟩;refine⟨by simp only[psz,b1,b92,b35,b93,bco,beq',bar',bbr,bLa,blet,bin',bcase,bof,bfail,Cr.s,Cr.t];omega,?_⟩;refine⟨by kernel_rfl,?_⟩;exact rfl
end Go.Proofs.YtgonkhaebmfgiaaGreatDoor
