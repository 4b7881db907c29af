/- The makers of core: constructors, numbers, lambdas, what is given others. No condition but on what own asks. -/
import Derived.Test.YtgonkhaebmfgiaaGreatDoorM
set_option linter.unusedSimpArgs false
set_option linter.unusedVariables false
namespace Go.Proofs.YtgonkhaebmfgiaaGreatDoor
open Go Fp
set_option maxRecDepth 10000
set_option maxHeartbeats 8000000
set_option linter.unusedVariables false
abbrev zT0 (n:Int):Cr := .node 3 n .empty .no .nil
abbrev zJX (s:ByteArray) (t:Tp) (c:Cr):Cr := .node 5 0 s t (.kid c .nil)
abbrev zAY (a b:Cr):Cr := .node 4 0 .empty .no (.kid a (.kid b .nil))
theorem zXZ (n:Int):zF Tryz.prog zQ1 [.lit (.int .i64 n)] (eC (zT0 n)):=by
 refine zD ttok mixed Tryz.func29 rfl (by rfl) (Nat.le_of_ble_eq_true rfl) (by kernel_rfl) ?_;exact rfl
def zR8 (c:Cr):Prop:=zF Tryz.prog xI [eC c] (eC c)
theorem Sm.own {c:Cr} (h:Sm c):zR8 c:=zJO h.gd (by have:=h.sz;omega)
theorem zY5 {s:ByteArray} {t:Tp} {c:Cr} (ht:TyS t) (hc:zR8 c):zF Tryz.prog zP5 [str s,eTy t,eC c] (eC (zJX s t c)):=by
 refine zD ttok mixed Tryz.func30 rfl (by rfl) (Nat.le_of_ble_eq_true rfl) (by kernel_rfl) ?_;refine .inl ⟨_,zP7 ht,?_⟩;refine .inl ⟨_,hc,?_⟩;refine⟨by kernel_rfl,?_⟩;exact rfl
theorem zPF {f:Cr} {l:List Cr} (hf:zR8 f) (hl:∀c∈l,zR8 c) (hlen:l.length<=1000000):zF Tryz.prog zRH [eC f,.sl (eCs l)] (eC (l.foldl zAY f)):=by
 refine zD ttok mixed Tryz.func32 rfl (by rfl) (Nat.le_of_ble_eq_true rfl) (by kernel_rfl) ?_;refine .inl ⟨_,hf,?_⟩;refine⟨{k:Nat // k<=l.length},fun k=>{vs:=[(4,.box 0 eZ),(5,.box 0 (eC ((l.take k.1).foldl zAY f))),(10,.v (.sl (eCs l))),(11,sv (l.length:Nat)),(12,sv (k.1:Nat))]},fun k=>l.length-k.1,⟨0,Nat.zero_le _⟩,?_,?_⟩
 ·exact⟨⟨rfl,rfl,rfl,by show sv _=sv _;simp[eCs],rfl,trivial⟩,trivial,rfl⟩
 rintro⟨k,hk⟩;refine⟨fun h=>?_,fun h=>?_⟩
 ·have h:k<l.length:=by
   have h:=of_decide_eq_true h;simp only at h;omega
  refine⟨eC l[k],by omega,(by show (eCs l)[k]? = _;simp[eCs,List.getElem?_eq_getElem h]),rfl,?_⟩;refine .inl ⟨_,hl _ (List.getElem_mem h),?_⟩;refine⟨by kernel_rfl,?_⟩;refine⟨⟨k+1,h⟩,by simp;omega,⟨rfl,?_,rfl,rfl,svc (wrap_succ (k:=k) (by omega)),trivial⟩,trivial,rfl⟩;show SV.box 0 (eC (zAY ((l.take k).foldl zAY f) l[k]))=SV.box 0 (eC ((l.take (k+1)).foldl zAY f));rw[<-List.take_append_getElem h,List.foldl_append];rfl
 ·have h:k=l.length:=by
   have h:=of_decide_eq_false h;simp only at h;omega
  subst h;show eC (List.foldl zAY f (List.take l.length l))=_;rw[List.take_length]
theorem zU9:zF Tryz.prog zEN [eTy .no,.lit (.int .i64 0)] (str .empty):=by
 refine zD ttok mixed Tryz.func112 rfl (by rfl) (Nat.le_of_ble_eq_true rfl) (by kernel_rfl) ?_;refine .inl ⟨_,zAO .no,?_⟩;refine⟨fun h=>absurd h (by decide),fun _=>?_⟩;refine⟨fun h=>absurd h (by decide),fun _=>?_⟩;refine⟨fun h=>absurd h (by decide),fun _=>?_⟩;refine⟨fun h=>absurd h (by decide),fun _=>?_⟩;refine⟨fun h=>absurd h (by decide),fun _=>?_⟩;exact rfl
theorem zDU:zF Tryz.prog jL [eTy .no] (str .empty):=by
 refine zD ttok mixed Tryz.func67 rfl (by rfl) (Nat.le_of_ble_eq_true rfl) (by kernel_rfl) ?_;refine .inl ⟨_,zU9,?_⟩;exact rfl
def zGT (c:Cr) (s:ByteArray):Prop:=zF Tryz.prog zMK [eC c] (str s)
theorem z1V {n:Int} {s:ByteArray} (h:zF Tryz.prog yT [.lit (.int .i64 n)] (str s)):zGT (zT0 n) s:=by
 refine zD ttok mixed Tryz.func24 rfl (by rfl) (Nat.le_of_ble_eq_true rfl) (by kernel_rfl) ?_;refine .inl ⟨_,zDU,?_⟩;refine⟨fun _=>?_,fun h=>absurd h (by simp[Cr.f])⟩;refine .inl ⟨_,h,?_⟩;exact rfl
theorem zSH {f:Int} {s:ByteArray} (hf:f=1∨f=2):zGT (.node f 0 s .no .nil) s:=by
 refine zD ttok mixed Tryz.func24 rfl (by rfl) (Nat.le_of_ble_eq_true rfl) (by kernel_rfl) ?_;refine .inl ⟨_,zDU,?_⟩;rcases hf with rfl|rfl
 ·refine⟨fun h=>absurd h (by simp[Cr.f]),fun _=>?_⟩;refine⟨fun h=>absurd h (by simp[Cr.f]),fun _=>?_⟩;refine⟨fun h=>absurd h (by simp[Cr.f]),fun _=>?_⟩;refine⟨fun h=>absurd h (by simp[Cr.f]),fun _=>?_⟩;refine⟨fun h=>absurd h (by simp[Cr.f]),fun _=>?_⟩;refine⟨fun h=>absurd h (by simp[Cr.f]),fun _=>?_⟩;refine⟨fun h=>absurd h (by simp[Cr.f]),fun _=>?_⟩;refine⟨fun h=>absurd h (by simp[Cr.f]),fun _=>?_⟩;refine⟨fun h=>absurd h (by simp[Cr.f]),fun _=>?_⟩;exact rfl
 ·refine⟨fun h=>absurd h (by simp[Cr.f]),fun _=>?_⟩;refine⟨fun h=>absurd h (by simp[Cr.f]),fun _=>?_⟩;refine⟨fun h=>absurd h (by simp[Cr.f]),fun _=>?_⟩;refine⟨fun h=>absurd h (by simp[Cr.f]),fun _=>?_⟩;refine⟨fun h=>absurd h (by simp[Cr.f]),fun _=>?_⟩;refine⟨fun h=>absurd h (by simp[Cr.f]),fun _=>?_⟩;refine⟨fun h=>absurd h (by simp[Cr.f]),fun _=>?_⟩;refine⟨fun h=>absurd h (by simp[Cr.f]),fun _=>?_⟩;refine⟨fun h=>absurd h (by simp[Cr.f]),fun _=>?_⟩;exact rfl
theorem z3P {s u p:ByteArray} {t:Tp} {c:Cr} (ht:zF Tryz.prog jL [eTy t] (str u)) (hc:zGT c p) (hs:s.size+u.size+p.size<=100000000):zGT (zJX s t c) (⟨#[92]⟩++s++⟨#[32,58,32]⟩++u++⟨#[32,45,62,32]⟩++p):=by
 refine zD ttok mixed Tryz.func24 rfl (by rfl) (Nat.le_of_ble_eq_true rfl) (by kernel_rfl) ?_;refine .inl ⟨_,ht,?_⟩;refine⟨fun h=>absurd h (by simp[Cr.f]),fun _=>?_⟩;refine⟨fun h=>absurd h (by simp[Cr.f]),fun _=>?_⟩;refine⟨fun _=>?_,fun h=>absurd h (by simp[Cr.f])⟩;have q1:(ByteArray.mk #[92]).size=1:=rfl;have q2:(ByteArray.mk #[32,58,32]).size=3:=rfl;have q3:(ByteArray.mk #[32,45,62,32]).size=4:=rfl;have e1:(zJX s t c).s=s:=rfl;refine⟨by simp only[ByteArray.size_append,q1,e1];omega,?_⟩;refine⟨by simp only[ByteArray.size_append,q1,q2,e1];omega,?_⟩;refine⟨by simp only[ByteArray.size_append,q1,q2,e1];omega,?_⟩;refine⟨by simp only[ByteArray.size_append,q1,q2,q3,e1];omega,?_⟩;refine⟨eC c,by omega,rfl,rfl,?_⟩;refine .inl ⟨_,hc,?_⟩;refine⟨by simp only[ByteArray.size_append,q1,q2,q3,e1];omega,?_⟩;refine⟨by kernel_rfl,?_⟩;exact rfl
theorem zMA {c:Cr} {s:ByteArray} (l:List Int) (hc:zGT c s) (hl:l.length<=1000) (hs:s.size<=100000000):zF Tryz.prog zKY [eC c,.sl (eIs l)] (str (if c.f∈l then s else ⟨#[40]⟩++s++⟨#[41]⟩)):=by
 refine zD ttok mixed Tryz.func114 rfl (by rfl) (Nat.le_of_ble_eq_true rfl) (by kernel_rfl) ?_;refine .inl ⟨_,zFV (l:=l) (s:=c.f) (by omega),?_⟩;refine⟨fun h=>?_,fun h=>?_⟩
 ·rw[if_pos (memb_iff.1 h)];refine .inl ⟨_,hc,?_⟩;exact rfl
 ·rw[if_neg fun hm=>by rw[memb_iff.2 hm] at h;cases h];have q1:(ByteArray.mk #[40]).size=1:=rfl;have q2:(ByteArray.mk #[41]).size=1:=rfl;refine .inl ⟨_,hc,?_⟩;refine⟨by simp only[ByteArray.size_append,q1];omega,?_⟩;refine⟨by simp only[ByteArray.size_append,q1,q2];omega,?_⟩;exact rfl
def zCW (c:Cr) (s:ByteArray):ByteArray:=if c.f∈([1,2,3,4,6]:List Int) then s else ⟨#[40]⟩++s++⟨#[41]⟩
def zB0 (c:Cr) (s:ByteArray):ByteArray:=if c.f∈([1,2,3]:List Int) then s else ⟨#[40]⟩++s++⟨#[41]⟩
theorem yX (c:Cr) (s:ByteArray):(zCW c s).size<=s.size+2:=by
 have q1:(ByteArray.mk #[40]).size=1:=rfl;have q2:(ByteArray.mk #[41]).size=1:=rfl;unfold zCW;split
 ·omega
 ·simp only[ByteArray.size_append,q1,q2];omega
theorem xG (c:Cr) (s:ByteArray):(zB0 c s).size<=s.size+2:=by
 have q1:(ByteArray.mk #[40]).size=1:=rfl;have q2:(ByteArray.mk #[41]).size=1:=rfl;unfold zB0;split
 ·omega
 ·simp only[ByteArray.size_append,q1,q2];omega
theorem zQY {c:Cr} {s:ByteArray} (hc:zGT c s) (hs:s.size<=100000000):zF Tryz.prog zMN [eC c] (str (zCW c s)):=by
 refine zD ttok mixed Tryz.func69 rfl (by rfl) (Nat.le_of_ble_eq_true rfl) (by kernel_rfl) ?_;refine .inl ⟨_,zMA [1,2,3,4,6] hc (by decide) hs,?_⟩;exact rfl
theorem zP2 {c:Cr} {s:ByteArray} (hc:zGT c s) (hs:s.size<=100000000):zF Tryz.prog zKW [eC c] (str (zB0 c s)):=by
 refine zD ttok mixed Tryz.func70 rfl (by rfl) (Nat.le_of_ble_eq_true rfl) (by kernel_rfl) ?_;refine .inl ⟨_,zMA [1,2,3] hc (by decide) hs,?_⟩;exact rfl
theorem zW9 {s p:ByteArray} {a c:Cr} (ha:zGT a s) (hc:zGT c p) (hs:s.size+p.size<=10000000):zGT (zAY a c) (zCW a s++⟨#[32]⟩++zB0 c p):=by
 refine zD ttok mixed Tryz.func24 rfl (by rfl) (Nat.le_of_ble_eq_true rfl) (by kernel_rfl) ?_;refine .inl ⟨_,zDU,?_⟩;refine⟨fun h=>absurd h (by simp[Cr.f]),fun _=>?_⟩;refine⟨fun _=>?_,fun h=>absurd h (by simp[Cr.f])⟩;have q1:(ByteArray.mk #[32]).size=1:=rfl;have h1:=yX a s;have h2:=xG c p;refine⟨eC a,by omega,rfl,rfl,?_⟩;refine .inl ⟨_,zQY ha (by omega),?_⟩;refine⟨by simp only[ByteArray.size_append,q1];omega,?_⟩;refine⟨eC c,by omega,rfl,rfl,?_⟩;refine .inl ⟨_,zP2 hc (by omega),?_⟩;refine⟨by simp only[ByteArray.size_append,q1];omega,?_⟩;refine⟨by kernel_rfl,?_⟩;exact rfl
theorem z0E {l:List ByteArray} (h:lett 0∉l):ff l=0:=by
 cases hf:ff l with
 | zero=>rfl
 | succ n=>exact absurd (zJ2 l 0 (by omega)) h
abbrev nX:ByteArray:=⟨#[120]⟩
abbrev nY:ByteArray:=⟨#[121]⟩
abbrev nA:ByteArray:=⟨#[97]⟩
theorem z4P:lett 0=nA:=by decide
theorem zUX:plan [nY,nX] [nX] nY [nX]=some [(nX,nA)]:=by
 unfold plan;rw[if_pos (by decide)];have hz:ff ([nY,nX]++[nX]++[nX])=0:=z0E (by decide);simp only[rens,if_pos (List.mem_singleton.2 rfl),hz,z4P]
theorem zN2 (k:Nat) (s x:ByteArray) (b:Cr):sbF (k+1) (vr s) x b=if s=x then b else vr s:=by rw[sbF,if_pos rfl]
theorem zV7 (k:Nat) {a c:Cr} {x:ByteArray} {b:Cr} (h:x∈[a,c].flatMap Cr.fv):sbF (k+1) (zAY a c) x b=zAY (sbF k a x b) (sbF k c x b):=by
 rw[sbF,if_neg (by decide),if_neg (by decide)];have hp:plan (((Cr.kid a (.kid c .nil)).parts0).flatMap Cr.fv) (zAY a c).names0 x b.fv=some []:=by
  unfold plan;rw[if_pos ⟨h,List.not_mem_nil⟩]
  rfl
 rw[hp]
 rfl
theorem z0U:sbF 5 (zJX nX (.var nA) (zAY (vr nY) (vr nX))) nY (vr nX)=zJX nA (.var nA) (zAY (vr nX) (vr nA)):=by
 rw[sbF,if_neg (by decide),if_neg (by decide)];have hp:plan (((Cr.kid (zAY (vr nY) (vr nX)) .nil).parts0).flatMap Cr.fv) (zJX nX (.var nA) (zAY (vr nY) (vr nX))).names0 nY (vr nX).fv=some [(nX,nA)]:=zUX;rw[hp];show zJX (nw [(nX,nA)] nX) (.var nA) (sbF 4 (sbF 4 (zAY (vr nY) (vr nX)) nX (vr nA)) nY (vr nX))=_;rw[zV7 3 (by decide),zN2,zN2,if_neg (by decide),if_pos rfl,zV7 3 (by decide),zN2,zN2,if_pos rfl,if_neg (by decide)]
 rfl
abbrev zYX:Cr:=zJX nX (.var nA) (zAY (vr nY) (vr nX))
abbrev zPC:Cr:=zJX nA (.var nA) (zAY (vr nX) (vr nA))
abbrev z4V:ByteArray:=⟨#[92,97,32,58,32,97,32,45,62,32,120,32,97]⟩
abbrev z4I:ByteArray:=⟨#[40,92,97,32,58,32,97,32,45,62,32,120,32,97,41,32,51]⟩
theorem zSS:Low 2000 nA:=low4 (by simp[wF])
theorem z3Y:TyS (.var nA):=⟨zSS,by decide,by decide⟩
theorem z3V {a c:Cr} (ha:a.isN=true) (ha2:a.Ok) (hc:c.isN=true) (hc2:c.Ok):(zAY a c).Ok:=⟨rfl,fun h=>absurd h (by decide),fun h=>absurd h (by decide),rfl,fun h=>absurd rfl h,fun h=>absurd rfl h,List.nodup_nil,ha,rfl,ha2,hc,rfl,hc2,trivial⟩
theorem z3B {s:ByteArray} {t:Tp} {c:Cr} (hc:c.isN=true) (hc2:c.Ok):(zJX s t c).Ok:=⟨rfl,fun h=>absurd h (by decide),fun h=>absurd h (by decide),rfl,fun h=>absurd rfl h,fun h=>absurd rfl h,List.nodup_nil,hc,rfl,hc2,trivial⟩
theorem zNG (s r:ByteArray):Sm (zAY (vr s) (vr r)):=⟨rfl,z3V rfl (zLM _) rfl (zLM _),by simp[Cr.wt,Tp.sz],⟨trivial,⟨trivial,trivial⟩,⟨trivial,trivial⟩,trivial⟩⟩
theorem zR4 (s p q:ByteArray):Sm (zJX s (.var nA) (zAY (vr p) (vr q))):=⟨rfl,z3B rfl (zNG p q).ok,by simp[Cr.wt,Tp.sz],⟨zSS,(zNG p q).low,trivial⟩⟩
theorem z2Y:Sm zYX:=zR4 _ _ _
theorem liveSmD:Sm zPC:=zR4 _ _ _
theorem z4K (n:Int):Sm (zT0 n):=⟨rfl,⟨rfl,fun h=>absurd h (by decide),fun h=>absurd h (by decide),rfl,fun h=>absurd rfl h,fun h=>absurd rfl h,List.nodup_nil,trivial⟩,by simp[Cr.wt,Tp.sz],⟨trivial,trivial⟩⟩
theorem zXX:zF Tryz.prog y8 [eC zYX,str nY,eC (vr nX)] (eC zPC):=by
 have h:=zUZ 5 zYX nY (vr nX) z2Y (by decide) (zSI _);rw[z0U] at h;exact h
theorem z0Q:zF Tryz.prog jL [eTy (.var nA)] (str nA):=zL1 (dec:=fun _ => .empty) (fun _=>by decide) (.var nA) (by decide) (by show nA.size<=4;decide) (fun n hn=>absurd hn List.not_mem_nil)
theorem zTG:zGT zPC z4V:=by
 have h:=z3P (s:=nA) z0Q (zW9 (zSH (s:=nX) (.inl rfl)) (zSH (s:=nA) (.inl rfl)) (by decide)) (by decide);exact h
theorem z01:zGT (zT0 3) ⟨#[51]⟩:=by
 have h:=zID (n:=3) (by decide);rw[wY (by decide)] at h;exact z1V h
theorem zZJ:zGT (zAY zPC (zT0 3)) z4I:=zW9 zTG z01 (by decide)
theorem zYI:zF Tryz.prog 19 [] (.sb true):=by
 refine zD ttok mixed Tryz.func19 rfl (by rfl) (Nat.le_of_ble_eq_true rfl) (by kernel_rfl) ?_;refine .inl ⟨_,zRO nA,?_⟩;refine .inl ⟨_,zFW nY,?_⟩;refine .inl ⟨_,zFW nX,?_⟩;refine .inl ⟨_,zPF (f:=vr nY) (l:=[vr nX]) (zSI _).own (fun c hc=>by rw[List.mem_singleton.1 hc];exact (zSI _).own) (by decide),?_⟩;refine .inl ⟨_,zY5 (s:=nX) (c:=zAY (vr nY) (vr nX)) z3Y (zNG _ _).own,?_⟩;refine .inl ⟨_,zFW nX,?_⟩;refine .inl ⟨_,zXX,?_⟩;refine⟨by kernel_rfl,?_⟩;refine .inl ⟨_,zTG,?_⟩;refine⟨fun _=>?_,fun h=>absurd h (by decide)⟩;refine .inl ⟨_,zXZ 3,?_⟩;refine .inl ⟨_,zPF (f:=zPC) (l:=[zT0 3]) liveSmD.own (fun c hc=>by rw[List.mem_singleton.1 hc];exact (z4K 3).own) (by decide),?_⟩;refine .inl ⟨_,zZJ,?_⟩;refine⟨by kernel_rfl,?_⟩;exact rfl
end Go.Proofs.YtgonkhaebmfgiaaGreatDoor
