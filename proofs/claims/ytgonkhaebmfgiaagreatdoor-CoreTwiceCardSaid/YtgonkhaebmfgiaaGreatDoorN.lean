/- The makers of core: constructors, numbers, lambdas, what is given others. No condition but on what own asks. -/
import Derived.Test.YtgonkhaebmfgiaaGreatDoorM
set_option linter.unusedSimpArgs false
set_option linter.unusedVariables false
namespace Go.Proofs.YtgonkhaebmfgiaaGreatDoor
open Go Fp
set_option maxRecDepth 10000
set_option maxHeartbeats 8000000
set_option linter.unusedVariables false
abbrev zW3 (n:Int):Cr := .node 3 n .empty .no .nil
abbrev zLN (s:ByteArray) (t:Tp) (c:Cr):Cr := .node 5 0 s t (.kid c .nil)
abbrev zBG (a b:Cr):Cr := .node 4 0 .empty .no (.kid a (.kid b .nil))
theorem zZG (n:Int):zF Tryz.prog zR6 [.lit (.int .i64 n)] (eC (zW3 n)):=by
 refine zJ ttok mixed Tryz.func29 rfl (by rfl) (Nat.le_of_ble_eq_true rfl) (by kernel_rfl) ?_;exact rfl
def zT2 (c:Cr):Prop:=zF Tryz.prog xN [eC c] (eC c)
theorem Sm.own {c:Cr} (h:Sm c):zT2 c:=zF7 h.gd (by have:=h.sz;omega)
theorem zYN {s:ByteArray} {t:Tp} {c:Cr} (ht:TyS t) (hc:zT2 c):zF Tryz.prog zSL [str s,eTy t,eC c] (eC (zLN s t c)):=by
 refine zJ ttok mixed Tryz.func30 rfl (by rfl) (Nat.le_of_ble_eq_true rfl) (by kernel_rfl) ?_;refine .inl ⟨_,zTB ht,?_⟩;refine .inl ⟨_,hc,?_⟩;refine⟨by kernel_rfl,?_⟩;exact rfl
theorem zQU {f:Cr} {l:List Cr} (hf:zT2 f) (hl:∀c∈l,zT2 c) (hlen:l.length<=1000000):zF Tryz.prog zS5 [eC f,.sl (eCs l)] (eC (l.foldl zBG f)):=by
 refine zJ ttok mixed Tryz.func32 rfl (by rfl) (Nat.le_of_ble_eq_true rfl) (by kernel_rfl) ?_;refine .inl ⟨_,hf,?_⟩;refine⟨{k:Nat // k<=l.length},fun k=>{vs:=[(4,.box 0 eZ),(5,.box 0 (eC ((l.take k.1).foldl zBG f))),(10,.v (.sl (eCs l))),(11,sv (l.length:Nat)),(12,sv (k.1:Nat))]},fun k=>l.length-k.1,⟨0,Nat.zero_le _⟩,?_,?_⟩
 ·exact⟨⟨rfl,rfl,rfl,by show sv _=sv _;simp[eCs],rfl,trivial⟩,trivial,rfl⟩
 rintro⟨k,hk⟩;refine⟨fun h=>?_,fun h=>?_⟩
 ·have h:k<l.length:=by
   have h:=of_decide_eq_true h;simp only at h;omega
  refine⟨eC l[k],by omega,(by show (eCs l)[k]? = _;simp[eCs,List.getElem?_eq_getElem h]),rfl,?_⟩;refine .inl ⟨_,hl _ (List.getElem_mem h),?_⟩;refine⟨by kernel_rfl,?_⟩;refine⟨⟨k+1,h⟩,by simp;omega,⟨rfl,?_,rfl,rfl,svc (wrap_succ (k:=k) (by omega)),trivial⟩,trivial,rfl⟩;show SV.box 0 (eC (zBG ((l.take k).foldl zBG f) l[k]))=SV.box 0 (eC ((l.take (k+1)).foldl zBG f));rw[<-List.take_append_getElem h,List.foldl_append];rfl
 ·have h:k=l.length:=by
   have h:=of_decide_eq_false h;simp only at h;omega
  subst h;show eC (List.foldl zBG f (List.take l.length l))=_;rw[List.take_length]
theorem zWA:zF Tryz.prog zFN [eTy .no,.lit (.int .i64 0)] (str .empty):=by
 refine zJ ttok mixed Tryz.func112 rfl (by rfl) (Nat.le_of_ble_eq_true rfl) (by kernel_rfl) ?_;refine .inl ⟨_,zA0 .no,?_⟩;refine⟨fun h=>absurd h (by decide),fun _=>?_⟩;refine⟨fun h=>absurd h (by decide),fun _=>?_⟩;refine⟨fun h=>absurd h (by decide),fun _=>?_⟩;refine⟨fun h=>absurd h (by decide),fun _=>?_⟩;refine⟨fun h=>absurd h (by decide),fun _=>?_⟩;exact rfl
theorem zHH:zF Tryz.prog jW [eTy .no] (str .empty):=by
 refine zJ ttok mixed Tryz.func67 rfl (by rfl) (Nat.le_of_ble_eq_true rfl) (by kernel_rfl) ?_;refine .inl ⟨_,zWA,?_⟩;exact rfl
def zHN (c:Cr) (s:ByteArray):Prop:=zF Tryz.prog zO8 [eC c] (str s)
theorem z7I {n:Int} {s:ByteArray} (h:zF Tryz.prog xP [.lit (.int .i64 n)] (str s)):zHN (zW3 n) s:=by
 refine zJ ttok mixed Tryz.func24 rfl (by rfl) (Nat.le_of_ble_eq_true rfl) (by kernel_rfl) ?_;refine .inl ⟨_,zHH,?_⟩;refine⟨fun _=>?_,fun h=>absurd h (by simp[Cr.f])⟩;refine .inl ⟨_,h,?_⟩;exact rfl
theorem zVL {f:Int} {s:ByteArray} (hf:f=1∨f=2):zHN (.node f 0 s .no .nil) s:=by
 refine zJ ttok mixed Tryz.func24 rfl (by rfl) (Nat.le_of_ble_eq_true rfl) (by kernel_rfl) ?_;refine .inl ⟨_,zHH,?_⟩;rcases hf with rfl|rfl
 ·refine⟨fun h=>absurd h (by simp[Cr.f]),fun _=>?_⟩;refine⟨fun h=>absurd h (by simp[Cr.f]),fun _=>?_⟩;refine⟨fun h=>absurd h (by simp[Cr.f]),fun _=>?_⟩;refine⟨fun h=>absurd h (by simp[Cr.f]),fun _=>?_⟩;refine⟨fun h=>absurd h (by simp[Cr.f]),fun _=>?_⟩;refine⟨fun h=>absurd h (by simp[Cr.f]),fun _=>?_⟩;refine⟨fun h=>absurd h (by simp[Cr.f]),fun _=>?_⟩;refine⟨fun h=>absurd h (by simp[Cr.f]),fun _=>?_⟩;refine⟨fun h=>absurd h (by simp[Cr.f]),fun _=>?_⟩;exact rfl
 ·refine⟨fun h=>absurd h (by simp[Cr.f]),fun _=>?_⟩;refine⟨fun h=>absurd h (by simp[Cr.f]),fun _=>?_⟩;refine⟨fun h=>absurd h (by simp[Cr.f]),fun _=>?_⟩;refine⟨fun h=>absurd h (by simp[Cr.f]),fun _=>?_⟩;refine⟨fun h=>absurd h (by simp[Cr.f]),fun _=>?_⟩;refine⟨fun h=>absurd h (by simp[Cr.f]),fun _=>?_⟩;refine⟨fun h=>absurd h (by simp[Cr.f]),fun _=>?_⟩;refine⟨fun h=>absurd h (by simp[Cr.f]),fun _=>?_⟩;refine⟨fun h=>absurd h (by simp[Cr.f]),fun _=>?_⟩;exact rfl
theorem z8A {s u p:ByteArray} {t:Tp} {c:Cr} (ht:zF Tryz.prog jW [eTy t] (str u)) (hc:zHN c p) (hs:s.size+u.size+p.size<=100000000):zHN (zLN s t c) (⟨#[92]⟩++s++⟨#[32,58,32]⟩++u++⟨#[32,45,62,32]⟩++p):=by
 refine zJ ttok mixed Tryz.func24 rfl (by rfl) (Nat.le_of_ble_eq_true rfl) (by kernel_rfl) ?_;refine .inl ⟨_,ht,?_⟩;refine⟨fun h=>absurd h (by simp[Cr.f]),fun _=>?_⟩;refine⟨fun h=>absurd h (by simp[Cr.f]),fun _=>?_⟩;refine⟨fun _=>?_,fun h=>absurd h (by simp[Cr.f])⟩;have q1:(ByteArray.mk #[92]).size=1:=rfl;have q2:(ByteArray.mk #[32,58,32]).size=3:=rfl;have q3:(ByteArray.mk #[32,45,62,32]).size=4:=rfl;have e1:(zLN s t c).s=s:=rfl;refine⟨by simp only[ByteArray.size_append,q1,e1];omega,?_⟩;refine⟨by simp only[ByteArray.size_append,q1,q2,e1];omega,?_⟩;refine⟨by simp only[ByteArray.size_append,q1,q2,e1];omega,?_⟩;refine⟨by simp only[ByteArray.size_append,q1,q2,q3,e1];omega,?_⟩;refine⟨eC c,by omega,rfl,rfl,?_⟩;refine .inl ⟨_,hc,?_⟩;refine⟨by simp only[ByteArray.size_append,q1,q2,q3,e1];omega,?_⟩;refine⟨by kernel_rfl,?_⟩;exact rfl
theorem zM0 {c:Cr} {s:ByteArray} (l:List Int) (hc:zHN c s) (hl:l.length<=1000) (hs:s.size<=100000000):zF Tryz.prog zMD [eC c,.sl (eIs l)] (str (if c.f∈l then s else ⟨#[40]⟩++s++⟨#[41]⟩)):=by
 refine zJ ttok mixed Tryz.func114 rfl (by rfl) (Nat.le_of_ble_eq_true rfl) (by kernel_rfl) ?_;refine .inl ⟨_,zPF (l:=l) (s:=c.f) (by omega),?_⟩;refine⟨fun h=>?_,fun h=>?_⟩
 ·rw[if_pos (memb_iff.1 h)];refine .inl ⟨_,hc,?_⟩;exact rfl
 ·rw[if_neg fun hm=>by rw[memb_iff.2 hm] at h;cases h];have q1:(ByteArray.mk #[40]).size=1:=rfl;have q2:(ByteArray.mk #[41]).size=1:=rfl;refine .inl ⟨_,hc,?_⟩;refine⟨by simp only[ByteArray.size_append,q1];omega,?_⟩;refine⟨by simp only[ByteArray.size_append,q1,q2];omega,?_⟩;exact rfl
def zUZ (c:Cr) (s:ByteArray):ByteArray:=if c.f∈([1,2,3,4,6]:List Int) then s else ⟨#[40]⟩++s++⟨#[41]⟩
def zVM (c:Cr) (s:ByteArray):ByteArray:=if c.f∈([1,2,3]:List Int) then s else ⟨#[40]⟩++s++⟨#[41]⟩
theorem zSE (c:Cr) (s:ByteArray):(zUZ c s).size<=s.size+2:=by
 have q1:(ByteArray.mk #[40]).size=1:=rfl;have q2:(ByteArray.mk #[41]).size=1:=rfl;unfold zUZ;split
 ·omega
 ·simp only[ByteArray.size_append,q1,q2];omega
theorem zTD (c:Cr) (s:ByteArray):(zVM c s).size<=s.size+2:=by
 have q1:(ByteArray.mk #[40]).size=1:=rfl;have q2:(ByteArray.mk #[41]).size=1:=rfl;unfold zVM;split
 ·omega
 ·simp only[ByteArray.size_append,q1,q2];omega
theorem zRX {c:Cr} {s:ByteArray} (hc:zHN c s) (hs:s.size<=100000000):zF Tryz.prog zOL [eC c] (str (zUZ c s)):=by
 refine zJ ttok mixed Tryz.func69 rfl (by rfl) (Nat.le_of_ble_eq_true rfl) (by kernel_rfl) ?_;refine .inl ⟨_,zM0 [1,2,3,4,6] hc (by decide) hs,?_⟩;exact rfl
theorem zQZ {c:Cr} {s:ByteArray} (hc:zHN c s) (hs:s.size<=100000000):zF Tryz.prog zMG [eC c] (str (zVM c s)):=by
 refine zJ ttok mixed Tryz.func70 rfl (by rfl) (Nat.le_of_ble_eq_true rfl) (by kernel_rfl) ?_;refine .inl ⟨_,zM0 [1,2,3] hc (by decide) hs,?_⟩;exact rfl
theorem zTP {s p:ByteArray} {a c:Cr} (ha:zHN a s) (hc:zHN c p) (hs:s.size+p.size<=10000000):zHN (zBG a c) (zUZ a s++⟨#[32]⟩++zVM c p):=by
 refine zJ ttok mixed Tryz.func24 rfl (by rfl) (Nat.le_of_ble_eq_true rfl) (by kernel_rfl) ?_;refine .inl ⟨_,zHH,?_⟩;refine⟨fun h=>absurd h (by simp[Cr.f]),fun _=>?_⟩;refine⟨fun _=>?_,fun h=>absurd h (by simp[Cr.f])⟩;have q1:(ByteArray.mk #[32]).size=1:=rfl;have h1:=zSE a s;have h2:=zTD c p;refine⟨eC a,by omega,rfl,rfl,?_⟩;refine .inl ⟨_,zRX ha (by omega),?_⟩;refine⟨by simp only[ByteArray.size_append,q1];omega,?_⟩;refine⟨eC c,by omega,rfl,rfl,?_⟩;refine .inl ⟨_,zQZ hc (by omega),?_⟩;refine⟨by simp only[ByteArray.size_append,q1];omega,?_⟩;refine⟨by kernel_rfl,?_⟩;exact rfl
theorem z1Y {l:List ByteArray} (h:lett 0∉l):ff l=0:=by
 cases hf:ff l with
 | zero=>rfl
 | succ n=>exact absurd (zHI l 0 (by omega)) h
abbrev nX:ByteArray:=⟨#[120]⟩
abbrev nY:ByteArray:=⟨#[121]⟩
abbrev nA:ByteArray:=⟨#[97]⟩
theorem z9R:lett 0=nA:=by decide
theorem zWO:plan [nY,nX] [nX] nY [nX]=some [(nX,nA)]:=by
 unfold plan;rw[if_pos (by decide)];have hz:ff ([nY,nX]++[nX]++[nX])=0:=z1Y (by decide);simp only[rens,if_pos (List.mem_singleton.2 rfl),hz,z9R]
theorem zPA (k:Nat) (s x:ByteArray) (b:Cr):sbF (k+1) (vr s) x b=if s=x then b else vr s:=by rw[sbF,if_pos rfl]
theorem z0Q (k:Nat) {a c:Cr} {x:ByteArray} {b:Cr} (h:x∈[a,c].flatMap Cr.fv):sbF (k+1) (zBG a c) x b=zBG (sbF k a x b) (sbF k c x b):=by
 rw[sbF,if_neg (by decide),if_neg (by decide)];have hp:plan (((Cr.kid a (.kid c .nil)).parts0).flatMap Cr.fv) (zBG a c).names0 x b.fv=some []:=by
  unfold plan;rw[if_pos ⟨h,List.not_mem_nil⟩]
  rfl
 rw[hp]
 rfl
theorem z4R:sbF 5 (zLN nX (.var nA) (zBG (vr nY) (vr nX))) nY (vr nX)=zLN nA (.var nA) (zBG (vr nX) (vr nA)):=by
 rw[sbF,if_neg (by decide),if_neg (by decide)];have hp:plan (((Cr.kid (zBG (vr nY) (vr nX)) .nil).parts0).flatMap Cr.fv) (zLN nX (.var nA) (zBG (vr nY) (vr nX))).names0 nY (vr nX).fv=some [(nX,nA)]:=zWO;rw[hp];show zLN (nw [(nX,nA)] nX) (.var nA) (sbF 4 (sbF 4 (zBG (vr nY) (vr nX)) nX (vr nA)) nY (vr nX))=_;rw[z0Q 3 (by decide),zPA,zPA,if_neg (by decide),if_pos rfl,z0Q 3 (by decide),zPA,zPA,if_pos rfl,if_neg (by decide)]
 rfl
abbrev z0E:Cr:=zLN nX (.var nA) (zBG (vr nY) (vr nX))
abbrev zRL:Cr:=zLN nA (.var nA) (zBG (vr nX) (vr nA))
abbrev z8N:ByteArray:=⟨#[92,97,32,58,32,97,32,45,62,32,120,32,97]⟩
abbrev z8R:ByteArray:=⟨#[40,92,97,32,58,32,97,32,45,62,32,120,32,97,41,32,51]⟩
theorem zUL:Low 2000 nA:=low4 (by simp[xZ])
theorem z6C:TyS (.var nA):=⟨zUL,by decide,by decide⟩
theorem z8C {a c:Cr} (ha:a.isN=true) (ha2:a.Ok) (hc:c.isN=true) (hc2:c.Ok):(zBG a c).Ok:=⟨rfl,fun h=>absurd h (by decide),fun h=>absurd h (by decide),rfl,fun h=>absurd rfl h,fun h=>absurd rfl h,List.nodup_nil,ha,rfl,ha2,hc,rfl,hc2,trivial⟩
theorem z7V {s:ByteArray} {t:Tp} {c:Cr} (hc:c.isN=true) (hc2:c.Ok):(zLN s t c).Ok:=⟨rfl,fun h=>absurd h (by decide),fun h=>absurd h (by decide),rfl,fun h=>absurd rfl h,fun h=>absurd rfl h,List.nodup_nil,hc,rfl,hc2,trivial⟩
theorem zOP (s r:ByteArray):Sm (zBG (vr s) (vr r)):=⟨rfl,z8C rfl (zBK _) rfl (zBK _),by simp[Cr.wt,Tp.sz],⟨trivial,⟨trivial,trivial⟩,⟨trivial,trivial⟩,trivial⟩⟩
theorem zVE (s p q:ByteArray):Sm (zLN s (.var nA) (zBG (vr p) (vr q))):=⟨rfl,z7V rfl (zOP p q).ok,by simp[Cr.wt,Tp.sz],⟨zUL,(zOP p q).low,trivial⟩⟩
theorem z7A:Sm z0E:=zVE _ _ _
theorem liveSmD:Sm zRL:=zVE _ _ _
theorem z9C (n:Int):Sm (zW3 n):=⟨rfl,⟨rfl,fun h=>absurd h (by decide),fun h=>absurd h (by decide),rfl,fun h=>absurd rfl h,fun h=>absurd rfl h,List.nodup_nil,trivial⟩,by simp[Cr.wt,Tp.sz],⟨trivial,trivial⟩⟩
theorem zZW:zF Tryz.prog yL [eC z0E,str nY,eC (vr nX)] (eC zRL):=by
 have h:=zWI 5 z0E nY (vr nX) z7A (by decide) (zVS _);rw[z4R] at h;exact h
theorem z3X:zF Tryz.prog jW [eTy (.var nA)] (str nA):=zXJ (dec:=fun _ => .empty) (fun _=>by decide) (.var nA) (by decide) (by show nA.size<=4;decide) (fun n hn=>absurd hn List.not_mem_nil)
theorem zVI:zHN zRL z8N:=by
 have h:=z8A (s:=nA) z3X (zTP (zVL (s:=nX) (.inl rfl)) (zVL (s:=nA) (.inl rfl)) (by decide)) (by decide);exact h
theorem z2R:zHN (zW3 3) ⟨#[51]⟩:=by
 have h:=zUV (n:=3) (by decide);rw[zAX (by decide)] at h;exact z7I h
theorem z3Y:zHN (zBG zRL (zW3 3)) z8R:=zTP zVI z2R (by decide)
theorem zKK:zF Tryz.prog 19 [] (.sb true):=by
 refine zJ ttok mixed Tryz.func19 rfl (by rfl) (Nat.le_of_ble_eq_true rfl) (by kernel_rfl) ?_;refine .inl ⟨_,zOK nA,?_⟩;refine .inl ⟨_,zA3 nY,?_⟩;refine .inl ⟨_,zA3 nX,?_⟩;refine .inl ⟨_,zQU (f:=vr nY) (l:=[vr nX]) (zVS _).own (fun c hc=>by rw[List.mem_singleton.1 hc];exact (zVS _).own) (by decide),?_⟩;refine .inl ⟨_,zYN (s:=nX) (c:=zBG (vr nY) (vr nX)) z6C (zOP _ _).own,?_⟩;refine .inl ⟨_,zA3 nX,?_⟩;refine .inl ⟨_,zZW,?_⟩;refine⟨by kernel_rfl,?_⟩;refine .inl ⟨_,zVI,?_⟩;refine⟨fun _=>?_,fun h=>absurd h (by decide)⟩;refine .inl ⟨_,zZG 3,?_⟩;refine .inl ⟨_,zQU (f:=zRL) (l:=[zW3 3]) liveSmD.own (fun c hc=>by rw[List.mem_singleton.1 hc];exact (z9C 3).own) (by decide),?_⟩;refine .inl ⟨_,z3Y,?_⟩;refine⟨by kernel_rfl,?_⟩;exact rfl
theorem zBD {φ:Cr->Cr} {τ:Tp->Tp} {ν:ByteArray->ByteArray} {α:List ByteArray->Cr->List ByteArray×Cr} (hφ:∀p:Cr,p.Few->(φ p).Few) (hα:∀(vs:List ByteArray) (p:Cr),vs.length<=10000->p.Few->(α vs p).1.length<=10000/\(α vs p).2.Few) (g:Cr):g.Few->(yC φ τ ν α g).Few:=by
 induction g with
 | nil=>exact fun h=>h
 | node f n s t g _=>exact fun h=>h
 | kid p r _ ih=>exact fun h=>⟨hφ p h.1,ih h.2⟩
 | bind x t p r _ ih=>exact fun h=>⟨hφ p h.1,ih h.2⟩
 | alt f n s vs p r _ ih=>exact fun h=>⟨(hα vs p h.1 h.2.1).1,(hα vs p h.1 h.2.1).2,ih h.2.2⟩
theorem zO7 (k:Nat):∀(c:Cr) (v:ByteArray) (t:Tp),c.Few->(stF k c v t).Few:=by
 induction k with
 | zero=>intro c v t h;cases c<;>exact h
 | succ k ih =>
  intro c v t h;cases c with
  | node f n s ty g =>
   unfold stF;split
   ·split
    ·exact h
    ·split
     ·exact zBD (fun p hp=>ih _ _ _ (ih _ _ _ hp)) (fun vs p h1 h2=>⟨h1,h2⟩) g h
     ·exact zBD (fun p hp=>ih _ _ _ hp) (fun vs p h1 h2=>⟨h1,h2⟩) g h
   ·exact zBD (fun p hp=>ih _ _ _ hp) (fun vs p h1 h2=>⟨h1,ih _ _ _ h2⟩) g h
  | _=>exact h
theorem zPD {k:Nat} (ih:∀(c:Cr) (x:ByteArray) (b:Cr),c.Few->b.Few->(sbF k c x b).Few):∀(rs:List (ByteArray×ByteArray)) (p:Cr),p.Few->(rs.foldl (fun p q=>sbF k p q.1 (vr q.2)) p).Few
 | [],p,h=>h
 | q::rs,p,h=>zPD ih rs _ (ih p q.1 (vr q.2) h trivial)
theorem zI8 (k:Nat):∀(c:Cr) (x:ByteArray) (b:Cr),c.Few->b.Few->(sbF k c x b).Few:=by
 induction k with
 | zero=>intro c x b h hb;cases c<;>exact h
 | succ k ih =>
  intro c x b h hb;cases c with
  | node f n s ty g =>
   have hα:∀(vs:List ByteArray) (p:Cr),vs.length<=10000->p.Few->(wI (fun rs p=>sbF k (rs.foldl (fun p q=>sbF k p q.1 (vr q.2)) p) x b) x b.fv vs p).1.length<=10000/\(wI (fun rs p=>sbF k (rs.foldl (fun p q=>sbF k p q.1 (vr q.2)) p) x b) x b.fv vs p).2.Few:=by
    intro vs p h1 h2;unfold wI;split
    ·exact⟨h1,h2⟩
    ·exact⟨by simpa using h1,ih _ _ _ (zPD ih _ _ h2) hb⟩
   unfold sbF;split
   ·split
    ·exact hb
    ·exact h
   ·split
    ·split
     ·split
      ·exact zBD (fun p hp=>ih _ _ _ (zO7 k _ _ _ hp) hb) (fun vs p h1 h2=>⟨h1,h2⟩) g h
      ·exact zBD (fun p hp=>ih _ _ _ hp hb) (fun vs p h1 h2=>⟨h1,h2⟩) g h
     ·exact h
    ·split
     ·exact zBD (fun p hp=>hp) hα g h
     ·exact zBD (fun p hp=>ih _ _ _ (zPD ih _ _ hp) hb) hα g h
  | _=>exact h
noncomputable def oft (c:Cr) (x:ByteArray):Nat:=yF (dbc c [] []) x
noncomputable def sgO (x:ByteArray) (b:Cr) (y:ByteArray):DC:=if y=x then dbc b [] [] else .fr y
theorem zDJ {c b:Cr} {x:ByteArray} {N:Nat} (hc:c.Ok) (hn:c.isN=true) (hb:b.Ok) (hbn:b.isN=true) (hs:c.sz<=N):dbc (sbF N c x b) [] []=sbD (sgO x b) .fr (dbc c [] []):=by
 refine zS2 N c x b [] [] [] (sgO x b) hc hn hb hbn hs fun y hy => .inr ⟨List.not_mem_nil,fun z _=>List.not_mem_nil,fun z _=>List.not_mem_nil,?_⟩;unfold sgO x8;by_cases h:y=x
 ·rw[if_pos h,if_pos h.symm]
 ·rw[if_neg h,if_neg (Ne.symm h),zFR]
theorem zUK {c b:Cr} {x:ByteArray} {N:Nat} (hc:c.Ok) (hn:c.isN=true) (hb:b.Ok) (hbn:b.isN=true) (hs:c.sz<=N):(sbF N c x b).sz+oft c x=c.sz+oft c x*b.sz:=by
 have h:=z5V (dbc c [] []) x (dbc b [] []) (sgO x b) .fr (if_pos rfl) (fun y hy=>if_neg hy);rw[<-zDJ hc hn hb hbn hs,zEP _ _ _ (wL N c x b hn hc hbn hb).2.1,zEP _ _ _ hc,zEP _ _ _ hb] at h;exact h
theorem z3H (d:DC) (x:ByteArray):yF d x<=szD d:=by
 induction d with
 | nil=>exact Nat.le_refl _
 | bv i=>exact Nat.zero_le _
 | fr s=>simp only[yF,szD];split<;>omega
 | node f n s t g ih=>simp only[yF,szD];omega
 | kid p r ihp ihr=>simp only[yF,szD];omega
 | bind t p r ihp ihr=>simp only[yF,szD];omega
 | alt f n s k p r ihp ihr=>simp only[yF,szD];omega
theorem z1C {c:Cr} (hc:c.Ok) (x:ByteArray):oft c x<=c.sz:=by
 have h:=z3H (dbc c [] []) x;rw[zEP _ _ _ hc] at h;exact h
end Go.Proofs.YtgonkhaebmfgiaaGreatDoor
