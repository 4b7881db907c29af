/- The makers of core: constructors, numbers, lambdas, what is given others. No condition but on what own asks. -/
import Derived.Test.YtgonkhaebmfgiaaGreatDoorM
set_option linter.unusedSimpArgs false
set_option linter.unusedVariables false
namespace Go.Proofs.YtgonkhaebmfgiaaGreatDoor
open Go Fp
set_option maxRecDepth 10000
set_option maxHeartbeats 8000000
set_option linter.unusedVariables false
abbrev zYM (n:Int):Cr := .node 3 n .empty .no .nil
abbrev zM5 (s:ByteArray) (t:Tp) (c:Cr):Cr := .node 5 0 s t (.kid c .nil)
abbrev zB1 (a b:Cr):Cr := .node 4 0 .empty .no (.kid a (.kid b .nil))
theorem z14 (n:Int):zC Tryz.prog zUS [.lit (.int .i64 n)] (eC (zYM n)):=by
 refine zG ttok mixed Tryz.func29 rfl (by rfl) (Nat.le_of_ble_eq_true rfl) (by kernel_rfl) ?_;exact rfl
def zWG (c:Cr):Prop:=zC Tryz.prog xP [eC c] (eC c)
theorem Sm.own {c:Cr} (h:Sm c):zWG c:=zLX h.gd (by have:=h.sz;omega)
theorem z4M {s:ByteArray} {t:Tp} {c:Cr} (ht:TyS t) (hc:zWG c):zC Tryz.prog zU6 [str s,eTy t,eC c] (eC (zM5 s t c)):=by
 refine zG ttok mixed Tryz.func30 rfl (by rfl) (Nat.le_of_ble_eq_true rfl) (by kernel_rfl) ?_;refine .inl ⟨_,zV3 ht,?_⟩;refine .inl ⟨_,hc,?_⟩;refine⟨by kernel_rfl,?_⟩;exact rfl
theorem zRU {f:Cr} {l:List Cr} (hf:zWG f) (hl:∀c∈l,zWG c) (hlen:l.length<=1000000):zC Tryz.prog zV1 [eC f,.sl (eCs l)] (eC (l.foldl zB1 f)):=by
 refine zG ttok mixed Tryz.func32 rfl (by rfl) (Nat.le_of_ble_eq_true rfl) (by kernel_rfl) ?_;refine .inl ⟨_,hf,?_⟩;refine⟨{k:Nat // k<=l.length},fun k=>{vs:=[(4,.box 0 eZ),(5,.box 0 (eC ((l.take k.1).foldl zB1 f))),(10,.v (.sl (eCs l))),(11,sv (l.length:Nat)),(12,sv (k.1:Nat))]},fun k=>l.length-k.1,⟨0,Nat.zero_le _⟩,?_,?_⟩
 ·exact⟨⟨rfl,rfl,rfl,by show sv _=sv _;simp[eCs],rfl,trivial⟩,trivial,rfl⟩
 rintro⟨k,hk⟩;refine⟨fun h=>?_,fun h=>?_⟩
 ·have h:k<l.length:=by
   have h:=of_decide_eq_true h;simp only at h;omega
  refine⟨eC l[k],by omega,(by show (eCs l)[k]? = _;simp[eCs,List.getElem?_eq_getElem h]),rfl,?_⟩;refine .inl ⟨_,hl _ (List.getElem_mem h),?_⟩;refine⟨by kernel_rfl,?_⟩;refine⟨⟨k+1,h⟩,by simp;omega,⟨rfl,?_,rfl,rfl,svc (wrap_succ (k:=k) (by omega)),trivial⟩,trivial,rfl⟩;show SV.box 0 (eC (zB1 ((l.take k).foldl zB1 f) l[k]))=SV.box 0 (eC ((l.take (k+1)).foldl zB1 f));rw[<-List.take_append_getElem h,List.foldl_append];rfl
 ·have h:k=l.length:=by
   have h:=of_decide_eq_false h;simp only at h;omega
  subst h;show eC (List.foldl zB1 f (List.take l.length l))=_;rw[List.take_length]
theorem zZS:zC Tryz.prog zGF [eTy .no,.lit (.int .i64 0)] (str .empty):=by
 refine zG ttok mixed Tryz.func112 rfl (by rfl) (Nat.le_of_ble_eq_true rfl) (by kernel_rfl) ?_;refine .inl ⟨_,zB0 .no,?_⟩;refine⟨fun h=>absurd h (by decide),fun _=>?_⟩;refine⟨fun h=>absurd h (by decide),fun _=>?_⟩;refine⟨fun h=>absurd h (by decide),fun _=>?_⟩;refine⟨fun h=>absurd h (by decide),fun _=>?_⟩;refine⟨fun h=>absurd h (by decide),fun _=>?_⟩;exact rfl
theorem zJB:zC Tryz.prog zAQ [eTy .no] (str .empty):=by
 refine zG ttok mixed Tryz.func67 rfl (by rfl) (Nat.le_of_ble_eq_true rfl) (by kernel_rfl) ?_;refine .inl ⟨_,zZS,?_⟩;exact rfl
def zI2 (c:Cr) (s:ByteArray):Prop:=zC Tryz.prog zQQ [eC c] (str s)
theorem zbP {n:Int} {s:ByteArray} (h:zC Tryz.prog xN [.lit (.int .i64 n)] (str s)):zI2 (zYM n) s:=by
 refine zG ttok mixed Tryz.func24 rfl (by rfl) (Nat.le_of_ble_eq_true rfl) (by kernel_rfl) ?_;refine .inl ⟨_,zJB,?_⟩;refine⟨fun _=>?_,fun h=>absurd h (by simp[Cr.f])⟩;refine .inl ⟨_,h,?_⟩;exact rfl
theorem zWS {f:Int} {s:ByteArray} (hf:f=1∨f=2):zI2 (.node f 0 s .no .nil) s:=by
 refine zG ttok mixed Tryz.func24 rfl (by rfl) (Nat.le_of_ble_eq_true rfl) (by kernel_rfl) ?_;refine .inl ⟨_,zJB,?_⟩;rcases hf with rfl|rfl
 ·refine⟨fun h=>absurd h (by simp[Cr.f]),fun _=>?_⟩;refine⟨fun h=>absurd h (by simp[Cr.f]),fun _=>?_⟩;refine⟨fun h=>absurd h (by simp[Cr.f]),fun _=>?_⟩;refine⟨fun h=>absurd h (by simp[Cr.f]),fun _=>?_⟩;refine⟨fun h=>absurd h (by simp[Cr.f]),fun _=>?_⟩;refine⟨fun h=>absurd h (by simp[Cr.f]),fun _=>?_⟩;refine⟨fun h=>absurd h (by simp[Cr.f]),fun _=>?_⟩;refine⟨fun h=>absurd h (by simp[Cr.f]),fun _=>?_⟩;refine⟨fun h=>absurd h (by simp[Cr.f]),fun _=>?_⟩;exact rfl
 ·refine⟨fun h=>absurd h (by simp[Cr.f]),fun _=>?_⟩;refine⟨fun h=>absurd h (by simp[Cr.f]),fun _=>?_⟩;refine⟨fun h=>absurd h (by simp[Cr.f]),fun _=>?_⟩;refine⟨fun h=>absurd h (by simp[Cr.f]),fun _=>?_⟩;refine⟨fun h=>absurd h (by simp[Cr.f]),fun _=>?_⟩;refine⟨fun h=>absurd h (by simp[Cr.f]),fun _=>?_⟩;refine⟨fun h=>absurd h (by simp[Cr.f]),fun _=>?_⟩;refine⟨fun h=>absurd h (by simp[Cr.f]),fun _=>?_⟩;refine⟨fun h=>absurd h (by simp[Cr.f]),fun _=>?_⟩;exact rfl
theorem zcD {s u p:ByteArray} {t:Tp} {c:Cr} (ht:zC Tryz.prog zAQ [eTy t] (str u)) (hc:zI2 c p) (hs:s.size+u.size+p.size<=100000000):zI2 (zM5 s t c) (⟨#[92]⟩++s++⟨#[32,58,32]⟩++u++⟨#[32,45,62,32]⟩++p):=by
 refine zG ttok mixed Tryz.func24 rfl (by rfl) (Nat.le_of_ble_eq_true rfl) (by kernel_rfl) ?_;refine .inl ⟨_,ht,?_⟩;refine⟨fun h=>absurd h (by simp[Cr.f]),fun _=>?_⟩;refine⟨fun h=>absurd h (by simp[Cr.f]),fun _=>?_⟩;refine⟨fun _=>?_,fun h=>absurd h (by simp[Cr.f])⟩;have q1:(ByteArray.mk #[92]).size=1:=rfl;have q2:(ByteArray.mk #[32,58,32]).size=3:=rfl;have q3:(ByteArray.mk #[32,45,62,32]).size=4:=rfl;have e1:(zM5 s t c).s=s:=rfl;refine⟨by simp only[ByteArray.size_append,q1,e1];omega,?_⟩;refine⟨by simp only[ByteArray.size_append,q1,q2,e1];omega,?_⟩;refine⟨by simp only[ByteArray.size_append,q1,q2,e1];omega,?_⟩;refine⟨by simp only[ByteArray.size_append,q1,q2,q3,e1];omega,?_⟩;refine⟨eC c,by omega,rfl,rfl,?_⟩;refine .inl ⟨_,hc,?_⟩;refine⟨by simp only[ByteArray.size_append,q1,q2,q3,e1];omega,?_⟩;refine⟨by kernel_rfl,?_⟩;exact rfl
theorem zPD {c:Cr} {s:ByteArray} (l:List Int) (hc:zI2 c s) (hl:l.length<=1000) (hs:s.size<=100000000):zC Tryz.prog zNS [eC c,.sl (eIs l)] (str (if c.f∈l then s else ⟨#[40]⟩++s++⟨#[41]⟩)):=by
 refine zG ttok mixed Tryz.func114 rfl (by rfl) (Nat.le_of_ble_eq_true rfl) (by kernel_rfl) ?_;refine .inl ⟨_,zRB (l:=l) (s:=c.f) (by omega),?_⟩;refine⟨fun h=>?_,fun h=>?_⟩
 ·rw[if_pos (memb_iff.1 h)];refine .inl ⟨_,hc,?_⟩;exact rfl
 ·rw[if_neg fun hm=>by rw[memb_iff.2 hm] at h;cases h];have q1:(ByteArray.mk #[40]).size=1:=rfl;have q2:(ByteArray.mk #[41]).size=1:=rfl;refine .inl ⟨_,hc,?_⟩;refine⟨by simp only[ByteArray.size_append,q1];omega,?_⟩;refine⟨by simp only[ByteArray.size_append,q1,q2];omega,?_⟩;exact rfl
def zXH (c:Cr) (s:ByteArray):ByteArray:=if c.f∈([1,2,3,4,6]:List Int) then s else ⟨#[40]⟩++s++⟨#[41]⟩
def zWU (c:Cr) (s:ByteArray):ByteArray:=if c.f∈([1,2,3]:List Int) then s else ⟨#[40]⟩++s++⟨#[41]⟩
theorem zU7 (c:Cr) (s:ByteArray):(zXH c s).size<=s.size+2:=by
 have q1:(ByteArray.mk #[40]).size=1:=rfl;have q2:(ByteArray.mk #[41]).size=1:=rfl;unfold zXH;split
 ·omega
 ·simp only[ByteArray.size_append,q1,q2];omega
theorem zTZ (c:Cr) (s:ByteArray):(zWU c s).size<=s.size+2:=by
 have q1:(ByteArray.mk #[40]).size=1:=rfl;have q2:(ByteArray.mk #[41]).size=1:=rfl;unfold zWU;split
 ·omega
 ·simp only[ByteArray.size_append,q1,q2];omega
theorem zVT {c:Cr} {s:ByteArray} (hc:zI2 c s) (hs:s.size<=100000000):zC Tryz.prog zQE [eC c] (str (zXH c s)):=by
 refine zG ttok mixed Tryz.func69 rfl (by rfl) (Nat.le_of_ble_eq_true rfl) (by kernel_rfl) ?_;refine .inl ⟨_,zPD [1,2,3,4,6] hc (by decide) hs,?_⟩;exact rfl
theorem zTO {c:Cr} {s:ByteArray} (hc:zI2 c s) (hs:s.size<=100000000):zC Tryz.prog zN5 [eC c] (str (zWU c s)):=by
 refine zG ttok mixed Tryz.func70 rfl (by rfl) (Nat.le_of_ble_eq_true rfl) (by kernel_rfl) ?_;refine .inl ⟨_,zPD [1,2,3] hc (by decide) hs,?_⟩;exact rfl
theorem zT4 {s p:ByteArray} {a c:Cr} (ha:zI2 a s) (hc:zI2 c p) (hs:s.size+p.size<=10000000):zI2 (zB1 a c) (zXH a s++⟨#[32]⟩++zWU c p):=by
 refine zG ttok mixed Tryz.func24 rfl (by rfl) (Nat.le_of_ble_eq_true rfl) (by kernel_rfl) ?_;refine .inl ⟨_,zJB,?_⟩;refine⟨fun h=>absurd h (by simp[Cr.f]),fun _=>?_⟩;refine⟨fun _=>?_,fun h=>absurd h (by simp[Cr.f])⟩;have q1:(ByteArray.mk #[32]).size=1:=rfl;have h1:=zU7 a s;have h2:=zTZ c p;refine⟨eC a,by omega,rfl,rfl,?_⟩;refine .inl ⟨_,zVT ha (by omega),?_⟩;refine⟨by simp only[ByteArray.size_append,q1];omega,?_⟩;refine⟨eC c,by omega,rfl,rfl,?_⟩;refine .inl ⟨_,zTO hc (by omega),?_⟩;refine⟨by simp only[ByteArray.size_append,q1];omega,?_⟩;refine⟨by kernel_rfl,?_⟩;exact rfl
theorem z6Z {l:List ByteArray} (h:lett 0∉l):ff l=0:=by
 cases hf:ff l with
 | zero=>rfl
 | succ n=>exact absurd (zD7 l 0 (by omega)) h
abbrev nX:ByteArray:=⟨#[120]⟩
abbrev nY:ByteArray:=⟨#[121]⟩
abbrev nA:ByteArray:=⟨#[97]⟩
theorem zcY:lett 0=nA:=by decide
theorem zYK:plan [nY,nX] [nX] nY [nX]=some [(nX,nA)]:=by
 unfold plan;rw[if_pos (by decide)];have hz:ff ([nY,nX]++[nX]++[nX])=0:=z6Z (by decide);simp only[rens,if_pos (List.mem_singleton.2 rfl),hz,zcY]
theorem zP5 (k:Nat) (s x:ByteArray) (b:Cr):sbF (k+1) (vr s) x b=if s=x then b else vr s:=by rw[sbF,if_pos rfl]
theorem z3K (k:Nat) {a c:Cr} {x:ByteArray} {b:Cr} (h:x∈[a,c].flatMap Cr.fv):sbF (k+1) (zB1 a c) x b=zB1 (sbF k a x b) (sbF k c x b):=by
 rw[sbF,if_neg (by decide),if_neg (by decide)];have hp:plan (((Cr.kid a (.kid c .nil)).parts0).flatMap Cr.fv) (zB1 a c).names0 x b.fv=some []:=by
  unfold plan;rw[if_pos ⟨h,List.not_mem_nil⟩]
  rfl
 rw[hp]
 rfl
theorem z5Z:sbF 5 (zM5 nX (.var nA) (zB1 (vr nY) (vr nX))) nY (vr nX)=zM5 nA (.var nA) (zB1 (vr nX) (vr nA)):=by
 rw[sbF,if_neg (by decide),if_neg (by decide)];have hp:plan (((Cr.kid (zB1 (vr nY) (vr nX)) .nil).parts0).flatMap Cr.fv) (zM5 nX (.var nA) (zB1 (vr nY) (vr nX))).names0 nY (vr nX).fv=some [(nX,nA)]:=zYK;rw[hp];show zM5 (nw [(nX,nA)] nX) (.var nA) (sbF 4 (sbF 4 (zB1 (vr nY) (vr nX)) nX (vr nA)) nY (vr nX))=_;rw[z3K 3 (by decide),zP5,zP5,if_neg (by decide),if_pos rfl,z3K 3 (by decide),zP5,zP5,if_pos rfl,if_neg (by decide)]
 rfl
abbrev z0Z:Cr:=zM5 nX (.var nA) (zB1 (vr nY) (vr nX))
abbrev zR0:Cr:=zM5 nA (.var nA) (zB1 (vr nX) (vr nA))
abbrev zcU:ByteArray:=⟨#[92,97,32,58,32,97,32,45,62,32,120,32,97]⟩
abbrev zc5:ByteArray:=⟨#[40,92,97,32,58,32,97,32,45,62,32,120,32,97,41,32,51]⟩
theorem zW0:Low 2000 nA:=low4 (by simp[qO])
theorem zb7:TyS (.var nA):=⟨zW0,by decide,by decide⟩
theorem zaC {a c:Cr} (ha:a.isN=true) (ha2:a.Ok) (hc:c.isN=true) (hc2:c.Ok):(zB1 a c).Ok:=⟨rfl,fun h=>absurd h (by decide),fun h=>absurd h (by decide),rfl,fun h=>absurd rfl h,fun h=>absurd rfl h,List.nodup_nil,ha,rfl,ha2,hc,rfl,hc2,trivial⟩
theorem zaW {s:ByteArray} {t:Tp} {c:Cr} (hc:c.isN=true) (hc2:c.Ok):(zM5 s t c).Ok:=⟨rfl,fun h=>absurd h (by decide),fun h=>absurd h (by decide),rfl,fun h=>absurd rfl h,fun h=>absurd rfl h,List.nodup_nil,hc,rfl,hc2,trivial⟩
theorem zP0 (s r:ByteArray):Sm (zB1 (vr s) (vr r)):=⟨rfl,zaC rfl (zHC _) rfl (zHC _),by simp[Cr.wt,Tp.sz],⟨trivial,⟨trivial,trivial⟩,⟨trivial,trivial⟩,trivial⟩⟩
theorem zXT (s p q:ByteArray):Sm (zM5 s (.var nA) (zB1 (vr p) (vr q))):=⟨rfl,zaW rfl (zP0 p q).ok,by simp[Cr.wt,Tp.sz],⟨zW0,(zP0 p q).low,trivial⟩⟩
theorem zcK:Sm z0Z:=zXT _ _ _
theorem liveSmD:Sm zR0:=zXT _ _ _
theorem zdI (n:Int):Sm (zYM n):=⟨rfl,⟨rfl,fun h=>absurd h (by decide),fun h=>absurd h (by decide),rfl,fun h=>absurd rfl h,fun h=>absurd rfl h,List.nodup_nil,trivial⟩,by simp[Cr.wt,Tp.sz],⟨trivial,trivial⟩⟩
theorem z2L:zC Tryz.prog xI [eC z0Z,str nY,eC (vr nX)] (eC zR0):=by
 have h:=zZ9 5 z0Z nY (vr nX) zcK (by decide) (zK8 _);rw[z5Z] at h;exact h
theorem z6H:zC Tryz.prog zAQ [eTy (.var nA)] (str nA):=zZ8 (dec:=fun _ => .empty) (fun _=>by decide) (.var nA) (by decide) (by show nA.size<=4;decide) (fun n hn=>absurd hn List.not_mem_nil)
theorem zW6:zI2 zR0 zcU:=by
 have h:=zcD (s:=nA) z6H (zT4 (zWS (s:=nX) (.inl rfl)) (zWS (s:=nA) (.inl rfl)) (by decide)) (by decide);exact h
theorem z8I:zI2 (zYM 3) ⟨#[51]⟩:=by
 have h:=zXJ (n:=3) (by decide);rw[wQ (by decide)] at h;exact zbP h
theorem z7X:zI2 (zB1 zR0 (zYM 3)) zc5:=zT4 zW6 z8I (by decide)
theorem z5X:zC Tryz.prog 19 [] (.sb true):=by
 refine zG ttok mixed Tryz.func19 rfl (by rfl) (Nat.le_of_ble_eq_true rfl) (by kernel_rfl) ?_;refine .inl ⟨_,zU2 nA,?_⟩;refine .inl ⟨_,zID nY,?_⟩;refine .inl ⟨_,zID nX,?_⟩;refine .inl ⟨_,zRU (f:=vr nY) (l:=[vr nX]) (zK8 _).own (fun c hc=>by rw[List.mem_singleton.1 hc];exact (zK8 _).own) (by decide),?_⟩;refine .inl ⟨_,z4M (s:=nX) (c:=zB1 (vr nY) (vr nX)) zb7 (zP0 _ _).own,?_⟩;refine .inl ⟨_,zID nX,?_⟩;refine .inl ⟨_,z2L,?_⟩;refine⟨by kernel_rfl,?_⟩;refine .inl ⟨_,zW6,?_⟩;refine⟨fun _=>?_,fun h=>absurd h (by decide)⟩;refine .inl ⟨_,z14 3,?_⟩;refine .inl ⟨_,zRU (f:=zR0) (l:=[zYM 3]) liveSmD.own (fun c hc=>by rw[List.mem_singleton.1 hc];exact (zdI 3).own) (by decide),?_⟩;refine .inl ⟨_,z7X,?_⟩;refine⟨by kernel_rfl,?_⟩;exact rfl
theorem zBP {φ:Cr->Cr} {τ:Tp->Tp} {ν:ByteArray->ByteArray} {α:List ByteArray->Cr->List ByteArray×Cr} (hφ:∀p:Cr,p.Few->(φ p).Few) (hα:∀(vs:List ByteArray) (p:Cr),vs.length<=10000->p.Few->(α vs p).1.length<=10000/\(α vs p).2.Few) (g:Cr):g.Few->(yC φ τ ν α g).Few:=by
 induction g with
 | nil=>exact fun h=>h
 | node f n s t g _=>exact fun h=>h
 | kid p r _ ih=>exact fun h=>⟨hφ p h.1,ih h.2⟩
 | bind x t p r _ ih=>exact fun h=>⟨hφ p h.1,ih h.2⟩
 | alt f n s vs p r _ ih=>exact fun h=>⟨(hα vs p h.1 h.2.1).1,(hα vs p h.1 h.2.1).2,ih h.2.2⟩
theorem zWN (k:Nat):∀(c:Cr) (v:ByteArray) (t:Tp),c.Few->(stF k c v t).Few:=by
 induction k with
 | zero=>intro c v t h;cases c<;>exact h
 | succ k ih =>
  intro c v t h;cases c with
  | node f n s ty g =>
   unfold stF;split
   ·split
    ·exact h
    ·split
     ·exact zBP (fun p hp=>ih _ _ _ (ih _ _ _ hp)) (fun vs p h1 h2=>⟨h1,h2⟩) g h
     ·exact zBP (fun p hp=>ih _ _ _ hp) (fun vs p h1 h2=>⟨h1,h2⟩) g h
   ·exact zBP (fun p hp=>ih _ _ _ hp) (fun vs p h1 h2=>⟨h1,ih _ _ _ h2⟩) g h
  | _=>exact h
theorem zQY {k:Nat} (ih:∀(c:Cr) (x:ByteArray) (b:Cr),c.Few->b.Few->(sbF k c x b).Few):∀(rs:List (ByteArray×ByteArray)) (p:Cr),p.Few->(rs.foldl (fun p q=>sbF k p q.1 (vr q.2)) p).Few
 | [],p,h=>h
 | q::rs,p,h=>zQY ih rs _ (ih p q.1 (vr q.2) h trivial)
theorem z8S (k:Nat):∀(c:Cr) (x:ByteArray) (b:Cr),c.Few->b.Few->(sbF k c x b).Few:=by
 induction k with
 | zero=>intro c x b h hb;cases c<;>exact h
 | succ k ih =>
  intro c x b h hb;cases c with
  | node f n s ty g =>
   have hα:∀(vs:List ByteArray) (p:Cr),vs.length<=10000->p.Few->(wP (fun rs p=>sbF k (rs.foldl (fun p q=>sbF k p q.1 (vr q.2)) p) x b) x b.fv vs p).1.length<=10000/\(wP (fun rs p=>sbF k (rs.foldl (fun p q=>sbF k p q.1 (vr q.2)) p) x b) x b.fv vs p).2.Few:=by
    intro vs p h1 h2;unfold wP;split
    ·exact⟨h1,h2⟩
    ·exact⟨by simpa using h1,ih _ _ _ (zQY ih _ _ h2) hb⟩
   unfold sbF;split
   ·split
    ·exact hb
    ·exact h
   ·split
    ·split
     ·split
      ·exact zBP (fun p hp=>ih _ _ _ (zWN k _ _ _ hp) hb) (fun vs p h1 h2=>⟨h1,h2⟩) g h
      ·exact zBP (fun p hp=>ih _ _ _ hp hb) (fun vs p h1 h2=>⟨h1,h2⟩) g h
     ·exact h
    ·split
     ·exact zBP (fun p hp=>hp) hα g h
     ·exact zBP (fun p hp=>ih _ _ _ (zQY ih _ _ hp) hb) hα g h
  | _=>exact h
noncomputable def oft (c:Cr) (x:ByteArray):Nat:=y9 (dbc c [] []) x
noncomputable def sgO (x:ByteArray) (b:Cr) (y:ByteArray):DC:=if y=x then dbc b [] [] else .fr y
theorem z2M {c b:Cr} {x:ByteArray} {N:Nat} (hc:c.Ok) (hn:c.isN=true) (hb:b.Ok) (hbn:b.isN=true) (hs:c.sz<=N):dbc (sbF N c x b) [] []=sbD (sgO x b) .fr (dbc c [] []):=by
 refine zaK N c x b [] [] [] (sgO x b) hc hn hb hbn hs fun y hy => .inr ⟨List.not_mem_nil,fun z _=>List.not_mem_nil,fun z _=>List.not_mem_nil,?_⟩;unfold sgO wH;by_cases h:y=x
 ·rw[if_pos h,if_pos h.symm]
 ·rw[if_neg h,if_neg (Ne.symm h),zJC]
theorem z9A {c b:Cr} {x:ByteArray} {N:Nat} (hc:c.Ok) (hn:c.isN=true) (hb:b.Ok) (hbn:b.isN=true) (hs:c.sz<=N):(sbF N c x b).sz+oft c x=c.sz+oft c x*b.sz:=by
 have h:=zbI (dbc c [] []) x (dbc b [] []) (sgO x b) .fr (if_pos rfl) (fun y hy=>if_neg hy);rw[<-z2M hc hn hb hbn hs,zKM _ _ _ (zD2 N c x b hn hc hbn hb).2.1,zKM _ _ _ hc,zKM _ _ _ hb] at h;exact h
theorem z9C (d:DC) (x:ByteArray):y9 d x<=szD d:=by
 induction d with
 | nil=>exact Nat.le_refl _
 | bv i=>exact Nat.zero_le _
 | fr s=>simp only[y9,szD];split<;>omega
 | node f n s t g ih=>simp only[y9,szD];omega
 | kid p r ihp ihr=>simp only[y9,szD];omega
 | bind t p r ihp ihr=>simp only[y9,szD];omega
 | alt f n s k p r ihp ihr=>simp only[y9,szD];omega
theorem zcB {c:Cr} (hc:c.Ok) (x:ByteArray):oft c x<=c.sz:=by
 have h:=z9C (dbc c [] []) x;rw[zKM _ _ _ hc] at h;exact h
theorem z3B {c b:Cr} {x:ByteArray} (hc:Sm c) (hb:Sm b):(sbF 590 c x b).sz+oft c x=c.sz+oft c x*b.sz/\oft c x*b.sz<=590*590:=by
 refine⟨z9A hc.ok hc.n hb.ok hb.n hc.sz,Nat.mul_le_mul ?_ hb.sz⟩;have:=zcB hc.ok x;have:=hc.sz;omega
end Go.Proofs.YtgonkhaebmfgiaaGreatDoor
