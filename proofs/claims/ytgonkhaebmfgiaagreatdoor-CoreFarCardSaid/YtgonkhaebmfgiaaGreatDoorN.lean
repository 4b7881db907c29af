/- The makers of core: constructors, numbers, lambdas, what is given others. No condition but on what own asks. -/
import Derived.Test.YtgonkhaebmfgiaaGreatDoorM
set_option linter.unusedSimpArgs false
set_option linter.unusedVariables false
namespace Go.Proofs.YtgonkhaebmfgiaaGreatDoor
open Go Fp
set_option maxRecDepth 10000
set_option maxHeartbeats 8000000
set_option linter.unusedVariables false
abbrev zXO (n:Int):Cr := .node 3 n .empty .no .nil
abbrev zCN (s:ByteArray) (t:Tp) (c:Cr):Cr := .node 5 0 s t (.kid c .nil)
abbrev zBJ (a b:Cr):Cr := .node 4 0 .empty .no (.kid a (.kid b .nil))
theorem z03 (n:Int):zF Tryz.prog zS2 [.lit (.int .i64 n)] (eC (zXO n)):=by
 refine zJ ttok mixed Tryz.func29 rfl (by rfl) (Nat.le_of_ble_eq_true rfl) (by kernel_rfl) ?_;exact rfl
def zVB (c:Cr):Prop:=zF Tryz.prog xQ [eC c] (eC c)
theorem Sm.own {c:Cr} (h:Sm c):zVB c:=zGD h.gd (by have:=h.sz;omega)
theorem zQH {s:ByteArray} {t:Tp} {c:Cr} (ht:TyS t) (hc:zVB c):zF Tryz.prog zS8 [str s,eTy t,eC c] (eC (zCN s t c)):=by
 refine zJ ttok mixed Tryz.func30 rfl (by rfl) (Nat.le_of_ble_eq_true rfl) (by kernel_rfl) ?_;refine .inl ⟨_,zS5 ht,?_⟩;refine .inl ⟨_,hc,?_⟩;refine⟨by kernel_rfl,?_⟩;exact rfl
theorem zQO {f:Cr} {l:List Cr} (hf:zVB f) (hl:∀c∈l,zVB c) (hlen:l.length<=1000000):zF Tryz.prog zSL [eC f,.sl (eCs l)] (eC (l.foldl zBJ f)):=by
 refine zJ ttok mixed Tryz.func32 rfl (by rfl) (Nat.le_of_ble_eq_true rfl) (by kernel_rfl) ?_;refine .inl ⟨_,hf,?_⟩;refine⟨{k:Nat // k<=l.length},fun k=>{vs:=[(4,.box 0 eZ),(5,.box 0 (eC ((l.take k.1).foldl zBJ f))),(10,.v (.sl (eCs l))),(11,sv (l.length:Nat)),(12,sv (k.1:Nat))]},fun k=>l.length-k.1,⟨0,Nat.zero_le _⟩,?_,?_⟩
 ·exact⟨⟨rfl,rfl,rfl,by show sv _=sv _;simp[eCs],rfl,trivial⟩,trivial,rfl⟩
 rintro⟨k,hk⟩;refine⟨fun h=>?_,fun h=>?_⟩
 ·have h:k<l.length:=by
   have h:=of_decide_eq_true h;simp only at h;omega
  refine⟨eC l[k],by omega,(by show (eCs l)[k]? = _;simp[eCs,List.getElem?_eq_getElem h]),rfl,?_⟩;refine .inl ⟨_,hl _ (List.getElem_mem h),?_⟩;refine⟨by kernel_rfl,?_⟩;refine⟨⟨k+1,h⟩,by simp;omega,⟨rfl,?_,rfl,rfl,svc (wrap_succ (k:=k) (by omega)),trivial⟩,trivial,rfl⟩;show SV.box 0 (eC (zBJ ((l.take k).foldl zBJ f) l[k]))=SV.box 0 (eC ((l.take (k+1)).foldl zBJ f));rw[<-List.take_append_getElem h,List.foldl_append];rfl
 ·have h:k=l.length:=by
   have h:=of_decide_eq_false h;simp only at h;omega
  subst h;show eC (List.foldl zBJ f (List.take l.length l))=_;rw[List.take_length]
theorem zXX:zF Tryz.prog zFP [eTy .no,.lit (.int .i64 0)] (str .empty):=by
 refine zJ ttok mixed Tryz.func112 rfl (by rfl) (Nat.le_of_ble_eq_true rfl) (by kernel_rfl) ?_;refine .inl ⟨_,zBA .no,?_⟩;refine⟨fun h=>absurd h (by decide),fun _=>?_⟩;refine⟨fun h=>absurd h (by decide),fun _=>?_⟩;refine⟨fun h=>absurd h (by decide),fun _=>?_⟩;refine⟨fun h=>absurd h (by decide),fun _=>?_⟩;refine⟨fun h=>absurd h (by decide),fun _=>?_⟩;exact rfl
theorem zIH:zF Tryz.prog jW [eTy .no] (str .empty):=by
 refine zJ ttok mixed Tryz.func67 rfl (by rfl) (Nat.le_of_ble_eq_true rfl) (by kernel_rfl) ?_;refine .inl ⟨_,zXX,?_⟩;exact rfl
def zII (c:Cr) (s:ByteArray):Prop:=zF Tryz.prog zOZ [eC c] (str s)
theorem z5Y {n:Int} {s:ByteArray} (h:zF Tryz.prog xP [.lit (.int .i64 n)] (str s)):zII (zXO n) s:=by
 refine zJ ttok mixed Tryz.func24 rfl (by rfl) (Nat.le_of_ble_eq_true rfl) (by kernel_rfl) ?_;refine .inl ⟨_,zIH,?_⟩;refine⟨fun _=>?_,fun h=>absurd h (by simp[Cr.f])⟩;refine .inl ⟨_,h,?_⟩;exact rfl
theorem zVX {f:Int} {s:ByteArray} (hf:f=1∨f=2):zII (.node f 0 s .no .nil) s:=by
 refine zJ ttok mixed Tryz.func24 rfl (by rfl) (Nat.le_of_ble_eq_true rfl) (by kernel_rfl) ?_;refine .inl ⟨_,zIH,?_⟩;rcases hf with rfl|rfl
 ·refine⟨fun h=>absurd h (by simp[Cr.f]),fun _=>?_⟩;refine⟨fun h=>absurd h (by simp[Cr.f]),fun _=>?_⟩;refine⟨fun h=>absurd h (by simp[Cr.f]),fun _=>?_⟩;refine⟨fun h=>absurd h (by simp[Cr.f]),fun _=>?_⟩;refine⟨fun h=>absurd h (by simp[Cr.f]),fun _=>?_⟩;refine⟨fun h=>absurd h (by simp[Cr.f]),fun _=>?_⟩;refine⟨fun h=>absurd h (by simp[Cr.f]),fun _=>?_⟩;refine⟨fun h=>absurd h (by simp[Cr.f]),fun _=>?_⟩;refine⟨fun h=>absurd h (by simp[Cr.f]),fun _=>?_⟩;exact rfl
 ·refine⟨fun h=>absurd h (by simp[Cr.f]),fun _=>?_⟩;refine⟨fun h=>absurd h (by simp[Cr.f]),fun _=>?_⟩;refine⟨fun h=>absurd h (by simp[Cr.f]),fun _=>?_⟩;refine⟨fun h=>absurd h (by simp[Cr.f]),fun _=>?_⟩;refine⟨fun h=>absurd h (by simp[Cr.f]),fun _=>?_⟩;refine⟨fun h=>absurd h (by simp[Cr.f]),fun _=>?_⟩;refine⟨fun h=>absurd h (by simp[Cr.f]),fun _=>?_⟩;refine⟨fun h=>absurd h (by simp[Cr.f]),fun _=>?_⟩;refine⟨fun h=>absurd h (by simp[Cr.f]),fun _=>?_⟩;exact rfl
theorem z7S {s u p:ByteArray} {t:Tp} {c:Cr} (ht:zF Tryz.prog jW [eTy t] (str u)) (hc:zII c p) (hs:s.size+u.size+p.size<=100000000):zII (zCN s t c) (⟨#[92]⟩++s++⟨#[32,58,32]⟩++u++⟨#[32,45,62,32]⟩++p):=by
 refine zJ ttok mixed Tryz.func24 rfl (by rfl) (Nat.le_of_ble_eq_true rfl) (by kernel_rfl) ?_;refine .inl ⟨_,ht,?_⟩;refine⟨fun h=>absurd h (by simp[Cr.f]),fun _=>?_⟩;refine⟨fun h=>absurd h (by simp[Cr.f]),fun _=>?_⟩;refine⟨fun _=>?_,fun h=>absurd h (by simp[Cr.f])⟩;have q1:(ByteArray.mk #[92]).size=1:=rfl;have q2:(ByteArray.mk #[32,58,32]).size=3:=rfl;have q3:(ByteArray.mk #[32,45,62,32]).size=4:=rfl;have e1:(zCN s t c).s=s:=rfl;refine⟨by simp only[ByteArray.size_append,q1,e1];omega,?_⟩;refine⟨by simp only[ByteArray.size_append,q1,q2,e1];omega,?_⟩;refine⟨by simp only[ByteArray.size_append,q1,q2,e1];omega,?_⟩;refine⟨by simp only[ByteArray.size_append,q1,q2,q3,e1];omega,?_⟩;refine⟨eC c,by omega,rfl,rfl,?_⟩;refine .inl ⟨_,hc,?_⟩;refine⟨by simp only[ByteArray.size_append,q1,q2,q3,e1];omega,?_⟩;refine⟨by kernel_rfl,?_⟩;exact rfl
theorem zNN {c:Cr} {s:ByteArray} (l:List Int) (hc:zII c s) (hl:l.length<=1000) (hs:s.size<=100000000):zF Tryz.prog zMQ [eC c,.sl (eIs l)] (str (if c.f∈l then s else ⟨#[40]⟩++s++⟨#[41]⟩)):=by
 refine zJ ttok mixed Tryz.func114 rfl (by rfl) (Nat.le_of_ble_eq_true rfl) (by kernel_rfl) ?_;refine .inl ⟨_,zPI (l:=l) (s:=c.f) (by omega),?_⟩;refine⟨fun h=>?_,fun h=>?_⟩
 ·rw[if_pos (memb_iff.1 h)];refine .inl ⟨_,hc,?_⟩;exact rfl
 ·rw[if_neg fun hm=>by rw[memb_iff.2 hm] at h;cases h];have q1:(ByteArray.mk #[40]).size=1:=rfl;have q2:(ByteArray.mk #[41]).size=1:=rfl;refine .inl ⟨_,hc,?_⟩;refine⟨by simp only[ByteArray.size_append,q1];omega,?_⟩;refine⟨by simp only[ByteArray.size_append,q1,q2];omega,?_⟩;exact rfl
def zU7 (c:Cr) (s:ByteArray):ByteArray:=if c.f∈([1,2,3,4,6]:List Int) then s else ⟨#[40]⟩++s++⟨#[41]⟩
def zU1 (c:Cr) (s:ByteArray):ByteArray:=if c.f∈([1,2,3]:List Int) then s else ⟨#[40]⟩++s++⟨#[41]⟩
theorem zT3 (c:Cr) (s:ByteArray):(zU7 c s).size<=s.size+2:=by
 have q1:(ByteArray.mk #[40]).size=1:=rfl;have q2:(ByteArray.mk #[41]).size=1:=rfl;unfold zU7;split
 ·omega
 ·simp only[ByteArray.size_append,q1,q2];omega
theorem zTA (c:Cr) (s:ByteArray):(zU1 c s).size<=s.size+2:=by
 have q1:(ByteArray.mk #[40]).size=1:=rfl;have q2:(ByteArray.mk #[41]).size=1:=rfl;unfold zU1;split
 ·omega
 ·simp only[ByteArray.size_append,q1,q2];omega
theorem zTS {c:Cr} {s:ByteArray} (hc:zII c s) (hs:s.size<=100000000):zF Tryz.prog zPL [eC c] (str (zU7 c s)):=by
 refine zJ ttok mixed Tryz.func69 rfl (by rfl) (Nat.le_of_ble_eq_true rfl) (by kernel_rfl) ?_;refine .inl ⟨_,zNN [1,2,3,4,6] hc (by decide) hs,?_⟩;exact rfl
theorem zP4 {c:Cr} {s:ByteArray} (hc:zII c s) (hs:s.size<=100000000):zF Tryz.prog zMR [eC c] (str (zU1 c s)):=by
 refine zJ ttok mixed Tryz.func70 rfl (by rfl) (Nat.le_of_ble_eq_true rfl) (by kernel_rfl) ?_;refine .inl ⟨_,zNN [1,2,3] hc (by decide) hs,?_⟩;exact rfl
theorem zT0 {s p:ByteArray} {a c:Cr} (ha:zII a s) (hc:zII c p) (hs:s.size+p.size<=10000000):zII (zBJ a c) (zU7 a s++⟨#[32]⟩++zU1 c p):=by
 refine zJ ttok mixed Tryz.func24 rfl (by rfl) (Nat.le_of_ble_eq_true rfl) (by kernel_rfl) ?_;refine .inl ⟨_,zIH,?_⟩;refine⟨fun h=>absurd h (by simp[Cr.f]),fun _=>?_⟩;refine⟨fun _=>?_,fun h=>absurd h (by simp[Cr.f])⟩;have q1:(ByteArray.mk #[32]).size=1:=rfl;have h1:=zT3 a s;have h2:=zTA c p;refine⟨eC a,by omega,rfl,rfl,?_⟩;refine .inl ⟨_,zTS ha (by omega),?_⟩;refine⟨by simp only[ByteArray.size_append,q1];omega,?_⟩;refine⟨eC c,by omega,rfl,rfl,?_⟩;refine .inl ⟨_,zP4 hc (by omega),?_⟩;refine⟨by simp only[ByteArray.size_append,q1];omega,?_⟩;refine⟨by kernel_rfl,?_⟩;exact rfl
theorem z3G {l:List ByteArray} (h:lett 0∉l):ff l=0:=by
 cases hf:ff l with
 | zero=>rfl
 | succ n=>exact absurd (zIE l 0 (by omega)) h
abbrev nX:ByteArray:=⟨#[120]⟩
abbrev nY:ByteArray:=⟨#[121]⟩
abbrev nA:ByteArray:=⟨#[97]⟩
theorem z9K:lett 0=nA:=by decide
theorem zWD:plan [nY,nX] [nX] nY [nX]=some [(nX,nA)]:=by
 unfold plan;rw[if_pos (by decide)];have hz:ff ([nY,nX]++[nX]++[nX])=0:=z3G (by decide);simp only[rens,if_pos (List.mem_singleton.2 rfl),hz,z9K]
theorem zOU (k:Nat) (s x:ByteArray) (b:Cr):sbF (k+1) (vr s) x b=if s=x then b else vr s:=by rw[sbF,if_pos rfl]
theorem z1A (k:Nat) {a c:Cr} {x:ByteArray} {b:Cr} (h:x∈[a,c].flatMap Cr.fv):sbF (k+1) (zBJ a c) x b=zBJ (sbF k a x b) (sbF k c x b):=by
 rw[sbF,if_neg (by decide),if_neg (by decide)];have hp:plan (((Cr.kid a (.kid c .nil)).parts0).flatMap Cr.fv) (zBJ a c).names0 x b.fv=some []:=by
  unfold plan;rw[if_pos ⟨h,List.not_mem_nil⟩]
  rfl
 rw[hp]
 rfl
theorem z2G:sbF 5 (zCN nX (.var nA) (zBJ (vr nY) (vr nX))) nY (vr nX)=zCN nA (.var nA) (zBJ (vr nX) (vr nA)):=by
 rw[sbF,if_neg (by decide),if_neg (by decide)];have hp:plan (((Cr.kid (zBJ (vr nY) (vr nX)) .nil).parts0).flatMap Cr.fv) (zCN nX (.var nA) (zBJ (vr nY) (vr nX))).names0 nY (vr nX).fv=some [(nX,nA)]:=zWD;rw[hp];show zCN (nw [(nX,nA)] nX) (.var nA) (sbF 4 (sbF 4 (zBJ (vr nY) (vr nX)) nX (vr nA)) nY (vr nX))=_;rw[z1A 3 (by decide),zOU,zOU,if_neg (by decide),if_pos rfl,z1A 3 (by decide),zOU,zOU,if_pos rfl,if_neg (by decide)]
 rfl
abbrev zZJ:Cr:=zCN nX (.var nA) (zBJ (vr nY) (vr nX))
abbrev zQP:Cr:=zCN nA (.var nA) (zBJ (vr nX) (vr nA))
abbrev z9Y:ByteArray:=⟨#[92,97,32,58,32,97,32,45,62,32,120,32,97]⟩
abbrev z9I:ByteArray:=⟨#[40,92,97,32,58,32,97,32,45,62,32,120,32,97,41,32,51]⟩
theorem zVH:Low 2000 nA:=low4 (by simp[xW])
theorem z7L:TyS (.var nA):=⟨zVH,by decide,by decide⟩
theorem z7W {a c:Cr} (ha:a.isN=true) (ha2:a.Ok) (hc:c.isN=true) (hc2:c.Ok):(zBJ a c).Ok:=⟨rfl,fun h=>absurd h (by decide),fun h=>absurd h (by decide),rfl,fun h=>absurd rfl h,fun h=>absurd rfl h,List.nodup_nil,ha,rfl,ha2,hc,rfl,hc2,trivial⟩
theorem z1H {s:ByteArray} {t:Tp} {c:Cr} (hc:c.isN=true) (hc2:c.Ok):(zCN s t c).Ok:=⟨rfl,fun h=>absurd h (by decide),fun h=>absurd h (by decide),rfl,fun h=>absurd rfl h,fun h=>absurd rfl h,List.nodup_nil,hc,rfl,hc2,trivial⟩
theorem zOI (s r:ByteArray):Sm (zBJ (vr s) (vr r)):=⟨rfl,z7W rfl (zBT _) rfl (zBT _),by simp[Cr.wt,Tp.sz],⟨trivial,⟨trivial,trivial⟩,⟨trivial,trivial⟩,trivial⟩⟩
theorem zVI (s p q:ByteArray):Sm (zCN s (.var nA) (zBJ (vr p) (vr q))):=⟨rfl,z1H rfl (zOI p q).ok,by simp[Cr.wt,Tp.sz],⟨zVH,(zOI p q).low,trivial⟩⟩
theorem z8S:Sm zZJ:=zVI _ _ _
theorem liveSmD:Sm zQP:=zVI _ _ _
theorem z9G (n:Int):Sm (zXO n):=⟨rfl,⟨rfl,fun h=>absurd h (by decide),fun h=>absurd h (by decide),rfl,fun h=>absurd rfl h,fun h=>absurd rfl h,List.nodup_nil,trivial⟩,by simp[Cr.wt,Tp.sz],⟨trivial,trivial⟩⟩
theorem z0V:zF Tryz.prog yL [eC zZJ,str nY,eC (vr nX)] (eC zQP):=by
 have h:=zXU 5 zZJ nY (vr nX) z8S (by decide) (zRO _);rw[z2G] at h;exact h
theorem z4K:zF Tryz.prog jW [eTy (.var nA)] (str nA):=zWU (dec:=fun _ => .empty) (fun _=>by decide) (.var nA) (by decide) (by show nA.size<=4;decide) (fun n hn=>absurd hn List.not_mem_nil)
theorem zVJ:zII zQP z9Y:=by
 have h:=z7S (s:=nA) z4K (zT0 (zVX (s:=nX) (.inl rfl)) (zVX (s:=nA) (.inl rfl)) (by decide)) (by decide);exact h
theorem z2Y:zII (zXO 3) ⟨#[51]⟩:=by
 have h:=zVZ (n:=3) (by decide);rw[zAY (by decide)] at h;exact z5Y h
theorem z2Q:zII (zBJ zQP (zXO 3)) z9I:=zT0 zVJ z2Y (by decide)
theorem z01:zF Tryz.prog 19 [] (.sb true):=by
 refine zJ ttok mixed Tryz.func19 rfl (by rfl) (Nat.le_of_ble_eq_true rfl) (by kernel_rfl) ?_;refine .inl ⟨_,zOJ nA,?_⟩;refine .inl ⟨_,zB8 nY,?_⟩;refine .inl ⟨_,zB8 nX,?_⟩;refine .inl ⟨_,zQO (f:=vr nY) (l:=[vr nX]) (zRO _).own (fun c hc=>by rw[List.mem_singleton.1 hc];exact (zRO _).own) (by decide),?_⟩;refine .inl ⟨_,zQH (s:=nX) (c:=zBJ (vr nY) (vr nX)) z7L (zOI _ _).own,?_⟩;refine .inl ⟨_,zB8 nX,?_⟩;refine .inl ⟨_,z0V,?_⟩;refine⟨by kernel_rfl,?_⟩;refine .inl ⟨_,zVJ,?_⟩;refine⟨fun _=>?_,fun h=>absurd h (by decide)⟩;refine .inl ⟨_,z03 3,?_⟩;refine .inl ⟨_,zQO (f:=zQP) (l:=[zXO 3]) liveSmD.own (fun c hc=>by rw[List.mem_singleton.1 hc];exact (z9G 3).own) (by decide),?_⟩;refine .inl ⟨_,z2Q,?_⟩;refine⟨by kernel_rfl,?_⟩;exact rfl
theorem zA4 {φ:Cr->Cr} {τ:Tp->Tp} {ν:ByteArray->ByteArray} {α:List ByteArray->Cr->List ByteArray×Cr} (hφ:∀p:Cr,p.Few->(φ p).Few) (hα:∀(vs:List ByteArray) (p:Cr),vs.length<=10000->p.Few->(α vs p).1.length<=10000/\(α vs p).2.Few) (g:Cr):g.Few->(zZ φ τ ν α g).Few:=by
 induction g with
 | nil=>exact fun h=>h
 | node f n s t g _=>exact fun h=>h
 | kid p r _ ih=>exact fun h=>⟨hφ p h.1,ih h.2⟩
 | bind x t p r _ ih=>exact fun h=>⟨hφ p h.1,ih h.2⟩
 | alt f n s vs p r _ ih=>exact fun h=>⟨(hα vs p h.1 h.2.1).1,(hα vs p h.1 h.2.1).2,ih h.2.2⟩
theorem zG1 (k:Nat):∀(c:Cr) (v:ByteArray) (t:Tp),c.Few->(stF k c v t).Few:=by
 induction k with
 | zero=>intro c v t h;cases c<;>exact h
 | succ k ih =>
  intro c v t h;cases c with
  | node f n s ty g =>
   unfold stF;split
   ·split
    ·exact h
    ·split
     ·exact zA4 (fun p hp=>ih _ _ _ (ih _ _ _ hp)) (fun vs p h1 h2=>⟨h1,h2⟩) g h
     ·exact zA4 (fun p hp=>ih _ _ _ hp) (fun vs p h1 h2=>⟨h1,h2⟩) g h
   ·exact zA4 (fun p hp=>ih _ _ _ hp) (fun vs p h1 h2=>⟨h1,ih _ _ _ h2⟩) g h
  | _=>exact h
theorem zO0 {k:Nat} (ih:∀(c:Cr) (x:ByteArray) (b:Cr),c.Few->b.Few->(sbF k c x b).Few):∀(rs:List (ByteArray×ByteArray)) (p:Cr),p.Few->(rs.foldl (fun p q=>sbF k p q.1 (vr q.2)) p).Few
 | [],p,h=>h
 | q::rs,p,h=>zO0 ih rs _ (ih p q.1 (vr q.2) h trivial)
theorem zPE (k:Nat):∀(c:Cr) (x:ByteArray) (b:Cr),c.Few->b.Few->(sbF k c x b).Few:=by
 induction k with
 | zero=>intro c x b h hb;cases c<;>exact h
 | succ k ih =>
  intro c x b h hb;cases c with
  | node f n s ty g =>
   have hα:∀(vs:List ByteArray) (p:Cr),vs.length<=10000->p.Few->(wE (fun rs p=>sbF k (rs.foldl (fun p q=>sbF k p q.1 (vr q.2)) p) x b) x b.fv vs p).1.length<=10000/\(wE (fun rs p=>sbF k (rs.foldl (fun p q=>sbF k p q.1 (vr q.2)) p) x b) x b.fv vs p).2.Few:=by
    intro vs p h1 h2;unfold wE;split
    ·exact⟨h1,h2⟩
    ·exact⟨by simpa using h1,ih _ _ _ (zO0 ih _ _ h2) hb⟩
   unfold sbF;split
   ·split
    ·exact hb
    ·exact h
   ·split
    ·split
     ·split
      ·exact zA4 (fun p hp=>ih _ _ _ (zG1 k _ _ _ hp) hb) (fun vs p h1 h2=>⟨h1,h2⟩) g h
      ·exact zA4 (fun p hp=>ih _ _ _ hp hb) (fun vs p h1 h2=>⟨h1,h2⟩) g h
     ·exact h
    ·split
     ·exact zA4 (fun p hp=>hp) hα g h
     ·exact zA4 (fun p hp=>ih _ _ _ (zO0 ih _ _ hp) hb) hα g h
  | _=>exact h
noncomputable def oft (c:Cr) (x:ByteArray):Nat:=yK (dbc c [] []) x
noncomputable def sgO (x:ByteArray) (b:Cr) (y:ByteArray):DC:=if y=x then dbc b [] [] else .fr y
theorem zLO {c b:Cr} {x:ByteArray} {N:Nat} (hc:c.Ok) (hn:c.isN=true) (hb:b.Ok) (hbn:b.isN=true) (hs:c.sz<=N):dbc (sbF N c x b) [] []=sbD (sgO x b) .fr (dbc c [] []):=by
 refine zT1 N c x b [] [] [] (sgO x b) hc hn hb hbn hs fun y hy => .inr ⟨List.not_mem_nil,fun z _=>List.not_mem_nil,fun z _=>List.not_mem_nil,?_⟩;unfold sgO x9;by_cases h:y=x
 ·rw[if_pos h,if_pos h.symm]
 ·rw[if_neg h,if_neg (Ne.symm h),zIA]
theorem z4D {c b:Cr} {x:ByteArray} {N:Nat} (hc:c.Ok) (hn:c.isN=true) (hb:b.Ok) (hbn:b.isN=true) (hs:c.sz<=N):(sbF N c x b).sz+oft c x=c.sz+oft c x*b.sz:=by
 have h:=z6U (dbc c [] []) x (dbc b [] []) (sgO x b) .fr (if_pos rfl) (fun y hy=>if_neg hy);rw[<-zLO hc hn hb hbn hs,zFB _ _ _ (qK N c x b hn hc hbn hb).2.1,zFB _ _ _ hc,zFB _ _ _ hb] at h;exact h
theorem z4U (d:DC) (x:ByteArray):yK d x<=szD d:=by
 induction d with
 | nil=>exact Nat.le_refl _
 | bv i=>exact Nat.zero_le _
 | fr s=>simp only[yK,szD];split<;>omega
 | node f n s t g ih=>simp only[yK,szD];omega
 | kid p r ihp ihr=>simp only[yK,szD];omega
 | bind t p r ihp ihr=>simp only[yK,szD];omega
 | alt f n s k p r ihp ihr=>simp only[yK,szD];omega
theorem z7R {c:Cr} (hc:c.Ok) (x:ByteArray):oft c x<=c.sz:=by
 have h:=z4U (dbc c [] []) x;rw[zFB _ _ _ hc] at h;exact h
end Go.Proofs.YtgonkhaebmfgiaaGreatDoor
