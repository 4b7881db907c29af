/- Core in print, by the code: forms without binds. Within: the table of tens, as it is. No condition but on what there is within. -/
import Derived.Test.YtgonkhaebmfgiaaGreatDoorY
import Derived.Test.YtgonkhaebmfgiaaGreatDoorX
set_option linter.unusedSimpArgs false
set_option linter.unusedVariables false
namespace Go.Proofs.YtgonkhaebmfgiaaGreatDoor
open Go Fp
set_option maxRecDepth 10000
set_option maxHeartbeats 16000000
set_option linter.unusedVariables false
abbrev Cp (f:Nat) (ob:Obj) (args:List AV) (s:ByteArray):Prop:=CallsG Tryz.prog (fnv f) (kb ob) args [] (fun r o h=>r=str s/\o=0/\h=kb ob)
abbrev CpS (ob:Obj) (c:Cr) (s:ByteArray):Prop:=Cp 24 ob [eC c] s
theorem zJ4 {ob:Obj} {c:Cr} {s:ByteArray} (l:List Int) (hc:CpS ob c s) (hl:l.length<=1000) (hs:s.size<=100000000):Cp 114 ob [eC c,.sl (eIs l)] (if c.f∈l then s else ⟨#[40]⟩++s++⟨#[41]⟩):=by
 refine yC (first:=[]) (cap:=[]) ttok mixed Tryz.func114 rfl (by rfl) rfl (Nat.le_of_ble_eq_true rfl) (by kernel_rfl) ?_;refine .inl ⟨_,zFV (l:=l) (s:=c.f) (by omega),?_⟩;refine⟨fun h=>?_,fun h=>?_⟩
 ·rw[if_pos (memb_iff.1 h)];refine .inr (.inr (.inl ⟨[0],kb ob,_,rfl,by decide,hc,?_⟩));exact⟨rfl,rfl,rfl⟩
 ·rw[if_neg fun hm=>by rw[memb_iff.2 hm] at h;cases h];have q1:(ByteArray.mk #[40]).size=1:=rfl;have q2:(ByteArray.mk #[41]).size=1:=rfl;refine .inr (.inr (.inl ⟨[0],kb ob,_,rfl,by decide,hc,?_⟩));refine⟨by simp only[ByteArray.size_append,q1];omega,?_⟩;refine⟨by simp only[ByteArray.size_append,q1,q2];omega,?_⟩;exact⟨rfl,rfl,rfl⟩
theorem zLI {ob:Obj} {c:Cr} {s:ByteArray} (hc:CpS ob c s) (hs:s.size<=100000000):Cp 69 ob [eC c] (zCW c s):=by
 refine yC (first:=[]) (cap:=[]) ttok mixed Tryz.func69 rfl (by rfl) rfl (Nat.le_of_ble_eq_true rfl) (by kernel_rfl) ?_;refine .inr (.inr (.inl ⟨[0],kb ob,_,rfl,by decide,zJ4 [1,2,3,4,6] hc (by decide) hs,?_⟩));exact⟨rfl,rfl,rfl⟩
theorem zE1 {ob:Obj} {c:Cr} {s:ByteArray} (hc:CpS ob c s) (hs:s.size<=100000000):Cp 70 ob [eC c] (zB0 c s):=by
 refine yC (first:=[]) (cap:=[]) ttok mixed Tryz.func70 rfl (by rfl) rfl (Nat.le_of_ble_eq_true rfl) (by kernel_rfl) ?_;refine .inr (.inr (.inl ⟨[0],kb ob,_,rfl,by decide,zJ4 [1,2,3] hc (by decide) hs,?_⟩));exact⟨rfl,rfl,rfl⟩
theorem cp1 {ob:Obj} {n:Int} {s:ByteArray} {t:Tp} {g:Cr} {u:ByteArray} (hT:zF Tryz.prog 67 [eTy t] (str u))  : CpS ob (.node 1 n s t g) (s):=by
 refine yC (first:=[]) (cap:=[]) ttok mixed Tryz.func24 rfl (by rfl) rfl (Nat.le_of_ble_eq_true rfl) (by kernel_rfl) ?_;refine .inl ⟨_,hT,?_⟩;refine⟨fun h=>absurd h (by simp[Cr.f]),fun _=>?_⟩;refine⟨fun h=>absurd h (by simp[Cr.f]),fun _=>?_⟩;refine⟨fun h=>absurd h (by simp[Cr.f]),fun _=>?_⟩;refine⟨fun h=>absurd h (by simp[Cr.f]),fun _=>?_⟩;refine⟨fun h=>absurd h (by simp[Cr.f]),fun _=>?_⟩;refine⟨fun h=>absurd h (by simp[Cr.f]),fun _=>?_⟩;refine⟨fun h=>absurd h (by simp[Cr.f]),fun _=>?_⟩;refine⟨fun h=>absurd h (by simp[Cr.f]),fun _=>?_⟩;refine⟨fun h=>absurd h (by simp[Cr.f]),fun _=>?_⟩;exact⟨rfl,rfl,rfl⟩
theorem cp2 {ob:Obj} {n:Int} {s:ByteArray} {t:Tp} {g:Cr} {u:ByteArray} (hT:zF Tryz.prog 67 [eTy t] (str u))  : CpS ob (.node 2 n s t g) (s):=by
 refine yC (first:=[]) (cap:=[]) ttok mixed Tryz.func24 rfl (by rfl) rfl (Nat.le_of_ble_eq_true rfl) (by kernel_rfl) ?_;refine .inl ⟨_,hT,?_⟩;refine⟨fun h=>absurd h (by simp[Cr.f]),fun _=>?_⟩;refine⟨fun h=>absurd h (by simp[Cr.f]),fun _=>?_⟩;refine⟨fun h=>absurd h (by simp[Cr.f]),fun _=>?_⟩;refine⟨fun h=>absurd h (by simp[Cr.f]),fun _=>?_⟩;refine⟨fun h=>absurd h (by simp[Cr.f]),fun _=>?_⟩;refine⟨fun h=>absurd h (by simp[Cr.f]),fun _=>?_⟩;refine⟨fun h=>absurd h (by simp[Cr.f]),fun _=>?_⟩;refine⟨fun h=>absurd h (by simp[Cr.f]),fun _=>?_⟩;refine⟨fun h=>absurd h (by simp[Cr.f]),fun _=>?_⟩;exact⟨rfl,rfl,rfl⟩
theorem cp3 {ob:Obj} {n:Int} {s:ByteArray} {t:Tp} {g:Cr} {u:ByteArray} (hT:zF Tryz.prog 67 [eTy t] (str u)) (hob:Tb ob) (hn : -3<=n/\n<100):CpS ob (.node 3 n s t g) (dci n):=by
 refine yC (first:=[]) (cap:=[]) ttok mixed Tryz.func24 rfl (by rfl) rfl (Nat.le_of_ble_eq_true rfl) (by kernel_rfl) ?_;refine .inl ⟨_,hT,?_⟩;refine⟨fun _=>?_,fun h=>absurd h (by simp[Cr.f])⟩;refine .inr (.inr (.inl ⟨[0],kb ob,_,rfl,by decide,zYQ hob (n:=n) (by omega) (by omega),?_⟩));exact⟨rfl,rfl,rfl⟩
theorem cp4 {ob:Obj} {n:Int} {s:ByteArray} {t:Tp} {g:Cr} {u:ByteArray} (hT:zF Tryz.prog 67 [eTy t] (str u)) {p q:Cr} {a b:ByteArray} (hk:g.kids=[p,q]) (hp:CpS ob p a) (hq:CpS ob q b) (ha:a.size<=20000000) (hb:b.size<=20000000):CpS ob (.node 4 n s t g) (zCW p a++⟨#[32]⟩++zB0 q b):=by
 have s1:=yX p a;have s2:=xG q b;refine yC (first:=[]) (cap:=[]) ttok mixed Tryz.func24 rfl (by rfl) rfl (Nat.le_of_ble_eq_true rfl) (by kernel_rfl) ?_;refine .inl ⟨_,hT,?_⟩;refine⟨fun h=>absurd h (by simp[Cr.f]),fun _=>?_⟩;refine⟨fun _=>?_,fun h=>absurd h (by simp[Cr.f])⟩;refine⟨eC p,by omega,zA6 hk,rfl,?_⟩;refine .inr (.inr (.inl ⟨[0],kb ob,_,rfl,by decide,zLI hp (by omega),?_⟩));refine⟨by simp only[psz,b1,b92,b35,b93,bco,beq',bar',bbr,bLa,blet,bin',bcase,bof,bfail,Cr.s,Cr.t];omega,?_⟩;refine⟨eC q,by omega,zTF hk,rfl,?_⟩;refine .inr (.inr (.inl ⟨[0],kb ob,_,rfl,by decide,zE1 hq (by omega),?_⟩));refine⟨by simp only[psz,b1,b92,b35,b93,bco,beq',bar',bbr,bLa,blet,bin',bcase,bof,bfail,Cr.s,Cr.t];omega,?_⟩;refine⟨by kernel_rfl,?_⟩;exact⟨rfl,rfl,rfl⟩
theorem cp5 {ob:Obj} {n:Int} {s:ByteArray} {t:Tp} {g:Cr} (hT:zF Tryz.prog 67 [eTy t] (str (P0 t))) (hz:(P0 t).size<=29500) {p:Cr} {a:ByteArray} (hk:g.kids=[p]) (hp:CpS ob p a) (ha:a.size<=20000000) (hs:s.size<=5):CpS ob (.node 5 n s t g) (((((⟨#[92]⟩++s)++⟨#[32,58,32]⟩)++P0 t)++⟨#[32,45,62,32]⟩)++a):=by
 refine yC (first:=[]) (cap:=[]) ttok mixed Tryz.func24 rfl (by rfl) rfl (Nat.le_of_ble_eq_true rfl) (by kernel_rfl) ?_;refine .inl ⟨_,hT,?_⟩;refine⟨fun h=>absurd h (by simp[Cr.f]),fun _=>?_⟩;refine⟨fun h=>absurd h (by simp[Cr.f]),fun _=>?_⟩;refine⟨fun _=>?_,fun h=>absurd h (by simp[Cr.f])⟩;refine⟨by simp only[psz,b1,b92,b35,b93,bco,beq',bar',bbr,bLa,blet,bin',bcase,bof,bfail,Cr.s,Cr.t];omega,?_⟩;refine⟨by simp only[psz,b1,b92,b35,b93,bco,beq',bar',bbr,bLa,blet,bin',bcase,bof,bfail,Cr.s,Cr.t];omega,?_⟩;refine⟨by simp only[psz,b1,b92,b35,b93,bco,beq',bar',bbr,bLa,blet,bin',bcase,bof,bfail,Cr.s,Cr.t];omega,?_⟩;refine⟨by simp only[psz,b1,b92,b35,b93,bco,beq',bar',bbr,bLa,blet,bin',bcase,bof,bfail,Cr.s,Cr.t];omega,?_⟩;refine⟨eC p,by omega,zA6 hk,rfl,?_⟩;refine .inr (.inr (.inl ⟨[0],kb ob,_,rfl,by decide,hp,?_⟩));refine⟨by simp only[psz,b1,b92,b35,b93,bco,beq',bar',bbr,bLa,blet,bin',bcase,bof,bfail,Cr.s,Cr.t];omega,?_⟩;refine⟨by kernel_rfl,?_⟩;exact⟨rfl,rfl,rfl⟩
theorem cp6 {ob:Obj} {n:Int} {s:ByteArray} {t:Tp} {g:Cr} (hT:zF Tryz.prog 67 [eTy t] (str (P0 t))) (hz:(P0 t).size<=29500) {p:Cr} {a:ByteArray} (hk:g.kids=[p]) (hp:CpS ob p a) (ha:a.size<=20000000) (hs:s.size<=5):CpS ob (.node 6 n s t g) (((zCW p a++⟨#[32,91]⟩)++P0 t)++⟨#[93]⟩):=by
 have s1:=yX p a;refine yC (first:=[]) (cap:=[]) ttok mixed Tryz.func24 rfl (by rfl) rfl (Nat.le_of_ble_eq_true rfl) (by kernel_rfl) ?_;refine .inl ⟨_,hT,?_⟩;refine⟨fun h=>absurd h (by simp[Cr.f]),fun _=>?_⟩;refine⟨fun h=>absurd h (by simp[Cr.f]),fun _=>?_⟩;refine⟨fun h=>absurd h (by simp[Cr.f]),fun _=>?_⟩;refine⟨fun _=>?_,fun h=>absurd h (by simp[Cr.f])⟩;refine⟨eC p,by omega,zA6 hk,rfl,?_⟩;refine .inr (.inr (.inl ⟨[0],kb ob,_,rfl,by decide,zLI hp (by omega),?_⟩));refine⟨by simp only[psz,b1,b92,b35,b93,bco,beq',bar',bbr,bLa,blet,bin',bcase,bof,bfail,Cr.s,Cr.t];omega,?_⟩;refine⟨by simp only[psz,b1,b92,b35,b93,bco,beq',bar',bbr,bLa,blet,bin',bcase,bof,bfail,Cr.s,Cr.t];omega,?_⟩;refine⟨by simp only[psz,b1,b92,b35,b93,bco,beq',bar',bbr,bLa,blet,bin',bcase,bof,bfail,Cr.s,Cr.t];omega,?_⟩;exact⟨rfl,rfl,rfl⟩
theorem cp7 {ob:Obj} {n:Int} {s:ByteArray} {t:Tp} {g:Cr} {u:ByteArray} (hT:zF Tryz.prog 67 [eTy t] (str u)) {p:Cr} {a:ByteArray} (hk:g.kids=[p]) (hp:CpS ob p a) (ha:a.size<=20000000) (hs:s.size<=5):CpS ob (.node 7 n s t g) (((⟨#[47,92]⟩++s)++⟨#[32,45,62,32]⟩)++a):=by
 refine yC (first:=[]) (cap:=[]) ttok mixed Tryz.func24 rfl (by rfl) rfl (Nat.le_of_ble_eq_true rfl) (by kernel_rfl) ?_;refine .inl ⟨_,hT,?_⟩;refine⟨fun h=>absurd h (by simp[Cr.f]),fun _=>?_⟩;refine⟨fun h=>absurd h (by simp[Cr.f]),fun _=>?_⟩;refine⟨fun h=>absurd h (by simp[Cr.f]),fun _=>?_⟩;refine⟨fun h=>absurd h (by simp[Cr.f]),fun _=>?_⟩;refine⟨fun _=>?_,fun h=>absurd h (by simp[Cr.f])⟩;refine⟨by simp only[psz,b1,b92,b35,b93,bco,beq',bar',bbr,bLa,blet,bin',bcase,bof,bfail,Cr.s,Cr.t];omega,?_⟩;refine⟨by simp only[psz,b1,b92,b35,b93,bco,beq',bar',bbr,bLa,blet,bin',bcase,bof,bfail,Cr.s,Cr.t];omega,?_⟩;refine⟨eC p,by omega,zA6 hk,rfl,?_⟩;refine .inr (.inr (.inl ⟨[0],kb ob,_,rfl,by decide,hp,?_⟩));refine⟨by simp only[psz,b1,b92,b35,b93,bco,beq',bar',bbr,bLa,blet,bin',bcase,bof,bfail,Cr.s,Cr.t];omega,?_⟩;refine⟨by kernel_rfl,?_⟩;exact⟨rfl,rfl,rfl⟩
theorem cp10 {ob:Obj} {n:Int} {s:ByteArray} {t:Tp} {g:Cr} {u:ByteArray} (hT:zF Tryz.prog 67 [eTy t] (str u)) {p q:Cr} {a b:ByteArray} (hk:g.kids=[p,q]) (hp:CpS ob p a) (hq:CpS ob q b) (ha:a.size<=20000000) (hb:b.size<=20000000) (hs:s.size<=5):CpS ob (.node 10 n s t g) ((((⟨#[35]⟩++s)++⟨#[32]⟩)++zB0 p a)++⟨#[32]⟩++zB0 q b):=by
 have s1:=xG p a;have s2:=xG q b;refine yC (first:=[]) (cap:=[]) ttok mixed Tryz.func24 rfl (by rfl) rfl (Nat.le_of_ble_eq_true rfl) (by kernel_rfl) ?_;refine .inl ⟨_,hT,?_⟩;refine⟨fun h=>absurd h (by simp[Cr.f]),fun _=>?_⟩;refine⟨fun h=>absurd h (by simp[Cr.f]),fun _=>?_⟩;refine⟨fun h=>absurd h (by simp[Cr.f]),fun _=>?_⟩;refine⟨fun h=>absurd h (by simp[Cr.f]),fun _=>?_⟩;refine⟨fun h=>absurd h (by simp[Cr.f]),fun _=>?_⟩;refine⟨fun h=>absurd h (by simp[Cr.f]),fun _=>?_⟩;refine⟨fun h=>absurd h (by simp[Cr.f]),fun _=>?_⟩;refine⟨fun _=>?_,fun h=>absurd h (by simp[Cr.f])⟩;refine⟨by simp only[psz,b1,b92,b35,b93,bco,beq',bar',bbr,bLa,blet,bin',bcase,bof,bfail,Cr.s,Cr.t];omega,?_⟩;refine⟨by simp only[psz,b1,b92,b35,b93,bco,beq',bar',bbr,bLa,blet,bin',bcase,bof,bfail,Cr.s,Cr.t];omega,?_⟩;refine⟨eC p,by omega,zA6 hk,rfl,?_⟩;refine .inr (.inr (.inl ⟨[0],kb ob,_,rfl,by decide,zE1 hp (by omega),?_⟩));refine⟨by simp only[psz,b1,b92,b35,b93,bco,beq',bar',bbr,bLa,blet,bin',bcase,bof,bfail,Cr.s,Cr.t];omega,?_⟩;refine⟨by simp only[psz,b1,b92,b35,b93,bco,beq',bar',bbr,bLa,blet,bin',bcase,bof,bfail,Cr.s,Cr.t];omega,?_⟩;refine⟨eC q,by omega,zTF hk,rfl,?_⟩;refine .inr (.inr (.inl ⟨[0],kb ob,_,rfl,by decide,zE1 hq (by omega),?_⟩));refine⟨by simp only[psz,b1,b92,b35,b93,bco,beq',bar',bbr,bLa,blet,bin',bcase,bof,bfail,Cr.s,Cr.t];omega,?_⟩;refine⟨by kernel_rfl,?_⟩;exact⟨rfl,rfl,rfl⟩
theorem z5W {ob:Obj} {n:Int} {s:ByteArray} {t:Tp} {g:Cr} (hT:zF Tryz.prog 67 [eTy t] (str (P0 t))) (hz:(P0 t).size<=29500)  : CpS ob (.node 11 n s t g) ((⟨#[102,97,105,108,32,91]⟩++P0 t)++⟨#[93]⟩):=by
 refine yC (first:=[]) (cap:=[]) ttok mixed Tryz.func24 rfl (by rfl) rfl (Nat.le_of_ble_eq_true rfl) (by kernel_rfl) ?_;refine .inl ⟨_,hT,?_⟩;refine⟨fun h=>absurd h (by simp[Cr.f]),fun _=>?_⟩;refine⟨fun h=>absurd h (by simp[Cr.f]),fun _=>?_⟩;refine⟨fun h=>absurd h (by simp[Cr.f]),fun _=>?_⟩;refine⟨fun h=>absurd h (by simp[Cr.f]),fun _=>?_⟩;refine⟨fun h=>absurd h (by simp[Cr.f]),fun _=>?_⟩;refine⟨fun h=>absurd h (by simp[Cr.f]),fun _=>?_⟩;refine⟨fun h=>absurd h (by simp[Cr.f]),fun _=>?_⟩;refine⟨fun h=>absurd h (by simp[Cr.f]),fun _=>?_⟩;refine⟨fun _=>?_,fun h=>absurd h (by simp[Cr.f])⟩;refine⟨by simp only[psz,b1,b92,b35,b93,bco,beq',bar',bbr,bLa,blet,bin',bcase,bof,bfail,Cr.s,Cr.t];omega,?_⟩;refine⟨by simp only[psz,b1,b92,b35,b93,bco,beq',bar',bbr,bLa,blet,bin',bcase,bof,bfail,Cr.s,Cr.t];omega,?_⟩;exact⟨rfl,rfl,rfl⟩
section
open Go Go.RowKit Go.Shelf Go.Proofs Go.Lib
set_option maxRecDepth 100000
set_option linter.unusedSimpArgs false
theorem zUF (bs o n c:Nat) (xs:List Value) (w:World) (hn:0<n) (hb:n<=1000000) (hxl:xs.length=n) (hcells:∀j u,xs[j]? = some u->w.cell? ⟨bs,o+j,none⟩=some u) (hone:∀u∈xs,u.oneCell'=true) :
  Calls Tryz.prog 74 #[.slice (some ⟨bs,o,none⟩) n c] w fun e w' => ∃cap,e = .returned (.slice (some ⟨w.heap.size+1,0,none⟩) n cap)/\n<=cap/\cap<=maxLen /\
   w'=(w.alloc (.cells #[] 9)).drew.alloc (.cells (xs.toArray++Builtin.zeroCells (Value.string ⟨#[]⟩).cells (cap-n)) 9):=by
 have mixed:=Tryz.laysIns.mixed;have u47:Tryz.prog.underlying 47=some (.slice 9):=Tryz.laysIns.t24;obtain⟨i0,hi0,hz0,hz1,hz2⟩:=info_parts Tryz.laysIns.i9;have hi0:Tryz.prog.info? 9=some i0:=hi0;have t4:=Tryz.laysIns.t4;have a4:=Tryz.laysIns.a4;have z4:=Tryz.laysIns.z4;have v4:=Tryz.laysIns.v4;have t9:=Tryz.laysIns.t9;have a9:=Tryz.laysIns.a9;have z9:=Tryz.laysIns.z9;have v9:=Tryz.laysIns.v9;have t24:=Tryz.laysIns.t24;have a24:=Tryz.laysIns.a24;have z24:=Tryz.laysIns.z24;have v24:=Tryz.laysIns.v24;have q47:∀(w:World) (a:Option Addr) (n c n' c':Nat),(binOp .eql 47 (.slice a n c) (.slice none n' c')).run Tryz.prog w = .ok (.bool a.isNone) w:=fun w a n c n' c'=>Lib.run_eql_slice_nil w _ _ a n c n' c' u47;have r47:∀w,Sem.run Tryz.prog (underlying 47) w = .ok (TypeDesc.slice 9) w:=run_underlying u47;have hsrc:Src Tryz.prog i0.size 47 (.slice (some ⟨bs,o,none⟩) n c) n xs (w.alloc (.cells #[] 9)):=by
  refine Src.ofSlice _ u47 ⟨bs,o,none⟩ n c xs (by rw[hz1,hxl,Nat.mul_one]) (fun j u hj=>?_) hone;rw[Addr.add_lit];exact Lib.cell?_alloc_some _ (hcells j u hj)
 have hold:(Builtin.firstCells i0.size 0 (.slice (some ⟨w.heap.size,0,none⟩) 0 0)).run Tryz.prog (w.alloc (.cells #[] 9)).drew = .ok ([]:List Value).toArray (w.alloc (.cells #[] 9)).drew :=
  run_firstCells_some _ i0.size 0 ⟨w.heap.size,0,none⟩ 0 0 [] (by simp) (fun j v hj=>by simp at hj)
 have hrz:∀ty,(Builtin.append_ #[47,47] ty #[.slice (some ⟨w.heap.size,0,none⟩) 0 0,.slice (some ⟨bs,o,none⟩) n c]).run Tryz.prog (w.alloc (.cells #[] 9)) =
   .ok (.slice (some ⟨w.heap.size+1,0,none⟩) n (grownCap (w.alloc (.cells #[] 9)) n 0 9)) ((w.alloc (.cells #[] 9)).drew.alloc (.cells (xs.toArray++Builtin.zeroCells (Value.string ⟨#[]⟩).cells (grownCap (w.alloc (.cells #[] 9)) n 0 9-n)) 9)):=fun ty=>by
  have h:=run_append_grow_src (P:=Tryz.prog) (w:=w.alloc (.cells #[] 9)) 47 47 ty 9 i0 _ u47 hi0 hz0 (some ⟨w.heap.size,0,none⟩) 0 0 [] hold (.slice (some ⟨bs,o,none⟩) n c) n xs hsrc (by omega) (by omega) (growslice_fits (by omega) (by rw[hz2];omega));rw[Nat.zero_add,List.nil_append,show (w.alloc (.cells #[] 9)).heap.size=w.heap.size+1 from Array.size_push _] at h;exact h
 have hle:=grownCap_ge (w.alloc (.cells #[] 9)) n 0 9;have hml:=grownCap_le_maxLen (w.alloc (.cells #[] 9)) n 0 9 (by unfold maxLen;omega);generalize grownCap (w.alloc (.cells #[] 9)) n 0 9=G at hrz hle hml
 go_enter Tryz.func74,Tryz.ntmps74
 go_wp2_with (at_builtin;refine Lib.wpList_append_run _ rfl _ _ _ _ rfl _ _ rfl rfl _ _ (hrz _) ?_)
 go_ret
 exact⟨G,rfl,hle,hml,rfl⟩
end
def zWN (l:List ByteArray) (r:AV) (o:Nat) (h:List (Nat×HO)):Prop:=o=0/\∃v:VA,r=slA v l.length/\h=blk v l.length (flR (eSs l) v.z)/\Cln v l/\v.cap<=9223372036854775807
theorem zUE (l:List ByteArray) (hl:l.length<=1000000):CallsG Tryz.prog (fnv 74) [] [.sl (eSs l)] [] (zWN l):=by
 cases l with
 | nil =>
  refine cloneQ0.post fun r o h hp=>?_;obtain⟨h0,v,hr,hb,h1,_⟩:=hp;exact⟨h0,v,hr,by rw[hb,List.length_nil];rfl,⟨fun _=>h1 rfl,fun h=>absurd rfl h⟩,by rw[h1 rfl];decide⟩
 | cons x r =>
  refine⟨74,#[],#[],rfl,⟨Tryz.f74,Tryz.func74,rfl,rfl⟩,fun F w vs hfr hh ha hy=>?_⟩;have hlen:=ha.len
  match vs,hlen with
  | [v],_ =>
   have hv:=ha.rep 0 v _ rfl rfl;have hyk:yD [v] []=[]:=by cases v<;>rfl
   rw[hyk];generalize hq:eSs (x::r)=q at hv;have e0:∀{v},(#[]:Array Value)++[v].toArray ++ #[] = #[v]:=by simp
   rw[e0];cases hv with
   | slNil=>exact absurd hq (by simp[eSs])
   | slZ a=>exact absurd hq (by simp[eSs])
   | sl b off n cap sz _ us hn hc hsz hcl hcell hrep =>
    subst hq;have hnl:n=(x::r).length:=by rw[<-hn];simp[eSs]
    subst hnl;have hsz1:sz=1:=by
     have:=hsz (.lit (.string x)) (by simp[eSs]);simpa[AV.cells] using this.symm
    subst hsz1;refine (zUF b off (x::r).length cap ((x::r).map Value.string) w (by simp) hl (by simp) (fun j u hj=>?_) (fun u hu=>by obtain⟨y,_,rfl⟩:=List.mem_map.1 hu;rfl)).mono fun e w' hp=>?_
    ·rw[List.getElem?_map] at hj;obtain⟨y,hy1,rfl⟩:=Option.map_eq_some_iff.1 hj;have hjl:=(List.getElem?_eq_some_iff.1 hy1).1;have h1:=(hcell j (by omega)).1;have h2:=hrep j (.lit (.string y)) 0 (.lit (.string y)) (by show ((x::r).map _)[j]? = _;rw[List.getElem?_map,hy1];rfl) rfl;rw[Nat.mul_one,Nat.add_zero] at h2;rw[h1,h2.lit_eq.1]
    ·obtain⟨cap',rfl,q1,q2,rfl⟩:=hp;obtain⟨z,hz⟩:=zeroS (cap'-(x::r).length);have hzl:z.length=cap'-(x::r).length:=by
      have h:=(hz noF w).1;rw[Array.length_toList] at h;rw[<-h];simp[Builtin.zeroCells,Value.cells]
     have g1:=Grow.alloc w (.cells #[] 9);have g2:=Grow.drew (w.alloc (.cells #[] 9));have g3:=Grow.alloc (w.alloc (.cells #[] 9)).drew (.cells (((x::r).map Value.string).toArray++Builtin.zeroCells (Value.string ⟨#[]⟩).cells (cap'-(x::r).length)) 9);have hg:=(g1.trans g2).trans g3;have hnew:=World.heap_alloc_new (w.alloc (.cells #[] 9)).drew (.cells (((x::r).map Value.string).toArray++Builtin.zeroCells (Value.string ⟨#[]⟩).cells (cap'-(x::r).length)) 9);have hs1:(w.alloc (.cells #[] 9)).drew.heap.size=w.heap.size+1:=Array.size_push _;rw[hs1] at hnew;generalize hW:(w.alloc (.cells #[] 9)).drew.alloc (.cells (((x::r).map Value.string).toArray++Builtin.zeroCells (Value.string ⟨#[]⟩).cells (cap'-(x::r).length)) 9)=W at hg hnew⊢;have hWs:W.heap.size=w.heap.size+2:=by rw[<-hW];exact (Array.size_push _).trans (congrArg (· + 1) (Array.size_push _))
     refine⟨_,_,0,[(w.heap.size+1,HO.cells (flR (eSs (x::r)) z))],fun b=>if b=w.heap.size+1 then some 0 else F b,rfl,
      ⟨rfl,⟨some ⟨w.heap.size+1,0,none⟩,cap',z⟩,rfl,by simp[blk],⟨fun h=>(by cases h),fun _=>⟨_,rfl,by show cap'=_;rw[hzl];omega⟩⟩,q2⟩,.lit _ rfl,fun sz h=>by omega,
      ⟨hg.os,hg.tape,hg.output,hg.size,fun b hb => .inr (.inr (hg.block b hb))⟩,fun b hb => .inl (by simp[show b≠w.heap.size+1 by omega]),fun b hb=>?_,⟨by simp[keys],fun b hb=>?_,fun y hy=>?_⟩,fun b hb=>?_⟩
     ·simp only;rw[if_neg (by omega)];exact hfr b (by omega)
     ·simp[keys] at hb;subst hb;simp
     ·simp at hy;subst hy;exact⟨_,9,hnew,by rw[Array.toList_append];exact zIJ (hz _ _)⟩
     ·simp[keys] at hb;subst hb;exact .inr (by omega)
theorem zN8 (sep:ByteArray) (l:List ByteArray) (h:(jnS sep l).size<=140737488355328) (hl:l.length<=140737488355328) {b cap:Nat} {z:List AV} (hc:l.length<=cap) :
  CallsG Tryz.prog (fnv 72) [(b,HO.cells (flR (eSs l) z))] [.lit (.slice (some ⟨b,0,none⟩) l.length cap),str sep] [] (fun r o h=>r=str (jnS sep l)/\o=0/\h=[]):=by
 have hf:∀(i:Nat) a a',[AV.lit (.slice (some ⟨b,0,none⟩) l.length cap),str sep][i]? = some a->[AV.sl (eSs l),str sep][i]? = some a'->Frz [(b,HO.cells (flR (eSs l) z))] a a':=fun i a a' ha ha'=>by
  match i with
  | 0 =>
   simp at ha ha';subst ha;subst ha';refine .sl b 0 l.length cap 1 (flR (eSs l) z) (eSs l) (by simp) (zAZ l) hc (xU l) (fun x hx c hc=>?_) (by rw[zA4 (xU l),zAZ];omega) fun i x j c c' hx hj hc'=>?_
   ·obtain⟨y,_,rfl⟩:=List.mem_map.1 hx;simp[AV.cells] at hc;subst hc;rfl
   ·have hi:=(List.getElem?_eq_some_iff.1 hx).1;have hj1:=(List.getElem?_eq_some_iff.1 hj).1;rw[xU l x (List.mem_of_getElem? hx)] at hj1;rw[Nat.zero_add,zCL (xU l) z hi j hj1] at hc';rw[List.getElem?_eq_getElem hi] at hx;injection hx with hx;subst hx
    rw[hj] at hc';injection hc' with hc';subst hc'
    exact .refl _
  | 1=>simp at ha ha';subst ha;subst ha';exact .refl _
  | i+2=>simp at ha
 refine CallsG.less (CallsG.lend (hin:=[(b,HO.cells (flR (eSs l) z))]) (args:=[.lit (.slice (some ⟨b,0,none⟩) l.length cap),str sep]) (zLV sep l h hl) rfl hf (fun F w v hr F' w'=>by rw[hr.lit_eq.1];exact .lit _ rfl)) fun r o h hp=>?_
 ·obtain⟨h1,h2,h3⟩:=hp;exact⟨[],h,rfl,h1,h2,rfl⟩
end Go.Proofs.YtgonkhaebmfgiaaGreatDoor
