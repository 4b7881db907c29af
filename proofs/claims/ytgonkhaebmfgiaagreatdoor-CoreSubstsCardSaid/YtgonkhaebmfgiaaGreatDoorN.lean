/- The makers of core: constructors, numbers, lambdas, what is given others. No condition but on what own asks. -/
import Derived.Test.YtgonkhaebmfgiaaGreatDoorM
set_option linter.unusedSimpArgs false
set_option linter.unusedVariables false
namespace Go.Proofs.YtgonkhaebmfgiaaGreatDoor
open Go Fp
set_option maxRecDepth 10000
set_option maxHeartbeats 8000000
set_option linter.unusedVariables false
abbrev intC (n : Int) : Cr := .node 3 n .empty .no .nil
abbrev lamC (s : ByteArray) (t : Tp) (c : Cr) : Cr := .node 5 0 s t (.kid c .nil)
abbrev appC (a b : Cr) : Cr := .node 4 0 .empty .no (.kid a (.kid b .nil))
theorem int18_ok (n : Int) : ACall Tryz.prog n_core_Int [.lit (.int .i64 n)] (eC (intC n)) := by
 refine acall_of_wcx ttok mixed Tryz.func29 rfl (by rfl) (Nat.le_of_ble_eq_true rfl) (by kernel_rfl) ?_
 exact rfl
def OwnOk (c : Cr) : Prop := ACall Tryz.prog n_core_own [eC c] (eC c)
theorem Sm.own {c : Cr} (h : Sm c) : OwnOk c := coreOwn_ok h.gd (by have := h.sz; omega)
theorem lam18_ok {s : ByteArray} {t : Tp} {c : Cr} (ht : TyS t) (hc : OwnOk c) : ACall Tryz.prog n_core_Lam [str s, eTy t, eC c] (eC (lamC s t c)) := by
 refine acall_of_wcx ttok mixed Tryz.func30 rfl (by rfl) (Nat.le_of_ble_eq_true rfl) (by kernel_rfl) ?_
 refine .inl ⟨_, typ_ok ht, ?_⟩
 refine .inl ⟨_, hc, ?_⟩
 refine ⟨by kernel_rfl, ?_⟩
 exact rfl
theorem app18_ok {f : Cr} {l : List Cr} (hf : OwnOk f) (hl : ∀ c ∈ l, OwnOk c) (hlen : l.length ≤ 1000000) : ACall Tryz.prog n_core_App [eC f, .sl (eCs l)] (eC (l.foldl appC f)) := by
 refine acall_of_wcx ttok mixed Tryz.func32 rfl (by rfl) (Nat.le_of_ble_eq_true rfl) (by kernel_rfl) ?_
 refine .inl ⟨_, hf, ?_⟩
 refine ⟨{k : Nat // k ≤ l.length}, fun k => { vs := [(4, .box 0 eZ), (5, .box 0 (eC ((l.take k.1).foldl appC f))), (10, .v (.sl (eCs l))), (11, sv (l.length : Nat)), (12, sv (k.1 : Nat))] }, fun k => l.length - k.1, ⟨0, Nat.zero_le _⟩, ?_, ?_⟩
 ·exact ⟨⟨rfl, rfl, rfl, by show sv _ = sv _; simp [eCs], rfl, trivial⟩, trivial, rfl⟩
 rintro ⟨k, hk⟩
 refine ⟨fun h => ?_, fun h => ?_⟩
 ·have h : k < l.length := by
   have h := of_decide_eq_true h; simp only at h; omega
  refine ⟨eC l[k], by omega, (by show (eCs l)[k]? = _; simp [eCs, List.getElem?_eq_getElem h]), rfl, ?_⟩
  refine .inl ⟨_, hl _ (List.getElem_mem h), ?_⟩
  refine ⟨by kernel_rfl, ?_⟩
  refine ⟨⟨k + 1, h⟩, by simp; omega, ⟨rfl, ?_, rfl, rfl, svc (wrap_succ (k := k) (by omega)), trivial⟩, trivial, rfl⟩
  show SV.box 0 (eC (appC ((l.take k).foldl appC f) l[k])) = SV.box 0 (eC ((l.take (k + 1)).foldl appC f))
  rw [← List.take_append_getElem h, List.foldl_append]; rfl
 ·have h : k = l.length := by
   have h := of_decide_eq_false h; simp only at h; omega
  subst h
  show eC (List.foldl appC f (List.take l.length l)) = _
  rw [List.take_length]
theorem tprint_no : ACall Tryz.prog n_types_print [eTy .no, .lit (.int .i64 0)] (str .empty) := by
 refine acall_of_wcx ttok mixed Tryz.func112 rfl (by rfl) (Nat.le_of_ble_eq_true rfl) (by kernel_rfl) ?_
 refine .inl ⟨_, parts_ok .no, ?_⟩
 refine ⟨fun h => absurd h (by decide), fun _ => ?_⟩
 refine ⟨fun h => absurd h (by decide), fun _ => ?_⟩
 refine ⟨fun h => absurd h (by decide), fun _ => ?_⟩
 refine ⟨fun h => absurd h (by decide), fun _ => ?_⟩
 refine ⟨fun h => absurd h (by decide), fun _ => ?_⟩
 exact rfl
theorem tPrint_no : ACall Tryz.prog n_types_Print [eTy .no] (str .empty) := by
 refine acall_of_wcx ttok mixed Tryz.func67 rfl (by rfl) (Nat.le_of_ble_eq_true rfl) (by kernel_rfl) ?_
 refine .inl ⟨_, tprint_no, ?_⟩
 exact rfl
def PrOk (c : Cr) (s : ByteArray) : Prop := ACall Tryz.prog n_core_Print [eC c] (str s)
theorem pr_int {n : Int} {s : ByteArray} (h : ACall Tryz.prog n_strconv_Itoa [.lit (.int .i64 n)] (str s)) : PrOk (intC n) s := by
 refine acall_of_wcx ttok mixed Tryz.func24 rfl (by rfl) (Nat.le_of_ble_eq_true rfl) (by kernel_rfl) ?_
 refine .inl ⟨_, tPrint_no, ?_⟩
 refine ⟨fun _ => ?_, fun h => absurd h (by simp [Cr.f])⟩
 refine .inl ⟨_, h, ?_⟩
 exact rfl
theorem pr_leaf {f : Int} {s : ByteArray} (hf : f = 1 ∨ f = 2) : PrOk (.node f 0 s .no .nil) s := by
 refine acall_of_wcx ttok mixed Tryz.func24 rfl (by rfl) (Nat.le_of_ble_eq_true rfl) (by kernel_rfl) ?_
 refine .inl ⟨_, tPrint_no, ?_⟩
 rcases hf with rfl | rfl
 ·refine ⟨fun h => absurd h (by simp [Cr.f]), fun _ => ?_⟩
  refine ⟨fun h => absurd h (by simp [Cr.f]), fun _ => ?_⟩
  refine ⟨fun h => absurd h (by simp [Cr.f]), fun _ => ?_⟩
  refine ⟨fun h => absurd h (by simp [Cr.f]), fun _ => ?_⟩
  refine ⟨fun h => absurd h (by simp [Cr.f]), fun _ => ?_⟩
  refine ⟨fun h => absurd h (by simp [Cr.f]), fun _ => ?_⟩
  refine ⟨fun h => absurd h (by simp [Cr.f]), fun _ => ?_⟩
  refine ⟨fun h => absurd h (by simp [Cr.f]), fun _ => ?_⟩
  refine ⟨fun h => absurd h (by simp [Cr.f]), fun _ => ?_⟩
  exact rfl
 ·refine ⟨fun h => absurd h (by simp [Cr.f]), fun _ => ?_⟩
  refine ⟨fun h => absurd h (by simp [Cr.f]), fun _ => ?_⟩
  refine ⟨fun h => absurd h (by simp [Cr.f]), fun _ => ?_⟩
  refine ⟨fun h => absurd h (by simp [Cr.f]), fun _ => ?_⟩
  refine ⟨fun h => absurd h (by simp [Cr.f]), fun _ => ?_⟩
  refine ⟨fun h => absurd h (by simp [Cr.f]), fun _ => ?_⟩
  refine ⟨fun h => absurd h (by simp [Cr.f]), fun _ => ?_⟩
  refine ⟨fun h => absurd h (by simp [Cr.f]), fun _ => ?_⟩
  refine ⟨fun h => absurd h (by simp [Cr.f]), fun _ => ?_⟩
  exact rfl
theorem pr_lam {s u p : ByteArray} {t : Tp} {c : Cr} (ht : ACall Tryz.prog n_types_Print [eTy t] (str u)) (hc : PrOk c p) (hs : s.size + u.size + p.size ≤ 100000000) : PrOk (lamC s t c) (⟨#[92]⟩ ++ s ++ ⟨#[32, 58, 32]⟩ ++ u ++ ⟨#[32, 45, 62, 32]⟩ ++ p) := by
 refine acall_of_wcx ttok mixed Tryz.func24 rfl (by rfl) (Nat.le_of_ble_eq_true rfl) (by kernel_rfl) ?_
 refine .inl ⟨_, ht, ?_⟩
 refine ⟨fun h => absurd h (by simp [Cr.f]), fun _ => ?_⟩
 refine ⟨fun h => absurd h (by simp [Cr.f]), fun _ => ?_⟩
 refine ⟨fun _ => ?_, fun h => absurd h (by simp [Cr.f])⟩
 have q1 : (ByteArray.mk #[92]).size = 1 := rfl
 have q2 : (ByteArray.mk #[32, 58, 32]).size = 3 := rfl
 have q3 : (ByteArray.mk #[32, 45, 62, 32]).size = 4 := rfl
 have e1 : (lamC s t c).s = s := rfl
 refine ⟨by simp only [ByteArray.size_append, q1, e1]; omega, ?_⟩
 refine ⟨by simp only [ByteArray.size_append, q1, q2, e1]; omega, ?_⟩
 refine ⟨by simp only [ByteArray.size_append, q1, q2, e1]; omega, ?_⟩
 refine ⟨by simp only [ByteArray.size_append, q1, q2, q3, e1]; omega, ?_⟩
 refine ⟨eC c, by omega, rfl, rfl, ?_⟩
 refine .inl ⟨_, hc, ?_⟩
 refine ⟨by simp only [ByteArray.size_append, q1, q2, q3, e1]; omega, ?_⟩
 refine ⟨by kernel_rfl, ?_⟩
 exact rfl
theorem within_ok {c : Cr} {s : ByteArray} (l : List Int) (hc : PrOk c s) (hl : l.length ≤ 1000) (hs : s.size ≤ 100000000) : ACall Tryz.prog n_core_within [eC c, .sl (eIs l)] (str (if c.f ∈ l then s else ⟨#[40]⟩ ++ s ++ ⟨#[41]⟩)) := by
 refine acall_of_wcx ttok mixed Tryz.func114 rfl (by rfl) (Nat.le_of_ble_eq_true rfl) (by kernel_rfl) ?_
 refine .inl ⟨_, containsI_ok (l := l) (s := c.f) (by omega), ?_⟩
 refine ⟨fun h => ?_, fun h => ?_⟩
 ·rw [if_pos (memb_iff.1 h)]
  refine .inl ⟨_, hc, ?_⟩
  exact rfl
 ·rw [if_neg fun hm => by rw [memb_iff.2 hm] at h; cases h]
  have q1 : (ByteArray.mk #[40]).size = 1 := rfl
  have q2 : (ByteArray.mk #[41]).size = 1 := rfl
  refine .inl ⟨_, hc, ?_⟩
  refine ⟨by simp only [ByteArray.size_append, q1]; omega, ?_⟩
  refine ⟨by simp only [ByteArray.size_append, q1, q2]; omega, ?_⟩
  exact rfl
def inFst (c : Cr) (s : ByteArray) : ByteArray := if c.f ∈ ([1, 2, 3, 4, 6] : List Int) then s else ⟨#[40]⟩ ++ s ++ ⟨#[41]⟩
def inSnd (c : Cr) (s : ByteArray) : ByteArray := if c.f ∈ ([1, 2, 3] : List Int) then s else ⟨#[40]⟩ ++ s ++ ⟨#[41]⟩
theorem inFst_size (c : Cr) (s : ByteArray) : (inFst c s).size ≤ s.size + 2 := by
 have q1 : (ByteArray.mk #[40]).size = 1 := rfl
 have q2 : (ByteArray.mk #[41]).size = 1 := rfl
 unfold inFst; split
 ·omega
 ·simp only [ByteArray.size_append, q1, q2]; omega
theorem inSnd_size (c : Cr) (s : ByteArray) : (inSnd c s).size ≤ s.size + 2 := by
 have q1 : (ByteArray.mk #[40]).size = 1 := rfl
 have q2 : (ByteArray.mk #[41]).size = 1 := rfl
 unfold inSnd; split
 ·omega
 ·simp only [ByteArray.size_append, q1, q2]; omega
theorem first18_ok {c : Cr} {s : ByteArray} (hc : PrOk c s) (hs : s.size ≤ 100000000) : ACall Tryz.prog n_core_first [eC c] (str (inFst c s)) := by
 refine acall_of_wcx ttok mixed Tryz.func69 rfl (by rfl) (Nat.le_of_ble_eq_true rfl) (by kernel_rfl) ?_
 refine .inl ⟨_, within_ok [1, 2, 3, 4, 6] hc (by decide) hs, ?_⟩
 exact rfl
theorem second18_ok {c : Cr} {s : ByteArray} (hc : PrOk c s) (hs : s.size ≤ 100000000) : ACall Tryz.prog n_core_second [eC c] (str (inSnd c s)) := by
 refine acall_of_wcx ttok mixed Tryz.func70 rfl (by rfl) (Nat.le_of_ble_eq_true rfl) (by kernel_rfl) ?_
 refine .inl ⟨_, within_ok [1, 2, 3] hc (by decide) hs, ?_⟩
 exact rfl
theorem pr_app {s p : ByteArray} {a c : Cr} (ha : PrOk a s) (hc : PrOk c p) (hs : s.size + p.size ≤ 10000000) : PrOk (appC a c) (inFst a s ++ ⟨#[32]⟩ ++ inSnd c p) := by
 refine acall_of_wcx ttok mixed Tryz.func24 rfl (by rfl) (Nat.le_of_ble_eq_true rfl) (by kernel_rfl) ?_
 refine .inl ⟨_, tPrint_no, ?_⟩
 refine ⟨fun h => absurd h (by simp [Cr.f]), fun _ => ?_⟩
 refine ⟨fun _ => ?_, fun h => absurd h (by simp [Cr.f])⟩
 have q1 : (ByteArray.mk #[32]).size = 1 := rfl
 have h1 := inFst_size a s
 have h2 := inSnd_size c p
 refine ⟨eC a, by omega, rfl, rfl, ?_⟩
 refine .inl ⟨_, first18_ok ha (by omega), ?_⟩
 refine ⟨by simp only [ByteArray.size_append, q1]; omega, ?_⟩
 refine ⟨eC c, by omega, rfl, rfl, ?_⟩
 refine .inl ⟨_, second18_ok hc (by omega), ?_⟩
 refine ⟨by simp only [ByteArray.size_append, q1]; omega, ?_⟩
 refine ⟨by kernel_rfl, ?_⟩
 exact rfl
theorem ff_zero {l : List ByteArray} (h : lett 0 ∉ l) : ff l = 0 := by
 cases hf : ff l with
 | zero => rfl
 | succ n => exact absurd (ff_old l 0 (by omega)) h
abbrev nX : ByteArray := ⟨#[120]⟩
abbrev nY : ByteArray := ⟨#[121]⟩
abbrev nA : ByteArray := ⟨#[97]⟩
theorem lett0 : lett 0 = nA := by decide
theorem live_plan : plan [nY, nX] [nX] nY [nX] = some [(nX, nA)] := by
 unfold plan
 rw [if_pos (by decide)]
 have hz : ff ([nY, nX] ++ [nX] ++ [nX]) = 0 := ff_zero (by decide)
 simp only [rens, if_pos (List.mem_singleton.2 rfl), hz, lett0]
theorem sb_var (k : Nat) (s x : ByteArray) (b : Cr) : sbF (k + 1) (vr s) x b = if s = x then b else vr s := by rw [sbF, if_pos rfl]
theorem sb_app (k : Nat) {a c : Cr} {x : ByteArray} {b : Cr} (h : x ∈ [a, c].flatMap Cr.fv) : sbF (k + 1) (appC a c) x b = appC (sbF k a x b) (sbF k c x b) := by
 rw [sbF, if_neg (by decide), if_neg (by decide)]
 have hp : plan (((Cr.kid a (.kid c .nil)).parts0).flatMap Cr.fv) (appC a c).names0 x b.fv = some [] := by
  unfold plan
  rw [if_pos ⟨h, List.not_mem_nil⟩]
  rfl
 rw [hp]
 rfl
theorem live_sb : sbF 5 (lamC nX (.var nA) (appC (vr nY) (vr nX))) nY (vr nX) = lamC nA (.var nA) (appC (vr nX) (vr nA)) := by
 rw [sbF, if_neg (by decide), if_neg (by decide)]
 have hp : plan (((Cr.kid (appC (vr nY) (vr nX)) .nil).parts0).flatMap Cr.fv) (lamC nX (.var nA) (appC (vr nY) (vr nX))).names0 nY (vr nX).fv = some [(nX, nA)] := live_plan
 rw [hp]
 show lamC (nw [(nX, nA)] nX) (.var nA) (sbF 4 (sbF 4 (appC (vr nY) (vr nX)) nX (vr nA)) nY (vr nX)) = _
 rw [sb_app 3 (by decide), sb_var, sb_var, if_neg (by decide), if_pos rfl, sb_app 3 (by decide), sb_var, sb_var, if_pos rfl, if_neg (by decide)]
 rfl
abbrev liveC : Cr := lamC nX (.var nA) (appC (vr nY) (vr nX))
abbrev liveD : Cr := lamC nA (.var nA) (appC (vr nX) (vr nA))
abbrev liveS : ByteArray := ⟨#[92, 97, 32, 58, 32, 97, 32, 45, 62, 32, 120, 32, 97]⟩
abbrev liveT : ByteArray := ⟨#[40, 92, 97, 32, 58, 32, 97, 32, 45, 62, 32, 120, 32, 97, 41, 32, 51]⟩
theorem liveLow : Low 2000 nA := low4 (by simp [small4])
theorem liveTy : TyS (.var nA) := ⟨liveLow, by decide, by decide⟩
theorem ok_app {a c : Cr} (ha : a.isN = true) (ha2 : a.Ok) (hc : c.isN = true) (hc2 : c.Ok) : (appC a c).Ok := ⟨rfl, fun h => absurd h (by decide), fun h => absurd h (by decide), rfl, fun h => absurd rfl h, fun h => absurd rfl h, List.nodup_nil, ha, rfl, ha2, hc, rfl, hc2, trivial⟩
theorem ok_lam {s : ByteArray} {t : Tp} {c : Cr} (hc : c.isN = true) (hc2 : c.Ok) : (lamC s t c).Ok := ⟨rfl, fun h => absurd h (by decide), fun h => absurd h (by decide), rfl, fun h => absurd rfl h, fun h => absurd rfl h, List.nodup_nil, hc, rfl, hc2, trivial⟩
theorem liveSm1 (s r : ByteArray) : Sm (appC (vr s) (vr r)) := ⟨rfl, ok_app rfl (vr_Ok _) rfl (vr_Ok _), by simp [Cr.wt, Tp.sz], ⟨trivial, ⟨trivial, trivial⟩, ⟨trivial, trivial⟩, trivial⟩⟩
theorem live_sm (s p q : ByteArray) : Sm (lamC s (.var nA) (appC (vr p) (vr q))) := ⟨rfl, ok_lam rfl (liveSm1 p q).ok, by simp [Cr.wt, Tp.sz], ⟨liveLow, (liveSm1 p q).low, trivial⟩⟩
theorem liveSm : Sm liveC := live_sm _ _ _
theorem liveSmD : Sm liveD := live_sm _ _ _
theorem intSm (n : Int) : Sm (intC n) := ⟨rfl, ⟨rfl, fun h => absurd h (by decide), fun h => absurd h (by decide), rfl, fun h => absurd rfl h, fun h => absurd rfl h, List.nodup_nil, trivial⟩, by simp [Cr.wt, Tp.sz], ⟨trivial, trivial⟩⟩
theorem live_sub : ACall Tryz.prog n_core_Subst [eC liveC, str nY, eC (vr nX)] (eC liveD) := by
 have h := substN_ok 5 liveC nY (vr nX) liveSm (by decide) (vr_sm _)
 rw [live_sb] at h
 exact h
theorem live_tp : ACall Tryz.prog n_types_Print [eTy (.var nA)] (str nA) := tprint_ok (dec := fun _ => .empty) (fun _ => by decide) (.var nA) (by decide) (by show nA.size ≤ 4; decide) (fun n hn => absurd hn List.not_mem_nil)
theorem live_p1 : PrOk liveD liveS := by
 have h := pr_lam (s := nA) live_tp (pr_app (pr_leaf (s := nX) (.inl rfl)) (pr_leaf (s := nA) (.inl rfl)) (by decide)) (by decide)
 exact h
theorem live_i3 : PrOk (intC 3) ⟨#[51]⟩ := by
 have h := itoa_ok (n := 3) (by decide)
 rw [dcm_small (by decide)] at h
 exact pr_int h
theorem live_p2 : PrOk (appC liveD (intC 3)) liveT := pr_app live_p1 live_i3 (by decide)
theorem lives_ok : ACall Tryz.prog 19 [] (.sb true) := by
 refine acall_of_wcx ttok mixed Tryz.func19 rfl (by rfl) (Nat.le_of_ble_eq_true rfl) (by kernel_rfl) ?_
 refine .inl ⟨_, var_mk nA, ?_⟩
 refine .inl ⟨_, var18_ok nY, ?_⟩
 refine .inl ⟨_, var18_ok nX, ?_⟩
 refine .inl ⟨_, app18_ok (f := vr nY) (l := [vr nX]) (vr_sm _).own (fun c hc => by rw [List.mem_singleton.1 hc]; exact (vr_sm _).own) (by decide), ?_⟩
 refine .inl ⟨_, lam18_ok (s := nX) (c := appC (vr nY) (vr nX)) liveTy (liveSm1 _ _).own, ?_⟩
 refine .inl ⟨_, var18_ok nX, ?_⟩
 refine .inl ⟨_, live_sub, ?_⟩
 refine ⟨by kernel_rfl, ?_⟩
 refine .inl ⟨_, live_p1, ?_⟩
 refine ⟨fun _ => ?_, fun h => absurd h (by decide)⟩
 refine .inl ⟨_, int18_ok 3, ?_⟩
 refine .inl ⟨_, app18_ok (f := liveD) (l := [intC 3]) liveSmD.own (fun c hc => by rw [List.mem_singleton.1 hc]; exact (intSm 3).own) (by decide), ?_⟩
 refine .inl ⟨_, live_p2, ?_⟩
 refine ⟨by kernel_rfl, ?_⟩
 exact rfl
theorem mapG_few {φ : Cr → Cr} {τ : Tp → Tp} {ν : ByteArray → ByteArray} {α : List ByteArray → Cr → List ByteArray × Cr} (hφ : ∀ p : Cr, p.Few → (φ p).Few) (hα : ∀ (vs : List ByteArray) (p : Cr), vs.length ≤ 10000 → p.Few → (α vs p).1.length ≤ 10000 ∧ (α vs p).2.Few) (g : Cr) : g.Few → (mapG φ τ ν α g).Few := by
 induction g with
 | nil => exact fun h => h
 | node f n s t g _ => exact fun h => h
 | kid p r _ ih => exact fun h => ⟨hφ p h.1, ih h.2⟩
 | bind x t p r _ ih => exact fun h => ⟨hφ p h.1, ih h.2⟩
 | alt f n s vs p r _ ih => exact fun h => ⟨(hα vs p h.1 h.2.1).1, (hα vs p h.1 h.2.1).2, ih h.2.2⟩
theorem stF_few (k : Nat) : ∀ (c : Cr) (v : ByteArray) (t : Tp), c.Few → (stF k c v t).Few := by
 induction k with
 | zero => intro c v t h; cases c <;> exact h
 | succ k ih =>
  intro c v t h
  cases c with
  | node f n s ty g =>
   unfold stF
   split
   ·split
    ·exact h
    ·split
     ·exact mapG_few (fun p hp => ih _ _ _ (ih _ _ _ hp)) (fun vs p h1 h2 => ⟨h1, h2⟩) g h
     ·exact mapG_few (fun p hp => ih _ _ _ hp) (fun vs p h1 h2 => ⟨h1, h2⟩) g h
   ·exact mapG_few (fun p hp => ih _ _ _ hp) (fun vs p h1 h2 => ⟨h1, ih _ _ _ h2⟩) g h
  | _ => exact h
theorem ren_few {k : Nat} (ih : ∀ (c : Cr) (x : ByteArray) (b : Cr), c.Few → b.Few → (sbF k c x b).Few) : ∀ (rs : List (ByteArray × ByteArray)) (p : Cr), p.Few → (rs.foldl (fun p q => sbF k p q.1 (vr q.2)) p).Few
 | [], p, h => h
 | q :: rs, p, h => ren_few ih rs _ (ih p q.1 (vr q.2) h trivial)
theorem sbF_few (k : Nat) : ∀ (c : Cr) (x : ByteArray) (b : Cr), c.Few → b.Few → (sbF k c x b).Few := by
 induction k with
 | zero => intro c x b h hb; cases c <;> exact h
 | succ k ih =>
  intro c x b h hb
  cases c with
  | node f n s ty g =>
   have hα : ∀ (vs : List ByteArray) (p : Cr), vs.length ≤ 10000 → p.Few → (altF (fun rs p => sbF k (rs.foldl (fun p q => sbF k p q.1 (vr q.2)) p) x b) x b.fv vs p).1.length ≤ 10000 ∧ (altF (fun rs p => sbF k (rs.foldl (fun p q => sbF k p q.1 (vr q.2)) p) x b) x b.fv vs p).2.Few := by
    intro vs p h1 h2
    unfold altF
    split
    ·exact ⟨h1, h2⟩
    ·exact ⟨by simpa using h1, ih _ _ _ (ren_few ih _ _ h2) hb⟩
   unfold sbF
   split
   ·split
    ·exact hb
    ·exact h
   ·split
    ·split
     ·split
      ·exact mapG_few (fun p hp => ih _ _ _ (stF_few k _ _ _ hp) hb) (fun vs p h1 h2 => ⟨h1, h2⟩) g h
      ·exact mapG_few (fun p hp => ih _ _ _ hp hb) (fun vs p h1 h2 => ⟨h1, h2⟩) g h
     ·exact h
    ·split
     ·exact mapG_few (fun p hp => hp) hα g h
     ·exact mapG_few (fun p hp => ih _ _ _ (ren_few ih _ _ hp) hb) hα g h
  | _ => exact h
noncomputable def oft (c : Cr) (x : ByteArray) : Nat := occN (dbc c [] []) x
noncomputable def sgO (x : ByteArray) (b : Cr) (y : ByteArray) : DC := if y = x then dbc b [] [] else .fr y
theorem sb_dbc {c b : Cr} {x : ByteArray} {N : Nat} (hc : c.Ok) (hn : c.isN = true) (hb : b.Ok) (hbn : b.isN = true) (hs : c.sz ≤ N) : dbc (sbF N c x b) [] [] = sbD (sgO x b) .fr (dbc c [] []) := by
 refine sbF_db N c x b [] [] [] (sgO x b) hc hn hb hbn hs fun y hy => .inr ⟨List.not_mem_nil, fun z _ => List.not_mem_nil, fun z _ => List.not_mem_nil, ?_⟩
 unfold sgO lookC
 by_cases h : y = x
 ·rw [if_pos h, if_pos h.symm]
 ·rw [if_neg h, if_neg (Ne.symm h), vr_db0]
theorem sb_size {c b : Cr} {x : ByteArray} {N : Nat} (hc : c.Ok) (hn : c.isN = true) (hb : b.Ok) (hbn : b.isN = true) (hs : c.sz ≤ N) : (sbF N c x b).sz + oft c x = c.sz + oft c x * b.sz := by
 have h := szD_sb (dbc c [] []) x (dbc b [] []) (sgO x b) .fr (if_pos rfl) (fun y hy => if_neg hy)
 rw [← sb_dbc hc hn hb hbn hs, szD_dbc _ _ _ (sbF_all N c x b hn hc hbn hb).2.1, szD_dbc _ _ _ hc, szD_dbc _ _ _ hb] at h
 exact h
theorem occN_le (d : DC) (x : ByteArray) : occN d x ≤ szD d := by
 induction d with
 | nil => exact Nat.le_refl _
 | bv i => exact Nat.zero_le _
 | fr s => simp only [occN, szD]; split <;> omega
 | node f n s t g ih => simp only [occN, szD]; omega
 | kid p r ihp ihr => simp only [occN, szD]; omega
 | bind t p r ihp ihr => simp only [occN, szD]; omega
 | alt f n s k p r ihp ihr => simp only [occN, szD]; omega
theorem oft_le {c : Cr} (hc : c.Ok) (x : ByteArray) : oft c x ≤ c.sz := by
 have h := occN_le (dbc c [] []) x
 rw [szD_dbc _ _ _ hc] at h
 exact h
theorem sb_small {c b : Cr} {x : ByteArray} (hc : Sm c) (hb : Sm b) : (sbF 590 c x b).sz + oft c x = c.sz + oft c x * b.sz ∧ oft c x * b.sz ≤ 590 * 590 := by
 refine ⟨sb_size hc.ok hc.n hb.ok hb.n hc.sz, Nat.mul_le_mul ?_ hb.sz⟩
 have := oft_le hc.ok x
 have := hc.sz
 omega
theorem eqC_step (N : Nat) (c : Cr) (hc : c.isN = true) (hl : c.kids.length < 1000000 ∧ c.binds.length < 1000000 ∧ c.alts.length < 1000000) (hv : ∀ a ∈ c.alts, a.2.1.length < 1000000)
  (ih : ∀ d : Cr, (d ∈ c.kids ∨ d ∈ c.binds.map (·.2.2) ∨ d ∈ c.alts.map (·.2.2)) → ACall Tryz.prog n_fugueref18_Equal [eC d, eC d] (.sb true)) : ACall Tryz.prog n_fugueref18_Equal [eC c, eC c] (.sb true) := by
 have h0 := e3_0 c
 have h1 := e3_1 c
 have h2 := e3_2 c
 refine acall_of_wsem ttok mixed Tryz.func15 rfl (by rfl) (Nat.le_of_ble_eq_true rfl) (by kernel_rfl) ?_
 refine Wsem.seq ttok mixed ?_
 refine Wsem.cut { vs := [(2, .box 0 (eC c)), (3, .box 0 (eC c))] } ⟨⟨rfl, rfl, trivial⟩, trivial, rfl⟩ ?_
 refine Wsem.seq ttok mixed ?_
 refine ⟨fun _ => ?_, fun h => absurd h (by simp)⟩
 refine ⟨fun _ => ?_, fun h => absurd h (by simp)⟩
 refine ⟨fun _ => ?_, fun h => absurd h (by simp)⟩
 refine ⟨fun _ => ?_, fun h => absurd h (by simp)⟩
 refine ⟨fun _ => ?_, fun h => absurd h (by simp)⟩
 refine ⟨fun h => absurd h (by simp), fun _ => ?_⟩
 refine Wsem.cut { vs := [(2, .box 0 (eC c)), (3, .box 0 (eC c))] } ⟨⟨rfl, rfl, trivial⟩, trivial, rfl⟩ ?_
 refine Wsem.seq ttok mixed ?_
 refine .inl ⟨.sb true, by have h := equal_ok c.t c.t; rw [decide_eq_true (rfl : c.t = c.t)] at h; exact h, ?_⟩
 refine Wsem.cut { vs := [(2, .box 0 (eC c)), (3, .box 0 (eC c)), (5, .v (.sb true))] } ⟨⟨rfl, rfl, rfl, trivial⟩, trivial, rfl⟩ ?_
 refine Wsem.seq ttok mixed ?_
 refine ⟨{k : Nat // k ≤ c.kids.length}, fun k => { vs := [(2, .box 0 (eC c)), (3, .box 0 (eC c)), (5, .v (.sb true)), (6, sv (k.1 : Nat))] }, fun k => c.kids.length - k.1, ⟨0, Nat.zero_le _⟩, ⟨⟨rfl, rfl, rfl, rfl, trivial⟩, trivial, rfl⟩, ?_⟩
 rintro ⟨k, hk⟩
 have hl0 : (c.e3 0).length = c.kids.length := by rw [h0]; simp [eCs]
 have hl1 : (c.e3 1).length = c.binds.length := by rw [h1]; simp [eBds]
 have hl2 : (c.e3 2).length = c.alts.length := by rw [h2]; simp [eAls]
 refine ⟨fun h => ?_, fun h => ?_⟩
 ·have h : k < c.kids.length := by
   have h := of_decide_eq_true h; rw [hl0] at h; simp only at h; omega
  refine ⟨fun _ => ?_, fun h => absurd h (by decide)⟩
  have hg : (c.e3 0)[k]? = some (eC c.kids[k]) := by rw [h0]; simp [eCs, List.getElem?_eq_getElem h]
  refine ⟨eC c.kids[k], by omega, hg, rfl, ?_⟩
  refine ⟨eC c.kids[k], by omega, hg, rfl, ?_⟩
  refine .inl ⟨_, ih _ (.inl (List.getElem_mem h)), ?_⟩
  refine ⟨by kernel_rfl, ?_⟩
  exact ⟨⟨k + 1, h⟩, by simp; omega, ⟨rfl, rfl, rfl, svc (wrap_succ (k := k) (by omega)), trivial⟩, trivial, rfl⟩
 ·refine Wsem.cut { vs := [(2, .box 0 (eC c)), (3, .box 0 (eC c)), (5, .v (.sb true))] } ⟨⟨rfl, rfl, rfl, trivial⟩, trivial, rfl⟩ ?_
  clear h k hk
  refine Wsem.seq ttok mixed ?_
  refine ⟨{k : Nat // k ≤ c.binds.length}, fun k => { vs := [(2, .box 0 (eC c)), (3, .box 0 (eC c)), (5, .v (.sb true)), (7, sv (k.1 : Nat))] }, fun k => c.binds.length - k.1, ⟨0, Nat.zero_le _⟩, ⟨⟨rfl, rfl, rfl, rfl, trivial⟩, trivial, rfl⟩, ?_⟩
  rintro ⟨k, hk⟩
  refine ⟨fun h => ?_, fun h => ?_⟩
  ·have h : k < c.binds.length := by
    have h := of_decide_eq_true h; rw [hl1] at h; simp only at h; omega
   refine ⟨fun _ => ?_, fun h => absurd h (by decide)⟩
   have hg : (c.e3 1)[k]? = some (eBd c.binds[k]) := by rw [h1]; simp [eBds, List.getElem?_eq_getElem h]
   have hi := ih c.binds[k].2.2 (.inr (.inl (List.mem_map.2 ⟨_, List.getElem_mem h, rfl⟩)))
   generalize c.binds[k] = d at hg hi
   refine ⟨eBd d, by omega, hg, rfl, ?_⟩
   refine ⟨eBd d, by omega, hg, rfl, ?_⟩
   refine .inl ⟨.sb true, by have h := equal_ok d.2.1 d.2.1; rw [decide_eq_true (rfl : d.2.1 = d.2.1)] at h; exact h, ?_⟩
   refine ⟨by kernel_rfl, ?_⟩
   refine ⟨fun _ => ?_, fun h => absurd h (by decide)⟩
   refine ⟨eBd d, by omega, hg, rfl, ?_⟩
   refine ⟨eBd d, by omega, hg, rfl, ?_⟩
   refine .inl ⟨_, hi, ?_⟩
   refine ⟨by kernel_rfl, ?_⟩
   refine ⟨eBd d, by omega, hg, rfl, ?_⟩
   refine ⟨eBd d, by omega, hg, rfl, ?_⟩
   refine ⟨by kernel_rfl, ?_⟩
   refine ⟨fun h => absurd h (by simp), fun _ => ?_⟩
   exact ⟨⟨k + 1, h⟩, by simp; omega, ⟨rfl, rfl, rfl, svc (wrap_succ (k := k) (by omega)), trivial⟩, trivial, rfl⟩
  ·refine Wsem.cut { vs := [(2, .box 0 (eC c)), (3, .box 0 (eC c)), (5, .v (.sb true))] } ⟨⟨rfl, rfl, rfl, trivial⟩, trivial, rfl⟩ ?_
   clear h k hk
   refine Wsem.seq ttok mixed ?_
   refine ⟨{k : Nat // k ≤ c.alts.length}, fun k => { vs := [(2, .box 0 (eC c)), (3, .box 0 (eC c)), (5, .v (.sb true)), (8, sv (k.1 : Nat))] }, fun k => c.alts.length - k.1, ⟨0, Nat.zero_le _⟩, ⟨⟨rfl, rfl, rfl, rfl, trivial⟩, trivial, rfl⟩, ?_⟩
   rintro ⟨k, hk⟩
   refine ⟨fun h => ?_, fun h => ?_⟩
   ·have h : k < c.alts.length := by
     have h := of_decide_eq_true h; rw [hl2] at h; simp only at h; omega
    refine ⟨fun _ => ?_, fun h => absurd h (by decide)⟩
    have hg : (c.e3 2)[k]? = some (eAl c.alts[k]) := by rw [h2]; simp [eAls, List.getElem?_eq_getElem h]
    have hi := ih c.alts[k].2.2 (.inr (.inr (List.mem_map.2 ⟨_, List.getElem_mem h, rfl⟩)))
    have hvl := hv c.alts[k] (List.getElem_mem h)
    generalize c.alts[k] = d at hg hi hvl
    refine ⟨eAl d, by omega, hg, rfl, ?_⟩
    refine ⟨eAl d, by omega, hg, rfl, ?_⟩
    refine .inl ⟨_, sameTexts_ok d.2.1 (by omega), ?_⟩
    refine ⟨fun _ => ?_, fun h => absurd h (by decide)⟩
    refine .inl ⟨_, hi, ?_⟩
    refine ⟨fun _ => ?_, fun h => absurd h (by simp)⟩
    refine ⟨fun _ => ?_, fun h => absurd h (by simp)⟩
    refine ⟨fun h => absurd h (by simp), fun _ => ?_⟩
    exact ⟨⟨k + 1, h⟩, by simp; omega, ⟨rfl, rfl, rfl, svc (wrap_succ (k := k) (by omega)), trivial⟩, trivial, rfl⟩
   ·refine Wsem.cut { vs := [(5, .v (.sb true))] } ⟨⟨rfl, trivial⟩, trivial, rfl⟩ ?_
    refine Wsem.of ttok mixed ?_
    exact rfl
theorem eqC_ok (N : Nat) : ∀ c : Cr, c.sz ≤ N → N < 1000000 → c.isN = true → c.Ok → c.Few → ACall Tryz.prog n_fugueref18_Equal [eC c, eC c] (.sb true) := by
 induction N with
 | zero => intro c hs _ hn; have := sz_posC hn; omega
 | succ N ih =>
  intro c hs hN hn ho hf
  have hl := lens_sz c ho
  refine eqC_step N c hn (by omega) (fun a ha => by have := (hf.alt ha).2; omega) fun d hd => ?_
  rcases hd with h | h | h
  ·have h1 := sz_kid h
   rw [hn] at h1; simp at h1
   obtain ⟨q1, q2⟩ := ho.kid h
   exact ih d (by omega) (by omega) q1 q2 (hf.kid h)
  ·obtain ⟨b, hb, rfl⟩ := List.mem_map.1 h
   have h1 := sz_bind hb
   rw [hn] at h1; simp at h1
   obtain ⟨q1, q2⟩ := ho.bind hb
   exact ih _ (by omega) (by omega) q1 q2 (hf.bind hb)
  ·obtain ⟨b, hb, rfl⟩ := List.mem_map.1 h
   have h1 := sz_alt hb
   rw [hn] at h1; simp at h1
   obtain ⟨q1, q2, _⟩ := ho.alt hb
   exact ih _ (by omega) (by omega) q1 q2 (hf.alt hb).1
end Go.Proofs.YtgonkhaebmfgiaaGreatDoor
