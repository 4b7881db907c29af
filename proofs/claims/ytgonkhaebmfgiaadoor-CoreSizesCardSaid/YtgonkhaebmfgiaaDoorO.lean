/- CoreSizes: what the law asks is so. No condition but that what is given is Go's. -/
import Derived.Test.YtgonkhaebmfgiaaDoorN
set_option linter.unusedSimpArgs false
set_option linter.unusedVariables false
namespace Go.Proofs.YtgonkhaebmfgiaaDoor
open Go Fp
set_option maxRecDepth 10000
set_option maxHeartbeats 16000000
set_option linter.unusedVariables false

theorem subSize_ok {c b : Cr} (x : ByteArray) (hc : Sm c) (hb : Sm b) : ACall Tryd.prog n_core_Subst [eC c, str x, eC b] (eC (sbF 590 c x b)) ∧ ACall Tryd.prog n_core_Size [eC (sbF 590 c x b)] (.lit (.int .i64 ((sbF 590 c x b).sz : Nat))) := by
  refine ⟨substN_ok 590 c x b hc hc.sz hb, ?_⟩
  obtain ⟨h1, h2⟩ := sb_small (x := x) hc hb
  have := hc.sz
  obtain ⟨q1, q2, _⟩ := sbF_all 590 c x b hc.n hc.ok hb.n hb.ok
  exact coreSizeN 800000 (by decide) _ q1 q2 (sbF_few 590 c x b hc.gd.few hb.gd.few) (by omega)
theorem coreSizes_ok {l0 l1 l2 : List Int} {n : Int} (hl0 : l0.length < 9223372036854775808) (hr0 : ∀ x ∈ l0, InR x) (hn : InR n) (hl1 : l1.length < 9223372036854775808) (hr1 : ∀ x ∈ l1, InR x) (hl2 : l2.length < 9223372036854775808) (hr2 : ∀ x ∈ l2, InR x) :
    ACall Tryd.prog 3 [.sl (eIs l0), .lit (.int .i64 n), .agg [.sl (eIs l1), .sl (eIs l2)]] (.sb true) := by
  obtain ⟨c, hc, _, hC⟩ := made18_ok hl0 hr0
  have tk : ∀ {l : List Int} {k : Nat}, l.length < 9223372036854775808 → (l.take k).length < 9223372036854775808 := fun h => by rw [List.length_take]; omega
  obtain ⟨a, ha, _, hA⟩ := made18_ok (l := l1.take 30) (tk hl1) (fun x hx => hr1 x (List.mem_of_mem_take hx))
  obtain ⟨b, hb, _, hB⟩ := made18_ok (l := l2.take 30) (tk hl2) (fun x hx => hr2 x (List.mem_of_mem_take hx))
  obtain ⟨t, hT, hgt, hts⟩ := made_ok (l := l0.take 12) (tk hl0) (fun x hx => hr0 x (List.mem_of_mem_take hx))
  obtain ⟨x, _, hX⟩ := lawName18_ok hn
  obtain ⟨v, _, hV⟩ := name_ok hn
  obtain ⟨sA1, sA2⟩ := subSize_ok x hc ha
  obtain ⟨sB1, sB2⟩ := subSize_ok x hc hb
  have h3 := liveSm1 x x
  obtain ⟨sC1, sC2⟩ := subSize_ok x hc h3
  obtain ⟨zA, zA'⟩ := sb_small (x := x) hc ha
  obtain ⟨zB, zB'⟩ := sb_small (x := x) hc hb
  obtain ⟨zC, zC'⟩ := sb_small (x := x) hc h3
  have z3 : (appC (vr x) (vr x)).sz = 3 := rfl
  rw [z3] at zC zC'
  have hop := oft_pos c x
  have hol := oft_le hc.ok x
  have hcz := hc.sz
  have haz := ha.sz
  have hbz := hb.sz
  have ha0 := sz_posC ha.n
  have hb0 := sz_posC hb.n
  have hst := (stF_all 590 c v t hc.ok).1
  have hSt := substTypeN_ok 590 c v t hc hc.sz ((good_low hgt).mono (by decide)) (by omega)
  have hSz : ACall Tryd.prog n_core_Size [eC (stF 590 c v t)] (.lit (.int .i64 (c.sz : Nat))) := by
    have h := coreSizeN 800000 (by decide) (stF 590 c v t) ((stF_isN 590 c v t).trans hc.n) (stF_all 590 c v t hc.ok).2.2 (stF_few 590 c v t hc.gd.few) (by rw [hst]; omega)
    rw [hst] at h; exact h
  have hFr := coreFree_ok hc.n hc.ok hc.gd.few (by omega)
  have hcS := coreSize_ok hc
  have haS := coreSize_ok ha
  have hbS := coreSize_ok hb
  generalize (sbF 590 c x a) = ca at sA1 sA2 zA
  generalize (sbF 590 c x b) = cb at sB1 sB2 zB
  generalize hcc : (sbF 590 c x (appC (vr x) (vr x))) = cc at sC1 sC2 zC
  generalize (stF 590 c v t) = ct at hSt hSz
  generalize oft c x = o at *
  refine acall_of_wsem ttok mixed Tryd.func3 rfl (by rfl) (Nat.le_of_ble_eq_true rfl) (by kernel_rfl) ?_
  refine Wsem.seq ttok mixed ?_
  refine Wsem.seq ttok mixed ?_
  refine .inl ⟨_, hC, ?_⟩
  refine Wsem.cut { vs := [(0, .v (.sl (eIs l0))), (1, sv n), (5, .box 0 (.agg [.sl (eIs l1), .sl (eIs l2)])), (7, .box 0 (eC c))] } ⟨⟨rfl, rfl, rfl, rfl, trivial⟩, trivial, rfl⟩ ?_
  refine Wsem.shut 5 rfl ?_
  refine Wsem.cut { vs := [(0, .v (.sl (eIs l0))), (1, sv n), (5, .v (.ptr [.sl (eIs l1), .sl (eIs l2)])), (7, .box 0 (eC c))] } ⟨⟨rfl, rfl, rfl, rfl, trivial⟩, trivial, rfl⟩ ?_
  refine Wsem.seqS (Wsem.regionIx ttok rfl rfl rfl Tryd.underlying23 Tryd.sizeOf22 (by decide) (by decide) rfl ?_)
  refine .inl ⟨_, ints_ok (n := 30) hl1 (by decide), ?_⟩
  refine .inl ⟨_, hA, ?_⟩
  refine Wsem.seqS (Wsem.regionIx ttok rfl rfl rfl Tryd.underlying23 Tryd.sizeOf22 (by decide) (by decide) rfl ?_)
  refine .inl ⟨_, ints_ok (n := 30) hl2 (by decide), ?_⟩
  refine .inl ⟨_, hB, ?_⟩
  refine Wsem.seq ttok mixed ?_
  refine .inl ⟨_, hX, ?_⟩
  refine Wsem.cut { vs := [(0, .v (.sl (eIs l0))), (1, sv n), (7, .box 0 (eC c)), (8, .box 0 (eC a)), (9, .box 0 (eC b)), (10, .v (str x))] } ⟨⟨rfl, rfl, rfl, rfl, rfl, rfl, trivial⟩, trivial, rfl⟩ ?_
  refine Wsem.seq ttok mixed ?_
  refine .inl ⟨_, hcS, ?_⟩
  refine Wsem.seq ttok mixed ?_
  refine .inl ⟨_, sA1, ?_⟩
  refine .inl ⟨_, sA2, ?_⟩
  refine Wsem.seq ttok mixed ?_
  refine .inl ⟨_, sB1, ?_⟩
  refine .inl ⟨_, sB2, ?_⟩
  have w1 : IntKind.i64.wrap ((ca.sz : Nat) - (c.sz : Nat) : Int) = (ca.sz : Int) - (c.sz : Int) := wrap_in (by unfold InR; omega)
  have w2 : IntKind.i64.wrap ((cb.sz : Nat) - (c.sz : Nat) : Int) = (cb.sz : Int) - (c.sz : Int) := wrap_in (by unfold InR; omega)
  have w3 : IntKind.i64.wrap ((cc.sz : Nat) - (c.sz : Nat) : Int) = ((2 * o : Nat) : Int) := by rw [wrap_in (by unfold InR; omega)]; omega
  refine Wsem.cut { vs := [(0, .v (.sl (eIs l0))), (1, sv n), (7, .box 0 (eC c)), (8, .box 0 (eC a)), (9, .box 0 (eC b)), (10, .v (str x)), (11, sv (c.sz : Nat)), (12, sv ((ca.sz : Int) - (c.sz : Int))), (13, sv ((cb.sz : Int) - (c.sz : Int)))] } ⟨⟨rfl, rfl, rfl, rfl, rfl, rfl, rfl, svc w1, svc w2, trivial⟩, trivial, rfl⟩ ?_
  refine Wsem.seq ttok mixed ?_
  refine .inl ⟨_, var18_ok x, ?_⟩
  refine .inl ⟨_, var18_ok x, ?_⟩
  refine .inl ⟨_, app18_ok (f := vr x) (l := [vr x]) (vr_sm _).own (fun c hc => by rw [List.mem_singleton.1 hc]; exact (vr_sm _).own) (by simp), ?_⟩
  refine .inl ⟨_, sC1, ?_⟩
  refine .inl ⟨_, sC2, ?_⟩
  refine ⟨by kernel_rfl, ?_⟩
  refine Wsem.cut { vs := [(0, .v (.sl (eIs l0))), (1, sv n), (7, .box 0 (eC c)), (8, .box 0 (eC a)), (9, .box 0 (eC b)), (10, .v (str x)), (11, sv (c.sz : Nat)), (12, sv ((ca.sz : Int) - (c.sz : Int))), (13, sv ((cb.sz : Int) - (c.sz : Int))), (14, sv ((2 * o : Nat) : Int))] } ⟨⟨rfl, rfl, rfl, rfl, rfl, rfl, rfl, rfl, rfl, svc w3, trivial⟩, trivial, rfl⟩ ?_
  refine Wsem.seq ttok mixed ?_
  refine ⟨by decide, ?_⟩
  refine ⟨fun h => ?_, fun _ => ?_⟩
  · exfalso
    have e : (((2 * o : Nat) : Int).tmod 2) = ((2 * o % 2 : Nat) : Int) := rfl
    simp [e] at h
  refine Wsem.seq ttok mixed ?_
  refine ⟨by decide, ?_⟩
  have w4 : IntKind.i64.wrap (((2 * o : Nat) : Int).tdiv 2) = (o : Int) := by
    have e : (((2 * o : Nat) : Int).tdiv 2) = ((2 * o / 2 : Nat) : Int) := rfl
    rw [e, show 2 * o / 2 = o by omega, wrap_in (by unfold InR; omega)]
  refine Wsem.cut { vs := [(0, .v (.sl (eIs l0))), (1, sv n), (7, .box 0 (eC c)), (8, .box 0 (eC a)), (9, .box 0 (eC b)), (10, .v (str x)), (11, sv (c.sz : Nat)), (12, sv ((ca.sz : Int) - (c.sz : Int))), (13, sv ((cb.sz : Int) - (c.sz : Int))), (14, sv (o : Int))] } ⟨⟨rfl, rfl, rfl, rfl, rfl, rfl, rfl, rfl, rfl, svc w4, trivial⟩, trivial, rfl⟩ ?_
  have m1 : IntKind.i64.wrap ((o : Int) * IntKind.i64.wrap ((a.sz : Nat) - 1 : Int)) = (ca.sz : Int) - (c.sz : Int) := by
    have e1 : IntKind.i64.wrap ((a.sz : Nat) - 1 : Int) = ((a.sz - 1 : Nat) : Int) := by rw [wrap_in (by unfold InR; omega)]; omega
    have e2 : o * (a.sz - 1) + o = o * a.sz := by
      obtain ⟨k, hk⟩ : ∃ k, a.sz = k + 1 := ⟨a.sz - 1, by omega⟩
      rw [hk, Nat.add_sub_cancel, Nat.mul_succ]
    rw [e1, show (o : Int) * ((a.sz - 1 : Nat) : Int) = ((o * (a.sz - 1) : Nat) : Int) from (Int.natCast_mul _ _).symm, wrap_in (by unfold InR; omega)]
    omega
  have m2 : IntKind.i64.wrap ((o : Int) * IntKind.i64.wrap ((b.sz : Nat) - 1 : Int)) = (cb.sz : Int) - (c.sz : Int) := by
    have e1 : IntKind.i64.wrap ((b.sz : Nat) - 1 : Int) = ((b.sz - 1 : Nat) : Int) := by rw [wrap_in (by unfold InR; omega)]; omega
    have e2 : o * (b.sz - 1) + o = o * b.sz := by
      obtain ⟨k, hk⟩ : ∃ k, b.sz = k + 1 := ⟨b.sz - 1, by omega⟩
      rw [hk, Nat.add_sub_cancel, Nat.mul_succ]
    rw [e1, show (o : Int) * ((b.sz - 1 : Nat) : Int) = ((o * (b.sz - 1) : Nat) : Int) from (Int.natCast_mul _ _).symm, wrap_in (by unfold InR; omega)]
    omega
  refine Wsem.seq ttok mixed ?_
  refine .inl ⟨_, haS, ?_⟩
  refine ⟨fun _ => ?_, fun h => ?_⟩
  rotate_left
  · exfalso; rw [m1] at h; simp at h
  refine .inl ⟨_, hbS, ?_⟩
  refine ⟨fun _ => ?_, fun h => ?_⟩
  rotate_left
  · exfalso; rw [m2] at h; simp at h
  refine .inl ⟨_, hFr, ?_⟩
  refine .inl ⟨_, has_ok (l := c.fv) (s := x) (by have := fv_len c; omega), ?_⟩
  have hb2 : decide ((0 : Int) < (o : Nat)) = memb x c.fv := by
    cases hm : memb x c.fv with
    | true => exact decide_eq_true (by have := hop.2 (memb_iff.1 hm); omega)
    | false => exact decide_eq_false (fun h => by have := memb_iff.2 (hop.1 (by omega)); rw [hm] at this; cases this)
  refine ⟨fun h => ?_, fun _ => ?_⟩
  · exfalso
    rw [hb2] at h
    simp at h
  refine Wsem.cut { vs := [(0, .v (.sl (eIs l0))), (1, sv n), (7, .box 0 (eC c)), (11, sv (c.sz : Nat))] } ⟨⟨rfl, rfl, rfl, rfl, trivial⟩, trivial, rfl⟩ ?_
  refine Wsem.seq ttok mixed ?_
  refine .inl ⟨_, hV, ?_⟩
  refine Wsem.seq ttok mixed ?_
  refine .inl ⟨_, ints_ok (n := 12) hl0 (by decide), ?_⟩
  refine .inl ⟨_, hT, ?_⟩
  refine .inl ⟨_, hSt, ?_⟩
  refine .inl ⟨_, hSz, ?_⟩
  refine ⟨fun _ => ?_, fun h => absurd h (by simp)⟩
  refine .inl ⟨_, lives_ok, ?_⟩
  refine ⟨by kernel_rfl, ?_⟩
  refine Wsem.of ttok mixed ?_
  exact rfl
end Go.Proofs.YtgonkhaebmfgiaaDoor
