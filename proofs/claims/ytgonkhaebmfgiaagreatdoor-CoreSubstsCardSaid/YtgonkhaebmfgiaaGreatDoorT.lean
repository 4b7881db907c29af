/- What is the same has the same names free, in the same row. Plain; SameTexts. No condition. -/
import Derived.Test.YtgonkhaebmfgiaaGreatDoorR
import Derived.Test.YtgonkhaebmfgiaaGreatDoorO
set_option linter.unusedSimpArgs false
set_option linter.unusedVariables false
namespace Go.Proofs.YtgonkhaebmfgiaaGreatDoor
open Go Fp
set_option maxRecDepth 10000
set_option maxHeartbeats 4000000
set_option linter.unusedVariables false
theorem ins_bar {P : ByteArray → Bool} (l : List ByteArray) (h : l.Nodup) : insAll P [] l = l.filter (fun y => !P y) := by
 have gen : ∀ (l out : List ByteArray), (out ++ l).Nodup → insAll P out l = out ++ l.filter (fun y => !P y) := by
  intro l
  induction l with
  | nil => intro out _; simp [insAll]
  | cons s l ih =>
   intro out hn
   have hs : s ∉ out := fun hm => (List.nodup_append.1 hn).2.2 s hm s List.mem_cons_self rfl
   rw [insAll_cons]
   unfold ins
   cases hp : P s with
   | true =>
    rw [if_pos (.inr rfl), List.filter_cons_of_neg (by simp [hp])]
    refine ih out ?_
    have := List.nodup_append.1 hn
    exact List.nodup_append.2 ⟨this.1, (List.nodup_cons.1 this.2.1).2, fun a ha b hb => this.2.2 a ha b (List.mem_cons_of_mem _ hb)⟩
   | false =>
    rw [if_neg (by simp [hs]), List.filter_cons_of_pos (by simp [hp]), ih (out ++ [s]) (by simpa using hn)]
    simp
 exact gen l [] (by simpa using h)
end Go.Proofs.YtgonkhaebmfgiaaGreatDoor
