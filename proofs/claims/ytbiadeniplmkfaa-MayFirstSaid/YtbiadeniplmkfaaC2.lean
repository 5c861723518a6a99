/- What the laws of layer 8 share: awake. -/
import Derived.Test.YtbiadeniplmkfaaB4
namespace Go.Proofs.Ytbiadeniplmkfaa
open Go.RowKit

set_option maxHeartbeats 400000 in
theorem awake8_any (w : World) : Calls Try.prog 18 #[] w fun e w' => e = .returned (.bool true) ∧ Below w.heap.size w w' := by
  have H1 := Lib.hid (fun w => write_any 2305843009213693952 1 .nilFunc noneL w w (tells_nil w) (Below.refl _ _) (by decide) (by decide))
  have H2 := Lib.hid (fun w => write_any 5 1 .nilFunc noneL w w (tells_nil w) (Below.refl _ _) (by decide) (by decide))
  rw [show mayK noneL 2305843009213693952 1 = 1 by decide, show mayN noneL 2305843009213693952 1 = 0 by decide] at H1
  rw [show mayK noneL 5 1 = 2 by decide, show mayN noneL 5 1 = 0 by decide] at H2
  have H3 := Lib.hid (fun w => first_any [] (.slice none 0 0) 1 5 .nilFunc noneL w (tells_nil w) (RowAt.nil _ _) (fun i hi => by simp at hi))
  simp only [List.any_nil, Bool.not_false] at H3
  go_enter Try.func18, Try.ntmps18
  go_wp2_with (go_at_call 28; refine (forever_any _).mono ?_; rintro e w1 ⟨rfl, rfl⟩)
  refine (H1.out _).mono ?_
  rintro e w1 ⟨rfl, b1⟩
  go_wp2_with fail
  refine (H2.out _).mono ?_
  rintro e w2 ⟨rfl, b2⟩
  go_wp2_with fail
  refine (H3.out _).mono ?_
  rintro e w3 ⟨rfl, b3⟩
  go_wp2_with fail
  go_ret
  exact ⟨rfl, bl_next (bl_next b1 b2) b3⟩
end Go.Proofs.Ytbiadeniplmkfaa
