/- vinculumlaw17.awake. -/
import Derived.Test.YtfjoghbkfkbbdaaK9
import Derived.Test.YtfjoghbkfkbbdaaKG
namespace Go.Proofs.Ytfjoghbkfkbbdaa
open Go.RowKit

set_option maxRecDepth 100000 in
set_option maxHeartbeats 1600000 in
theorem awake17_any (w : World) : Calls Try.prog 58 #[] w fun e w' => e = .returned (.bool true) ∧ Below w.heap.size w w' := by
  have HN := Lib.hid (mk_new (Sep.nil w))
  go_enter Try.func58, Try.ntmps58
  go_wp2_with fail
  refine HN.out.mono ?_
  rintro e w1 ⟨b, rfl, hW⟩
  have H1 := Lib.hid hW
  clear hW HN
  go_wp2_with fail
  refine (mk_enter H1.out (by decide) 5).mono ?_
  rintro e w2 ⟨rfl, hW⟩
  rw [show insS [] 5 = [5] by decide] at hW
  have H2 := Lib.hid hW
  clear hW H1
  go_wp2_with fail
  refine (mk_enter H2.out (by decide) 3).mono ?_
  rintro e w3 ⟨rfl, hW⟩
  rw [show insS [5] 3 = [3, 5] by decide] at hW
  have H3 := Lib.hid hW
  clear hW H2
  go_wp2_with fail
  have HL3 := mk_low H3.out 9
  rw [show lowS [3, 5] 9 = 3 by decide] at HL3
  refine HL3.mono ?_
  rintro e w4 ⟨rfl, rfl⟩
  clear HL3
  go_wp2_with fail
  refine (mk_len H3.out (by decide)).mono ?_
  rintro e w5 ⟨rfl, hW⟩
  have H5 := Lib.hid hW
  clear hW H3
  go_wp2_with fail
  have HLV := mk_leave H5.out (by decide) 3
  rw [show decide (3 ∈ ([3, 5] : List Int)) = true by decide, show ([3, 5] : List Int).erase 3 = [5] by decide] at HLV
  refine HLV.mono ?_
  rintro e w6 ⟨rfl, hW⟩
  have H6 := Lib.hid hW
  clear hW H5 HLV
  go_wp2_with fail
  have HL6 := mk_low H6.out 9
  rw [show lowS [5] 9 = 5 by decide] at HL6
  refine HL6.mono ?_
  rintro e w7 ⟨rfl, rfl⟩
  clear HL6
  go_wp2_with fail
  have HL7 := mk_low H6.out 4
  rw [show lowS [5] 4 = 4 by decide] at HL7
  refine HL7.mono ?_
  rintro e w8 ⟨rfl, rfl⟩
  clear HL7
  go_wp2_with fail
  have HG := garbage_any 1 3 3 w6 (by decide) (by decide)
  rw [show garb 3 3 = true by decide] at HG
  refine HG.mono ?_
  rintro e w9 ⟨rfl, b9⟩
  have H9 := Lib.hid (bl_next H6.out.bel b9)
  clear HG b9
  go_wp2_with fail
  go_ret
  exact ⟨rfl, H9.out⟩
end Go.Proofs.Ytfjoghbkfkbbdaa
