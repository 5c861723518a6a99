/- MarkRises holds: what is garbage for one lowest time is garbage for every later one; what has no end never is. No condition. -/
import Derived.Test.YtfjoghbkfkbbdaaK10
namespace Go.Proofs.Ytfjoghbkfkbbdaa
open Go.RowKit Go.ChangeShapes

theorem garb_rises {x a b : Int} (h : a ≤ b) (hg : garb x a = true) : garb x b = true := by
  unfold garb at *
  rw [decide_eq_true_iff] at *
  omega

set_option maxRecDepth 100000 in
set_option maxHeartbeats 1600000 in
theorem markRises_walk {a0 a1 a2 a3 : Int} {w : World} (_w0 : (Lit.int .u64 a0).wf = true) (w1 : (Lit.int .u64 a1).wf = true) (_w2 : (Lit.int .u64 a2).wf = true) (_w3 : (Lit.int .u64 a3).wf = true) :
    Calls Try.prog 13 #[.int .u64 a0, .int .u64 a1, .int .u64 a2, .int .u64 a3] w fun e w' => e = .returned (.bool true) ∧ Below w.heap.size w w' := by
  obtain ⟨h0, h1⟩ := bounds_u64 w1
  have HG := Lib.hid (fun low w => garbage_any a0 a1 low w h0 h1)
  have HF := Lib.hid (fun low w => garbage_any a0 2305843009213693952 low w (by decide) (by decide))
  have HZ := Lib.hid (fun low w => garbage_any a0 0 low w (by decide) (by decide))
  have HT := Lib.hid (fun low w => garbage_any a0 4611686018427387909 low w (by decide) (by decide))
  have e1 : ∀ low, garb 2305843009213693952 low = false := fun low => garb_no (by decide)
  have e2 : ∀ low, garb 0 low = false := fun low => by unfold garb; simp
  have e3 : ∀ low, garb 4611686018427387909 low = false := fun low => garb_no (by decide)
  simp only [e1] at HF
  simp only [e2] at HZ
  simp only [e3] at HT
  have hr := Lib.hid (fun a b (h : a ≤ b) hg => @garb_rises a1 a b h hg)
  clear e1 e2 e3 w1
  rcases Int.lt_or_le a3 a2 with hlt | hle
  · have hw : (garb a1 a3 = true ∧ garb a1 a2 = true) ∨ garb a1 a3 = false := by
      cases h : garb a1 a3
      · exact .inr rfl
      · exact .inl ⟨rfl, hr.out a3 a2 (by omega) h⟩
    rcases hw with ⟨q1, q2⟩ | q1
    · have HG1 := Lib.hid (HG.out a3)
      have HG2 := Lib.hid (HG.out a2)
      rw [q1] at HG1
      rw [q2] at HG2
      clear q1 q2 HG
      go_enter Try.func13, Try.ntmps13
      go_wp2_with fail
      refine (HG1.out _).mono ?_
      rintro e w2 ⟨rfl, b2⟩
      go_wp2_with fail
      refine (HG2.out _).mono ?_
      rintro e w3 ⟨rfl, b3⟩
      have B3 := Lib.hid (bl_next b2 b3)
      clear b2 b3
      go_wp2_with fail
      refine (HF.out _ _).mono ?_
      rintro e w4 ⟨rfl, b4⟩
      have B4 := Lib.hid (bl_next B3.out b4)
      clear b4
      go_wp2_with fail
      refine (HZ.out _ _).mono ?_
      rintro e w5 ⟨rfl, b5⟩
      have B5 := Lib.hid (bl_next B4.out b5)
      clear b5
      go_wp2_with fail
      refine (HT.out _ _).mono ?_
      rintro e w6 ⟨rfl, b6⟩
      have B6 := Lib.hid (bl_next B5.out b6)
      clear b6
      go_wp2_with fail
      refine (awake17_any _).mono ?_
      rintro e w7 ⟨rfl, b7⟩
      go_wp2_with fail
      go_ret
      exact ⟨rfl, bl_next B6.out b7⟩
    · have HG1 := Lib.hid (HG.out a3)
      rw [q1] at HG1
      clear q1 HG
      go_enter Try.func13, Try.ntmps13
      go_wp2_with fail
      refine (HG1.out _).mono ?_
      rintro e w2 ⟨rfl, b2⟩
      have B3 := Lib.hid b2
      clear b2
      go_wp2_with fail
      refine (HF.out _ _).mono ?_
      rintro e w4 ⟨rfl, b4⟩
      have B4 := Lib.hid (bl_next B3.out b4)
      clear b4
      go_wp2_with fail
      refine (HZ.out _ _).mono ?_
      rintro e w5 ⟨rfl, b5⟩
      have B5 := Lib.hid (bl_next B4.out b5)
      clear b5
      go_wp2_with fail
      refine (HT.out _ _).mono ?_
      rintro e w6 ⟨rfl, b6⟩
      have B6 := Lib.hid (bl_next B5.out b6)
      clear b6
      go_wp2_with fail
      refine (awake17_any _).mono ?_
      rintro e w7 ⟨rfl, b7⟩
      go_wp2_with fail
      go_ret
      exact ⟨rfl, bl_next B6.out b7⟩
  · have hw : (garb a1 a2 = true ∧ garb a1 a3 = true) ∨ garb a1 a2 = false := by
      cases h : garb a1 a2
      · exact .inr rfl
      · exact .inl ⟨rfl, hr.out a2 a3 hle h⟩
    have hnl : ¬ a3 < a2 := by omega
    rcases hw with ⟨q1, q2⟩ | q1
    · have HG1 := Lib.hid (HG.out a2)
      have HG2 := Lib.hid (HG.out a3)
      rw [q1] at HG1
      rw [q2] at HG2
      clear q1 q2 HG
      go_enter Try.func13, Try.ntmps13
      go_wp2_with fail
      refine (HG1.out _).mono ?_
      rintro e w2 ⟨rfl, b2⟩
      go_wp2_with fail
      refine (HG2.out _).mono ?_
      rintro e w3 ⟨rfl, b3⟩
      have B3 := Lib.hid (bl_next b2 b3)
      clear b2 b3
      go_wp2_with fail
      refine (HF.out _ _).mono ?_
      rintro e w4 ⟨rfl, b4⟩
      have B4 := Lib.hid (bl_next B3.out b4)
      clear b4
      go_wp2_with fail
      refine (HZ.out _ _).mono ?_
      rintro e w5 ⟨rfl, b5⟩
      have B5 := Lib.hid (bl_next B4.out b5)
      clear b5
      go_wp2_with fail
      refine (HT.out _ _).mono ?_
      rintro e w6 ⟨rfl, b6⟩
      have B6 := Lib.hid (bl_next B5.out b6)
      clear b6
      go_wp2_with fail
      refine (awake17_any _).mono ?_
      rintro e w7 ⟨rfl, b7⟩
      go_wp2_with fail
      go_ret
      exact ⟨rfl, bl_next B6.out b7⟩
    · have HG1 := Lib.hid (HG.out a2)
      rw [q1] at HG1
      clear q1 HG
      go_enter Try.func13, Try.ntmps13
      go_wp2_with fail
      refine (HG1.out _).mono ?_
      rintro e w2 ⟨rfl, b2⟩
      have B3 := Lib.hid b2
      clear b2
      go_wp2_with fail
      refine (HF.out _ _).mono ?_
      rintro e w4 ⟨rfl, b4⟩
      have B4 := Lib.hid (bl_next B3.out b4)
      clear b4
      go_wp2_with fail
      refine (HZ.out _ _).mono ?_
      rintro e w5 ⟨rfl, b5⟩
      have B5 := Lib.hid (bl_next B4.out b5)
      clear b5
      go_wp2_with fail
      refine (HT.out _ _).mono ?_
      rintro e w6 ⟨rfl, b6⟩
      have B6 := Lib.hid (bl_next B5.out b6)
      clear b6
      go_wp2_with fail
      refine (awake17_any _).mono ?_
      rintro e w7 ⟨rfl, b7⟩
      go_wp2_with fail
      go_ret
      exact ⟨rfl, bl_next B6.out b7⟩
end Go.Proofs.Ytfjoghbkfkbbdaa
