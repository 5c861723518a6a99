/- SeeGrows holds: what is seen at a time of a version without an end is seen at every later one; what was over stays over. No condition. -/
import Derived.Test.YtbiadeniplmkfaaF0
import Derived.Test.YtbiadeniplmkfaaC1
namespace Go.Proofs.Ytbiadeniplmkfaa
open Go.RowKit Go.ChangeShapes

theorem small_word {x : Int} (o : Int) {me at_ : Int} (h : x ≤ 1099511627776) : wordK noneL x me at_ o = pastK x at_ := by
  have hr := rd_cases x
  have h1 : rdK x = 1 ∧ rdN x = x := by omega
  unfold wordK
  rw [h1.1, h1.2]
  rfl

set_option maxHeartbeats 1600000 in
theorem grows_end {x y a b : Int} (hab : a ≤ b) :
    (pastK x a = 1 ∧ pastK x b = 1 ∨ pastK x a = 2 ∧ pastK x b = 1 ∨ pastK x a = 2 ∧ pastK x b = 2) ∧ (pastK y a = 1 ∧ pastK y b = 1 ∨ pastK y a = 2 ∧ pastK y b = 1 ∨ pastK y a = 2 ∧ pastK y b = 2) := by
  have h1 := pastK_ways x a
  have h2 := pastK_ways x b
  have h3 := pastK_ways y a
  have h4 := pastK_ways y b
  omega

set_option maxHeartbeats 3200000 in
theorem seeGrows_walk {a0 a1 a2 a3 : Int} {w : World} (_w0 : (Lit.int .u64 a0).wf = true) (_w1 : (Lit.int .u64 a1).wf = true) (_w2 : (Lit.int .u64 a2).wf = true) (_w3 : (Lit.int .u64 a3).wf = true) :
    Calls Try.prog 9 #[.int .u64 a0, .int .u64 a1, .int .u64 a2, .int .u64 a3] w fun e w' => e = .returned (.bool true) ∧ Below w.heap.size w w' := by
  have m0 := u64_and63 a0
  have m1 := u64_and63 a1
  have m2 := u64_and63 a2
  have m3 := u64_and63 a3
  obtain ⟨x, hx⟩ : ∃ x, x = a0 % 64 := ⟨_, rfl⟩
  obtain ⟨y, hy⟩ : ∃ x, x = a1 % 64 := ⟨_, rfl⟩
  obtain ⟨a, ha⟩ : ∃ x, x = a2 % 64 := ⟨_, rfl⟩
  obtain ⟨b, hb⟩ : ∃ x, x = a3 % 64 := ⟨_, rfl⟩
  have bx : 0 ≤ x ∧ x < 64 := by omega
  have by_ : 0 ≤ y ∧ y < 64 := by omega
  have ba : 0 ≤ a ∧ a < 64 := by omega
  have bb : 0 ≤ b ∧ b < 64 := by omega
  rw [← hx] at m0
  rw [← hy] at m1
  rw [← ha] at m2
  rw [← hb] at m3
  clear hx hy ha hb
  have hab : a ≤ b ∨ b < a := by omega
  have HB := Lib.hid (fun z at_ w1 h0 h1 => begin_any z 3 at_ .nilFunc noneL w1 w1 (tells_nil w1) (Below.refl _ _) h0 h1)
  have HE := Lib.hid (fun z at_ w1 h0 h1 => end_any z 3 at_ .nilFunc noneL w1 w1 (tells_nil w1) (Below.refl _ _) h0 h1)
  have HF := Lib.hid (show ∀ at_, wordK noneL 2305843009213693952 3 at_ 1 = 2 from fun at_ => rfl)
  rcases hab with hab | hab
  all_goals
    first | (have HG := Lib.hid (@grows_end x y a b hab)) | (have HG := Lib.hid (@grows_end x y b a (by omega)))
    go_enter Try.func9, Try.ntmps9
    go_wp2_with fail
    refine (HB.out _ _ _ (by omega) (by omega)).mono ?_
    rintro ee w1 ⟨rfl, B1⟩
    rw [small_word 2 (by omega)]
    go_wp2_with fail
    refine (HB.out _ _ _ (by omega) (by omega)).mono ?_
    rintro ee w2 ⟨rfl, b2⟩
    have B2 := bl_next B1 b2
    clear B1 b2
    rw [small_word 2 (by omega)]
    go_wp2_with fail
    refine (HE.out _ _ _ (by omega) (by omega)).mono ?_
    rintro ee w3 ⟨rfl, b3⟩
    have B3 := bl_next B2 b3
    clear B2 b3
    rw [small_word 1 (by omega)]
    go_wp2_with fail
    refine (HE.out _ _ _ (by omega) (by omega)).mono ?_
    rintro ee w4 ⟨rfl, b4⟩
    have B4 := bl_next B3 b4
    clear B3 b4
    rw [small_word 1 (by omega)]
    go_wp2_with (go_at_call 28; refine (forever_any _).mono ?_; rintro e w1 ⟨rfl, rfl⟩)
    refine (HE.out _ _ _ (by omega) (by omega)).mono ?_
    rintro ee w5 ⟨rfl, b5⟩
    have B5 := bl_next B4 b5
    clear B4 b5
    rw [HF.out]
    have hg := HG.out
    clear HG HB HE HF
    rcases hg with ⟨⟨h1, h2⟩ | ⟨h1, h2⟩ | ⟨h1, h2⟩, ⟨h3, h4⟩ | ⟨h3, h4⟩ | ⟨h3, h4⟩⟩
    all_goals
      rw [h1, h2, h3, h4]
      clear h1 h2 h3 h4
      go_wp2_with (go_at_call 29; refine (awake7_any _).mono ?_; rintro ee w6 ⟨rfl, hb6⟩)
      go_ret
      exact ⟨rfl, bl_next B5 hb6⟩

end Go.Proofs.Ytbiadeniplmkfaa
