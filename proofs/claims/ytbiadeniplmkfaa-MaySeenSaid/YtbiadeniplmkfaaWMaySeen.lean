/- MaySeen holds: what may be written by one whose words no other one's are is over for nobody. No condition. -/
import Derived.Test.YtbiadeniplmkfaaF0
import Derived.Test.YtbiadeniplmkfaaC2
namespace Go.Proofs.Ytbiadeniplmkfaa
open Go.RowKit Go.ChangeShapes


set_option maxHeartbeats 1600000 in
theorem maySeen_walk {a0 a1 a2 a3 : Int} {w : World} (_w0 : (Lit.int .i64 a0).wf = true) (w1 : (Lit.int .u64 a1).wf = true) (_w2 : (Lit.int .i64 a2).wf = true) (_w3 : (Lit.int .u64 a3).wf = true) :
    Calls Try.prog 14 #[.int .i64 a0, .int .u64 a1, .int .i64 a2, .int .u64 a3] w fun e w' => e = .returned (.bool true) ∧ Below w.heap.size w w' := by
  have m2 := i64_and4095 a2
  obtain ⟨m, hm⟩ : ∃ x, x = a2 % 4096 := ⟨_, rfl⟩
  have bm : 0 ≤ m ∧ m < 4096 := by omega
  rw [← hm] at m2
  clear hm
  obtain ⟨g0, g1⟩ := wordOf_range a0 a1 (bounds_u64 w1).1 (bounds_u64 w1).2
  clear w1
  go_enter Try.func14, Try.ntmps14
  go_wp2_with (go_at_call 19; refine (word_any _ _ _).mono ?_; rintro e w1 ⟨rfl, rfl⟩)
  generalize wordOf a0 a1 = x at *
  refine (write_any _ _ _ noneL w _ (tells_nil _) (Below.refl _ _) g0 g1).mono ?_
  rintro ee w1 ⟨rfl, B1⟩
  go_wp2_with fail
  refine (ref_read _ _ g0 g1).mono ?_
  rintro ee w2 ⟨rfl, b2⟩
  have B2 := bl_alloc (bl_next B1 b2) (.cells #[.int .i64 (rdK x), .int .u64 (rdN x)] 59)
  have HE := Lib.hid (fun w' hw' => end_any x (m + 1) a3 .nilFunc noneL w w' (tells_nil _) hw' g0 g1)
  have hx := rd_ways x
  have HK : Hid (mayK noneL x (m + 1) = if rdK x = 3 then 1 else if rdK x = 2 then (if rdN x = m + 1 then 1 else 3) else 2) := by
    unfold mayK; rfl
  have HN : Hid (mayN noneL x (m + 1) = 0) := by
    unfold mayN
    show _ = _
    split
    · split <;> rfl
    · rfl
  have HW : Hid (wordK noneL x (m + 1) a3 1 = if rdK x = 1 then pastK (rdN x) a3 else if rdK x = 2 then (if rdN x = m + 1 then 1 else 3) else if rdK x = 3 then 2 else 1) := by
    unfold wordK sayK; rfl
  rw [HN.out]
  clear HN
  generalize mayK noneL x (m + 1) = km at *
  generalize wordK noneL x (m + 1) a3 1 = kw at *
  generalize wordN noneL x (m + 1) a3 = nw at *
  generalize rdK x = k at *
  generalize rdN x = n at *
  have hme := Bool.eq_false_or_eq_true (n == m + 1)
  rcases hx with ⟨rfl, hn, hm⟩ | ⟨rfl, hn, hm⟩ | ⟨rfl, hn⟩ | ⟨rfl, hn, hm⟩
  case inr.inl =>
    rcases hme with hme | hme
    · have hq : n = m + 1 := by simpa using hme
      have e1 : km = 1 := by rw [HK.out]; simp [hq]
      have e2 : kw = 1 := by rw [HW.out]; simp [hq]
      subst e1 e2
      clear HK HW hq
      go_wp2_with fail
      refine (HE.out _ B2).mono ?_
      rintro ee w3 ⟨rfl, b3⟩
      obtain ⟨hc3, hf3⟩ := bcell b3
      have hz3 : w2.heap.size < w3.heap.size := by have := b3.size; simp at this; omega
      simp only [World.size_alloc] at hc3 hf3
      go_wp2_with (go_at_call 18; refine (awake8_any _).mono ?_; rintro ee w6 ⟨rfl, hb6⟩)
      go_ret
      exact ⟨rfl, bl_next (bl_next B2 b3) hb6⟩
    · have hq : n ≠ m + 1 := by simpa using hme
      have e1 : km = 3 := by rw [HK.out]; simp [hq]
      have e2 : kw = 3 := by rw [HW.out]; simp [hq]
      subst e1 e2
      clear HK HW hq
      go_wp2_with fail
      refine (HE.out _ B2).mono ?_
      rintro ee w3 ⟨rfl, b3⟩
      obtain ⟨hc3, hf3⟩ := bcell b3
      have hz3 : w2.heap.size < w3.heap.size := by have := b3.size; simp at this; omega
      simp only [World.size_alloc] at hc3 hf3
      go_wp2_with (go_at_call 18; refine (awake8_any _).mono ?_; rintro ee w6 ⟨rfl, hb6⟩)
      go_ret
      exact ⟨rfl, bl_next (bl_next B2 b3) hb6⟩
  case inr.inr.inl =>
    have e1 : km = 1 := HK.out
    have e2 : kw = 2 := HW.out
    subst e1 e2
    clear HK HW hn hme
    go_wp2_with fail
    refine (HE.out _ B2).mono ?_
    rintro ee w3 ⟨rfl, b3⟩
    obtain ⟨hc3, hf3⟩ := bcell b3
    have hz3 : w2.heap.size < w3.heap.size := by have := b3.size; simp at this; omega
    simp only [World.size_alloc] at hc3 hf3
    go_wp2_with (go_at_call 18; refine (awake8_any _).mono ?_; rintro ee w6 ⟨rfl, hb6⟩)
    go_ret
    exact ⟨rfl, bl_next (bl_next B2 b3) hb6⟩
  all_goals
    have e1 : km = 2 := HK.out
    subst e1
    clear HK HW hn hme
    go_wp2_with fail
    refine (HE.out _ B2).mono ?_
    rintro ee w3 ⟨rfl, b3⟩
    obtain ⟨hc3, hf3⟩ := bcell b3
    have hz3 : w2.heap.size < w3.heap.size := by have := b3.size; simp at this; omega
    simp only [World.size_alloc] at hc3 hf3
    go_wp2_with (go_at_call 18; refine (awake8_any _).mono ?_; rintro ee w6 ⟨rfl, hb6⟩)
    go_ret
    exact ⟨rfl, bl_next (bl_next B2 b3) hb6⟩

end Go.Proofs.Ytbiadeniplmkfaa
