/- SeeNone holds: where no other one is told, what is seen hangs on times and on oneself alone. No condition. -/
import Derived.Test.YtbiadeniplmkfaaF0
import Derived.Test.YtbiadeniplmkfaaC1
namespace Go.Proofs.Ytbiadeniplmkfaa
open Go.RowKit Go.ChangeShapes

theorem word_small {x : Int} (o : Int) {me at_ : Int} (h : x ≤ 1099511627776) : wordK noneL x me at_ o = pastK x at_ := by
  have hr := rd_cases x
  have h1 : rdK x = 1 ∧ rdN x = x := by omega
  unfold wordK
  rw [h1.1, h1.2]
  rfl
theorem word_own {me : Int} (o : Int) {at_ : Int} (h0 : 1 ≤ me) (h1 : me ≤ 65535) : wordK noneL (4611686018427387904 + me) me at_ o = 1 := by
  have hr := rd_cases (4611686018427387904 + me)
  have h1 : rdK (4611686018427387904 + me) = 2 ∧ rdN (4611686018427387904 + me) = me := by omega
  unfold wordK
  rw [h1.1, h1.2]
  simp [sayK]
theorem word_next {me : Int} (o : Int) {at_ : Int} (h0 : 1 ≤ me) (h1 : me < 65535) : wordK noneL (4611686018427387904 + me + 1) me at_ o = 3 := by
  have hr := rd_cases (4611686018427387904 + me + 1)
  have h1 : rdK (4611686018427387904 + me + 1) = 2 ∧ rdN (4611686018427387904 + me + 1) = me + 1 := by omega
  unfold wordK
  rw [h1.1, h1.2]
  have : ¬ me + 1 = me := by omega
  simp [sayK, toldS, noneL, this]
theorem word_ever {me : Int} (o : Int) {at_ : Int} : wordK noneL 2305843009213693952 me at_ o = 2 := rfl
theorem none_past {b e me at_ : Int} (hb : b ≤ 1099511627776) (he : e ≤ 1099511627776) : (b ≤ at_ ∧ at_ < e ∧ seeK noneL b e me at_ = 1 ∨ ¬ (b ≤ at_ ∧ at_ < e) ∧ seeK noneL b e me at_ = 2) ∧ seeL noneL b e me at_ = [] := by
  have h1 := pastK_ways b at_
  have h2 := pastK_ways e at_
  unfold seeK seeL
  rw [word_small 2 hb, word_small 1 he]
  rcases h1 with ⟨h1, e1⟩ | ⟨h1, e1⟩ <;> rcases h2 with ⟨h2, e2⟩ | ⟨h2, e2⟩ <;> rw [e1, e2] <;> simp [whoL] <;> omega
theorem none_own {me at_ : Int} (h0 : 1 ≤ me) (h1 : me < 65535) : seeK noneL (4611686018427387904 + me) 2305843009213693952 me at_ = 1 := by
  unfold seeK
  rw [word_own 2 h0 (by omega), word_ever]
  rfl
theorem none_own2 {b me at_ : Int} (hb : b ≤ 1099511627776) (h0 : 1 ≤ me) (h1 : me < 65535) : seeK noneL b (4611686018427387904 + me) me at_ = 2 := by
  have h2 := pastK_ways b at_
  unfold seeK
  rw [word_own 1 h0 (by omega), word_small 2 hb]
  rcases h2 with ⟨_, e1⟩ | ⟨_, e1⟩ <;> rw [e1] <;> rfl
theorem none_next {me at_ : Int} (h0 : 1 ≤ me) (h1 : me < 65535) : seeK noneL (4611686018427387904 + me + 1) 2305843009213693952 me at_ = 3 := by
  unfold seeK
  rw [word_next 2 h0 h1]
  rfl
theorem none_ever {b me at_ : Int} (hb : b ≤ 1099511627776) : b ≤ at_ ∧ seeK noneL b 2305843009213693952 me at_ = 1 ∨ at_ < b ∧ seeK noneL b 2305843009213693952 me at_ = 2 := by
  have h2 := pastK_ways b at_
  unfold seeK
  rw [word_ever, word_small 2 hb]
  rcases h2 with ⟨h, e1⟩ | ⟨h, e1⟩ <;> rw [e1] <;> simp <;> omega

set_option maxHeartbeats 3200000 in
theorem seeNone_walk {a0 a1 a2 a3 : Int} {w : World} (_w0 : (Lit.int .u64 a0).wf = true) (_w1 : (Lit.int .u64 a1).wf = true) (_w2 : (Lit.int .i64 a2).wf = true) (_w3 : (Lit.int .u64 a3).wf = true) :
    Calls Try.prog 11 #[.int .u64 a0, .int .u64 a1, .int .i64 a2, .int .u64 a3] w fun e w' => e = .returned (.bool true) ∧ Below w.heap.size w w' := by
  have m0 := u64_and31 a0
  have m1 := u64_and31 a1
  have m2 := i64_and4095 a2
  have m3 := u64_and31 a3
  obtain ⟨x, hx⟩ : ∃ x, x = a0 % 32 := ⟨_, rfl⟩
  obtain ⟨y, hy⟩ : ∃ x, x = a1 % 32 := ⟨_, rfl⟩
  obtain ⟨m, hm⟩ : ∃ x, x = a2 % 4096 := ⟨_, rfl⟩
  obtain ⟨t, ht⟩ : ∃ x, x = a3 % 32 := ⟨_, rfl⟩
  have bx : 0 ≤ x ∧ x < 32 := by omega
  have by_ : 0 ≤ y ∧ y < 32 := by omega
  have bm : 0 ≤ m ∧ m < 4096 := by omega
  have bt : 0 ≤ t ∧ t < 32 := by omega
  rw [← hx] at m0
  rw [← hy] at m1
  rw [← hm] at m2
  rw [← ht] at m3
  clear hx hy hm ht
  have HS := Lib.hid (fun b e me at_ w1 h0 h1 => see_any b e me at_ .nilFunc noneL w1 w1 (tells_nil w1) (Below.refl _ _) h0 h1)
  go_enter Try.func11, Try.ntmps11
  go_wp2_with (go_at_call 28; refine (forever_any _).mono ?_; rintro e w1 ⟨rfl, rfl⟩)
  refine (HS.out _ _ _ _ _ (by omega) (by omega) (by omega) (by omega)).mono ?_
  rintro ee w1 ⟨s1, rfl, i1, B1⟩
  have n1 := none_past (b := x) (e := y) (me := m + 1) (at_ := t) (by omega) (by omega)
  rw [n1.2] at i1
  obtain ⟨aa, ac, rfl⟩ := i1.nil_len
  have N1 := Lib.hid n1.1
  clear n1 i1
  generalize seeK noneL x y (m + 1) t = ka at *
  go_wp2_with fail
  refine (HS.out _ _ _ _ _ (by omega) (by omega) (by omega) (by omega)).mono ?_
  rintro ee w2 ⟨s2, rfl, _, b2⟩
  have B2 := bl_next B1 b2
  clear B1 b2
  rw [none_own (by omega) (by omega)]
  go_wp2_with fail
  refine (HS.out _ _ _ _ _ (by omega) (by omega) (by omega) (by omega)).mono ?_
  rintro ee w3 ⟨s3, rfl, _, b3⟩
  have B3 := bl_next B2 b3
  clear B2 b3
  rw [none_own2 (by omega) (by omega) (by omega)]
  go_wp2_with fail
  refine (HS.out _ _ _ _ _ (by omega) (by omega) (by omega) (by omega)).mono ?_
  rintro ee w4 ⟨s4, rfl, _, b4⟩
  have B4 := bl_next B3 b4
  clear B3 b4
  rw [none_next (by omega) (by omega)]
  go_wp2_with fail
  refine (HS.out _ _ _ _ _ (by omega) (by omega) (by omega) (by omega)).mono ?_
  rintro ee w5 ⟨s5, rfl, _, b5⟩
  have B5 := bl_next B4 b5
  clear B4 b5
  have n5 := none_ever (b := x) (me := m + 1) (at_ := t) (by omega)
  generalize seeK noneL x 2305843009213693952 (m + 1) t = ke at *
  clear HS
  have n1 := N1.out
  clear N1
  rcases n5 with ⟨h1, rfl⟩ | ⟨h1, rfl⟩
  all_goals
    rcases n1 with ⟨h2, h3, rfl⟩ | ⟨h2, rfl⟩
  case inr.inl => exfalso; omega
  all_goals
    first | (have hd : decide (t < y) = true := by simp; omega) | (have hd : decide (t < y) = false := by simp; omega) | skip
    go_wp2_with (go_at_call 29; refine (awake7_any _).mono ?_; rintro ee w6 ⟨rfl, hb6⟩)
    go_ret
    exact ⟨rfl, bl_next B5 hb6⟩

end Go.Proofs.Ytbiadeniplmkfaa
