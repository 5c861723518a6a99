/- SeeStates holds: what a version's maker is told as decides whether it is seen. No condition. -/
import Derived.Test.YtbiadeniplmkfaaF0
import Derived.Test.YtbiadeniplmkfaaC1
namespace Go.Proofs.Ytbiadeniplmkfaa
open Go.RowKit Go.ChangeShapes

def oneL (s en : Int) : Int → Tx × Bool := fun _ => (⟨1, s, 1, en⟩, true)

set_option maxHeartbeats 400000 in
theorem statesClo_any (s en id : Int) (b c : Nat) (w : World) (hs : w.cell? ⟨b, 0, none⟩ = some (.int .i64 s)) (he : w.cell? ⟨c, 0, none⟩ = some (.int .u64 en)) :
    Calls Try.prog 26 #[.int .i64 id, .pointer (some ⟨b, 0, none⟩), .pointer (some ⟨c, 0, none⟩)] w fun e w' => e = .returned (.tuple #[(oneL s en id).1.val, .bool (oneL s en id).2]) ∧ Below w.heap.size w w' := by
  have hb := cell_lt0 hs
  have hc := cell_lt0 he
  simp only [oneL, Tx.val]
  go_enter Try.func26, Try.ntmps26
  go_wp2_with fail
  refine bodyPost_ret (v := .tuple #[.agg #[.int .i64 1, .int .i64 s, .int .u64 1, .int .u64 en], .bool true]) (by simp [results, Try.results26, go_sem]) rfl ⟨rfl, ?_⟩
  exact bl_alloc (Below.refl _ _) _

theorem states_see (s en at_ : Int) : seeK (oneL s en) 4611686018427387909 2305843009213693952 9 at_ = (if s = 5 then 3 else if s = 3 then pastK en at_ else if s = 2 ∧ 0 < en ∧ en ≤ at_ then 1 else 2) ∧
    seeL (oneL s en) 4611686018427387909 2305843009213693952 9 at_ = (if s = 2 ∧ 0 < en ∧ en ≤ at_ then [5] else []) := by
  have e1 : wordK (oneL s en) 2305843009213693952 9 at_ 1 = 2 := by rfl
  have k : rdK 4611686018427387909 = 2 := by decide
  have n : rdN 4611686018427387909 = 5 := by decide
  have hp := pastK_ways en at_
  have e2 : wordK (oneL s en) 4611686018427387909 9 at_ 2 = (if s = 5 then 3 else if s = 3 then pastK en at_ else if s = 2 ∧ 0 < en ∧ en ≤ at_ then 4 else 2) := by
    unfold wordK
    rw [k, n]
    by_cases h5 : s = 5
    · subst h5; rfl
    · have : (s != 5) = true := by simpa using h5
      simp [sayK, toldS, oneL, this, h5]
  have e3 : wordN (oneL s en) 4611686018427387909 9 at_ = (if s = 2 ∧ 0 < en ∧ en ≤ at_ then 5 else 0) := by
    unfold wordN
    rw [k, n]
    by_cases h5 : s = 5
    · subst h5; rfl
    · have : (s != 5) = true := by simpa using h5
      by_cases h3 : s = 3
      · subst h3; rfl
      · simp [sayN, toldS, oneL, this, h3]
  unfold seeK seeL
  rw [e1, e2, e3]
  by_cases h5 : s = 5
  · subst h5; simp
  · by_cases h3 : s = 3
    · subst h3
      rcases hp with ⟨_, hp⟩ | ⟨_, hp⟩ <;> simp [hp, whoL]
    · by_cases h2 : s = 2 ∧ 0 < en ∧ en ≤ at_
      · simp [h2, whoL]
      · simp [h5, h3, h2]

set_option maxHeartbeats 1600000 in
theorem seeStates_walk {a0 a1 a2 : Int} {w : World} (_w0 : (Lit.int .i64 a0).wf = true) (_w1 : (Lit.int .u64 a1).wf = true) (_w2 : (Lit.int .u64 a2).wf = true) :
    Calls Try.prog 7 #[.int .i64 a0, .int .u64 a1, .int .u64 a2] w fun e w' => e = .returned (.bool true) ∧ Below w.heap.size w w' := by
  have m0 := i64_and255 a0
  have m1 := u64_and15 a1
  have m2 := u64_and15 a2
  obtain ⟨x, hx⟩ : ∃ x, x = a0 % 256 := ⟨_, rfl⟩
  obtain ⟨en, he⟩ : ∃ x, x = a1 % 16 := ⟨_, rfl⟩
  obtain ⟨at_, ha⟩ : ∃ x, x = a2 % 16 := ⟨_, rfl⟩
  have bx : 0 ≤ x ∧ x < 256 := by omega
  have be : 0 ≤ en ∧ en < 16 := by omega
  have ba : 0 ≤ at_ ∧ at_ < 16 := by omega
  rw [← hx] at m0
  rw [← he] at m1
  rw [← ha] at m2
  clear hx he ha
  have hy : x % 5 = 0 ∨ x % 5 = 1 ∨ x % 5 = 2 ∨ x % 5 = 3 ∨ x % 5 = 4 := by omega
  have HS := Lib.hid (fun s => states_see s en at_)
  have HC := Lib.hid (fun s w1 => statesClo_any s en · · · w1)
  go_enter Try.func7, Try.ntmps7
  go_wp2_with (go_at_call 28; refine (forever_any _).mono ?_; rintro e w1 ⟨rfl, rfl⟩)
  obtain ⟨s, hs⟩ : ∃ s, s = x % 5 + 1 := ⟨_, rfl⟩
  have bs : s = 1 ∨ s = 2 ∨ s = 3 ∨ s = 4 ∨ s = 5 := by omega
  have hp := pastK_ways en at_
  rw [← hs]
  clear hs hy
  have hT : ∀ s, Tells ((w.alloc (.cells #[.int .i64 s] 3)).alloc (.cells #[.int .u64 en] 22)) (.func (.func 26) #[] #[.pointer (some ⟨w.heap.size, 0, none⟩), .pointer (some ⟨w.heap.size + 1, 0, none⟩)]) (oneL s en) :=
    fun s => .inr ⟨_, _, rfl, fun _ _ => by kernel_rfl, fun w1 id hb => statesClo_any s en id w.heap.size (w.heap.size + 1) w1 (keep hb (by simp)) (keep hb (by simp))⟩
  have HT := Lib.hid hT
  clear hT HC
  refine (see_any _ _ _ _ _ _ _ _ (HT.out s) (Below.refl _ _) (by decide) (by decide) (by decide) (by decide)).mono ?_
  rintro ee w1 ⟨sv, rfl, hi, B1⟩
  rw [(HS.out s).1]
  rw [(HS.out s).2] at hi
  have c1 : w1.cell? ⟨w.heap.size, 0, none⟩ = some (.int .i64 s) := keep B1 (by simp)
  have c2 : w1.cell? ⟨w.heap.size + 1, 0, none⟩ = some (.int .u64 en) := keep B1 (by simp)
  clear HS HT
  have BB : Below w.heap.size w w1 := bl_next (bl_alloc (bl_alloc (Below.refl _ _) _) _) B1
  clear B1
  rcases bs with rfl | rfl | rfl | rfl | rfl
  case inr.inl =>
    by_cases h0 : 0 < en
    · by_cases h1 : en ≤ at_
      · have hen : (en != 0) = true := by simp; omega
        rw [if_pos ⟨rfl, h0, h1⟩] at hi
        simp only [reduceIte, Int.reduceEq]
        rcases hi with ⟨hi, _⟩ | ⟨b, off, cap, rfl, _, _, hc⟩
        · cases hi
        have c3 := hc 0 (by simp)
        simp at c3
        clear hc
        go_wp2_with (go_at_call 29; refine (awake7_any _).mono ?_; rintro ee w6 ⟨rfl, hb6⟩)
        go_ret
        exact ⟨rfl, bl_next BB hb6⟩
      · have hno : ¬ ((2 : Int) = 2 ∧ 0 < en ∧ en ≤ at_) := fun h => h1 h.2.2
        have hen : (en != 0) = true := by simp; omega
        rw [if_neg hno] at hi ⊢
        simp only [reduceIte, Int.reduceEq]
        obtain ⟨a, cap, rfl⟩ := hi.nil_len
        go_wp2_with (go_at_call 29; refine (awake7_any _).mono ?_; rintro ee w6 ⟨rfl, hb6⟩)
        go_ret
        exact ⟨rfl, bl_next BB hb6⟩
    · have hno : ¬ ((2 : Int) = 2 ∧ 0 < en ∧ en ≤ at_) := fun h => h0 h.2.1
      have hen : (en != 0) = false := by simp; omega
      rw [if_neg hno] at hi ⊢
      simp only [reduceIte, Int.reduceEq]
      obtain ⟨a, cap, rfl⟩ := hi.nil_len
      go_wp2_with (go_at_call 29; refine (awake7_any _).mono ?_; rintro ee w6 ⟨rfl, hb6⟩)
      go_ret
      exact ⟨rfl, bl_next BB hb6⟩
  case inr.inr.inl =>
    simp only [reduceIte, Int.reduceEq, false_and] at hi ⊢
    obtain ⟨a, cap, rfl⟩ := hi.nil_len
    rcases hp with ⟨h1, h2⟩ | ⟨h1, h2⟩
    all_goals
      rw [h2]
      clear h2
      go_wp2_with (go_at_call 29; refine (awake7_any _).mono ?_; rintro ee w6 ⟨rfl, hb6⟩)
      go_ret
      exact ⟨rfl, bl_next BB hb6⟩
  all_goals
    simp only [reduceIte, Int.reduceEq, false_and] at hi ⊢
    obtain ⟨a, cap, rfl⟩ := hi.nil_len
    go_wp2_with (go_at_call 29; refine (awake7_any _).mono ?_; rintro ee w6 ⟨rfl, hb6⟩)
    go_ret
    exact ⟨rfl, bl_next BB hb6⟩

end Go.Proofs.Ytbiadeniplmkfaa
