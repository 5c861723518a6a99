/- A word's reader; what is garbage. -/
import Derived.Test.YtfjoghbkfkbbdaaF1
import Derived.WalkSpells
import Derived.WalkLawsBesides
namespace Go.Proofs.Ytfjoghbkfkbbdaa
open Go.RowKit

/-- What a word says: kind and number. -/
def rdK (x : Int) : Int := if x ≤ 1099511627776 then 1 else if x = 2305843009213693952 then 3 else if 4611686018427387904 < x ∧ x ≤ 4611686018427453439 then 2 else 0
def rdN (x : Int) : Int := if x ≤ 1099511627776 then x else if x = 2305843009213693952 then 0 else if 4611686018427387904 < x ∧ x ≤ 4611686018427453439 then x - 4611686018427387904 else 0

theorem rd_cases (x : Int) : (x ≤ 1099511627776 ∧ rdK x = 1 ∧ rdN x = x) ∨ (x = 2305843009213693952 ∧ rdK x = 3 ∧ rdN x = 0) ∨ (4611686018427387904 < x ∧ x ≤ 4611686018427453439 ∧ rdK x = 2 ∧ rdN x = x - 4611686018427387904) ∨ (1099511627776 < x ∧ x ≠ 2305843009213693952 ∧ ¬ (4611686018427387904 < x ∧ x ≤ 4611686018427453439) ∧ rdK x = 0 ∧ rdN x = 0) := by
  unfold rdK rdN
  by_cases a : x ≤ 1099511627776
  · simp [a]
  · by_cases b : x = 2305843009213693952
    · simp [b]
    · by_cases c : 4611686018427387904 < x ∧ x ≤ 4611686018427453439
      · simp [a, b, c]
      · simp [a, b, c]; omega

set_option maxHeartbeats 400000 in
theorem word_read (x : Int) (w : World) (h0 : 0 ≤ x) (h1 : x ≤ 18446744073709551615) :
    Calls Try.prog 78 #[.int .u64 x] w fun e w' => e = .returned (.agg #[.int .i64 (rdK x), .int .u64 (rdN x)]) ∧ Below w.heap.size w w' := by
  have hc := Lib.hid (rd_cases x)
  go_enter Try.func78, Try.ntmps78
  go_wp2
  all_goals
    refine bodyPost_ret (v := .agg #[.int .i64 (rdK x), .int .u64 (rdN x)]) ?_ rfl ⟨rfl, ?_⟩
    · have := hc.out
      simp [results, Try.results78, go_sem]
      simp only [beq_iff_eq, beq_eq_false_iff_ne, ne_eq] at *
      omega
    · exact (Below.refl _ _).alloc (Nat.le_refl _) _

/-- Whether a word of an end says that nobody who lives at 'low' or later sees the version. -/
def garb (x low : Int) : Bool := decide (1 ≤ x ∧ x ≤ 1099511627776 ∧ x ≤ low)
theorem garb_time {x low : Int} (h : x ≤ 1099511627776) : garb x low = (decide (1 ≤ x) && decide (x ≤ low)) := by
  unfold garb
  simp [h]
theorem garb_no {x low : Int} (h : 1099511627776 < x) : garb x low = false := by
  unfold garb
  rw [decide_eq_false_iff_not]
  omega
set_option maxHeartbeats 800000 in
theorem garbage_any (b x low : Int) (w : World) (h0 : 0 ≤ x) (h1 : x ≤ 18446744073709551615) :
    Calls Try.prog 59 #[.int .u64 b, .int .u64 x, .int .u64 low] w fun e w' => e = .returned (.bool (garb x low)) ∧ Below w.heap.size w w' := by
  have HR := Lib.hid (fun w => word_read x w h0 h1)
  have hx := rd_cases x
  have hg : (rdK x = 1 ∧ garb x low = (decide (1 ≤ rdN x) && decide (rdN x ≤ low))) ∨ (¬ rdK x = 1 ∧ garb x low = false) := by
    rcases hx with ⟨h, h2, h3⟩ | ⟨rfl, h2, h3⟩ | ⟨h, _, h2, h3⟩ | ⟨h, _, _, h2, h3⟩
    · left; rw [h3]; exact ⟨h2, garb_time h⟩
    · right; rw [h2]; exact ⟨by decide, garb_no (by decide)⟩
    · right; rw [h2]; exact ⟨by decide, garb_no (by omega)⟩
    · right; rw [h2]; exact ⟨by decide, garb_no h⟩
  clear hx
  generalize rdK x = k at *
  generalize rdN x = n at *
  rcases hg with ⟨rfl, hg⟩ | ⟨hk, hg⟩
  · rw [hg]
    clear hg
    rcases Bool.eq_false_or_eq_true (decide (1 ≤ n)) with e1 | e1 <;> rcases Bool.eq_false_or_eq_true (decide (n ≤ low)) with e2 | e2
    all_goals
      rw [e1, e2]
      go_enter Try.func59, Try.ntmps59
      go_wp2_with fail
      refine (HR.out _).mono ?_
      rintro e w1 ⟨rfl, hb1⟩
      go_wp2_with fail
      go_ret
      exact ⟨rfl, bl_alloc hb1 _⟩
  · rw [hg]
    have hk2 : (k == 1) = false := by simpa using hk
    clear hg hk
    go_enter Try.func59, Try.ntmps59
    go_wp2_with fail
    refine (HR.out _).mono ?_
    rintro e w1 ⟨rfl, hb1⟩
    go_wp2_with fail
    go_ret
    exact ⟨rfl, bl_alloc hb1 _⟩

end Go.Proofs.Ytfjoghbkfkbbdaa
