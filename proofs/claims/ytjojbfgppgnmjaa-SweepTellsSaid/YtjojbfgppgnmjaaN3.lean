/- What is garbage: mark.Garbage, the program's and the document's. No condition but the words' range. -/
import Derived.Test.YtjojbfgppgnmjaaN2
namespace Go.Proofs.Ytjojbfgppgnmjaa
open Go.RowKit

/-- Whether a word of an end says that nobody who lives at 'low' or later sees the version. -/
def garb (x low : Int) : Bool := decide (1 ≤ x ∧ x ≤ 1099511627776 ∧ x ≤ low)
theorem garb_time {x low : Int} (h : x ≤ 1099511627776) : garb x low = (decide (1 ≤ x) && decide (x ≤ low)) := by
  unfold garb
  simp [h]
theorem garb_no {x low : Int} (h : 1099511627776 < x) : garb x low = false := by
  unfold garb
  rw [decide_eq_false_iff_not]
  omega
theorem ret_boolE {a b : Bool} (h : a = b) : Ending.returned (.bool a) = .returned (.bool b) := by rw [h]

set_option maxHeartbeats 800000 in
theorem garbage_any (b x low : Int) (w : World) (h0 : 0 ≤ x) (h1 : x ≤ 18446744073709551615) :
    Calls Try.prog 72 #[.int .u64 b, .int .u64 x, .int .u64 low] w fun e w' => e = .returned (.bool (garb x low)) ∧ Below w.heap.size w w' := by
  have HR := Lib.hid (fun w => word_read x w h0 h1)
  have hx := rd_cases x
  have hg : (rdK x = 1 ∧ garb x low = (decide (1 ≤ rdN x) && decide (rdN x ≤ low))) ∨ (¬ rdK x = 1 ∧ garb x low = false) := by
    rcases hx with ⟨h, h2, h3⟩ | ⟨rfl, h2, h3⟩ | ⟨h, _, h2, h3⟩ | ⟨h, _, _, h2, h3⟩
    · left; rw [h3]; exact ⟨h2, garb_time h⟩
    · right; rw [h2]; exact ⟨by decide, garb_no (by decide)⟩
    · right; rw [h2]; exact ⟨by decide, garb_no (by omega)⟩
    · right; rw [h2]; exact ⟨by decide, garb_no h⟩
  clear hx
  generalize rdK x = k at *
  generalize rdN x = n at *
  rcases hg with ⟨rfl, hg⟩ | ⟨hk, hg⟩
  · rw [hg]
    clear hg
    rcases Bool.eq_false_or_eq_true (decide (1 ≤ n)) with e1 | e1 <;> rcases Bool.eq_false_or_eq_true (decide (n ≤ low)) with e2 | e2
    all_goals
      rw [e1, e2]
      go_enter Try.func72, Try.ntmps72
      go_wp2_with fail
      refine (HR.out _).mono ?_
      rintro e w1 ⟨rfl, hb1⟩
      go_wp2_with fail
      go_ret
      exact ⟨rfl, bl_alloc hb1 _⟩
  · rw [hg]
    have hk2 : (k == 1) = false := by simpa using hk
    clear hg hk
    go_enter Try.func72, Try.ntmps72
    go_wp2_with fail
    refine (HR.out _).mono ?_
    rintro e w1 ⟨rfl, hb1⟩
    go_wp2_with fail
    go_ret
    exact ⟨rfl, bl_alloc hb1 _⟩

set_option maxHeartbeats 800000 in
theorem rgarbage_any (x low : Int) (w : World) :
    Calls Try.prog 43 #[.int .u64 x, .int .u64 low] w fun e w' => e = .returned (.bool (garb x low)) ∧ w = w' := by
  have hg : garb x low = (decide (1 ≤ x) && (decide (x ≤ 1099511627776) && decide (x ≤ low))) := by
    unfold garb
    simp
  rw [hg]
  clear hg
  rcases Bool.eq_false_or_eq_true (decide (1 ≤ x)) with e1 | e1 <;> rcases Bool.eq_false_or_eq_true (decide (x ≤ 1099511627776)) with e2 | e2 <;> rcases Bool.eq_false_or_eq_true (decide (x ≤ low)) with e3 | e3
  all_goals
    rw [e1, e2, e3]
    go_enter Try.func43, Try.ntmps43
    go_wp2_with fail
    go_ret
    exact ⟨rfl, rfl⟩
end Go.Proofs.Ytjojbfgppgnmjaa
