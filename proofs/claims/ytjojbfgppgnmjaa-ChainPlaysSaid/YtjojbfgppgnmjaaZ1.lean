/- Where a link stands in a row: vinculumlaw9.at. -/
import Derived.Test.YtjojbfgppgnmjaaZ0
namespace Go.Proofs.Ytjojbfgppgnmjaa
open Go.RowKit

/-- Where a link stands first; below 0: nowhere. -/
def atOf (l : List Int) (x : Int) : Int := if x ∈ l then (l.idxOf x : Int) else -1
theorem atOf_found {l : List Int} {x : Int} {k : Nat} (hk : k < l.length) (h : l.getD k 0 = x) (hb : ∀ j, j < k → ¬ l.getD j 0 = x) : atOf l x = k := by
  have hm : x ∈ l := h ▸ getD_mem hk
  rw [atOf, if_pos hm]
  congr 1
  have hlt := List.idxOf_lt_length_of_mem hm
  have hget : l.getD (l.idxOf x) 0 = x := by simp [List.getD_eq_getElem?_getD, hlt]
  by_cases h1 : l.idxOf x < k
  · exact absurd hget (hb _ h1)
  by_cases h2 : k < l.idxOf x
  · have := List.not_of_lt_findIdx (p := fun y => y == x) (xs := l) h2
    simp at this
    simp [List.getD_eq_getElem?_getD, hk] at h
    exact absurd h this
  · omega
theorem atOf_none {l : List Int} {x : Int} (h : ∀ j, j < l.length → ¬ l.getD j 0 = x) : atOf l x = -1 := by
  rw [atOf, if_neg]
  intro hm
  obtain ⟨j, hj, e⟩ := List.getElem_of_mem hm
  exact h j hj (by simp [List.getD_eq_getElem?_getD, hj, e])
theorem atOf_mem {l : List Int} {x : Int} (h : x ∈ l) : ∃ k : Nat, atOf l x = k ∧ k < l.length ∧ l.getD k 0 = x := by
  have hlt := List.idxOf_lt_length_of_mem h
  exact ⟨l.idxOf x, by rw [atOf, if_pos h], hlt, by simp [List.getD_eq_getElem?_getD, hlt]⟩
theorem atOf_not {l : List Int} {x : Int} (h : ¬ x ∈ l) : atOf l x = -1 := by rw [atOf, if_neg h]

set_option maxRecDepth 100000 in
set_option maxHeartbeats 1600000 in
theorem row_at (va : Value) (l : List Int) (x : Int) (w : World) (ha : Owned .u64 28 w va l) (hl : l.length ≤ 1000000) :
    Calls Try.prog 40 #[va, .int .u64 x] w fun e w' => e = .returned (.int .i64 (atOf l x)) ∧ w = w' := by
  obtain ⟨a, ca, rfl, _, na, ma⟩ := ha.form
  have HA := Lib.hid ha
  clear ha
  go_enter Try.func40, Try.ntmps40
  go_wp2_with fail
  go_loopw [5] (fun i wr => ∃ (k : Nat), k ≤ l.length ∧ i = .int .i64 k ∧ wr = w ∧ ∀ j, j < k → ¬ l.getD j 0 = x) (fun i _ => l.length - (intOf i).toNat)
  case atStart => exact ⟨0, Nat.zero_le _, rfl, rfl, fun j hj => by omega⟩
  case round =>
    obtain ⟨k, hk, rfl, rfl, hb⟩ := hrel
    by_cases hlt : k < l.length
    · obtain ⟨ga, rfl⟩ : ∃ g, a = some ⟨g, 0, none⟩ := by
        cases a with
        | none => have := (na rfl).1; omega
        | some g => exact ⟨g.block, by rw [← (ma g rfl).1]⟩
      have d1 := HA.out.at_ hlt
      have HB := Lib.hid hb
      clear hb na ma
      by_cases he : l.getD k 0 = x
      · have HE := Lib.hid (atOf_found hlt he HB.out)
        have heq : (l.getD k 0 == x) = true := by simpa using he
        clear he
        generalize l.getD k 0 = y at *
        go_wp2_with fail
        go_ret
        exact ⟨by rw [HE.out]; rfl, rfl⟩
      · have HE := Lib.hid he
        have heq : (l.getD k 0 == x) = false := by simpa using he
        clear he
        generalize hy : l.getD k 0 = y at *
        have HY := Lib.hid hy
        clear hy
        go_wp2_with fail
        go_roundw
        case rel =>
          refine ⟨k + 1, by omega, by go_num, by trivial, fun j hj => ?_⟩
          by_cases e : j = k
          · subst e
            rw [HY.out]
            exact HE.out
          · exact HB.out j (by omega)
        case measure => simp [intOf]; omega
    · have hn := atOf_none (l := l) (x := x) (fun j hj => hb j (by omega))
      go_wp2_with fail
      go_ret
      exact ⟨by rw [hn]; rfl, rfl⟩
end Go.Proofs.Ytjojbfgppgnmjaa
