/- vinculumref1.Same: two rows of the call's own that are alike. -/
import Derived.Test.YtfjoghbkfkbbdaaQ0
import Derived.LoopTactic
import Derived.Deep.QuietTactic
import Derived.BigQuiet
namespace Go.Proofs.Ytfjoghbkfkbbdaa
open Go.RowKit

theorem owned_blk {k : IntKind} {E : TypeId} {w : World} {g : Nat} {l : List Int} (h : w.heap[g]? = some (.cells (l.map (Value.int k)).toArray E (0, 0))) (hl : l.length ≤ maxLen) : Owned k E w (.slice (some ⟨g, 0, none⟩) l.length l.length) l :=
  ⟨by simp, .inr ⟨g, l.length, (l.map (Value.int k)).toArray, rfl, Nat.zero_le _, h, Nat.le_refl _, hl, by simp, by rw [Nat.mul_one]; exact List.take_of_length_le (by simp)⟩⟩

set_option maxRecDepth 100000 in
set_option maxHeartbeats 1600000 in
theorem rows_same (va vb : Value) (l : List Int) (w : World) (ha : Owned .u64 39 w va l) (hb : Owned .u64 39 w vb l) (hl : l.length ≤ 1000000) :
    Calls Try.prog 50 #[va, vb] w fun e w' => e = .returned (.bool true) ∧ Below w.heap.size w w' := by
  obtain ⟨a, ca, rfl, _, na, ma⟩ := ha.form
  obtain ⟨b, cb, rfl, _, nb, mb⟩ := hb.form
  have HA := Lib.hid ha
  have HB := Lib.hid hb
  clear ha hb
  go_enter Try.func50, Try.ntmps50
  go_wp2_with fail
  go_loopw [5] (fun i wr => ∃ (k : Nat), k ≤ l.length ∧ i = .int .i64 k ∧ Below w.heap.size w wr) (fun i _ => l.length - (intOf i).toNat)
  case atStart => exact ⟨0, Nat.zero_le _, rfl, Below.refl _ _⟩
  case round =>
    obtain ⟨k, hk, rfl, hBB⟩ := hrel
    by_cases hlt : k < l.length
    · obtain ⟨ga, rfl⟩ : ∃ g, a = some ⟨g, 0, none⟩ := by
        cases a with
        | none => have := (na rfl).1; omega
        | some g => exact ⟨g.block, by rw [← (ma g rfl).1]⟩
      obtain ⟨gb, rfl⟩ : ∃ g, b = some ⟨g, 0, none⟩ := by
        cases b with
        | none => have := (nb rfl).1; omega
        | some g => exact ⟨g.block, by rw [← (mb g rfl).1]⟩
      have d1 := (HA.out.mod (Mod.of_below (F := fun _ => False) hBB) (fun _ _ h => h)).at_ hlt
      have d2 := (HB.out.mod (Mod.of_below (F := fun _ => False) hBB) (fun _ _ h => h)).at_ hlt
      have HBB := Lib.hid hBB
      clear hBB na nb ma mb
      generalize l.getD k 0 = y at *
      go_wp2_with fail
      go_quiet (fail)
      go_wp2_with fail
      go_roundw
      case rel => exact ⟨k + 1, by omega, by go_num, HBB.out.trans (((Mod.refl (fun _ => False) _).drewN _).below (fun _ h => h.elim) HBB.out.size)⟩
      case measure => simp [intOf]; omega
    · go_wp2_with fail
      go_ret
      exact ⟨rfl, hBB⟩

end Go.Proofs.Ytfjoghbkfkbbdaa
