/- A chain over time: vinculumref1.Same; vinculumlaw9.awake. -/
import Derived.Test.YtjojbfgppgnmjaaY8
import Derived.Test.YtjojbfgppgnmjaaF3
import Derived.Deep.LoopGhost
namespace Go.Proofs.Ytjojbfgppgnmjaa
open Go.RowKit

theorem owned_blk {k : IntKind} {E : TypeId} {w : World} {g : Nat} {l : List Int} (h : w.heap[g]? = some (.cells (l.map (Value.int k)).toArray E (0, 0))) (hl : l.length ≤ maxLen) : Owned k E w (.slice (some ⟨g, 0, none⟩) l.length l.length) l :=
  ⟨by simp, .inr ⟨g, l.length, (l.map (Value.int k)).toArray, rfl, Nat.zero_le _, h, Nat.le_refl _, hl, by simp, by rw [Nat.mul_one]; exact List.take_of_length_le (by simp)⟩⟩

set_option maxRecDepth 100000 in
set_option maxHeartbeats 1600000 in
theorem rows_same (va vb : Value) (l : List Int) (w : World) (ha : Owned .u64 28 w va l) (hb : Owned .u64 28 w vb l) (hl : l.length ≤ 1000000) :
    Calls Try.prog 32 #[va, vb] w fun e w' => e = .returned (.bool true) ∧ Below w.heap.size w w' := by
  obtain ⟨a, ca, rfl, _, na, ma⟩ := ha.form
  obtain ⟨b, cb, rfl, _, nb, mb⟩ := hb.form
  have HA := Lib.hid ha
  have HB := Lib.hid hb
  clear ha hb
  go_enter Try.func32, Try.ntmps32
  go_wp2_with fail
  go_loopw [5] (fun i wr => ∃ (k : Nat), k ≤ l.length ∧ i = .int .i64 k ∧ Below w.heap.size w wr) (fun i _ => l.length - (intOf i).toNat)
  case atStart => exact ⟨0, Nat.zero_le _, rfl, Below.refl _ _⟩
  case round =>
    obtain ⟨k, hk, rfl, hBB⟩ := hrel
    by_cases hlt : k < l.length
    · obtain ⟨ga, rfl⟩ : ∃ g, a = some ⟨g, 0, none⟩ := by
        cases a with
        | none => have := (na rfl).1; omega
        | some g => exact ⟨g.block, by rw [← (ma g rfl).1]⟩
      obtain ⟨gb, rfl⟩ : ∃ g, b = some ⟨g, 0, none⟩ := by
        cases b with
        | none => have := (nb rfl).1; omega
        | some g => exact ⟨g.block, by rw [← (mb g rfl).1]⟩
      have d1 := (HA.out.mod (Mod.of_below (F := fun _ => False) hBB) (fun _ _ h => h)).at_ hlt
      have d2 := (HB.out.mod (Mod.of_below (F := fun _ => False) hBB) (fun _ _ h => h)).at_ hlt
      have HBB := Lib.hid hBB
      clear hBB na nb ma mb
      generalize l.getD k 0 = y at *
      go_wp2_with fail
      go_quiet (fail)
      go_wp2_with fail
      go_roundw
      case rel => exact ⟨k + 1, by omega, by go_num, HBB.out.trans (((Mod.refl (fun _ => False) _).drewN _).below (fun _ h => h.elim) HBB.out.size)⟩
      case measure => simp [intOf]; omega
    · go_wp2_with fail
      go_ret
      exact ⟨rfl, hBB⟩

set_option maxRecDepth 100000 in
set_option maxHeartbeats 3200000 in
theorem awake9_any (w : World) : Calls Try.prog 39 #[] w fun e w' => e = .returned (.bool true) ∧ Below w.heap.size w w' := by
  have HM := Lib.hid (cw_made (Sep.nil w) 4 (by decide) (by decide) (fun _ => ver0))
  go_enter Try.func39, Try.ntmps39
  go_wp2_with fail
  refine HM.out.mono ?_
  rintro e w1 ⟨cb, sb, ab, rfl, hW⟩
  have H1 := Lib.hid hW
  clear hW HM
  go_wp2_with fail
  refine (cw_make H1.out (key := 1) (v := 1) (x := 1) (y := 2) (by decide) (by decide) (by decide) (by decide) (by decide)).mono ?_
  rintro e w2 ⟨a, rfl, _, _, a0, a1, hW⟩
  have H2 := Lib.hid hW
  clear hW H1
  go_wp2_with fail
  refine (cw_make H2.out (key := 1) (v := 2) (x := 2) (y := 3) (by simp) (by decide) (by decide) (by decide) (by decide)).mono ?_
  rintro e w3 ⟨b, rfl, hb, _, b0, b1, hW⟩
  have hne : ¬ b = a := by simpa using hb
  have HNE := Lib.hid hne
  have H3 := Lib.hid hW
  clear hW H2 hb hne
  go_wp2_with fail
  refine (chain_nil 0 w3).mono ?_
  rintro e w4 ⟨rfl, rfl⟩
  go_wp2_with fail
  refine (cw_push H3.out (z := a) (by simp) (by simp)).mono ?_
  rintro e w5 ⟨rfl, hW⟩
  have H5 := Lib.hid hW
  clear hW H3
  go_wp2_with fail
  refine (cw_push H5.out (z := b) (by simp) (by simpa using HNE.out)).mono ?_
  rintro e w6 ⟨rfl, hW⟩
  have H6 := Lib.hid hW
  clear hW H5
  go_wp2_with fail
  refine (cw_links H6.out).mono ?_
  rintro e w7 ⟨la, lc, rfl, hW⟩
  have H7 := Lib.hid hW
  clear hW H6
  go_wp2_with fail
  have hO2 : Owned .u64 28 (w7.alloc (.cells #[.int .u64 b, .int .u64 a] 28)) (.slice (some ⟨w7.heap.size, 0, none⟩) 2 2) [b, a] := owned_blk (l := [b, a]) (blk_new _ _) (by simp [maxLen])
  have hW := H7.out.later ((Below.refl _ _).alloc (Nat.le_refl _) (.cells #[.int .u64 b, .int .u64 a] 28))
  refine (rows_same _ _ [b, a] _ hW.first hO2 (by simp)).mono ?_
  rintro e w8 ⟨rfl, b8⟩
  have H8 := Lib.hid (hW.later b8)
  clear hW hO2 b8 H7
  go_wp2_with fail
  refine (cw_head H8.out).mono ?_
  rintro e w9 ⟨rfl, hW⟩
  have H9 := Lib.hid hW.bel
  clear hW H8
  simp only [List.getD_cons_zero]
  go_wp2_with fail
  go_ret
  exact ⟨rfl, H9.out⟩
end Go.Proofs.Ytjojbfgppgnmjaa
