/- slices.Insert of an entry ahead of others: in place where there is room, else into a new row; all roads in one. -/
import Derived.Test.YtoidmakaijkglaaGreatHA
namespace Go.Proofs.YtoidmakaijkglaaGreat
open Go.RowKit
def entV (x : Int × Nat) : List Value := [.int .i64 x.1, .pointer (some ⟨x.2, 0, none⟩)]
theorem src_one {w : World} {vb : Nat} {x : Int × Nat} {E : TypeId} (h : w.heap[vb]? = some (.cells #[.int .i64 x.1, .pointer (some ⟨x.2, 0, none⟩)] E (0, 0))) : ∀ j v, (entV x)[j]? = some v → w.cell? ((⟨vb, 0, none⟩ : Addr).add j) = some v := by
  intro j v hj
  rw [Go.WideShapes.add_plain, Nat.zero_add, blk_cell h]
  simpa [entV] using hj

set_option maxRecDepth 100000 in
set_option maxHeartbeats 3200000 in
theorem put_shift (g cap n : Nat) (cur : Array Value) (l : List (Int × Nat)) (x : Int × Nat) (vb : Nat) (w : World) (hn : n = l.length) (hi : 0 < n) (hroom : n + 1 ≤ cap) (hcm : cap ≤ maxLen) (hcs : cur.size = cap * 2) (hb : w.heap[g]? = some (.cells cur 84 (0, 0)))
    (hj : ∀ j, j < n * 2 → cur[j]? = (entCells l)[j]?) (hx : w.heap[vb]? = some (.cells #[.int .i64 x.1, .pointer (some ⟨x.2, 0, none⟩)] 84 (0, 0))) (hne : vb ≠ g) :
    Calls Tryz.prog 26 #[.slice (some ⟨g, 0, none⟩) n cap, .int .i64 0, .slice (some ⟨vb, 0, none⟩) 1 1] w fun e w' =>
      e = .returned (.slice (some ⟨g, 0, none⟩) (n + 1) cap) ∧ (w.drew.setCells g 2 (entCells l)).setCells g 0 (entV x) = w' := by
  have hel := entCells_len l
  have hov : ∀ lb cb, (callFunc 45 #[.slice (some ⟨vb, 0, none⟩) 1 1, .slice (some ⟨g, 2, none⟩) lb cb]).run Tryz.prog w = .ok (.value (.bool false)) w := fun lb cb => by
    rw [run_callFunc_extern Tryz.func45 (by kernel_rfl) (by kernel_rfl) (by kernel_rfl) (e := Extern.SlicesOverlaps.overlaps #[81, 81] #[4]) (by kernel_rfl),
      Lib.run_overlaps_apart w 81 4 84 Tryz.underlying81 2 size_of_ent ⟨vb, 0, none⟩ ⟨g, 2, none⟩ 1 1 lb cb hne _ _ _ _ (shape_blk hx) (shape_blk hb) (by rw [hcs]; omega) (blk_free hx 0) (blk_free hx _)]
    rfl
  have hcp1 : ∀ ty dc sc, (Builtin.copy_ #[81, 81] ty #[.slice (some ⟨g, 2, none⟩) n dc, .slice (some ⟨g, 0, none⟩) (n + 1) sc]).run Tryz.prog w.drew = .ok (goInt n) (w.drew.setCells g 2 (entCells l)) := fun ty dc sc =>
    copy_wide (W := w.drew) (n := n) Tryz.underlying81 size_ent hb _ dc ⟨g, 0, none⟩ _ sc (entCells l) (by simp only [Nat.min_def]; split <;> omega) (by rw [hel, hn])
      (fun j v hv => by
        have hlt := (List.getElem?_eq_some_iff.1 hv).1
        rw [Go.WideShapes.add_plain, Nat.zero_add]
        show w.cell? ⟨g, j, none⟩ = _
        rw [blk_cell hb, hj _ (by omega)]
        exact hv)
      (by rw [hel, hcs]; omega) (entCells_one l) ty
  have hcp2 : ∀ ty dc, (Builtin.copy_ #[81, 81] ty #[.slice (some ⟨g, 0, none⟩) (n + 1) dc, .slice (some ⟨vb, 0, none⟩) 1 1]).run Tryz.prog (w.drew.setCells g 2 (entCells l)) = .ok (goInt 1) ((w.drew.setCells g 2 (entCells l)).setCells g 0 (entV x)) := fun ty dc =>
    copy_wide (n := 1) Tryz.underlying81 size_ent (blk_setCells _ _ g _ _ _ (show w.drew.heap[g]? = _ from hb)) _ dc ⟨vb, 0, none⟩ 1 1 (entV x) (by simp only [Nat.min_def]; split <;> omega) rfl
      (src_one ((mod_setCells _ _ g _).keep (show w.drew.heap[vb]? = _ from hx) hne))
      (by rw [layA_size, hcs]; simp [entV]; omega) (entCells_one [x]) ty
  obtain ⟨W1, hW1⟩ : ∃ W1, W1 = w.drew.setCells g 2 (entCells l) := ⟨_, rfl⟩
  rw [← hW1] at hcp1 hcp2 ⊢
  have hc63 : cap ≤ 9223372036854775807 := by unfold maxLen at hcm; omega
  have hz2 : ¬ ((0 : Int) = (n : Int)) := by omega
  have hw2 : IntKind.i64.wrap ((n : Int) + 1) = (n : Int) + 1 := by rw [IntKind.wrap_i64]; omega
  have hw1 : IntKind.i64.wrap 1 = 1 := by rw [IntKind.wrap_i64]; omega
  have hinz : (0 : Int) ≤ n := by omega
  have htm : ((n : Int) + 1).toNat = n + 1 := by omega
  have hb2 : ¬ (cap = 1) := by omega
  have hb4 : ¬ (cap = 0) := by omega
  have hb3 : (0 : Int) ≤ (n : Int) + 1 := by omega
  have hb5 : ¬ ((cap : Int) < (n : Int) + 1) := by omega
  have hb6 : (n : Int) + 1 ≤ cap := by omega
  have hb8 : (1 : Int) ≤ (n : Int) + 1 := by omega
  clear hb hx hj hcs hW1 hel hn hcm hroom
  go_enter Tryz.func26, Tryz.ntmps26
  go_wp2_with (simp only [hov])
  go_region_law (refine step_copy_runI rfl _ _ 81 81 rfl _ _ (by simp [Act.eval, Act.put]) (by simp [Act.eval, Act.put]) (hcp1 _ _ _) ?_)
  go_wp2_with (at_builtin; refine wpList_copy_runI _ rfl _ _ 81 81 rfl _ _ rfl rfl (hcp2 _ _) ?_)
  go_ret
  exact ⟨rfl, rfl⟩
end Go.Proofs.YtoidmakaijkglaaGreat
