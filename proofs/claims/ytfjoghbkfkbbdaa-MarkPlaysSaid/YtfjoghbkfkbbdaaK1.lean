/- slices.Insert of one into a row of pointers, ahead of others: in place where there is room, else into a new row. -/
import Derived.Test.YtfjoghbkfkbbdaaK0
namespace Go.Proofs.Ytfjoghbkfkbbdaa
open Go.RowKit

theorem size_of_ptr (w : World) : (Go.sizeOf 126).run Try.prog w = .ok 1 w := by kernel_rfl
theorem shape_blk {w : World} {g : Nat} {cur : Array Value} {E : TypeId} (h : w.heap[g]? = some (.cells cur E (0, 0))) : w.shape? g = some (E, cur.size) := by simp [World.shape?, h]

set_option maxRecDepth 100000 in
set_option maxHeartbeats 3200000 in
theorem insert_shift (g cap i : Nat) (cur : Array Value) (ps : List Value) (x : Value) (vb : Nat) (w : World) (hi : i < ps.length) (hroom : ps.length + 1 ≤ cap) (hcm : cap ≤ maxLen) (hcs : cur.size = cap) (hb : w.heap[g]? = some (.cells cur 126 (0, 0)))
    (hj : ∀ j, j < ps.length → cur[j]? = ps[j]?) (hx : w.heap[vb]? = some (.cells #[x] 126 (0, 0))) (hne : vb ≠ g) (h1 : ∀ p ∈ ps, p.oneCell' = true) (hx1 : x.oneCell' = true) :
    Calls Try.prog 76 #[.slice (some ⟨g, 0, none⟩) ps.length cap, .int .i64 i, .slice (some ⟨vb, 0, none⟩) 1 1] w fun e w' =>
      e = .returned (.slice (some ⟨g, 0, none⟩) (ps.length + 1) cap) ∧ (w.drew.setCells g (i + 1) (ps.drop i)).setCells g i [x] = w' := by
  have hmx : maxLen = 9223372036854775807 ∨ maxLen ≤ 9223372036854775807 := by right; unfold maxLen; omega
  have hov : ∀ lb cb, (callFunc 91 #[.slice (some ⟨vb, 0, none⟩) 1 1, .slice (some ⟨g, i + 1, none⟩) lb cb]).run Try.prog w = .ok (.value (.bool false)) w := fun lb cb => by
    rw [run_callFunc_extern Try.func91 (by kernel_rfl) (by kernel_rfl) (by kernel_rfl) (e := Extern.SlicesOverlaps.overlaps #[120, 120] #[4]) (by kernel_rfl),
      Lib.run_overlaps_apart w 120 4 126 Try.underlying120 1 size_of_ptr ⟨vb, 0, none⟩ ⟨g, i + 1, none⟩ 1 1 lb cb hne _ _ _ _ (shape_blk hx) (shape_blk hb) (by rw [hcs]; omega) (blk_free hx 0) (blk_free hx _)]
    rfl
  have hdl : (ps.drop i).length = ps.length - i := List.length_drop ..
  have hB := Lib.hid hb
  have hX := Lib.hid hx
  have hcp1 : ∀ ty dc sc, (Builtin.copy_ #[120, 120] ty #[.slice (some ⟨g, i + 1, none⟩) (ps.length - i) dc, .slice (some ⟨g, i, none⟩) (ps.length + 1 - i) sc]).run Try.prog w.drew = .ok (goInt (ps.drop i).length) (w.drew.setCells g (i + 1) (ps.drop i)) := fun ty dc sc =>
    copy_blk (W := w.drew) hb _ dc ⟨g, i, none⟩ _ sc (ps.drop i) (by rw [hdl]; simp only [Nat.min_def]; split <;> omega)
      (fun j v hv => by
        have hlt := (List.getElem?_eq_some_iff.1 hv).1
        rw [hdl] at hlt
        rw [Go.WideShapes.add_plain]
        show w.cell? ⟨g, i + j, none⟩ = _
        rw [blk_cell hb, hj _ (by omega)]
        rwa [List.getElem?_drop] at hv)
      (by rw [hdl, hcs]; omega) (fun v hv => h1 v (List.mem_of_mem_drop hv)) ty
  have hcp2 : ∀ ty dc, (Builtin.copy_ #[120, 120] ty #[.slice (some ⟨g, i, none⟩) (ps.length + 1 - i) dc, .slice (some ⟨vb, 0, none⟩) 1 1]).run Try.prog (w.drew.setCells g (i + 1) (ps.drop i)) = .ok (goInt [x].length) ((w.drew.setCells g (i + 1) (ps.drop i)).setCells g i [x]) := fun ty dc =>
    copy_blk (blk_setCells _ _ g _ _ _ (show w.drew.heap[g]? = _ from hb)) _ dc ⟨vb, 0, none⟩ 1 1 [x] (by simp only [Nat.min_def, List.length_singleton]; split <;> omega)
      (fun j v hv => by
        match j, hv with
        | 0, hv =>
          simp at hv
          subst hv
          rw [Go.WideShapes.add_plain]
          show World.cell? _ ⟨vb, 0, none⟩ = _
          rw [World.cell?_setCells_out g _ _ _ _ (fun h _ => absurd h hne)]
          show w.cell? _ = _
          rw [blk_cell hx]
          rfl)
      (by rw [layA_size, hcs]; simp; omega) (fun v hv => by simp at hv; subst hv; exact hx1) ty
  obtain ⟨W1, hW1⟩ : ∃ W1, W1 = w.drew.setCells g (i + 1) (ps.drop i) := ⟨_, rfl⟩
  rw [← hW1] at hcp1 hcp2 ⊢
  have hc63 : cap ≤ 9223372036854775807 := by omega
  have hz2 : ¬ ((i : Int) = (ps.length : Int)) := by omega
  have hw1 : IntKind.i64.wrap ((i : Int) + 1) = (i : Int) + 1 := by rw [IntKind.wrap_i64]; omega
  have hw2 : IntKind.i64.wrap ((ps.length : Int) + 1) = (ps.length : Int) + 1 := by rw [IntKind.wrap_i64]; omega
  have hb1 : (0 : Int) ≤ (i : Int) + 1 := by omega
  have hin : i ≤ ps.length := by omega
  have hinz : (i : Int) ≤ ps.length := by omega
  have htn : ((i : Int) + 1).toNat = i + 1 := by omega
  have htm : ((ps.length : Int) + 1).toNat = ps.length + 1 := by omega
  have hb2 : ¬ (cap = i + 1) := by omega
  have hb3 : (i : Int) ≤ (ps.length : Int) + 1 := by omega
  have hb4 : ¬ (cap = i) := by omega
  have hb5 : ¬ ((cap : Int) < (ps.length : Int) + 1) := by omega
  have hb6 : (ps.length : Int) + 1 ≤ cap := by omega
  have hb7 : (0 : Int) ≤ (ps.length : Int) + 1 := by omega
  have hb8 : (i : Int) + 1 ≤ (ps.length : Int) + 1 := by omega
  clear hb hx hmx hj hdl h1 hcs hW1
  go_enter Try.func76, Try.ntmps76
  go_wp2_with (simp only [hov])
  go_region_law (refine step_copy_runI rfl _ _ 120 120 rfl _ _ (by simp [Act.eval, Act.put]) (by simp [Act.eval, Act.put]) (hcp1 _ _ _) ?_)
  go_wp2_with (at_builtin; refine wpList_copy_runI _ rfl _ _ 120 120 rfl _ _ rfl rfl (hcp2 _ _) ?_)
  go_ret
  exact ⟨rfl, rfl⟩
end Go.Proofs.Ytfjoghbkfkbbdaa
