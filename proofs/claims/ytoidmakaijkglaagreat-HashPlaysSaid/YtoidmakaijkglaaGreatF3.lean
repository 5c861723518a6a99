/- Rows that are made whole. -/
import Derived.Test.YtoidmakaijkglaaGreatQ0
import Derived.Laws.MakeOwn
namespace Go.Proofs.YtoidmakaijkglaaGreat
open Go.RowKit

theorem made_one (v : Value) (n : Nat) : madeCells #[v] (n * 1) = (List.replicate n v).toArray := by
  apply Array.ext'
  apply List.ext_getElem?
  intro j
  by_cases hj : j < n
  · simp [madeCells, hj, Nat.mod_one]
  · simp [madeCells, hj]
theorem make_row {t e : TypeId} {v : Value} {bytes : Nat} (ht : Tryz.prog.underlying t = some (.slice e)) (hinfo : (Tryz.prog.info? e).map (fun i => (i.zero, i.size, i.bytes)) = some (some v, 1, bytes)) (hv : v.cells = #[v]) (hby : bytes ≤ 64) (n : Nat) (hn : n ≤ 65536) (W : World) :
    (Instr.makeSlice t (.int .i64 (n : Int)) (.int .i64 (n : Int))).run Tryz.prog W = .ok (.slice (some ⟨W.heap.size, 0, none⟩) n n) (W.alloc (.cells (List.replicate n v).toArray e (0, 0))) := by
  obtain ⟨i, hi, hz, hs, hb⟩ := info_parts hinfo
  have hmul : i.bytes * n ≤ 64 * n := Nat.mul_le_mul_right _ (by omega)
  have hr := run_make (P := Tryz.prog) W t e i v ht hi hz .i64 .i64 n n (by omega) (by omega) (by rw [← Int.natCast_mul]; omega) (by omega)
  simp only [Int.toNat_natCast] at hr
  rw [hr, hs, hv, made_one]
theorem info_bool : (Tryz.prog.info? 4).map (fun i => (i.zero, i.size, i.bytes)) = some (some (.bool false), 1, 1) := by kernel_rfl
end Go.Proofs.YtoidmakaijkglaaGreat
