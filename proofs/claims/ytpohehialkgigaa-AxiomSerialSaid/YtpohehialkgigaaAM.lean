/- Snapshot, Serial, Repeatable. -/
import Derived.Test.YtpohehialkgigaaAL
namespace Go.Proofs.Ytpohehialkgigaa
open Go.RowKit
theorem findD_lt {l : List Dl} {id : Int} {i : Nat} (h : findD l id = some i) : i < l.length := by
  unfold findD at h
  exact (List.findIdx?_eq_some_iff_getElem.1 h).1
theorem u64_bounds {x : Int} (h : (Lit.int .u64 x).wf = true) : 0 ≤ x ∧ x ≤ 18446744073709551615 := bounds_u64 h
set_option maxRecDepth 100000 in
set_option maxHeartbeats 1600000 in
theorem snapshot_any {w : World} {v : Value} {l : List Dl} {id : Int} (h : DealsAt w v l) (g : Good l) :
    Calls Try.prog 17 #[v, .int .i64 id] w fun e w' => e = .returned (.bool (snapshotD l id)) ∧ Below w.heap.size w w' := by
  have hf := find_any (id := id) h (by have := g.few; omega)
  cases hfd : findD l id with
  | none =>
    have hs : snapshotD l id = false := by unfold snapshotD; rw [hfd]
    have hi : findI l id = -1 := by unfold findI; rw [hfd]
    rw [hs]
    rw [hi] at hf
    have HF := Lib.hid hf
    obtain ⟨a, cap, rfl, -⟩ := h.form
    clear hf hs hi hfd h g
    go_enter Try.func17, Try.ntmps17
    go_wp2_with fail
    refine HF.out.mono ?_
    rintro e w1 ⟨rfl, hb⟩
    have HB := Lib.hid hb
    clear hb HF
    go_wp2_with fail
    go_ret
    exact ⟨rfl, HB.out⟩
  | some i =>
    have hlt := findD_lt hfd
    have hs : snapshotD l id = fromD l i (l.getD i dl0).beg := by unfold snapshotD; rw [hfd]
    have hi : findI l id = i := by unfold findI; rw [hfd]
    rw [hs]
    rw [hi] at hf
    have HF := Lib.hid hf
    have HFR : Hid (∀ W, Below w.heap.size w W → Calls Try.prog 30 #[v, .int .i64 i, .int .u64 (l.getD i dl0).beg] W fun e w' => e = .returned (.bool (fromD l i (l.getD i dl0).beg)) ∧ Below w.heap.size w w') := Lib.hid fun W hW => (from_any (when := (l.getD i dl0).beg) (h.later hW) g hlt).mono fun _ _ ⟨h1, h2⟩ => ⟨h1, bl_next hW h2⟩
    obtain ⟨b, off, cap, dv, rfl, hb, hcs, -⟩ := h.at_ hlt
    have c3 := hcs 3 (by decide)
    have r0 : (0 : Int) ≤ (i : Int) := by omega
    have r1 : (i : Int) < (l.length : Int) := by omega
    clear hf hs hi hfd h g hcs
    generalize l.getD i dl0 = d at *
    obtain ⟨did, dlv, dst, dbg, den, ops⟩ := d
    simp [Dl.cells] at c3
    dsimp only at HFR
    have C3 := Lib.hid c3
    have HBB := Lib.hid hb
    clear c3 hb hlt
    go_enter Try.func17, Try.ntmps17
    go_wp2_with fail
    refine HF.out.mono ?_
    rintro e w1 ⟨rfl, hb⟩
    have HB := Lib.hid hb
    have c3 := (hb.cell (p := ⟨b, off + i * 6 + 3, none⟩) HBB.out).trans C3.out
    clear hb HF
    go_wp2_with fail
    refine (HFR.out _ HB.out).mono ?_
    rintro e w2 ⟨rfl, hb2⟩
    have HB2 := Lib.hid hb2
    clear hb2 c3 HFR
    go_wp2_with fail
    go_ret
    exact ⟨rfl, HB2.out⟩
set_option maxRecDepth 100000 in
set_option maxHeartbeats 1600000 in
theorem serial_any {w : World} {v : Value} {l : List Dl} {id : Int} (h : DealsAt w v l) (g : Good l) :
    Calls Try.prog 18 #[v, .int .i64 id] w fun e w' => e = .returned (.bool (serialD l id)) ∧ Below w.heap.size w w' := by
  have hf := find_any (id := id) h (by have := g.few; omega)
  cases hfd : findD l id with
  | none =>
    have hs : serialD l id = false := by unfold serialD; rw [hfd]
    have hi : findI l id = -1 := by unfold findI; rw [hfd]
    rw [hs]
    rw [hi] at hf
    have HF := Lib.hid hf
    obtain ⟨a, cap, rfl, -⟩ := h.form
    clear hf hs hi hfd h g
    go_enter Try.func18, Try.ntmps18
    go_wp2_with fail
    refine HF.out.mono ?_
    rintro e w1 ⟨rfl, hb⟩
    have HB := Lib.hid hb
    clear hb HF
    go_wp2_with fail
    go_ret
    exact ⟨rfl, HB.out⟩
  | some i =>
    have hlt := findD_lt hfd
    have hs : serialD l id = fromD l i (lastD (l.getD i dl0)) := by unfold serialD; rw [hfd]
    have hi : findI l id = i := by unfold findI; rw [hfd]
    rw [hs]
    rw [hi] at hf
    have HF := Lib.hid hf
    have HFR : Hid (∀ W, Below w.heap.size w W → Calls Try.prog 30 #[v, .int .i64 i, .int .u64 (lastD (l.getD i dl0))] W fun e w' => e = .returned (.bool (fromD l i (lastD (l.getD i dl0)))) ∧ Below w.heap.size w w') := Lib.hid fun W hW => (from_any (when := lastD (l.getD i dl0)) (h.later hW) g hlt).mono fun _ _ ⟨h1, h2⟩ => ⟨h1, bl_next hW h2⟩
    obtain ⟨b, off, cap, dv, rfl, hb, hcs, hops⟩ := h.at_ hlt
    have hlast : ∀ W, Below w.heap.size w W → Calls Try.prog 31 #[.agg ((l.getD i dl0).cells dv).toArray] W fun e w' => e = .returned (.int .u64 (lastD (l.getD i dl0))) ∧ Below w.heap.size w w' := fun W hW => (last_any (d := l.getD i dl0) ⟨dv, rfl, hops.later hW⟩ (u64_bounds (g.wf _ (getD_mem hlt)).en).1 (u64_bounds (g.wf _ (getD_mem hlt)).en).2).mono fun _ _ ⟨h1, h2⟩ => ⟨h1, bl_next hW h2⟩
    obtain ⟨ao, co, rfl, -⟩ := hops.form
    have c0 := hcs 0 (by decide)
    have c1 := hcs 1 (by decide)
    have c2 := hcs 2 (by decide)
    have c3 := hcs 3 (by decide)
    have c4 := hcs 4 (by decide)
    have c5 := hcs 5 (by decide)
    have r0 : (0 : Int) ≤ (i : Int) := by omega
    have r1 : (i : Int) < (l.length : Int) := by omega
    clear hf hs hi hfd h g hcs hops
    generalize lastD (l.getD i dl0) = la at *
    generalize (l.getD i dl0).ops.length = no at *
    generalize l.getD i dl0 = d at *
    obtain ⟨did, dlv, dst, dbg, den, ops⟩ := d
    simp [Dl.cells] at c0 c1 c2 c3 c4 c5
    simp only [Dl.cells] at hlast
    have HLA := Lib.hid hlast
    have C : Hid (∀ W, Below w.heap.size w W → W.cell? ⟨b, off + i * 6, none⟩ = some (.int .i64 did) ∧ W.cell? ⟨b, off + i * 6 + 1, none⟩ = some (.int .i64 dlv) ∧ W.cell? ⟨b, off + i * 6 + 2, none⟩ = some (.int .i64 dst) ∧ W.cell? ⟨b, off + i * 6 + 3, none⟩ = some (.int .u64 dbg) ∧ W.cell? ⟨b, off + i * 6 + 4, none⟩ = some (.int .u64 den) ∧ W.cell? ⟨b, off + i * 6 + 5, none⟩ = some (.slice ao no co)) := Lib.hid fun W hW => ⟨(hW.cell (p := ⟨b, off + i * 6, none⟩) hb).trans c0, (hW.cell (p := ⟨b, off + i * 6 + 1, none⟩) hb).trans c1, (hW.cell (p := ⟨b, off + i * 6 + 2, none⟩) hb).trans c2, (hW.cell (p := ⟨b, off + i * 6 + 3, none⟩) hb).trans c3, (hW.cell (p := ⟨b, off + i * 6 + 4, none⟩) hb).trans c4, (hW.cell (p := ⟨b, off + i * 6 + 5, none⟩) hb).trans c5⟩
    clear c0 c1 c2 c3 c4 c5 hb hlt hlast
    go_enter Try.func18, Try.ntmps18
    go_wp2_with fail
    refine HF.out.mono ?_
    rintro e w1 ⟨rfl, hb⟩
    have HB := Lib.hid hb
    obtain ⟨c0, c1, c2, c3, c4, c5⟩ := C.out _ hb
    clear hb HF
    go_wp2_with fail
    refine (HLA.out _ HB.out).mono ?_
    rintro e w2 ⟨rfl, hb2⟩
    have HB2 := Lib.hid hb2
    clear hb2 c0 c1 c2 c3 c4 c5 HLA
    go_wp2_with fail
    refine (HFR.out _ HB2.out).mono ?_
    rintro e w3 ⟨rfl, hb3⟩
    have HB3 := Lib.hid hb3
    clear hb3 HFR
    go_wp2_with fail
    go_ret
    exact ⟨rfl, HB3.out⟩
end Go.Proofs.Ytpohehialkgigaa
