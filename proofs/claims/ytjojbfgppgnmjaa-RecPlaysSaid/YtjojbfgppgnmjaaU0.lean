/- The document's pool (vinculumref3.Pool) in memory: the same state as the program's; NewPool, link, Free, Worn. -/
import Derived.Test.YtjojbfgppgnmjaaQ0
import Derived.Test.YtjojbfgppgnmjaaF3
namespace Go.Proofs.Ytjojbfgppgnmjaa
open Go.RowKit

def tagCells (l : List Slot) : List Value := l.map fun s => Value.int .i64 s.tag
def takenCells (l : List Slot) : List Value := l.map fun s => Value.bool s.taken
def refCells (s : PS) (tb kb : Nat) (gv : Value) (fr : Nat) : Array Value := #[.int .i64 s.most, .slice (some ⟨tb, 0, none⟩) s.sl.length s.sl.length, .slice (some ⟨kb, 0, none⟩) s.sl.length s.sl.length, gv, .int .i64 fr, .int .i64 s.worn]
/-- The document's pool in memory: its blocks are F; g: those that were given back, fr: how many ever were taken. -/
def RefAt (w : World) (b : Nat) (F : Nat → Prop) (s : PS) : Prop :=
  ∃ (tb kb : Nat) (gv : Value) (g : List Int) (fr : Nat), tb ≠ b ∧ kb ≠ b ∧ tb ≠ kb ∧ gv.ownBlock ≠ some b ∧ gv.ownBlock ≠ some tb ∧ gv.ownBlock ≠ some kb ∧ (F = fun k => k = b ∨ k = tb ∨ k = kb ∨ gv.ownBlock = some k) ∧
    w.heap[b]? = some (.cells (refCells s tb kb gv fr) 107 (0, 0)) ∧ w.heap[tb]? = some (.cells (tagCells s.sl).toArray 3 (0, 0)) ∧ w.heap[kb]? = some (.cells (takenCells s.sl).toArray 4 (0, 0)) ∧
    Owned .i64 3 w gv g ∧ s.ok ∧ s.init = true ∧ fr ≤ s.sl.length ∧ s.free = dn s.sl.length (s.sl.length - fr) ++ g
theorem RefAt.within {w : World} {b : Nat} {F : Nat → Prop} {s : PS} (h : RefAt w b F s) : Within w F := by
  obtain ⟨tb, kb, gv, g, fr, _, _, _, _, _, _, rfl, hb, ht, hk, hg, _⟩ := h
  rintro k (rfl | rfl | rfl | hk)
  · exact blk_lt hb
  · exact blk_lt ht
  · exact blk_lt hk
  · exact hg.lt k hk
theorem RefAt.mod {w w1 : World} {b : Nat} {F G : Nat → Prop} {s : PS} (h : RefAt w b F s) (hm : Mod G w w1) (hG : Apart F G) : RefAt w1 b F s := by
  obtain ⟨tb, kb, gv, g, fr, n1, n2, n3, n4, n5, n6, rfl, hb, ht, hk, hg, r⟩ := h
  exact ⟨tb, kb, gv, g, fr, n1, n2, n3, n4, n5, n6, rfl, hm.keep hb (hG b (.inl rfl)), hm.keep ht (hG tb (.inr (.inl rfl))), hm.keep hk (hG kb (.inr (.inr (.inl rfl)))), hg.mod hm (fun k hk => hG k (.inr (.inr (.inr hk)))), r⟩
theorem RefAt.good {w : World} {b : Nat} {F : Nat → Prop} {s : PS} (h : RefAt w b F s) : s.ok := by
  obtain ⟨tb, kb, gv, g, fr, _, _, _, _, _, _, _, _, _, _, _, hk, _⟩ := h
  exact hk
def obRef (b : Nat) (F : Nat → Prop) (s : PS) : Ob := ⟨F, fun w => RefAt w b F s, fun _ h => h.within, fun _ _ _ h hm ha => h.mod hm ha⟩
def LeftR (w : World) (b : Nat) (F : Nat → Prop) (s : PS) (w' : World) : Prop := ∃ F', RefAt w' b F' s ∧ Mod F w w' ∧ Grows w F F'
theorem Sep.ref {w0 w w' : World} {b : Nat} {F : Nat → Prop} {s s' : PS} {L : List Ob} (h : Sep w0 w (obRef b F s :: L)) (hl : LeftR w b F s' w') : ∃ F', Sep w0 w' (obRef b F' s' :: L) := by
  obtain ⟨F', p, m, g⟩ := hl
  exact ⟨F', h.step (A' := obRef b F' s') p m g⟩

theorem tagCells_at {l : List Slot} {i : Nat} (h : i < l.length) : (tagCells l)[i]? = some (.int .i64 (l.getD i slot0).tag) := by
  simp [tagCells, List.getD_eq_getElem?_getD, h]
theorem takenCells_at {l : List Slot} {i : Nat} (h : i < l.length) : (takenCells l)[i]? = some (.bool (l.getD i slot0).taken) := by
  simp [takenCells, List.getD_eq_getElem?_getD, h]
theorem tagCells_set (l : List Slot) (i : Nat) (_h : i < l.length) (x : Slot) : tagCells (l.set i x) = (tagCells l).set i (.int .i64 x.tag) := by
  simp [tagCells, List.map_set]
theorem takenCells_set (l : List Slot) (i : Nat) (_h : i < l.length) (x : Slot) : takenCells (l.set i x) = (takenCells l).set i (.bool x.taken) := by
  simp [takenCells, List.map_set]
theorem tagCells_same (l : List Slot) (i : Nat) (h : i < l.length) (t : Bool) : tagCells (l.set i ⟨(l.getD i slot0).tag, t⟩) = tagCells l := by
  rw [tagCells_set l i h]
  apply List.ext_getElem?
  intro j
  by_cases hj : i = j
  · subst hj
    rw [List.getElem?_set_self (by simp [tagCells]; exact h), tagCells_at h]
  · rw [List.getElem?_set_ne hj]

def NewRef (w : World) (s : PS) (e : Ending) (w' : World) : Prop := ∃ b F, e = .returned (.pointer (some ⟨b, 0, none⟩)) ∧ RefAt w' b F s ∧ Below w.heap.size w w' ∧ ∀ k, F k → w.heap.size ≤ k

theorem listed_new (n : Nat) (most : Int) : (PS.new n most).listed = ⟨most, List.replicate n slot0, dn n n, true, 0⟩ := by simp [PS.new, PS.listed]
theorem new_ref {n t k : Nat} {most : Int} {w W W' : World} {o : Obj} (ho : o = .cells #[.int .i64 most, .slice (some ⟨t, 0, none⟩) n n, .slice (some ⟨k, 0, none⟩) n n, .slice none 0 0, .int .i64 0, .int .i64 0] 107 (0, 0)) (hk : (PS.new n most).listed.ok)
    (ht : w.heap.size ≤ t) (hK : w.heap.size ≤ k) (hs : W.heap.size = w.heap.size + 1 + 1) (hne : t ≠ k) (h1 : W.heap[t]? = some (.cells (List.replicate n (Value.int .i64 0)).toArray 3 (0, 0))) (h2 : W.heap[k]? = some (.cells (List.replicate n (Value.bool false)).toArray 4 (0, 0)))
    (hB : Below w.heap.size w W) (hW : W' = (W.alloc o).drew) : NewRef w (PS.new n most).listed (.returned (.pointer (some ⟨w.heap.size + 1 + 1, 0, none⟩))) W' := by
  subst ho hW
  have g1 := blk_lt h1
  have g2 := blk_lt h2
  refine ⟨w.heap.size + 1 + 1, _, rfl, ⟨t, k, .slice none 0 0, [], 0, by omega, by omega, hne, by simp [Value.ownBlock], by simp [Value.ownBlock], by simp [Value.ownBlock], rfl, ?_, ?_, ?_, Owned.nil _ _ _, hk, listed_init _, Nat.zero_le _, ?_⟩, Below.drew (hB.alloc hB.size _), ?_⟩
  · refine blk_drew (blk_at (by omega) |>.trans ?_)
    simp [refCells, listed_new]
  · refine blk_drew (blk_alloc (h1.trans ?_))
    simp [tagCells, listed_new, slot0]
  · refine blk_drew (blk_alloc (h2.trans ?_))
    simp [takenCells, listed_new, slot0]
  · simp [listed_new]
  · intro j hj
    simp [Value.ownBlock] at hj
    omega
set_option maxRecDepth 100000 in
set_option maxHeartbeats 1600000 in
theorem ref_new (n : Nat) (most : Int) (w : World) (h0 : 1 ≤ n) (h1 : n ≤ 4096) (g0 : 0 ≤ most) (g1 : most ≤ 65535) :
    Calls Try.prog 27 #[.int .i64 n, .int .i64 most] w (NewRef w (PS.new n most).listed) := by
  have a0 : decide ((n : Int) < 1) = false := by simp; omega
  have a1 : decide (4096 < (n : Int)) = false := by simp; omega
  have a2 : decide (most < 0) = false := by simp; omega
  have a3 : decide (65535 < most) = false := by simp; omega
  have HK := Lib.hid (listed_ok (new_ok h0 h1 g0 g1))
  have mk0 := fun W => make_row Try.underlying67 info_int rfl (by decide) n (by omega) W
  have mk1 := fun W => make_row Try.underlying61 info_bool rfl (by decide) n (by omega) W
  go_enter Try.func27, Try.ntmps27
  go_wp2_with fail
  go_region
  all_goals (go_wp2; go_ret)
  · exact new_ref (t := w.heap.size) (k := w.heap.size + 1) (W := ((w.alloc _).alloc _)) rfl HK.out (by omega) (by omega) (by simp) (by omega) (by rw [show Array.replicate n (Value.int .i64 0) = (List.replicate n (Value.int .i64 0)).toArray by simp]; exact blk_alloc (blk_new _ _)) (by rw [show Array.replicate n (Value.bool false) = (List.replicate n (Value.bool false)).toArray by simp]; exact blk_at (by simp)) (((Below.refl _ _).alloc (Nat.le_refl _) _).alloc (by simp) _) rfl
  · exact new_ref (t := w.heap.size + 1) (k := w.heap.size) (W := ((w.alloc _).alloc _)) rfl HK.out (by omega) (by omega) (by simp) (by omega) (by rw [show Array.replicate n (Value.int .i64 0) = (List.replicate n (Value.int .i64 0)).toArray by simp]; exact blk_at (by simp)) (by rw [show Array.replicate n (Value.bool false) = (List.replicate n (Value.bool false)).toArray by simp]; exact blk_alloc (blk_new _ _)) (((Below.refl _ _).alloc (Nat.le_refl _) _).alloc (by simp) _) rfl

set_option maxRecDepth 100000 in
set_option maxHeartbeats 800000 in
theorem ref_link (b : Nat) (F : Nat → Prop) (s : PS) (i : Nat) (w : World) (h : RefAt w b F s) (hi : i < s.sl.length) :
    Calls Try.prog 63 #[.pointer (some ⟨b, 0, none⟩), .int .i64 i] w fun e w' => e = .returned (.int .u64 (s.link i)) ∧ w = w' := by
  obtain ⟨tb, kb, gv, g, fr, n1, n2, n3, n4, n5, n6, rfl, hb, ht, hk, hg, ho, hz, hf, hs⟩ := h
  have c0 := blk_cell hb 1
  have ct : w.cell? ⟨tb, i, none⟩ = some (.int .i64 (s.sl.getD i slot0).tag) := by
    rw [blk_cell ht]
    simpa using tagCells_at hi
  have ht := ho.tag hi
  have hn := ho.n2
  have hm := ho.m1
  have HL := Lib.hid (show s.link i = (s.sl.getD i slot0).tag * 131072 + i + 1 from rfl)
  simp only [refCells] at c0
  simp at c0
  clear hb hg ho hz hf hs hk
  generalize (s.sl.getD i slot0).tag = t at *
  generalize s.sl.length = n at *
  have e1 := or_link (t := t) (i := i) (by omega) (by omega) ht.1 (by omega)
  go_enter Try.func63, Try.ntmps63
  go_wp2_with fail
  go_ret

  exact ⟨ret_int HL.out.symm, rfl⟩

end Go.Proofs.Ytjojbfgppgnmjaa
