/- slices.Insert of an entry ahead of others: into a new row; all roads in one. -/
import Derived.Test.YtoidmakaijkglaaGreatHB
import Derived.Deep.CutRange
import Derived.Deep.RegionHeld3
import Derived.ChangeAlike
import Derived.Deep.LoopGhost
namespace Go.Proofs.YtoidmakaijkglaaGreat
open Go.RowKit
theorem zeros_ent (k : Nat) : (Builtin.zeroCells (Value.agg #[.int .i64 0, .pointer none]).cells k).size = k * 2 := by
  have : ∀ k, (Builtin.zeroCells (Value.agg #[.int .i64 0, .pointer none]).cells k).size = (List.replicate k #[Value.int .i64 0, Value.pointer none]).length * 2 := fun k => by
    simp [Builtin.zeroCells, Value.cells]
  rw [this]
  simp
set_option maxRecDepth 100000 in
set_option maxHeartbeats 3200000 in
theorem put_grow (g cap n : Nat) (cur : Array Value) (l : List (Int × Nat)) (x : Int × Nat) (vb : Nat) (w : World) (hn : n = l.length) (hi : 0 < n) (hnc : n ≤ cap) (hroom : cap < n + 1) (hbig : n ≤ 100000) (hb : w.heap[g]? = some (.cells cur 84 (0, 0)))
    (hj : ∀ j, j < n * 2 → cur[j]? = (entCells l)[j]?) (hx : w.heap[vb]? = some (.cells #[.int .i64 x.1, .pointer (some ⟨x.2, 0, none⟩)] 84 (0, 0))) :
    Calls Tryz.prog 26 #[.slice (some ⟨g, 0, none⟩) n cap, .int .i64 0, .slice (some ⟨vb, 0, none⟩) 1 1] w fun e w' =>
      ∃ (G : Nat) (ROW : Array Value), n + 1 ≤ G ∧ G ≤ maxLen ∧ ROW.size = G * 2 ∧ e = .returned (.slice (some ⟨w.heap.size, 0, none⟩) (n + 1) G) ∧
        (((w.alloc (.cells ROW 84)).drew.setCells w.heap.size 0 (entV x)).drew).setCells w.heap.size 2 (entCells l) = w' := by
  obtain ⟨i0, hi0, hz0, hzs, hzb⟩ := info_parts info_ent
  have hgl := blk_lt hb
  have hvl := blk_lt hx
  have hel := entCells_len l
  have hold : (Builtin.firstCells i0.size 0 (.slice (some ⟨g, 0, none⟩) 0 cap)).run Tryz.prog w.drew = .ok ([] : List Value).toArray w.drew :=
    run_firstCells_some w.drew i0.size 0 ⟨g, 0, none⟩ 0 cap [] (by simp) (fun j v hv => by simp at hv)
  obtain ⟨G, hG⟩ : ∃ G, G = grownCap w (n + 1) cap 84 := ⟨_, rfl⟩
  have hGn : n + 1 ≤ G := by rw [hG]; exact grownCap_ge w _ _ _
  have hGm : G ≤ maxLen := by rw [hG]; exact grownCap_le_maxLen w (n + 1) cap 84 (by unfold maxLen; omega)
  obtain ⟨ROW, hROW⟩ : ∃ ROW : Array Value, ROW = ([] : List Value).toArray ++ Builtin.zeroCells (Value.agg #[.int .i64 0, .pointer none]).cells (n + 1) ++ Builtin.zeroCells (Value.agg #[.int .i64 0, .pointer none]).cells (G - (n + 1)) := ⟨_, rfl⟩
  have hrz : ∀ ty, (Builtin.append_ #[81, 3] ty #[.slice (some ⟨g, 0, none⟩) 0 cap, .int .i64 ((n : Int) + 1)]).run Tryz.prog w =
      .ok (.slice (some ⟨w.heap.size, 0, none⟩) (n + 1) G) (w.drew.alloc (.cells ROW 84)) := fun ty => by
    have h := Lib.run_append_grow_zeros w 81 3 ty 84 i0 _ .i64 .i64 Tryz.underlying81 Tryz.underlying3 hi0 hz0 (some ⟨g, 0, none⟩) 0 cap [] hold (n + 1) (by omega) (by omega) (by omega) (by omega) (by rw [hzb]; omega) (by rw [hzb, Nat.zero_add]; exact growslice_fits hroom (by omega))
    rw [Nat.zero_add, ← hG, ← hROW] at h
    exact h
  have hRs : ROW.size = G * 2 := by
    rw [hROW]
    simp only [Array.size_append, zeros_ent]
    simp
    omega
  have hN : (w.drew.alloc (.cells ROW 84)).heap[w.heap.size]? = some (.cells ROW 84 (0, 0)) := blk_new w.drew _
  have hOb : (w.drew.alloc (.cells ROW 84)).heap[g]? = some (.cells cur 84 (0, 0)) := blk_alloc (w := w.drew) hb
  have hOv : (w.drew.alloc (.cells ROW 84)).heap[vb]? = some (.cells #[.int .i64 x.1, .pointer (some ⟨x.2, 0, none⟩)] 84 (0, 0)) := blk_alloc (w := w.drew) hx
  have hcpA : ∀ (W : World), W.heap = (w.drew.alloc (.cells ROW 84)).heap → ∀ ty dc, (Builtin.copy_ #[81, 81] ty #[.slice (some ⟨w.heap.size, 0, none⟩) (n + 1) dc, .slice (some ⟨vb, 0, none⟩) 1 1]).run Tryz.prog W = .ok (goInt 1) (W.setCells w.heap.size 0 (entV x)) := fun W hWh ty dc =>
    copy_wide (n := 1) Tryz.underlying81 size_ent (by rw [hWh]; exact hN) _ dc ⟨vb, 0, none⟩ 1 1 (entV x) (by simp only [Nat.min_def]; split <;> omega) rfl (src_one (by rw [hWh]; exact hOv)) (by simp [entV]; omega) (entCells_one [x]) ty
  have hcpB : ∀ (W : World), W.heap = ((w.drew.alloc (.cells ROW 84)).setCells w.heap.size 0 (entV x)).heap → ∀ ty dc sc, (Builtin.copy_ #[81, 81] ty #[.slice (some ⟨w.heap.size, 2, none⟩) n dc, .slice (some ⟨g, 0, none⟩) n sc]).run Tryz.prog W = .ok (goInt n) (W.setCells w.heap.size 2 (entCells l)) := fun W hWh ty dc sc =>
    copy_wide (n := n) Tryz.underlying81 size_ent (by rw [hWh]; exact blk_setCells _ _ _ _ _ _ hN) _ dc ⟨g, 0, none⟩ _ sc (entCells l) (by simp only [Nat.min_def]; split <;> omega) (by rw [hel, hn])
      (fun j v hv => by
        have hlt := (List.getElem?_eq_some_iff.1 hv).1
        rw [Go.WideShapes.add_plain, Nat.zero_add, blk_cell (by rw [hWh]; exact (mod_setCells (entV x) _ w.heap.size 0).keep hOb (by omega)), hj _ (by omega)]
        exact hv)
      (by rw [hel, layA_size]; omega) (entCells_one l) ty
  have hfin := Lib.hid (fun e w' (h : e = Ending.returned (.slice (some ⟨w.heap.size, 0, none⟩) (n + 1) G) ∧ (((w.alloc (.cells ROW 84)).drew.setCells w.heap.size 0 (entV x)).drew).setCells w.heap.size 2 (entCells l) = w') => (⟨G, ROW, hGn, hGm, hRs, h⟩ : ∃ (G : Nat) (ROW : Array Value), n + 1 ≤ G ∧ G ≤ maxLen ∧ ROW.size = G * 2 ∧ e = .returned (.slice (some ⟨w.heap.size, 0, none⟩) (n + 1) G) ∧ (((w.alloc (.cells ROW 84)).drew.setCells w.heap.size 0 (entV x)).drew).setCells w.heap.size 2 (entCells l) = w'))
  refine Calls.mono (R := fun e w' => e = Ending.returned (.slice (some ⟨w.heap.size, 0, none⟩) (n + 1) G) ∧ (((w.alloc (.cells ROW 84)).drew.setCells w.heap.size 0 (entV x)).drew).setCells w.heap.size 2 (entCells l) = w') ?_ (fun e w' h => hfin.out e w' h)
  have hE : ((w.alloc (.cells ROW 84)).drew).heap = (w.drew.alloc (.cells ROW 84)).heap := rfl
  have hc63 : cap ≤ 9223372036854775807 := by omega
  have hG63 : G ≤ 9223372036854775807 := by unfold maxLen at hGm; omega
  have hz2 : ¬ ((0 : Int) = (n : Int)) := by omega
  have hz3 : (cap : Int) < (n : Int) + 1 := by omega
  have hw1 : IntKind.i64.wrap 1 = 1 := by rw [IntKind.wrap_i64]; omega
  have hw2 : IntKind.i64.wrap ((n : Int) + 1) = (n : Int) + 1 := by rw [IntKind.wrap_i64]; omega
  have hin : (0 : Int) ≤ (n : Int) := by omega
  have hb3 : (0 : Int) ≤ (n : Int) + 1 := by omega
  have hb4 : (1 : Int) ≤ (n : Int) + 1 := by omega
  have hb5 : (0 : Int) ≤ (cap : Int) := by omega
  have hGi : ¬ (G = 0) := by omega
  have hGim : ¬ (G = 1) := by omega
  have hci : ¬ (cap = 0) := by omega
  have hF : ((w.alloc (.cells ROW 84)).drew.setCells w.heap.size 0 (entV x)).drew.heap = ((w.drew.alloc (.cells ROW 84)).setCells w.heap.size 0 (entV x)).heap := rfl
  clear hb hx hj hel hold hG hROW hRs hN hOb hOv hzs hzb hz0 hi0 hfin hgl hvl hbig hn hGm
  go_enter Tryz.func26, Tryz.ntmps26
  go_wp2_with (first
    | (at_builtin; refine Lib.wpList_append_run _ rfl _ _ _ _ rfl _ _ rfl rfl _ _ (hrz _) ?_)
    | (at_builtin; refine wpList_copy_runI _ rfl _ _ 81 81 rfl _ _ rfl rfl (hcpA _ hE _ _) ?_))
  go_region_law (refine step_copy_runI rfl _ _ 81 81 rfl (.slice (some ⟨w.heap.size, 2, none⟩) n (G - 1)) (.slice (some ⟨g, 0, none⟩) n cap) (by simp [Act.eval, Act.put]) (by simp [Act.eval, Act.put]) (hcpB _ hF 3 (G - 1) cap) ?_)
  go_wp2_with fail
  go_ret
  exact ⟨rfl, rfl⟩

theorem put_first (v : Value) (l : List (Int × Nat)) (x : Int × Nat) (vb : Nat) (w : World) (h : EntRow w v l) (hx : w.heap[vb]? = some (.cells #[.int .i64 x.1, .pointer (some ⟨x.2, 0, none⟩)] 84 (0, 0))) (hne : v.ownBlock ≠ some vb) (hl : l.length ≤ 100000) :
    Calls Tryz.prog 26 #[v, .int .i64 0, .slice (some ⟨vb, 0, none⟩) 1 1] w (PutFirst w v (x :: l)) := by
  rcases Nat.eq_zero_or_pos l.length with h0 | hlt
  · have hnil : l = [] := List.length_eq_zero_iff.1 h0
    subst hnil
    obtain ⟨a, cap, rfl⟩ : ∃ a cap, v = .slice a 0 cap := by
      rcases h.form with ⟨rfl, _⟩ | ⟨g, cap, cur, rfl, _⟩
      · exact ⟨_, _, rfl⟩
      · exact ⟨_, _, rfl⟩
    exact put_none a cap x vb w h hx
  · rcases h.form with ⟨rfl, rfl⟩ | ⟨g, cap, cur, rfl, hb, h2, h3, h4, h5⟩
    · simp at hlt
    · have hcell : ∀ (R : Array Value) (j : Nat), R.size = cap * 2 ∨ (∃ G, l.length + 1 ≤ G ∧ R.size = G * 2) → l.length + 1 ≤ cap ∨ (∃ G, l.length + 1 ≤ G ∧ R.size = G * 2) → j < (l.length + 1) * 2 → (layA (layA R 0 (entV x)) 2 (entCells l))[j]? = (entCells (x :: l))[j]? := fun R j hs hr hj => by
        have hel := entCells_len l
        have hRs : 2 + l.length * 2 ≤ R.size := by
          rcases hr with hr | ⟨G, h1, h2⟩
          · rcases hs with hs | ⟨G, h1, h2⟩ <;> omega
          · omega
        have e : entCells (x :: l) = entV x ++ entCells l := rfl
        rw [e]
        by_cases hj2 : j < 2
        · rw [layA_out _ _ _ _ (by omega), List.getElem?_append_left (by simpa [entV] using hj2)]
          have := layA_in (entV x) R 0 j (by simp [entV]; omega) (by simpa [entV] using hj2)
          rwa [Nat.zero_add] at this
        · rw [List.getElem?_append_right (by simp [entV]; omega)]
          have := layA_in (entCells l) (layA R 0 (entV x)) 2 (j - 2) (by rw [hel, layA_size]; omega) (by rw [hel]; omega)
          rw [show 2 + (j - 2) = j by omega] at this
          rw [this]
          rfl
      by_cases hroom : l.length + 1 ≤ cap
      · refine (put_shift g cap l.length cur l x vb w rfl hlt hroom h3 h4 hb h5 hx (fun e => hne (by rw [e]; rfl))).mono fun e w' r => ?_
        obtain ⟨rfl, rfl⟩ := r
        have hb2 := blk_setCells (entV x) _ g 0 _ _ (blk_setCells (entCells l) w.drew g 2 _ _ hb)
        refine ⟨_, rfl, ?_, ((Mod.refl _ w).drew.trans ((mod_setCells _ _ g _).trans (mod_setCells _ _ g _)) : Mod (fun k => k = g) w _).mono (fun k hk => .inl (by rw [hk]; rfl)), fun k hk => .inl hk⟩
        refine EntRow.of (l := x :: l) hb2 hroom h3 (by rw [layA_size, layA_size]; exact h4) (fun j hj => ?_)
        have hel := entCells_len l
        have e : entCells (x :: l) = entV x ++ entCells l := rfl
        rw [e]
        by_cases hj2 : j < 2
        · rw [List.getElem?_append_left (by simpa [entV] using hj2)]
          have := layA_in (entV x) (layA cur 2 (entCells l)) 0 j (by rw [layA_size]; simp [entV]; omega) (by simpa [entV] using hj2)
          rwa [Nat.zero_add] at this
        · have hj' : j < (l.length + 1) * 2 := hj
          rw [layA_out _ _ _ _ (by simp [entV]; omega), List.getElem?_append_right (by simp [entV]; omega)]
          have := layA_in (entCells l) cur 2 (j - 2) (by rw [hel]; omega) (by rw [hel]; omega)
          rw [show 2 + (j - 2) = j by omega] at this
          rw [this]
          rfl
      · refine (put_grow g cap l.length cur l x vb w rfl hlt h2 (by omega) hl hb h5 hx).mono fun e w' r => ?_
        obtain ⟨G, ROW, r1, r2, r3, rfl, rfl⟩ := r
        have hb1 : ((w.alloc (.cells ROW 84)).drew).heap[w.heap.size]? = some (.cells ROW 84 (0, 0)) := blk_new w _
        have hb2 := blk_setCells (entCells l) _ w.heap.size 2 _ _ (show (((w.alloc (.cells ROW 84)).drew.setCells w.heap.size 0 (entV x)).drew).heap[w.heap.size]? = _ from blk_setCells (entV x) _ w.heap.size 0 _ _ hb1)
        have hm : Mod (fun k => k = w.heap.size) (w.alloc (.cells ROW 84)) ((((w.alloc (.cells ROW 84)).drew.setCells w.heap.size 0 (entV x)).drew).setCells w.heap.size 2 (entCells l)) :=
          ((Mod.refl _ _).drew.trans (mod_setCells _ _ _ _)).trans ((Mod.refl _ _).drew.trans (mod_setCells _ _ _ _))
        have hB : Below w.heap.size w ((((w.alloc (.cells ROW 84)).drew.setCells w.heap.size 0 (entV x)).drew).setCells w.heap.size 2 (entCells l)) :=
          ((Below.refl _ _).alloc (Nat.le_refl _) _).trans (hm.below (fun k hk => by omega) (by simp))
        refine ⟨_, rfl, ?_, Mod.of_below hB, fun k hk => .inr (by have : w.heap.size = k := Option.some.inj hk; omega)⟩
        exact EntRow.of (l := x :: l) hb2 r1 r2 (by rw [layA_size, layA_size]; exact r3) (fun j hj => hcell ROW j (.inr ⟨G, r1, r3⟩) (.inr ⟨G, r1, r3⟩) hj)
theorem bl_alloc2 {a w : World} (h : Below a.heap.size a w) (o : Obj) : Below a.heap.size a (w.alloc o) := h.alloc h.size o
theorem EntRow.at_ {w : World} {g n cap : Nat} {l : List (Int × Nat)} (h : EntRow w (.slice (some ⟨g, 0, none⟩) n cap) l) {i : Nat} (hi : i < l.length) : w.cell? ⟨g, i * 2, none⟩ = some (.int .i64 (l.getD i (0, 0)).1) ∧ w.cell? ⟨g, i * 2 + 1, none⟩ = some (.pointer (some ⟨(l.getD i (0, 0)).2, 0, none⟩)) ∧ w.frozen? ⟨g, i * 2, none⟩ = false ∧ w.frozen? ⟨g, i * 2 + 1, none⟩ = false := by
  rcases h.form with ⟨hv, _⟩ | ⟨g2, cap2, cur, hv, hb, h2, h3, h4, h5⟩
  · cases hv
  · simp only [Value.slice.injEq, Option.some.injEq, Addr.mk.injEq, and_true] at hv
    obtain ⟨rfl, -, rfl⟩ := hv
    obtain ⟨e1, e2⟩ := entCells_at l i hi
    exact ⟨by rw [blk_cell hb, h5 _ (by omega), e1], by rw [blk_cell hb, h5 _ (by omega), e2], blk_free hb _, blk_free hb _⟩
theorem EntRow.later {w w1 : World} {v : Value} {l : List (Int × Nat)} (h : EntRow w v l) (hb : Below w.heap.size w w1) : EntRow w1 v l := h.mod (Mod.of_below (F := fun _ => False) hb) (fun _ _ h => h)
end Go.Proofs.YtoidmakaijkglaaGreat
