/- SeeMaybe holds: what may be seen hangs on one that is about to commit; where it commits the answer stays, where it aborts it turns. No condition. -/
import Derived.Test.YtbiadeniplmkfaaC3
namespace Go.Proofs.Ytbiadeniplmkfaa
open Go.RowKit Go.ChangeShapes

set_option maxHeartbeats 400000 in
theorem seeMaybeClo1_any (l : List Oth) (v : Value) (id : Int) (b : Nat) (w : World) (hc : w.cell? ⟨b, 0, none⟩ = some v) (hl : OthAt w v l) :
    Calls Try.prog 39 #[.int .i64 id, .pointer (some ⟨b, 0, none⟩)] w fun e w' => e = .returned (.tuple #[(lookS l id).1.val, .bool (lookS l id).2]) ∧ Below w.heap.size w w' := by
  have HL := Lib.hid (look_any l v id (w.alloc (.cells #[.int .i64 0, .int .i64 0, .int .u64 0, .int .u64 0] 24)) (hl.later (bl_alloc (Below.refl _ _) _)))
  have hbl := cell_lt0 hc
  clear hl
  generalize lookS l id = r at *
  obtain ⟨⟨lv, st, bg, en⟩, ok⟩ := r
  simp only [Tx.val] at *
  go_enter Try.func39, Try.ntmps39
  go_wp2_with fail
  refine HL.out.mono ?_
  rintro e w1 ⟨rfl, hb1⟩
  obtain ⟨hc1, hf1⟩ := bcell hb1
  have hz1 : w.heap.size < w1.heap.size := by have := hb1.size; simp at this; omega
  simp only [World.size_alloc] at hc1 hf1
  go_wp2_with fail
  refine bodyPost_ret (v := .tuple #[.agg #[.int .i64 lv, .int .i64 st, .int .u64 bg, .int .u64 en], .bool ok]) (by simp [results, Try.results39, go_sem, hc1]) rfl ⟨rfl, ?_⟩
  have hB : Below w.heap.size w w1 := bl_next (bl_alloc (Below.refl _ _) _) hb1
  repeat (with_reducible (first | refine Below.drew ?_ | refine Below.setCell ?_ (by simp) _ | refine bl_alloc ?_ _ | exact hB))

theorem seeMaybeClo1_tells (l : List Oth) (v : Value) (b : Nat) (w : World) (hc : w.cell? ⟨b, 0, none⟩ = some v) (hl : OthAt w v l) :
    Tells w (.func (.func 39) #[] #[.pointer (some ⟨b, 0, none⟩)]) (lookS l) :=
  .inr ⟨_, _, rfl, fun _ _ => by kernel_rfl, fun w1 id hb => seeMaybeClo1_any l v id b w1 ((hb.cell (p := ⟨b, 0, none⟩) (cell_lt0 hc)).trans hc) (hl.later hb)⟩

set_option maxHeartbeats 400000 in
theorem seeMaybeClo2_any (l : List Oth) (v : Value) (id : Int) (b : Nat) (w : World) (hc : w.cell? ⟨b, 0, none⟩ = some v) (hl : OthAt w v l) :
    Calls Try.prog 40 #[.int .i64 id, .pointer (some ⟨b, 0, none⟩)] w fun e w' => e = .returned (.tuple #[(lookS l id).1.val, .bool (lookS l id).2]) ∧ Below w.heap.size w w' := by
  have HL := Lib.hid (look_any l v id (w.alloc (.cells #[.int .i64 0, .int .i64 0, .int .u64 0, .int .u64 0] 24)) (hl.later (bl_alloc (Below.refl _ _) _)))
  have hbl := cell_lt0 hc
  clear hl
  generalize lookS l id = r at *
  obtain ⟨⟨lv, st, bg, en⟩, ok⟩ := r
  simp only [Tx.val] at *
  go_enter Try.func40, Try.ntmps40
  go_wp2_with fail
  refine HL.out.mono ?_
  rintro e w1 ⟨rfl, hb1⟩
  obtain ⟨hc1, hf1⟩ := bcell hb1
  have hz1 : w.heap.size < w1.heap.size := by have := hb1.size; simp at this; omega
  simp only [World.size_alloc] at hc1 hf1
  go_wp2_with fail
  refine bodyPost_ret (v := .tuple #[.agg #[.int .i64 lv, .int .i64 st, .int .u64 bg, .int .u64 en], .bool ok]) (by simp [results, Try.results40, go_sem, hc1]) rfl ⟨rfl, ?_⟩
  have hB : Below w.heap.size w w1 := bl_next (bl_alloc (Below.refl _ _) _) hb1
  repeat (with_reducible (first | refine Below.drew ?_ | refine Below.setCell ?_ (by simp) _ | refine bl_alloc ?_ _ | exact hB))

theorem seeMaybeClo2_tells (l : List Oth) (v : Value) (b : Nat) (w : World) (hc : w.cell? ⟨b, 0, none⟩ = some v) (hl : OthAt w v l) :
    Tells w (.func (.func 40) #[] #[.pointer (some ⟨b, 0, none⟩)]) (lookS l) :=
  .inr ⟨_, _, rfl, fun _ _ => by kernel_rfl, fun w1 id hb => seeMaybeClo2_any l v id b w1 ((hb.cell (p := ⟨b, 0, none⟩) (cell_lt0 hc)).trans hc) (hl.later hb)⟩

set_option maxHeartbeats 400000 in
theorem seeMaybeClo3_any (l : List Oth) (v : Value) (id : Int) (b : Nat) (w : World) (hc : w.cell? ⟨b, 0, none⟩ = some v) (hl : OthAt w v l) :
    Calls Try.prog 41 #[.int .i64 id, .pointer (some ⟨b, 0, none⟩)] w fun e w' => e = .returned (.tuple #[(lookS l id).1.val, .bool (lookS l id).2]) ∧ Below w.heap.size w w' := by
  have HL := Lib.hid (look_any l v id (w.alloc (.cells #[.int .i64 0, .int .i64 0, .int .u64 0, .int .u64 0] 24)) (hl.later (bl_alloc (Below.refl _ _) _)))
  have hbl := cell_lt0 hc
  clear hl
  generalize lookS l id = r at *
  obtain ⟨⟨lv, st, bg, en⟩, ok⟩ := r
  simp only [Tx.val] at *
  go_enter Try.func41, Try.ntmps41
  go_wp2_with fail
  refine HL.out.mono ?_
  rintro e w1 ⟨rfl, hb1⟩
  obtain ⟨hc1, hf1⟩ := bcell hb1
  have hz1 : w.heap.size < w1.heap.size := by have := hb1.size; simp at this; omega
  simp only [World.size_alloc] at hc1 hf1
  go_wp2_with fail
  refine bodyPost_ret (v := .tuple #[.agg #[.int .i64 lv, .int .i64 st, .int .u64 bg, .int .u64 en], .bool ok]) (by simp [results, Try.results41, go_sem, hc1]) rfl ⟨rfl, ?_⟩
  have hB : Below w.heap.size w w1 := bl_next (bl_alloc (Below.refl _ _) _) hb1
  repeat (with_reducible (first | refine Below.drew ?_ | refine Below.setCell ?_ (by simp) _ | refine bl_alloc ?_ _ | exact hB))

theorem seeMaybeClo3_tells (l : List Oth) (v : Value) (b : Nat) (w : World) (hc : w.cell? ⟨b, 0, none⟩ = some v) (hl : OthAt w v l) :
    Tells w (.func (.func 41) #[] #[.pointer (some ⟨b, 0, none⟩)]) (lookS l) :=
  .inr ⟨_, _, rfl, fun _ _ => by kernel_rfl, fun w1 id hb => seeMaybeClo3_any l v id b w1 ((hb.cell (p := ⟨b, 0, none⟩) (cell_lt0 hc)).trans hc) (hl.later hb)⟩


theorem info_oth : (Try.prog.info? 56).map (fun i => (i.zero, i.size, i.bytes)) = some (some (.agg #[.bool false, .int .i64 0, .int .i64 0, .int .u64 0, .int .u64 0]), 5, 40) := by kernel_rfl

theorem ints_single {w : World} {v : Value} {x : Int} (h : IntsAt w v [x]) : ∃ b off cap, v = .slice (some ⟨b, off, none⟩) 1 cap ∧ b < w.heap.size ∧ w.cell? ⟨b, off, none⟩ = some (.int .i64 x) := by
  rcases h with ⟨h, _⟩ | ⟨b, off, cap, rfl, _, _, hb, hc⟩
  · cases h
  · exact ⟨b, off, cap, rfl, hb, hc 0 (by simp)⟩

theorem turn_turn {l : List Oth} {i : Nat} (hi : i < l.length) (s r : Int) : turnS (turnS l i s) i r = turnS l i r := by
  have h := turn_get s hi i
  rw [if_pos rfl] at h
  unfold turnS at h ⊢
  rw [h, List.set_set]
theorem set_cell {w : World} {g o x y : Nat} {u v : Value} (hne : ¬ (x = g ∧ y = o)) (h : w.cell? ⟨x, y, none⟩ = some v) : (w.setCell ⟨g, o, none⟩ u).drew.cell? ⟨x, y, none⟩ = some v := by
  refine (World.cell?_setCell_other _ _ _ _ ?_).trans h
  intro e
  simp only [Addr.mk.injEq] at e
  exact hne ⟨e.1.symm, e.2.1.symm⟩
theorem set_own {w : World} {g o : Nat} {u v : Value} (h : w.cell? ⟨g, o, none⟩ = some v) : (w.setCell ⟨g, o, none⟩ u).drew.cell? ⟨g, o, none⟩ = some u := World.cell?_setCell_same' _ _ _ (by rw [h]; rfl)
theorem set_frozen {w : World} {g o x y : Nat} {u : Value} (h : w.frozen? ⟨x, y, none⟩ = false) : (w.setCell ⟨g, o, none⟩ u).drew.frozen? ⟨x, y, none⟩ = false := by
  refine Eq.trans ?_ h
  show (w.setCell ⟨g, o, none⟩ u).frozen? ⟨x, y, none⟩ = _
  simp
theorem below_set {B : Nat} {a w : World} (h : Below B a w) {g o : Nat} {u : Value} (hg : B ≤ g) : Below B a (w.setCell ⟨g, o, none⟩ u).drew := Below.drew (h.setCell (p := ⟨g, o, none⟩) hg u)
theorem oth_drew {w : World} {v : Value} {l : List Oth} (h : OthAt w v l) : OthAt w.drew v l := h.later (Below.drew (Below.refl _ _))

set_option maxRecDepth 100000 in
set_option maxHeartbeats 1600000 in
theorem seeMaybe_walk {a0 a1 a2 a3 a4 a5 : Int} {a6 : Option Addr} {len cap : Nat} {l : List Oth} {w : World} (_w0 : (Lit.int .i64 a0).wf = true) (w1 : (Lit.int .u64 a1).wf = true) (_w2 : (Lit.int .i64 a2).wf = true) (w3 : (Lit.int .u64 a3).wf = true) (_w4 : (Lit.int .i64 a4).wf = true) (_w5 : (Lit.int .u64 a5).wf = true)
    (hn : l.length = len) (hl : OthAt w (.slice a6 len cap) l) (_hw : ∀ i, (l.getD i zeroOth).tx.wf) :
    Calls Try.prog 12 #[.int .i64 a0, .int .u64 a1, .int .i64 a2, .int .u64 a3, .int .i64 a4, .int .u64 a5, .slice a6 len cap] w fun e w' => e = .returned (.bool true) ∧ Below w.heap.size w w' := by
  by_cases h20 : 20 < len
  · clear hl
    go_enter Try.func12, Try.ntmps12
    go_wp2_with fail
    refine (awake7_any _).mono ?_
    rintro e w1 ⟨rfl, hb⟩
    go_wp2_with fail
    go_ret
    exact ⟨rfl, bl_next (bl_alloc (Below.refl _ _) _) hb⟩
  · obtain ⟨g0, g1⟩ := wordOf_range a0 a1 (bounds_u64 w1).1 (bounds_u64 w1).2
    obtain ⟨k0, k1⟩ := wordOf_range a2 a3 (bounds_u64 w3).1 (bounds_u64 w3).2
    have hl1 := hl.later (bl_alloc (Below.refl _ w) (.cells #[.slice a6 len cap] 33))
    have HT := Lib.hid (seeMaybeClo1_tells l (.slice a6 len cap) w.heap.size (w.alloc (.cells #[.slice a6 len cap] 33)) (by simp) hl1)
    have HL := Lib.hid hl1
    clear hl1 hl w1 w3
    go_enter Try.func12, Try.ntmps12
    go_wp2_with (go_at_call 19; refine (word_any _ _ _).mono ?_; rintro e w1 ⟨rfl, rfl⟩)
    generalize wordOf a0 a1 = b at *
    generalize wordOf a2 a3 = e at *
    refine (see_any b e a4 a5 _ _ _ _ HT.out (Below.refl _ _) g0 g1 k0 k1).mono ?_
    rintro ee w1 ⟨sv, rfl, hi, hb1⟩
    have hm := maybe_law (lookS l) b e a4 a5
    rcases hm with hm | ⟨id, hm, hk3, hid, hst, hen, hL3, hL4⟩
    · rw [hm] at hi
      obtain ⟨sa, sc, rfl⟩ := hi.nil_len
      clear hi hm
      go_wp2_with fail
      refine (awake7_any _).mono ?_
      rintro ee w2 ⟨rfl, hb2⟩
      go_wp2_with fail
      go_ret
      exact ⟨rfl, bl_next (bl_next (bl_alloc (Below.refl _ _) _) hb1) hb2⟩
    · rw [hm] at hi
      obtain ⟨i, rfl, hil, hth, hlk⟩ := look_there hid
      rw [hlk] at hst hen
      have hc3 := (hL3 _ (turn_look 3 hil hth))
      have hc4 := (hL4 _ (turn_look 4 hil hth))
      obtain ⟨ob, oo, oc, rfl, hob, hoc⟩ := ints_single hi
      have B1 := bl_next (bl_alloc (Below.refl _ _) _) hb1
      have c1 : w1.cell? ⟨w.heap.size, 0, none⟩ = some (.slice a6 len cap) := keep hb1 (by simp)
      have ho1 := HL.out.later hb1
      have HS := Lib.hid ho1
      rcases ho1 with ⟨rfl, _⟩ | ⟨lb, lo, lc, hv, hlc, hml, hlb, hcc⟩
      · cases hil
      obtain ⟨ra, rb, rc⟩ : a6 = some ⟨lb, lo, none⟩ ∧ len = l.length ∧ cap = lc := by simpa using hv
      subst ra rb rc
      obtain ⟨d0, d1, d2, d3, d4⟩ := hcc i hil
      have hsk : (seeK (lookS l) b e a4 a5 == 3) = false := by simpa using hk3
      have q1 : decide ((i : Int) + 1 < 1) = false := by simp; omega
      have q2 : decide ((l.length : Int) < (i : Int) + 1) = false := by simp; omega
      generalize (l.getD i zeroOth).tx.en = en at *
      have q3 : decide (a5 < en) = false := by simp; omega
      rw [hst] at d2
      have xi : IntKind.i64.wrap (i : Int) = i := by rw [IntKind.wrap_i64]; omega
      have xi1 : IntKind.i64.wrap ((i : Int) + 1 - 1) = i := by rw [Int.add_sub_cancel]; exact xi
      have pi0 : (0 : Int) ≤ (i : Int) := by omega
      have pi1 : (i : Int) < (l.length : Int) := by omega
      have HC3 := Lib.hid hc3
      have HC4 := Lib.hid hc4
      have HB1 := Lib.hid B1
      have HO := Lib.hid (othCells_one l)
      have HX := Lib.hid hlc
      generalize hK : seeK (lookS l) b e a4 a5 = K at *
      clear hK hc3 hc4 hL3 hL4 hm hid hlk hcc hb1 B1 hv hi hst hen hk3 d0 d1 d3 HL
      have hz1 : w.heap.size < w1.heap.size := cell_lt0 c1
      have HN := Lib.hid (show 0 + l.length ≤ 1099511627776 by omega)
      have HSS := Lib.hid (fun w2 (hb : Below w1.heap.size w1 w2) => (HS.out.later hb).src)
      clear HS
      go_wp2_with fail
      go_quiet (fail)
      have hbq : Below w1.heap.size w1 (w1.drewN nq) := below_drewN (Below.refl _ _) nq
      generalize w1.drewN nq = wq at *
      have cq := keep hbq c1
      have hz2 : w.heap.size < wq.heap.size := Nat.lt_of_lt_of_le hz1 hbq.size
      have hz2n : w.heap.size ≠ wq.heap.size := by omega
      have hsq := Lib.hid hbq.size
      have HBQ := Lib.hid hbq
      clear hbq
      go_wp2_with (at_builtin; refine append_cells (zero := .agg #[.bool false, .int .i64 0, .int .i64 0, .int .u64 0, .int .u64 0]) (size := 5) (base := w1.heap.size) (n := 0) (m := l.length) (xs := []) (ys := othCells l) rfl (.tmp 98) (.tmp 99) rfl Try.underlying33 info_oth rfl (by decide) (Nat.le_of_ble_eq_true rfl) rfl ?c1 rfl ?c2 HO.out HN.out ?c4 ?c5)
      case c1 => exact owns_made (heap_at (by simp)) (by have := hsq.out; simp; try omega)
      case c2 => exact HSS.out _ (bl_alloc HBQ.out _)
      case c4 => have := hsq.out; simp; try omega
      intro v2 w2 h2 h3 _
      have B2 := h3 _ w1 (Nat.le_refl _) (bl_alloc HBQ.out _)
      (try rw [Nat.zero_add, List.nil_append] at h2)
      obtain ⟨g, gc, rfl, hg1, hg2, hfz, hog⟩ := oth_owned h2 (by omega)
      clear h2 h3
      have HG := Lib.hid hog
      have HF := Lib.hid hfz
      rcases hog with ⟨rfl, _⟩ | ⟨b', off', cap', hv', _, _, _, hcc'⟩
      · cases hil
      obtain ⟨⟨rfl, rfl⟩, rfl⟩ : (b' = g ∧ off' = 0) ∧ cap' = gc := by simpa using hv'.symm
      obtain ⟨-, -, e2, -, -⟩ := hcc' i hil
      clear hcc' hv'
      have f2 := hfz (i * 5 + 2)
      have on2 := keep B2 hoc
      rw [Nat.zero_add] at e2
      go_wp2_with fail
      have hal : Below w2.heap.size w2 (w2.alloc (.cells #[.slice (some ⟨b', 0, none⟩) l.length cap'] 33)) := bl_alloc (Below.refl _ _) _
      have cb3 : (w2.alloc (.cells #[.slice (some ⟨b', 0, none⟩) l.length cap'] 33)).cell? ⟨w2.heap.size, 0, none⟩ = some (.slice (some ⟨b', 0, none⟩) l.length cap') := by simp
      generalize (w2.alloc (.cells #[.slice (some ⟨b', 0, none⟩) l.length cap'] 33)) = w3 at *
      have on3 := keep hal on2
      have e3 := keep hal e2
      have f3 : w3.frozen? ⟨b', i * 5 + 2, none⟩ = false := (hal.frozen (p := ⟨b', i * 5 + 2, none⟩) hg2).trans f2
      have hg3 : w2.heap.size < w3.heap.size := cell_lt0 cb3
      have HOG := Lib.hid (HG.out.later hal)
      have HAL := Lib.hid hal
      have HF3 := Lib.hid f3
      clear c1 d2 d4 hoc cq e2 f2 on2 hfz HF hal HSS HBQ hsq hz2 hz2n q1 q2 q3
      go_region
      have B4 := below_set (o := i * 5 + 1 + 1) (u := .int .i64 3) (Below.trans B2 (HAL.out.mono B2.size)) hg1
      have cb4 := set_cell (g := b') (o := i * 5 + 1 + 1) (u := .int .i64 3) (by omega) cb3
      have on4 := set_cell (g := b') (o := i * 5 + 1 + 1) (u := .int .i64 3) (by omega) on3
      have e4 := set_own (u := .int .i64 3) (show w3.cell? ⟨b', i * 5 + 1 + 1, none⟩ = _ from e3)
      have f4 := set_frozen (g := b') (o := i * 5 + 1 + 1) (u := .int .i64 3) f3
      have o4 := oth_drew (oth_turn HOG.out hil 3)
      have o4' : OthAt (w3.setCell ⟨b', i * 5 + 1 + 1, none⟩ (.int .i64 3)).drew (.slice (some ⟨b', 0, none⟩) l.length cap') (turnS l i 3) := o4
      have hs4 : w3.heap.size ≤ (w3.setCell ⟨b', i * 5 + 1 + 1, none⟩ (.int .i64 3)).drew.heap.size := by simp [World.setCell]
      clear o4
      generalize (w3.setCell ⟨b', i * 5 + 1 + 1, none⟩ (.int .i64 3)).drew = w4 at *
      have HT4 := Lib.hid (seeMaybeClo2_tells (turnS l i 3) _ w2.heap.size w4 cb4 o4')
      have HB4 := Lib.hid B4
      have HO4 := Lib.hid o4'
      clear cb3 on3 e3 f3 HF3 HOG HAL HG o4' B4
      go_wp2_with fail
      refine (see_any b e a4 a5 _ _ _ _ HT4.out (Below.refl _ _) g0 g1 k0 k1).mono ?_
      rintro ee w5 ⟨sv5, rfl, hi5, hb5⟩
      rw [HC3.out.2] at hi5
      rw [HC3.out.1]
      obtain ⟨sa, sc, rfl⟩ := hi5.nil_len
      have cb5 := keep hb5 cb4
      have on5 := keep hb5 on4
      have e5 : w5.cell? ⟨b', i * 5 + 2, none⟩ = some (.int .i64 3) := keep hb5 e4
      have f5 : w5.frozen? ⟨b', i * 5 + 2, none⟩ = false := (hb5.frozen (p := ⟨b', i * 5 + 2, none⟩) (cell_lt0 e4)).trans f4
      have HO5 := Lib.hid (HO4.out.later hb5)
      have HB5 := Lib.hid (Below.trans HB4.out (hb5.mono HB4.out.size))
      clear cb4 on4 e4 f4 HO4 HB4 HT4 hi5 hb5 HC3
      go_wp2_with fail
      go_region
      have B6 := below_set (o := i * 5 + 1 + 1) (u := .int .i64 4) HB5.out hg1
      have cb6 := set_cell (g := b') (o := i * 5 + 1 + 1) (u := .int .i64 4) (by omega) cb5
      have o6 : OthAt (w5.setCell ⟨b', i * 5 + 1 + 1, none⟩ (.int .i64 4)).drew (.slice (some ⟨b', 0, none⟩) (turnS l i 3).length cap') (turnS (turnS l i 3) i 4) := oth_drew (oth_turn (by rw [turn_len]; exact HO5.out) (by rw [turn_len]; exact hil) 4)
      rw [turn_turn hil, turn_len] at o6
      generalize (w5.setCell ⟨b', i * 5 + 1 + 1, none⟩ (.int .i64 4)).drew = w6 at *
      have HT6 := Lib.hid (seeMaybeClo3_tells (turnS l i 4) _ w2.heap.size w6 cb6 o6)
      have HB6 := Lib.hid B6
      clear cb5 on5 e5 f5 HO5 HB5 o6 B6
      go_wp2_with fail
      refine (see_any b e a4 a5 _ _ _ _ HT6.out (Below.refl _ _) g0 g1 k0 k1).mono ?_
      rintro ee w7 ⟨sv7, rfl, hi7, hb7⟩
      have HB7 := Lib.hid (Below.trans HB6.out (hb7.mono HB6.out.size))
      have h4 := HC4.out
      generalize seeK (lookS (turnS l i 4)) b e a4 a5 = K4 at *
      clear HT6 HB6 hi7 hb7 cb6
      have hor : (b == e) = true ∨ (b == e) = false ∧ (K4 == K) = false := by
        rcases h4 with h | h
        · exact .inl (by simp [h])
        · by_cases q : b = e
          · exact .inl (by simp [q])
          · exact .inr ⟨by simpa using q, by simpa using h⟩
      clear h4 HC4
      have hor2 : (b == e) = true ∧ b = e ∨ (b == e) = false ∧ b ≠ e ∧ (K4 == K) = false ∧ (K4 != K) = true ∧ K4 ≠ K := by
        rcases hor with h | ⟨h, h'⟩
        · exact .inl ⟨h, by simpa using h⟩
        · exact .inr ⟨h, by simpa using h, h', by simpa using h', by simpa using h'⟩
      clear hor
      rcases hor2 with ⟨hbe, rfl⟩ | ⟨hbe, hbe2, hkk, hkk2, hkk3⟩
      all_goals
        go_wp2_with fail
        refine (awake7_any _).mono ?_
        rintro ee w8 ⟨rfl, hb8⟩
        go_wp2_with fail
        go_ret
        exact ⟨rfl, bl_next (bl_next HB1.out HB7.out) hb8⟩

end Go.Proofs.Ytbiadeniplmkfaa
