/- MayTells holds: whether a version may be ended, and a key's first one be made, is the document's answer. No condition. -/
import Derived.Test.YtbiadeniplmkfaaF0
import Derived.Test.YtbiadeniplmkfaaC2
import Derived.Test.YtbiadeniplmkfaaO0
import Derived.StillTailTactics
namespace Go.Proofs.Ytbiadeniplmkfaa
open Go.RowKit Go.ChangeShapes

set_option maxHeartbeats 400000 in
theorem tellsClo8_any (l : List Oth) (v : Value) (id : Int) (b : Nat) (w : World) (hc : w.cell? ⟨b, 0, none⟩ = some v) (hl : OthAt w v l) :
    Calls Try.prog 20 #[.int .i64 id, .pointer (some ⟨b, 0, none⟩)] w fun e w' => e = .returned (.tuple #[(lookS l id).1.val, .bool (lookS l id).2]) ∧ Below w.heap.size w w' := by
  have HL := Lib.hid (look_any l v id (w.alloc (.cells #[.int .i64 0, .int .i64 0, .int .u64 0, .int .u64 0] 24)) (hl.later (bl_alloc (Below.refl _ _) _)))
  have hbl := cell_lt0 hc
  clear hl
  generalize lookS l id = r at *
  obtain ⟨⟨lv, st, bg, en⟩, ok⟩ := r
  simp only [Tx.val] at *
  go_enter Try.func20, Try.ntmps20
  go_wp2_with fail
  refine HL.out.mono ?_
  rintro e w1 ⟨rfl, hb1⟩
  obtain ⟨hc1, hf1⟩ := bcell hb1
  have hz1 : w.heap.size < w1.heap.size := by have := hb1.size; simp at this; omega
  simp only [World.size_alloc] at hc1 hf1
  go_wp2_with fail
  refine bodyPost_ret (v := .tuple #[.agg #[.int .i64 lv, .int .i64 st, .int .u64 bg, .int .u64 en], .bool ok]) (by simp [results, Try.results20, go_sem, hc1]) rfl ⟨rfl, ?_⟩
  have hB : Below w.heap.size w w1 := bl_next (bl_alloc (Below.refl _ _) _) hb1
  repeat (with_reducible (first | refine Below.drew ?_ | refine Below.setCell ?_ (by simp) _ | refine bl_alloc ?_ _ | exact hB))
theorem tellsClo8_tells (l : List Oth) (v : Value) (b : Nat) (w : World) (hc : w.cell? ⟨b, 0, none⟩ = some v) (hl : OthAt w v l) :
    Tells w (.func (.func 20) #[] #[.pointer (some ⟨b, 0, none⟩)]) (lookS l) :=
  .inr ⟨_, _, rfl, fun _ _ => by kernel_rfl, fun w1 id hb => tellsClo8_any l v id b w1 ((hb.cell (p := ⟨b, 0, none⟩) (cell_lt0 hc)).trans hc) (hl.later hb)⟩

def wordsTo (a b : List Int) : Nat → List Int
  | 0 => []
  | k + 1 => wordsTo a b k ++ [wordOf (a.getD k 0) (b.getD k 0)]
theorem wordsTo_len (a b : List Int) (k : Nat) : (wordsTo a b k).length = k := by
  induction k with
  | zero => rfl
  | succ k ih => simp [wordsTo, ih]
theorem wordsTo_range (a b : List Int) (hb : ∀ i, 0 ≤ b.getD i 0 ∧ b.getD i 0 ≤ 18446744073709551615) (k : Nat) : inRange (wordsTo a b k) := by
  induction k with
  | zero => intro i hi; simp [wordsTo] at hi
  | succ k ih =>
    intro i hi
    rw [wordsTo_len] at hi
    rw [wordsTo, List.getD_eq_getElem?_getD]
    by_cases h : i < k
    · rw [List.getElem?_append_left (by rw [wordsTo_len]; exact h), ← List.getD_eq_getElem?_getD]
      exact ih i (by rw [wordsTo_len]; exact h)
    · have : i = k := by omega
      subst this
      rw [List.getElem?_append_right (by rw [wordsTo_len]; omega), wordsTo_len]
      simpa using wordOf_range (a.getD i 0) (b.getD i 0) (hb i).1 (hb i).2
theorem getD_range {l : List Int} (h : ∀ x ∈ l, (Lit.int .u64 x).wf = true) (i : Nat) : 0 ≤ l.getD i 0 ∧ l.getD i 0 ≤ 18446744073709551615 := by
  by_cases hi : i < l.length
  · have := bounds_u64 (h l[i] (List.getElem_mem hi))
    simpa [List.getD_eq_getElem?_getD, List.getElem?_eq_getElem hi] using this
  · simp [List.getD_eq_getElem?_getD, List.getElem?_eq_none (show l.length ≤ i by omega)]
theorem word_still (k n : Int) (w : World) : Calls Try.prog 19 #[.int .i64 k, .int .u64 n] w fun e w' => e = .returned (.int .u64 (wordOf k n)) ∧ w' = w :=
  (word_any k n w).mono fun _ _ ⟨h, g⟩ => ⟨h, g.symm⟩

set_option maxRecDepth 100000 in
set_option maxHeartbeats 3200000 in
theorem mayTells_walk {a0 a1 : Int} {a2 : Option Addr} {len2 cap2 : Nat} {l2 : List Int} {a3 : Option Addr} {len3 cap3 : Nat} {l3 : List Int} {a4 a5 : Int} {a6 : Option Addr} {len6 cap6 : Nat} {l : List Oth} {w : World} (_w0 : (Lit.int .i64 a0).wf = true) (w1 : (Lit.int .u64 a1).wf = true)
    (n2 : l2.length = len2) (r2 : RowAt .i64 w (.slice a2 len2 cap2) l2) (_w2 : ∀ x ∈ l2, (Lit.int .i64 x).wf = true) (n3 : l3.length = len3) (r3 : RowAt .u64 w (.slice a3 len3 cap3) l3) (w3 : ∀ x ∈ l3, (Lit.int .u64 x).wf = true)
    (_w4 : (Lit.int .i64 a4).wf = true) (_w5 : (Lit.int .u64 a5).wf = true) (_hn : l.length = len6) (hl : OthAt w (.slice a6 len6 cap6) l) (_hw : ∀ i, (l.getD i zeroOth).tx.wf) :
    Calls Try.prog 4 #[.int .i64 a0, .int .u64 a1, .slice a2 len2 cap2, .slice a3 len3 cap3, .int .i64 a4, .int .u64 a5, .slice a6 len6 cap6] w fun e w' => e = .returned (.bool true) ∧ Below w.heap.size w w' := by
  by_cases h20 : 20 < len6 ∨ 20 < len2
  · have hd : (20 < len6) ∨ (decide ((20 : Int) < (len6 : Int)) = false ∧ 20 < len2) := by simp; omega
    clear hl n2 r2 n3 r3 h20
    rcases hd with hd | ⟨hd, hd2⟩
    all_goals
      go_enter Try.func4, Try.ntmps4
      go_wp2_with fail
      refine (awake8_any _).mono ?_
      rintro e w1 ⟨rfl, hb⟩
      go_wp2_with fail
      go_ret
      exact ⟨rfl, bl_next (bl_alloc (Below.refl _ _) _) hb⟩
  · have hd : len6 ≤ 20 ∧ len2 ≤ 20 := by omega
    obtain ⟨hd6, hd2⟩ := hd
    obtain ⟨_, _, hu3, hm3⟩ := r3.len
    unfold maxLen at hm3
    rw [n3] at hm3
    clear hu3 h20
    obtain ⟨g0, g1⟩ := wordOf_range a0 a1 (bounds_u64 w1).1 (bounds_u64 w1).2
    have hl1 := hl.later (bl_alloc (Below.refl _ w) (.cells #[.slice a6 len6 cap6] 33))
    have HT := Lib.hid (tellsClo8_tells l (.slice a6 len6 cap6) w.heap.size (w.alloc (.cells #[.slice a6 len6 cap6] 33)) (by simp) hl1)
    have HL := Lib.hid hl1
    have H2 := Lib.hid (r2.later (bl_alloc (Below.refl _ w) (.cells #[.slice a6 len6 cap6] 33)))
    have H3 := Lib.hid (r3.later (bl_alloc (Below.refl _ w) (.cells #[.slice a6 len6 cap6] 33)))
    have N2 := Lib.hid n2
    have N3 := Lib.hid n3
    have HR := Lib.hid (wordsTo_range l2 l3 (getD_range w3))
    clear hl hl1 r2 r3 n2 n3 w1 w3
    go_enter Try.func4, Try.ntmps4
    go_wp2_with (go_at_call 19; refine (word_any _ _ _).mono ?_; rintro e w1 ⟨rfl, rfl⟩)
    generalize wordOf a0 a1 = x at *
    obtain ⟨W, hW⟩ : ∃ W : World, W = w.alloc (.cells #[.slice a6 len6 cap6] 33) := ⟨_, rfl⟩
    have BW : Below w.heap.size w W := hW ▸ bl_alloc (Below.refl _ _) _
    have cW : W.cell? ⟨w.heap.size, 0, none⟩ = some (.slice a6 len6 cap6) := by rw [hW]; simp
    rw [← hW] at HT HL H2 H3 ⊢
    clear hW
    go_loopw [16, 17] (fun v i wr => ∃ k : Nat, k ≤ len2 ∧ k ≤ len3 ∧ i = .int .i64 k ∧ Owned .u64 22 W.heap.size wr v (wordsTo l2 l3 k) ∧ Below W.heap.size W wr) (fun _ i _ => len2 - (intOf i).toNat)
    case atStart => exact ⟨0, Nat.zero_le _, Nat.zero_le _, rfl, Owned.nil _ _ _ _, Below.refl _ _⟩
    case round =>
      obtain ⟨k, hk2, hk3, rfl, hown, hB⟩ := hrel
      have HO := Lib.hid hown
      clear hown
      by_cases hlt : k < len2 ∧ k < len3
      · obtain ⟨hlt, hlt2⟩ := hlt
        rcases H2.out with ⟨h0, _⟩ | ⟨b, off, cap, hv, _, hbl, hc⟩
        · have := N2.out; rw [h0] at this; simp at this; omega
        rcases H3.out with ⟨h0, _⟩ | ⟨b', off', cap', hv', _, hbl', hc'⟩
        · have := N3.out; rw [h0] at this; simp at this; omega
        have c1 := (hB.cell (p := ⟨b, off + k, none⟩) hbl).trans (hc k (N2.out.symm ▸ hlt))
        have c2 := (hB.cell (p := ⟨b', off' + k, none⟩) hbl').trans (hc' k (N3.out.symm ▸ hlt2))
        simp only [Value.slice.injEq] at hv hv'
        obtain ⟨rfl, hnl, rfl⟩ := hv
        obtain ⟨rfl, hnl', rfl⟩ := hv'
        have HTS := Lib.hid (show wordsTo l2 l3 (k + 1) = wordsTo l2 l3 k ++ [wordOf (l2.getD k 0) (l3.getD k 0)] from rfl)
        have HTL := Lib.hid (wordsTo_len l2 l3 k)
        clear hnl hnl' hc hc'
        generalize l2.getD k 0 = p at *
        generalize l3.getD k 0 = q at *
        go_wp2_with fail
        go_region_law (first | (refine step_append_one (k := .u64) (E := 22) (T := 29) (bytes := 8) (y := wordOf p q) (v := u16) (l := wordsTo l2 l3 k) (base := W.heap.size) (ad := ⟨wr.heap.size, 0, none⟩) ?_ (.tmp 47) (.tmp 57) ?_ Try.underlying29 info_u64 (Nat.le_refl 8) ?_ ?_ ?_ ?_ ?_ ?_ ?_; rfl; rfl; rfl; exact HO.out.later (Below.drew (bl_alloc (Below.refl _ _) _)); rfl; simp [Addr.add]; exact Nat.le_trans (Nat.le_of_eq HTL.out) (Nat.le_trans hk2 (by omega)); exact Nat.le_trans hB.size (by simp); intro v' w' h1 h2) | (go_simp; go_at_call 19; refine (word_any _ _ _).mono ?_; rintro e w1 ⟨rfl, rfl⟩))
        all_goals
          go_wp2
          go_roundw
          case rel => exact ⟨k + 1, by omega, by omega, by go_num, by rw [HTS.out]; exact h1, h2 _ _ (Nat.le_refl _) (Below.drew (hB.alloc hB.size _))⟩
          case measure => simp [intOf]; omega
      · have hd : (decide (k < len2) = false) ∨ (decide (k < len2) = true ∧ decide (k < len3) = false) := by simp; omega
        clear H2 H3 N2 N3 hlt
        have hlen := wordsTo_len l2 l3 k
        have hRow := HO.out.row
        obtain ⟨ra, rc, hv, _⟩ := hRow.len
        rw [hlen] at hv
        subst hv
        have HRow := Lib.hid hRow
        have HRng := Lib.hid (HR.out k)
        clear HO hRow HR hlen
        generalize wordsTo l2 l3 k = ws at *
        have cR := keep hB cW
        rcases hd with hd | ⟨hd, hd2⟩
        all_goals
          go_wp2_with fail
          refine (write_any x a4 _ _ _ _ HT.out hB g0 g1).mono ?_
          rintro ee w1 ⟨rfl, b1⟩
          have c1 := keep b1 cR
          have B1 := bl_next hB b1
          go_wp2_with fail
          refine (rwrite_any l _ x a4 _ (HL.out.later B1) g0 g1).mono ?_
          rintro ee w2 ⟨rfl, b2⟩
          have c2 := keep b2 c1
          have B2 := bl_next B1 b2
          generalize mayK (lookS l) x a4 = mk at *
          generalize mayN (lookS l) x a4 = mn at *
          have HRow2 := Lib.hid ((HRow.out.later b1).later b2)
          have HF := Lib.hid (fun w3 (h3 : Below w2.heap.size w2 w3) => (first_any ws _ a4 a5 _ _ w3 ((HT.out.later B2).later h3) (HRow2.out.later h3) HRng.out).mono fun e w' ⟨he, hb⟩ => (⟨he, bl_next h3 hb⟩ : _ ∧ Below w2.heap.size w2 w'))
          have HG := Lib.hid (fun w3 (h3 : Below w2.heap.size w2 w3) => (rfirst_any ws _ a4 a5 l _ w3 ((HL.out.later B2).later h3) (HRow2.out.later h3) HRng.out).mono fun e w' ⟨he, hb⟩ => (⟨he, bl_next h3 hb⟩ : _ ∧ Below w2.heap.size w2 w'))
          have HA := Lib.hid (fun w3 (h3 : Below w2.heap.size w2 w3) => (awake8_any w3).mono fun e w' ⟨he, hb⟩ => (⟨he, bl_next h3 hb⟩ : _ ∧ Below w2.heap.size w2 w'))
          have hq := Bool.eq_false_or_eq_true (!ws.any (barB (lookS l) a4 a5))
          generalize (!ws.any (barB (lookS l) a4 a5)) = q at *
          clear HT HL HRow HRow2 HRng c1 b1 b2 B1
          have e1 : (mk == mk) = true := by simp
          have e2 : (mn == mn) = true := by simp
          go_wp2_with fail
          refine wp_region_below (by kernel_rfl) (by kernel_rfl) ?_
          repeat (refine wpQuiet_step (fun K hK => ?_); go_simp; first | (refine hK _ ?_; clear hK K) | (refine ⟨_, fun _ _ => rfl, hK _ ?_⟩; clear hK K) | (apply Exists.intro; refine ⟨fun w3 hw3 => ?_, hK _ ?_⟩; (first | (go_at_call 17; exact HF.out _ hw3) | (go_at_call 23; exact HG.out _ hw3) | (go_at_call 18; exact HA.out _ hw3)); clear hK K) | (refine ⟨.slice a6 len6 cap6, fun w3 hw3 => ?_, hK _ ?_⟩; (have c3 := keep hw3 c2; go_simp); clear hK K))
          refine wpQuiet_nil ?_
          intro w3 hw3
          go_wp2_with fail
          go_ret
          exact ⟨rfl, bl_next (bl_next BW B2) hw3⟩

end Go.Proofs.Ytbiadeniplmkfaa
