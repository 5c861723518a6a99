/- What the laws of sweeping share: awake, Word, the document's dead, the closures that look into a list of told transactions. -/
import Derived.Test.YtjojbfgppgnmjaaN7
import Derived.Test.YtjojbfgppgnmjaaM0
namespace Go.Proofs.Ytjojbfgppgnmjaa
open Go.RowKit

def noneL : Int → Tx × Bool := fun _ => (Tx.zero, false)
theorem tells_nil (w : World) : Tells w .nilFunc noneL := .inl ⟨rfl, fun _ => rfl⟩
/-- A word of some kind by numbers. -/
def wordOf (k n : Int) : Int := if k % 4 = 0 then n % 32 else if k % 4 = 1 then 4611686018427387904 + n % 8 else if k % 4 = 2 then 2305843009213693952 else n
theorem wordOf_cases (k n : Int) : (k % 4 = 0 ∧ wordOf k n = n % 32) ∨ (k % 4 = 1 ∧ wordOf k n = 4611686018427387904 + n % 8) ∨ (k % 4 = 2 ∧ wordOf k n = 2305843009213693952) ∨ (k % 4 = 3 ∧ wordOf k n = n) := by
  unfold wordOf
  by_cases a : k % 4 = 0
  · simp [a]
  · by_cases b : k % 4 = 1
    · simp [b]
    · by_cases c : k % 4 = 2
      · simp [c]
      · rw [if_neg a, if_neg b, if_neg c]; omega
theorem wordOf_range (k n : Int) (h0 : 0 ≤ n) (h1 : n ≤ 18446744073709551615) : 0 ≤ wordOf k n ∧ wordOf k n ≤ 18446744073709551615 := by
  have := wordOf_cases k n; omega

set_option maxHeartbeats 400000 in
theorem word_any (k n : Int) (w : World) :
    Calls Try.prog 47 #[.int .i64 k, .int .u64 n] w fun e w' => e = .returned (.int .u64 (wordOf k n)) ∧ w = w' := by
  have m1 := i64_and3 k
  have m2 := u64_and31 n
  have m3 := u64_and7 n
  have HW := Lib.hid (wordOf_cases k n)
  go_enter Try.func47, Try.ntmps47
  go_wp2_with (go_at_call 17; refine (ref_forever _).mono ?_; rintro e w1 ⟨rfl, rfl⟩)
  all_goals
    go_ret
    have := HW.out
    simp only [beq_iff_eq, beq_eq_false_iff_ne, ne_eq] at *
    exact ⟨congrArg (fun x => Ending.returned (.int .u64 x)) (by omega), trivial⟩

set_option maxRecDepth 100000 in
set_option maxHeartbeats 800000 in
theorem rdead_any (l : List Oth) (v : Value) (b e low : Int) (w : World) (hl : OthAt w v l) (h0 : 0 ≤ b) (h1 : b ≤ 18446744073709551615) :
    Calls Try.prog 48 #[.int .u64 b, .int .u64 e, .int .u64 low, v] w fun r w' => r = .returned (.bool (deadB (lookS l) low b e)) ∧ Below w.heap.size w w' := by
  have HG := Lib.hid (rgarbage_any e low w)
  have HR := Lib.hid (ref_read b w h0 h1)
  have HT := Lib.hid (fun w1 n hb => look_any l v n w1 (hl.later hb))
  have hx := rd_ways b
  unfold deadB lostS
  clear hl
  generalize rdK b = rk at *
  generalize rdN b = n at *
  generalize garb e low = g at *
  cases g
  · rcases hx with ⟨rfl, hn, hm⟩ | ⟨rfl, hn, hm⟩ | ⟨rfl, hn⟩ | ⟨rfl, hn, hm⟩
    case inr.inl =>
      have HT' := Lib.hid (fun w1 hb => HT.out w1 n hb)
      clear HT
      generalize lookS l n = r at *
      obtain ⟨⟨lv, st, bg, en⟩, ok⟩ := r
      simp only [Tx.val] at *
      rcases Bool.eq_false_or_eq_true (st == 4) with e4 | e4 <;> rcases Bool.eq_false_or_eq_true (st == 5) with e5 | e5 <;> rcases Bool.eq_false_or_eq_true (en == 0) with e0 | e0 <;> cases ok
      all_goals
        rw [e4, e5, e0]
        go_enter Try.func48, Try.ntmps48
        go_wp2_with fail
        refine HG.out.mono ?_
        rintro r w1 ⟨rfl, rfl⟩
        go_wp2_with fail
        refine HR.out.mono ?_
        rintro r w1 ⟨rfl, hb1⟩
        have HB1 := Lib.hid (fun o => bl_alloc hb1 o)
        go_wp2_with fail
        refine (HT'.out _ (HB1.out _)).mono ?_
        rintro r w2 ⟨rfl, hb2⟩
        go_wp2_with fail
        go_ret
        exact ⟨rfl, bl_alloc (bl_next (HB1.out _) hb2) _⟩
    all_goals
      go_enter Try.func48, Try.ntmps48
      go_wp2_with fail
      refine HG.out.mono ?_
      rintro r w1 ⟨rfl, rfl⟩
      go_wp2_with fail
      refine HR.out.mono ?_
      rintro r w1 ⟨rfl, hb1⟩
      go_wp2_with fail
      go_ret
      exact ⟨rfl, bl_alloc hb1 _⟩
  · go_enter Try.func48, Try.ntmps48
    go_wp2_with fail
    refine HG.out.mono ?_
    rintro r w1 ⟨rfl, rfl⟩
    go_wp2_with fail
    go_ret
    exact ⟨rfl, Below.refl _ _⟩

theorem cell_lt0 {w : World} {b o : Nat} {v : Value} (h : w.cell? ⟨b, o, none⟩ = some v) : b < w.heap.size := by
  refine Decidable.byContradiction fun hn => ?_
  have : w.heap[b]? = none := Array.getElem?_eq_none (by omega)
  simp [World.cell?, this] at h

set_option maxHeartbeats 400000 in
theorem sweepTellsClo_any (l : List Oth) (v : Value) (id : Int) (b : Nat) (w : World) (hc : w.cell? ⟨b, 0, none⟩ = some v) (hl : OthAt w v l) :
    Calls Try.prog 45 #[.int .i64 id, .pointer (some ⟨b, 0, none⟩)] w fun e w' => e = .returned (.tuple #[(lookS l id).1.val, .bool (lookS l id).2]) ∧ Below w.heap.size w w' := by
  have HL := Lib.hid (look_any l v id (w.alloc (.cells #[.int .i64 0, .int .i64 0, .int .u64 0, .int .u64 0] 75)) (hl.later (bl_alloc (Below.refl _ _) _)))
  have hbl := cell_lt0 hc
  clear hl
  generalize lookS l id = r at *
  obtain ⟨⟨lv, st, bg, en⟩, ok⟩ := r
  simp only [Tx.val] at *
  go_enter Try.func45, Try.ntmps45
  go_wp2_with fail
  refine HL.out.mono ?_
  rintro e w1 ⟨rfl, hb1⟩
  obtain ⟨hc1, hf1⟩ := bcell hb1
  have hz1 : w.heap.size < w1.heap.size := by have := hb1.size; simp at this; omega
  simp only [World.size_alloc] at hc1 hf1
  go_wp2_with fail
  refine bodyPost_ret (v := .tuple #[.agg #[.int .i64 lv, .int .i64 st, .int .u64 bg, .int .u64 en], .bool ok]) (by simp [results, Try.results45, go_sem, hc1]) rfl ⟨rfl, ?_⟩
  have hB : Below w.heap.size w w1 := bl_next (bl_alloc (Below.refl _ _) _) hb1
  repeat (with_reducible (first | refine Below.drew ?_ | refine Below.setCell ?_ (by simp) _ | refine bl_alloc ?_ _ | exact hB))
theorem sweepTellsClo_tells (l : List Oth) (v : Value) (b : Nat) (w : World) (hc : w.cell? ⟨b, 0, none⟩ = some v) (hl : OthAt w v l) :
    Tells w (.func (.func 45) #[] #[.pointer (some ⟨b, 0, none⟩)]) (lookS l) :=
  .inr ⟨_, _, rfl, fun _ _ => by kernel_rfl, fun w1 id hb => sweepTellsClo_any l v id b w1 ((hb.cell (p := ⟨b, 0, none⟩) (cell_lt0 hc)).trans hc) (hl.later hb)⟩

set_option maxHeartbeats 400000 in
theorem sweepUnseenClo_any (l : List Oth) (v : Value) (id : Int) (b : Nat) (w : World) (hc : w.cell? ⟨b, 0, none⟩ = some v) (hl : OthAt w v l) :
    Calls Try.prog 50 #[.int .i64 id, .pointer (some ⟨b, 0, none⟩)] w fun e w' => e = .returned (.tuple #[(lookS l id).1.val, .bool (lookS l id).2]) ∧ Below w.heap.size w w' := by
  have HL := Lib.hid (look_any l v id (w.alloc (.cells #[.int .i64 0, .int .i64 0, .int .u64 0, .int .u64 0] 75)) (hl.later (bl_alloc (Below.refl _ _) _)))
  have hbl := cell_lt0 hc
  clear hl
  generalize lookS l id = r at *
  obtain ⟨⟨lv, st, bg, en⟩, ok⟩ := r
  simp only [Tx.val] at *
  go_enter Try.func50, Try.ntmps50
  go_wp2_with fail
  refine HL.out.mono ?_
  rintro e w1 ⟨rfl, hb1⟩
  obtain ⟨hc1, hf1⟩ := bcell hb1
  have hz1 : w.heap.size < w1.heap.size := by have := hb1.size; simp at this; omega
  simp only [World.size_alloc] at hc1 hf1
  go_wp2_with fail
  refine bodyPost_ret (v := .tuple #[.agg #[.int .i64 lv, .int .i64 st, .int .u64 bg, .int .u64 en], .bool ok]) (by simp [results, Try.results50, go_sem, hc1]) rfl ⟨rfl, ?_⟩
  have hB : Below w.heap.size w w1 := bl_next (bl_alloc (Below.refl _ _) _) hb1
  repeat (with_reducible (first | refine Below.drew ?_ | refine Below.setCell ?_ (by simp) _ | refine bl_alloc ?_ _ | exact hB))
theorem sweepUnseenClo_tells (l : List Oth) (v : Value) (b : Nat) (w : World) (hc : w.cell? ⟨b, 0, none⟩ = some v) (hl : OthAt w v l) :
    Tells w (.func (.func 50) #[] #[.pointer (some ⟨b, 0, none⟩)]) (lookS l) :=
  .inr ⟨_, _, rfl, fun _ _ => by kernel_rfl, fun w1 id hb => sweepUnseenClo_any l v id b w1 ((hb.cell (p := ⟨b, 0, none⟩) (cell_lt0 hc)).trans hc) (hl.later hb)⟩

set_option maxRecDepth 100000 in
set_option maxHeartbeats 1600000 in
theorem awake22_any (w : World) : Calls Try.prog 44 #[] w fun e w' => e = .returned (.bool true) ∧ Below w.heap.size w w' := by
  have HM := Lib.hid (cw_made (Sep.nil w) 4 (by decide) (by decide) (fun _ => ver0))
  go_enter Try.func44, Try.ntmps44
  go_wp2_with fail
  refine HM.out.mono ?_
  rintro e w1 ⟨cb, sb, ab, rfl, hW⟩
  have H1 := Lib.hid hW
  clear hW HM
  go_wp2_with fail
  refine (cw_make H1.out (key := 1) (v := 1) (x := 1) (y := 3) (by decide) (by decide) (by decide) (by decide) (by decide)).mono ?_
  rintro e w2 ⟨a, rfl, _, _, a0, a1, hW⟩
  have H2 := Lib.hid hW
  clear hW H1
  go_wp2_with fail
  refine (cw_make H2.out (key := 1) (v := 2) (x := 3) (y := 9) (by simp) (by decide) (by decide) (by decide) (by decide)).mono ?_
  rintro e w3 ⟨b, rfl, hb, _, b0, b1, hW⟩
  have hne : ¬ b = a := by simpa using hb
  have HNE := Lib.hid hne
  have H3 := Lib.hid hW
  clear hW H2 hb hne
  go_wp2_with fail
  refine (cw_push H3.out (z := a) (by simp) (by simp)).mono ?_
  rintro e w5 ⟨rfl, hW⟩
  have H5 := Lib.hid hW
  clear hW H3
  go_wp2_with fail
  refine (cw_push H5.out (z := b) (by simp) (by simpa using HNE.out)).mono ?_
  rintro e w6 ⟨rfl, hW⟩
  have HC := Lib.hid (sweep_chain hW 5 .nilFunc _ (deadIs 5 (by
    intro z hz
    rcases List.mem_cons.1 hz with rfl | hz
    · simp [Ver.wf]
    · simp at hz
      subst hz
      simp only [if_true, Ver.wf]
      split <;> exact ⟨by decide, by decide, by decide, by decide⟩) (fun W' _ _ _ _ _ => tells_nil W')) (by decide) (by simp))
  have hf1 : [b, a].filter (fun z => deadB noneL 5 ((fun x => if x = b then (⟨1, 2, 3, 9, 0⟩ : Ver) else (fun x => if x = a then (⟨1, 1, 1, 3, 0⟩ : Ver) else ver0) x) z).beg ((fun x => if x = b then (⟨1, 2, 3, 9, 0⟩ : Ver) else (fun x => if x = a then (⟨1, 1, 1, 3, 0⟩ : Ver) else ver0) x) z).en) = [a] := by
    have h2 : ¬ a = b := fun h => HNE.out h.symm
    simp [h2, show deadB noneL 5 3 9 = false by decide, show deadB noneL 5 1 3 = true by decide]
  have hf2 : [b, a].filter (fun z => !(deadB noneL 5 ((fun x => if x = b then (⟨1, 2, 3, 9, 0⟩ : Ver) else (fun x => if x = a then (⟨1, 1, 1, 3, 0⟩ : Ver) else ver0) x) z).beg ((fun x => if x = b then (⟨1, 2, 3, 9, 0⟩ : Ver) else (fun x => if x = a then (⟨1, 1, 1, 3, 0⟩ : Ver) else ver0) x) z).en)) = [b] := by
    have h2 : ¬ a = b := fun h => HNE.out h.symm
    simp [h2, show deadB noneL 5 3 9 = false by decide, show deadB noneL 5 1 3 = true by decide]
  rw [hf1, hf2] at HC
  clear hf1 hf2 hW H5
  go_wp2_with fail
  refine HC.out.mono ?_
  rintro e w7 ⟨live', gone', rfl, hW, hlen, _⟩
  have H7 := Lib.hid hW
  have HLN := Lib.hid (show live'.length = 1 by simpa using hlen)
  clear hW hlen HC
  go_wp2_with fail
  refine (chain_none _ _ _ _).mono ?_
  rintro e w8 ⟨rfl, rfl⟩
  go_wp2_with fail
  refine (cw_links H7.out).mono ?_
  rintro e w9 ⟨la, lc, rfl, hW⟩
  have H9 := Lib.hid hW
  clear hW H7
  go_wp2_with fail
  have hO2 : Owned .u64 28 (w9.alloc (.cells #[.int .u64 b] 28)) (.slice (some ⟨w9.heap.size, 0, none⟩) 1 1) [b] := owned_blk (l := [b]) (blk_new _ _) (by simp [maxLen])
  have hW := H9.out.later ((Below.refl _ _).alloc (Nat.le_refl _) (.cells #[.int .u64 b] 28))
  refine (rows_same _ _ [b] _ hW.first hO2 (by simp)).mono ?_
  rintro e w10 ⟨rfl, b10⟩
  have H10 := Lib.hid (hW.later b10)
  clear hW hO2 b10 H9
  go_wp2_with fail
  refine (cw_used H10.out).mono ?_
  rintro e w11 ⟨rfl, hW⟩
  rw [HLN.out]
  have H11 := Lib.hid hW.bel
  clear hW H10
  go_wp2_with fail
  go_ret
  exact ⟨rfl, H11.out⟩
end Go.Proofs.Ytjojbfgppgnmjaa
