/- What the laws of layer 7 share: awake, Word, the closures that look into a list of told transactions. -/
import Derived.Test.YtbiadeniplmkfaaA3
import Derived.Test.YtbiadeniplmkfaaB1
import Derived.Test.YtbiadeniplmkfaaM0
namespace Go.Proofs.Ytbiadeniplmkfaa
open Go.RowKit

def noneL : Int → Tx × Bool := fun _ => (Tx.zero, false)
theorem tells_nil (w : World) : Tells w .nilFunc noneL := .inl ⟨rfl, fun _ => rfl⟩

set_option maxHeartbeats 400000 in
theorem forever_any (w : World) : Calls Try.prog 28 #[] w fun e w' => e = .returned (.int .u64 2305843009213693952) ∧ w = w' := by
  go_enter Try.func28, Try.ntmps28
  go_wp2_with fail
  go_ret
  exact ⟨rfl, rfl⟩

theorem RowAt.nil_len {k : IntKind} {w : World} {v : Value} (h : RowAt k w v []) : ∃ a cap, v = .slice a 0 cap := by
  rcases h with ⟨_, a, cap, rfl, _⟩ | ⟨b, off, cap, rfl, _⟩
  · exact ⟨a, cap, rfl⟩
  · exact ⟨_, _, rfl⟩

set_option maxHeartbeats 400000 in
theorem awake7_any (w : World) : Calls Try.prog 29 #[] w fun e w' => e = .returned (.bool true) ∧ Below w.heap.size w w' := by
  have HS := Lib.hid (see_any 3 2305843009213693952 1 5 .nilFunc noneL w w (tells_nil w) (Below.refl _ _) (by decide) (by decide) (by decide) (by decide))
  rw [show seeK noneL 3 2305843009213693952 1 5 = 1 by decide, show seeL noneL 3 2305843009213693952 1 5 = [] by decide] at HS
  go_enter Try.func29, Try.ntmps29
  go_wp2_with (go_at_call 28; refine (forever_any _).mono ?_; rintro e w1 ⟨rfl, rfl⟩)
  refine HS.out.mono ?_
  rintro e w1 ⟨sv, rfl, hi, hb⟩
  obtain ⟨a, cap, rfl⟩ := hi.nil_len
  go_wp2_with fail
  go_ret
  exact ⟨rfl, hb⟩

/-- A word of some kind by numbers. -/
def wordOf (k n : Int) : Int := if k % 4 = 0 then n % 32 else if k % 4 = 1 then 4611686018427387904 + n % 8 else if k % 4 = 2 then 2305843009213693952 else n
theorem wordOf_cases (k n : Int) : (k % 4 = 0 ∧ wordOf k n = n % 32) ∨ (k % 4 = 1 ∧ wordOf k n = 4611686018427387904 + n % 8) ∨ (k % 4 = 2 ∧ wordOf k n = 2305843009213693952) ∨ (k % 4 = 3 ∧ wordOf k n = n) := by
  unfold wordOf
  by_cases a : k % 4 = 0
  · simp [a]
  · by_cases b : k % 4 = 1
    · simp [b]
    · by_cases c : k % 4 = 2
      · simp [c]
      · rw [if_neg a, if_neg b, if_neg c]; omega
theorem wordOf_range (k n : Int) (h0 : 0 ≤ n) (h1 : n ≤ 18446744073709551615) : 0 ≤ wordOf k n ∧ wordOf k n ≤ 18446744073709551615 := by
  have := wordOf_cases k n; omega

set_option maxHeartbeats 400000 in
theorem word_any (k n : Int) (w : World) :
    Calls Try.prog 19 #[.int .i64 k, .int .u64 n] w fun e w' => e = .returned (.int .u64 (wordOf k n)) ∧ w = w' := by
  have m1 := i64_and3 k
  have m2 := u64_and31 n
  have m3 := u64_and7 n
  have HW := Lib.hid (wordOf_cases k n)
  go_enter Try.func19, Try.ntmps19
  go_wp2_with (go_at_call 28; refine (forever_any _).mono ?_; rintro e w1 ⟨rfl, rfl⟩)
  all_goals
    go_ret
    have := HW.out
    simp only [beq_iff_eq, beq_eq_false_iff_ne, ne_eq] at *
    exact ⟨congrArg (fun x => Ending.returned (.int .u64 x)) (by omega), trivial⟩

theorem cell_lt0 {w : World} {b o : Nat} {v : Value} (h : w.cell? ⟨b, o, none⟩ = some v) : b < w.heap.size := by
  refine Decidable.byContradiction fun hn => ?_
  have : w.heap[b]? = none := Array.getElem?_eq_none (by omega)
  simp [World.cell?, this] at h

theorem keep {W w1 : World} (hb : Below W.heap.size W w1) {b o : Nat} {v : Value} (hc : W.cell? ⟨b, o, none⟩ = some v) : w1.cell? ⟨b, o, none⟩ = some v := (hb.cell (p := ⟨b, o, none⟩) (cell_lt0 hc)).trans hc
theorem Tells.later {W w1 : World} {lk : Value} {L : Int → Tx × Bool} (h : Tells W lk L) (hb : Below W.heap.size W w1) : Tells w1 lk L := by
  rcases h with h | ⟨f, caps, h1, h2, h3⟩
  · exact .inl h
  · exact .inr ⟨f, caps, h1, h2, fun w2 id h => h3 w2 id (bl_next hb h)⟩

set_option maxHeartbeats 400000 in
theorem seeTellsClo_any (l : List Oth) (v : Value) (id : Int) (b : Nat) (w : World) (hc : w.cell? ⟨b, 0, none⟩ = some v) (hl : OthAt w v l) :
    Calls Try.prog 35 #[.int .i64 id, .pointer (some ⟨b, 0, none⟩)] w fun e w' => e = .returned (.tuple #[(lookS l id).1.val, .bool (lookS l id).2]) ∧ Below w.heap.size w w' := by
  have HL := Lib.hid (look_any l v id (w.alloc (.cells #[.int .i64 0, .int .i64 0, .int .u64 0, .int .u64 0] 24)) (hl.later (bl_alloc (Below.refl _ _) _)))
  have hbl := cell_lt0 hc
  clear hl
  generalize lookS l id = r at *
  obtain ⟨⟨lv, st, bg, en⟩, ok⟩ := r
  simp only [Tx.val] at *
  go_enter Try.func35, Try.ntmps35
  go_wp2_with fail
  refine HL.out.mono ?_
  rintro e w1 ⟨rfl, hb1⟩
  obtain ⟨hc1, hf1⟩ := bcell hb1
  have hz1 : w.heap.size < w1.heap.size := by have := hb1.size; simp at this; omega
  simp only [World.size_alloc] at hc1 hf1
  go_wp2_with fail
  refine bodyPost_ret (v := .tuple #[.agg #[.int .i64 lv, .int .i64 st, .int .u64 bg, .int .u64 en], .bool ok]) (by simp [results, Try.results35, go_sem, hc1]) rfl ⟨rfl, ?_⟩
  have hB : Below w.heap.size w w1 := bl_next (bl_alloc (Below.refl _ _) _) hb1
  repeat (with_reducible (first | refine Below.drew ?_ | refine Below.setCell ?_ (by simp) _ | refine bl_alloc ?_ _ | exact hB))

theorem seeTellsClo_tells (l : List Oth) (v : Value) (b : Nat) (w : World) (hc : w.cell? ⟨b, 0, none⟩ = some v) (hl : OthAt w v l) :
    Tells w (.func (.func 35) #[] #[.pointer (some ⟨b, 0, none⟩)]) (lookS l) :=
  .inr ⟨_, _, rfl, fun _ _ => by kernel_rfl, fun w1 id hb => seeTellsClo_any l v id b w1 ((hb.cell (p := ⟨b, 0, none⟩) (cell_lt0 hc)).trans hc) (hl.later hb)⟩

set_option maxHeartbeats 400000 in
theorem seeTurnedClo_any (l : List Oth) (v : Value) (id : Int) (b : Nat) (w : World) (hc : w.cell? ⟨b, 0, none⟩ = some v) (hl : OthAt w v l) :
    Calls Try.prog 30 #[.int .i64 id, .pointer (some ⟨b, 0, none⟩)] w fun e w' => e = .returned (.tuple #[(lookS l id).1.val, .bool (lookS l id).2]) ∧ Below w.heap.size w w' := by
  have HL := Lib.hid (look_any l v id (w.alloc (.cells #[.int .i64 0, .int .i64 0, .int .u64 0, .int .u64 0] 24)) (hl.later (bl_alloc (Below.refl _ _) _)))
  have hbl := cell_lt0 hc
  clear hl
  generalize lookS l id = r at *
  obtain ⟨⟨lv, st, bg, en⟩, ok⟩ := r
  simp only [Tx.val] at *
  go_enter Try.func30, Try.ntmps30
  go_wp2_with fail
  refine HL.out.mono ?_
  rintro e w1 ⟨rfl, hb1⟩
  obtain ⟨hc1, hf1⟩ := bcell hb1
  have hz1 : w.heap.size < w1.heap.size := by have := hb1.size; simp at this; omega
  simp only [World.size_alloc] at hc1 hf1
  go_wp2_with fail
  refine bodyPost_ret (v := .tuple #[.agg #[.int .i64 lv, .int .i64 st, .int .u64 bg, .int .u64 en], .bool ok]) (by simp [results, Try.results30, go_sem, hc1]) rfl ⟨rfl, ?_⟩
  have hB : Below w.heap.size w w1 := bl_next (bl_alloc (Below.refl _ _) _) hb1
  repeat (with_reducible (first | refine Below.drew ?_ | refine Below.setCell ?_ (by simp) _ | refine bl_alloc ?_ _ | exact hB))

theorem seeTurnedClo_tells (l : List Oth) (v : Value) (b : Nat) (w : World) (hc : w.cell? ⟨b, 0, none⟩ = some v) (hl : OthAt w v l) :
    Tells w (.func (.func 30) #[] #[.pointer (some ⟨b, 0, none⟩)]) (lookS l) :=
  .inr ⟨_, _, rfl, fun _ _ => by kernel_rfl, fun w1 id hb => seeTurnedClo_any l v id b w1 ((hb.cell (p := ⟨b, 0, none⟩) (cell_lt0 hc)).trans hc) (hl.later hb)⟩
end Go.Proofs.Ytbiadeniplmkfaa
