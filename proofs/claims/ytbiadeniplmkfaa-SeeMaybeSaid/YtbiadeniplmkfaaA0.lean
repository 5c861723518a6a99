/- Words and stamps: the contracts of both readers of a word (program's and document's), of 'Told', over any teller. No condition. -/
import Derived.Test.YtbiadeniplmkfaaRows
import Derived.WalkKit
import Derived.WalkSpells
import Derived.WalkLawsBesides
import Derived.Lib.Hide
import Derived.Deep.QuietTactic
import Derived.BigQuiet
namespace Go.Proofs.Ytbiadeniplmkfaa
open Go.RowKit

theorem bcell {W w1 : World} {B : Nat} (hb : Below B W w1) : (∀ b o, b < B → w1.cell? ⟨b, o, none⟩ = W.cell? ⟨b, o, none⟩) ∧ (∀ b o, b < B → w1.frozen? ⟨b, o, none⟩ = W.frozen? ⟨b, o, none⟩) :=
  ⟨fun b o h => hb.cell (p := ⟨b, o, none⟩) h, fun b o h => hb.frozen (p := ⟨b, o, none⟩) h⟩

theorem bl_alloc {a w : World} (h : Below a.heap.size a w) (o : Obj) : Below a.heap.size a (w.alloc o) := h.alloc h.size o
theorem bl_next {a w w1 : World} (h : Below a.heap.size a w) (k : Below w.heap.size w w1) : Below a.heap.size a w1 := h.trans (k.mono h.size)

/-- What a word says: kind and number. -/
def rdK (x : Int) : Int := if x ≤ 1099511627776 then 1 else if x = 2305843009213693952 then 3 else if 4611686018427387904 < x ∧ x ≤ 4611686018427453439 then 2 else 0
def rdN (x : Int) : Int := if x ≤ 1099511627776 then x else if x = 2305843009213693952 then 0 else if 4611686018427387904 < x ∧ x ≤ 4611686018427453439 then x - 4611686018427387904 else 0

theorem rd_cases (x : Int) : (x ≤ 1099511627776 ∧ rdK x = 1 ∧ rdN x = x) ∨ (x = 2305843009213693952 ∧ rdK x = 3 ∧ rdN x = 0) ∨ (4611686018427387904 < x ∧ x ≤ 4611686018427453439 ∧ rdK x = 2 ∧ rdN x = x - 4611686018427387904) ∨ (1099511627776 < x ∧ x ≠ 2305843009213693952 ∧ ¬ (4611686018427387904 < x ∧ x ≤ 4611686018427453439) ∧ rdK x = 0 ∧ rdN x = 0) := by
  unfold rdK rdN
  by_cases a : x ≤ 1099511627776
  · simp [a]
  · by_cases b : x = 2305843009213693952
    · simp [b]
    · by_cases c : 4611686018427387904 < x ∧ x ≤ 4611686018427453439
      · simp [a, b, c]
      · simp [a, b, c]; omega

theorem agg2 {k l : IntKind} {a b c d : Int} (h : a = c) (g : b = d) : Ending.returned (.agg #[.int k a, .int l b]) = Ending.returned (.agg #[.int k c, .int l d]) := by rw [h, g]

set_option maxHeartbeats 400000 in
theorem word_read (x : Int) (w : World) (h0 : 0 ≤ x) (h1 : x ≤ 18446744073709551615) :
    Calls Try.prog 43 #[.int .u64 x] w fun e w' => e = .returned (.agg #[.int .i64 (rdK x), .int .u64 (rdN x)]) ∧ Below w.heap.size w w' := by
  have hc := Lib.hid (rd_cases x)
  go_enter Try.func43, Try.ntmps43
  go_wp2
  all_goals
    refine bodyPost_ret (v := .agg #[.int .i64 (rdK x), .int .u64 (rdN x)]) ?_ rfl ⟨rfl, ?_⟩
    · have := hc.out
      simp [results, Try.results43, go_sem]
      simp only [beq_iff_eq, beq_eq_false_iff_ne, ne_eq] at *
      omega
    · exact (Below.refl _ _).alloc (Nat.le_refl _) _

set_option maxHeartbeats 400000 in
theorem ref_read (x : Int) (w : World) (h0 : 0 ≤ x) (h1 : x ≤ 18446744073709551615) :
    Calls Try.prog 42 #[.int .u64 x] w fun e w' => e = .returned (.agg #[.int .i64 (rdK x), .int .u64 (rdN x)]) ∧ Below w.heap.size w w' := by
  have hc := Lib.hid (rd_cases x)
  go_enter Try.func42, Try.ntmps42
  go_wp2
  all_goals
    refine bodyPost_ret (v := .agg #[.int .i64 (rdK x), .int .u64 (rdN x)]) ?_ rfl ⟨rfl, ?_⟩
    · have := hc.out
      simp [results, Try.results42, go_sem]
      simp only [beq_iff_eq, beq_eq_false_iff_ne, ne_eq] at *
      omega
    · exact (Below.refl _ _).alloc (Nat.le_refl _) _

/-- Whether a time has come. -/
def pastK (t a : Int) : Int := if t ≤ a then 1 else 2
theorem pastK_yes {t a : Int} (h : t ≤ a) : pastK t a = 1 := by unfold pastK; rw [if_pos h]
theorem pastK_no {t a : Int} (h : a < t) : pastK t a = 2 := by unfold pastK; rw [if_neg (by omega)]
theorem ret_int {k : IntKind} {a b : Int} (h : a = b) : Ending.returned (.int k a) = .returned (.int k b) := by rw [h]

set_option maxHeartbeats 400000 in
theorem past_any (t a : Int) (w : World) :
    Calls Try.prog 51 #[.int .u64 t, .int .u64 a] w fun e w' => e = .returned (.int .i64 (pastK t a)) ∧ w = w' := by
  go_enter Try.func51, Try.ntmps51
  go_wp2
  · go_ret
    rename_i h
    exact ⟨ret_int (pastK_yes h).symm, rfl⟩
  · go_ret
    rename_i h
    exact ⟨ret_int (pastK_no h).symm, rfl⟩

/-- A transaction as it is told. -/
structure Tx where
  lv : Int
  st : Int
  bg : Int
  en : Int
def Tx.val (t : Tx) : Value := .agg #[.int .i64 t.lv, .int .i64 t.st, .int .u64 t.bg, .int .u64 t.en]
def Tx.zero : Tx := ⟨0, 0, 0, 0⟩
/-- What a teller is: nil, or a function value that answers in whatever later world. -/
def Tells (w0 : World) (lk : Value) (L : Int → Tx × Bool) : Prop :=
  (lk = .nilFunc ∧ ∀ id, L id = (Tx.zero, false)) ∨
  ∃ f caps, lk = .func (.func f) #[] caps ∧ (∀ args w, (callFunc f args).run Try.prog w = .ok (.enter f args) w) ∧ ∀ w1 id, Below w0.heap.size w0 w1 →
    Calls Try.prog f (#[.int .i64 id] ++ caps) w1 fun e w2 => e = .returned (.tuple #[(L id).1.val, .bool (L id).2]) ∧ Below w1.heap.size w1 w2
def toldS (L : Int → Tx × Bool) (id : Int) : Tx × Bool := ((L id).1, (L id).2 && ((L id).1.st != 5))

set_option maxHeartbeats 400000 in
theorem told_any (n : Int) (lk : Value) (L : Int → Tx × Bool) (w0 w : World) (ht : Tells w0 lk L) (hw : Below w0.heap.size w0 w) (h0 : 0 ≤ n) (h1 : n ≤ 65535) :
    Calls Try.prog 44 #[.int .u64 n, lk] w fun e w' => e = .returned (.tuple #[(toldS L n).1.val, .bool (toldS L n).2]) ∧ Below w.heap.size w w' := by
  rcases ht with ⟨rfl, hz⟩ | ⟨f, caps, rfl, hcf, hc⟩
  · have hz' := Lib.hid (hz n)
    clear hz
    have hrun : ∀ w : World, (binOp .eql 25 .nilFunc .nilFunc).run Try.prog w = .ok (.bool true) w := fun w => by kernel_rfl
    go_enter Try.func44, Try.ntmps44
    go_wp2_with fail
    refine bodyPost_ret (v := .tuple #[Tx.zero.val, .bool false]) (by simp [results, Try.results44, go_sem, Tx.zero, Tx.val]) rfl ⟨?_, (Below.refl _ _).alloc (Nat.le_refl _) _⟩
    simp [toldS, hz'.out]
  · have hc' : ∀ w1, Below w0.heap.size w0 w1 → Calls Try.prog f (#[.int .i64 n] ++ caps) w1 fun e w2 => e = .returned (.tuple #[(L n).1.val, .bool (L n).2]) ∧ Below w1.heap.size w1 w2 := fun w1 h => hc w1 n h
    clear hc
    unfold toldS
    generalize L n = r at *
    obtain ⟨⟨lv, st, bg, en⟩, ok⟩ := r
    simp only [Tx.val] at *
    have HC := Lib.hid hc'
    clear hc'
    have hrun : ∀ w : World, (binOp .eql 25 (.func (.func f) #[] caps) .nilFunc).run Try.prog w = .ok (.bool false) w := fun w => by kernel_rfl
    have e5 : (st != 5) = true ∨ (st != 5) = false := by cases (st != 5) <;> simp
    rcases e5 with e5 | e5 <;> cases ok
    all_goals
      go_enter Try.func44, Try.ntmps44
      go_wp2_with fail
      refine (HC.out _ (hw.alloc (by have := hw.size; omega) _)).mono ?_
      rintro e w1 ⟨rfl, hb1⟩
      obtain ⟨hc1, hf1⟩ := bcell hb1
      have hz1 : w.heap.size < w1.heap.size := by have := hb1.size; simp at this; omega
      simp only [World.size_alloc] at hc1 hf1
      go_wp2_with fail
      go_region
      go_wp2_with fail
      refine bodyPost_ret (v := .tuple #[.agg #[.int .i64 lv, .int .i64 st, .int .u64 bg, .int .u64 en], .bool _]) (by simp [results, Try.results44, go_sem, hc1, hz1]; rfl) rfl ⟨?_, ?_⟩
      · first | (simp; done) | (simp [e5]; done)
      · have hB : Below w.heap.size w w1 := ((Below.refl _ _).alloc (Nat.le_refl _) _).trans (hb1.mono (by simp))
        repeat (with_reducible (first | refine Below.drew ?_ | refine Below.setCell ?_ (by simp) _ | refine bl_alloc ?_ _ | exact hB))
end Go.Proofs.Ytbiadeniplmkfaa
