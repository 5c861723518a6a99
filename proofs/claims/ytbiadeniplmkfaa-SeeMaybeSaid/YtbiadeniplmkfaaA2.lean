/- The document's answer: Look, by, Begin, End, See compute what the program's do; SameInts compares two rows. -/
import Derived.Test.YtbiadeniplmkfaaA1
import Derived.LoopTactic
namespace Go.Proofs.Ytbiadeniplmkfaa
open Go.RowKit

/-- What is told of a transaction. -/
structure Oth where
  there : Bool
  tx : Tx
def zeroOth : Oth := ⟨false, Tx.zero⟩
/-- A slice of such, in memory. -/
def OthAt (w : World) (v : Value) (l : List Oth) : Prop := (l = [] ∧ ∃ a cap, v = .slice a 0 cap ∧ (a = none → cap = 0)) ∨ ∃ b off cap, v = .slice (some ⟨b, off, none⟩) l.length cap ∧ l.length ≤ cap ∧ l.length ≤ maxLen ∧ b < w.heap.size ∧ ∀ i, i < l.length →
  w.cell? ⟨b, off + i * 5, none⟩ = some (.bool (l.getD i zeroOth).there) ∧ w.cell? ⟨b, off + i * 5 + 1, none⟩ = some (.int .i64 (l.getD i zeroOth).tx.lv) ∧ w.cell? ⟨b, off + i * 5 + 2, none⟩ = some (.int .i64 (l.getD i zeroOth).tx.st) ∧
  w.cell? ⟨b, off + i * 5 + 3, none⟩ = some (.int .u64 (l.getD i zeroOth).tx.bg) ∧ w.cell? ⟨b, off + i * 5 + 4, none⟩ = some (.int .u64 (l.getD i zeroOth).tx.en)
theorem OthAt.later {w w1 : World} {v : Value} {l : List Oth} (h : OthAt w v l) (hb : Below w.heap.size w w1) : OthAt w1 v l := by
  rcases h with h | ⟨b, off, cap, hv, hlc, hm, hl, hc⟩
  · exact .inl h
  · exact .inr ⟨b, off, cap, hv, hlc, hm, Nat.lt_of_lt_of_le hl hb.size, fun i hi =>
      ⟨(hb.cell (p := ⟨b, _, none⟩) hl).trans (hc i hi).1, (hb.cell (p := ⟨b, _, none⟩) hl).trans (hc i hi).2.1, (hb.cell (p := ⟨b, _, none⟩) hl).trans (hc i hi).2.2.1, (hb.cell (p := ⟨b, _, none⟩) hl).trans (hc i hi).2.2.2.1, (hb.cell (p := ⟨b, _, none⟩) hl).trans (hc i hi).2.2.2.2⟩⟩

def lookS (l : List Oth) (id : Int) : Tx × Bool := if 1 ≤ id ∧ id ≤ l.length ∧ (l.getD (id - 1).toNat zeroOth).there = true then ((l.getD (id - 1).toNat zeroOth).tx, true) else (Tx.zero, false)

set_option maxHeartbeats 400000 in
theorem look_any (l : List Oth) (v : Value) (id : Int) (w : World) (hl : OthAt w v l) :
    Calls Try.prog 21 #[v, .int .i64 id] w fun e w' => e = .returned (.tuple #[(lookS l id).1.val, .bool (lookS l id).2]) ∧ Below w.heap.size w w' := by
  rcases hl with ⟨rfl, aa, ac, rfl, _⟩ | ⟨b, off, cap, rfl, _, hm, hb, hc⟩
  · have hz : lookS [] id = (Tx.zero, false) := by unfold lookS; rw [if_neg (by simp; omega)]
    rw [hz]
    clear hz
    go_enter Try.func21, Try.ntmps21
    go_wp2
    all_goals
      refine bodyPost_ret (v := .tuple #[Tx.zero.val, .bool false]) (by simp [results, Try.results21, go_sem, Tx.zero, Tx.val]) rfl ⟨rfl, (Below.refl _ _).alloc (Nat.le_refl _) _⟩
  · by_cases hin : 1 ≤ id ∧ id ≤ l.length
    · obtain ⟨k, rfl⟩ : ∃ k : Nat, id = (k : Int) + 1 := ⟨(id - 1).toNat, by omega⟩
      have hk : k < l.length := by omega
      have hz : lookS l ((k : Int) + 1) = if (l.getD k zeroOth).there = true then ((l.getD k zeroOth).tx, true) else (Tx.zero, false) := by
        unfold lookS
        rw [show (((k : Int) + 1 - 1).toNat) = k by omega]
        by_cases h : (l.getD k zeroOth).there = true
        · rw [if_pos ⟨by omega, by omega, h⟩, if_pos h]
        · rw [if_neg (fun x => h x.2.2), if_neg h]
      rw [hz]
      clear hz
      have hcc := hc k hk
      clear hc
      generalize l.getD k zeroOth = o at *
      obtain ⟨th, lv, st, bg, en⟩ := o
      obtain ⟨c0, c1, c2, c3, c4⟩ := hcc
      unfold maxLen at hm
      generalize l.length = n at *
      cases th
      all_goals
        go_enter Try.func21, Try.ntmps21
        go_wp2
      · refine bodyPost_ret (v := .tuple #[Tx.zero.val, .bool false]) (by simp [results, Try.results21, go_sem, Tx.zero, Tx.val]) rfl ⟨rfl, (Below.refl _ _).alloc (Nat.le_refl _) _⟩
      · refine bodyPost_ret (v := .tuple #[.agg #[.int .i64 lv, .int .i64 st, .int .u64 bg, .int .u64 en], .bool true]) (by simp [results, Try.results21, go_sem]) rfl ⟨rfl, (Below.refl _ _).alloc (Nat.le_refl _) _⟩
    · have hz : lookS l id = (Tx.zero, false) := by unfold lookS; rw [if_neg (fun x => hin ⟨x.1, x.2.1⟩)]
      rw [hz]
      clear hz hc
      unfold maxLen at hm
      generalize l.length = n at *
      have hd : decide (id < 1) = true ∨ (decide (id < 1) = false ∧ decide ((n : Int) < id) = true) := by simp; omega
      rcases hd with hd | ⟨hd, hd2⟩
      all_goals
        go_enter Try.func21, Try.ntmps21
        go_wp2
        refine bodyPost_ret (v := .tuple #[Tx.zero.val, .bool false]) (by simp [results, Try.results21, go_sem, Tx.zero, Tx.val]) rfl ⟨rfl, (Below.refl _ _).alloc (Nat.le_refl _) _⟩

theorem pastK_ways (t a : Int) : (t ≤ a ∧ pastK t a = 1) ∨ (a < t ∧ pastK t a = 2) := by
  by_cases h : t ≤ a
  · exact .inl ⟨h, pastK_yes h⟩
  · exact .inr ⟨by omega, pastK_no (by omega)⟩

set_option maxHeartbeats 400000 in
theorem by_any (l : List Oth) (v : Value) (id me at_ : Int) (w : World) (hl : OthAt w v l) (hen : ∀ n, 0 ≤ (lookS l n).1.en) :
    Calls Try.prog 49 #[v, .int .i64 id, .int .i64 me, .int .u64 at_] w fun e w' => e = .returned (.tuple #[.int .i64 (sayK (lookS l) id me at_), .int .i64 (sayN (lookS l) id me at_)]) ∧ Below w.heap.size w w' := by
  by_cases hme : id = me
  · have hs := Lib.hid (@say_own (lookS l) id me at_ hme)
    have hb : (id == me) = true := by simp [hme]
    clear hme hen
    go_enter Try.func49, Try.ntmps49
    go_wp2_with fail
    go_ret2
    exact ⟨tup2 hs.out.1.symm hs.out.2.symm, Below.refl _ _⟩
  · have hb : (id == me) = false := by simp [hme]
    have HC := Lib.hid (look_any l v id w hl)
    have he := hen id
    have hs := Lib.hid (fun lv st bg en ok => @say_cases (lookS l) id me at_ lv st bg en ok)
    unfold toldS at hs
    clear hl hen
    generalize lookS l id = r at *
    obtain ⟨⟨lv, st, bg, en⟩, ok⟩ := r
    have hs' := Lib.hid (hs.out _ _ _ _ _ hme rfl)
    clear hs hme
    simp only [Tx.val] at HC he
    cases ok
    all_goals
      go_enter Try.func49, Try.ntmps49
      go_wp2_with fail
      refine HC.out.mono ?_
      rintro e w1 ⟨rfl, hb1⟩
      clear HC
      go_wp2_with fail
    all_goals
      go_ret2
      have hs2 := hs'.out
      have hp := pastK_ways en at_
      simp only [beq_iff_eq, beq_eq_false_iff_ne, ne_eq, reduceCtorEq, false_and, true_and, or_false, Bool.true_and, Bool.false_and, bne_iff_ne, bne_eq_false_iff_eq] at *
      exact ⟨tup2 (by omega) (by omega), bl_alloc hb1 _⟩
end Go.Proofs.Ytbiadeniplmkfaa
