/- Both pools, and a row of what was told, apart from one another: what each call leaves. -/
import Derived.Test.YtjojbfgppgnmjaaU4
namespace Go.Proofs.Ytjojbfgppgnmjaa.Ref
open Go.RowKit Go.Proofs.Ytjojbfgppgnmjaa

def St (w0 W : World) (ov : Value) (told : List Int) (b c : Nat) (s t : PS) : Prop := ∃ F G, Sep w0 W [obRow .u64 28 ov told, obPool b F s, obRef c G t]
section
variable {w0 W w' : World} {ov : Value} {told : List Int} {b c : Nat} {s s' t t' : PS} {F G : Nat → Prop}
theorem st_pool (h : Sep w0 W [obRow .u64 28 ov told, obPool b F s, obRef c G t]) (hl : Left W b F s' w') : St w0 w' ov told b c s' t := by
  obtain ⟨F', h'⟩ := h.swap.pool hl
  exact ⟨F', G, h'.swap⟩
theorem st_ref (h : Sep w0 W [obRow .u64 28 ov told, obPool b F s, obRef c G t]) (hl : LeftR W c G t' w') : St w0 w' ov told b c s t' := by
  obtain ⟨G', h'⟩ := h.bring3.ref hl
  exact ⟨F, G', h'.back3⟩
theorem St.below (h : St w0 W ov told b c s t) (hb : Below W.heap.size W w') : St w0 w' ov told b c s t := by
  obtain ⟨F, G, h⟩ := h
  exact ⟨F, G, h.below hb⟩
theorem St.drew (h : St w0 W ov told b c s t) : St w0 W.drew ov told b c s t := h.below (Below.drew (Below.refl _ _))
theorem St.bel (h : St w0 W ov told b c s t) : Below w0.heap.size w0 W := by
  obtain ⟨F, G, h⟩ := h
  exact h.bel
theorem St.row (h : St w0 W ov told b c s t) : Owned .u64 28 W ov told := by
  obtain ⟨F, G, h⟩ := h
  exact h.head
theorem St.good (h : St w0 W ov told b c s t) : s.ok := by
  obtain ⟨F, G, h⟩ := h
  exact h.second.good
theorem St.worn (h : St w0 W ov told b c s t) : W.cell? ⟨c, 5, none⟩ = some (.int .i64 t.worn) := by
  obtain ⟨F, G, h⟩ := h
  obtain ⟨tb, kb, gv, g, fr, _, _, _, _, _, _, _, hb, _⟩ := h.third
  exact (blk_cell hb 5).trans rfl
theorem St.app {X : World} {v' : Value} {n : Nat} {zs : List Value} {x : Int} (h : St w0 W ov told b c s t) (hX : Mod (fun _ => False) W X) (hA : Appended X w' 0 28 1 ov v' n zs) (hn : n = told.length + 1) (hz : zs = told.map (Value.int .u64) ++ [.int .u64 x]) : St w0 w' v' (told ++ [x]) b c s t := by
  obtain ⟨F, G, h⟩ := h
  exact ⟨F, G, h.append (ys := [x]) hX hA hn hz⟩

theorem p_full (h : St w0 W ov told b c s t) (hl : s.listed.free = []) :
    Calls Try.prog 55 #[.pointer (some ⟨b, 0, none⟩)] W fun e w' => e = .returned (.tuple #[.int .u64 0, .int .i64 15]) ∧ St w0 w' ov told b c s.listed t := by
  obtain ⟨F, G, h⟩ := h
  exact (Go.Proofs.Ytjojbfgppgnmjaa.take_full b F s W h.second hl).mono fun e w' r => ⟨r.1, st_pool h r.2⟩
theorem p_take {l : List Int} {i : Nat} (h : St w0 W ov told b c s t) (hl : s.listed.free = l ++ [(i : Int)]) :
    Calls Try.prog 55 #[.pointer (some ⟨b, 0, none⟩)] W fun e w' => e = .returned (.tuple #[.int .u64 (s.listed.link i), .int .i64 0]) ∧ St w0 w' ov told b c (s.listed.take l i) t := by
  obtain ⟨F, G, h⟩ := h
  exact (Go.Proofs.Ytjojbfgppgnmjaa.take_some b F s l i W h.second hl).mono fun e w' r => ⟨r.1, st_pool h r.2⟩
theorem r_full (h : St w0 W ov told b c s t) (hl : t.free = []) :
    Calls Try.prog 29 #[.pointer (some ⟨c, 0, none⟩)] W fun e w' => e = .returned (.tuple #[.int .u64 0, .int .i64 15]) ∧ St w0 w' ov told b c s t := by
  obtain ⟨F, G, h⟩ := h
  exact (Ref.take_full c G t W h.third hl).mono fun e w' r => ⟨r.1, st_ref h r.2⟩
theorem r_take {l : List Int} {i : Nat} (h : St w0 W ov told b c s t) (hl : t.free = l ++ [(i : Int)]) :
    Calls Try.prog 29 #[.pointer (some ⟨c, 0, none⟩)] W fun e w' => e = .returned (.tuple #[.int .u64 (t.link i), .int .i64 0]) ∧ St w0 w' ov told b c s (t.take l i) := by
  obtain ⟨F, G, h⟩ := h
  exact (Ref.take_some c G t l i W h.third hl).mono fun e w' r => ⟨r.1, st_ref h r.2⟩
theorem p_give {x : Int} (h : St w0 W ov told b c s t) (h0 : 0 ≤ x) (h1 : x ≤ 18446744073709551615) :
    Calls Try.prog 60 #[.pointer (some ⟨b, 0, none⟩), .int .u64 x] W fun e w' => e = .returned (.int .i64 (if s.live x then 0 else 8)) ∧ St w0 w' ov told b c (if s.live x then s.give (x % 131072 - 1).toNat else s) t := by
  obtain ⟨F, G, h⟩ := h
  refine (pool_give b F s x W h.second h0 h1).mono fun e w' r => ?_
  rcases r with ⟨e1, e2, rfl⟩ | ⟨e1, e2, e3⟩
  · rw [e1]
    exact ⟨e2, F, G, h⟩
  · rw [e1]
    exact ⟨e2, st_pool h e3⟩
theorem r_give {x : Int} (h : St w0 W ov told b c s t) (h0 : 0 ≤ x) (h1 : x ≤ 18446744073709551615) :
    Calls Try.prog 30 #[.pointer (some ⟨c, 0, none⟩), .int .u64 x] W fun e w' => e = .returned (.int .i64 (if t.live x then 0 else 8)) ∧ St w0 w' ov told b c s (if t.live x then t.give (x % 131072 - 1).toNat else t) := by
  obtain ⟨F, G, h⟩ := h
  refine (ref_give c G t x W h.third h0 h1).mono fun e w' r => ?_
  rcases r with ⟨e1, e2, rfl⟩ | ⟨e1, e2, e3⟩
  · rw [e1]
    exact ⟨e2, F, G, h⟩
  · rw [e1]
    exact ⟨e2, st_ref h e3⟩
theorem p_live {x : Int} (h : St w0 W ov told b c s t) (h0 : 0 ≤ x) (h1 : x ≤ 18446744073709551615) :
    Calls Try.prog 80 #[.pointer (some ⟨b, 0, none⟩), .int .u64 x] W fun e w' => e = .returned (.bool (s.live x)) ∧ W = w' := by
  obtain ⟨F, G, h⟩ := h
  exact pool_live b F s x W h.second h0 h1
theorem r_live {x : Int} (h : St w0 W ov told b c s t) (h0 : 0 ≤ x) (h1 : x ≤ 18446744073709551615) :
    Calls Try.prog 28 #[.pointer (some ⟨c, 0, none⟩), .int .u64 x] W fun e w' => e = .returned (.bool (t.live x)) ∧ W = w' := by
  obtain ⟨F, G, h⟩ := h
  exact ref_live c G t x W h.third h0 h1
theorem p_free (h : St w0 W ov told b c s t) :
    Calls Try.prog 84 #[.pointer (some ⟨b, 0, none⟩)] W fun e w' => e = .returned (.int .i64 s.listed.free.length) ∧ St w0 w' ov told b c s.listed t := by
  obtain ⟨F, G, h⟩ := h
  exact (pool_free b F s W h.second).mono fun e w' r => ⟨r.1, st_pool h r.2⟩
theorem p_used (h : St w0 W ov told b c s t) :
    Calls Try.prog 61 #[.pointer (some ⟨b, 0, none⟩)] W fun e w' => e = .returned (.int .i64 (cnt s.sl)) ∧ St w0 w' ov told b c s.listed t := by
  obtain ⟨F, G, h⟩ := h
  exact (pool_used b F s W h.second).mono fun e w' r => ⟨r.1, st_pool h r.2⟩
theorem p_all (h : St w0 W ov told b c s t) :
    Calls Try.prog 62 #[.pointer (some ⟨b, 0, none⟩)] W fun e w' => ∃ a cap, e = .returned (.slice a (cnt s.sl) cap) ∧ Owned .u64 28 w' (.slice a (cnt s.sl) cap) s.all' ∧ St w0 w' ov told b c s t := by
  have h' := h
  obtain ⟨F, G, h⟩ := h
  refine (pool_all b F s W h.second).mono fun e w' r => ?_
  obtain ⟨sv, e1, e2, e3, e4⟩ := r
  obtain ⟨a, cap, rfl, _⟩ := e2.form
  rw [all_cnt] at *
  exact ⟨a, cap, e1, e2, h'.below e3⟩
theorem r_all (h : St w0 W ov told b c s t) :
    Calls Try.prog 31 #[.pointer (some ⟨c, 0, none⟩)] W fun e w' => ∃ a cap, e = .returned (.slice a (cnt t.sl) cap) ∧ Owned .u64 28 w' (.slice a (cnt t.sl) cap) t.all' ∧ St w0 w' ov told b c s t ∧ Below W.heap.size W w' := by
  have h' := h
  obtain ⟨F, G, h⟩ := h
  refine (ref_all c G t W h.third).mono fun e w' r => ?_
  obtain ⟨sv, e1, e2, e3, e4⟩ := r
  obtain ⟨a, cap, rfl, _⟩ := e2.form
  rw [all_cnt] at *
  exact ⟨a, cap, e1, e2, h'.below e3, e3⟩
end
theorem listed_sl (s : PS) : s.listed.sl = s.sl := by unfold PS.listed; split <;> rfl
theorem listed_worn (s : PS) : s.listed.worn = s.worn := by unfold PS.listed; split <;> rfl
theorem listed_link (s : PS) (i : Nat) : s.listed.link i = s.link i := by unfold PS.link; rw [listed_sl]
theorem listed_live (s : PS) (x : Int) : s.listed.live x = s.live x := by unfold PS.live; rw [listed_sl, listed_link]
theorem live_listed {s : PS} (h : s.ok) {x : Int} (hl : s.live x = true) : s.listed = s := by
  obtain ⟨i, hi, _, ht, _⟩ := live_yes hl
  exact listed_yes (live_init h hi ht)
theorem give_init {s : PS} (i : Nat) : (s.give i).init = s.init := by unfold PS.give; split <;> rfl
theorem listed_all (s : PS) : s.listed.all' = s.all' := by
  have : ∀ k, s.listed.allTo k = s.allTo k := by
    intro k
    induction k with
    | zero => rfl
    | succ k ih => simp only [PS.allTo, listed_sl, listed_link, ih]
  unfold PS.all'
  rw [listed_sl, this]
theorem high_dead {s : PS} (h : s.ok) {x : Int} (hx : 1099511627776 ≤ x) : s.live x = false := by
  cases hl : s.live x
  · rfl
  · obtain ⟨i, hi, _, _, hk⟩ := live_yes hl
    have := link_range h hi
    omega
end Go.Proofs.Ytjojbfgppgnmjaa.Ref
