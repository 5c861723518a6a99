/- Rows of Deals: an element set, a part taken; what is good stays good. -/
import Derived.Test.YtpohehialkgigaaLD
namespace Go.Proofs.Ytpohehialkgigaa
open Go.RowKit
theorem flat_len {α : Type} {f : α → List Value} {size : Nat} (hf : ∀ c, (f c).length = size) : ∀ l : List α, (l.flatMap f).length = l.length * size
  | [] => by simp
  | x :: r => by
    rw [List.flatMap_cons, List.length_append, flat_len hf r, hf, List.length_cons, Nat.succ_mul]
    omega
theorem flat_set {α : Type} {f : α → List Value} {size : Nat} (hf : ∀ c, (f c).length = size) (d y : α) {q : Nat} {u : Value} (hq : q < size) : ∀ (l : List α) (i : Nat), i < l.length → f y = (f (l.getD i d)).set q u → (l.flatMap f).set (i * size + q) u = (l.set i y).flatMap f
  | [], i, hi, _ => absurd hi (Nat.not_lt_zero i)
  | x :: r, 0, _, h => by
    have h' : f y = (f x).set q u := h
    rw [List.flatMap_cons, List.set_cons_zero, List.flatMap_cons, h', Nat.zero_mul, Nat.zero_add, List.set_append_left _ _ (by rw [hf]; exact hq)]
  | x :: r, i + 1, hi, h => by
    have h' : f y = (f (r.getD i d)).set q u := by simpa [List.getD_eq_getElem?_getD] using h
    rw [List.flatMap_cons, List.set_cons_succ, List.flatMap_cons, ← flat_set hf d y hq r i (by simpa using hi) h']
    have e : (i + 1) * size + q = (f x).length + (i * size + q) := by rw [hf, Nat.succ_mul]; omega
    rw [e, List.set_append_right _ _ (by omega)]
    congr 1
    congr 1
    omega
theorem flat_take {α : Type} {f : α → List Value} {size : Nat} (hf : ∀ c, (f c).length = size) : ∀ (l : List α) (k : Nat), (l.take k).flatMap f = (l.flatMap f).take (k * size)
  | [], k => by simp
  | x :: r, 0 => by simp
  | x :: r, k + 1 => by
    rw [List.take_succ_cons, List.flatMap_cons, List.flatMap_cons, flat_take hf r k, List.take_append, hf, Nat.succ_mul]
    congr 1
    · rw [List.take_of_length_le]
      rw [hf]
      omega
    · congr 1
      omega
theorem flat_drop {α : Type} {f : α → List Value} {size : Nat} (hf : ∀ c, (f c).length = size) : ∀ (l : List α) (k : Nat), (l.drop k).flatMap f = (l.flatMap f).drop (k * size)
  | [], k => by simp
  | x :: r, 0 => by simp
  | x :: r, k + 1 => by
    rw [List.drop_succ_cons, List.flatMap_cons, flat_drop hf r k, List.drop_append, hf, Nat.succ_mul]
    have : (f x).drop (k * size + size) = [] := List.drop_eq_nil_of_le (by rw [hf]; omega)
    rw [this, List.nil_append]
    congr 1
    omega
/-- A cell of a row of the call's own is turned. -/
theorem own_set {w : World} {base g cap n size i q : Nat} {E : TypeId} {xs : List Value} {u : Value} (h : w.ownsRow base E size (.slice (some ⟨g, 0, none⟩) n cap) n xs) (hi : i < n) (hq : q < size) :
    (w.setCell ⟨g, i * size + q, none⟩ u).ownsRow base E size (.slice (some ⟨g, 0, none⟩) n cap) n (xs.set (i * size + q) u) ∧ w.frozen? ⟨g, i * size + q, none⟩ = false ∧ w.cell? ⟨g, i * size + q, none⟩ = xs[i * size + q]? := by
  obtain ⟨hb, h⟩ := h
  rcases h with ⟨hv, -⟩ | ⟨g2, cap2, cur, hv, hg, hh, hnc, hcm, hcs, htk⟩
  · cases hv
  · simp only [Value.slice.injEq, Option.some.injEq, Addr.mk.injEq, and_true, true_and] at hv
    obtain ⟨rfl, rfl⟩ := hv
    have hpos : i * size + q < n * size := by
      have : (i + 1) * size ≤ n * size := Nat.mul_le_mul_right _ hi
      rw [Nat.succ_mul] at this
      omega
    refine ⟨⟨by rw [List.length_set]; exact hb, .inr ⟨g, cap, cur.setIfInBounds (i * size + q) u, rfl, hg, blk_set hh, hnc, hcm, by simpa using hcs, ?_⟩⟩, blk_free hh _, ?_⟩
    · rw [Array.toList_setIfInBounds, List.take_set, htk]
    · rw [blk_cell hh, ← htk, List.getElem?_take_of_lt hpos]
      simp
theorem NewDeals.set {w : World} {B g n cap i q : Nat} {ds : List (Dl × Value)} {y : Dl × Value} {u : Value} (h : NewDeals B w (.slice (some ⟨g, 0, none⟩) n cap) ds) (hn : n = ds.length) (hi : i < ds.length) (hq : q < 6) (hy : y.1.cells y.2 = ((ds.getD i (dl0, undef)).1.cells (ds.getD i (dl0, undef)).2).set q u) :
    NewDeals B (w.setCell ⟨g, i * 6 + q, none⟩ u) (.slice (some ⟨g, 0, none⟩) n cap) (ds.set i y) := by
  subst hn
  have h1 := (own_set (u := u) h hi hq).1
  rw [flat_set Dl.cells_len (dl0, undef) y hq ds i hi hy] at h1
  unfold NewDeals
  rw [List.length_set]
  exact h1
theorem NewDeals.cell {w : World} {B g n cap i q : Nat} {ds : List (Dl × Value)} (h : NewDeals B w (.slice (some ⟨g, 0, none⟩) n cap) ds) (hn : n = ds.length) (hi : i < ds.length) (hq : q < 6) :
    w.cell? ⟨g, i * 6 + q, none⟩ = ((ds.getD i (dl0, undef)).1.cells (ds.getD i (dl0, undef)).2)[q]? ∧ w.frozen? ⟨g, i * 6 + q, none⟩ = false := by
  subst hn
  have h1 := own_set (u := undef) h hi hq
  refine ⟨?_, h1.2.1⟩
  rw [h1.2.2, flat_get Dl.cells_len (dl0, undef) ds i q hi hq]
theorem own_block {w : World} {base n size : Nat} {E : TypeId} {v : Value} {xs : List Value} (h : w.ownsRow base E size v n xs) (hn : 0 < n) : ∃ g cap, v = .slice (some ⟨g, 0, none⟩) n cap ∧ base ≤ g ∧ g < w.heap.size := by
  have h0 := h
  rcases h.2 with ⟨-, h1⟩ | ⟨g, cap, cur, hv, -⟩
  · omega
  · subst hv
    exact ⟨g, cap, rfl, World.ownsRow.lt h0 g rfl⟩
/-- The first k. -/
theorem SrcAt.take {w : World} {b : Addr} {m cap cap' size k : Nat} {ys : List Value} (h : SrcAt w (.slice (some b) m cap) m size ys) (hk : k ≤ m) : SrcAt w (.slice (some b) k cap') k size (ys.take (k * size)) := by
  rcases h with ⟨rfl, rfl, -⟩ | ⟨g, off, c, hu, hl, hc⟩
  · obtain rfl : k = 0 := by omega
    exact .inl ⟨rfl, by simp, _, _, rfl, fun h => by cases h⟩
  · simp only [Value.slice.injEq, Option.some.injEq, true_and] at hu
    obtain ⟨rfl, rfl⟩ := hu
    refine .inr ⟨g, off, cap', rfl, ?_, fun j y hj => ?_⟩
    · rw [List.length_take, hl]
      exact Nat.min_eq_left (Nat.mul_le_mul_right _ hk)
    · rw [List.getElem?_take] at hj
      split at hj
      · exact hc j y hj
      · cases hj
/-- All but the first k. -/
theorem SrcAt.drop {w : World} {g off m cap size k : Nat} {ys : List Value} (h : SrcAt w (.slice (some ⟨g, off, none⟩) m cap) m size ys) (hk : k ≤ m) (hc : m ≤ cap) : SrcAt w (.slice (if cap = k then some ⟨g, off, none⟩ else some ⟨g, off + k * size, none⟩) (m - k) (cap - k)) (m - k) size (ys.drop (k * size)) := by
  by_cases he : cap = k
  · rw [if_pos he]
    have : m - k = 0 := by omega
    rw [this]
    refine .inl ⟨rfl, ?_, _, _, rfl, fun h => by cases h⟩
    rcases h with ⟨-, rfl, -⟩ | ⟨g, off, c, hu, hl, -⟩
    · simp
    · exact List.drop_eq_nil_of_le (by rw [hl]; exact Nat.mul_le_mul_right _ (by omega))
  · rw [if_neg he]
    rcases h with ⟨rfl, rfl, -⟩ | ⟨g2, off2, c, hu, hl, hx⟩
    · exact .inl ⟨by omega, by simp, some ⟨g, off + k * size, none⟩, cap - k, by simp, fun h => by cases h⟩
    · simp only [Value.slice.injEq, Option.some.injEq, Addr.mk.injEq, and_true, true_and] at hu
      obtain ⟨⟨rfl, rfl⟩, rfl⟩ := hu
      refine .inr ⟨g, off + k * size, cap - k, rfl, ?_, fun j y hj => ?_⟩
      · rw [List.length_drop, hl, Nat.sub_mul]
      · rw [List.getElem?_drop] at hj
        have := hx _ y hj
        rw [Nat.add_assoc]
        exact this

/-! ### Good stays good -/
theorem Good.sub {l m : List Dl} (h : Good l) (hs : List.Sublist m l) : Good m where
  few := Nat.le_trans hs.length_le h.few
  wf d hd := h.wf d (hs.subset hd)
  apart := h.apart.sublist hs
  pairs d hd := h.pairs d (hs.subset hd)
theorem Good.gone {l m : List Dl} {d : Dl} (h : Good (l ++ d :: m)) : Good (l ++ d.gone :: m) where
  few := by simpa using h.few
  wf x hx := by
    rcases List.mem_append.1 hx with hx | hx
    · exact h.wf x (by simp [hx])
    · rcases List.mem_cons.1 hx with rfl | hx
      · have := h.wf d (by simp)
        exact ⟨this.beg, this.en, this.ops, this.few⟩
      · exact h.wf x (by simp [hx])
  apart := by
    have h1 := h.apart
    rw [List.pairwise_append] at h1 ⊢
    obtain ⟨a, b, c⟩ := h1
    obtain ⟨b1, b2⟩ := List.pairwise_cons.1 b
    refine ⟨a, List.pairwise_cons.2 ⟨fun x _ e _ => by simp [Dl.gone] at e, b2⟩, fun x hx y hy => ?_⟩
    rcases List.mem_cons.1 hy with rfl | hy
    · intro _ e
      simp [Dl.gone] at e
    · exact c x hx y (by simp [hy])
  pairs x hx := by
    rcases List.mem_append.1 hx with hx | hx
    · exact h.pairs x (by simp [hx])
    · rcases List.mem_cons.1 hx with rfl | hx
      · exact h.pairs d (by simp)
      · exact h.pairs x (by simp [hx])
end Go.Proofs.Ytpohehialkgigaa
