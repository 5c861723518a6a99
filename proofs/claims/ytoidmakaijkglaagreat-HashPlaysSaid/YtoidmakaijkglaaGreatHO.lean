/- Keys in their buckets, in plain words. -/
import Derived.Test.YtoidmakaijkglaaGreatHN
namespace Go.Proofs.YtoidmakaijkglaaGreat
open Go.RowKit
structure Keyed (n : Nat) (bs : List (List (Int × Nat))) (P : Int → Prop) : Prop where
  ok : ∀ i, i < n → ∀ k ∈ keysOf bs i, 0 ≤ k ∧ k ≤ 63 ∧ bucketOf n k = i ∧ P k
  nd : ∀ i, i < n → (keysOf bs i).Nodup
  all : ∀ k, P k → 0 ≤ k ∧ k ≤ 63 ∧ k ∈ keysOf bs (bucketOf n k)
  len : bs.length = n
theorem keysOf_out {bs : List (List (Int × Nat))} {i : Nat} (h : bs.length ≤ i) : bs.getD i [] = [] := by simp [List.getD_eq_getElem?_getD, h]
theorem Keyed.new (n : Nat) : Keyed n (List.replicate n []) (fun _ => False) where
  ok i hi k hk := by simp [keysOf, List.getD_eq_getElem?_getD, hi] at hk
  nd i hi := by simp [keysOf, List.getD_eq_getElem?_getD, hi]
  all k h := h.elim
  len := by simp
theorem nodup_upto : ∀ (n : Nat) (l : List Nat), l.Nodup → (∀ x ∈ l, x < n) → l.length ≤ n
  | 0, l, _, h => by
    cases l with
    | nil => simp
    | cons a l => have := h a (by simp); omega
  | n + 1, l, hn, h => by
    by_cases hm : n ∈ l
    · have h1 := nodup_upto n (l.erase n) (hn.erase n) (fun x hx => by
        have h2 := h x (List.mem_of_mem_erase hx)
        have h3 : x ≠ n := fun e => by subst e; exact (List.Nodup.not_mem_erase hn) hx
        omega)
      rw [List.length_erase_of_mem hm] at h1
      omega
    · have := nodup_upto n l hn (fun x hx => by
        have h2 := h x hx
        have h3 : x ≠ n := fun e => hm (e ▸ hx)
        omega)
      omega
theorem small_nodup {l : List Int} (h : l.Nodup) (hk : ∀ x ∈ l, 0 ≤ x ∧ x ≤ 63) : l.length ≤ 64 := by
  have h2 : (l.map Int.toNat).Nodup := by
    rw [List.nodup_iff_pairwise_ne] at h ⊢
    rw [List.pairwise_map]
    refine h.imp_of_mem fun {a b} ha hb hab => ?_
    have h1 := hk a ha
    have h2 := hk b hb
    omega
  have := nodup_upto 64 _ h2 fun x hx => by
    obtain ⟨y, hy, rfl⟩ := List.mem_map.1 hx
    have := hk y hy
    omega
  simpa using this
section
variable {n : Nat} {bs : List (List (Int × Nat))} {P : Int → Prop}
theorem Keyed.few (h : Keyed n bs P) (i : Nat) : (bs.getD i []).length ≤ 64 := by
  by_cases hi : i < n
  · have := small_nodup (h.nd i hi) fun x hx => ⟨(h.ok i hi x hx).1, (h.ok i hi x hx).2.1⟩
    simpa [keysOf] using this
  · rw [keysOf_out (by rw [h.len]; omega)]
    simp
theorem Keyed.small (h : Keyed n bs P) (i : Nat) : (bs.getD i []).length ≤ 100000 := by
  have := h.few i
  omega
theorem findL_none {l : List (Int × Nat)} {k : Int} (h : k ∉ l.map (·.1)) : findL l k = none := by
  unfold findL
  have : l.find? (fun e => decide (e.1 = k)) = none := by
    rw [List.find?_eq_none]
    intro e he
    simp only [decide_eq_true_eq]
    exact fun hk => h (List.mem_map.2 ⟨e, he, hk⟩)
  rw [this]
  rfl
theorem findL_some {l : List (Int × Nat)} {k : Int} (h : k ∈ l.map (·.1)) : ∃ c, findL l k = some c ∧ (k, c) ∈ l := by
  unfold findL
  cases hf : l.find? (fun e => decide (e.1 = k)) with
  | none =>
    rw [List.find?_eq_none] at hf
    obtain ⟨e, he, rfl⟩ := List.mem_map.1 h
    have := hf e he
    simp at this
  | some e =>
    have h1 := List.find?_some hf
    simp only [decide_eq_true_eq] at h1
    have h2 := List.mem_of_find?_eq_some hf
    refine ⟨e.2, rfl, ?_⟩
    rw [← h1]
    exact h2
theorem Keyed.none (h : Keyed n bs P) {k : Int} (hk : ¬ P k) (hn : 1 ≤ n) : findK n bs k = none := by
  unfold findK
  split
  · refine findL_none fun hm => hk ?_
    exact (h.ok _ (bucketOf_lt hn) k hm).2.2.2
  · rfl
theorem Keyed.some (h : Keyed n bs P) {k : Int} (hk : P k) : ∃ c, findK n bs k = some c ∧ (k, c) ∈ bs.getD (bucketOf n k) [] := by
  obtain ⟨a, b, c⟩ := h.all k hk
  unfold findK
  rw [if_pos ⟨a, b⟩]
  exact findL_some c
theorem keysOf_put (h : Keyed n bs P) {k : Int} {c : Nat} (hn : 1 ≤ n) (i : Nat) : keysOf (putK n bs k c) i = if i = bucketOf n k then k :: keysOf bs i else keysOf bs i := by
  unfold keysOf putK
  rw [bs_set (by rw [h.len]; exact bucketOf_lt hn)]
  by_cases e : i = bucketOf n k
  · rw [if_pos e, if_pos e, e]
    rfl
  · rw [if_neg e, if_neg e]
theorem Keyed.put (h : Keyed n bs P) {k : Int} (c : Nat) (hn : 1 ≤ n) (hk : 0 ≤ k ∧ k ≤ 63) (hp : ¬ P k) : Keyed n (putK n bs k c) (fun x => P x ∨ x = k) where
  ok i hi x hx := by
    rw [keysOf_put h hn] at hx
    split at hx
    · rename_i e
      rcases List.mem_cons.1 hx with rfl | hx
      · exact ⟨hk.1, hk.2, e.symm, .inr rfl⟩
      · obtain ⟨a, b, cc, d⟩ := h.ok i hi x hx
        exact ⟨a, b, cc, .inl d⟩
    · obtain ⟨a, b, cc, d⟩ := h.ok i hi x hx
      exact ⟨a, b, cc, .inl d⟩
  nd i hi := by
    rw [keysOf_put h hn]
    split
    · refine List.nodup_cons.2 ⟨fun hx => hp (h.ok i hi k hx).2.2.2, h.nd i hi⟩
    · exact h.nd i hi
  all x hx := by
    rw [keysOf_put h hn]
    by_cases e : x = k
    · subst e
      exact ⟨hk.1, hk.2, by simp⟩
    · obtain ⟨a, b, cc⟩ := h.all x (hx.resolve_right e)
      refine ⟨a, b, ?_⟩
      split
      · exact List.mem_cons_of_mem _ cc
      · exact cc
  len := by
    unfold putK
    rw [List.length_set]
    exact h.len
end
end Go.Proofs.YtoidmakaijkglaaGreat
