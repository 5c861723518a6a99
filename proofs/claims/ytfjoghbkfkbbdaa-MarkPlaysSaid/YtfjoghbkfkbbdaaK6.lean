/- Marks over time: Enter. -/
import Derived.Test.YtfjoghbkfkbbdaaK5
namespace Go.Proofs.Ytfjoghbkfkbbdaa
open Go.RowKit

section
variable {es : List Ent} {x : Int} {i : Nat}
theorem found_yes (h : found es x i = true) : i < es.length ∧ (es.getD i ent0).at_ = x := by simpa [found] using h
theorem found_no (hs : Rising es) (hp : Place es x i) (h : found es x i = false) : ∀ j, i ≤ j → j < es.length → x < (es.getD j ent0).at_ := by
  intro j hj hjl
  have h1 := hp.above j hj hjl
  have h2 : ¬ (i < es.length ∧ (es.getD i ent0).at_ = x) := by simpa [found] using h
  rcases Nat.eq_or_lt_of_le hj with rfl | h3
  · have : ¬ (es.getD i ent0).at_ = x := fun e => h2 ⟨hjl, e⟩
    omega
  · have h4 := hs i j h3 hjl
    have h5 := hp.above i (Nat.le_refl _) (by omega)
    omega
/-- A new entry among the others. -/
def putE (es : List Ent) (i : Nat) (e : Ent) : List Ent := es.take i ++ e :: es.drop i
theorem putE_len (hi : i ≤ es.length) (e : Ent) : (putE es i e).length = es.length + 1 := by simp [putE]; omega
theorem putE_get (hi : i ≤ es.length) (e : Ent) (j : Nat) : (putE es i e).getD j ent0 = if j < i then es.getD j ent0 else if j = i then e else es.getD (j - 1) ent0 := by
  have hl : (es.take i).length = i := by rw [List.length_take]; omega
  unfold putE
  rw [List.getD_eq_getElem?_getD]
  by_cases h1 : j < i
  · rw [List.getElem?_append_left (by omega), List.getElem?_take_of_lt h1, if_pos h1, ← List.getD_eq_getElem?_getD]
  · rw [List.getElem?_append_right (by omega), hl, if_neg h1]
    by_cases h2 : j = i
    · subst h2
      simp
    · rw [if_neg h2, show j - i = (j - i - 1) + 1 by omega, List.getElem?_cons_succ, List.getElem?_drop, show i + (j - i - 1) = j - 1 by omega, ← List.getD_eq_getElem?_getD]
theorem putE_map {α : Type} (f : Ent → α) (i : Nat) (e : Ent) : (putE es i e).map f = (es.map f).take i ++ f e :: (es.map f).drop i := by simp [putE, List.map_take, List.map_drop]
theorem putE_mem {e f : Ent} (h : f ∈ putE es i e) : f = e ∨ f ∈ es := by
  unfold putE at h
  rcases List.mem_append.1 h with h | h
  · exact .inr (List.mem_of_mem_take h)
  · rcases List.mem_cons.1 h with h | h
    · exact .inl h
    · exact .inr (List.mem_of_mem_drop h)
theorem Good.put (h : Good es) (hp : Place es x i) (hf : found es x i = false) {b : Nat} (hb : ∀ e ∈ es, e.blk ≠ b) {n : Int} (hn : 1 ≤ n) : Good (putE es i ⟨b, x, n⟩) where
  rise := fun a c hac hc => by
    rw [putE_len hp.le] at hc
    have hlo := fun j hj => hp.below j hj
    have hup := fun j hj hjl => found_no h.rise hp hf j hj hjl
    have hle := hp.le
    have ea := putE_get hp.le ⟨b, x, n⟩ a
    have ec := putE_get hp.le ⟨b, x, n⟩ c
    by_cases a1 : a < i
    · rw [if_pos a1] at ea
      by_cases c1 : c < i
      · rw [if_pos c1] at ec
        rw [ea, ec]
        exact h.rise a c hac (by omega)
      · rw [if_neg c1] at ec
        by_cases c2 : c = i
        · rw [if_pos c2] at ec
          rw [ea, ec]
          exact hlo a a1
        · rw [if_neg c2] at ec
          rw [ea, ec]
          have := hup (c - 1) (by omega) (by omega)
          have := hlo a a1
          omega
    · rw [if_neg a1] at ea
      rw [if_neg (by omega), if_neg (by omega)] at ec
      by_cases a2 : a = i
      · rw [if_pos a2] at ea
        rw [ea, ec]
        exact hup (c - 1) (by omega) (by omega)
      · rw [if_neg a2] at ea
        rw [ea, ec]
        exact h.rise (a - 1) (c - 1) (by omega) (by omega)
  nd := by
    rw [putE_map]
    have h1 := h.nd
    rw [← List.take_append_drop i (es.map Ent.blk), List.nodup_append] at h1
    rw [List.nodup_append, List.nodup_cons]
    refine ⟨h1.1, ⟨fun hm => ?_, h1.2.1⟩, fun a ha c hc e => ?_⟩
    · obtain ⟨e, he, e2⟩ := List.mem_map.1 (List.mem_of_mem_drop hm)
      exact hb e he e2
    · rcases List.mem_cons.1 hc with rfl | hc
      · obtain ⟨e', he, e2⟩ := List.mem_map.1 (List.mem_of_mem_take ha)
        exact hb e' he (e2.trans e)
      · exact h1.2.2 a ha c hc e
  pos := fun e he => by
    rcases putE_mem he with rfl | he
    · exact hn
    · exact h.pos e he
theorem flat_put (es : List Ent) (i : Nat) (b : Nat) (x : Int) : flat (putE es i ⟨b, x, 1⟩) = flat (es.take i) ++ x :: flat (es.drop i) := by
  unfold putE
  rw [flat_app, flat_cons]
  simp
end
end Go.Proofs.Ytfjoghbkfkbbdaa
