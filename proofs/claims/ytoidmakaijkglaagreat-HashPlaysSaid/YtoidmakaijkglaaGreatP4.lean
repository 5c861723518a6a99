/- The pool's functions: Give, Free, Used, Worn. -/
import Derived.Test.YtoidmakaijkglaaGreatP3
import Derived.Deep.RegionWith
namespace Go.Proofs.YtoidmakaijkglaaGreat
open Go.RowKit

theorem live_yes {s : PS} {x : Int} (h : s.live x = true) : ∃ i : Nat, i < s.sl.length ∧ x % 131072 = i + 1 ∧ (s.sl.getD i slot0).taken = true ∧ s.link i = x := by
  by_cases hin : 1 ≤ x % 131072 ∧ x % 131072 ≤ s.sl.length
  · have hx : x % 131072 = ((x % 131072 - 1).toNat : Int) + 1 := by omega
    have hl : (x % 131072 - 1).toNat < s.sl.length := by omega
    rw [live_in hx hl, Bool.and_eq_true, decide_eq_true_eq] at h
    exact ⟨_, hl, hx, h.1, h.2⟩
  · rw [live_out hin] at h
    cases h

/-- The pool, one slot given back: worn, or with the next tag and last in the list. -/
def PS.give (s : PS) (i : Nat) : PS := if (s.sl.getD i slot0).tag = s.most then { s with sl := s.sl.set i ⟨(s.sl.getD i slot0).tag, false⟩, worn := s.worn + 1 } else { s with sl := s.sl.set i ⟨(s.sl.getD i slot0).tag + 1, false⟩, free := s.free ++ [(i : Int)] }
theorem cnt_pos {l : List Slot} {i : Nat} (hi : i < l.length) (h : (l.getD i slot0).taken = true) : 1 ≤ cnt l := by
  unfold cnt
  refine List.countP_pos_iff.2 ⟨l[i], List.getElem_mem hi, ?_⟩
  simpa [List.getD_eq_getElem?_getD, hi] using h
theorem live_init {s : PS} (h : s.ok) {i : Nat} (hi : i < s.sl.length) (ht : (s.sl.getD i slot0).taken = true) : s.init = true := by
  cases hs : s.init
  · have := cnt_pos hi ht
    have := (h.fresh hs).2.2
    omega
  · rfl
theorem give_ok {s : PS} {i : Nat} (h : s.ok) (hi : i < s.sl.length) (ht : (s.sl.getD i slot0).taken = true) : (s.give i).ok := by
  have hs := live_init h hi ht
  have hall := h.all hs
  have hpos := cnt_pos hi ht
  have hcnt : ∀ t : Int, cnt (s.sl.set i ⟨t, false⟩) + 1 = cnt s.sl := by
    intro t
    have e : (s.sl[i]).taken = true := by simpa [List.getD_eq_getElem?_getD, hi] using ht
    unfold cnt at hpos ⊢
    rw [List.countP_set hi]
    simp [e]
    omega
  have hnot : ∀ x ∈ s.free, x ≠ (i : Int) := by
    intro x hx e
    have := (h.free x hx).2.2
    rw [e, show ((i : Int)).toNat = i by omega, ht] at this
    cases this
  have hfree : ∀ (t : Int), ∀ x ∈ s.free, 0 ≤ x ∧ x < (s.sl.set i ⟨t, false⟩).length ∧ ((s.sl.set i ⟨t, false⟩).getD x.toNat slot0).taken = false := by
    intro t x hx
    have h1 := h.free x hx
    refine ⟨h1.1, by simpa using h1.2.1, ?_⟩
    have : i ≠ x.toNat := by have := hnot x hx; omega
    simp only [List.getD_eq_getElem?_getD, List.getElem?_set_ne this]
    simpa [List.getD_eq_getElem?_getD] using h1.2.2
  have htag := h.tag hi
  unfold PS.give
  split
  · rename_i hm
    refine ⟨by simpa using h.n1, by simpa using h.n2, h.m0, h.m1, h.nodup, hfree _, ?_, by have := h.w0; show 0 ≤ s.worn + 1; omega, (fun e => by rw [show _ = s.init from rfl, hs] at e; cases e), fun _ => ?_⟩
    · intro x hx
      rcases List.mem_or_eq_of_mem_set hx with hx | rfl
      · exact h.tags x hx
      · exact htag
    · have := hcnt (s.sl.getD i slot0).tag
      simp at this ⊢
      omega
  · rename_i hm
    refine ⟨by simpa using h.n1, by simpa using h.n2, h.m0, h.m1, ?_, ?_, ?_, h.w0, (fun e => by rw [show _ = s.init from rfl, hs] at e; cases e), fun _ => ?_⟩
    · show (s.free ++ [(i : Int)]).Nodup
      rw [List.nodup_append]
      refine ⟨h.nodup, by simp, ?_⟩
      intro a ha c hc e
      simp at hc
      exact hnot a ha (by rw [e, hc])
    · intro x hx
      have hx' : x ∈ s.free ++ [(i : Int)] := hx
      rcases List.mem_append.1 hx' with hx | hx
      · exact hfree _ x hx
      · simp at hx
        subst hx
        refine ⟨by omega, by simp; omega, ?_⟩
        simp [List.getD_eq_getElem?_getD, hi]
    · intro x hx
      rcases List.mem_or_eq_of_mem_set hx with hx | rfl
      · exact h.tags x hx
      · simp only
        omega
    · have := hcnt ((s.sl.getD i slot0).tag + 1)
      simp at this ⊢
      omega

end Go.Proofs.YtoidmakaijkglaaGreat
