/- Serially: Deals done one behind the other, each answered as it should be. -/
import Derived.Test.YtpohehialkgigaaLA
namespace Go.Proofs.Ytpohehialkgigaa
open Go.RowKit
/-- Behind k Deals: the clock, the Deals, what is there. -/
structure SerK (k c : Nat) (l : List Dl) (s : St) : Prop where
  ser : Ser [] 0 l
  st : l.foldl (fun s d => St.steps s d.ops) [] = s
  en : ∀ x ∈ l, x.en ≤ c
  low : s.low
  len : l.length = k
  ids : ∀ i, i < k → (l.getD i dl0).id = i + 1
  lev : ∀ x ∈ l, x.level = 1 ∨ x.level = 2 ∨ x.level = 3
  wf : ∀ x ∈ l, x.wf
  few : ∀ x ∈ l, x.ops.length ≤ 8 ∧ ∀ y ∈ x.ops, 0 ≤ y.key ∧ y.key ≤ 7 ∧ y.pairs.length ≤ 10
  clock : c ≤ k * 9
theorem SerK.nil : SerK 0 0 [] [] where
  ser := trivial
  st := rfl
  en := by simp
  low := by intro p hp; simp at hp
  len := rfl
  ids i hi := absurd hi (Nat.not_lt_zero i)
  lev := by simp
  wf := by simp
  few := by simp
  clock := Nat.le_refl _
theorem SerK.snoc {k c c' : Nat} {l : List Dl} {s : St} {d : Dl} (h : SerK k c l s) (h1 : d.state = 3) (h2 : (c : Int) < d.beg) (h3 : d.beg < d.en) (h4 : d.en ≤ c') (hid : d.id = k + 1) (hlev : d.level = 1 ∨ d.level = 2 ∨ d.level = 3) (hwf : d.wf) (hans : allAnswer s d.ops = true) (hfew : d.ops.length ≤ 8 ∧ ∀ y ∈ d.ops, 0 ≤ y.key ∧ y.key ≤ 7 ∧ y.pairs.length ≤ 10) (hc : c' ≤ (k + 1) * 9) : SerK (k + 1) c' (l ++ [d]) (St.steps s d.ops) where
  ser := ser_snoc h.ser h.st h.en (by omega) h1 h2 h3 hans
  st := by rw [List.foldl_append, h.st]; rfl
  en x hx := by
    rcases List.mem_append.1 hx with hx | hx
    · have := h.en x hx
      omega
    · simp only [List.mem_singleton] at hx
      subst hx
      exact h4
  low := h.low.steps fun y hy => ⟨(hfew.2 y hy).1, (hfew.2 y hy).2.1⟩
  len := by simp [h.len]
  ids i hi := by
    by_cases e : i < k
    · rw [getD_app_l (by rw [h.len]; exact e)]
      exact h.ids i e
    · obtain rfl : i = k := by omega
      have := getD_app_r (l := l) (r := d)
      rw [h.len] at this
      rw [this]
      exact hid
  lev x hx := by
    rcases List.mem_append.1 hx with hx | hx
    · exact h.lev x hx
    · simp only [List.mem_singleton] at hx; subst hx; exact hlev
  wf x hx := by
    rcases List.mem_append.1 hx with hx | hx
    · exact h.wf x hx
    · simp only [List.mem_singleton] at hx; subst hx; exact hwf
  few x hx := by
    rcases List.mem_append.1 hx with hx | hx
    · exact h.few x hx
    · simp only [List.mem_singleton] at hx; subst hx; exact hfew
  clock := hc
/-- Within a Deal: the calls that are answered so far, from the state s0. -/
structure InK (s0 : St) (q : Nat) (cs : List Cl) (s : St) : Prop where
  ans : allAnswer s0 cs = true
  st : St.steps s0 cs = s
  low : s.low
  few : cs.length ≤ q
  keys : ∀ y ∈ cs, 0 ≤ y.key ∧ y.key ≤ 7 ∧ y.pairs.length ≤ 10
  wf : ∀ y ∈ cs, y.wf
theorem InK.nil {s0 : St} (h : s0.low) : InK s0 0 [] s0 := ⟨rfl, rfl, h, Nat.le_refl _, by simp, by simp⟩
theorem InK.skip {s0 : St} {q : Nat} {cs : List Cl} {s : St} (h : InK s0 q cs s) : InK s0 (q + 1) cs s := ⟨h.ans, h.st, h.low, Nat.le_succ_of_le h.few, h.keys, h.wf⟩
theorem InK.snoc {s0 : St} {q : Nat} {cs : List Cl} {s : St} {c : Cl} (h : InK s0 q cs s) (ha : answersD s c = true) (hk : 0 ≤ c.key ∧ c.key ≤ 7 ∧ c.pairs.length ≤ 10) (hw : c.wf) : InK s0 (q + 1) (cs ++ [c]) (s.step c) where
  ans := all_snoc h.ans (by rw [h.st]; exact ha)
  st := by
    have h1 := h.st
    unfold St.steps at h1 ⊢
    rw [List.foldl_append, h1]
    rfl
  low := h.low.step hk.1 hk.2.1
  few := by simp; exact h.few
  keys y hy := by
    rcases List.mem_append.1 hy with hy | hy
    · exact h.keys y hy
    · simp only [List.mem_singleton] at hy; subst hy; exact hk
  wf y hy := by
    rcases List.mem_append.1 hy with hy | hy
    · exact h.wf y hy
    · simp only [List.mem_singleton] at hy; subst hy; exact hw
end Go.Proofs.Ytpohehialkgigaa
