/- doom, plain: who waits, itself or by others that are open, for one. -/
import Derived.Test.YtbihfjehlbaahaaJ6
namespace Go.Proofs.Ytbihfjehlbaahaa
open Go.RowKit

/-- Whom it takes along where one is doomed. -/
inductive Doom (s : Bs) (a : Int) : Int → Prop where
  | self : Doom s a a
  | step {x y : Int} : Doom s a x → y ∈ s.ids → s.st y = 1 → x ∈ s.on y → Doom s a y
/-- P: taken from the row so far; T: still in it. Of z those that are no longer left are done. -/
structure DI (s : Bs) (a : Int) (P T : List Int) (z : Int) (left : Int → Bool) : Prop where
  nd : (P ++ T).Nodup
  sub : ∀ x ∈ P ++ T, x ∈ s.ids ∧ Doom s a x
  ain : a ∈ P ++ T
  clo : ∀ x ∈ P, ∀ y ∈ s.ids, (x = z → left y = false) → s.st y = 1 → x ∈ s.on y → y ∈ P ++ T
/-- The bonds once those of P that were open are doomed. -/
def Bs.doomed (s : Bs) (P : List Int) : Bs := ⟨s.ids, fun y => if y ∈ P ∧ s.st y = 1 then 2 else s.st y, s.on⟩
def Bs.outOf (s : Bs) (P : List Int) : List Int := P.filter fun y => decide (s.st y = 1)
theorem DI.start {s : Bs} {a : Int} (h : a ∈ s.ids) : DI s a [] [a] a (fun _ => false) where
  nd := by simp
  sub x hx := by simp at hx; subst hx; exact ⟨h, .self⟩
  ain := by simp
  clo x hx := by simp at hx
theorem DI.pop {s : Bs} {a x z : Int} {P T : List Int} (h : DI s a P (x :: T) z (fun _ => false)) : DI s a (P ++ [x]) T x (fun _ => true) where
  nd := by simpa using h.nd
  sub y hy := h.sub y (by simpa using hy)
  ain := by simpa using h.ain
  clo y hy u hu hl h1 h2 := by
    rcases List.mem_append.1 hy with hy | hy
    · by_cases e : y = x
      · exact absurd (hl e) (by simp)
      · simpa using h.clo y hy u hu (fun _ => rfl) h1 h2
    · simp only [List.mem_singleton] at hy
      exact absurd (hl hy) (by simp)
theorem DI.skip {s : Bs} {a z y : Int} {P T : List Int} {left left' : Int → Bool} (h : DI s a P T z left) (hl : ∀ u, left' u = false → u = y ∨ left u = false) (hy : s.st y = 1 → z ∈ s.on y → y ∈ P ++ T) : DI s a P T z left' where
  nd := h.nd
  sub := h.sub
  ain := h.ain
  clo x hx u hu hz h1 h2 := by
    by_cases e : x = z
    · rcases hl u (hz e) with rfl | hu2
      · exact hy h1 (e ▸ h2)
      · exact h.clo x hx u hu (fun _ => hu2) h1 h2
    · exact h.clo x hx u hu (fun e2 => absurd e2 e) h1 h2
theorem DI.push {s : Bs} {a z y : Int} {P T : List Int} {left left' : Int → Bool} (h : DI s a P T z left) (hl : ∀ u, left' u = false → u = y ∨ left u = false) (hz : z ∈ P) (hi : y ∈ s.ids) (h1 : s.st y = 1) (h2 : z ∈ s.on y) (hn : y ∉ P ++ T) : DI s a P (T ++ [y]) z left' where
  nd := by
    rw [← List.append_assoc]
    exact List.nodup_append.2 ⟨h.nd, by simp, fun p hp q hq => by simp only [List.mem_singleton] at hq; subst hq; exact fun e => hn (e ▸ hp)⟩
  sub x hx := by
    rw [← List.append_assoc] at hx
    rcases List.mem_append.1 hx with hx | hx
    · exact h.sub x hx
    · simp only [List.mem_singleton] at hx
      subst hx
      exact ⟨hi, .step (h.sub z (List.mem_append_left _ hz)).2 hi h1 h2⟩
  ain := by rw [← List.append_assoc]; exact List.mem_append_left _ h.ain
  clo x hx u hu hzl g1 g2 := by
    rw [← List.append_assoc]
    by_cases e : x = z
    · rcases hl u (hzl e) with rfl | hu2
      · simp
      · exact List.mem_append_left _ (h.clo x hx u hu (fun _ => hu2) g1 g2)
    · exact List.mem_append_left _ (h.clo x hx u hu (fun e2 => absurd e2 e) g1 g2)
theorem DI.all {s : Bs} {a z : Int} {P : List Int} (h : DI s a P [] z (fun _ => false)) : ∀ y, y ∈ P ↔ Doom s a y := by
  intro y
  refine ⟨fun hy => (h.sub y (by simpa using hy)).2, fun hy => ?_⟩
  induction hy with
  | self => simpa using h.ain
  | step _ hi h1 h2 ih => simpa using h.clo _ ih _ hi (fun _ => rfl) h1 h2
theorem DI.weak {s : Bs} {a z : Int} {P T : List Int} {left left' : Int → Bool} (h : DI s a P T z left) (hl : ∀ u ∈ s.ids, left' u = false → left u = false) : DI s a P T z left' where
  nd := h.nd
  sub := h.sub
  ain := h.ain
  clo x hx u hu hz h1 h2 := h.clo x hx u hu (fun e => hl u hu (hz e)) h1 h2
theorem DI.len {s : Bs} {a z : Int} {P T : List Int} {left : Int → Bool} (h : DI s a P T z left) : P.length + T.length ≤ s.ids.length := by
  have := nodup_le h.nd (fun x hx => (h.sub x hx).1)
  simpa using this
theorem doomed_good {s : Bs} (h : s.ok) (P : List Int) : (s.doomed P).ok where
  nodup := h.nodup
  pos := h.pos
  state x hx := by
    simp only [Bs.doomed]
    by_cases e : x ∈ P ∧ s.st x = 1
    · rw [if_pos e]; omega
    · rw [if_neg e]; exact h.state x hx
  on := h.on
  short := h.short
  few := h.few
  ond := h.ond
theorem doomed_nil (s : Bs) : s.doomed [] = s := by simp [Bs.doomed]
theorem doomed_st {s : Bs} {P : List Int} {y : Int} : (s.doomed P).st y = 1 ↔ s.st y = 1 ∧ y ∉ P := by
  simp only [Bs.doomed]
  by_cases e : y ∈ P ∧ s.st y = 1
  · rw [if_pos e]; constructor
    · intro h; omega
    · intro h; exact absurd e.1 h.2
  · rw [if_neg e]; exact ⟨fun h => ⟨h, fun hp => e ⟨hp, h⟩⟩, fun h => h.1⟩
theorem doomed_open {s : Bs} {P : List Int} {x : Int} (h : s.st x = 1) : s.doomed (P ++ [x]) = ⟨s.ids, fun y => if y = x then 2 else (s.doomed P).st y, s.on⟩ := by
  simp only [Bs.doomed, Bs.mk.injEq, true_and, and_true]
  funext y
  by_cases e : y = x
  · subst e; simp [h]
  · simp [e]
theorem doomed_shut {s : Bs} {P : List Int} {x : Int} (h : s.st x ≠ 1) : s.doomed (P ++ [x]) = s.doomed P := by
  simp only [Bs.doomed, Bs.mk.injEq, true_and, and_true]
  funext y
  by_cases e : y = x
  · subst e; simp [h]
  · simp [e]
theorem outOf_open {s : Bs} {P : List Int} {x : Int} (h : s.st x = 1) : s.outOf (P ++ [x]) = s.outOf P ++ [x] := by simp [Bs.outOf, h]
theorem outOf_shut {s : Bs} {P : List Int} {x : Int} (h : s.st x ≠ 1) : s.outOf (P ++ [x]) = s.outOf P := by simp [Bs.outOf, h]
end Go.Proofs.Ytbihfjehlbaahaa
