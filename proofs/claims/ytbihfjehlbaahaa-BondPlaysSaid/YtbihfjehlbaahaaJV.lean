/- The program's bonds and the document's: one and the same (plain). -/
import Derived.Test.YtbihfjehlbaahaaJU
import Derived.Test.YtbihfjehlbaahaaJH
namespace Go.Proofs.Ytbihfjehlbaahaa
open Go.RowKit
structure Alike (s : Bs) (r : RS) : Prop where
  ids : s.ids = r.ids
  st : ∀ x ∈ s.ids, s.st x = r.stOf x
  on : ∀ x ∈ s.ids, ∀ y, y ∈ s.on x ↔ r.bond x y
  own : ∀ x y, r.bond x y → x ∈ s.ids
  good : ∀ x ∈ s.ids, s.st x = 3 → ∀ y ∈ s.on x, s.st y = 3
  bad : ∀ x ∈ s.ids, ∀ y ∈ s.on x, (s.st y = 2 ∨ s.st y = 4) → (s.st x = 2 ∨ s.st x = 4)
section
variable {s s' : Bs} {r r' : RS}
theorem Alike.stOf (h : Alike s r) (x : Int) : s.stOf x = r.stOf x := by
  unfold Bs.stOf
  by_cases hx : x ∈ s.ids
  · rw [if_pos hx, h.st x hx]
  · rw [if_neg hx, RS.stOf, lookS_out (by rw [← h.ids]; exact hx)]
theorem Alike.step (h : Alike s r) (hs : s.ok) {x y : Int} (hx : x ∈ s.ids) : r.step x y ↔ y ∈ s.on x ∧ s.st y ≠ 3 := by
  unfold RS.step
  rw [← h.on x hx y]
  exact ⟨fun ⟨a, b⟩ => ⟨a, by rw [h.st y (hs.on x hx y a)]; exact b⟩, fun ⟨a, b⟩ => ⟨a, by rw [← h.st y (hs.on x hx y a)]; exact b⟩⟩
theorem Alike.forOf (h : Alike s r) (hs : s.ok) (x : Int) : Rise (s.forOf x) (r.step x) := by
  unfold Bs.forOf
  by_cases hx : x ∈ s.ids
  · rw [if_pos hx]
    refine sortI_rise ((hs.ond x hx).filter _) (fun y => ?_)
    rw [h.step hs hx]
    unfold Bs.waits
    rw [List.mem_filter]
    simp
  · rw [if_neg hx]
    exact ⟨List.Pairwise.nil, fun y => ⟨fun h => by simp at h, fun hy => absurd (h.own x y hy.1) hx⟩⟩
theorem Alike.way_in (h : Alike s r) (hs : s.ok) {a x : Int} (hw : r.Way a x) : a ∈ s.ids ∧ x ∈ s.ids ∧ s.st x ≠ 3 := by
  induction hw with
  | one hst =>
    have ha := h.own _ _ hst.1
    have := (h.step hs ha).1 hst
    exact ⟨ha, hs.on _ ha _ this.1, this.2⟩
  | more _ hst ih =>
    have := (h.step hs ih.2.1).1 hst
    exact ⟨ih.1, hs.on _ ih.2.1 _ this.1, this.2⟩
theorem Alike.reach (h : Alike s r) (hs : s.ok) {a x : Int} (ha : a ∈ s.ids) (hx : s.st x ≠ 3) : Reach s a x ↔ r.Way a x := by
  constructor
  · intro hr
    have hin : ∀ {y}, Reach s a y → y ∈ s.ids := fun hy => by
      induction hy with
      | one h1 => exact hs.on _ ha _ h1
      | more _ h1 ih => exact hs.on _ ih _ h1
    induction hr with
    | one h1 => exact .one ((h.step hs ha).2 ⟨h1, hx⟩)
    | more hy h1 ih => exact .more (ih (fun e => hx (h.good _ (hin hy) e _ h1))) ((h.step hs (hin hy)).2 ⟨h1, hx⟩)
  · intro hw
    clear hx
    induction hw with
    | one hst => exact .one ((h.step hs ha).1 hst).1
    | more hy hst ih => exact .more ih ((h.step hs (h.way_in hs hy).2.1).1 hst).1
theorem way_head {a b x : Int} (hs : r.step a b) (hw : r.Way b x) : r.Way a x := by
  induction hw with
  | one h1 => exact .more (.one hs) h1
  | more _ h1 ih => exact .more ih h1
theorem doom_trans {a b x : Int} (h1 : Doom s a b) (h2 : Doom s b x) : Doom s a x := by
  induction h2 with
  | self => exact h1
  | step _ a b c ih => exact .step ih a b c
/-- Whom the program dooms and whom the document dooms. -/
theorem Alike.hit (h : Alike s r) (hs : s.ok) {a : Int} (ha : a ∈ s.ids) (h3 : s.st a ≠ 3) (x : Int) : (Doom s a x ∧ s.st x = 1) ↔ r.hit a x := by
  constructor
  · rintro ⟨hd, hx⟩
    have hg : x = a ∨ (r.Way x a ∧ x ∈ s.ids) := by
      clear hx
      induction hd with
      | self => exact .inl rfl
      | @step y z hy hz hz1 hyz ih =>
        refine .inr ⟨?_, hz⟩
        rcases ih with rfl | ⟨hw, hyi⟩
        · exact .one ((h.step hs hz).2 ⟨hyz, h3⟩)
        · refine way_head ((h.step hs hz).2 ⟨hyz, ?_⟩) hw
          intro e
          cases hy with
          | self => exact h3 e
          | step _ _ h1 _ => omega
    rcases hg with rfl | ⟨hw, hi⟩
    · exact ⟨h.ids ▸ ha, .inl rfl, by rw [← h.st _ ha]; exact hx⟩
    · exact ⟨h.ids ▸ hi, .inr hw, by rw [← h.st _ hi]; exact hx⟩
  · rintro ⟨hi, hw, h1⟩
    rw [← h.ids] at hi
    rw [← h.st x hi] at h1
    refine ⟨?_, h1⟩
    rcases hw with rfl | hw
    · exact .self
    · have hall : ∀ {y}, r.Way x y → s.st y = 1 ∧ Doom s y x := fun hy => by
        have one : ∀ {p q : Int}, p ∈ s.ids → s.st p = 1 → r.step p q → s.st q = 1 ∧ Doom s q p := fun {p q} hp hp1 hst => by
          have hq := (h.step hs hp).1 hst
          have hst4 := hs.state q (hs.on p hp q hq.1)
          have hb := h.bad p hp q hq.1
          exact ⟨by omega, .step .self hp hp1 hq.1⟩
        induction hy with
        | one hst => exact one hi h1 hst
        | more hy hst ih =>
          have := one (h.way_in hs hy).2.1 ih.1 hst
          exact ⟨this.1, doom_trans this.2 ih.2⟩
      exact (hall hw).2
theorem doom_bound {a t x : Int} : Doom (s.bound a t) a x ↔ Doom s a x := by
  constructor
  · intro h
    induction h with
    | self => exact .self
    | @step y z _ hz h1 hyz ih =>
      by_cases e : z = a
      · subst e; exact .self
      · refine .step ih hz h1 ?_
        simpa [Bs.bound, e] using hyz
  · intro h
    induction h with
    | self => exact .self
    | @step y z _ hz h1 hyz ih =>
      refine .step ih hz h1 ?_
      simp only [Bs.bound]
      by_cases e : z = a
      · rw [if_pos e]; exact List.mem_append.2 (.inl hyz)
      · rw [if_neg e]; exact hyz
/-- After doom. -/
theorem Alike.doomed (h : Alike s r) (hs : s.ok) {a : Int} (ha : a ∈ s.ids) (h3 : s.st a ≠ 3) {P : List Int} (hP : ∀ y, y ∈ P ↔ Doom s a y) (hd : RDoom r a r') : Alike (s.doomed P) r' := by
  obtain ⟨l, hl, hD⟩ := hd
  have hst : ∀ x, x ∈ s.ids → (s.doomed P).st x = r'.stOf x := fun x hx => by
    rw [hD.st x (h.ids ▸ hx)]
    simp only [Bs.doomed]
    have e : (x ∈ P ∧ s.st x = 1) ↔ x ∈ l := by rw [hP, h.hit hs ha h3 x, hl.2]
    by_cases k : x ∈ l
    · rw [if_pos k, if_pos (e.2 k)]
    · rw [if_neg k, if_neg (fun g => k (e.1 g)), h.st x hx]
  have hb : ∀ x y, r'.bond x y ↔ r.bond x y := fun x y => by unfold RS.bond; rw [hD.fr, hD.tt]
  refine ⟨h.ids.trans hD.ids.symm, hst, fun x hx y => by rw [hb]; exact h.on x hx y, fun x y hxy => h.own x y ((hb x y).1 hxy), fun x hx h1 y hy => ?_, fun x hx y hy h1 => ?_⟩
  · simp only [Bs.doomed] at h1 hy ⊢
    have hx3 : s.st x = 3 := by
      by_cases k : x ∈ P ∧ s.st x = 1
      · rw [if_pos k] at h1; omega
      · rw [if_neg k] at h1; exact h1
    have := h.good x hx hx3 y hy
    rw [if_neg (fun k => by omega)]
    exact this
  · simp only [Bs.doomed] at h1 hy ⊢
    have hyi := hs.on x hx y hy
    by_cases kx : x ∈ P ∧ s.st x = 1
    · rw [if_pos kx]; exact .inl rfl
    · rw [if_neg kx]
      by_cases ky : y ∈ P ∧ s.st y = 1
      · have hx4 := hs.state x hx
        have hg := h.good x hx
        by_cases hx1 : s.st x = 1
        · exact absurd ⟨(hP x).2 (.step ((hP y).1 ky.1) hx hx1 hy), hx1⟩ kx
        · have : s.st x ≠ 3 := fun e => by have := hg e y hy; omega
          omega
      · rw [if_neg ky] at h1
        exact h.bad x hx y hy h1
/-- After a bond that is told. -/
theorem Alike.bound (h : Alike s r) (hr : r.tt.length = r.fr.length) {a t : Int} (ha : a ∈ s.ids) (h3 : s.st a ≠ 3) (hb : (s.st t = 2 ∨ s.st t = 4) → (s.st a = 2 ∨ s.st a = 4)) : Alike (s.bound a t) (r.bind a t) := by
  have hbond : ∀ x y, (r.bind a t).bond x y ↔ r.bond x y ∨ (x = a ∧ y = t) := fun x y => by
    unfold RS.bond RS.bind
    have e1 : ∀ i, i < r.fr.length → (r.fr ++ [a]).getD i 0 = r.fr.getD i 0 := fun i hi => getD_app hi a
    have e2 : ∀ i, i < r.fr.length → (r.tt ++ [t]).getD i 0 = r.tt.getD i 0 := fun i hi => getD_app (by rw [hr]; exact hi) t
    have e3 : (r.fr ++ [a]).getD r.fr.length 0 = a := by simp
    have e4 : (r.tt ++ [t]).getD r.fr.length 0 = t := by rw [← hr]; simp
    constructor
    · rintro ⟨i, hi, g1, g2⟩
      by_cases hl : i < r.fr.length
      · exact .inl ⟨i, hl, (e1 i hl) ▸ g1, (e2 i hl) ▸ g2⟩
      · have : i = r.fr.length := by simp at hi; omega
        subst this
        rw [e3] at g1
        rw [e4] at g2
        exact .inr ⟨g1.symm, g2.symm⟩
    · rintro (⟨i, hi, g1, g2⟩ | ⟨rfl, rfl⟩)
      · exact ⟨i, by simp; omega, (e1 i hi).trans g1, (e2 i hi).trans g2⟩
      · exact ⟨r.fr.length, by simp, e3, e4⟩
  have hon : ∀ x y, y ∈ (s.bound a t).on x ↔ y ∈ s.on x ∨ (x = a ∧ y = t) := fun x y => by
    simp only [Bs.bound]
    by_cases e : x = a
    · rw [if_pos e, List.mem_append, List.mem_singleton]; simp [e]
    · rw [if_neg e]; simp [e]
  refine ⟨h.ids, h.st, fun x hx y => by rw [hon, hbond, h.on x hx], fun x y hxy => ?_, fun x hx h1 y hy => ?_, fun x hx y hy h1 => ?_⟩
  · rcases (hbond x y).1 hxy with k | ⟨rfl, _⟩
    · exact h.own x y k
    · exact ha
  · rcases (hon x y).1 hy with k | ⟨rfl, _⟩
    · exact h.good x hx h1 y k
    · exact absurd h1 h3
  · rcases (hon x y).1 hy with k | ⟨rfl, rfl⟩
    · exact h.bad x hx y k h1
    · exact hb h1
end
end Go.Proofs.Ytbihfjehlbaahaa
