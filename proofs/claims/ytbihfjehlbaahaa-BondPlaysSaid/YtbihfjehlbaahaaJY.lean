/- The program's bonds and the document's: what they answer (plain). -/
import Derived.Test.YtbihfjehlbaahaaJV
namespace Go.Proofs.Ytbihfjehlbaahaa
open Go.RowKit
section
variable {s s' : Bs} {r r' : RS}
theorem lookS_app : ∀ {is ss : List Int} {x y v : Int}, ss.length = is.length → x ∉ is → lookS (is ++ [x]) (ss ++ [v]) y = if y = x then v else lookS is ss y
  | [], [], x, y, v, _, _ => by
    simp only [List.nil_append, lookS]
    by_cases e : x = y
    · rw [if_pos e, if_pos e.symm]
    · rw [if_neg e, if_neg (fun k => e k.symm)]
  | [], _ :: _, _, _, _, h, _ => by simp at h
  | _ :: _, [], _, _, _, h, _ => by simp at h
  | i :: is, t :: ss, x, y, v, h, hx => by
    have hx2 : x ∉ is := fun k => hx (by simp [k])
    have hix : i ≠ x := fun k => hx (by simp [k])
    have ih := lookS_app (is := is) (ss := ss) (x := x) (y := y) (v := v) (by simpa using h) hx2
    simp only [List.cons_append, lookS]
    by_cases e : i = y
    · subst e
      rw [if_pos rfl, if_neg hix, if_pos rfl]
    · rw [if_neg e, ih, if_neg e]
theorem Alike.new : Alike Bs.new ⟨[], [], [], []⟩ :=
  ⟨rfl, fun _ h => by simp [Bs.new] at h, fun _ h => by simp [Bs.new] at h, fun _ _ ⟨i, hi, _⟩ => by simp at hi, fun _ h => by simp [Bs.new] at h, fun _ h => by simp [Bs.new] at h⟩
theorem new_rok : (⟨[], [], [], []⟩ : RS).ok := ⟨List.nodup_nil, rfl, rfl, by simp, by simp, by simp⟩
theorem Alike.opens (h : Alike s r) (hs : s.ok) (hr : r.ok) {x c : Int} (ho : ROpen r x c r') : c = s.openE x ∧ Alike (if s.openE x = 0 then s.open_ x else s) r' := by
  unfold Bs.openE
  rw [h.ids]
  rcases ho with ⟨h1, rfl, rfl⟩ | ⟨h1, h2, rfl, rfl⟩ | ⟨h1, h2, h3, rfl, rfl⟩ | ⟨h1, h2, h3, rfl, rfl⟩
  · rw [if_pos h1]
    exact ⟨rfl, h⟩
  · rw [if_neg (by omega), if_pos h2]
    exact ⟨rfl, h⟩
  · rw [if_neg (by omega), if_neg h2, if_pos h3]
    exact ⟨rfl, h⟩
  · rw [if_neg (by omega), if_neg h2, if_neg (by omega)]
    refine ⟨rfl, ?_⟩
    rw [if_pos rfl]
    have hne : ∀ y ∈ s.ids, y ≠ x := fun y hy e => h2 (by rw [← h.ids, ← e]; exact hy)
    have hm : ∀ y, y ∈ (s.open_ x).ids ↔ y ∈ s.ids ∨ y = x := fun y => by simp [Bs.open_]
    have hst : ∀ y, (r.open_ x).stOf y = if y = x then 1 else r.stOf y := fun y => lookS_app hr.slen h2
    refine ⟨by simp [Bs.open_, RS.open_, h.ids], fun y hy => ?_, fun y hy z => ?_, fun y z hb => (hm y).2 (.inl (h.own y z hb)), fun y hy h3 z hz => ?_, fun y hy z hz h3 => ?_⟩
    · rw [hst]
      simp only [Bs.open_]
      by_cases e : y = x
      · rw [if_pos e, if_pos e]
      · rw [if_neg e, if_neg e]
        exact h.st y (((hm y).1 hy).resolve_right e)
    · have hb : (r.open_ x).bond y z ↔ r.bond y z := Iff.rfl
      rw [hb]
      simp only [Bs.open_]
      by_cases e : y = x
      · rw [if_pos e]
        exact ⟨fun k => by simp at k, fun k => absurd e (hne y (h.own y z k))⟩
      · rw [if_neg e]
        exact h.on y (((hm y).1 hy).resolve_right e) z
    · simp only [Bs.open_] at h3 hz ⊢
      by_cases e : y = x
      · rw [if_pos e] at hz; simp at hz
      · rw [if_neg e] at h3 hz
        have hyi := ((hm y).1 hy).resolve_right e
        rw [if_neg (hne z (hs.on y hyi z hz))]
        exact h.good y hyi h3 z hz
    · simp only [Bs.open_] at h3 hz ⊢
      by_cases e : y = x
      · rw [if_pos e] at hz; simp at hz
      · rw [if_neg e] at hz ⊢
        have hyi := ((hm y).1 hy).resolve_right e
        rw [if_neg (hne z (hs.on y hyi z hz))] at h3
        exact h.bad y hyi z hz h3
theorem Alike.binds (h : Alike s r) (hs : s.ok) (hr : r.ok) {x y c n : Int} (hb : BindTo s x y c s') (hq : RBind r x y n r') : c = n ∧ Alike s' r' := by
  have hid := h.ids
  cases hq with
  | none k =>
    obtain ⟨rfl, rfl⟩ := hb.none_of (by rw [hid]; exact (Classical.not_and_iff_not_or_not.1 k))
    exact ⟨rfl, h⟩
  | same h1 h2 =>
    obtain ⟨rfl, rfl⟩ := hb.same_of (hid ▸ h1) (hid ▸ h2 ▸ h1) h2
    exact ⟨rfl, h⟩
  | over h1 h2 h3 h4 =>
    rw [← hid] at h1 h2
    rw [← h.st x h1] at h4
    obtain ⟨rfl, rfl⟩ := hb.over_of h1 h2 h3 (by omega)
    exact ⟨rfl, h⟩
  | had h1 h2 h3 h4 h5 =>
    rw [← hid] at h1 h2
    rw [← h.st x h1] at h4
    rw [← h.st y h2] at h5
    have hx := hs.state x h1
    obtain ⟨rfl, rfl⟩ := hb.had_of h1 h2 h3 (by omega) (h5.imp id (fun k => (h.on x h1 y).2 k.1))
    exact ⟨rfl, h⟩
  | late h1 h2 h3 h4 h5 h6 hd =>
    rw [← hid] at h1 h2
    rw [← h.st x h1] at h4
    rw [← h.st y h2] at h5 h6
    have hx := hs.state x h1
    obtain ⟨rfl, P, hP, rfl⟩ := hb.bad_of h1 h2 h3 (by omega) (fun k => h5 (.inr ⟨(h.on x h1 y).1 k, by omega⟩)) h6
    exact ⟨rfl, h.doomed hs h1 (by omega) hP hd⟩
  | loop h1 h2 h3 h4 h5 h6 hw =>
    rw [← hid] at h1 h2
    rw [← h.st x h1] at h4
    rw [← h.st y h2] at h5 h6
    have hx := hs.state x h1
    have hy := hs.state y h2
    have hx3 : s.st x ≠ 3 := by omega
    have hno : y ∉ s.on x := fun k => h5 (by
      by_cases e : s.st y = 3
      · exact .inl e
      · exact .inr ⟨(h.on x h1 y).1 k, e⟩)
    have hre := (h.reach hs h2 hx3).2 hw
    cases hb with
    | none k => exact absurd k (by simp [h1, h2])
    | same _ _ k => exact absurd k h3
    | over _ _ _ k => omega
    | had _ _ _ _ k => rcases k with k | k; exact absurd (.inl k) h5; exact absurd k hno
    | bad _ _ _ _ _ k => omega
    | loop => exact ⟨rfl, h⟩
    | put _ _ _ _ _ _ k => exact absurd hre k
    | doom _ _ _ _ _ _ k => exact absurd hre k
  | put h1 h2 h3 h4 h5 h6 hw hd hn =>
    rw [← hid] at h1 h2
    rw [← h.st x h1] at h4
    rw [← h.st y h2] at h5 h6 hd hn
    have hx := hs.state x h1
    have hy := hs.state y h2
    have hx3 : s.st x ≠ 3 := by omega
    have hno : y ∉ s.on x := fun k => h5 (by
      by_cases e : s.st y = 3
      · exact .inl e
      · exact .inr ⟨(h.on x h1 y).1 k, e⟩)
    have hre : ¬ Reach s y x := fun k => hw ((h.reach hs h2 hx3).1 k)
    cases hb with
    | none k => exact absurd k (by simp [h1, h2])
    | same _ _ k => exact absurd k h3
    | over _ _ _ k => omega
    | had _ _ _ _ k => rcases k with k | k; exact absurd (.inl k) h5; exact absurd k hno
    | bad _ _ _ _ _ k => omega
    | loop _ _ _ _ _ _ k => exact absurd k hre
    | put _ _ _ _ _ k =>
      have := hn (by omega)
      subst this
      exact ⟨rfl, h.bound hr.tlen h1 hx3 (fun k2 => by omega)⟩
    | @doom P _ _ _ _ _ k _ hP =>
      have hP2 : ∀ z, z ∈ P ↔ Doom s x z := fun z => by rw [hP, doom_bound]
      have hA := h.doomed hs h1 hx3 hP2 (hd k)
      obtain ⟨l, _, hD⟩ := hd k
      refine ⟨rfl, ?_⟩
      have hst : (s.doomed P).st x = 2 := by
        simp only [Bs.doomed]
        by_cases e : s.st x = 1
        · rw [if_pos ⟨(hP2 x).2 .self, e⟩]
        · rw [if_neg (fun q => e q.2)]; omega
      have hbr : Alike ((s.doomed P).bound x y) (RS.bind _ x y) := hA.bound (by rw [hD.fr, hD.tt]; exact hr.tlen) h1 (by rw [hst]; omega) (fun _ => .inl hst)
      exact hbr
theorem Alike.goods (h : Alike s r) (hs : s.ok) {x c n : Int} {l m : List Int} (hb : GoodTo s x c l s') (hq : RGood r x n m r') : c = n ∧ l = m ∧ Alike s' r' := by
  have hid := h.ids
  cases hq with
  | none k =>
    obtain ⟨rfl, rfl, rfl⟩ := hb.none_of (by rw [hid]; exact k)
    exact ⟨rfl, rfl, h⟩
  | over h1 h2 =>
    rw [← hid] at h1
    rw [← h.st x h1] at h2
    obtain ⟨rfl, rfl, rfl⟩ := hb.over_of h1 h2
    exact ⟨rfl, rfl, h⟩
  | wait h1 h2 h3 =>
    rw [← hid] at h1
    rw [← h.st x h1] at h2
    have := (h.step hs h1).1 h3
    obtain ⟨rfl, rfl, rfl⟩ := hb.wait_of h1 h2 this.1 this.2
    exact ⟨rfl, rfl, h⟩
  | good h1 h2 h3 h4 h5 =>
    rw [← hid] at h1
    rw [← h.st x h1] at h2
    have hall : ∀ z ∈ s.on x, s.st z = 3 := fun z hz => by
      refine Classical.byContradiction fun e => h3 z ((h.step hs h1).2 ⟨hz, e⟩)
    obtain ⟨rfl, rfl, hl⟩ := hb.good_of h1 h2 hall
    have hb' : ∀ a b, r'.bond a b ↔ r.bond a b := fun a b => by unfold RS.bond; rw [h5.fr, h5.tt]
    have hst : ∀ y, (s.turn x 3).st y = if y = x then 3 else s.st y := fun _ => rfl
    refine ⟨rfl, hl.eq h4 (fun z => ?_), h.ids.trans h5.ids.symm, fun y hy => ?_, fun y hy z => by rw [hb']; exact h.on y hy z, fun y z k => h.own y z ((hb' y z).1 k), fun y hy k z hz => ?_, fun y hy z hz k => ?_⟩
    · unfold Bs.frees RS.freed
      rw [← hid]
      constructor
      · rintro ⟨hz, hzo, hxz, ha⟩
        have hzx : z ≠ x := fun e => by rw [hst, if_pos e] at hzo; omega
        rw [hst, if_neg hzx, h.st z hz] at hzo
        have hstep : r.step z x := (h.step hs hz).2 ⟨hxz, by omega⟩
        refine ⟨hz, hzo, hstep, [x], ⟨by simp, fun y => ?_⟩, rfl⟩
        rw [List.mem_singleton]
        constructor
        · rintro rfl; exact hstep
        · intro hy
          refine Classical.byContradiction fun e => ?_
          have hy2 := (h.step hs hz).1 hy
          have := ha y hy2.1
          rw [hst, if_neg e] at this
          exact hy2.2 this
      · rintro ⟨hz, hzo, hstep, L, hL, hL1⟩
        have hzx : z ≠ x := fun e => h3 x (e ▸ hstep)
        have hxz := (h.step hs hz).1 hstep
        refine ⟨hz, by rw [hst, if_neg hzx, h.st z hz]; exact hzo, hxz.1, fun y hy => ?_⟩
        rw [hst]
        by_cases e : y = x
        · rw [if_pos e]
        · rw [if_neg e]
          refine Classical.byContradiction fun k => ?_
          have hyL := (hL.2 y).2 ((h.step hs hz).2 ⟨hy, k⟩)
          have hxL := (hL.2 x).2 hstep
          obtain ⟨q, rfl⟩ := List.length_eq_one_iff.1 hL1
          rw [List.mem_singleton] at hyL hxL
          exact e (hyL.trans hxL.symm)
    · rw [h5.st, hst]
      by_cases e : y = x
      · rw [if_pos e, if_pos e]
      · rw [if_neg e, if_neg e]; exact h.st y hy
    · rw [hst] at k ⊢
      by_cases e : z = x
      · rw [if_pos e]
      · rw [if_neg e]
        by_cases e2 : y = x
        · exact hall z (e2 ▸ hz)
        · rw [if_neg e2] at k; exact h.good y hy k z hz
    · rw [hst] at k ⊢
      by_cases e : z = x
      · rw [if_pos e] at k; omega
      · rw [if_neg e] at k
        by_cases e2 : y = x
        · have := hall z (e2 ▸ hz); omega
        · rw [if_neg e2]; exact h.bad y hy z hz k
theorem Alike.bads (h : Alike s r) (hs : s.ok) {x c n : Int} {l m : List Int} (hb : BadTo s x c l s') (hq : RBad r x n m r') : c = n ∧ l = m ∧ Alike s' r' := by
  have hid := h.ids
  cases hq with
  | none k =>
    obtain ⟨rfl, rfl, rfl⟩ := hb.none_of (by rw [hid]; exact k)
    exact ⟨rfl, rfl, h⟩
  | over h1 h2 =>
    rw [← hid] at h1
    rw [← h.st x h1] at h2
    obtain ⟨rfl, rfl, rfl⟩ := hb.over_of h1 (by omega)
    exact ⟨rfl, rfl, h⟩
  | @bad L r1 _ h1 h2 h3 h4 h5 =>
    rw [← hid] at h1
    rw [← h.st x h1] at h2
    have hx := hs.state x h1
    have hx3 : s.st x ≠ 3 := by omega
    obtain ⟨rfl, P, hP, hl, rfl⟩ := hb.bad_of h1 (by omega)
    have hA := h.doomed hs h1 hx3 hP ⟨L, h3, h4⟩
    have hb' : ∀ a b, r'.bond a b ↔ r1.bond a b := fun a b => by unfold RS.bond; rw [h5.fr, h5.tt]
    have hst : ∀ y, ((s.doomed P).turn x 4).st y = if y = x then 4 else (s.doomed P).st y := fun _ => rfl
    refine ⟨rfl, hl.eq (rise_filter h3 _) (fun z => ?_), hA.ids.trans h5.ids.symm, fun y hy => ?_, fun y hy z => by rw [hb']; exact hA.on y hy z, fun y z k => hA.own y z ((hb' y z).1 k), fun y hy k z hz => ?_, fun y hy z hz k => ?_⟩
    · rw [← h.hit hs h1 hx3 z]
      simp only [bne_iff_ne, ne_eq, and_assoc]
    · rw [h5.st, hst]
      by_cases e : y = x
      · rw [if_pos e, if_pos e]
      · rw [if_neg e, if_neg e]; exact hA.st y hy
    · rw [hst] at k ⊢
      by_cases e2 : y = x
      · rw [if_pos e2] at k; omega
      · rw [if_neg e2] at k
        have hz3 := hA.good y hy k z hz
        by_cases e : z = x
        · exfalso
          rw [e] at hz3
          simp only [Bs.doomed] at hz3
          by_cases q : x ∈ P ∧ s.st x = 1
          · rw [if_pos q] at hz3; omega
          · rw [if_neg q] at hz3; exact hx3 hz3
        · rw [if_neg e]; exact hz3
    · rw [hst] at k ⊢
      by_cases e2 : y = x
      · rw [if_pos e2]; exact .inr rfl
      · rw [if_neg e2]
        by_cases e : z = x
        · have hzx : (s.doomed P).st x = 2 := by
            simp only [Bs.doomed]
            by_cases q : s.st x = 1
            · rw [if_pos ⟨(hP x).2 .self, q⟩]
            · rw [if_neg (fun g => q g.2)]; omega
          exact hA.bad y hy z hz (by rw [e]; exact .inl hzx)
        · rw [if_neg e] at k
          exact hA.bad y hy z hz k
end
end Go.Proofs.Ytbihfjehlbaahaa
