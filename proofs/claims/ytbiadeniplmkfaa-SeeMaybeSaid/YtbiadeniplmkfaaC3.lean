/- SeeMaybe: what a told transaction's other state turns; told ones in a row that the call itself makes. -/
import Derived.Test.YtbiadeniplmkfaaF0
import Derived.Test.YtbiadeniplmkfaaO0
namespace Go.Proofs.Ytbiadeniplmkfaa
open Go.RowKit

/-- One told otherwise. -/
def turnS (l : List Oth) (i : Nat) (s : Int) : List Oth := l.set i ⟨(l.getD i zeroOth).there, ⟨(l.getD i zeroOth).tx.lv, s, (l.getD i zeroOth).tx.bg, (l.getD i zeroOth).tx.en⟩⟩
theorem turn_len (l : List Oth) (i : Nat) (s : Int) : (turnS l i s).length = l.length := by simp [turnS]
theorem turn_get {l : List Oth} {i : Nat} (s : Int) (hi : i < l.length) (j : Nat) : (turnS l i s).getD j zeroOth = if j = i then ⟨(l.getD i zeroOth).there, ⟨(l.getD i zeroOth).tx.lv, s, (l.getD i zeroOth).tx.bg, (l.getD i zeroOth).tx.en⟩⟩ else l.getD j zeroOth := by
  unfold turnS
  by_cases h : j = i
  · subst h
    simp [List.getD_eq_getElem?_getD, hi]
  · rw [if_neg h]
    simp [List.getD_eq_getElem?_getD, List.getElem?_set_ne (fun e => h e.symm)]
/-- What L' tells is what L tells, but of one. -/
def TurnOf (L L' : Int → Tx × Bool) (id s : Int) : Prop := ∀ n, L' n = if n = id then (⟨(L id).1.lv, s, (L id).1.bg, (L id).1.en⟩, true) else L n
theorem turn_look {l : List Oth} {i : Nat} (s : Int) (hi : i < l.length) (ht : (l.getD i zeroOth).there = true) : TurnOf (lookS l) (lookS (turnS l i s)) ((i : Int) + 1) s := by
  intro n
  have hown : lookS l ((i : Int) + 1) = ((l.getD i zeroOth).tx, true) := by
    unfold lookS
    rw [show (((i : Int) + 1 - 1).toNat) = i by omega, if_pos ⟨by omega, by omega, ht⟩]
  by_cases h : n = (i : Int) + 1
  · rw [if_pos h, hown]
    subst h
    unfold lookS
    rw [show (((i : Int) + 1 - 1).toNat) = i by omega, turn_len, turn_get s hi, if_pos rfl, if_pos ⟨by omega, by omega, ht⟩]
  · rw [if_neg h]
    unfold lookS
    rw [turn_len]
    by_cases hb : 1 ≤ n ∧ n ≤ l.length
    · have hg : (turnS l i s).getD (n - 1).toNat zeroOth = l.getD (n - 1).toNat zeroOth := by rw [turn_get s hi, if_neg (by omega)]
      rw [hg]
    · rw [if_neg (fun x => hb ⟨x.1, x.2.1⟩), if_neg (fun x => hb ⟨x.1, x.2.1⟩)]

theorem word_other {L L' : Int → Tx × Bool} {id s : Int} (h : TurnOf L L' id s) {x : Int} (hx : ¬ (rdK x = 2 ∧ rdN x = id)) (me at_ o : Int) : wordK L' x me at_ o = wordK L x me at_ o := by
  unfold wordK
  by_cases h2 : rdK x = 2
  · have hn : rdN x ≠ id := fun e => hx ⟨h2, e⟩
    have : L' (rdN x) = L (rdN x) := by rw [h, if_neg hn]
    have h3 : sayK L' (rdN x) me at_ = sayK L (rdN x) me at_ := by unfold sayK toldS; rw [this]
    rw [h3]
  · simp only [if_neg h2]
theorem word_own {L L' : Int → Tx × Bool} {id : Int} {s : Int} (h : TurnOf L L' id s) {x me at_ o : Int} (hk : rdK x = 2) (hn : rdN x = id) (hme : id ≠ me) (he : (L id).1.en ≤ at_) :
    (s = 3 → wordK L' x me at_ o = 1) ∧ (s = 4 → wordK L' x me at_ o = 2) := by
  have hL : L' id = (⟨(L id).1.lv, s, (L id).1.bg, (L id).1.en⟩, true) := by rw [h, if_pos rfl]
  unfold wordK
  rw [hk, hn]
  simp only [sayK, toldS, hL, if_neg hme]
  refine ⟨fun e => ?_, fun e => ?_⟩
  · subst e
    simp [pastK_yes he]
  · subst e
    simp
theorem word_maybe {L : Int → Tx × Bool} {x me at_ o : Int} (ho : o = 1 ∨ o = 2) (h : wordK L x me at_ o = 4) :
    rdK x = 2 ∧ rdN x ≠ me ∧ wordN L x me at_ = rdN x ∧ (L (rdN x)).2 = true ∧ (L (rdN x)).1.st = 2 ∧ (L (rdN x)).1.en ≤ at_ := by
  have hp := fun t a => pastK_ways t a
  unfold wordK at h
  by_cases h1 : rdK x = 1
  · rw [if_pos h1] at h; have := hp (rdN x) at_; omega
  rw [if_neg h1] at h
  by_cases h2 : rdK x = 2
  · rw [if_pos h2] at h
    unfold wordN
    rw [if_pos h2]
    unfold sayK at h
    unfold sayN
    by_cases hme : rdN x = me
    · rw [if_pos hme] at h; omega
    rw [if_neg hme] at h ⊢
    by_cases ht : (toldS L (rdN x)).2 = false
    · rw [if_pos ht] at h; omega
    rw [if_neg ht] at h ⊢
    by_cases h3 : (toldS L (rdN x)).1.st = 3
    · rw [if_pos h3] at h; have := hp (toldS L (rdN x)).1.en at_; omega
    rw [if_neg h3] at h ⊢
    by_cases h4 : (toldS L (rdN x)).1.st = 2 ∧ 0 < (toldS L (rdN x)).1.en ∧ (toldS L (rdN x)).1.en ≤ at_
    · rw [if_pos h4]
      refine ⟨h2, hme, rfl, ?_, h4.1, h4.2.2⟩
      simp only [toldS] at ht
      cases hh : (L (rdN x)).2 with
      | true => rfl
      | false => exact absurd (by simp [hh]) ht
    · rw [if_neg h4] at h; omega
  · rw [if_neg h2] at h
    split at h <;> omega
theorem word_same {a b : Int} (ha : rdK a = 2) (hb : rdK b = 2) (h : rdN a = rdN b) : a = b := by
  have := rd_cases a
  have := rd_cases b
  omega
theorem word_kinds (L : Int → Tx × Bool) {x : Int} (me at_ : Int) (h : rdK x = 2) (o p : Int) : wordK L x me at_ o = wordK L x me at_ p := by
  unfold wordK
  rw [h]
  simp

theorem maybe_law (L : Int → Tx × Bool) (b e me at_ : Int) : seeL L b e me at_ = [] ∨ ∃ id, seeL L b e me at_ = [id] ∧ seeK L b e me at_ ≠ 3 ∧ (L id).2 = true ∧ (L id).1.st = 2 ∧ (L id).1.en ≤ at_ ∧
    (∀ L', TurnOf L L' id 3 → seeK L' b e me at_ = seeK L b e me at_ ∧ seeL L' b e me at_ = []) ∧ (∀ L', TurnOf L L' id 4 → b = e ∨ seeK L' b e me at_ ≠ seeK L b e me at_) := by
  have hb := wordK_range L b me at_ 2 (.inr rfl)
  have he := wordK_range L e me at_ 1 (.inl rfl)
  by_cases h1 : wordK L b me at_ 2 = 2 ∨ wordK L b me at_ 2 = 3
  · left; unfold seeL; rw [if_pos h1]
  by_cases h2 : wordK L e me at_ 1 = 3
  · left; unfold seeL; rw [if_neg h1, if_pos h2]
  by_cases h3 : wordK L e me at_ 1 = 2
  · by_cases h4 : wordK L b me at_ 2 = 4
    · obtain ⟨k2, kme, kn, kt, ks, ke⟩ := word_maybe (.inr rfl) h4
      have hne : ¬ (rdK e = 2 ∧ rdN e = rdN b) := by
        rintro ⟨x, y⟩
        have := word_same x k2 y
        subst this
        rw [word_kinds L me at_ x 1 2] at h3
        omega
      have hk : seeK L b e me at_ = 1 := by unfold seeK; rw [if_neg h1, if_neg h2, if_pos h3]
      refine .inr ⟨rdN b, ?_, by omega, kt, ks, ke, ?_, ?_⟩
      · unfold seeL; rw [if_neg h1, if_neg h2, if_pos h3, h4, kn]; rfl
      · intro L' hL
        have a1 := (word_own (o := 2) hL k2 rfl kme ke).1 rfl
        have a2 := word_other hL hne me at_ 1
        rw [h3] at a2
        rw [hk]
        unfold seeK seeL
        simp [a1, a2, whoL]
      · intro L' hL
        have a1 := (word_own (o := 2) hL k2 rfl kme ke).2 rfl
        right
        rw [hk]
        unfold seeK
        simp [a1]
    · left
      unfold seeL
      rw [if_neg h1, if_neg h2, if_pos h3, whoL_none h4]
  · by_cases h4 : wordK L e me at_ 1 = 4
    · obtain ⟨k2, kme, kn, kt, ks, ke⟩ := word_maybe (.inl rfl) h4
      have hk : seeK L b e me at_ = 2 := by unfold seeK; rw [if_neg h1, if_neg h2, if_neg h3]
      refine .inr ⟨rdN e, ?_, by omega, kt, ks, ke, ?_, ?_⟩
      · unfold seeL; rw [if_neg h1, if_neg h2, if_neg h3, h4, kn]; rfl
      · intro L' hL
        have a1 := (word_own (o := 1) hL k2 rfl kme ke).1 rfl
        have a2 : ¬ (wordK L' b me at_ 2 = 2 ∨ wordK L' b me at_ 2 = 3) := by
          by_cases hh : rdK b = 2 ∧ rdN b = rdN e
          · have := (word_own (o := 2) hL hh.1 hh.2 kme ke).1 rfl
            omega
          · rw [word_other hL hh me at_ 2]; exact h1
        rw [hk]
        unfold seeK seeL
        rw [if_neg a2, if_neg a2, a1]
        simp [whoL]
      · intro L' hL
        have a1 := (word_own (o := 1) hL k2 rfl kme ke).2 rfl
        by_cases hh : rdK b = 2 ∧ rdN b = rdN e
        · exact .inl (word_same hh.1 k2 hh.2)
        · right
          have a2 : ¬ (wordK L' b me at_ 2 = 2 ∨ wordK L' b me at_ 2 = 3) := by rw [word_other hL hh me at_ 2]; exact h1
          rw [hk]
          unfold seeK
          rw [if_neg a2, a1]
          simp
    · left
      unfold seeL
      rw [if_neg h1, if_neg h2, if_neg h3, whoL_none h4]

theorem look_there {l : List Oth} {id : Int} (h : (lookS l id).2 = true) : ∃ i : Nat, id = (i : Int) + 1 ∧ i < l.length ∧ (l.getD i zeroOth).there = true ∧ (lookS l id).1 = (l.getD i zeroOth).tx := by
  unfold lookS at h ⊢
  by_cases hh : 1 ≤ id ∧ id ≤ l.length ∧ (l.getD (id - 1).toNat zeroOth).there = true
  · rw [if_pos hh]
    exact ⟨(id - 1).toNat, by omega, by omega, hh.2.2, rfl⟩
  · rw [if_neg hh] at h
    cases h

/-- A told one's cells. -/
def othCell (o : Oth) (r : Nat) : Value := match r with | 0 => .bool o.there | 1 => .int .i64 o.tx.lv | 2 => .int .i64 o.tx.st | 3 => .int .u64 o.tx.bg | _ => .int .u64 o.tx.en
def othCells (l : List Oth) : List Value := (List.range (l.length * 5)).map fun j => othCell (l.getD (j / 5) zeroOth) (j % 5)
theorem othCells_one (l : List Oth) : ∀ y ∈ othCells l, y.oneCell' = true := by
  intro y hy
  obtain ⟨j, _, rfl⟩ := List.mem_map.1 hy
  unfold othCell
  split <;> rfl
theorem othCells_at (l : List Oth) {i r : Nat} (hi : i < l.length) (hr : r < 5) : (othCells l)[i * 5 + r]? = some (othCell (l.getD i zeroOth) r) := by
  unfold othCells
  rw [List.getElem?_map, List.getElem?_range (by omega)]
  simp only [Option.map_some]
  rw [show (i * 5 + r) / 5 = i by omega, show (i * 5 + r) % 5 = r by omega]
theorem OthAt.src {w : World} {v : Value} {l : List Oth} (h : OthAt w v l) : SrcAt w v l.length 5 (othCells l) := by
  rcases h with ⟨rfl, a, cap, rfl, hc⟩ | ⟨b, off, cap, rfl, _, _, _, hc⟩
  · exact .inl ⟨rfl, rfl, a, cap, rfl, hc⟩
  · refine .inr ⟨b, off, cap, rfl, by simp [othCells], fun j y hj => ?_⟩
    have hlt : j < l.length * 5 := by
      have := (List.getElem?_eq_some_iff.1 hj).1
      simpa [othCells] using this
    have he : (othCells l)[j]? = some (othCell (l.getD (j / 5) zeroOth) (j % 5)) := by
      have := othCells_at l (i := j / 5) (r := j % 5) (by omega) (by omega)
      rwa [show j / 5 * 5 + j % 5 = j by omega] at this
    rw [he] at hj
    cases hj
    obtain ⟨c0, c1, c2, c3, c4⟩ := hc (j / 5) (by omega)
    have hr : j % 5 < 5 := by omega
    have hj : j = j / 5 * 5 + j % 5 := by omega
    generalize j / 5 = q at *
    generalize j % 5 = r at *
    subst hj
    match r, hr with
    | 0, _ => exact c0
    | 1, _ => exact c1
    | 2, _ => exact c2
    | 3, _ => exact c3
    | 4, _ => exact c4
theorem oth_owned {w : World} {base : Nat} {E : TypeId} {v : Value} {l : List Oth} (h : w.ownsRow base E 5 v l.length (othCells l)) (hl : 0 < l.length) :
    ∃ g cap, v = .slice (some ⟨g, 0, none⟩) l.length cap ∧ base ≤ g ∧ g < w.heap.size ∧ (∀ o, w.frozen? ⟨g, o, none⟩ = false) ∧ OthAt w (.slice (some ⟨g, 0, none⟩) l.length cap) l := by
  have hown := h
  rcases h.2 with ⟨hv, hn⟩ | ⟨g, cap, cur, hv, hg, hh, hnc, hcm, hcs, htk⟩
  · omega
  · refine ⟨g, cap, hv, hg, (Array.getElem?_eq_some_iff.1 hh).1, ?_, ?_⟩
    · intro o
      simp [World.frozen?, hh]
    · refine .inr ⟨g, 0, cap, rfl, hnc, by omega, (Array.getElem?_eq_some_iff.1 hh).1, fun i hi => ?_⟩
      have hat : ∀ r, r < 5 → w.cell? ⟨g, 0 + i * 5 + r, none⟩ = some (othCell (l.getD i zeroOth) r) := by
        intro r hr
        rw [Nat.zero_add, cell_heap hh]
        have : (cur.toList.take (l.length * 5))[i * 5 + r]? = (othCells l)[i * 5 + r]? := by rw [htk]
        rw [List.getElem?_take_of_lt (by omega), othCells_at l hi hr] at this
        simpa using this
      exact ⟨hat 0 (by omega), hat 1 (by omega), hat 2 (by omega), hat 3 (by omega), hat 4 (by omega)⟩
theorem oth_turn {w : World} {g cap : Nat} {l : List Oth} (h : OthAt w (.slice (some ⟨g, 0, none⟩) l.length cap) l) {i : Nat} (hi : i < l.length) (s : Int) :
    OthAt (w.setCell ⟨g, i * 5 + 2, none⟩ (.int .i64 s)) (.slice (some ⟨g, 0, none⟩) l.length cap) (turnS l i s) := by
  rcases h with ⟨rfl, _⟩ | ⟨b, off, cap', hv, hlc, hm, hb, hc⟩
  · cases hi
  · simp only [Value.slice.injEq, Option.some.injEq, Addr.mk.injEq] at hv
    obtain ⟨⟨rfl, rfl, _⟩, _, rfl⟩ := hv
    refine .inr ⟨g, 0, cap, by rw [turn_len], by rw [turn_len]; exact hlc, by rw [turn_len]; exact hm, by simpa [World.setCell] using hb, fun j hj => ?_⟩
    rw [turn_len] at hj
    obtain ⟨c0, c1, c2, c3, c4⟩ := hc j hj
    rw [turn_get s hi]
    simp only [Nat.zero_add] at c0 c1 c2 c3 c4 ⊢
    by_cases he : j = i
    · subst he
      rw [if_pos rfl]
      refine ⟨?_, ?_, ?_, ?_, ?_⟩
      · exact (World.cell?_setCell_other _ _ _ _ (by simp)).trans c0
      · exact (World.cell?_setCell_other _ _ _ _ (by simp)).trans c1
      · exact World.cell?_setCell_same' _ _ _ (by rw [c2]; rfl)
      · exact (World.cell?_setCell_other _ _ _ _ (by simp)).trans c3
      · exact (World.cell?_setCell_other _ _ _ _ (by simp)).trans c4
    · rw [if_neg he]
      refine ⟨?_, ?_, ?_, ?_, ?_⟩
      · exact (World.cell?_setCell_other _ _ _ _ (by simp <;> omega)).trans c0
      · exact (World.cell?_setCell_other _ _ _ _ (by simp <;> omega)).trans c1
      · exact (World.cell?_setCell_other _ _ _ _ (by simp <;> omega)).trans c2
      · exact (World.cell?_setCell_other _ _ _ _ (by simp <;> omega)).trans c3
      · exact (World.cell?_setCell_other _ _ _ _ (by simp <;> omega)).trans c4
end Go.Proofs.Ytbiadeniplmkfaa
