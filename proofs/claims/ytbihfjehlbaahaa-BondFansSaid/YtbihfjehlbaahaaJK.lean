/- Fans: one for whom many wait, one who waits for many. -/
import Derived.Test.YtbihfjehlbaahaaJH
namespace Go.Proofs.Ytbihfjehlbaahaa
open Go.RowKit Go.ChangeShapes

def runL (a : Int) (k : Nat) : List Int := List.map (fun (i : Nat) => a + 1 + (i : Int)) (List.range k)
theorem mem_runL {a x : Int} {k : Nat} : x ∈ runL a k ↔ a < x ∧ x ≤ a + k := by
  unfold runL
  rw [List.mem_map]
  constructor
  · rintro ⟨i, hi, rfl⟩
    have := List.mem_range.1 hi
    omega
  · intro h
    exact ⟨(x - a - 1).toNat, List.mem_range.2 (by omega), by omega⟩
theorem runL_rise (a : Int) (k : Nat) : Rise (runL a k) (fun x => a < x ∧ x ≤ a + k) := by
  refine ⟨?_, fun x => mem_runL⟩
  unfold runL
  rw [List.pairwise_map]
  exact List.pairwise_lt_range.imp fun h => by omega
theorem runL_len (a : Int) (k : Nat) : (runL a k).length = k := by simp [runL]
theorem runL_nodup (a : Int) (k : Nat) : (runL a k).Nodup := (runL_rise a k).1.imp (fun h => by omega)
theorem runL_succ (a : Int) (k : Nat) : runL a (k + 1) = runL a k ++ [a + 1 + k] := by unfold runL; rw [List.range_succ, List.map_append]; rfl

/-- All but the first wait for the first; of those the first j. -/
def fanB (j : Nat) (x : Int) : List Int := if 2 ≤ x ∧ x < (j : Int) + 2 then [1] else []
/-- The first waits for all others; of those the first j. -/
def fanD (j : Nat) (x : Int) : List Int := if x = 1 then runL 1 j else []
theorem reach_none {s : Bs} {a : Int} (h : s.on a = []) {x : Int} (hr : Reach s a x) : False := by
  induction hr with
  | one hx => rw [h] at hx; simp at hx
  | more _ _ ih => exact ih
theorem fanB_step {s s' : Bs} {n j : Nat} {c : Int} (h : Sts s n (fun _ => 1) (fanB j)) (hj : j + 2 ≤ n) (hb : BindTo s ((j : Int) + 2) 1 c s') : c = 0 ∧ Sts s' n (fun _ => 1) (fanB (j + 1)) := by
  have hon : s.on ((j : Int) + 2) = [] := by rw [h.on _ (by omega) (by omega)]; unfold fanB; rw [if_neg (by omega)]
  have hon1 : s.on 1 = [] := by rw [h.on 1 (by omega) (by omega)]; unfold fanB; rw [if_neg (by omega)]
  obtain ⟨rfl, rfl⟩ := hb.put_of (h.mem (by omega) (by omega)) (h.mem (by omega) (by omega)) (by omega) (h.st _ (by omega) (by omega)) (by rw [hon]; simp) (h.st 1 (by omega) (by omega)) (fun hr => reach_none hon1 hr)
  refine ⟨rfl, (h.bound _ _).congr (fun _ _ _ => rfl) (fun x h1 h2 => ?_)⟩
  unfold fanB
  by_cases e : x = (j : Int) + 2
  · rw [if_pos e, if_neg (by omega), if_pos (by omega)]; rfl
  · rw [if_neg e]
    by_cases e2 : 2 ≤ x ∧ x < (j : Int) + 2
    · rw [if_pos e2, if_pos (by omega)]
    · rw [if_neg e2, if_neg (by omega)]
theorem fanD_step {s s' : Bs} {n j : Nat} {c : Int} (h : Sts s n (fun _ => 1) (fanD j)) (hj : j + 2 ≤ n) (hb : BindTo s 1 ((j : Int) + 2) c s') : c = 0 ∧ Sts s' n (fun _ => 1) (fanD (j + 1)) := by
  have hon : s.on ((j : Int) + 2) = [] := by rw [h.on _ (by omega) (by omega)]; unfold fanD; rw [if_neg (by omega)]
  have hon1 : s.on 1 = runL 1 j := by rw [h.on 1 (by omega) (by omega)]; unfold fanD; rw [if_pos rfl]
  obtain ⟨rfl, rfl⟩ := hb.put_of (h.mem (by omega) (by omega)) (h.mem (by omega) (by omega)) (by omega) (h.st 1 (by omega) (by omega)) (by rw [hon1, mem_runL]; omega) (h.st _ (by omega) (by omega)) (fun hr => reach_none hon hr)
  refine ⟨rfl, (h.bound _ _).congr (fun _ _ _ => rfl) (fun x h1 h2 => ?_)⟩
  unfold fanD
  by_cases e : x = 1
  · rw [if_pos e, if_pos e, if_pos e, runL_succ]
    congr 2
    omega
  · rw [if_neg e, if_neg e, if_neg e]
theorem fan_good {s : Bs} {n : Nat} (h : Sts s (n + 1) (fun _ => 1) (fanB n)) {l : List Int} (hl : Rise l ((s.turn 1 3).frees 1)) : l = runL 1 n := by
  have hS := h.turn 1 3
  refine hl.eq (runL_rise 1 n) (fun x => ?_)
  constructor
  · rintro ⟨hx, -, h3, -⟩
    have hx2 := hS.le hx
    rw [hS.on x hx2.1 hx2.2] at h3
    unfold fanB at h3
    by_cases e : 2 ≤ x ∧ x < (n : Int) + 2
    · omega
    · rw [if_neg e] at h3; simp at h3
  · rintro ⟨h1, h2⟩
    refine ⟨hS.mem (by omega) (by omega), .inl ?_, ?_, fun z hz => ?_⟩
    · rw [hS.st _ (by omega) (by omega), if_neg (by omega)]
    · rw [hS.on _ (by omega) (by omega)]; unfold fanB; rw [if_pos (by omega)]; simp
    · rw [hS.on _ (by omega) (by omega)] at hz
      unfold fanB at hz
      rw [if_pos (by omega)] at hz
      simp only [List.mem_singleton] at hz
      subst hz
      rw [hS.st 1 (by omega) (by omega), if_pos rfl]
theorem fan_doom {s : Bs} {n : Nat} (h : Sts s (n + 1) (fun _ => 1) (fanB n)) (y : Int) : Doom s 1 y ↔ 1 ≤ y ∧ y ≤ (n : Int) + 1 := by
  constructor
  · intro hy
    cases hy with
    | self => omega
    | step _ hi _ _ => have := h.le hi; omega
  · rintro ⟨h1, h2⟩
    by_cases e : y = 1
    · subst e; exact .self
    · refine .step .self (h.mem h1 (by omega)) (h.st y h1 (by omega)) ?_
      rw [h.on y h1 (by omega)]
      unfold fanB
      rw [if_pos (by omega)]
      simp
theorem fan_bad {s : Bs} {n : Nat} (h : Sts s (n + 1) (fun _ => 1) (fanB n)) {P l : List Int} (hP : ∀ y, y ∈ P ↔ Doom s 1 y) (hl : Rise l (fun x => Doom s 1 x ∧ s.st x = 1 ∧ x ≠ 1)) (hn : 1 ≤ n) : l = runL 1 n ∧ ((s.doomed P).turn 1 4).stOf 2 = 2 := by
  refine ⟨hl.eq (runL_rise 1 n) (fun x => ?_), ?_⟩
  · rw [fan_doom h]
    constructor
    · rintro ⟨⟨h1, h2⟩, -, h3⟩
      omega
    · rintro ⟨h1, h2⟩
      exact ⟨by omega, h.st x (by omega) (by omega), by omega⟩
  · rw [((h.doomed P).turn 1 4).stOf (by omega) (by omega), if_neg (by omega), if_pos ⟨(hP 2).2 ((fan_doom h 2).2 (by omega)), rfl⟩]
/-- Who is well when i have ended. -/
def stD (z n : Nat) : Nat → Int → Int
  | 0, _ => 1
  | i + 1, x => if x = (((i + z) % n : Nat) : Int) + 2 then 3 else stD z n i x
theorem turn_apart {z n i j : Nat} (hj : j < i) (hi : i < n) : (i + z) % n ≠ (j + z) % n := fun e => by
  have h1 := Nat.sub_mod_eq_zero_of_mod_eq e
  have h2 : i + z - (j + z) = i - j := by omega
  rw [h2, Nat.mod_eq_of_lt (by omega)] at h1
  omega
theorem stD_fresh {z n i : Nat} (hi : i < n) : ∀ j, j ≤ i → stD z n j ((((i + z) % n : Nat) : Int) + 2) = 1
  | 0, _ => rfl
  | j + 1, hj => by
    have := turn_apart (z := z) (j := j) (i := i) (by omega) hi
    unfold stD
    rw [if_neg (by omega)]
    exact stD_fresh hi j (by omega)
theorem filter_turn {L : List Int} (hL : L.Nodup) {k : Int} (hk : k ∈ L) {st : Int → Int} (h : st k ≠ 3) :
    (L.filter fun y => decide ((if y = k then 3 else st y) ≠ 3)).length + 1 = (L.filter fun y => decide (st y ≠ 3)).length := by
  induction L with
  | nil => simp at hk
  | cons x L ih =>
    have hc := List.nodup_cons.1 hL
    by_cases e : x = k
    · subst e
      rw [List.filter_cons_of_neg (by simp), List.filter_cons_of_pos (by simpa using h), List.length_cons]
      congr 2
      refine List.filter_congr fun y hy => ?_
      have : y ≠ x := fun e => hc.1 (e ▸ hy)
      rw [if_neg this]
    · have hk2 : k ∈ L := by
        rcases List.mem_cons.1 hk with h | h
        · exact absurd h.symm e
        · exact h
      have := ih hc.2 hk2
      by_cases e3 : st x ≠ 3
      · rw [List.filter_cons_of_pos (by rw [if_neg e]; simpa using e3), List.filter_cons_of_pos (by simpa using e3), List.length_cons, List.length_cons]
        omega
      · rw [List.filter_cons_of_neg (by rw [if_neg e]; simpa using e3), List.filter_cons_of_neg (by simpa using e3)]
        exact this
theorem kD_mem {z n i : Nat} (hn : 0 < n) : ((((i + z) % n : Nat) : Int) + 2) ∈ runL 1 n := by
  have := Nat.mod_lt (i + z) hn
  rw [mem_runL]
  omega
theorem countD {z n : Nat} (hn : 0 < n) (i : Nat) : i ≤ n → ((runL 1 n).filter fun y => decide (stD z n i y ≠ 3)).length + i = n := by
  induction i with
  | zero =>
    intro _
    have : (runL 1 n).filter (fun y => decide (stD z n 0 y ≠ 3)) = runL 1 n := List.filter_eq_self.2 (fun y _ => by simp [stD])
    rw [this, runL_len]
    omega
  | succ i ih =>
    intro hi
    have h1 := ih (by omega)
    have h2 := filter_turn (runL_nodup 1 n) (kD_mem (z := z) (i := i) hn) (st := stD z n i) (by rw [stD_fresh (by omega) i (Nat.le_refl _)]; decide)
    have h3 : (fun y => decide (stD z n (i + 1) y ≠ 3)) = fun y => decide ((if y = (((i + z) % n : Nat) : Int) + 2 then 3 else stD z n i y) ≠ 3) := rfl
    rw [h3]
    omega
theorem fanD_waits {s : Bs} {z n i : Nat} (h : Sts s (n + 1) (stD z n i) (fanD n)) (hn : 0 < n) (hi : i ≤ n) : (s.forOf 1).length = n - i := by
  rw [h.waits (by omega) (by omega) (fun y hy => by unfold fanD at hy; rw [if_pos rfl, mem_runL] at hy; omega)]
  unfold fanD
  rw [if_pos rfl]
  have := countD (z := z) hn i hi
  omega
theorem fanD_free {s : Bs} {z n i : Nat} (h : Sts s (n + 1) (stD z n i) (fanD n)) (hn : 0 < n) (hi : i ≤ n) : (∀ y ∈ s.on 1, s.st y = 3) ↔ i = n := by
  rw [← waits_nil (h.mem (by omega) (by omega)), fanD_waits h hn hi]
  omega
theorem fanD_next {s : Bs} {z n i : Nat} (h : Sts s (n + 1) (stD z n i) (fanD n)) (hn : 0 < n) (hi : i < n) :
    ((((i + z) % n : Nat) : Int) + 2 ∈ s.ids ∧ s.st ((((i + z) % n : Nat) : Int) + 2) = 1 ∧ ∀ y ∈ s.on ((((i + z) % n : Nat) : Int) + 2), s.st y = 3) ∧ Sts (s.turn ((((i + z) % n : Nat) : Int) + 2) 3) (n + 1) (stD z n (i + 1)) (fanD n) ∧
      ∀ l, Rise l ((s.turn ((((i + z) % n : Nat) : Int) + 2) 3).frees ((((i + z) % n : Nat) : Int) + 2)) → l.length = if i + 1 = n then 1 else 0 := by
  have hk := mem_runL.1 (kD_mem (z := z) (i := i) hn)
  have hS : Sts (s.turn ((((i + z) % n : Nat) : Int) + 2) 3) (n + 1) (stD z n (i + 1)) (fanD n) := h.turn _ 3
  refine ⟨⟨h.mem (by omega) (by omega), ?_, fun y hy => ?_⟩, hS, fun l hl => ?_⟩
  · rw [h.st _ (by omega) (by omega)]; exact stD_fresh hi i (Nat.le_refl _)
  · rw [h.on _ (by omega) (by omega)] at hy
    unfold fanD at hy
    rw [if_neg (by omega)] at hy
    simp at hy
  · have hfree := fanD_free hS hn (by omega)
    have h1st : (s.turn ((((i + z) % n : Nat) : Int) + 2) 3).st 1 = 1 := by
      rw [hS.st 1 (by omega) (by omega)]
      have : ∀ j, stD z n j 1 = 1 := fun j => by
        induction j with
        | zero => rfl
        | succ j ih => unfold stD; rw [if_neg (by omega)]; exact ih
      exact this _
    have key : ∀ x, (s.turn ((((i + z) % n : Nat) : Int) + 2) 3).frees ((((i + z) % n : Nat) : Int) + 2) x ↔ x = 1 ∧ i + 1 = n := fun x => by
      constructor
      · rintro ⟨hx, -, h3, h4⟩
        have hx2 := hS.le hx
        rw [hS.on x hx2.1 hx2.2] at h3
        unfold fanD at h3
        by_cases e : x = 1
        · subst e
          exact ⟨rfl, hfree.1 h4⟩
        · rw [if_neg e] at h3; simp at h3
      · rintro ⟨rfl, h4⟩
        refine ⟨hS.mem (by omega) (by omega), .inl h1st, ?_, hfree.2 h4⟩
        rw [hS.on 1 (by omega) (by omega)]
        unfold fanD
        rw [if_pos rfl]
        exact kD_mem hn
    by_cases e : i + 1 = n
    · rw [if_pos e, hl.eq (k := (⟨by simp, fun x => by simp⟩ : Rise [1] (fun x => x = 1))) (fun x => by rw [key]; simp [e])]
      rfl
    · rw [if_neg e, hl.eq (k := (⟨List.Pairwise.nil, fun x => by simp⟩ : Rise [] (fun _ => False))) (fun x => by rw [key]; simp [e])]
      rfl
end Go.Proofs.Ytbihfjehlbaahaa
