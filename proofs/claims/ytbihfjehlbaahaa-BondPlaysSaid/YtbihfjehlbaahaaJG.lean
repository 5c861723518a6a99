/- Bonds in the laws: what a state is, what Bind, Good and Bad then answer. -/
import Derived.Test.YtbihfjehlbaahaaJF
namespace Go.Proofs.Ytbihfjehlbaahaa
open Go.RowKit

/-- The ids 1 to n. -/
def upto (n : Nat) : List Int := List.map (fun (i : Nat) => (i : Int) + 1) (List.range n)
theorem mem_upto {n : Nat} {x : Int} : x ∈ upto n ↔ 1 ≤ x ∧ x ≤ n := by
  unfold upto
  rw [List.mem_map]
  constructor
  · rintro ⟨i, hi, rfl⟩
    have := List.mem_range.1 hi
    omega
  · intro h
    exact ⟨(x - 1).toNat, List.mem_range.2 (by omega), by omega⟩
theorem upto_succ (n : Nat) : upto (n + 1) = upto n ++ [(n : Int) + 1] := by unfold upto; rw [List.range_succ, List.map_append]; rfl
theorem upto_len (n : Nat) : (upto n).length = n := by simp [upto]
/-- The ids are 1 to n; of each its state, and whom it waits for. -/
structure Sts (s : Bs) (n : Nat) (st : Int → Int) (on : Int → List Int) : Prop where
  ids : s.ids = upto n
  st : ∀ x : Int, 1 ≤ x → x ≤ n → s.st x = st x
  on : ∀ x : Int, 1 ≤ x → x ≤ n → s.on x = on x
section
variable {s s' : Bs} {n : Nat} {st st' : Int → Int} {on on' : Int → List Int}
theorem Sts.mem (h : Sts s n st on) {x : Int} (h1 : 1 ≤ x) (h2 : x ≤ n) : x ∈ s.ids := by rw [h.ids]; exact mem_upto.2 ⟨h1, h2⟩
theorem Sts.le (h : Sts s n st on) {x : Int} (hx : x ∈ s.ids) : 1 ≤ x ∧ x ≤ n := by rw [h.ids] at hx; exact mem_upto.1 hx
theorem Sts.new : Sts Bs.new 0 st on := ⟨rfl, fun x h1 h2 => by omega, fun x h1 h2 => by omega⟩
theorem Sts.congr (h : Sts s n st on) (hs : ∀ x : Int, 1 ≤ x → x ≤ n → st x = st' x) (ho : ∀ x : Int, 1 ≤ x → x ≤ n → on x = on' x) : Sts s n st' on' := ⟨h.ids, fun x h1 h2 => (h.st x h1 h2).trans (hs x h1 h2), fun x h1 h2 => (h.on x h1 h2).trans (ho x h1 h2)⟩
theorem Sts.openE (h : Sts s n st on) (hn : n < 2000) : s.openE ((n : Int) + 1) = 0 := by
  unfold Bs.openE
  rw [if_neg (by omega), if_neg (by rw [h.ids, mem_upto]; omega), if_neg (by rw [h.ids, upto_len]; omega)]
theorem Sts.open_ (h : Sts s n st on) : Sts (s.open_ ((n : Int) + 1)) (n + 1) (fun x => if x = (n : Int) + 1 then 1 else st x) (fun x => if x = (n : Int) + 1 then [] else on x) := by
  refine ⟨by simp only [Bs.open_]; rw [h.ids, upto_succ], fun x h1 h2 => ?_, fun x h1 h2 => ?_⟩
  · simp only [Bs.open_]
    by_cases e : x = (n : Int) + 1
    · simp [e]
    · rw [if_neg e, if_neg e]; exact h.st x h1 (by omega)
  · simp only [Bs.open_]
    by_cases e : x = (n : Int) + 1
    · simp [e]
    · rw [if_neg e, if_neg e]; exact h.on x h1 (by omega)
theorem Sts.bound (h : Sts s n st on) (a c : Int) : Sts (s.bound a c) n st (fun x => if x = a then on x ++ [c] else on x) := by
  refine ⟨h.ids, h.st, fun x h1 h2 => ?_⟩
  simp only [Bs.bound]
  by_cases e : x = a
  · rw [if_pos e, if_pos e, h.on x h1 h2]
  · rw [if_neg e, if_neg e]; exact h.on x h1 h2
theorem Sts.turn (h : Sts s n st on) (a v : Int) : Sts (s.turn a v) n (fun x => if x = a then v else st x) on := by
  refine ⟨h.ids, fun x h1 h2 => ?_, h.on⟩
  simp only [Bs.turn]
  by_cases e : x = a
  · rw [if_pos e, if_pos e]
  · rw [if_neg e, if_neg e]; exact h.st x h1 h2
theorem Sts.doomed (h : Sts s n st on) (P : List Int) : Sts (s.doomed P) n (fun x => if x ∈ P ∧ st x = 1 then 2 else st x) on := by
  refine ⟨h.ids, fun x h1 h2 => ?_, h.on⟩
  simp only [Bs.doomed]
  rw [h.st x h1 h2]
theorem Sts.stOf (h : Sts s n st on) {x : Int} (h1 : 1 ≤ x) (h2 : x ≤ n) : s.stOf x = st x := by unfold Bs.stOf; rw [if_pos (h.mem h1 h2)]; exact h.st x h1 h2
theorem Sts.waits (h : Sts s n st on) {x : Int} (h1 : 1 ≤ x) (h2 : x ≤ n) (hon : ∀ y ∈ on x, 1 ≤ y ∧ y ≤ n) : (s.forOf x).length = ((on x).filter fun y => decide (st y ≠ 3)).length := by
  unfold Bs.forOf Bs.waits
  rw [if_pos (h.mem h1 h2), sortI_len, h.on x h1 h2]
  congr 1
  refine List.filter_congr fun y hy => ?_
  rw [h.st y (hon y hy).1 (hon y hy).2]
/-- Where all are bound to lesser ones, so are those behind them. -/
theorem reach_less (hon : ∀ x ∈ s.ids, ∀ y ∈ s.on x, y < x ∧ y ∈ s.ids) {a x : Int} (ha : a ∈ s.ids) (h : Reach s a x) : x < a ∧ x ∈ s.ids := by
  induction h with
  | one hx => exact hon a ha _ hx
  | more _ hx ih => have := hon _ ih.2 _ hx; exact ⟨by omega, this.2⟩
theorem Sts.less (h : Sts s n st on) (hon : ∀ x : Int, 1 ≤ x → x ≤ n → ∀ y ∈ on x, 1 ≤ y ∧ y < x) : ∀ x ∈ s.ids, ∀ y ∈ s.on x, y < x ∧ y ∈ s.ids := fun x hx y hy => by
  have h1 := h.le hx
  rw [h.on x h1.1 h1.2] at hy
  have h2 := hon x h1.1 h1.2 y hy
  exact ⟨h2.2, h.mem h2.1 (by omega)⟩
end
section
variable {s s' : Bs} {id tz c : Int} {l : List Int}
theorem BindTo.put_of (h : BindTo s id tz c s') (h1 : id ∈ s.ids) (h2 : tz ∈ s.ids) (h3 : id ≠ tz) (h4 : s.st id = 1) (h5 : tz ∉ s.on id) (h6 : s.st tz = 1) (h7 : ¬ Reach s tz id) : c = 0 ∧ s' = s.bound id tz := by
  cases h with
  | none h => exact absurd h (by simp [h1, h2])
  | same _ _ h => exact absurd h h3
  | over _ _ _ h => exact absurd (.inl h4) h
  | had _ _ _ _ h => rcases h with h | h; omega; exact absurd h h5
  | bad _ _ _ _ _ h => omega
  | loop _ _ _ _ _ _ h => exact absurd h h7
  | put => exact ⟨rfl, rfl⟩
  | doom _ _ _ _ _ h => omega
theorem BindTo.loop_of (h : BindTo s id tz c s') (h1 : id ∈ s.ids) (h2 : tz ∈ s.ids) (h3 : id ≠ tz) (h4 : s.st id = 1) (h5 : tz ∉ s.on id) (h6 : s.st tz = 1) (h7 : Reach s tz id) : c = 17 ∧ s' = s := by
  cases h with
  | none h => exact absurd h (by simp [h1, h2])
  | same _ _ h => exact absurd h h3
  | over _ _ _ h => exact absurd (.inl h4) h
  | had _ _ _ _ h => rcases h with h | h; omega; exact absurd h h5
  | bad _ _ _ _ _ h => omega
  | loop => exact ⟨rfl, rfl⟩
  | put _ _ _ _ _ _ h => exact absurd h7 h
  | doom _ _ _ _ _ h => omega
theorem BindTo.same_of (h : BindTo s id tz c s') (h1 : id ∈ s.ids) (h2 : tz ∈ s.ids) (h3 : id = tz) : c = 1 ∧ s' = s := by
  cases h with
  | none h => exact absurd h (by simp [h1, h2])
  | same => exact ⟨rfl, rfl⟩
  | over _ _ h => exact absurd h3 h
  | had _ _ h => exact absurd h3 h
  | bad _ _ h => exact absurd h3 h
  | loop _ _ h => exact absurd h3 h
  | put _ _ h => exact absurd h3 h
  | doom _ _ h => exact absurd h3 h
theorem BindTo.none_of (h : BindTo s id tz c s') (h1 : id ∉ s.ids ∨ tz ∉ s.ids) : c = 11 ∧ s' = s := by
  have hn : id ∈ s.ids → tz ∈ s.ids → False := fun a b => by rcases h1 with h | h; exact h a; exact h b
  cases h with
  | none => exact ⟨rfl, rfl⟩
  | same a b => exact (hn a b).elim
  | over a b => exact (hn a b).elim
  | had a b => exact (hn a b).elim
  | bad a b => exact (hn a b).elim
  | loop a b => exact (hn a b).elim
  | put a b => exact (hn a b).elim
  | doom a b => exact (hn a b).elim
theorem BindTo.over_of (h : BindTo s id tz c s') (h1 : id ∈ s.ids) (h2 : tz ∈ s.ids) (h3 : id ≠ tz) (h4 : ¬ (s.st id = 1 ∨ s.st id = 2)) : c = 7 ∧ s' = s := by
  cases h with
  | none h => exact absurd h (by simp [h1, h2])
  | same _ _ h => exact absurd h h3
  | over => exact ⟨rfl, rfl⟩
  | had _ _ _ h => exact absurd h h4
  | bad _ _ _ h => exact absurd h h4
  | loop _ _ _ h => exact absurd h h4
  | put _ _ _ h => exact absurd h h4
  | doom _ _ _ h => exact absurd h h4
theorem BindTo.had_of (h : BindTo s id tz c s') (h1 : id ∈ s.ids) (h2 : tz ∈ s.ids) (h3 : id ≠ tz) (h4 : s.st id = 1 ∨ s.st id = 2) (h5 : s.st tz = 3 ∨ tz ∈ s.on id) : c = 0 ∧ s' = s := by
  cases h with
  | none h => exact absurd h (by simp [h1, h2])
  | same _ _ h => exact absurd h h3
  | over _ _ _ h => exact absurd h4 h
  | had => exact ⟨rfl, rfl⟩
  | bad _ _ _ _ h h6 => rcases h5 with h5 | h5; omega; exact absurd h5 h
  | loop _ _ _ _ h h6 => rcases h5 with h5 | h5; omega; exact absurd h5 h
  | put _ _ _ _ h h6 => rcases h5 with h5 | h5; omega; exact absurd h5 h
  | doom _ _ _ _ h h6 => rcases h5 with h5 | h5; omega; exact absurd h5 h
theorem BindTo.bad_of (h : BindTo s id tz c s') (h1 : id ∈ s.ids) (h2 : tz ∈ s.ids) (h3 : id ≠ tz) (h4 : s.st id = 1 ∨ s.st id = 2) (h5 : tz ∉ s.on id) (h6 : s.st tz = 4) : c = 0 ∧ ∃ P, (∀ y, y ∈ P ↔ Doom s id y) ∧ s' = s.doomed P := by
  cases h with
  | none h => exact absurd h (by simp [h1, h2])
  | same _ _ h => exact absurd h h3
  | over _ _ _ h => exact absurd h4 h
  | had _ _ _ _ h => rcases h with h | h; omega; exact absurd h h5
  | bad _ _ _ _ _ _ hP => exact ⟨rfl, _, hP, rfl⟩
  | loop _ _ _ _ _ h => omega
  | put _ _ _ _ _ h => omega
  | doom _ _ _ _ _ h => omega
theorem GoodTo.good_of (h : GoodTo s id c l s') (h1 : id ∈ s.ids) (h2 : s.st id = 1) (h3 : ∀ z ∈ s.on id, s.st z = 3) : c = 0 ∧ s' = s.turn id 3 ∧ Rise l ((s.turn id 3).frees id) := by
  cases h with
  | none h => exact absurd h1 h
  | over _ h => exact absurd h2 h
  | wait _ _ h => obtain ⟨z, hz, h⟩ := h; exact absurd (h3 z hz) h
  | good _ _ _ hr => exact ⟨rfl, rfl, hr⟩
theorem GoodTo.wait_of (h : GoodTo s id c l s') (h1 : id ∈ s.ids) (h2 : s.st id = 1) {z : Int} (hz : z ∈ s.on id) (h3 : s.st z ≠ 3) : c = 18 ∧ s' = s ∧ l = [] := by
  cases h with
  | none h => exact absurd h1 h
  | over _ h => exact absurd h2 h
  | wait => exact ⟨rfl, rfl, rfl⟩
  | good _ _ h _ => exact absurd (h z hz) h3
theorem GoodTo.over_of (h : GoodTo s id c l s') (h1 : id ∈ s.ids) (h2 : s.st id ≠ 1) : c = 7 ∧ s' = s ∧ l = [] := by
  cases h with
  | none h => exact absurd h1 h
  | over => exact ⟨rfl, rfl, rfl⟩
  | wait _ h => exact absurd h h2
  | good _ h => exact absurd h h2
theorem GoodTo.none_of (h : GoodTo s id c l s') (h1 : id ∉ s.ids) : c = 11 ∧ s' = s ∧ l = [] := by
  cases h with
  | none => exact ⟨rfl, rfl, rfl⟩
  | over h => exact absurd h h1
  | wait h => exact absurd h h1
  | good h => exact absurd h h1
theorem BadTo.bad_of (h : BadTo s id c l s') (h1 : id ∈ s.ids) (h2 : s.st id = 1 ∨ s.st id = 2) : c = 0 ∧ ∃ P, (∀ y, y ∈ P ↔ Doom s id y) ∧ Rise l (fun x => Doom s id x ∧ s.st x = 1 ∧ x ≠ id) ∧ s' = (s.doomed P).turn id 4 := by
  cases h with
  | none h => exact absurd h1 h
  | over _ h => exact absurd h2 h
  | bad _ _ hP hr => exact ⟨rfl, _, hP, hr, rfl⟩
theorem BadTo.over_of (h : BadTo s id c l s') (h1 : id ∈ s.ids) (h2 : ¬ (s.st id = 1 ∨ s.st id = 2)) : c = 7 ∧ s' = s ∧ l = [] := by
  cases h with
  | none h => exact absurd h1 h
  | over => exact ⟨rfl, rfl, rfl⟩
  | bad _ h => exact absurd h h2
theorem BadTo.none_of (h : BadTo s id c l s') (h1 : id ∉ s.ids) : c = 11 ∧ s' = s ∧ l = [] := by
  cases h with
  | none => exact ⟨rfl, rfl, rfl⟩
  | over h => exact absurd h h1
  | bad h => exact absurd h h1
end
/-- Open, of the next one. -/
theorem bs_next {w0 w : World} {b : Nat} {F : Nat → Prop} {s : Bs} {L : List Ob} {n : Nat} {st : Int → Int} {on : Int → List Int} (h : Sep w0 w (obBonds b F s :: L)) (hs : Sts s n st on) (hn : n < 2000) :
    Calls Try.prog 17 #[.pointer (some ⟨b, 0, none⟩), .int .i64 ((n : Int) + 1)] w fun e w' => ∃ F' s', e = .returned (.int .i64 0) ∧ Sep w0 w' (obBonds b F' s' :: L) ∧ Sts s' (n + 1) (fun x => if x = (n : Int) + 1 then 1 else st x) (fun x => if x = (n : Int) + 1 then [] else on x) := by
  refine (bs_open h (id := (n : Int) + 1) (wf_int (by omega) (by omega))).mono ?_
  rintro e w' ⟨F', he, hS⟩
  rw [hs.openE hn] at he hS
  exact ⟨F', _, he, hS, hs.open_⟩

set_option maxRecDepth 100000 in
set_option maxHeartbeats 1600000 in
theorem awake16_any (w : World) : Calls Try.prog 22 #[] w fun e w' => e = .returned (.bool true) ∧ Below w.heap.size w w' := by
  have HN := Lib.hid (bs_new (Sep.nil w))
  go_enter Try.func22, Try.ntmps22
  go_wp2_with fail
  refine HN.out.mono ?_
  rintro e w1 ⟨b, F, rfl, hW⟩
  have H1 := Lib.hid (bs_next hW (Sts.new (st := fun _ => 0) (on := fun _ => [])) (by decide))
  clear hW HN
  go_wp2_with fail
  refine H1.out.mono ?_
  rintro e w2 ⟨F2, s2, rfl, hW, hS⟩
  have H2 := Lib.hid (bs_next hW hS (by decide))
  clear hW hS H1
  go_wp2_with fail
  refine H2.out.mono ?_
  rintro e w3 ⟨F3, s3, rfl, hW, hS⟩
  have hS3 : Sts s3 2 (fun _ => 1) (fun _ => []) := hS.congr (fun x h1 h2 => by by_cases e : x = 2 <;> by_cases e1 : x = 1 <;> simp [e, e1] <;> omega) (fun x h1 h2 => by by_cases e : x = 2 <;> by_cases e1 : x = 1 <;> simp [e, e1])
  have H3 := Lib.hid (bs_bind hW (id := 2) (tz := 1) (by decide) (by decide))
  have HS3 := Lib.hid hS3
  clear hW hS hS3 H2
  go_wp2_with fail
  refine H3.out.mono ?_
  rintro e w4 ⟨F4, c, s4, rfl, hb, hW⟩
  have hno : ¬ Reach s3 1 2 := fun h => by
    have := reach_less (HS3.out.less (fun x h1 h2 y hy => by simp at hy)) (HS3.out.mem (by decide) (by decide)) h
    omega
  obtain ⟨rfl, rfl⟩ := hb.put_of (HS3.out.mem (by decide) (by decide)) (HS3.out.mem (by decide) (by decide)) (by decide) (HS3.out.st 2 (by decide) (by decide)) (by rw [HS3.out.on 2 (by decide) (by decide)]; simp) (HS3.out.st 1 (by decide) (by decide)) hno
  have hS4 : Sts (s3.bound 2 1) 2 (fun _ => 1) (fun x => if x = 2 then [1] else []) := (HS3.out.bound 2 1).congr (fun _ _ _ => rfl) (fun x _ _ => by by_cases e : x = 2 <;> simp [e])
  have H4 := Lib.hid (bs_good hW (id := 2) (by decide))
  have HS4 := Lib.hid hS4
  clear hW hb hno hS4 H3 HS3
  generalize s3.bound 2 1 = s4 at *
  go_wp2_with fail
  refine H4.out.mono ?_
  rintro e w5 ⟨c, l, s5, v, rfl, hg, hW⟩
  obtain ⟨rfl, hs5, rfl⟩ := hg.wait_of (HS4.out.mem (by decide) (by decide)) (HS4.out.st 2 (by decide) (by decide)) (z := 1) (by rw [HS4.out.on 2 (by decide) (by decide)]; simp) (by rw [HS4.out.st 1 (by decide) (by decide)]; decide)
  rw [hs5] at hW
  have H5 := Lib.hid (bs_good hW.tail (id := 1) (by decide))
  clear hs5
  clear hW hg H4
  go_wp2_with fail
  refine H5.out.mono ?_
  rintro e w6 ⟨c, l, s6, v6, rfl, hg, hW⟩
  obtain ⟨rfl, rfl, hr⟩ := hg.good_of (HS4.out.mem (by decide) (by decide)) (HS4.out.st 1 (by decide) (by decide)) (fun z hz => by rw [HS4.out.on 1 (by decide) (by decide)] at hz; simp at hz)
  have hS6 := HS4.out.turn 1 3
  have hl : l = [2] := hr.eq (k := (⟨by simp, fun x => by simp⟩ : Rise [2] (fun x => x = 2))) (fun x => by
    constructor
    · rintro ⟨hx, -, h1, -⟩
      have := hS6.le hx
      rw [hS6.on x this.1 this.2] at h1
      by_cases e : x = 2
      · exact e
      · simp [e] at h1
    · rintro rfl
      refine ⟨hS6.mem (by decide) (by decide), .inl (by rw [hS6.st 2 (by decide) (by decide)]; simp), ?_, ?_⟩
      · rw [hS6.on 2 (by decide) (by decide)]; simp
      · intro z hz
        rw [hS6.on 2 (by decide) (by decide)] at hz
        simp at hz
        subst hz
        rw [hS6.st 1 (by decide) (by decide)]; simp)
  subst hl
  have HV := Lib.hid hW
  have h3 : (s4.turn 1 3).stOf 1 = 3 := by rw [hS6.stOf (by decide) (by decide)]; simp
  have HST := Lib.hid (fun (W : World) (h : Sep w W [obBonds b F4 (s4.turn 1 3)]) => (h3 ▸ bs_state h (id := 1) (by decide) : Calls Try.prog 24 #[.pointer (some ⟨b, 0, none⟩), .int .i64 1] W fun e w' => e = .returned (.int .i64 3) ∧ W = w'))
  clear hr hg hS6 H5 hW h3
  go_wp2_with fail
  refine (same_ints (l := [2]) (m := [2]) (HV.out.read.later ((Below.refl _ _).alloc (Nat.le_refl _) _)) (RowAt.one _ _ _ _)).mono ?_
  rintro e w7 ⟨rfl, hb7⟩
  have H7 := Lib.hid ((HV.out.tail.below ((Below.refl _ _).alloc (Nat.le_refl _) _)).below hb7)
  clear hb7 HV
  rw [show decide (([2] : List Int) = [2]) = true by decide]
  go_wp2_with fail
  refine (HST.out w7 H7.out).mono ?_
  rintro e w8 ⟨rfl, rfl⟩
  go_wp2_with fail
  go_ret
  exact ⟨rfl, H7.out.bel⟩
end Go.Proofs.Ytbihfjehlbaahaa
