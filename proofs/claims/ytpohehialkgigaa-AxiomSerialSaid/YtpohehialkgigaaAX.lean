/- The reader behind all others, in plain words; what Serially answers to one Op. -/
import Derived.Test.YtpohehialkgigaaAW
namespace Go.Proofs.Ytpohehialkgigaa
open Go.RowKit
def St.low (s : St) : Prop := ∀ p ∈ s, 0 ≤ p.1 ∧ p.1 ≤ 7
theorem St.low.put {s : St} (h : s.low) {k : Int} (h0 : 0 ≤ k) (h1 : k ≤ 7) (v : Int) : (s.put k v).low := fun p hp => by
  rcases St.ins_mem.1 hp with rfl | hp
  · exact ⟨h0, h1⟩
  · exact h p (St.del_mem hp).1
theorem St.low.del {s : St} (h : s.low) (k : Int) : (s.del k).low := fun p hp => h p (St.del_mem hp).1
theorem St.low.step {s : St} (h : s.low) {c : Cl} (h0 : 0 ≤ c.key) (h1 : c.key ≤ 7) : (s.step c).low := by
  unfold St.step
  split
  · split
    · exact h.put h0 h1 _
    · split
      · exact h.del _
      · exact h
  · exact h
theorem St.low.steps : ∀ {l : List Cl} {s : St}, s.low → (∀ c ∈ l, 0 ≤ c.key ∧ c.key ≤ 7) → (St.steps s l).low
  | [], _, h, _ => h
  | c :: r, s, h, hc => by
    obtain ⟨a, b⟩ := hc c (by simp)
    exact St.low.steps (l := r) (h.step a b) fun x hx => hc x (by simp [hx])
theorem St.low.span {s : St} (h : s.low) : s.span 0 63 = s := by
  unfold St.span
  rw [List.filter_eq_self]
  intro p hp
  obtain ⟨a, b⟩ := h p hp
  simp
  omega
theorem sel_all {l : List Dl} {when without : Int} (h : ∀ d ∈ l, d.state = 3 ∧ d.en ≤ when) (hw : without < 0 ∨ (l.length : Int) ≤ without) : sel l when without = l := by
  unfold sel selI
  have e : ((List.range l.length).filter fun i => pick when without i (l.getD i dl0)) = List.range l.length := by
    rw [List.filter_eq_self]
    intro i hi
    simp only [List.mem_range] at hi
    obtain ⟨a, b⟩ := h _ (getD_mem hi)
    simp only [pick, a, b, decide_true, Bool.and_true]
    simp
    omega
  rw [e]
  apply List.ext_getElem (by simp)
  intro i h1 h2
  simp only [List.getElem_map, List.getElem_range]
  simp [List.getD_eq_getElem?_getD, h2]
def scanR (p : St) : Cl := ⟨5, 0, 63, 0, 0, 0, p, 0, 0⟩
def readerD (lv e : Int) (p : St) : Dl := ⟨50, lv, 3, e + 1, e + 2, [scanR p]⟩
theorem reader_steps (lv e : Int) (p s : St) : St.steps s (readerD lv e p).ops = s := rfl
theorem reader_keys (lv e : Int) (p : St) : keysD (readerD lv e p) = [] := by kernel_rfl
theorem reader_view {p : St} (h : p.low) : allAnswer p [scanR p] = true := by
  unfold allAnswer allAnswer answersD scanR
  simp [h.span]
section
variable {l : List Dl} {e lv : Int} (hs : ∀ d ∈ l, d.state = 3 ∧ d.en ≤ e) (hid : ∀ d ∈ l, d.id ≠ 50) (hp : (atD l e (-1)).low)
include hs
theorem reader_at (when without : Int) : atD (l ++ [readerD lv e (atD l e (-1))]) when without = atD l when without :=
  at_append (fun d hd => by have := (hs d hd).2; show d.en < e + 2; omega) (reader_steps _ _ _) when without
theorem reader_all {when without : Int} (hw : e ≤ when) (ho : without < 0 ∨ (l.length : Int) ≤ without) : atD l when without = atD l e (-1) := by
  unfold atD
  rw [sel_all (fun d hd => ⟨(hs d hd).1, Int.le_trans (hs d hd).2 hw⟩) ho, sel_all hs (.inl (by decide))]
include hid
omit hs in
theorem reader_find : findD (l ++ [readerD lv e (atD l e (-1))]) 50 = some l.length := by
  unfold findD
  rw [List.findIdx?_eq_some_iff_getElem]
  refine ⟨by simp, by simp [readerD], fun j hj => ?_⟩
  have := hid (l[j]) (List.getElem_mem hj)
  simp [List.getElem_append_left hj, this]
include hp
omit hid in
theorem reader_from {when : Int} (hw : e ≤ when) : fromD (l ++ [readerD lv e (atD l e (-1))]) l.length when = true := by
  unfold fromD
  rw [reader_at hs, getD_app_r, reader_all hs hw (.inr (Int.le_refl _))]
  exact reader_view hp
theorem reader_snap : snapshotD (l ++ [readerD lv e (atD l e (-1))]) 50 = true := by
  unfold snapshotD
  rw [reader_find hid]
  show fromD _ l.length ((l ++ [readerD lv e (atD l e (-1))]).getD l.length dl0).beg = true
  rw [getD_app_r]
  exact reader_from hs hp (by show e ≤ e + 1; omega)
theorem reader_serial (he : 0 ≤ e) : serialD (l ++ [readerD lv e (atD l e (-1))]) 50 = true := by
  unfold serialD
  rw [reader_find hid]
  show fromD _ l.length (lastD ((l ++ [readerD lv e (atD l e (-1))]).getD l.length dl0)) = true
  rw [getD_app_r]
  refine reader_from hs hp ?_
  show e ≤ (if e + 2 < 1 then 1 else e + 2) - 1
  split <;> omega
theorem reader_rep : repeatableD (l ++ [readerD lv e (atD l e (-1))]) 50 = true := by
  unfold repeatableD
  rw [reader_snap hs hid hp, reader_find hid]
  show (true && stillThere _ [] ((l ++ [readerD lv e (atD l e (-1))]).getD l.length dl0).ops) = true
  rw [getD_app_r]
  rfl
theorem reader_hold (he : 0 ≤ e) (hl : lv = 1 ∨ lv = 2 ∨ lv = 3) : holdD (l ++ [readerD lv e (atD l e (-1))]) (readerD lv e (atD l e (-1))) = true := by
  unfold holdD
  rcases hl with rfl | rfl | rfl
  · exact reader_snap hs hid hp
  · exact reader_rep hs hid hp
  · show (serialD _ 50 && snapshotD _ 50) = true
    rw [reader_serial hs hid hp he, reader_snap hs hid hp]
    rfl
theorem reader_holds (he : 0 ≤ e) (hl : lv = 1 ∨ lv = 2 ∨ lv = 3) : holdsD (l ++ [readerD lv e (atD l e (-1))]) = holdsD l :=
  holds_append (fun d hd => by have := (hs d hd).2; show d.en < e + 2; omega) (reader_steps _ _ _) (reader_hold hs hid hp he hl)
end
theorem reader_writers {l : List Dl} {e lv : Int} {p : St} : writersD (l ++ [readerD lv e p]) = writersD l := writers_append (reader_keys _ _ _)

/-! ### What Serially answers -/
structure OpR where
  (kind key hi val : Int)
def opr0 : OpR := ⟨0, 0, 0, 0⟩
def serC (s : St) (o : OpR) : Option Cl :=
  if o.kind = 1 then some (match s.get (o.key % 8) with | some x => ⟨1, o.key % 8, 0, 0, 0, x, [], 0, 0⟩ | none => ⟨1, o.key % 8, 0, 0, 11, 0, [], 0, 0⟩)
  else if o.kind = 2 then some (if (s.get (o.key % 8)).isSome then ⟨2, o.key % 8, 0, o.val, 12, 0, [], 0, 0⟩ else ⟨2, o.key % 8, 0, o.val, 0, 0, [], 0, 0⟩)
  else if o.kind = 3 ∨ o.kind = 4 then some (if (s.get (o.key % 8)).isSome then ⟨o.kind, o.key % 8, 0, o.val, 0, 0, [], 0, 0⟩ else ⟨o.kind, o.key % 8, 0, o.val, 11, 0, [], 0, 0⟩)
  else if o.kind = 5 then some ⟨5, o.key % 8, 9, o.val, 0, 0, s.span (o.key % 8) 9, 0, 0⟩
  else none
theorem serC_answers {s : St} {o : OpR} {c : Cl} (h : serC s o = some c) : answersD s c = true := by
  obtain ⟨kind, key, hi, val⟩ := o
  unfold serC at h
  dsimp only at h
  by_cases k1 : kind = 1
  · rw [if_pos k1] at h
    cases hg : s.get (key % 8) <;> rw [hg] at h <;> simp only [Option.some.injEq] at h <;> subst h <;> simp [answersD, hg]
  rw [if_neg k1] at h
  by_cases k2 : kind = 2
  · rw [if_pos k2] at h
    cases hg : s.get (key % 8) <;> rw [hg] at h <;> simp at h <;> subst h <;> simp [answersD, hg]
  rw [if_neg k2] at h
  by_cases k3 : kind = 3 ∨ kind = 4
  · rw [if_pos k3] at h
    have k5 : ¬ kind = 5 := by omega
    cases hg : s.get (key % 8) <;> rw [hg] at h <;> simp at h <;> subst h <;> simp [answersD, hg, k1, k2, k3, k5]
  rw [if_neg k3] at h
  by_cases k5 : kind = 5
  · rw [if_pos k5] at h
    simp only [Option.some.injEq] at h
    subst h
    simp [answersD]
  · rw [if_neg k5] at h
    cases h
theorem serC_key {s : St} {o : OpR} {c : Cl} (h : serC s o = some c) : c.key = o.key % 8 := by
  unfold serC at h
  split at h
  · split at h <;> (simp only [Option.some.injEq] at h; subst h; rfl)
  · split at h
    · split at h <;> (simp only [Option.some.injEq] at h; subst h; rfl)
    · split at h
      · split at h <;> (simp only [Option.some.injEq] at h; subst h; rfl)
      · split at h
        · simp only [Option.some.injEq] at h; subst h; rfl
        · cases h
theorem all_snoc {c : Cl} : ∀ {l : List Cl} {s : St}, allAnswer s l = true → answersD (St.steps s l) c = true → allAnswer s (l ++ [c]) = true
  | [], s, _, h => by simpa [allAnswer, St.steps] using h
  | x :: r, s, h1, h2 => by
    simp only [allAnswer, Bool.and_eq_true] at h1
    simp only [List.cons_append, allAnswer, h1.1, Bool.true_and]
    exact all_snoc (l := r) h1.2 h2
theorem ser_snoc {d : Dl} : ∀ {l : List Dl} {s : St} {c e : Int} {t : St}, Ser s c l → (l.foldl (fun s d => St.steps s d.ops) s = t) → (∀ x ∈ l, x.en ≤ e) → c ≤ e → d.state = 3 → e < d.beg → d.beg < d.en → allAnswer t d.ops = true → Ser s c (l ++ [d])
  | [], s, c, e, t, _, ht, _, hc, h1, h2, h3, h4 => by
    subst ht
    exact ⟨h1, by omega, h3, h4, trivial⟩
  | x :: r, s, c, e, t, h, ht, he, hc, h1, h2, h3, h4 => by
    obtain ⟨a1, a2, a3, a4, a5⟩ := h
    exact ⟨a1, a2, a3, a4, ser_snoc (l := r) a5 ht (fun y hy => he y (by simp [hy])) (he x (by simp)) h1 h2 h3 h4⟩
end Go.Proofs.Ytpohehialkgigaa
