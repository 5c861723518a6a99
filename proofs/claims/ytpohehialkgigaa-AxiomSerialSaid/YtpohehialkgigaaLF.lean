/- AxiomSerial, in plain words: told in any order all is kept; with one answer turned the one that told it is told. -/
import Derived.Test.YtpohehialkgigaaLE
namespace Go.Proofs.Ytpohehialkgigaa
open Go.RowKit
theorem at_cut {l : List Dl} {i : Nat} (hi : i < l.length) : l = l.take i ++ l.getD i dl0 :: l.drop (i + 1) := by
  have e : l.getD i dl0 = l[i] := by simp [List.getD_eq_getElem?_getD, hi]
  rw [e]
  simp
def runD (l : List Dl) (s : St) : St := l.foldl (fun s d => St.steps s d.ops) s
theorem ser_at : ∀ {l : List Dl} {s : St} {c : Int}, Ser s c l → ∀ {i : Nat}, i < l.length → allAnswer (runD (l.take i) s) (l.getD i dl0).ops = true
  | [], _, _, _, i, hi => absurd hi (Nat.not_lt_zero i)
  | _ :: _, _, _, h, 0, _ => h.2.2.2.1
  | _ :: r, _, _, h, i + 1, hi => by
    have := ser_at (l := r) h.2.2.2.2 (i := i) (by simpa using hi)
    simpa [runD, List.getD_eq_getElem?_getD] using this
theorem ser_apart : ∀ {l : List Dl} {s : St} {c : Int}, Ser s c l → l.Pairwise fun a b => a.en < b.beg
  | [], _, _, _ => List.Pairwise.nil
  | _ :: r, _, _, h => List.pairwise_cons.2 ⟨fun y hy => (Ser.above h.2.2.2.2 y hy).1, ser_apart (l := r) h.2.2.2.2⟩
theorem at_rising {l : List Dl} (hr : l.Pairwise fun a b => a.en < b.en) (when : Int) : atD l when (-1) = runD (l.filter fun d => decide (d.state = 3) && decide (d.en ≤ when)) [] := by
  unfold atD runD
  rw [sel_neg]
  have h : (l.filter fun d => decide (d.state = 3) && decide (d.en ≤ when)).Pairwise fun a b => a.en < b.en := hr.sublist List.filter_sublist
  rw [← srt_only (.refl _) (h.imp fun h => by omega) (h.imp fun h => by omega)]
theorem at_perm {l m : List Dl} (hp : m.Perm l) (hr : l.Pairwise fun a b => a.en < b.en) (when : Int) : atD m when (-1) = atD l when (-1) := by
  unfold atD
  rw [sel_neg, sel_neg]
  have h : (l.filter fun d => decide (d.state = 3) && decide (d.en ≤ when)).Pairwise fun a b => a.en < b.en := hr.sublist List.filter_sublist
  have hf : (l.filter fun d => decide (d.state = 3) && decide (d.en ≤ when)).Perm (m.filter fun d => decide (d.state = 3) && decide (d.en ≤ when)) := (hp.filter _).symm
  rw [← srt_only (.refl _) (h.imp fun h => by omega) (h.imp fun h => by omega)]
  rw [← srt_only hf (h.imp fun h => by omega) ((hf.pairwise_iff (fun h e => h e.symm)).1 (h.imp fun h => by omega))]
theorem sel_out {m : List Dl} {when : Int} {i : Nat} (hi : when < (m.getD i dl0).en) : sel m when i = sel m when (-1) := by
  unfold sel selI
  congr 1
  apply List.filter_congr
  intro j hj
  unfold pick
  have e2 : decide ((j : Int) = -1) = false := by simp
  rw [e2]
  by_cases e : (j : Int) = (i : Int)
  · have : j = i := by omega
    subst this
    have h1 : decide ((m.getD j dl0).en ≤ when) = false := by simpa using hi
    rw [h1]
    simp
  · simp [e]
theorem at_out {m : List Dl} {when : Int} {i : Nat} (hi : when < (m.getD i dl0).en) : atD m when i = atD m when (-1) := by
  unfold atD
  rw [sel_out hi]
theorem getD_get {l : List Dl} {i : Nat} (hi : i < l.length) : l.getD i dl0 = l[i] := by simp [List.getD_eq_getElem?_getD, hi]
/-- What is there when the j-th begins, or just ahead of its end. -/
theorem at_before {l : List Dl} (h3 : ∀ x ∈ l, x.state = 3) (hr : l.Pairwise fun a b => a.en < b.en) {j : Nat} (hj : j < l.length) {when : Int} (h1 : ∀ i, i < j → (l.getD i dl0).en ≤ when) (h2 : when < (l.getD j dl0).en) : atD l when (-1) = runD (l.take j) [] := by
  rw [at_rising hr]
  congr 1
  have e : l = l.take j ++ l.drop j := (List.take_append_drop j l).symm
  have f1 : (l.take j).filter (fun d => decide (d.state = 3) && decide (d.en ≤ when)) = l.take j := by
    rw [List.filter_eq_self]
    intro x hx
    obtain ⟨i, hi, rfl⟩ := List.getElem_of_mem hx
    simp only [List.length_take] at hi
    have a := h1 i (by omega)
    rw [getD_get (by omega)] at a
    rw [List.getElem_take]
    simp [a, h3 _ (List.getElem_mem _)]
  have f2 : (l.drop j).filter (fun d => decide (d.state = 3) && decide (d.en ≤ when)) = [] := by
    rw [List.filter_eq_nil_iff]
    intro x hx
    obtain ⟨i, hi, rfl⟩ := List.getElem_of_mem hx
    simp only [List.length_drop] at hi
    rw [List.getElem_drop]
    rw [getD_get hj] at h2
    have : l[j].en ≤ l[j + i].en := by
      by_cases hz : i = 0
      · subst hz
        exact Int.le_refl _
      · have := List.pairwise_iff_getElem.1 hr j (j + i) hj (by omega) (by omega)
        omega
    simp
    omega
  conv => lhs; rw [e]
  rw [List.filter_append, f1, f2, List.append_nil]
theorem find_at {m : List Dl} (hu : m.Pairwise fun a b => a.id ≠ b.id) (h3 : ∀ x ∈ m, x.state = 3) {i : Nat} (hi : i < m.length) : findD m (m.getD i dl0).id = some i := by
  unfold findD
  rw [getD_get hi, List.findIdx?_eq_some_iff_getElem]
  refine ⟨hi, by simp [h3 _ (List.getElem_mem hi)], fun j hj => ?_⟩
  have := List.pairwise_iff_getElem.1 hu j i (by omega) hi hj
  simp [this]
theorem still_of_all : ∀ {ops : List Cl} {s : St} {mine : List Int}, allAnswer s ops = true → stillThere s mine ops = true
  | [], _, _, _ => rfl
  | c :: r, s, mine, h => by
    simp only [allAnswer, Bool.and_eq_true] at h
    simp only [stillThere, h.1, Bool.not_true, Bool.and_false, Bool.not_false, Bool.true_and]
    exact still_of_all (ops := r) h.2
section
variable {m : List Dl} {i : Nat} {V : St} (hu : m.Pairwise fun a b => a.id ≠ b.id) (h3 : ∀ x ∈ m, x.state = 3) (hi : i < m.length) (h1 : atD m (m.getD i dl0).beg i = V) (h2 : atD m (lastD (m.getD i dl0)) i = V)
include hu h3 hi h1
theorem view_snap : snapshotD m (m.getD i dl0).id = allAnswer V (m.getD i dl0).ops := by
  unfold snapshotD
  rw [find_at hu h3 hi]
  show fromD m i (m.getD i dl0).beg = _
  unfold fromD
  rw [h1]
include h2
omit h1 in
theorem view_serial : serialD m (m.getD i dl0).id = allAnswer V (m.getD i dl0).ops := by
  unfold serialD
  rw [find_at hu h3 hi]
  show fromD m i (lastD (m.getD i dl0)) = _
  unfold fromD
  rw [h2]
theorem view_hold (hl : (m.getD i dl0).level = 1 ∨ (m.getD i dl0).level = 2 ∨ (m.getD i dl0).level = 3) : holdD m (m.getD i dl0) = allAnswer V (m.getD i dl0).ops := by
  have a := view_snap hu h3 hi h1
  have b := view_serial hu h3 hi h2
  unfold holdD
  rcases hl with e | e | e
  · rw [if_pos e, a]
  · rw [if_neg (by omega), if_pos e]
    unfold repeatableD
    rw [a, find_at hu h3 hi]
    show (_ && stillThere (atD m (lastD (m.getD i dl0)) i) [] (m.getD i dl0).ops) = _
    rw [h2]
    cases h : allAnswer V (m.getD i dl0).ops with
    | false => rfl
    | true => rw [still_of_all h]; rfl
  · rw [if_neg (by omega), if_neg (by omega), if_pos e, a, b, Bool.and_self]
end
theorem first_all {m : List Dl} {p : Dl → Bool} (h : ∀ x ∈ m, p x = true) (a : Bool × Int) : m.foldl (firstStep p) a = a := by
  induction m generalizing a with
  | nil => rfl
  | cons x r ih =>
    rw [List.foldl_cons]
    have : firstStep p a x = a := by
      unfold firstStep
      rw [h x (by simp)]
      simp
    rw [this]
    exact ih (fun y hy => h y (by simp [hy])) a
theorem first_one {A B : List Dl} {d : Dl} {p : Dl → Bool} (hA : ∀ x ∈ A, p x = true) (hd : p d = false) (h3 : d.state = 3) (hB : ∀ x ∈ B, p x = true) : firstD (A ++ d :: B) p = (false, d.id) := by
  unfold firstD
  rw [List.foldl_append, first_all hA, List.foldl_cons, first_all hB]
  unfold firstStep
  rw [hd, h3]
  rfl
theorem SerK.ids_apart {k c : Nat} {l : List Dl} {s : St} (h : SerK k c l s) : l.Pairwise fun a b => a.id ≠ b.id := by
  rw [List.pairwise_iff_getElem]
  intro i j hi hj hij
  have hl := h.len
  have a := h.ids i (by omega)
  have b := h.ids j (by omega)
  rw [getD_get hi] at a
  rw [getD_get hj] at b
  rw [a, b]
  omega
theorem SerK.three {k c : Nat} {l : List Dl} {s : St} (h : SerK k c l s) : ∀ x ∈ l, x.state = 3 := fun x hx => (Ser.above h.ser x hx).2.2
theorem last_of {d : Dl} (h : 1 ≤ d.en) : lastD d = d.en - 1 := by
  unfold lastD
  rw [if_neg (by omega)]
/-- Where a list is told in any order. -/
theorem told_any {k c : Nat} {l m : List Dl} {s : St} (h : SerK k c l s) (hp : m.Perm l) : holdsD m = (true, 0) ∧ replayD m = (true, 0) ∧ writersD m = true ∧ ∀ when, atD m when (-1) = atD l when (-1) := by
  have hr := Ser.rising h.ser
  have h3 := h.three
  have hu : m.Pairwise fun a b => a.id ≠ b.id := (hp.pairwise_iff (fun h e => h e.symm)).2 h.ids_apart
  have h3m : ∀ x ∈ m, x.state = 3 := fun x hx => h3 x (hp.mem_iff.1 hx)
  have hap := ser_apart h.ser
  have hx : ∀ x ∈ m, holdD m x = true ∧ serialD m x.id = true := by
    intro x hx
    obtain ⟨i, hi, rfl⟩ := List.getElem_of_mem hx
    obtain ⟨j, hj, hje⟩ := List.getElem_of_mem (hp.mem_iff.1 hx)
    rw [← getD_get hi] at hje ⊢
    rw [← getD_get hj] at hje
    have hab := Ser.above h.ser _ (getD_mem hj)
    have hlt : ∀ i, i < j → (l.getD i dl0).en < (l.getD j dl0).beg := fun i hij => by
      have := List.pairwise_iff_getElem.1 hap i j (by omega) hj hij
      rw [getD_get hj, getD_get (by omega)]
      exact this
    have hv : ∀ when, (∀ i, i < j → (l.getD i dl0).en ≤ when) → when < (l.getD j dl0).en → atD m when i = runD (l.take j) [] := fun when a b => by
      rw [at_out (by rw [← hje]; exact b), at_perm hp hr, at_before h3 hr hj a b]
    have hans := ser_at h.ser hj
    rw [hje] at hans hv hlt hab
    have v1 := hv (m.getD i dl0).beg (fun i hi => by have := hlt i hi; omega) hab.2.1
    have v2 := hv (lastD (m.getD i dl0)) (fun i hi => by have := hlt i hi; rw [last_of (by omega)]; omega) (by rw [last_of (by omega)]; omega)
    have hlev := h.lev _ (hp.mem_iff.1 hx)
    rw [← getD_get hi] at hlev
    exact ⟨(view_hold hu h3m hi v1 v2 hlev).trans hans, (view_serial hu h3m hi v2).trans hans⟩
  refine ⟨first_all (fun x hxm => (hx x hxm).1) _, first_all (fun x hxm => (hx x hxm).2) _, ?_, fun when => at_perm hp hr when⟩
  have hov : m.Pairwise fun a b => a.en ≤ b.beg ∨ b.en ≤ a.beg := (hp.pairwise_iff (fun h => h.symm)).2 (hap.imp fun h => .inl (by omega))
  refine writers_yes fun i hi j hj => ?_
  have := List.pairwise_iff_getElem.1 hov j i (by omega) hi hj
  unfold clash overlapD
  rw [getD_get hi, getD_get (by omega)]
  rcases this with a | a <;> simp [a]

/-! ### One answer turned -/
/-- A call that told a value, and now tells another one. -/
def Cl.turn (c : Cl) (v : Int) : Cl := ⟨c.kind, c.key, c.hi, c.val, c.e, v, c.pairs, c.over, c.reason⟩
def Dl.turn (d : Dl) (q : Nat) (v : Int) : Dl := ⟨d.id, d.level, d.state, d.beg, d.en, d.ops.set q ((d.ops.getD q cl0).turn v)⟩
theorem step_turn {c : Cl} (hk : c.kind = 1) (v : Int) (s : St) : s.step (c.turn v) = s.step c := by
  unfold St.step Cl.turn
  simp [hk]
theorem steps_turn : ∀ {ops : List Cl} {q : Nat} (_hq : q < ops.length) (_hk : (ops.getD q cl0).kind = 1) (v : Int) (s : St), St.steps s (ops.set q ((ops.getD q cl0).turn v)) = St.steps s ops
  | [], q, hq, _, _, _ => absurd hq (Nat.not_lt_zero q)
  | c :: r, 0, _, hk, v, s => by
    have hk' : c.kind = 1 := hk
    show St.steps (s.step (c.turn v)) r = St.steps (s.step c) r
    rw [step_turn hk']
  | c :: r, q + 1, hq, hk, v, s => by
    have := steps_turn (ops := r) (q := q) (by simpa using hq) (by simpa [List.getD_eq_getElem?_getD] using hk) v (s.step c)
    simpa [St.steps, List.getD_eq_getElem?_getD] using this
theorem turn_bad : ∀ {ops : List Cl} {q : Nat} (_hq : q < ops.length) (_hk : (ops.getD q cl0).kind = 1) (_he : (ops.getD q cl0).e = 0) {v : Int} (_hv : v ≠ (ops.getD q cl0).rv) {s : St}, allAnswer s ops = true → allAnswer s (ops.set q ((ops.getD q cl0).turn v)) = false
  | [], q, hq, _, _, _, _, _, _ => absurd hq (Nat.not_lt_zero q)
  | c :: r, 0, _, hk, he, v, hv, s, h => by
    have hk' : c.kind = 1 := hk
    have he' : c.e = 0 := he
    have hv' : v ≠ c.rv := hv
    simp only [allAnswer, Bool.and_eq_true] at h
    have h1 := h.1
    unfold answersD at h1
    rw [if_pos hk', he'] at h1
    have hs : answersD s (c.turn v) = false := by
      unfold answersD Cl.turn
      dsimp only
      rw [if_pos hk', he']
      cases hg : s.get c.key with
      | none => rw [hg] at h1; simp at h1
      | some y =>
        rw [hg] at h1
        simp at h1
        simp
        rw [← h1]
        exact hv'
    show (answersD s (c.turn v) && _) = false
    rw [hs]
    rfl
  | c :: r, q + 1, hq, hk, he, v, hv, s, h => by
    simp only [allAnswer, Bool.and_eq_true] at h
    have := turn_bad (ops := r) (q := q) (by simpa using hq) (by simpa [List.getD_eq_getElem?_getD] using hk) (by simpa [List.getD_eq_getElem?_getD] using he) (v := v) (by simpa [List.getD_eq_getElem?_getD] using hv) (s := s.step c) h.2
    show (answersD s c && allAnswer (s.step c) (r.set q (((c :: r).getD (q + 1) cl0).turn v))) = false
    have e : ((c :: r).getD (q + 1) cl0) = r.getD q cl0 := by simp [List.getD_eq_getElem?_getD]
    rw [e, this, Bool.and_false]
section
variable {k c : Nat} {l : List Dl} {s : St} {i q : Nat} {v : Int} (h : SerK k c l s) (hi : i < l.length) (hq : q < (l.getD i dl0).ops.length) (hk : ((l.getD i dl0).ops.getD q cl0).kind = 1)
include h hi hq hk
theorem turned_at (when : Int) : atD (l.take i ++ (l.getD i dl0).turn q v :: l.drop (i + 1)) when (-1) = atD l when (-1) := by
  have hr := Ser.rising h.ser
  have e := at_cut hi
  have hr2 : (l.take i ++ (l.getD i dl0).turn q v :: l.drop (i + 1)).Pairwise fun a b => a.en < b.en := by
    rw [e] at hr
    rw [List.pairwise_append] at hr ⊢
    obtain ⟨a, b, cc⟩ := hr
    obtain ⟨b1, b2⟩ := List.pairwise_cons.1 b
    exact ⟨a, List.pairwise_cons.2 ⟨b1, b2⟩, fun x hx y hy => by
      rcases List.mem_cons.1 hy with rfl | hy
      · exact cc x hx (l.getD i dl0) (List.mem_cons_self ..)
      · exact cc x hx y (List.mem_cons_of_mem _ hy)⟩
  rw [at_rising hr2, at_rising hr]
  conv => rhs; rw [e]
  rw [List.filter_append, List.filter_append, List.filter_cons, List.filter_cons]
  show runD (_ ++ if (decide ((l.getD i dl0).state = 3) && decide ((l.getD i dl0).en ≤ when)) = true then _ else _) [] = _
  unfold runD
  rw [List.foldl_append, List.foldl_append]
  split
  · rw [List.foldl_cons, List.foldl_cons]
    congr 1
    exact steps_turn hq hk v _
  · rfl
theorem turned_told (he : ((l.getD i dl0).ops.getD q cl0).e = 0) (hv : v ≠ ((l.getD i dl0).ops.getD q cl0).rv) :
    holdsD (l.take i ++ (l.getD i dl0).turn q v :: l.drop (i + 1)) = (false, (l.getD i dl0).id) ∧ replayD (l.take i ++ (l.getD i dl0).turn q v :: l.drop (i + 1)) = (false, (l.getD i dl0).id) := by
  have hr := Ser.rising h.ser
  have h3 := h.three
  have hap := ser_apart h.ser
  have hta := turned_at (v := v) h hi hq hk
  obtain ⟨T, hT⟩ : ∃ T, T = l.take i ++ (l.getD i dl0).turn q v :: l.drop (i + 1) := ⟨_, rfl⟩
  have hTs : T = l.set i ((l.getD i dl0).turn q v) := by
    rw [hT, List.set_eq_take_append_cons_drop, if_pos hi]
  have hlen : T.length = l.length := by rw [hTs, List.length_set]
  have hTi : T.getD i dl0 = (l.getD i dl0).turn q v := by rw [hTs]; simp [List.getD_eq_getElem?_getD, hi]
  have hTj : ∀ j, j ≠ i → T.getD j dl0 = l.getD j dl0 := fun j hj => by rw [hTs]; simp [List.getD_eq_getElem?_getD, List.getElem?_set_ne (fun e => hj e.symm)]
  have hsame : ∀ j, (T.getD j dl0).id = (l.getD j dl0).id ∧ (T.getD j dl0).state = (l.getD j dl0).state ∧ (T.getD j dl0).beg = (l.getD j dl0).beg ∧ (T.getD j dl0).en = (l.getD j dl0).en ∧ (T.getD j dl0).level = (l.getD j dl0).level := fun j => by
    by_cases e : j = i
    · subst e
      rw [hTi]
      exact ⟨rfl, rfl, rfl, rfl, rfl⟩
    · rw [hTj j e]
      exact ⟨rfl, rfl, rfl, rfl, rfl⟩
  have hu : T.Pairwise fun a b => a.id ≠ b.id := by
    rw [List.pairwise_iff_getElem]
    intro a b ha hb hab
    have := List.pairwise_iff_getElem.1 h.ids_apart a b (by omega) (by omega) hab
    rw [← getD_get ha, ← getD_get hb, (hsame a).1, (hsame b).1, getD_get (by omega), getD_get (by omega)]
    exact this
  have h3T : ∀ x ∈ T, x.state = 3 := fun x hx => by
    obtain ⟨j, hj, rfl⟩ := List.getElem_of_mem hx
    rw [← getD_get hj, (hsame j).2.1]
    exact h3 _ (getD_mem (by omega))
  rw [← hT] at hta ⊢
  have hview : ∀ j, j < l.length → ∀ when, (∀ i, i < j → (l.getD i dl0).en ≤ when) → when < (l.getD j dl0).en → atD T when j = runD (l.take j) [] := fun j hj when a b => by
    rw [at_out (by rw [(hsame j).2.2.2.1]; exact b), hta, at_before h3 hr hj a b]
  have hboth : ∀ j, j < l.length → holdD T (T.getD j dl0) = allAnswer (runD (l.take j) []) (T.getD j dl0).ops ∧ serialD T (T.getD j dl0).id = allAnswer (runD (l.take j) []) (T.getD j dl0).ops := fun j hj => by
    have hab := Ser.above h.ser _ (getD_mem hj)
    have hlt : ∀ i, i < j → (l.getD i dl0).en < (l.getD j dl0).beg := fun i hij => by
      have := List.pairwise_iff_getElem.1 hap i j (by omega) hj hij
      rw [getD_get hj, getD_get (by omega)]
      exact this
    obtain ⟨s1, s2, s3, s4, s5⟩ := hsame j
    have v1 := hview j hj (T.getD j dl0).beg (fun i hi => by have := hlt i hi; omega) (by rw [s3]; exact hab.2.1)
    have v2 := hview j hj (lastD (T.getD j dl0)) (fun i hi => by have := hlt i hi; rw [last_of (by omega)]; omega) (by rw [last_of (by omega)]; omega)
    exact ⟨view_hold hu h3T (by omega) v1 v2 (by rw [s5]; exact h.lev _ (getD_mem hj)), view_serial hu h3T (by omega) v2⟩
  have hgood : ∀ j, j < l.length → j ≠ i → holdD T (T.getD j dl0) = true ∧ serialD T (T.getD j dl0).id = true := fun j hj hji => by
    obtain ⟨a, b⟩ := hboth j hj
    rw [a, b, hTj j hji]
    exact ⟨ser_at h.ser hj, ser_at h.ser hj⟩
  have hbad : holdD T ((l.getD i dl0).turn q v) = false ∧ serialD T ((l.getD i dl0).turn q v).id = false := by
    obtain ⟨a, b⟩ := hboth i hi
    rw [hTi] at a b
    rw [a, b]
    have := turn_bad hq hk he hv (ser_at h.ser hi)
    exact ⟨this, this⟩
  have hA : ∀ x ∈ l.take i, holdD T x = true ∧ serialD T x.id = true := fun x hx => by
    obtain ⟨j, hj, rfl⟩ := List.getElem_of_mem hx
    simp only [List.length_take] at hj
    have := hgood j (by omega) (by omega)
    rw [hTj j (by omega), getD_get (by omega)] at this
    rw [List.getElem_take]
    exact this
  have hB : ∀ x ∈ l.drop (i + 1), holdD T x = true ∧ serialD T x.id = true := fun x hx => by
    obtain ⟨j, hj, rfl⟩ := List.getElem_of_mem hx
    simp only [List.length_drop] at hj
    have := hgood (i + 1 + j) (by omega) (by omega)
    rw [hTj _ (by omega), getD_get (by omega)] at this
    rw [List.getElem_drop]
    exact this
  have h3i : ((l.getD i dl0).turn q v).state = 3 := by
    show (l.getD i dl0).state = 3
    exact h3 _ (getD_mem hi)
  have r1 := first_one (p := holdD T) (fun x hx => (hA x hx).1) hbad.1 h3i (fun x hx => (hB x hx).1)
  have r2 := first_one (p := fun d => serialD T d.id) (fun x hx => (hA x hx).2) hbad.2 h3i (fun x hx => (hB x hx).2)
  rw [← hT] at r1 r2
  exact ⟨r1, r2⟩
omit hk in
theorem turned_good (hk10 : k ≤ 10) : Good (l.take i ++ (l.getD i dl0).turn q v :: l.drop (i + 1)) := by
  have hg := h.good hk10
  rw [at_cut hi] at hg
  have hc : ∀ x ∈ ((l.getD i dl0).turn q v).ops, x ∈ (l.getD i dl0).ops ∨ x = ((l.getD i dl0).ops.getD q cl0).turn v := fun x hx => List.mem_or_eq_of_mem_set hx
  have hm : (l.getD i dl0).ops.getD q cl0 ∈ (l.getD i dl0).ops := getC_mem hq
  refine ⟨by simpa using hg.few, fun x hx => ?_, ?_, fun x hx => ?_⟩
  · rcases List.mem_append.1 hx with hx | hx
    · exact hg.wf x (by simp [hx])
    · rcases List.mem_cons.1 hx with rfl | hx
      · have := hg.wf (l.getD i dl0) (by simp)
        refine ⟨this.beg, this.en, fun y hy => ?_, ?_⟩
        · rcases hc y hy with hy | rfl
          · exact this.ops y hy
          · have := this.ops _ hm
            exact ⟨this.kind, this.key, this.val⟩
        · show ((l.getD i dl0).ops.set _ _).length ≤ 1000
          rw [List.length_set]
          exact this.few
      · exact hg.wf x (by simp [hx])
  · have h1 := hg.apart
    rw [List.pairwise_append] at h1 ⊢
    obtain ⟨a, b, cc⟩ := h1
    obtain ⟨b1, b2⟩ := List.pairwise_cons.1 b
    exact ⟨a, List.pairwise_cons.2 ⟨b1, b2⟩, fun x hx y hy => by
      rcases List.mem_cons.1 hy with rfl | hy
      · exact cc x hx (l.getD i dl0) (List.mem_cons_self ..)
      · exact cc x hx y (List.mem_cons_of_mem _ hy)⟩
  · rcases List.mem_append.1 hx with hx | hx
    · exact hg.pairs x (by simp [hx])
    · rcases List.mem_cons.1 hx with rfl | hx
      · intro y hy
        rcases hc y hy with hy | rfl
        · exact hg.pairs (l.getD i dl0) (by simp) y hy
        · exact hg.pairs (l.getD i dl0) (by simp) ((l.getD i dl0).ops.getD q cl0) hm
      · exact hg.pairs x (by simp [hx])
end
end Go.Proofs.Ytpohehialkgigaa
