/- Deals done one behind the other, in plain words; one that only reads, put behind them. -/
import Derived.Test.YtpohehialkgigaaAU
namespace Go.Proofs.Ytpohehialkgigaa
open Go.RowKit

/-- Deals that are done one behind the other, from a state and a time on. -/
def Ser : St → Int → List Dl → Prop
  | _, _, [] => True
  | s, c, d :: r => d.state = 3 ∧ c < d.beg ∧ d.beg < d.en ∧ allAnswer s d.ops = true ∧ Ser (St.steps s d.ops) d.en r
theorem Ser.above : ∀ {l : List Dl} {s : St} {c : Int}, Ser s c l → ∀ d ∈ l, c < d.beg ∧ d.beg < d.en ∧ d.state = 3
  | [], _, _, _, d, hd => by simp at hd
  | x :: r, s, c, h, d, hd => by
    obtain ⟨h1, h2, h3, _, h5⟩ := h
    rcases List.mem_cons.1 hd with rfl | hd
    · exact ⟨h2, h3, h1⟩
    · obtain ⟨a, b, e⟩ := Ser.above h5 d hd
      exact ⟨by omega, b, e⟩
theorem Ser.rising : ∀ {l : List Dl} {s : St} {c : Int}, Ser s c l → l.Pairwise fun a b => a.en < b.en
  | [], _, _, _ => List.Pairwise.nil
  | x :: r, s, c, h => by
    obtain ⟨_, _, _, _, h5⟩ := h
    refine List.pairwise_cons.2 ⟨fun d hd => ?_, Ser.rising h5⟩
    obtain ⟨a, b, _⟩ := Ser.above h5 d hd
    omega

/-! ### What counts at a time -/
theorem getD_app_l {l m : List Dl} {i : Nat} (hi : i < l.length) : (l ++ m).getD i dl0 = l.getD i dl0 := by
  simp [List.getD_eq_getElem?_getD, List.getElem?_append_left hi]
theorem getD_app_r {l : List Dl} {r : Dl} : (l ++ [r]).getD l.length dl0 = r := by
  simp [List.getD_eq_getElem?_getD]
theorem sel_append (l : List Dl) (r : Dl) (when without : Int) : sel (l ++ [r]) when without = sel l when without ++ (if pick when without l.length r then [r] else []) := by
  unfold sel selI
  rw [List.length_append, List.length_singleton, List.range_succ, List.filter_append, List.map_append]
  have e1 : ((List.range l.length).filter fun i => pick when without i ((l ++ [r]).getD i dl0)) = (List.range l.length).filter fun i => pick when without i (l.getD i dl0) := by
    apply List.filter_congr
    intro i hi
    rw [getD_app_l (by simpa using hi)]
  rw [e1]
  congr 1
  · apply List.map_congr_left
    intro i hi
    have := (List.mem_filter.1 hi).1
    rw [getD_app_l (by simpa using this)]
  · simp only [List.filter_cons, List.filter_nil, getD_app_r]
    split <;> simp
theorem sel_mem {l : List Dl} {when without : Int} {d : Dl} (h : d ∈ sel l when without) : d ∈ l ∧ d.state = 3 ∧ d.en ≤ when := by
  unfold sel selI at h
  obtain ⟨i, hi, rfl⟩ := List.mem_map.1 h
  obtain ⟨h1, h2⟩ := List.mem_filter.1 hi
  simp only [List.mem_range] at h1
  simp only [pick, Bool.and_eq_true, decide_eq_true_eq] at h2
  exact ⟨getD_mem h1, h2.1.2, h2.2⟩
theorem insD_last {x r : Dl} (h : x.en < r.en) : ∀ l : List Dl, insD x (l ++ [r]) = insD x l ++ [r]
  | [] => by simp [insD, h]
  | y :: l => by
    simp only [List.cons_append, insD]
    split
    · rfl
    · rw [insD_last h l]
      rfl
theorem srt_last {r : Dl} : ∀ l : List Dl, (∀ d ∈ l, d.en < r.en) → srt (l ++ [r]) = srt l ++ [r]
  | [], _ => rfl
  | x :: l, h => by
    show insD x (srt (l ++ [r])) = insD x (srt l) ++ [r]
    rw [srt_last l fun d hd => h d (by simp [hd]), insD_last (h x (by simp))]
/-- One that turns nothing, and ended behind all others, turns nothing of what is there. -/
theorem at_append {l : List Dl} {r : Dl} (hl : ∀ d ∈ l, d.en < r.en) (hr : ∀ s, St.steps s r.ops = s) (when without : Int) : atD (l ++ [r]) when without = atD l when without := by
  unfold atD
  rw [sel_append]
  split
  · rw [srt_last _ fun d hd => hl d (sel_mem hd).1, List.foldl_append]
    exact hr _
  · rw [List.append_nil]
theorem find_append {l : List Dl} {r : Dl} {id : Int} {i : Nat} (h : findD l id = some i) : findD (l ++ [r]) id = some i := by
  unfold findD at *
  rw [List.findIdx?_append, h]
  rfl
theorem find_some {l : List Dl} {d : Dl} (hd : d ∈ l) (hs : d.state = 3) : ∃ i, findD l d.id = some i := by
  unfold findD
  cases h : l.findIdx? fun x => decide (x.id = d.id) && decide (x.state = 3) with
  | some i => exact ⟨i, rfl⟩
  | none =>
    rw [List.findIdx?_eq_none_iff] at h
    have := h d hd
    simp [hs] at this
section
variable {l : List Dl} {r : Dl} (hl : ∀ d ∈ l, d.en < r.en) (hr : ∀ s, St.steps s r.ops = s)
include hl hr
theorem from_append {i : Nat} (hi : i < l.length) (when : Int) : fromD (l ++ [r]) i when = fromD l i when := by
  unfold fromD
  rw [at_append hl hr, getD_app_l hi]
theorem snap_append {d : Dl} (hd : d ∈ l) (hs : d.state = 3) : snapshotD (l ++ [r]) d.id = snapshotD l d.id := by
  obtain ⟨i, hi⟩ := find_some hd hs
  unfold snapshotD
  rw [hi, find_append hi]
  show fromD (l ++ [r]) i ((l ++ [r]).getD i dl0).beg = _
  rw [getD_app_l (findD_lt hi), from_append hl hr (findD_lt hi)]
theorem serial_append {d : Dl} (hd : d ∈ l) (hs : d.state = 3) : serialD (l ++ [r]) d.id = serialD l d.id := by
  obtain ⟨i, hi⟩ := find_some hd hs
  unfold serialD
  rw [hi, find_append hi]
  show fromD (l ++ [r]) i (lastD ((l ++ [r]).getD i dl0)) = _
  rw [getD_app_l (findD_lt hi), from_append hl hr (findD_lt hi)]
theorem rep_append {d : Dl} (hd : d ∈ l) (hs : d.state = 3) : repeatableD (l ++ [r]) d.id = repeatableD l d.id := by
  obtain ⟨i, hi⟩ := find_some hd hs
  unfold repeatableD
  rw [snap_append hl hr hd hs, hi, find_append hi]
  show (_ && stillThere (atD (l ++ [r]) (lastD ((l ++ [r]).getD i dl0)) i) [] ((l ++ [r]).getD i dl0).ops) = _
  rw [getD_app_l (findD_lt hi), at_append hl hr]
theorem hold_append {d : Dl} (hd : d ∈ l) (hs : d.state = 3) : holdD (l ++ [r]) d = holdD l d := by
  unfold holdD
  rw [snap_append hl hr hd hs, serial_append hl hr hd hs, rep_append hl hr hd hs]
theorem holds_append (hh : holdD (l ++ [r]) r = true) : holdsD (l ++ [r]) = holdsD l := by
  unfold holdsD firstD
  rw [List.foldl_append]
  have e : ∀ (m : List Dl) (a : Bool × Int), (∀ d ∈ m, d ∈ l) → m.foldl (firstStep (holdD (l ++ [r]))) a = m.foldl (firstStep (holdD l)) a := by
    intro m
    induction m with
    | nil => intro a _; rfl
    | cons d m ih =>
      intro a hm
      have e1 : firstStep (holdD (l ++ [r])) a d = firstStep (holdD l) a d := by
        unfold firstStep
        by_cases hs : d.state = 3
        · rw [hold_append hl hr (hm d (by simp)) hs]
        · simp [hs]
      rw [List.foldl_cons, List.foldl_cons, e1]
      exact ih _ fun x hx => hm x (by simp [hx])
  rw [e l (true, 0) fun d hd => hd]
  show firstStep (holdD (l ++ [r])) _ r = _
  unfold firstStep
  rw [hh]
  simp
end
theorem writers_append {l : List Dl} {r : Dl} (h : keysD r = []) : writersD (l ++ [r]) = writersD l := by
  have hc : ∀ x, clash r x = false := fun x => by
    unfold clash overlapD
    rw [h]
    simp
  cases hw : writersD l with
  | true =>
    refine writers_yes fun i hi j hj => ?_
    by_cases hil : i < l.length
    · rw [getD_app_l hil, getD_app_l (by omega)]
      unfold writersD at hw
      simp only [List.all_eq_true, List.mem_range] at hw
      simpa using hw i hil j hj
    · have : i = l.length := by simp at hi; omega
      subst this
      rw [getD_app_r]
      exact hc _
  | false =>
    unfold writersD at hw
    rw [List.all_eq_false] at hw
    obtain ⟨i, hi, h1⟩ := hw
    simp only [Bool.not_eq_true, List.all_eq_false] at h1
    obtain ⟨j, hj, h2⟩ := h1
    simp only [List.mem_range] at hi hj
    refine writers_no (i := i) (j := j) (by simp; omega) hj ?_
    rw [getD_app_l hi, getD_app_l (by omega)]
    simpa using h2
end Go.Proofs.Ytpohehialkgigaa
