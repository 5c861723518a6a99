/- What Serially has told, for the laws: few and apart; what is there in the end; a row of Deals as something to append. -/
import Derived.Test.YtpohehialkgigaaLB
import Derived.Test.YtpohehialkgigaaAZ
namespace Go.Proofs.Ytpohehialkgigaa
open Go.RowKit
theorem SerK.good {k c : Nat} {l : List Dl} {s : St} (h : SerK k c l s) (hk : k ≤ 10) : Good l where
  few := by rw [h.len]; omega
  wf := h.wf
  apart := (Ser.rising h.ser).imp fun hlt _ _ => by omega
  pairs d hd cc hcc := by have := ((h.few d hd).2 cc hcc).2.2; omega
theorem SerK.sorted {k c : Nat} {l : List Dl} {s : St} (h : SerK k c l s) : srt l = l :=
  (srt_only (.refl _) ((Ser.rising h.ser).imp fun h => by omega) ((Ser.rising h.ser).imp fun h => by omega)).symm
theorem SerK.state {k c : Nat} {l : List Dl} {s : St} (h : SerK k c l s) {when : Int} (hw : ∀ d ∈ l, d.en ≤ when) : atD l when (-1) = s := by
  unfold atD
  rw [sel_all (fun d hd => ⟨(Ser.above h.ser d hd).2.2, hw d hd⟩) (.inl (by decide)), h.sorted, h.st]
theorem last_le {l : List Dl} (h : l.Pairwise fun a b => a.en < b.en) : ∀ d ∈ l, d.en ≤ (l.getD (l.length - 1) dl0).en := by
  intro d hd
  obtain ⟨i, hi, rfl⟩ := List.getElem_of_mem hd
  have e : l.getD (l.length - 1) dl0 = l[l.length - 1] := by
    rw [List.getD_eq_getElem?_getD, List.getElem?_eq_getElem (by omega)]
    rfl
  rw [e]
  by_cases hl : i = l.length - 1
  · subst hl
    exact Int.le_refl _
  · have := List.pairwise_iff_getElem.1 h i (l.length - 1) hi (by omega) (by omega)
    omega
theorem SerK.few_state {k c : Nat} {l : List Dl} {s : St} (h : SerK k c l s) (hk : k ≤ 10) : s.length ≤ 19000 := by
  have := (h.good hk).atLen c (-1)
  rw [h.state h.en] at this
  exact this
theorem SerK.id {k c : Nat} {l : List Dl} {s : St} (h : SerK k c l s) (hk : k ≤ 10) : ∀ d ∈ l, d.id ≠ 50 := by
  intro d hd
  obtain ⟨i, hi, rfl⟩ := List.getElem_of_mem hd
  have := h.ids i (by rw [← h.len]; exact hi)
  have e : l.getD i dl0 = l[i] := by simp [List.getD_eq_getElem?_getD, hi]
  rw [e] at this
  have := h.len
  omega
theorem reader_good {k c : Nat} {l : List Dl} {s : St} (h : SerK k c l s) (hk : k ≤ 10) {e lv : Int} (h0 : 0 ≤ e) (h1 : e ≤ 1000) (hs : ∀ d ∈ l, d.en ≤ e) : Good (l ++ [readerD lv e s]) where
  few := by have := h.len; simp; omega
  wf d hd := by
    rcases List.mem_append.1 hd with hd | hd
    · exact h.wf d hd
    · simp only [List.mem_singleton] at hd
      subst hd
      exact ⟨WalkArith.wf_u64 (by show 0 ≤ e + 1 ∧ e + 1 ≤ _; omega), WalkArith.wf_u64 (by show 0 ≤ e + 2 ∧ e + 2 ≤ _; omega), fun cc hcc => by
        simp only [readerD, List.mem_singleton] at hcc
        subst hcc
        exact ⟨rfl, rfl, rfl⟩, by show [scanR s].length ≤ 1000; simp⟩
  apart := by
    rw [List.pairwise_append]
    refine ⟨(h.good hk).apart, by simp, fun a ha b hb _ _ => ?_⟩
    simp only [List.mem_singleton] at hb
    subst hb
    have := hs a ha
    show a.en ≠ e + 2
    omega
  pairs d hd cc hcc := by
    rcases List.mem_append.1 hd with hd | hd
    · exact (h.good hk).pairs d hd cc hcc
    · simp only [List.mem_singleton] at hd
      subst hd
      simp only [readerD, List.mem_singleton] at hcc
      subst hcc
      have := h.few_state hk
      show s.length ≤ 1000000
      omega
theorem reader_facts {k c : Nat} {l : List Dl} {s : St} (h : SerK k c l s) (hk : k ≤ 10) {e lv : Int} (h0 : 0 ≤ e) (h1 : e ≤ 1000) (hs : ∀ d ∈ l, d.en ≤ e) (hl : lv = 1 ∨ lv = 2 ∨ lv = 3) :
    holdsD (l ++ [readerD lv e s]) = holdsD l ∧ atD (l ++ [readerD lv e s]) 1073741824 (-1) = s ∧ writersD (l ++ [readerD lv e s]) = writersD l ∧ snapshotD (l ++ [readerD lv e s]) 50 = true ∧ serialD (l ++ [readerD lv e s]) 50 = true ∧ repeatableD (l ++ [readerD lv e s]) 50 = true := by
  have e1 := h.state hs
  have e2 := h.state (when := 1073741824) (fun d hd => by have := hs d hd; omega)
  have hs2 : ∀ d ∈ l, d.state = 3 ∧ d.en ≤ e := fun d hd => ⟨(Ser.above h.ser d hd).2.2, hs d hd⟩
  have hid := h.id hk
  have hp : (atD l e (-1)).low := by rw [e1]; exact h.low
  have a1 := reader_holds (lv := lv) hs2 hid hp h0 hl
  have a2 := reader_at (lv := lv) hs2 1073741824 (-1)
  have a4 := reader_snap (lv := lv) hs2 hid hp
  have a5 := reader_serial (lv := lv) hs2 hid hp h0
  have a6 := reader_rep (lv := lv) hs2 hid hp
  rw [e1] at a1 a2 a4 a5 a6
  exact ⟨a1, a2.trans e2, reader_writers, a4, a5, a6⟩

/-! ### A row of Deals as something to append -/
theorem DealsAt.src {w : World} {v : Value} {l : List Dl} (h : DealsAt w v l) : ∃ ds : List (Dl × Value), ds.map (·.1) = l ∧ (∀ x ∈ ds, CallsAt w x.2 x.1.ops) ∧ SrcAt w v l.length 6 (ds.flatMap fun c => c.1.cells c.2) := by
  rcases h with ⟨rfl, a, cap, rfl, hz⟩ | ⟨b, off, cap, rfl, hlc, hl, hc⟩
  · exact ⟨[], rfl, by simp, .inl ⟨rfl, rfl, _, _, rfl, hz⟩⟩
  · have hc2 : ∀ i, ∃ ov, i < l.length → (∀ q, q < 6 → w.cell? ⟨b, off + i * 6 + q, none⟩ = ((l.getD i dl0).cells ov)[q]?) ∧ CallsAt w ov (l.getD i dl0).ops := fun i => by
      by_cases hi : i < l.length
      · obtain ⟨ov, h⟩ := hc i hi
        exact ⟨ov, fun _ => h⟩
      · exact ⟨undef, fun h => absurd h hi⟩
    obtain ⟨f, hf⟩ := Classical.axiomOfChoice hc2
    have hmap : ((List.range l.length).map fun i => (l.getD i dl0, f i)).map (·.1) = l := by
      apply List.ext_getElem (by simp)
      intro i h1 h2
      simp [List.getD_eq_getElem?_getD, h2]
    refine ⟨(List.range l.length).map fun i => (l.getD i dl0, f i), hmap, fun x hx => ?_, .inr ⟨b, off, cap, rfl, ?_, fun j y hj => ?_⟩⟩
    · obtain ⟨i, hi, rfl⟩ := List.mem_map.1 hx
      exact (hf i (by simpa using hi)).2
    · have : ∀ m : List (Dl × Value), (m.flatMap fun c => c.1.cells c.2).length = m.length * 6 := fun m => by
        induction m with
        | nil => rfl
        | cons x m ih =>
          rw [List.flatMap_cons, List.length_append, ih, Dl.cells_len, List.length_cons]
          omega
      rw [this]
      simp
    · have hjl : j < l.length * 6 := by
        have h1 := (List.getElem?_eq_some_iff.1 hj).1
        have : ∀ m : List (Dl × Value), (m.flatMap fun c => c.1.cells c.2).length = m.length * 6 := fun m => by
          induction m with
          | nil => rfl
          | cons x m ih =>
            rw [List.flatMap_cons, List.length_append, ih, Dl.cells_len, List.length_cons]
            omega
        rw [this] at h1
        simpa using h1
      have e : j = j / 6 * 6 + j % 6 := by omega
      rw [e, flat_get Dl.cells_len (dl0, undef) _ (j / 6) (j % 6) (by simp; omega) (by omega)] at hj
      have hi : j / 6 < l.length := by omega
      have hg : ((List.range l.length).map fun i => (l.getD i dl0, f i)).getD (j / 6) (dl0, undef) = (l.getD (j / 6) dl0, f (j / 6)) := by
        simp [List.getD_eq_getElem?_getD, hi]
      rw [hg] at hj
      have h2 := (hf (j / 6) hi).1 (j % 6) (by omega)
      rw [hj] at h2
      rw [← h2]
      congr 2
      omega
theorem SrcAt.later {w w1 : World} {u : Value} {m size : Nat} {ys : List Value} (h : SrcAt w u m size ys) (hb : Below w.heap.size w w1) : SrcAt w1 u m size ys := by
  rcases h with h | ⟨b, off, cap, hu, hl, hc⟩
  · exact .inl h
  · refine .inr ⟨b, off, cap, hu, hl, fun j y hj => ?_⟩
    have h1 := hc j y hj
    exact (hb.cell (p := ⟨b, off + j, none⟩) (cell_lt h1)).trans h1
theorem deals_one {w : World} {ds : List (Dl × Value)} (h : ∀ x ∈ ds, CallsAt w x.2 x.1.ops) : ∀ y ∈ ds.flatMap (fun c => c.1.cells c.2), y.oneCell' = true := by
  intro y hy
  obtain ⟨x, hx, hy⟩ := List.mem_flatMap.1 hy
  obtain ⟨a, cap, e, -⟩ := (h x hx).form
  rw [e] at hy
  exact deal_one _ _ _ _ y hy
theorem made_deals {w : World} {g base : Nat} (h : w.heap[g]? = some (.cells #[] 25 (0, 0))) (hb : base ≤ g) : w.ownsRow base 25 6 (.slice (some ⟨g, 0, none⟩) 0 0) 0 [] :=
  ⟨by simp, .inr ⟨g, 0, #[], rfl, hb, h, Nat.le_refl _, Nat.zero_le _, by simp, by simp⟩⟩
theorem NewDeals.below {B : Nat} {W w' : World} {v v' : Value} {n m : Nat} {xs zs : List Value} {w1 : World} (h : W.ownsRow B 25 6 v n xs) (hA : Appended W w' B 25 6 v v' m zs) (hb : Below B w1 W) (hBW : B ≤ W.heap.size) : Below B w1 w' :=
  hb.trans ((hA.mod (F := fun k => B ≤ k) (fun k hk => (World.ownsRow.lt h k hk).1)).below (fun _ h => h) hBW)
end Go.Proofs.Ytpohehialkgigaa
