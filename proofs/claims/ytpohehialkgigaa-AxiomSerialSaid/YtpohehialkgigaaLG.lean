/- AxiomSerial: rows of calls as something to append; a list turned round; one more is never the same. -/
import Derived.Test.YtpohehialkgigaaLF
import Derived.Test.YtpohehialkgigaaLH
namespace Go.Proofs.Ytpohehialkgigaa
open Go.RowKit
theorem CallsAt.src {w : World} {v : Value} {l : List Cl} (h : CallsAt w v l) : ∃ cs : List (Cl × Value), cs.map (·.1) = l ∧ (∀ x ∈ cs, PairsAt w x.2 x.1.pairs) ∧ SrcAt w v l.length 9 (cs.flatMap fun c => c.1.cells c.2) := by
  rcases h with ⟨rfl, a, cap, rfl, hz⟩ | ⟨b, off, cap, rfl, hlc, hl, hc⟩
  · exact ⟨[], rfl, by simp, .inl ⟨rfl, rfl, _, _, rfl, hz⟩⟩
  · have hc2 : ∀ i, ∃ ov, i < l.length → (∀ q, q < 9 → w.cell? ⟨b, off + i * 9 + q, none⟩ = ((l.getD i cl0).cells ov)[q]?) ∧ PairsAt w ov (l.getD i cl0).pairs := fun i => by
      by_cases hi : i < l.length
      · obtain ⟨ov, h⟩ := hc i hi
        exact ⟨ov, fun _ => h⟩
      · exact ⟨undef, fun h => absurd h hi⟩
    obtain ⟨f, hf⟩ := Classical.axiomOfChoice hc2
    have hmap : ((List.range l.length).map fun i => (l.getD i cl0, f i)).map (·.1) = l := by
      apply List.ext_getElem (by simp)
      intro i h1 h2
      simp [List.getD_eq_getElem?_getD, h2]
    refine ⟨(List.range l.length).map fun i => (l.getD i cl0, f i), hmap, fun x hx => ?_, .inr ⟨b, off, cap, rfl, ?_, fun j y hj => ?_⟩⟩
    · obtain ⟨i, hi, rfl⟩ := List.mem_map.1 hx
      exact (hf i (by simpa using hi)).2
    · rw [flat_len Cl.cells_len]
      simp
    · have hjl : j < l.length * 9 := by
        have h1 := (List.getElem?_eq_some_iff.1 hj).1
        rw [flat_len Cl.cells_len] at h1
        simpa using h1
      have e : j = j / 9 * 9 + j % 9 := by omega
      rw [e, flat_get Cl.cells_len (cl0, undef) _ (j / 9) (j % 9) (by simp; omega) (by omega)] at hj
      have hi : j / 9 < l.length := by omega
      have hg : ((List.range l.length).map fun i => (l.getD i cl0, f i)).getD (j / 9) (cl0, undef) = (l.getD (j / 9) cl0, f (j / 9)) := by
        simp [List.getD_eq_getElem?_getD, hi]
      rw [hg] at hj
      have h2 := (hf (j / 9) hi).1 (j % 9) (by omega)
      rw [hj] at h2
      rw [← h2]
      congr 2
      omega
theorem calls_one {w : World} {cs : List (Cl × Value)} (h : ∀ x ∈ cs, PairsAt w x.2 x.1.pairs) : ∀ y ∈ cs.flatMap (fun c => c.1.cells c.2), y.oneCell' = true := by
  intro y hy
  obtain ⟨x, hx, hy⟩ := List.mem_flatMap.1 hy
  obtain ⟨a, cap, e, -⟩ := (h x hx).form
  rw [e] at hy
  exact call_one _ _ _ _ y hy
theorem made_calls {w : World} {g base : Nat} (h : w.heap[g]? = some (.cells #[] 35 (0, 0))) (hb : base ≤ g) : w.ownsRow base 35 9 (.slice (some ⟨g, 0, none⟩) 0 0) 0 [] :=
  ⟨by simp, .inr ⟨g, 0, #[], rfl, hb, h, Nat.le_refl _, Nat.zero_le _, by simp, by simp⟩⟩
theorem NewCalls.below {B : Nat} {W w' : World} {v v' : Value} {n m : Nat} {xs zs : List Value} {w1 : World} (h : W.ownsRow B 35 9 v n xs) (hA : Appended W w' B 35 9 v v' m zs) (hb : Below B w1 W) (hBW : B ≤ W.heap.size) : Below B w1 w' :=
  hb.trans ((hA.mod (F := fun k => B ≤ k) (fun k hk => (World.ownsRow.lt h k hk).1)).below (fun _ h => h) hBW)
theorem NewCalls.set {w : World} {B g n cap i q : Nat} {cs : List (Cl × Value)} {y : Cl × Value} {u : Value} (h : NewCalls B w (.slice (some ⟨g, 0, none⟩) n cap) cs) (hn : n = cs.length) (hi : i < cs.length) (hq : q < 9) (hy : y.1.cells y.2 = ((cs.getD i (cl0, undef)).1.cells (cs.getD i (cl0, undef)).2).set q u) :
    NewCalls B (w.setCell ⟨g, i * 9 + q, none⟩ u) (.slice (some ⟨g, 0, none⟩) n cap) (cs.set i y) := by
  subst hn
  have h1 := (own_set (u := u) h hi hq).1
  rw [flat_set Cl.cells_len (cl0, undef) y hq cs i hi hy] at h1
  unfold NewCalls
  rw [List.length_set]
  exact h1
theorem NewCalls.cell {w : World} {B g n cap i q : Nat} {cs : List (Cl × Value)} (h : NewCalls B w (.slice (some ⟨g, 0, none⟩) n cap) cs) (hn : n = cs.length) (hi : i < cs.length) (hq : q < 9) :
    w.cell? ⟨g, i * 9 + q, none⟩ = ((cs.getD i (cl0, undef)).1.cells (cs.getD i (cl0, undef)).2)[q]? ∧ w.frozen? ⟨g, i * 9 + q, none⟩ = false := by
  subst hn
  have h1 := own_set (u := undef) h hi hq
  refine ⟨?_, h1.2.1⟩
  rw [h1.2.2, flat_get Cl.cells_len (cl0, undef) cs i q hi hq]
/-- A list told from the T-th on, round. -/
def rot (l : List Dl) (T i : Nat) : List Dl := (List.range i).map fun q => l.getD ((q + T) % l.length) dl0
theorem rot_next (l : List Dl) (T i : Nat) : rot l T (i + 1) = rot l T i ++ [l.getD ((i + T) % l.length) dl0] := by
  unfold rot
  rw [List.range_succ, List.map_append]
  rfl
theorem rot_perm (l : List Dl) (T : Nat) : (rot l T l.length).Perm l := by
  by_cases h0 : l.length = 0
  · have : l = [] := List.length_eq_zero_iff.1 h0
    subst this
    exact .refl _
  have ht : T % l.length < l.length := Nat.mod_lt _ (by omega)
  have e : rot l T l.length = l.drop (T % l.length) ++ l.take (T % l.length) := by
    apply List.ext_getElem
    · simp [rot]
      omega
    · intro i h1 h2
      have hi : i < l.length := by simpa [rot] using h1
      have hm : (i + T) % l.length = (i + T % l.length) % l.length := by simp
      simp only [rot, List.getElem_map, List.getElem_range]
      rw [hm]
      generalize T % l.length = t at *
      by_cases hlt : i < l.length - t
      · rw [List.getElem_append_left (by simpa using hlt), List.getElem_drop, Nat.mod_eq_of_lt (by omega), getD_get (by omega)]
        congr 1
        omega
      · rw [List.getElem_append_right (by simp; omega), List.getElem_take, Nat.mod_eq_sub_mod (by omega), Nat.mod_eq_of_lt (by omega), getD_get (by omega)]
        congr 1
        simp
        omega
  rw [e]
  exact List.perm_append_comm.trans (.of_eq (List.take_append_drop _ _))
theorem Good.perm {l m : List Dl} (h : Good l) (hp : m.Perm l) : Good m where
  few := by rw [hp.length_eq]; exact h.few
  wf d hd := h.wf d (hp.mem_iff.1 hd)
  apart := (hp.pairwise_iff (fun h a b e => h b a e.symm)).2 h.apart
  pairs d hd := h.pairs d (hp.mem_iff.1 hd)
theorem wrap_ne (x : Int) : IntKind.i64.wrap (x + 1) ≠ x := by
  intro h
  rw [IntKind.wrap_i64] at h
  omega
end Go.Proofs.Ytpohehialkgigaa
