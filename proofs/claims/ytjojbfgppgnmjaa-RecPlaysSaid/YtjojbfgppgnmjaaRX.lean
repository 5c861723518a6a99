/- RecPlays, plain: the links that are told, their versions. -/
import Derived.Test.YtjojbfgppgnmjaaRV
namespace Go.Proofs.Ytjojbfgppgnmjaa
open Go.RowKit
section
variable {n : Nat} {k : Int} {p : PS} {s s' : RS} {live gone told : List Int} {V : Int → Ver} {vs : List Ver}
theorem slotOf_is {x : Int} {i : Nat} (h : x % 131072 = i + 1) : slotOf x = i := by unfold slotOf; omega
/-- Whatever link lives is one of those that live. -/
theorem SI.is_live (h : SI n k p live gone) {x : Int} (hx : p.live x = true) : x ∈ live := by
  obtain ⟨i, hi, hm, ht, hl⟩ := live_yes hx
  refine Classical.byContradiction fun hno => ?_
  have hT : ((List.range n).filter (fun j => (p.sl.getD j slot0).taken)).length = cnt p.sl := by
    have e : (List.range n).map (fun j => p.sl.getD j slot0) = p.sl := by
      apply List.ext_getElem?
      intro j
      by_cases hj : j < n
      · have hj2 : j < p.sl.length := by rw [h.len]; exact hj
        simp [hj, List.getD_eq_getElem?_getD, hj2]
      · have hj2 : p.sl.length ≤ j := by rw [h.len]; omega
        simp [hj, hj2]
    have : cnt p.sl = cnt ((List.range n).map (fun j => p.sl.getD j slot0)) := by rw [e]
    rw [this, cnt, List.countP_map, List.countP_eq_length_filter]
    rfl
  have hin : ∀ a ∈ live, slotOf a < n ∧ (p.sl.getD (slotOf a) slot0).taken = true ∧ p.link (slotOf a) = a := fun a ha => by
    obtain ⟨j, h1, h2, h3, h4⟩ := h.slot ha
    rw [slotOf_is h2]
    exact ⟨h1, h3, h4⟩
  have hnd : (i :: live.map slotOf).Nodup := by
    refine List.nodup_cons.2 ⟨fun hm2 => ?_, List.pairwise_map.2 (h.nd.imp_of_mem (fun {a b} ha hb hne e => hne ?_))⟩
    · obtain ⟨a, ha, e⟩ := List.mem_map.1 hm2
      have := (hin a ha).2.2
      rw [e, hl] at this
      exact hno (this ▸ ha)
    · rw [← (hin a ha).2.2, e, (hin b hb).2.2]
  have hsub : (i :: live.map slotOf) ⊆ (List.range n).filter (fun j => (p.sl.getD j slot0).taken) := fun j hj => by
    rw [List.mem_filter, List.mem_range]
    rcases List.mem_cons.1 hj with rfl | hj
    · exact ⟨by rw [← h.len]; exact hi, ht⟩
    · obtain ⟨a, ha, e⟩ := List.mem_map.1 hj
      rw [← e]
      exact ⟨(hin a ha).1, (hin a ha).2.1⟩
  have := List.Nodup.length_le_of_subset hnd hsub
  rw [hT, ← h.cl] at this
  simp at this
  omega
structure RP (n : Nat) (k : Int) (s : RS) (live gone : List Int) (V : Int → Ver) (told : List Int) (vs : List Ver) : Prop where
  ri : RI n k s live gone V
  len : vs.length = told.length
  nd : told.Nodup
  mem : ∀ a, a ∈ told ↔ a ∈ live ∨ a ∈ gone
  ver : ∀ j, j < told.length → told.getD j 0 ∈ live → vs.getD j ver0 = V (told.getD j 0)
/-- The links that are told, and their versions. -/
def Told (n : Nat) (k : Int) (s : RS) (told : List Int) (vs : List Ver) : Prop := ∃ live gone V, RP n k s live gone V told vs
theorem Told.new (h0 : 1 ≤ n) (h1 : n ≤ 4096) : Told n 0 (RS.new n) [] [] := ⟨[], [], fun _ => ver0, RI.new h0 h1 _, rfl, List.nodup_nil, by simp, fun j hj => by simp at hj⟩
theorem Told.mono (h : Told n k s told vs) {k' : Int} (hk : k ≤ k') : Told n k' s told vs := by
  obtain ⟨live, gone, V, h⟩ := h
  exact ⟨live, gone, V, h.ri.mono hk, h.len, h.nd, h.mem, h.ver⟩
theorem Told.lens (h : Told n k s told vs) : vs.length = told.length := by
  obtain ⟨live, gone, V, h⟩ := h
  exact h.len
theorem RP.lv (h : RP n k s live gone V told vs) {x : Int} (hx : s.p.live x = true) : x ∈ live := h.ri.si.is_live (by rw [listed_live]; exact hx)
theorem Told.stale (h : Told n k s told vs) {x : Int} (hx : x ∉ told) : s.p.live x = false := by
  obtain ⟨live, gone, V, h⟩ := h
  cases hl : s.p.live x with
  | false => rfl
  | true => exact absurd ((h.mem x).2 (.inl (h.lv hl))) hx
theorem Told.ver (h : Told n k s told vs) {j : Nat} (hj : j < told.length) (hl : s.p.live (told.getD j 0) = true) : vs.getD j ver0 = s.ver (slotOf (told.getD j 0)) := by
  obtain ⟨live, gone, V, h⟩ := h
  have hm := h.lv hl
  rw [h.ver j hj hm, h.ri.ver _ hm]
theorem Told.range (h : Told n k s told vs) (hk : k ≤ 100) (hn : n ≤ 4096) : ∀ a ∈ told, 0 ≤ a ∧ a ≤ 18446744073709551615 := by
  obtain ⟨live, gone, V, h⟩ := h
  intro a ha
  rcases (h.mem a).1 ha with h1 | h1
  · have := h.ri.range h1; omega
  · have := h.ri.si.gone_range hk hn h1; omega
theorem Told.listed (h : Told n k s told vs) : Told n k s.listed told vs := by
  obtain ⟨live, gone, V, h⟩ := h
  exact ⟨live, gone, V, h.ri.listed, h.len, h.nd, h.mem, h.ver⟩
theorem Told.room (h : Told n k s told vs) : s.p.listed.free = [] ∨ ∃ l i, s.p.listed.free = l ++ [((i : Nat) : Int)] := by
  obtain ⟨live, gone, V, h⟩ := h
  rcases h.ri.room with h1 | h1
  · exact .inl h1.2
  · exact .inr h1.2
theorem Told.make (h : Told n k s told vs) {l : List Int} {i : Nat} (hl : s.p.listed.free = l ++ [(i : Int)]) (key v x y : Int) : Told n k (s.make l i key v x y) (told ++ [s.p.listed.link i]) (vs ++ [⟨key, v, x, y, 0⟩]) := by
  obtain ⟨live, gone, V, h⟩ := h
  obtain ⟨h1, h2, h3⟩ := h.ri.make hl key v x y
  have hnt : s.p.listed.link i ∉ told := fun hm => ((h.mem _).1 hm).elim h1 h2
  refine ⟨_, _, _, h3, by simp [h.len], List.nodup_append.2 ⟨h.nd, by simp, fun a ha b hb => by simp only [List.mem_singleton] at hb; subst hb; exact fun e => hnt (e ▸ ha)⟩, fun a => ?_, fun j hj hm => ?_⟩
  · simp only [List.mem_append, List.mem_singleton, h.mem a]
    constructor
    · rintro ((h | h) | h)
      · exact .inl (.inl h)
      · exact .inr h
      · exact .inl (.inr h)
    · rintro ((h | h) | h)
      · exact .inl (.inl h)
      · exact .inr h
      · exact .inl (.inr h)
  · by_cases e : j < told.length
    · have e1 : (told ++ [s.p.listed.link i]).getD j 0 = told.getD j 0 := by rw [List.getD_eq_getElem?_getD, List.getElem?_append_left e, ← List.getD_eq_getElem?_getD]
      have e2 : (vs ++ [(⟨key, v, x, y, 0⟩ : Ver)]).getD j ver0 = vs.getD j ver0 := by rw [List.getD_eq_getElem?_getD, List.getElem?_append_left (by rw [h.len]; exact e), ← List.getD_eq_getElem?_getD]
      rw [e1] at hm ⊢
      rw [e2]
      have hne : told.getD j 0 ≠ s.p.listed.link i := fun e3 => hnt (by rw [← e3, List.getD_eq_getElem?_getD, List.getElem?_eq_getElem e]; simp)
      rw [if_neg hne]
      exact h.ver j e ((List.mem_append.1 hm).resolve_right (fun h4 => hne (by simpa using h4)))
    · have ej : j = told.length := by simp at hj; omega
      subst ej
      have e1 : (told ++ [s.p.listed.link i]).getD told.length 0 = s.p.listed.link i := by simp
      have e2 : (vs ++ [(⟨key, v, x, y, 0⟩ : Ver)]).getD told.length ver0 = ⟨key, v, x, y, 0⟩ := by rw [← h.len]; simp
      rw [e1, e2, if_pos rfl]
theorem Told.free (h : Told n k s told vs) (hk : k ≤ 100) {x : Int} (hx : s.p.live x = true) : Told n (k + 1) (s.free x) told vs := by
  obtain ⟨live, gone, V, h⟩ := h
  have hm := h.lv hx
  obtain ⟨q, hq, e⟩ := List.getElem_of_mem hm
  have eq2 : live.getD q 0 = x := by rw [List.getD_eq_getElem?_getD, List.getElem?_eq_getElem hq]; simpa using e
  have h2 := h.ri.free hk hq
  rw [eq2] at h2
  have hsplit : live = live.take q ++ x :: live.drop (q + 1) := by
    rw [← e, ← List.drop_eq_getElem_cons hq, List.take_append_drop]
  refine ⟨_, _, V, h2, h.len, h.nd, fun a => ?_, fun j hj hm2 => h.ver j hj ?_⟩
  · rw [h.mem a]
    have : a ∈ live ↔ a ∈ live.take q ∨ a = x ∨ a ∈ live.drop (q + 1) := by
      rw [← List.mem_cons, ← List.mem_append, ← hsplit]
    rw [this, List.mem_append, List.mem_append, List.mem_singleton]
    constructor
    · rintro ((h | h | h) | h)
      · exact .inl (.inl h)
      · exact .inr (.inr h)
      · exact .inl (.inr h)
      · exact .inr (.inl h)
    · rintro ((h | h) | (h | h))
      · exact .inl (.inl h)
      · exact .inl (.inr (.inr h))
      · exact .inr h
      · exact .inl (.inr (.inl h))
  · rcases List.mem_append.1 hm2 with h5 | h5
    · exact List.mem_of_mem_take h5
    · exact List.mem_of_mem_drop h5
/-- One version is turned. -/
theorem Told.put (h : Told n k s told vs) {j q : Nat} {x : Int} (hj : j < told.length) (hl : s.p.live (told.getD j 0) = true) (hp : s'.p = s.p) (hok : s'.ok) (hne : ∀ i, i ≠ slotOf (told.getD j 0) → s'.ver i = s.ver i) (hsame : s'.ver (slotOf (told.getD j 0)) = (s.ver (slotOf (told.getD j 0))).put q x) : Told n k s' told (vs.set j ((vs.getD j ver0).put q x)) := by
  have hv := Told.ver h hj hl
  obtain ⟨live, gone, V, h⟩ := h
  have hm := h.lv hl
  refine ⟨live, gone, fun b => if b = told.getD j 0 then (s.ver (slotOf (told.getD j 0))).put q x else V b, ⟨by rw [hp]; exact h.ri.si, hok, fun a ha => ?_⟩, by simp [h.len], h.nd, h.mem, fun i hi hm2 => ?_⟩
  · by_cases e : a = told.getD j 0
    · rw [if_pos e, e, hsame]
    · rw [if_neg e, hne _ (h.ri.slot_ne ha hm e), h.ri.ver a ha]
  · by_cases e : i = j
    · subst e
      rw [if_pos rfl, getD_set_same (by rw [h.len]; exact hi), hv]
    · have e2 : told.getD i 0 ≠ told.getD j 0 := fun e3 => by
        simp only [List.getD_eq_getElem?_getD, List.getElem?_eq_getElem hi, List.getElem?_eq_getElem hj, Option.getD_some] at e3
        exact e ((List.getElem?_inj hi h.nd).1 (by rw [List.getElem?_eq_getElem hi, List.getElem?_eq_getElem hj, e3]))
      rw [if_neg e2, getD_set_ne (fun e3 => e e3.symm)]
      exact h.ver i hi hm2
theorem Told.ok (h : Told n k s told vs) : s.ok ∧ s.p.sl.length = n := by
  obtain ⟨live, gone, V, h⟩ := h
  exact ⟨h.ri.ok, h.ri.len⟩
theorem Told.setv (h : Told n k s told vs) {j : Nat} (hj : j < told.length) (hl : s.p.live (told.getD j 0) = true) (v : Int) : Told n k (s.setv (slotOf (told.getD j 0)) v) told (vs.set j ((vs.getD j ver0).put 1 v)) := by
  have hok := h.ok.1
  have hsl := (slot_live hl).1
  refine h.put hj hl rfl ⟨hok.ws, by simp [RS.setv, hok.d]⟩ (fun i hi => ?_) ?_
  · unfold RS.ver RS.setv
    simp only
    rw [getD_set_ne (fun e => hi e.symm)]
  · unfold RS.ver RS.setv
    simp only
    rw [getD_set_same (by rw [hok.d]; exact hsl)]
    rfl
theorem Told.setw (h : Told n k s told vs) {j q : Nat} (hq : q ≤ 2) (hj : j < told.length) (hl : s.p.live (told.getD j 0) = true) (y : Int) : Told n k (s.setw (slotOf (told.getD j 0) * 3 + q) y) told (vs.set j ((vs.getD j ver0).put (q + 2) y)) := by
  have hok := h.ok.1
  have hsl := (slot_live hl).1
  have hws := hok.ws
  refine h.put hj hl rfl ⟨by simp [RS.setw, hok.ws], hok.d⟩ (fun i hi => setw_ver_ne hq (fun e => hi e.symm)) ?_
  unfold RS.ver RS.setw
  simp only
  match q, hq with
  | 0, _ => rw [Nat.add_zero, getD_set_same (by omega), getD_set_ne (by omega), getD_set_ne (by omega)]; rfl
  | 1, _ => rw [getD_set_ne (by omega), getD_set_same (by omega), getD_set_ne (by omega)]; rfl
  | 2, _ => rw [getD_set_ne (by omega), getD_set_ne (by omega), getD_set_same (by omega)]; rfl
end
end Go.Proofs.Ytjojbfgppgnmjaa
