/- Links of a pool over time: those that live, those that were given back. Rows cut and joined. -/
import Derived.Test.YtoidmakaijkglaaGreatQ0
namespace Go.Proofs.YtoidmakaijkglaaGreat
open Go.RowKit
theorem cut_front {k : IntKind} {E : TypeId} {w : World} {a : Option Addr} {n cap : Nat} {l : List Int} (h : Owned k E w (.slice a n cap) l) {q : Nat} (hq : q ≤ l.length) : SrcAt w (.slice a q cap) q 1 ((l.take q).map (Value.int k)) := by
  rcases h.2 with ⟨hv, hn⟩ | ⟨g, cap', cur, hv, hg, hh, hnc, hcm, hcs, htk⟩
  · simp only [Value.slice.injEq] at hv
    obtain ⟨rfl, _, rfl⟩ := hv
    obtain rfl : q = 0 := by omega
    exact .inl ⟨rfl, by simp, none, 0, rfl, fun _ => rfl⟩
  · simp only [Value.slice.injEq] at hv
    obtain ⟨rfl, rfl, rfl⟩ := hv
    refine .inr ⟨g, 0, cap, rfl, by simp; omega, fun j y hj => ?_⟩
    have hjq : j < q ∧ j < l.length := by
      have := (List.getElem?_eq_some_iff.1 hj).1
      simp at this
      omega
    have := Owned.at_ h (i := j) hjq.2
    rw [Nat.zero_add, this, ← hj]
    simp [List.getElem?_take_of_lt hjq.1, List.getD_eq_getElem?_getD, hjq.2]
theorem cut_back {k : IntKind} {E : TypeId} {w : World} {g n cap : Nat} {l : List Int} (h : Owned k E w (.slice (some ⟨g, 0, none⟩) n cap) l) {q : Nat} (hq : q ≤ l.length) (hn : n = l.length) :
    SrcAt w (.slice (if cap = q then some ⟨g, 0, none⟩ else some ⟨g, q, none⟩) (n - q) (cap - q)) (n - q) 1 ((l.drop q).map (Value.int k)) := by
  subst hn
  by_cases hc : cap = q
  · rw [if_pos hc]
    obtain ⟨a', cap', h1, h2, _⟩ := h.form
    simp only [Value.slice.injEq] at h1
    obtain ⟨_, _, rfl⟩ := h1
    have : l.length - q = 0 := by omega
    rw [this]
    refine .inl ⟨rfl, ?_, _, _, rfl, fun h => by cases h⟩
    rw [List.drop_eq_nil_of_le (by omega)]
    rfl
  · rw [if_neg hc]
    refine .inr ⟨g, q, cap - q, rfl, by simp, fun j y hj => ?_⟩
    have hjq : q + j < l.length := by
      have := (List.getElem?_eq_some_iff.1 hj).1
      simp at this
      omega
    rw [Owned.at_ h hjq, ← hj]
    simp [List.getD_eq_getElem?_getD, hjq]

theorem some_of {k : IntKind} {E : TypeId} {w : World} {a : Option Addr} {n cap : Nat} {l : List Int} (h : Owned k E w (.slice a n cap) l) (hl : 0 < l.length) : ∃ g, a = some ⟨g, 0, none⟩ := by
  obtain ⟨a', cap', h1, _, h2, h3⟩ := h.form
  simp only [Value.slice.injEq] at h1
  obtain ⟨rfl, _, rfl⟩ := h1
  cases a with
  | none => have := (h2 rfl).1; omega
  | some g => exact ⟨g.block, by rw [← (h3 g rfl).1]⟩
theorem owns_made {w : World} {g : Nat} {E : TypeId} {size : Nat} (h : w.heap[g]? = some (.cells #[] E (0, 0))) : w.ownsRow 0 E size (.slice (some ⟨g, 0, none⟩) 0 0) 0 [] :=
  ⟨by simp, .inr ⟨g, 0, #[], rfl, Nat.zero_le _, h, Nat.le_refl _, Nat.zero_le _, by simp, by simp⟩⟩
theorem two_appends {w X w5 w6 : World} {E : TypeId} {g0 n5 n6 : Nat} {v5 v6 : Value} {xs5 xs6 : List Value} (hX : Below w.heap.size w X) (hg0 : w.heap.size ≤ g0) (h1 : Appended X w5 0 E 1 (.slice (some ⟨g0, 0, none⟩) 0 0) v5 n5 xs5) (h2 : Appended w5 w6 0 E 1 v5 v6 n6 xs6) :
    Below w.heap.size w w6 ∧ ∀ k, v6.ownBlock = some k → w.heap.size ≤ k := by
  have hXs := hX.size
  have hws := h1.grown.size
  have f5 : ∀ k, v5.ownBlock = some k → w.heap.size ≤ k := by
    intro k hk
    rcases h1.lies with e | e
    · rw [e] at hk
      have : g0 = k := Option.some.inj hk
      omega
    · rw [e] at hk
      have : X.heap.size = k := Option.some.inj hk
      omega
  have f6 : ∀ k, v6.ownBlock = some k → w.heap.size ≤ k := by
    intro k hk
    rcases h2.lies with e | e
    · exact f5 k (e ▸ hk)
    · rw [e] at hk
      have : w5.heap.size = k := Option.some.inj hk
      omega
  refine ⟨?_, f6⟩
  have m1 : Mod (fun k => w.heap.size ≤ k) X w5 := h1.mod (fun k hk => by have : g0 = k := Option.some.inj hk; omega)
  have m2 : Mod (fun k => w.heap.size ≤ k) w5 w6 := h2.mod (fun k hk => f5 k hk)
  exact hX.trans ((m1.trans m2).below (fun k hk => hk) hXs)
structure SI (n : Nat) (k : Int) (p : PS) (live gone : List Int) : Prop where
  ok : p.ok
  ini : p.init = true
  len : p.sl.length = n
  most : p.most = 65535
  worn : p.worn = 0
  tags : ∀ x ∈ p.sl, x.tag ≤ k
  cl : live.length = cnt p.sl
  lv : ∀ a ∈ live, p.live a = true
  nd : live.Nodup
  gn : ∀ g ∈ gone, ∃ (i : Nat) (t : Int), i < n ∧ 0 ≤ t ∧ g = t * 131072 + i + 1 ∧ t < (p.sl.getD i slot0).tag
section
variable {n : Nat} {k : Int} {p : PS} {live gone : List Int}
theorem SI.new (h0 : 1 ≤ n) (h1 : n ≤ 4096) : SI n 0 (PS.new n 65535).listed [] [] where
  ok := listed_ok (new_ok h0 h1 (by decide) (by decide))
  ini := listed_init _
  len := by simp [PS.listed, PS.new]
  most := by simp [PS.listed, PS.new]
  worn := by simp [PS.listed, PS.new]
  tags := by
    intro x hx
    have := List.eq_of_mem_replicate (show x ∈ List.replicate n slot0 from hx)
    subst this
    exact Int.le_refl _
  cl := by
    have : cnt (List.replicate n slot0) = 0 := by simp [cnt, slot0, List.countP_replicate]
    exact this.symm
  lv := fun a h => by simp at h
  nd := List.nodup_nil
  gn := fun a h => by simp at h
theorem SI.free (h : SI n k p live gone) : p.free.length + live.length = n := by
  have := h.ok.all h.ini
  rw [h.worn, h.len, ← h.cl] at this
  omega
theorem SI.mono (h : SI n k p live gone) {k' : Int} (hk : k ≤ k') : SI n k' p live gone := ⟨h.ok, h.ini, h.len, h.most, h.worn, fun x hx => by have := h.tags x hx; omega, h.cl, h.lv, h.nd, h.gn⟩
theorem SI.slot (h : SI n k p live gone) {a : Int} (ha : a ∈ live) : ∃ i : Nat, i < n ∧ a % 131072 = i + 1 ∧ (p.sl.getD i slot0).taken = true ∧ p.link i = a := by
  obtain ⟨i, h1, h2, h3, h4⟩ := live_yes (h.lv a ha)
  exact ⟨i, h.len ▸ h1, h2, h3, h4⟩
theorem SI.range (h : SI n k p live gone) {a : Int} (ha : a ∈ live) : 1 ≤ a ∧ a ≤ 8589934591 := by
  obtain ⟨i, h1, _, _, rfl⟩ := h.slot ha
  have := link_range h.ok (i := i) (by rw [h.len]; exact h1)
  omega
theorem SI.gone_range (h : SI n k p live gone) (hk : k ≤ 100) (hn : n ≤ 4096) {a : Int} (ha : a ∈ gone) : 1 ≤ a ∧ a ≤ 8589934591 := by
  obtain ⟨i, t, h1, h2, rfl, h3⟩ := h.gn a ha
  have h4 : (p.sl.getD i slot0).tag ≤ k := h.tags _ (by simp [List.getD_eq_getElem?_getD, h.len, h1])
  omega
theorem SI.gone_stale (h : SI n k p live gone) (hn : n ≤ 4096) {a : Int} (ha : a ∈ gone) : p.live a = false := by
  obtain ⟨i, t, h1, h2, rfl, h3⟩ := h.gn a ha
  have h5 : (p.sl.getD i slot0).tag ≤ p.most := (h.ok.tag (by rw [h.len]; exact h1)).2
  rw [live_in (i := i) (by omega) (by rw [h.len]; exact h1)]
  have : ¬ p.link i = t * 131072 + i + 1 := by
    unfold PS.link
    omega
  simp [this]
theorem SI.take (h : SI n k p live gone) {l : List Int} {i : Nat} (hl : p.free = l ++ [(i : Int)]) :
    (∀ x ∈ live, ¬ x = p.link i) ∧ (∀ x ∈ gone, ¬ x = p.link i) ∧ SI n k (p.take l i) (live ++ [p.link i]) gone := by
  have hf := h.ok.free i (by rw [hl]; simp)
  have hi : i < p.sl.length := by have := hf.2.1; omega
  have ht : (p.sl.getD i slot0).taken = false := by simpa using hf.2.2
  have hlk : ∀ j, (p.take l i).link j = p.link j := fun j => link_take hi
  have h1 : ∀ x ∈ live, ¬ x = p.link i := by
    intro x hx e
    obtain ⟨j, hj, h2, h3, _⟩ := h.slot hx
    have := (link_range h.ok hi).2.2.1
    have : j = i := by rw [e, this] at h2; omega
    subst this
    rw [ht] at h3
    cases h3
  have h2 : ∀ x ∈ gone, ¬ x = p.link i := by
    intro x hx e
    obtain ⟨j, t, hj, ht0, rfl, ht1⟩ := h.gn x hx
    have h3 := link_range h.ok hi
    have h4 := h.ok.n2
    rw [h.len] at h4
    have h5 : j = i := by rw [← e] at h3; omega
    subst h5
    unfold PS.link at e
    omega
  refine ⟨h1, h2, ⟨take_ok h.ok h.ini hl, h.ini, by simpa [PS.take] using h.len, h.most, h.worn, ?_, ?_, ?_, ?_, ?_⟩⟩
  · intro x hx
    rcases List.mem_or_eq_of_mem_set (show x ∈ p.sl.set i _ from hx) with hx | rfl
    · exact h.tags x hx
    · exact h.tags (p.sl.getD i slot0) (by simp [List.getD_eq_getElem?_getD, hi])
  · have := (take_ok h.ok h.ini hl).all h.ini
    have h3 := h.ok.all h.ini
    have h4 := h.cl
    rw [hl] at h3
    simp [PS.take] at this h3 ⊢
    omega
  · intro a ha
    rcases List.mem_append.1 ha with ha | ha
    · obtain ⟨j, hj, h3, h4, h5⟩ := h.slot ha
      have hne : ¬ i = j := by
        intro e
        subst e
        rw [ht] at h4
        cases h4
      rw [live_in (i := j) h3 (by simp [PS.take]; rw [h.len]; exact hj), hlk, h5]
      simp only [PS.take, List.getD_eq_getElem?_getD, List.getElem?_set_ne hne]
      simp only [List.getD_eq_getElem?_getD] at h4
      simp [h4]
    · simp at ha
      subst ha
      have h3 := (link_range h.ok hi).2.2.1
      rw [live_in (i := i) h3 (by simpa [PS.take] using hi), hlk]
      simp [PS.take, List.getD_eq_getElem?_getD, hi]
  · rw [List.nodup_append]
    refine ⟨h.nd, by simp, ?_⟩
    intro a ha b hb e
    simp at hb
    exact h1 a ha (by rw [e, hb])
  · intro g hg
    obtain ⟨j, t, hj, ht0, hge, ht1⟩ := h.gn g hg
    refine ⟨j, t, hj, ht0, hge, ?_⟩
    by_cases e : i = j
    · subst e
      simp only [PS.take, List.getD_eq_getElem?_getD] at ht1 ⊢
      simpa [hi] using ht1
    · simpa [PS.take, List.getD_eq_getElem?_getD, List.getElem?_set_ne e] using ht1
theorem SI.give (h : SI n k p live gone) (hk : k ≤ 100) {q : Nat} (hq : q < live.length) {i : Nat} (hi : i < n) (ht : (p.sl.getD i slot0).taken = true) (hlk : p.link i = live.getD q 0) :
    SI n (k + 1) (p.give i) (live.take q ++ live.drop (q + 1)) (gone ++ [live.getD q 0]) := by
  have hil : i < p.sl.length := by rw [h.len]; exact hi
  have hmem : live.getD q 0 ∈ live := by simp [List.getD_eq_getElem?_getD, hq]
  have htag : (p.sl.getD i slot0).tag ≤ k := h.tags _ (by simp [List.getD_eq_getElem?_getD, hil])
  have htag0 := (h.ok.tag hil).1
  have hg : p.give i = { p with sl := p.sl.set i ⟨(p.sl.getD i slot0).tag + 1, false⟩, free := p.free ++ [(i : Int)] } := by
    unfold PS.give
    rw [if_neg (by rw [h.most]; omega)]
  have hok := give_ok h.ok hil ht
  have hmem2 : ∀ a ∈ live.take q ++ live.drop (q + 1), a ∈ live ∧ ¬ a = live.getD q 0 := by
    intro a ha
    have hsub : a ∈ live := by
      rcases List.mem_append.1 ha with h1 | h1
      · exact List.mem_of_mem_take h1
      · exact List.mem_of_mem_drop h1
    refine ⟨hsub, fun e => ?_⟩
    have hnd := h.nd
    have hsp : live = live.take q ++ live.getD q 0 :: live.drop (q + 1) := by
      have : live.drop q = live.getD q 0 :: live.drop (q + 1) := by
        rw [List.drop_eq_getElem_cons hq]
        simp [List.getD_eq_getElem?_getD, hq]
      rw [← this, List.take_append_drop]
    rw [hsp] at hnd
    rw [List.nodup_append] at hnd
    obtain ⟨n1, n2, n3⟩ := hnd
    rw [List.nodup_cons] at n2
    rcases List.mem_append.1 ha with h1 | h1
    · exact n3 a h1 _ (by simp) e
    · rw [e] at h1
      exact n2.1 h1
  refine ⟨hok, ?_, ?_, ?_, ?_, ?_, ?_, ?_, ?_, ?_⟩
  · rw [hg]; exact h.ini
  · rw [hg]; simpa using h.len
  · rw [hg]; exact h.most
  · rw [hg]; exact h.worn
  · rw [hg]
    intro x hx
    rcases List.mem_or_eq_of_mem_set (show x ∈ p.sl.set i _ from hx) with hx | rfl
    · have := h.tags x hx
      omega
    · show (p.sl.getD i slot0).tag + 1 ≤ k + 1
      omega
  · have h1 := h.ok.all h.ini
    have h2 := hok.all (by rw [hg]; exact h.ini)
    have h3 := h.cl
    rw [hg] at h2
    rw [hg]
    simp at h1 h2 ⊢
    omega
  · intro a ha
    obtain ⟨h1, h2⟩ := hmem2 a ha
    obtain ⟨j, hj, h3, h4, h5⟩ := h.slot h1
    have hne : ¬ i = j := by
      intro e
      subst e
      exact h2 (h5.symm.trans hlk)
    rw [hg, live_in (i := j) h3 (by simp; rw [h.len]; exact hj)]
    have e1 : ((p.sl.set i ⟨(p.sl.getD i slot0).tag + 1, false⟩).getD j slot0) = p.sl.getD j slot0 := by
      simp only [List.getD_eq_getElem?_getD, List.getElem?_set_ne hne]
    simp only [PS.link, e1]
    simp only [PS.link] at h5
    rw [h4, h5]
    simp
  · exact List.Nodup.sublist (by
      have : live.take q ++ live.drop (q + 1) = live.eraseIdx q := (List.eraseIdx_eq_take_drop_succ live q).symm
      rw [this]
      exact List.eraseIdx_sublist live q) h.nd
  · intro g hgm
    rw [hg]
    rcases List.mem_append.1 hgm with hgm | hgm
    · obtain ⟨j, t, hj, ht0, hge, ht1⟩ := h.gn g hgm
      refine ⟨j, t, hj, ht0, hge, ?_⟩
      by_cases e : i = j
      · subst e
        simp only [List.getD_eq_getElem?_getD] at ht1 ⊢
        simp [hil] at ht1 ⊢
        omega
      · simpa [List.getD_eq_getElem?_getD, List.getElem?_set_ne e] using ht1
    · simp at hgm
      subst hgm
      refine ⟨i, (p.sl.getD i slot0).tag, hi, htag0, ?_, ?_⟩
      · have := hlk.symm
        rw [List.getD_eq_getElem?_getD] at this
        simpa [PS.link] using this
      · simp [List.getD_eq_getElem?_getD, hil]
        omega
end

end Go.Proofs.YtoidmakaijkglaaGreat
