/- Rows of pointers: slices.Insert of one, slices.Delete of one, over a row that the call itself made. -/
import Derived.Test.YtfjoghbkfkbbdaaQ0
import Derived.Shelf.Spec.SlicesInsertGrow
import Derived.Deep.RegionLaw
namespace Go.Proofs.Ytfjoghbkfkbbdaa
open Go.RowKit

theorem info_ptr : (Try.prog.info? 126).map (fun i => (i.zero, i.size, i.bytes)) = some (some (.pointer none), 1, 8) := by kernel_rfl
theorem size_ptr : (Try.prog.info? 126).map (·.size) = some 1 := by kernel_rfl
/-- A row of cells with others laid over it from o on. -/
def layA : Array Value → Nat → List Value → Array Value
  | cur, _, [] => cur
  | cur, o, v :: r => layA (cur.setIfInBounds o v) (o + 1) r
theorem layA_size : ∀ (vs : List Value) (cur : Array Value) (o : Nat), (layA cur o vs).size = cur.size
  | [], _, _ => rfl
  | v :: r, cur, o => by rw [layA, layA_size r]; simp
theorem layA_out : ∀ (vs : List Value) (cur : Array Value) (o j : Nat), (j < o ∨ o + vs.length ≤ j) → (layA cur o vs)[j]? = cur[j]?
  | [], _, _, _, _ => rfl
  | v :: r, cur, o, j, h => by
    rw [layA, layA_out r _ _ j (by simp at h; omega)]
    exact Array.getElem?_setIfInBounds_ne (by simp at h; omega)
theorem layA_in : ∀ (vs : List Value) (cur : Array Value) (o j : Nat), o + vs.length ≤ cur.size → j < vs.length → (layA cur o vs)[o + j]? = vs[j]?
  | [], _, _, j, _, h => by simp at h
  | v :: r, cur, o, 0, hs, _ => by
    rw [layA, layA_out r _ _ _ (by omega)]
    simp at hs
    simp [Array.getElem?_setIfInBounds_self]
    omega
  | v :: r, cur, o, j + 1, hs, h => by
    rw [layA, show o + (j + 1) = o + 1 + j by omega, layA_in r _ _ j (by simp at hs ⊢; omega) (by simpa using h)]
    simp
theorem blk_setCells : ∀ (vs : List Value) (w : World) (g o : Nat) (cur : Array Value) (E : TypeId), w.heap[g]? = some (.cells cur E (0, 0)) → (w.setCells g o vs).heap[g]? = some (.cells (layA cur o vs) E (0, 0))
  | [], _, _, _, _, _, h => h
  | v :: r, w, g, o, cur, E, h => by
    rw [World.setCells, layA]
    exact blk_setCells r _ g (o + 1) _ E (blk_set h)
theorem mod_setCells : ∀ (vs : List Value) (w : World) (g o : Nat), Mod (fun k => k = g) w (w.setCells g o vs)
  | [], w, _, _ => Mod.refl _ w
  | v :: r, w, g, o => by
    rw [World.setCells]
    exact ((Mod.refl (fun k => k = g) w).setCell (p := ⟨g, o, none⟩) (.inl rfl) v).trans (mod_setCells r _ g (o + 1))
/-- copy within memory: all is read before anything is written. -/
theorem copy_blk {W : World} {g o : Nat} {cur : Array Value} {E : TypeId} (hb : W.heap[g]? = some (.cells cur E (0, 0))) (dLen dCap : Nat) (a : Addr) (sLen sCap : Nat) (cs : List Value) (hn : cs.length = Nat.min sLen dLen) (hs : ∀ j v, cs[j]? = some v → W.cell? (a.add j) = some v)
    (hin : o + cs.length ≤ cur.size) (h1 : ∀ v ∈ cs, v.oneCell' = true) (ty : TypeId) :
    (Builtin.copy_ #[120, 120] ty #[.slice (some ⟨g, o, none⟩) dLen dCap, .slice (some a) sLen sCap]).run Try.prog W = .ok (goInt cs.length) (W.setCells g o cs) :=
  run_copy_cells W _ _ ty 126 g o dLen dCap a sLen sCap cs Try.underlying120 size_ptr hn hs
    (fun j hj => by rw [blk_cell hb, Array.getElem?_eq_getElem (by omega)]; rfl) (fun j hj => blk_free hb _) h1

/-- A row of pointers of the call's own: its block, its cells. -/
def PtrRow (w : World) (v : Value) (ps : List Value) : Prop := w.ownsRow 0 126 1 v ps.length ps ∧ ∀ p ∈ ps, p.oneCell' = true
theorem PtrRow.nil (w : World) : PtrRow w (.slice none 0 0) [] := ⟨World.ownsRow_nil _ _ _ _, fun p h => by simp at h⟩
theorem PtrRow.form {w : World} {v : Value} {ps : List Value} (h : PtrRow w v ps) : (v = .slice none 0 0 ∧ ps = []) ∨ ∃ g cap cur, v = .slice (some ⟨g, 0, none⟩) ps.length cap ∧ w.heap[g]? = some (.cells cur 126 (0, 0)) ∧ ps.length ≤ cap ∧ cap ≤ maxLen ∧ cur.size = cap ∧ ∀ j, j < ps.length → cur[j]? = ps[j]? := by
  rcases h.1.2 with ⟨hv, hn⟩ | ⟨g, cap, cur, hv, hg, hh, hnc, hcm, hcs, htk⟩
  · exact .inl ⟨hv, List.length_eq_zero_iff.1 hn⟩
  · refine .inr ⟨g, cap, cur, hv, hh, hnc, hcm, by omega, fun j hj => ?_⟩
    have h1 : (cur.toList.take (ps.length * 1))[j]? = ps[j]? := by rw [htk]
    rw [List.getElem?_take_of_lt (by omega)] at h1
    simpa using h1
theorem PtrRow.of {w : World} {g cap : Nat} {cur : Array Value} {ps : List Value} (hb : w.heap[g]? = some (.cells cur 126 (0, 0))) (hn : ps.length ≤ cap) (hc : cap ≤ maxLen) (hs : cur.size = cap) (hj : ∀ j, j < ps.length → cur[j]? = ps[j]?) (h1 : ∀ p ∈ ps, p.oneCell' = true) : PtrRow w (.slice (some ⟨g, 0, none⟩) ps.length cap) ps := by
  refine ⟨⟨by simp, .inr ⟨g, cap, cur, rfl, Nat.zero_le _, hb, hn, hc, by omega, ?_⟩⟩, h1⟩
  apply List.ext_getElem?
  intro j
  by_cases h : j < ps.length
  · rw [List.getElem?_take_of_lt (by omega)]
    simpa using hj j h
  · rw [List.getElem?_eq_none (by simp; omega), List.getElem?_eq_none (by omega)]
/-- What an Insert leaves. -/
def Inserted (w : World) (v : Value) (ps : List Value) (e : Ending) (w' : World) : Prop := ∃ v', e = .returned v' ∧ PtrRow w' v' ps ∧ Mod (fun k => v.ownBlock = some k) w w' ∧ ∀ g, v'.ownBlock = some g → v.ownBlock = some g ∨ w.heap.size ≤ g

theorem ins_one {ps : List Value} {x : Value} (i : Nat) (h : ∀ p ∈ ps, p.oneCell' = true) (hx : x.oneCell' = true) : ∀ p ∈ ps.take i ++ x :: ps.drop i, p.oneCell' = true := by
  intro p hp
  rcases List.mem_append.1 hp with hp | hp
  · exact h p (List.mem_of_mem_take hp)
  · rcases List.mem_cons.1 hp with rfl | hp
    · exact hx
    · exact h p (List.mem_of_mem_drop hp)
theorem ins_len {ps : List Value} {x : Value} {i : Nat} (h : i ≤ ps.length) : (ps.take i ++ x :: ps.drop i).length = ps.length + 1 := by simp; omega
theorem ins_get {ps : List Value} {x : Value} {i : Nat} (h : i ≤ ps.length) (j : Nat) : (ps.take i ++ x :: ps.drop i)[j]? = if j < i then ps[j]? else if j = i then some x else ps[j - 1]? := by
  have hl : (ps.take i).length = i := by rw [List.length_take]; omega
  by_cases h1 : j < i
  · rw [if_pos h1, List.getElem?_append_left (by omega), List.getElem?_take_of_lt h1]
  · rw [if_neg h1, List.getElem?_append_right (by omega), hl]
    by_cases h2 : j = i
    · subst h2
      simp
    · rw [if_neg h2, show j - i = (j - i - 1) + 1 by omega, List.getElem?_cons_succ, List.getElem?_drop]
      congr 1
      omega

set_option maxRecDepth 100000 in
set_option maxHeartbeats 1600000 in
/-- At the end. -/
theorem insert_end (v : Value) (ps : List Value) (x : Value) (vb : Nat) (w : World) (h : PtrRow w v ps) (hx : w.heap[vb]? = some (.cells #[x] 126 (0, 0))) (h1 : x.oneCell' = true) (hl : ps.length ≤ 100000) :
    Calls Try.prog 76 #[v, .int .i64 ps.length, .slice (some ⟨vb, 0, none⟩) 1 1] w (Inserted w v (ps ++ [x])) := by
  obtain ⟨a, cap, rfl, hcap⟩ : ∃ a cap, v = .slice a ps.length cap ∧ ps.length ≤ cap ∧ (a = none → ps.length = 0 ∧ cap = 0) ∧ (∀ g, a = some g → g = ⟨g.block, 0, none⟩ ∧ cap ≤ maxLen) := by
    rcases h.form with ⟨rfl, rfl⟩ | ⟨g, cap, cur, rfl, _, h2, h3, _⟩
    · exact ⟨none, 0, rfl, Nat.le_refl _, fun _ => ⟨rfl, rfl⟩, fun g h => by cases h⟩
    · exact ⟨_, cap, rfl, h2, (fun h => by cases h), fun g' h => by cases h; exact ⟨rfl, h3⟩⟩
  obtain ⟨q1, q2, q3⟩ := hcap
  have HO := Lib.hid h
  have HX := Lib.hid hx
  have hll : ps.length + 1 ≤ 1099511627776 := by omega
  have H1 := Lib.hid (show ∀ y ∈ [x], y.oneCell' = true from fun y hy => by simp at hy; subst hy; exact h1)
  have q4 : cap ≤ 9223372036854775807 := by
    cases a with
    | none => have := (q2 rfl).2; omega
    | some g => have := (q3 g rfl).2; unfold maxLen at this; omega
  have hfin := Lib.hid (fun v' w' (hA : Appended w w' 0 126 1 (.slice a ps.length cap) v' (ps.length + 1) (ps ++ [x])) => (by
    refine ⟨v', rfl, ⟨by simpa using hA.own, fun p hp => ?_⟩, hA.mod (fun k hk => hk), fun g hg => ?_⟩
    · rcases List.mem_append.1 hp with hp | hp
      · exact HO.out.2 p hp
      · exact H1.out p hp
    · rcases hA.lies with e | e
      · exact .inl (e ▸ hg)
      · rw [e] at hg
        exact .inr (Nat.le_of_eq (Option.some.inj hg)) : Inserted w (.slice a ps.length cap) (ps ++ [x]) (.returned v') w'))
  clear h hx h1
  cases a with
  | none =>
    obtain ⟨e1, e2⟩ := q2 rfl
    subst e2
    clear q1 q2 q3
    have hnil : ps = [] := List.length_eq_zero_iff.1 e1
    subst hnil
    go_enter Try.func76, Try.ntmps76
    go_wp2_with (at_builtin; refine walk_append (zero := .pointer none) (base := 0) (n := ([] : List Value).length) (m := 1) (xs := []) (ys := [x]) rfl (.tmp 23) (.tmp 24) rfl Try.underlying120 info_ptr rfl Nat.zero_lt_one (Nat.le_of_ble_eq_true rfl) rfl HO.out.1 rfl (SrcAt.one HX.out) H1.out hll (Nat.zero_le _) ?_)
    intro v' w' hA
    go_wp2_with fail
    go_ret
    exact hfin.out _ _ hA
  | some g =>
    obtain ⟨e1, _⟩ := q3 g rfl
    obtain ⟨gb, rfl⟩ : ∃ gb, g = ⟨gb, 0, none⟩ := ⟨_, e1⟩
    clear q2 q3 e1
    rcases Nat.eq_or_lt_of_le q1 with hc | hc
    · subst hc
      go_enter Try.func76, Try.ntmps76
      go_wp2_with (at_builtin; refine walk_append (zero := .pointer none) (base := 0) (n := ps.length) (m := 1) (xs := ps) (ys := [x]) rfl (.tmp 23) (.tmp 24) rfl Try.underlying120 info_ptr rfl Nat.zero_lt_one (Nat.le_of_ble_eq_true rfl) rfl HO.out.1 rfl (SrcAt.one HX.out) H1.out hll (Nat.zero_le _) ?_)
      intro v' w' hA
      go_wp2_with fail
      go_ret
      exact hfin.out _ _ hA
    · have hc2 : ¬ cap = ps.length := by omega
      go_enter Try.func76, Try.ntmps76
      go_wp2_with (at_builtin; refine walk_append (zero := .pointer none) (base := 0) (n := ps.length) (m := 1) (xs := ps) (ys := [x]) rfl (.tmp 23) (.tmp 24) rfl Try.underlying120 info_ptr rfl Nat.zero_lt_one (Nat.le_of_ble_eq_true rfl) rfl HO.out.1 rfl (SrcAt.one HX.out) H1.out hll (Nat.zero_le _) ?_)
      intro v' w' hA
      go_wp2_with fail
      go_ret
      exact hfin.out _ _ hA
end Go.Proofs.Ytfjoghbkfkbbdaa
