/- Rows of entries (a key and where its chain lies): one put ahead of the others by slices.Insert. -/
import Derived.Test.YtoidmakaijkglaaGreatQ0
import Derived.Shelf.Spec.SlicesInsertGrow
import Derived.Deep.RegionLaw
namespace Go.Proofs.YtoidmakaijkglaaGreat
open Go.RowKit

theorem info_ent : (Tryz.prog.info? 84).map (fun i => (i.zero, i.size, i.bytes)) = some (some (.agg #[.int .i64 0, .pointer none]), 2, 16) := by kernel_rfl
theorem size_ent : (Tryz.prog.info? 84).map (·.size) = some 2 := by kernel_rfl
theorem size_of_ent (w : World) : (Go.sizeOf 84).run Tryz.prog w = .ok 2 w := by kernel_rfl
/-- A row of cells with others laid over it from o on. -/
def layA : Array Value → Nat → List Value → Array Value
  | cur, _, [] => cur
  | cur, o, v :: r => layA (cur.setIfInBounds o v) (o + 1) r
theorem layA_size : ∀ (vs : List Value) (cur : Array Value) (o : Nat), (layA cur o vs).size = cur.size
  | [], _, _ => rfl
  | v :: r, cur, o => by rw [layA, layA_size r]; simp
theorem layA_out : ∀ (vs : List Value) (cur : Array Value) (o j : Nat), (j < o ∨ o + vs.length ≤ j) → (layA cur o vs)[j]? = cur[j]?
  | [], _, _, _, _ => rfl
  | v :: r, cur, o, j, h => by
    rw [layA, layA_out r _ _ j (by simp at h; omega)]
    exact Array.getElem?_setIfInBounds_ne (by simp at h; omega)
theorem layA_in : ∀ (vs : List Value) (cur : Array Value) (o j : Nat), o + vs.length ≤ cur.size → j < vs.length → (layA cur o vs)[o + j]? = vs[j]?
  | [], _, _, j, _, h => by simp at h
  | v :: r, cur, o, 0, hs, _ => by
    rw [layA, layA_out r _ _ _ (by omega)]
    simp at hs
    simp [Array.getElem?_setIfInBounds_self]
    omega
  | v :: r, cur, o, j + 1, hs, h => by
    rw [layA, show o + (j + 1) = o + 1 + j by omega, layA_in r _ _ j (by simp at hs ⊢; omega) (by simpa using h)]
    simp
theorem blk_setCells : ∀ (vs : List Value) (w : World) (g o : Nat) (cur : Array Value) (E : TypeId), w.heap[g]? = some (.cells cur E (0, 0)) → (w.setCells g o vs).heap[g]? = some (.cells (layA cur o vs) E (0, 0))
  | [], _, _, _, _, _, h => h
  | v :: r, w, g, o, cur, E, h => by
    rw [World.setCells, layA]
    exact blk_setCells r _ g (o + 1) _ E (blk_set h)
theorem mod_setCells : ∀ (vs : List Value) (w : World) (g o : Nat), Mod (fun k => k = g) w (w.setCells g o vs)
  | [], w, _, _ => Mod.refl _ w
  | v :: r, w, g, o => by
    rw [World.setCells]
    exact ((Mod.refl (fun k => k = g) w).setCell (p := ⟨g, o, none⟩) (.inl rfl) v).trans (mod_setCells r _ g (o + 1))
theorem shape_blk {w : World} {g : Nat} {cur : Array Value} {E : TypeId} (h : w.heap[g]? = some (.cells cur E (0, 0))) : w.shape? g = some (E, cur.size) := by simp [World.shape?, h]
/-- copy within memory, of elements of any size: all is read before anything is written. -/
theorem copy_wide {W : World} {g o size n : Nat} {cur : Array Value} {T E : TypeId} (ht : Tryz.prog.underlying T = some (.slice E)) (hsz : (Tryz.prog.info? E).map (·.size) = some size) (hb : W.heap[g]? = some (.cells cur E (0, 0))) (dLen dCap : Nat) (a : Addr) (sLen sCap : Nat) (cs : List Value) (hn : n = Nat.min sLen dLen) (hl : cs.length = n * size) (hs : ∀ j v, cs[j]? = some v → W.cell? (a.add j) = some v)
    (hin : o + cs.length ≤ cur.size) (h1 : ∀ v ∈ cs, v.oneCell' = true) (ty : TypeId) :
    (Builtin.copy_ #[T, T] ty #[.slice (some ⟨g, o, none⟩) dLen dCap, .slice (some a) sLen sCap]).run Tryz.prog W = .ok (goInt n) (W.setCells g o cs) := by
  have hld := run_loadCells_list (P := Tryz.prog) W a cs hs
  have hst := run_storeCells_cells (P := Tryz.prog) g o cs 0 W (fun j hj => by rw [Nat.add_zero, blk_cell hb, Array.getElem?_eq_getElem (by omega)]; rfl) (fun j hj => blk_free hb _) h1
  cases hq : Tryz.prog.info? E with
  | none => simp [hq] at hsz
  | some i =>
    have hi : i.size = size := by simpa [hq] using hsz
    rw [hl] at hld
    simp [Builtin.copy_, run_underlying ht, Builtin.lenOf, Builtin.firstCells, sizeOf, typeInfo, hq, hi, ← hn, hld, hst]

/-- A row of entries of the call's own. -/
def entCells (l : List (Int × Nat)) : List Value := l.flatMap fun e => [.int .i64 e.1, .pointer (some ⟨e.2, 0, none⟩)]
theorem entCells_len : ∀ l : List (Int × Nat), (entCells l).length = l.length * 2
  | [] => rfl
  | x :: r => by
    have := entCells_len r
    unfold entCells at this ⊢
    rw [List.flatMap_cons, List.length_append, this, List.length_cons]
    simp
    omega
theorem entCells_one (l : List (Int × Nat)) : ∀ y ∈ entCells l, y.oneCell' = true := by
  intro y hy
  obtain ⟨x, _, hy⟩ := List.mem_flatMap.1 hy
  simp only [List.mem_cons, List.not_mem_nil, or_false] at hy
  rcases hy with rfl | rfl <;> rfl
theorem entCells_at : ∀ (l : List (Int × Nat)) (i : Nat), i < l.length → (entCells l)[i * 2]? = some (.int .i64 (l.getD i (0, 0)).1) ∧ (entCells l)[i * 2 + 1]? = some (.pointer (some ⟨(l.getD i (0, 0)).2, 0, none⟩))
  | [], i, h => absurd h (Nat.not_lt_zero i)
  | x :: r, 0, _ => ⟨rfl, rfl⟩
  | x :: r, i + 1, h => by
    have := entCells_at r i (by simpa using h)
    unfold entCells at this ⊢
    rw [List.flatMap_cons, show (i + 1) * 2 = i * 2 + 1 + 1 by omega, show i * 2 + 1 + 1 + 1 = (i * 2 + 1) + 1 + 1 by omega]
    simpa [List.getD_eq_getElem?_getD] using this
def EntRow (w : World) (v : Value) (l : List (Int × Nat)) : Prop := w.ownsRow 0 84 2 v l.length (entCells l)
theorem EntRow.nil (w : World) : EntRow w (.slice none 0 0) [] := World.ownsRow_nil _ _ _ _
theorem EntRow.form {w : World} {v : Value} {l : List (Int × Nat)} (h : EntRow w v l) : (v = .slice none 0 0 ∧ l = []) ∨ ∃ g cap cur, v = .slice (some ⟨g, 0, none⟩) l.length cap ∧ w.heap[g]? = some (.cells cur 84 (0, 0)) ∧ l.length ≤ cap ∧ cap ≤ maxLen ∧ cur.size = cap * 2 ∧ ∀ j, j < l.length * 2 → cur[j]? = (entCells l)[j]? := by
  rcases h.2 with ⟨hv, hn⟩ | ⟨g, cap, cur, hv, hg, hh, hnc, hcm, hcs, htk⟩
  · exact .inl ⟨hv, List.length_eq_zero_iff.1 hn⟩
  · refine .inr ⟨g, cap, cur, hv, hh, hnc, hcm, by omega, fun j hj => ?_⟩
    have h1 : (cur.toList.take (l.length * 2))[j]? = (entCells l)[j]? := by rw [htk]
    rw [List.getElem?_take_of_lt (by omega)] at h1
    simpa using h1
theorem EntRow.of {w : World} {g cap : Nat} {cur : Array Value} {l : List (Int × Nat)} (hb : w.heap[g]? = some (.cells cur 84 (0, 0))) (hn : l.length ≤ cap) (hc : cap ≤ maxLen) (hs : cur.size = cap * 2) (hj : ∀ j, j < l.length * 2 → cur[j]? = (entCells l)[j]?) : EntRow w (.slice (some ⟨g, 0, none⟩) l.length cap) l := by
  refine ⟨entCells_len l, .inr ⟨g, cap, cur, rfl, Nat.zero_le _, hb, hn, hc, by omega, ?_⟩⟩
  apply List.ext_getElem?
  intro j
  by_cases h : j < l.length * 2
  · rw [List.getElem?_take_of_lt h]
    simpa using hj j h
  · rw [List.getElem?_eq_none (by simp; omega), List.getElem?_eq_none (by rw [entCells_len]; omega)]
theorem EntRow.mod {w w1 : World} {F : Nat → Prop} {v : Value} {l : List (Int × Nat)} (h : EntRow w v l) (hm : Mod F w w1) (hF : ∀ g, v.ownBlock = some g → ¬ F g) : EntRow w1 v l := ownsRow_mod h hm hF
theorem EntRow.lt {w : World} {v : Value} {l : List (Int × Nat)} (h : EntRow w v l) : ∀ g, v.ownBlock = some g → g < w.heap.size := fun g hg => (World.ownsRow.lt h g hg).2
theorem SrcAt.two {w : World} {g : Nat} {x y : Value} {E : TypeId} (h : w.heap[g]? = some (.cells #[x, y] E (0, 0))) : SrcAt w (.slice (some ⟨g, 0, none⟩) 1 1) 1 2 [x, y] := by
  refine .inr ⟨g, 0, 1, rfl, rfl, fun j z hj => ?_⟩
  match j, hj with
  | 0, hj => simp at hj; subst hj; rw [blk_cell h]; rfl
  | 1, hj => simp at hj; subst hj; rw [blk_cell h]; rfl
/-- What an Insert leaves. -/
def PutFirst (w : World) (v : Value) (l : List (Int × Nat)) (e : Ending) (w' : World) : Prop := ∃ v', e = .returned v' ∧ EntRow w' v' l ∧ Mod (fun k => v.ownBlock = some k) w w' ∧ ∀ g, v'.ownBlock = some g → v.ownBlock = some g ∨ w.heap.size ≤ g

set_option maxRecDepth 100000 in
set_option maxHeartbeats 1600000 in
theorem put_none (a : Option Addr) (cap : Nat) (x : Int × Nat) (vb : Nat) (w : World) (h : EntRow w (.slice a 0 cap) []) (hx : w.heap[vb]? = some (.cells #[.int .i64 x.1, .pointer (some ⟨x.2, 0, none⟩)] 84 (0, 0))) :
    Calls Tryz.prog 26 #[.slice a 0 cap, .int .i64 0, .slice (some ⟨vb, 0, none⟩) 1 1] w (PutFirst w (.slice a 0 cap) [x]) := by
  have hq : (a = none ∧ cap = 0) ∨ ∃ g, a = some ⟨g, 0, none⟩ := by
    rcases h.form with ⟨e, _⟩ | ⟨g, cap2, cur, e, _⟩
    · simp only [Value.slice.injEq, true_and] at e
      exact .inl e
    · simp only [Value.slice.injEq] at e
      exact .inr ⟨g, e.1⟩
  have q4 : cap ≤ 9223372036854775807 := by
    rcases h.form with ⟨e, _⟩ | ⟨g, cap2, cur, e, _, _, hm, _⟩
    · simp only [Value.slice.injEq, true_and] at e
      omega
    · simp only [Value.slice.injEq] at e
      unfold maxLen at hm
      omega
  have HO := Lib.hid h
  have HX := Lib.hid hx
  have hfin := Lib.hid (fun v' w' (hA : Appended w w' 0 84 2 (.slice a 0 cap) v' (0 + 1) ([] ++ [.int .i64 x.1, .pointer (some ⟨x.2, 0, none⟩)])) => (by
    refine ⟨v', rfl, hA.own, hA.mod (fun k hk => hk), fun g hg => ?_⟩
    rcases hA.lies with e | e
    · exact .inl (e ▸ hg)
    · rw [e] at hg
      exact .inr (Nat.le_of_eq (Option.some.inj hg)) : PutFirst w (.slice a 0 cap) [x] (.returned v') w'))
  clear h hx
  rcases hq with ⟨rfl, rfl⟩ | ⟨g, rfl⟩
  · go_enter Tryz.func26, Tryz.ntmps26
    go_wp2_with (at_builtin; refine walk_append (zero := .agg #[.int .i64 0, .pointer none]) (size := 2) (base := 0) (n := 0) (m := 1) (xs := []) (ys := [.int .i64 x.1, .pointer (some ⟨x.2, 0, none⟩)]) rfl (.tmp 23) (.tmp 24) rfl Tryz.underlying81 info_ent rfl (by decide) (Nat.le_of_ble_eq_true rfl) rfl HO.out rfl (SrcAt.two HX.out) (entCells_one [x]) (by omega) (Nat.zero_le _) ?_)
    intro v' w' hA
    go_wp2_with fail
    go_ret
    exact hfin.out _ _ hA
  · go_enter Tryz.func26, Tryz.ntmps26
    go_wp2_with (at_builtin; refine walk_append (zero := .agg #[.int .i64 0, .pointer none]) (size := 2) (base := 0) (n := 0) (m := 1) (xs := []) (ys := [.int .i64 x.1, .pointer (some ⟨x.2, 0, none⟩)]) rfl (.tmp 23) (.tmp 24) rfl Tryz.underlying81 info_ent rfl (by decide) (Nat.le_of_ble_eq_true rfl) rfl HO.out rfl (SrcAt.two HX.out) (entCells_one [x]) (by omega) (Nat.zero_le _) ?_)
    intro v' w' hA
    go_wp2_with fail
    go_ret
    exact hfin.out _ _ hA
end Go.Proofs.YtoidmakaijkglaaGreat
