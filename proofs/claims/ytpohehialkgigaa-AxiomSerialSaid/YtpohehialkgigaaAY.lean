/- The memory of Serially: rows of calls and of Deals that grow; the two arrays. -/
import Derived.Test.YtpohehialkgigaaAX
namespace Go.Proofs.Ytpohehialkgigaa
open Go.RowKit
theorem SrcAt.block {w : World} {g n : Nat} {cs : List Value} {E : TypeId} (h : w.heap[g]? = some (.cells cs.toArray E (0, 0))) (hn : cs.length = n) : SrcAt w (.slice (some ⟨g, 0, none⟩) 1 1) 1 n cs := by
  refine .inr ⟨g, 0, 1, rfl, by rw [hn, Nat.one_mul], fun j y hj => ?_⟩
  rw [Nat.zero_add, blk_cell h]
  simpa using hj
/-- Calls in a row of the call's own, each with the slice of its pairs. -/
def NewCalls (B : Nat) (w : World) (v : Value) (l : List (Cl × Value)) : Prop := w.ownsRow B 35 9 v l.length (l.flatMap fun c => c.1.cells c.2)
def NewDeals (B : Nat) (w : World) (v : Value) (l : List (Dl × Value)) : Prop := w.ownsRow B 25 6 v l.length (l.flatMap fun c => c.1.cells c.2)
theorem NewCalls.nil (B : Nat) (w : World) : NewCalls B w (.slice none 0 0) [] := World.ownsRow_nil _ _ _ _
theorem NewDeals.nil (B : Nat) (w : World) : NewDeals B w (.slice none 0 0) [] := World.ownsRow_nil _ _ _ _
theorem NewCalls.mod {B : Nat} {w w1 : World} {F : Nat → Prop} {v : Value} {l : List (Cl × Value)} (h : NewCalls B w v l) (hm : Mod F w w1) (hF : ∀ g, v.ownBlock = some g → ¬ F g) : NewCalls B w1 v l := ownsRow_mod h hm hF
theorem NewDeals.mod {B : Nat} {w w1 : World} {F : Nat → Prop} {v : Value} {l : List (Dl × Value)} (h : NewDeals B w v l) (hm : Mod F w w1) (hF : ∀ g, v.ownBlock = some g → ¬ F g) : NewDeals B w1 v l := ownsRow_mod h hm hF
theorem NewCalls.later {B : Nat} {w w1 : World} {v : Value} {l : List (Cl × Value)} (h : NewCalls B w v l) (hb : Below w.heap.size w w1) : NewCalls B w1 v l := h.mod (Mod.of_below (F := fun _ => False) hb) (fun _ _ h => h)
theorem NewDeals.later {B : Nat} {w w1 : World} {v : Value} {l : List (Dl × Value)} (h : NewDeals B w v l) (hb : Below w.heap.size w w1) : NewDeals B w1 v l := h.mod (Mod.of_below (F := fun _ => False) hb) (fun _ _ h => h)
theorem NewCalls.app {B : Nat} {W w' : World} {v v' : Value} {l : List (Cl × Value)} {c : Cl} {pv : Value} {m : Nat} {zs : List Value} (hA : Appended W w' B 35 9 v v' m zs) (hm : m = l.length + 1) (hz : zs = (l.flatMap fun c => c.1.cells c.2) ++ c.cells pv) : NewCalls B w' v' (l ++ [(c, pv)]) := by
  have := hA.own
  unfold NewCalls
  rw [List.length_append, List.flatMap_append, List.flatMap_singleton]
  subst hm hz
  exact this
theorem NewDeals.app {B : Nat} {W w' : World} {v v' : Value} {l : List (Dl × Value)} {d : Dl} {ov : Value} {m : Nat} {zs : List Value} (hA : Appended W w' B 25 6 v v' m zs) (hm : m = l.length + 1) (hz : zs = (l.flatMap fun c => c.1.cells c.2) ++ d.cells ov) : NewDeals B w' v' (l ++ [(d, ov)]) := by
  have := hA.own
  unfold NewDeals
  rw [List.length_append, List.flatMap_append, List.flatMap_singleton]
  subst hm hz
  exact this
theorem NewCalls.at_ {B : Nat} {w : World} {v : Value} {l : List (Cl × Value)} (h : NewCalls B w v l) (hp : ∀ c ∈ l, PairsAt w c.2 c.1.pairs) : CallsAt w v (l.map (·.1)) := by
  have h0 := h
  rcases h.2 with ⟨hv, hn⟩ | ⟨g, cap, cur, hv, hg, hh, hnc, hcm, hcs, htk⟩
  · have : l = [] := List.length_eq_zero_iff.1 hn
    subst this
    exact .inl ⟨rfl, _, _, hv, fun _ => rfl⟩
  · refine .inr ⟨g, 0, cap, by rw [hv, List.length_map], by rw [List.length_map]; exact hnc, blk_lt hh, fun i hi => ?_⟩
    have hi' : i < l.length := by simpa using hi
    have e : (l.map (·.1)).getD i cl0 = (l.getD i (cl0, undef)).1 := by simp [List.getD_eq_getElem?_getD, hi']
    rw [e]
    refine ⟨(l.getD i (cl0, undef)).2, fun q hq => ?_, hp _ (by rw [List.getD_eq_getElem?_getD]; simp [hi'])⟩
    rw [Nat.zero_add, blk_cell hh]
    have h1 : (cur.toList.take (l.length * 9))[i * 9 + q]? = (l.flatMap fun c => c.1.cells c.2)[i * 9 + q]? := by rw [htk]
    rw [List.getElem?_take_of_lt (by omega), flat_get Cl.cells_len (cl0, undef) l i q hi' hq] at h1
    simpa using h1
theorem NewDeals.at_ {B : Nat} {w : World} {v : Value} {l : List (Dl × Value)} (h : NewDeals B w v l) (hp : ∀ c ∈ l, CallsAt w c.2 c.1.ops) : DealsAt w v (l.map (·.1)) := by
  have h0 := h
  rcases h.2 with ⟨hv, hn⟩ | ⟨g, cap, cur, hv, hg, hh, hnc, hcm, hcs, htk⟩
  · have : l = [] := List.length_eq_zero_iff.1 hn
    subst this
    exact .inl ⟨rfl, _, _, hv, fun _ => rfl⟩
  · refine .inr ⟨g, 0, cap, by rw [hv, List.length_map], by rw [List.length_map]; exact hnc, blk_lt hh, fun i hi => ?_⟩
    have hi' : i < l.length := by simpa using hi
    have e : (l.map (·.1)).getD i dl0 = (l.getD i (dl0, undef)).1 := by simp [List.getD_eq_getElem?_getD, hi']
    rw [e]
    refine ⟨(l.getD i (dl0, undef)).2, fun q hq => ?_, hp _ (by rw [List.getD_eq_getElem?_getD]; simp [hi'])⟩
    rw [Nat.zero_add, blk_cell hh]
    have h1 : (cur.toList.take (l.length * 6))[i * 6 + q]? = (l.flatMap fun c => c.1.cells c.2)[i * 6 + q]? := by rw [htk]
    rw [List.getElem?_take_of_lt (by omega), flat_get Dl.cells_len (dl0, undef) l i q hi' hq] at h1
    simpa using h1
theorem info_call3 : (Try.prog.info? 35).map (fun i => (i.zero, i.size, i.bytes)) = some (some callZero, 9, 88) := by kernel_rfl
theorem info_deal3 : (Try.prog.info? 25).map (fun i => (i.zero, i.size, i.bytes)) = some (some dealZero, 6, 64) := by kernel_rfl
theorem call_one (c : Cl) (a : Option Addr) (n m : Nat) : ∀ y ∈ c.cells (.slice a n m), y.oneCell' = true := by
  intro y hy
  simp only [Cl.cells, List.mem_cons, List.not_mem_nil, or_false] at hy
  rcases hy with rfl | rfl | rfl | rfl | rfl | rfl | rfl | rfl | rfl <;> rfl
theorem deal_one (d : Dl) (a : Option Addr) (n m : Nat) : ∀ y ∈ d.cells (.slice a n m), y.oneCell' = true := by
  intro y hy
  simp only [Dl.cells, List.mem_cons, List.not_mem_nil, or_false] at hy
  rcases hy with rfl | rfl | rfl | rfl | rfl | rfl <;> rfl

/-! ### The two arrays -/
def boolCells (B : List Bool) : Array Value := (B.map Value.bool).toArray
def intCells (B : List Int) : Array Value := (B.map (Value.int .i64)).toArray
theorem getB_set {B : List Bool} {i j : Nat} (h : i < B.length) (v : Bool) : (B.set i v).getD j false = if j = i then v else B.getD j false := by
  by_cases e : j = i
  · subst e
    simp [List.getD_eq_getElem?_getD, h]
  · rw [if_neg e]
    simp [List.getD_eq_getElem?_getD, List.getElem?_set_ne (fun h => e h.symm)]
theorem getI_set {B : List Int} {i j : Nat} (h : i < B.length) (v : Int) : (B.set i v).getD j 0 = if j = i then v else B.getD j 0 := by
  by_cases e : j = i
  · subst e
    simp [List.getD_eq_getElem?_getD, h]
  · rw [if_neg e]
    simp [List.getD_eq_getElem?_getD, List.getElem?_set_ne (fun h => e h.symm)]
theorem St.get_del (s : St) (k x : Int) : (St.del s k).get x = if x = k then none else s.get x := by
  unfold St.get
  by_cases h : x = k
  · subst h
    rw [if_pos rfl]
    have : (St.del s x).find? (fun p => decide (p.1 = x)) = none := by
      rw [List.find?_eq_none]
      intro p hp
      simpa using (St.del_mem hp).2
    rw [this]
    rfl
  · rw [if_neg h, find_del_ne (fun e => h e.symm)]
/-- Which keys are there, in an array. -/
def ThereAt (w : World) (g : Nat) (s : St) : Prop := ∃ B : List Bool, w.heap[g]? = some (.cells (boolCells B) 76 (0, 0)) ∧ B.length = 64 ∧ ∀ k : Nat, k < 64 → B.getD k false = (s.get k).isSome
/-- Their values. -/
def ValAt (w : World) (g : Nat) (s : St) : Prop := ∃ V : List Int, w.heap[g]? = some (.cells (intCells V) 77 (0, 0)) ∧ V.length = 64 ∧ ∀ k : Nat, k < 64 → ∀ x, s.get k = some x → V.getD k 0 = x
section
variable {w w1 : World} {g : Nat} {s : St}
theorem ThereAt.mod {F : Nat → Prop} (h : ThereAt w g s) (hm : Mod F w w1) (hF : ¬ F g) : ThereAt w1 g s := by
  obtain ⟨B, h1, h2⟩ := h
  exact ⟨B, hm.keep h1 hF, h2⟩
theorem ValAt.mod {F : Nat → Prop} (h : ValAt w g s) (hm : Mod F w w1) (hF : ¬ F g) : ValAt w1 g s := by
  obtain ⟨B, h1, h2⟩ := h
  exact ⟨B, hm.keep h1 hF, h2⟩
theorem ThereAt.cell (h : ThereAt w g s) {k : Nat} (hk : k < 64) : w.cell? ⟨g, k, none⟩ = some (.bool (s.get k).isSome) ∧ w.frozen? ⟨g, k, none⟩ = false := by
  obtain ⟨B, h1, h2, h3⟩ := h
  refine ⟨?_, blk_free h1 k⟩
  rw [blk_cell h1, ← h3 k hk]
  simp [boolCells, List.getD_eq_getElem?_getD, h2, hk]
theorem ValAt.cell (h : ValAt w g s) {k : Nat} (hk : k < 64) : ∃ x, w.cell? ⟨g, k, none⟩ = some (.int .i64 x) ∧ w.frozen? ⟨g, k, none⟩ = false ∧ ∀ y, s.get k = some y → x = y := by
  obtain ⟨B, h1, h2, h3⟩ := h
  refine ⟨B.getD k 0, ?_, blk_free h1 k, h3 k hk⟩
  rw [blk_cell h1]
  simp [intCells, List.getD_eq_getElem?_getD, h2, hk]
theorem ThereAt.put (h : ThereAt w g s) {k : Nat} (hk : k < 64) (v : Int) : ThereAt (w.setCell ⟨g, k, none⟩ (.bool true)) g (s.put k v) := by
  obtain ⟨B, h1, h2, h3⟩ := h
  refine ⟨B.set k true, ?_, by simpa using h2, fun j hj => ?_⟩
  · have := blk_set (i := k) (u := .bool true) h1
    rw [show (boolCells B).setIfInBounds k (.bool true) = boolCells (B.set k true) by simp [boolCells, List.map_set]] at this
    exact this
  · rw [getB_set (by omega), St.get_put, h3 j hj]
    by_cases e : j = k
    · subst e; simp
    · have : ¬ (j : Int) = (k : Int) := by omega
      rw [if_neg e, if_neg this]
theorem ThereAt.del (h : ThereAt w g s) {k : Nat} (hk : k < 64) : ThereAt (w.setCell ⟨g, k, none⟩ (.bool false)) g (s.del k) := by
  obtain ⟨B, h1, h2, h3⟩ := h
  refine ⟨B.set k false, ?_, by simpa using h2, fun j hj => ?_⟩
  · have := blk_set (i := k) (u := .bool false) h1
    rw [show (boolCells B).setIfInBounds k (.bool false) = boolCells (B.set k false) by simp [boolCells, List.map_set]] at this
    exact this
  · rw [getB_set (by omega), St.get_del, h3 j hj]
    by_cases e : j = k
    · subst e; simp
    · have : ¬ (j : Int) = (k : Int) := by omega
      rw [if_neg e, if_neg this]
/-- A key that is there already. -/
theorem ThereAt.again (h : ThereAt w g s) {k : Nat} (hk : (s.get k).isSome = true) (v : Int) : ThereAt w g (s.put k v) := by
  obtain ⟨B, h1, h2, h3⟩ := h
  refine ⟨B, h1, h2, fun j hj => ?_⟩
  rw [h3 j hj, St.get_put]
  by_cases e : (j : Int) = (k : Int)
  · rw [if_pos e, e, hk]; rfl
  · rw [if_neg e]
theorem ValAt.put (h : ValAt w g s) {k : Nat} (hk : k < 64) (v : Int) : ValAt (w.setCell ⟨g, k, none⟩ (.int .i64 v)) g (s.put k v) := by
  obtain ⟨B, h1, h2, h3⟩ := h
  refine ⟨B.set k v, ?_, by simpa using h2, fun j hj x hx => ?_⟩
  · have := blk_set (i := k) (u := .int .i64 v) h1
    rw [show (intCells B).setIfInBounds k (.int .i64 v) = intCells (B.set k v) by simp [intCells, List.map_set]] at this
    exact this
  · rw [getI_set (by omega)]
    rw [St.get_put] at hx
    by_cases e : j = k
    · subst e
      simpa using hx
    · have : ¬ (j : Int) = (k : Int) := by omega
      rw [if_neg this] at hx
      rw [if_neg e]
      exact h3 j hj x hx
theorem ValAt.del (h : ValAt w g s) (k : Int) : ValAt w g (s.del k) := by
  obtain ⟨B, h1, h2, h3⟩ := h
  refine ⟨B, h1, h2, fun j hj x hx => h3 j hj x ?_⟩
  rw [St.get_del] at hx
  split at hx
  · cases hx
  · exact hx
end
theorem alloc_there (w : World) : (Instr.alloc 76 true (.tuple #[])).run Try.prog w = .ok (.pointer (some ⟨w.heap.size, 0, none⟩)) (w.alloc (.cells (boolCells (List.replicate 64 false)) 76)) := by
  have : ∀ w, (Instr.alloc 76 true (.tuple #[])).run Try.prog w = .ok (.pointer (some ⟨w.heap.size, 0, none⟩)) (w.alloc (.cells (List.replicate 64 (Value.bool false)).toArray 76)) := fun w => by kernel_rfl
  rw [this]
  simp [boolCells]
theorem alloc_val (w : World) : (Instr.alloc 77 true (.tuple #[])).run Try.prog w = .ok (.pointer (some ⟨w.heap.size, 0, none⟩)) (w.alloc (.cells (intCells (List.replicate 64 0)) 77)) := by
  have : ∀ w, (Instr.alloc 77 true (.tuple #[])).run Try.prog w = .ok (.pointer (some ⟨w.heap.size, 0, none⟩)) (w.alloc (.cells (List.replicate 64 (Value.int .i64 0)).toArray 77)) := fun w => by kernel_rfl
  rw [this]
  simp [intCells]
theorem there_new (w : World) : ThereAt (w.alloc (.cells (boolCells (List.replicate 64 false)) 76 (0, 0))) w.heap.size [] :=
  ⟨_, blk_new _ _, List.length_replicate, fun k hk => by rw [List.getD_eq_getElem?_getD, List.getElem?_replicate, if_pos hk]; rfl⟩
theorem val_new (w : World) : ValAt (w.alloc (.cells (intCells (List.replicate 64 0)) 77 (0, 0))) w.heap.size [] :=
  ⟨_, blk_new _ _, by simp, fun k hk x hx => by simp [St.get] at hx⟩
end Go.Proofs.Ytpohehialkgigaa
