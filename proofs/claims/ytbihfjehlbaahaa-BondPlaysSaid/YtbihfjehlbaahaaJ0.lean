/- Bonds in memory: a map of nodes, each with a row of its own. -/
import Derived.Test.YtbihfjehlbaahaaQ0
import Derived.Maps.RangeWalk
import Derived.Maps.OwnSet
import Derived.Maps.OwnOps
namespace Go.Proofs.Ytbihfjehlbaahaa
open Go.RowKit
open Go.Maps (Keyed)

/-- How a node's pointer is told: by its block. -/
def nodeD : Option Nat → DataW Unit
  | none => .agg []
  | some g => .lit (.int .i64 (g : Int))
def nodeV : Option Nat → Value
  | none => .pointer none
  | some g => .pointer (some ⟨g, 0, none⟩)
def nodeElem : Value → Option (DataW Unit × List MemPlace)
  | .pointer none => some (.agg [], [])
  | .pointer (some ⟨g, 0, none⟩) => some (.lit (.int .i64 (g : Int)), [])
  | _ => none
theorem nodeElem_mk (p : Option Nat) : nodeElem (nodeV p) = some (nodeD p, []) := by cases p <;> rfl
theorem nodeElem_inv {v : Value} {y : DataW Unit × List MemPlace} (h : nodeElem v = some y) : ∃ p, v = nodeV p ∧ y = (nodeD p, []) := by
  unfold nodeElem at h
  split at h
  · cases h; exact ⟨none, rfl, rfl⟩
  · cases h; rename_i g; exact ⟨some g, rfl, rfl⟩
  · cases h
theorem nodeD_inj {p q : Option Nat} (h : nodeD p = nodeD q) : p = q := by
  cases p <;> cases q <;> simp [nodeD] at h ⊢
  exact Int.ofNat.inj h

theorem bond_key : Keyed Try.prog 3 := Go.Maps.int_keyed Try.underlying3
theorem zero_node (w : World) : (zeroValue 85).run Try.prog w = .ok (.pointer none) w := by kernel_rfl
theorem key_int {id : Int} (h : (Lit.int .i64 id).wf = true) : keyOf Try.prog 3 (.int .i64 id) = some (.int .i64 id) := Go.Maps.keyOf_int_mk Try.underlying3 h
theorem key_lit (id : Int) : WideAt.IsKeyLit (.int .i64 id) := by first | trivial | exact ⟨_, rfl⟩ | simp [WideAt.IsKeyLit]
theorem key_ne {a b : Int} (h : a ≠ b) : (Lit.int .i64 a) ≠ (Lit.int .i64 b) := fun e => h (Lit.int.inj e).2

/-- What the map holds, key by key. -/
def MapIs (D : DataW Unit) (ids : List Int) (blk : Int → Nat) : Prop :=
  ∀ id : Int, Go.Maps.has D (.int .i64 id) = decide (id ∈ ids) ∧ D.atKey (.int .i64 id) (.agg []) = nodeD (if id ∈ ids then some (blk id) else none)
theorem MapIs.put {D : DataW Unit} {ids : List Int} {blk : Int → Nat} (h : MapIs D ids blk) (hD : Go.Maps.IsMap D) (id : Int) (g : Nat) :
    MapIs (D.put (.int .i64 id) (nodeD (some g))) (ids ++ [id]) (fun x => if x = id then g else blk x) := by
  intro x
  by_cases hx : x = id
  · subst hx
    rw [Go.Maps.has_put_same hD (key_lit x), Go.Maps.atKey_put_same hD (key_lit x)]
    simp
  · rw [Go.Maps.has_put_other (key_ne hx), Go.Maps.atKey_put_other (key_ne hx), (h x).1, (h x).2]
    simp [hx]

theorem wf_int {id : Int} (h0 : 0 ≤ id) (h1 : id ≤ 9223372036854775807) : (Lit.int .i64 id).wf = true := WalkArith.wf_i64 (by omega)

/-- Whose block a block is. -/
inductive Role where
  | none | bonds | map | node (i : Int) | row (i : Int)
/-- Who is there, each one's state, and whom each waits for. -/
structure Bs where
  ids : List Int
  st : Int → Int
  on : Int → List Int
structure Bs.ok (s : Bs) : Prop where
  nodup : s.ids.Nodup
  pos : ∀ id ∈ s.ids, 1 ≤ id ∧ id ≤ 9223372036854775807
  state : ∀ id ∈ s.ids, s.st id = 1 ∨ s.st id = 2 ∨ s.st id = 3 ∨ s.st id = 4
  on : ∀ id ∈ s.ids, ∀ x ∈ s.on id, x ∈ s.ids
  short : ∀ id ∈ s.ids, (s.on id).length ≤ s.ids.length
  few : s.ids.length ≤ 2000
  ond : ∀ id ∈ s.ids, (s.on id).Nodup
structure BA (w : World) (b mb : Nat) (blk : Int → Nat) (row : Int → Value) (role : Nat → Role) (D : DataW Unit) (s : Bs) : Prop where
  top : w.heap[b]? = some (.cells #[.map (some mb)] 84 (0, 0))
  map : w.ownsMap Try.prog 3 nodeElem mb s.ids.length D
  is : MapIs D s.ids blk
  size : Go.Maps.size D = s.ids.length
  node : ∀ id ∈ s.ids, w.heap[blk id]? = some (.cells #[.int .i64 (s.st id), row id] 87 (0, 0))
  rows : ∀ id ∈ s.ids, Owned .i64 3 w (row id) (s.on id)
  rb : role b = .bonds
  rm : role mb = .map
  rn : ∀ id ∈ s.ids, role (blk id) = .node id
  rr : ∀ id ∈ s.ids, ∀ g, (row id).ownBlock = some g → role g = .row id
  lt : ∀ g, role g ≠ .none → g < w.heap.size
  good : s.ok

theorem ownsMap_mod {w w1 : World} {F : Nat → Prop} {k : TypeId} {R : Value → Option (DataW Unit × List MemPlace)} {b n : Nat} {D : DataW Unit} (h : w.ownsMap Try.prog k R b n D) (hm : Mod F w w1) (hF : ¬ F b) : w1.ownsMap Try.prog k R b n D := by
  obtain ⟨es, clock, hb, r⟩ := h
  exact ⟨es, clock, hm.keep hb hF, r⟩
section
variable {w w1 : World} {b mb : Nat} {blk : Int → Nat} {row : Int → Value} {role : Nat → Role} {D : DataW Unit} {s : Bs}
theorem BA.mod {G : Nat → Prop} (h : BA w b mb blk row role D s) (hm : Mod G w w1) (hG : ∀ g, role g ≠ .none → ¬ G g) : BA w1 b mb blk row role D s where
  top := hm.keep h.top (hG b (by rw [h.rb]; simp))
  map := ownsMap_mod h.map hm (hG mb (by rw [h.rm]; simp))
  is := h.is
  size := h.size
  node id hi := hm.keep (h.node id hi) (hG _ (by rw [h.rn id hi]; simp))
  rows id hi := (h.rows id hi).mod hm (fun g hg => hG g (by rw [h.rr id hi g hg]; simp))
  rb := h.rb
  rm := h.rm
  rn := h.rn
  rr := h.rr
  lt g hg := Nat.lt_of_lt_of_le (h.lt g hg) hm.size
  good := h.good
theorem BA.below (h : BA w b mb blk row role D s) (hm : Below w.heap.size w w1) : BA w1 b mb blk row role D s := h.mod (Mod.of_below (F := fun _ => False) hm) (fun _ _ h => h)
theorem BA.look (h : BA w b mb blk row role D s) {id : Int} (hw : (Lit.int .i64 id).wf = true) :
    (Instr.lookup 82 (.map (some mb)) (.int .i64 id) false).run Try.prog w = .ok (nodeV (if id ∈ s.ids then some (blk id) else none)) w := by
  obtain ⟨v, ps, hr, hv⟩ := h.map.lookup bond_key Try.underlying82 (zero_node w) (nodeElem_mk none) (key_int hw)
  obtain ⟨p, rfl, hp⟩ := nodeElem_inv hv
  have h1 : D.atKey (.int .i64 id) (.agg []) = nodeD p := (Prod.mk.inj hp).1
  rw [(h.is id).2] at h1
  rw [nodeD_inj h1]
  exact hr
theorem BA.look_in (h : BA w b mb blk row role D s) {id : Int} (hi : id ∈ s.ids) :
    (Instr.lookup 82 (.map (some mb)) (.int .i64 id) false).run Try.prog w = .ok (.pointer (some ⟨blk id, 0, none⟩)) w := by
  have hp := h.good.pos id hi
  have := h.look (id := id) (wf_int (by omega) hp.2)
  rwa [if_pos hi] at this
theorem BA.look_out (h : BA w b mb blk row role D s) {id : Int} (hi : id ∉ s.ids) (hw : (Lit.int .i64 id).wf = true) :
    (Instr.lookup 82 (.map (some mb)) (.int .i64 id) false).run Try.prog w = .ok (.pointer none) w := by
  have := h.look (id := id) hw
  rwa [if_neg hi] at this
theorem BA.top0 (h : BA w b mb blk row role D s) : w.cell? ⟨b, 0, none⟩ = some (.map (some mb)) := by rw [blk_cell h.top]; simp
theorem BA.node0 (h : BA w b mb blk row role D s) {id : Int} (hi : id ∈ s.ids) : w.cell? ⟨blk id, 0, none⟩ = some (.int .i64 (s.st id)) := by rw [blk_cell (h.node id hi)]; simp
theorem BA.node1 (h : BA w b mb blk row role D s) {id : Int} (hi : id ∈ s.ids) : w.cell? ⟨blk id, 1, none⟩ = some (row id) := by rw [blk_cell (h.node id hi)]; simp
end
/-- Bonds, and the blocks that are theirs. -/
def BondsAt (w : World) (b : Nat) (F : Nat → Prop) (s : Bs) : Prop := ∃ mb blk row role D, (∀ g, F g ↔ role g ≠ Role.none) ∧ BA w b mb blk row role D s
theorem BondsAt.within {w : World} {b : Nat} {F : Nat → Prop} {s : Bs} (h : BondsAt w b F s) : Within w F := by
  obtain ⟨mb, blk, row, role, D, hF, h⟩ := h
  exact fun g hg => h.lt g ((hF g).1 hg)
theorem BondsAt.mod {w w1 : World} {b : Nat} {F G : Nat → Prop} {s : Bs} (h : BondsAt w b F s) (hm : Mod G w w1) (ha : Apart F G) : BondsAt w1 b F s := by
  obtain ⟨mb, blk, row, role, D, hF, h⟩ := h
  exact ⟨mb, blk, row, role, D, hF, h.mod hm (fun g hg => ha g ((hF g).2 hg))⟩
theorem BondsAt.below {w w1 : World} {b : Nat} {F : Nat → Prop} {s : Bs} (h : BondsAt w b F s) (hm : Below w.heap.size w w1) : BondsAt w1 b F s := h.mod (Mod.of_below (F := fun _ => False) hm) (fun _ _ h => h)
theorem BondsAt.good {w : World} {b : Nat} {F : Nat → Prop} {s : Bs} (h : BondsAt w b F s) : s.ok := by
  obtain ⟨mb, blk, row, role, D, hF, h⟩ := h
  exact h.good
def obBonds (b : Nat) (F : Nat → Prop) (s : Bs) : Ob := ⟨F, fun w => BondsAt w b F s, fun _ h => h.within, fun _ _ _ h hm ha => h.mod hm ha⟩

set_option maxHeartbeats 400000 in
/-- open: whether one is not over. -/
theorem bopen_any {w : World} {g : Nat} {st : Int} (hc : w.cell? ⟨g, 0, none⟩ = some (.int .i64 st)) :
    Calls Try.prog 47 #[.pointer (some ⟨g, 0, none⟩)] w fun e w' => e = .returned (.bool (decide (st = 1 ∨ st = 2))) ∧ w = w' := by
  by_cases h1 : st = 1
  · subst h1
    go_enter Try.func47, Try.ntmps47
    go_wp2
    go_ret
    exact ⟨rfl, rfl⟩
  · have hb : (st == 1) = false := by simpa using h1
    by_cases h2 : st = 2
    · subst h2
      go_enter Try.func47, Try.ntmps47
      go_wp2
      go_ret
      exact ⟨rfl, rfl⟩
    · have hb2 : (st == 2) = false := by simpa using h2
      rw [decide_eq_false (by omega)]
      clear h1 h2
      go_enter Try.func47, Try.ntmps47
      go_wp2
      go_ret
      exact ⟨rfl, rfl⟩

/-- What one's state is told to be. -/
def Bs.stOf (s : Bs) (id : Int) : Int := if id ∈ s.ids then s.st id else 0
set_option maxHeartbeats 400000 in
theorem bstate_any {w : World} {b : Nat} {F : Nat → Prop} {s : Bs} (h : BondsAt w b F s) {id : Int} (hw : (Lit.int .i64 id).wf = true) :
    Calls Try.prog 24 #[.pointer (some ⟨b, 0, none⟩), .int .i64 id] w fun e w' => e = .returned (.int .i64 (s.stOf id)) ∧ w = w' := by
  obtain ⟨mb, blk, row, role, D, hF, h⟩ := h
  have c0 := h.top0
  unfold Bs.stOf
  by_cases hi : id ∈ s.ids
  · have hl := h.look_in hi
    have c1 := h.node0 hi
    rw [if_pos hi]
    clear h hF hi
    go_enter Try.func24, Try.ntmps24
    go_wp2
    go_ret
    exact ⟨rfl, rfl⟩
  · have hl := h.look_out hi hw
    rw [if_neg hi]
    clear h hF hi
    go_enter Try.func24, Try.ntmps24
    go_wp2
    go_ret
    exact ⟨rfl, rfl⟩
end Go.Proofs.Ytbihfjehlbaahaa
