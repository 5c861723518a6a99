/- RecPlays: rows of versions in memory. -/
import Derived.Test.YtjojbfgppgnmjaaV1
import Derived.Test.YtjojbfgppgnmjaaU4
namespace Go.Proofs.Ytjojbfgppgnmjaa
open Go.RowKit

def Ver.cells (v : Ver) : List Value := [.int .i64 v.key, .int .i64 v.val, .int .u64 v.beg, .int .u64 v.en, .int .u64 v.nx]
def verCells (l : List Ver) : List Value := l.flatMap Ver.cells
theorem verCells_length (l : List Ver) : (verCells l).length = l.length * 5 := by
  induction l with
  | nil => rfl
  | cons a l ih => simp [verCells, Ver.cells] at ih ⊢; omega
theorem verCells_app (l m : List Ver) : verCells (l ++ m) = verCells l ++ verCells m := by simp [verCells]
theorem verCells_one (v : Ver) : verCells [v] = v.cells := by simp [verCells]
theorem verCells_at (l : List Ver) (i q : Nat) (h : i < l.length) (hq : q < 5) : (verCells l)[i * 5 + q]? = (l.getD i ver0).cells[q]? := by
  induction l generalizing i with
  | nil => simp at h
  | cons a l ih =>
    match i with
    | 0 =>
      rw [show verCells (a :: l) = a.cells ++ verCells l from rfl, List.getElem?_append_left (by simp [Ver.cells]; omega)]
      simp
    | i + 1 =>
      rw [show verCells (a :: l) = a.cells ++ verCells l from rfl, List.getElem?_append_right (by simp [Ver.cells]; omega)]
      have := ih i (by simpa using h)
      rw [show (i + 1) * 5 + q - a.cells.length = i * 5 + q by simp [Ver.cells]; omega, this]
      rfl
theorem info_ver : (Try.prog.info? 34).map (fun i => (i.zero, i.size, i.bytes)) = some (some (.agg #[.int .i64 0, .int .i64 0, .int .u64 0, .int .u64 0, .int .u64 0]), 5, 40) := by kernel_rfl
def OwnedV (w : World) (v : Value) (l : List Ver) : Prop := w.ownsRow 0 34 5 v l.length (verCells l)
theorem OwnedV.nil (w : World) : OwnedV w (.slice none 0 0) [] := World.ownsRow_nil _ _ _ _
/-- A row of versions that is read alone. -/
def VersAt (w : World) (v : Value) (l : List Ver) : Prop := ∃ a cap, v = .slice a l.length cap ∧ ((a = none ∧ l = []) ∨ ∃ g cur, a = some ⟨g, 0, none⟩ ∧ w.heap[g]? = some (.cells cur 34 (0, 0)) ∧ ∀ i q, i < l.length → q < 5 → cur[i * 5 + q]? = (l.getD i ver0).cells[q]?)
theorem OwnedV.at_ {w : World} {v : Value} {l : List Ver} (h : OwnedV w v l) : VersAt w v l := by
  rcases h.2 with ⟨hv, hn⟩ | ⟨g, cap, cur, hv, hg, hh, hnc, hcm, hcs, htk⟩
  · exact ⟨none, 0, by rw [hv, hn], .inl ⟨rfl, List.length_eq_zero_iff.1 hn⟩⟩
  · refine ⟨_, cap, hv, .inr ⟨g, cur, rfl, hh, fun i q hi hq => ?_⟩⟩
    have h1 : (cur.toList.take (l.length * 5))[i * 5 + q]? = (verCells l)[i * 5 + q]? := by rw [htk]
    rw [List.getElem?_take_of_lt (by omega), verCells_at l i q hi hq] at h1
    simpa using h1
theorem OwnedV.form {w : World} {v : Value} {l : List Ver} (h : OwnedV w v l) : ∃ a cap, v = .slice a l.length cap ∧ l.length ≤ cap ∧ (a = none → l.length = 0 ∧ cap = 0) ∧ (∀ g, a = some g → g = ⟨g.block, 0, none⟩ ∧ cap ≤ maxLen) := by
  rcases h.2 with ⟨hv, hn⟩ | ⟨g, cap, cur, hv, hg, hh, hnc, hcm, r⟩
  · exact ⟨none, 0, by rw [hv, hn], by omega, fun _ => ⟨hn, rfl⟩, fun g h => by cases h⟩
  · exact ⟨_, cap, hv, hnc, fun h => (by cases h), fun g' h => by cases h; exact ⟨rfl, hcm⟩⟩
theorem VersAt.recap {w : World} {a : Option Addr} {n cap : Nat} {l : List Ver} (h : VersAt w (.slice a n cap) l) (c : Nat) : VersAt w (.slice a n c) l := by
  obtain ⟨a', cap', hv, h⟩ := h
  simp only [Value.slice.injEq] at hv
  obtain ⟨rfl, rfl, rfl⟩ := hv
  exact ⟨a, c, rfl, h⟩
theorem VersAt.cell {w : World} {g n cap : Nat} {l : List Ver} (h : VersAt w (.slice (some ⟨g, 0, none⟩) n cap) l) {i q : Nat} (hi : i < l.length) (hq : q < 5) : w.cell? ⟨g, i * 5 + q, none⟩ = (l.getD i ver0).cells[q]? := by
  obtain ⟨a', cap', hv, ⟨rfl, _⟩ | ⟨g', cur, rfl, hh, hc⟩⟩ := h
  · cases hv
  · simp only [Value.slice.injEq, Option.some.injEq, Addr.mk.injEq] at hv
    obtain ⟨⟨rfl, _⟩, rfl, rfl⟩ := hv
    rw [blk_cell hh, hc i q hi hq]
def obVers (v : Value) (l : List Ver) : Ob := ⟨fun g => v.ownBlock = some g, fun w => OwnedV w v l, fun _ h g hg => (World.ownsRow.lt h g hg).2, fun _ _ _ h hm ha => ownsRow_mod h hm (fun g hg => ha g hg)⟩
def obVerR (v : Value) (l : List Ver) : Ob := ⟨fun g => v.ownBlock = some g, fun w => VersAt w v l, fun w h g hg => by
    obtain ⟨a, cap, rfl, ⟨rfl, _⟩ | ⟨g', cur, rfl, hh, _⟩⟩ := h
    · simp [Value.ownBlock] at hg
    · have : g' = g := Option.some.inj hg
      subst this
      exact blk_lt hh, fun w w' G h hm ha => by
    obtain ⟨a, cap, rfl, h | ⟨g', cur, rfl, hh, hc⟩⟩ := h
    · exact ⟨a, cap, rfl, .inl h⟩
    · exact ⟨_, cap, rfl, .inr ⟨g', cur, rfl, hm.keep hh (ha g' rfl), hc⟩⟩⟩
theorem Sep.appendV {w0 w X w' : World} {L : List Ob} {v v' : Value} {l : List Ver} {y : Ver} {n : Nat} {zs : List Value} (h : Sep w0 w (obVers v l :: L)) (hX : Mod (fun _ => False) w X)
    (hA : Appended X w' 0 34 5 v v' n zs) (hn : n = l.length + 1) (hz : zs = verCells l ++ y.cells) : Sep w0 w' (obVers v' (l ++ [y]) :: L) := by
  subst hn hz
  refine h.step (A' := obVers v' (l ++ [y])) ?_ ((hX.mono (fun _ h => h.elim)).trans (hA.mod (fun k hk => hk))) ?_
  · have h1 := hA.own
    show World.ownsRow _ _ _ _ _ (l ++ [y]).length (verCells (l ++ [y]))
    rw [verCells_app, verCells_one, List.length_append]
    exact h1
  · intro g hg
    rcases hA.lies with e | e
    · have e2 : v'.ownBlock = some g := hg
      rw [e] at e2
      exact .inl e2
    · refine .inr ?_
      have e2 : v'.ownBlock = some g := hg
      rw [e] at e2
      have := Option.some.inj e2
      have := hX.size
      omega
theorem ver_one (v : Ver) : ∀ y ∈ v.cells, y.oneCell' = true := by
  intro y hy
  simp [Ver.cells] at hy
  rcases hy with rfl | rfl | rfl | rfl | rfl <;> rfl
theorem SrcAt.ver {w : World} {g : Nat} {x : Ver} {E : TypeId} (h : w.heap[g]? = some (.cells x.cells.toArray E (0, 0))) : SrcAt w (.slice (some ⟨g, 0, none⟩) 1 1) 1 5 x.cells := by
  refine .inr ⟨g, 0, 1, rfl, rfl, fun j y hj => ?_⟩
  rw [blk_cell h]
  simpa using hj
/-- One of its fields turned. -/
def Ver.put (v : Ver) (q : Nat) (x : Int) : Ver := match q with
  | 0 => { v with key := x }
  | 1 => { v with val := x }
  | 2 => { v with beg := x }
  | 3 => { v with en := x }
  | _ => { v with nx := x }
def Ver.kind (q : Nat) : IntKind := if q < 2 then .i64 else .u64
theorem Ver.put_cells (v : Ver) {q : Nat} (hq : q < 5) (x : Int) : (v.put q x).cells = v.cells.set q (.int (Ver.kind q) x) := by
  match q, hq with
  | 0, _ => rfl
  | 1, _ => rfl
  | 2, _ => rfl
  | 3, _ => rfl
  | 4, _ => rfl
theorem verCells_set (l : List Ver) (i : Nat) (hi : i < l.length) (q : Nat) (hq : q < 5) (x : Int) : (verCells l).set (i * 5 + q) (.int (Ver.kind q) x) = verCells (l.set i ((l.getD i ver0).put q x)) := by
  induction l generalizing i with
  | nil => simp at hi
  | cons a l ih =>
    have hl : a.cells.length = 5 := rfl
    match i with
    | 0 =>
      rw [show verCells (a :: l) = a.cells ++ verCells l from rfl, List.set_append_left _ _ (by simp [Ver.cells]; omega)]
      simp only [Nat.zero_mul, Nat.zero_add, List.getD_cons_zero, List.set_cons_zero]
      rw [← Ver.put_cells a hq x]
      rfl
    | i + 1 =>
      rw [show verCells (a :: l) = a.cells ++ verCells l from rfl, List.set_append_right _ _ (by simp [Ver.cells]; omega)]
      have := ih i (by simpa using hi)
      rw [show (i + 1) * 5 + q - a.cells.length = i * 5 + q by rw [hl]; omega, this]
      rfl
theorem ownedV_set {w : World} {g n cap i q : Nat} {l : List Ver} (h : OwnedV w (.slice (some ⟨g, 0, none⟩) n cap) l) (hi : i < l.length) (hq : q < 5) (x : Int) : OwnedV (w.setCell ⟨g, i * 5 + q, none⟩ (.int (Ver.kind q) x)) (.slice (some ⟨g, 0, none⟩) n cap) (l.set i ((l.getD i ver0).put q x)) := by
  rcases h.2 with ⟨hv, _⟩ | ⟨g', cap', cur, hv, hg, hh, h1, h2, h3, h4⟩
  · cases hv
  · simp only [Value.slice.injEq, Option.some.injEq, Addr.mk.injEq, and_true] at hv
    obtain ⟨rfl, rfl, rfl⟩ := hv
    refine ⟨by rw [verCells_length], .inr ⟨g, cap, cur.setIfInBounds (i * 5 + q) (.int (Ver.kind q) x), by simp, hg, blk_set hh, by simpa using h1, h2, by simpa using h3, ?_⟩⟩
    simp only [List.length_set, Array.toList_setIfInBounds, List.take_set, h4, verCells_set l i hi q hq x]
end Go.Proofs.Ytjojbfgppgnmjaa
