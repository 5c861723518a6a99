/- Bonds to lesser ones, drawn by two rows; arrays of bools. -/
import Derived.Test.YtbihfjehlbaahaaJH
namespace Go.Proofs.Ytbihfjehlbaahaa
open Go.RowKit

def boolCells (B : List Bool) : Array Value := (B.map Value.bool).toArray
theorem bc_at {B : List Bool} {i : Nat} (h : i < B.length) : (boolCells B)[i]? = some (.bool (B.getD i false)) := by
  simp [boolCells, List.getD_eq_getElem?_getD, h]
theorem bc_set (B : List Bool) (i : Nat) (v : Bool) : (boolCells B).setIfInBounds i (.bool v) = boolCells (B.set i v) := by
  simp [boolCells, List.map_set]
/-- An array of bools. -/
def obBools (g : Nat) (B : List Bool) (T : TypeId) : Ob := ⟨fun k => k = g, fun w => w.heap[g]? = some (.cells (boolCells B) T (0, 0)), fun w h k hk => by rw [hk]; exact blk_lt h, fun w w' G h hm ha => hm.keep h (ha g rfl)⟩
theorem bools_new (n : Nat) : (List.replicate n (Value.bool false)).toArray = boolCells (List.replicate n false) := by simp [boolCells]
theorem getD_set {B : List Bool} {i j : Nat} (h : i < B.length) (v : Bool) : (B.set i v).getD j false = if j = i then v else B.getD j false := by
  by_cases e : j = i
  · subst e
    simp [List.getD_eq_getElem?_getD, h]
  · rw [if_neg e]
    simp [List.getD_eq_getElem?_getD, List.getElem?_set_ne (fun h => e h.symm)]
section
variable {w0 w : World} {g : Nat} {B : List Bool} {T : TypeId} {L : List Ob}
theorem Sep.bools (h : Sep w0 w L) (n : Nat) (T : TypeId) : Sep w0 (w.alloc (.cells (boolCells (List.replicate n false)) T)) (obBools w.heap.size (List.replicate n false) T :: L) :=
  h.new (A := obBools w.heap.size (List.replicate n false) T) ((Below.refl _ _).alloc (Nat.le_refl _) _) (blk_new _ _) (fun _ hk => Nat.le_of_eq hk.symm)
theorem Sep.bools_set (h : Sep w0 w (obBools g B T :: L)) (i : Nat) (v : Bool) : Sep w0 (w.setCell ⟨g, i, none⟩ (.bool v)) (obBools g (B.set i v) T :: L) := by
  refine h.step (A' := obBools g (B.set i v) T) ?_ (Mod.setCell (F := fun k => k = g) (Mod.refl _ w) (p := ⟨g, i, none⟩) (.inl rfl) _) (Grows.refl _ _)
  show (w.setCell ⟨g, i, none⟩ (.bool v)).heap[g]? = _
  rw [blk_set h.head, bc_set]
theorem Sep.bools_at (h : Sep w0 w (obBools g B T :: L)) {i : Nat} (hi : i < B.length) : w.cell? ⟨g, i, none⟩ = some (.bool (B.getD i false)) := by
  rw [blk_cell h.head, bc_at hi]
end
/-- Of n that are all open each is bound to lesser ones alone; the matrix tells to whom. -/
structure Need (s : Bs) (n : Nat) (N : List Bool) : Prop where
  ids : s.ids = upto n
  st : ∀ x : Int, 1 ≤ x → x ≤ n → s.st x = 1
  less : ∀ x : Int, 1 ≤ x → x ≤ n → ∀ y ∈ s.on x, 1 ≤ y ∧ y < x
  len : N.length = 1024
  tells : ∀ x y : Nat, 1 ≤ x → x ≤ n → 1 ≤ y → y ≤ n → (N.getD (x * 32 + y) false = true ↔ (y : Int) ∈ s.on x)
theorem Need.sts {s : Bs} {n : Nat} {N : List Bool} (h : Need s n N) : Sts s n (fun _ => 1) s.on := ⟨h.ids, h.st, fun _ _ _ => rfl⟩
theorem Need.lesser {s : Bs} {n : Nat} {N : List Bool} (h : Need s n N) : ∀ x ∈ s.ids, ∀ y ∈ s.on x, y < x ∧ y ∈ s.ids := h.sts.less h.less
theorem need_new {s : Bs} {n : Nat} (h : Sts s n (fun _ => 1) (fun _ => [])) : Need s n (List.replicate 1024 false) where
  ids := h.ids
  st x h1 h2 := h.st x h1 h2
  less x h1 h2 y hy := by rw [h.on x h1 h2] at hy; simp at hy
  len := List.length_replicate
  tells x y h1 h2 _ _ := by
    rw [h.on x (by omega) (by omega)]
    have : (List.replicate 1024 false).getD (x * 32 + y) false = false := by
      rw [List.getD_eq_getElem?_getD, List.getElem?_replicate]; split <;> rfl
    rw [this]
    simp
theorem need_bind {s s' : Bs} {n : Nat} {N : List Bool} (h : Need s n N) (hn : n ≤ 30) {x y : Nat} (hy : 1 ≤ y) (hyx : y < x) (hx : x ≤ n) {c : Int} (hb : BindTo s x y c s') : c = 0 ∧ Need s' n (N.set (x * 32 + y) true) := by
  have hmx := h.sts.mem (x := (x : Int)) (by omega) (by omega)
  have hmy := h.sts.mem (x := (y : Int)) (by omega) (by omega)
  have hsx := h.st x (by omega) (by omega)
  have hsy := h.st y (by omega) (by omega)
  have hsetN : ∀ u v : Nat, u ≤ n → v ≤ n → ((N.set (x * 32 + y) true).getD (u * 32 + v) false = true ↔ (u = x ∧ v = y) ∨ N.getD (u * 32 + v) false = true) := fun u v hu hv => by
    rw [getD_set (by rw [h.len]; omega)]
    by_cases e : u * 32 + v = x * 32 + y
    · rw [if_pos e]
      exact ⟨fun _ => .inl (by omega), fun _ => rfl⟩
    · rw [if_neg e]
      refine ⟨.inr, fun h => h.resolve_left (fun g => e (by rw [g.1, g.2]))⟩
  by_cases hin : (y : Int) ∈ s.on x
  · obtain ⟨rfl, rfl⟩ := hb.had_of hmx hmy (by omega) (.inl hsx) (.inr hin)
    refine ⟨rfl, h.ids, h.st, h.less, by rw [List.length_set, h.len], fun u v h1 h2 h3 h4 => ?_⟩
    rw [hsetN u v h2 h4, h.tells u v h1 h2 h3 h4]
    refine ⟨fun g => ?_, .inr⟩
    rcases g with ⟨rfl, rfl⟩ | g
    · exact hin
    · exact g
  · obtain ⟨rfl, rfl⟩ := hb.put_of hmx hmy (by omega) hsx hin hsy (fun hr => by have := reach_less h.lesser hmy hr; omega)
    have hon : ∀ u : Nat, (s.bound x y).on u = if u = x then s.on u ++ [(y : Int)] else s.on u := fun u => by
      simp only [Bs.bound]
      by_cases e : u = x
      · rw [if_pos (by omega), if_pos e]
      · rw [if_neg (by omega), if_neg e]
    refine ⟨rfl, h.ids, h.st, fun u h1 h2 v hv => ?_, by rw [List.length_set, h.len], fun u v h1 h2 h3 h4 => ?_⟩
    · simp only [Bs.bound] at hv
      by_cases e : u = x
      · rw [if_pos e] at hv
        rcases List.mem_append.1 hv with hv | hv
        · exact h.less u h1 h2 v hv
        · simp only [List.mem_singleton] at hv
          omega
      · rw [if_neg e] at hv
        exact h.less u h1 h2 v hv
    · rw [hsetN u v h2 h4, h.tells u v h1 h2 h3 h4, hon]
      by_cases e : u = x
      · rw [if_pos e, List.mem_append, List.mem_singleton]
        subst e
        constructor
        · rintro (⟨-, rfl⟩ | g)
          · exact .inr rfl
          · exact .inl g
        · rintro (g | g)
          · exact .inr g
          · exact .inl ⟨rfl, by omega⟩
      · rw [if_neg e]
        refine ⟨fun g => g.resolve_left (fun h => e h.1), .inr⟩
theorem doom_iff {s : Bs} {a y : Int} : Doom s a y ↔ y = a ∨ (y ∈ s.ids ∧ s.st y = 1 ∧ ∃ x ∈ s.on y, Doom s a x) := by
  constructor
  · intro h
    cases h with
    | self => exact .inl rfl
    | step h hi h1 ho => exact .inr ⟨hi, h1, _, ho, h⟩
  · rintro (rfl | ⟨hi, h1, x, ho, h⟩)
    · exact .self
    · exact .step h hi h1 ho
theorem open_next {s : Bs} {k : Nat} (h : Sts s (k + 1) (fun x => if x = (k : Int) + 1 then 1 else 1) (fun x => if x = (k : Int) + 1 then [] else [])) : Sts s (k + 1) (fun _ => 1) (fun _ => []) :=
  h.congr (fun x _ _ => by simp) (fun x _ _ => by simp)
theorem alloc_need (w : World) : (Instr.alloc 35 true (.tuple #[])).run Try.prog w = .ok (.pointer (some ⟨w.heap.size, 0, none⟩)) (w.alloc (.cells (boolCells (List.replicate 1024 false)) 35)) := by
  have : ∀ w, (Instr.alloc 35 true (.tuple #[])).run Try.prog w = .ok (.pointer (some ⟨w.heap.size, 0, none⟩)) (w.alloc (.cells (List.replicate 1024 (Value.bool false)).toArray 35)) := fun w => by kernel_rfl
  rw [this, bools_new]
theorem alloc_hit (w : World) : (Instr.alloc 34 true (.tuple #[])).run Try.prog w = .ok (.pointer (some ⟨w.heap.size, 0, none⟩)) (w.alloc (.cells (boolCells (List.replicate 32 false)) 34)) := by
  have : ∀ w, (Instr.alloc 34 true (.tuple #[])).run Try.prog w = .ok (.pointer (some ⟨w.heap.size, 0, none⟩)) (w.alloc (.cells (List.replicate 32 (Value.bool false)).toArray 34)) := fun w => by kernel_rfl
  rw [this, bools_new]

/-- What the array of those hit holds, ahead of i. -/
structure Hit (s : Bs) (n : Nat) (a : Int) (i : Nat) (H : List Bool) : Prop where
  len : H.length = 32
  done : ∀ y : Nat, 1 ≤ y → y < i → y ≤ n → (H.getD y false = true ↔ Doom s a y)
  rest : ∀ y : Nat, i ≤ y → H.getD y false = false
/-- .. and of i itself, k's bonds looked at. -/
structure HitK (s : Bs) (n : Nat) (a : Int) (i k : Nat) (H : List Bool) : Prop where
  len : H.length = 32
  done : ∀ y : Nat, 1 ≤ y → y < i → y ≤ n → (H.getD y false = true ↔ Doom s a y)
  here : H.getD i false = true ↔ ∃ x : Nat, 1 ≤ x ∧ x < k ∧ (x : Int) ∈ s.on i ∧ Doom s a x
  rest : ∀ y : Nat, i < y → H.getD y false = false
theorem Hit.start {s : Bs} {n : Nat} {N : List Bool} (hN : Need s n N) (hn : n ≤ 30) {a : Nat} (_h1 : 1 ≤ a) (h2 : a ≤ n) : Hit s n a (a + 1) ((List.replicate 32 false).set a true) where
  len := by simp
  done y g1 g2 g3 := by
    rw [getD_set (by simp; omega)]
    by_cases e : y = a
    · rw [if_pos e, e]
      exact ⟨fun _ => .self, fun _ => rfl⟩
    · rw [if_neg e]
      refine ⟨fun h => ?_, fun h => ?_⟩
      · rw [List.getD_eq_getElem?_getD, List.getElem?_replicate] at h
        split at h <;> simp at h
      · have := doom_above (fun x hx z hz => (hN.lesser x hx z hz).1) h
        omega
  rest y g := by
    rw [getD_set (by simp; omega), if_neg (by omega), List.getD_eq_getElem?_getD, List.getElem?_replicate]
    split <;> rfl
theorem Hit.enter {s : Bs} {n : Nat} {a : Int} {i : Nat} {H : List Bool} (h : Hit s n a i H) : HitK s n a i 1 H where
  len := h.len
  done := h.done
  here := by
    rw [h.rest i (Nat.le_refl _)]
    exact ⟨fun h => by simp at h, fun ⟨x, h1, h2, _⟩ => by omega⟩
  rest y g := h.rest y (by omega)
theorem HitK.step {s : Bs} {n : Nat} {a : Int} {i k : Nat} {H N : List Bool} (h : HitK s n a i k H) (hN : Need s n N) (hn : n ≤ 30) (hi : i ≤ n) (hk : 1 ≤ k) (hki : k < i) :
    HitK s n a i (k + 1) (H.set i (H.getD i false || (N.getD (i * 32 + k) false && H.getD k false))) where
  len := by rw [List.length_set, h.len]
  done y g1 g2 g3 := by
    rw [getD_set (by rw [h.len]; omega), if_neg (by omega)]
    exact h.done y g1 g2 g3
  here := by
    rw [getD_set (by rw [h.len]; omega), if_pos rfl, Bool.or_eq_true, Bool.and_eq_true, h.here, hN.tells i k (by omega) hi hk (by omega), h.done k hk hki (by omega)]
    constructor
    · rintro (⟨x, h1, h2, h3⟩ | ⟨h1, h2⟩)
      · exact ⟨x, h1, by omega, h3⟩
      · exact ⟨k, hk, by omega, h1, h2⟩
    · rintro ⟨x, h1, h2, h3, h4⟩
      by_cases e : x = k
      · subst e
        exact .inr ⟨h3, h4⟩
      · exact .inl ⟨x, h1, by omega, h3, h4⟩
  rest y g := by
    rw [getD_set (by rw [h.len]; omega), if_neg (by omega)]
    exact h.rest y g
theorem HitK.leave {s : Bs} {n : Nat} {a : Int} {i : Nat} {H N : List Bool} (h : HitK s n a i i H) (hN : Need s n N) (hi : i ≤ n) (h1 : 1 ≤ i) (hia : (i : Int) ≠ a) : Hit s n a (i + 1) H where
  len := h.len
  done y g1 g2 g3 := by
    by_cases e : y = i
    · subst e
      rw [h.here, doom_iff]
      constructor
      · rintro ⟨x, _, _, h3, h4⟩
        exact .inr ⟨hN.sts.mem (by omega) (by omega), hN.st _ (by omega) (by omega), x, h3, h4⟩
      · rintro (e | ⟨_, _, x, h3, h4⟩)
        · exact absurd e hia
        · have := hN.less y (by omega) (by omega) x h3
          exact ⟨x.toNat, by omega, by omega, by rwa [show ((x.toNat : Nat) : Int) = x by omega], by rwa [show ((x.toNat : Nat) : Int) = x by omega]⟩
    · exact h.done y g1 (by omega) g3
  rest y g := h.rest y (by omega)
/-- Those hit ahead of i, but the one. -/
def Wanted (s : Bs) (a : Int) (i : Nat) (W : List Int) : Prop := Rise W (fun y => Doom s a y ∧ a < y ∧ y < i)
theorem Wanted.no {s : Bs} {a : Int} {i : Nat} {W : List Int} (h : Wanted s a i W) (hn : ¬ Doom s a i) : Wanted s a (i + 1) W := ⟨h.1, fun y => by
  rw [h.2 y]
  refine ⟨fun g => ⟨g.1, g.2.1, by omega⟩, fun g => ⟨g.1, g.2.1, ?_⟩⟩
  by_cases e : y = i
  · exact absurd (e ▸ g.1) hn
  · omega⟩
theorem Wanted.yes {s : Bs} {a : Int} {i : Nat} {W : List Int} (h : Wanted s a i W) (hd : Doom s a i) (ha : a < i) : Wanted s a (i + 1) (W ++ [(i : Int)]) := by
  refine ⟨List.pairwise_append.2 ⟨h.1, by simp, fun x hx y hy => ?_⟩, fun y => ?_⟩
  · simp only [List.mem_singleton] at hy
    have := (h.2 x).1 hx
    omega
  · rw [List.mem_append, List.mem_singleton, h.2 y]
    constructor
    · rintro (g | rfl)
      · exact ⟨g.1, g.2.1, by omega⟩
      · exact ⟨hd, ha, by omega⟩
    · rintro ⟨g1, g2, g3⟩
      by_cases e : y = i
      · exact .inr e
      · exact .inl ⟨g1, g2, by omega⟩
end Go.Proofs.Ytbihfjehlbaahaa
