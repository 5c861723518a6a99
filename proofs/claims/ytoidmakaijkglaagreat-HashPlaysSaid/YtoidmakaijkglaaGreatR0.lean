/- Rows that the call itself makes by append, with the place where they lie. -/
import Derived.Test.YtoidmakaijkglaaGreatP1
import Derived.Maps.AppendAt
namespace Go.Proofs.YtoidmakaijkglaaGreat
open Go.RowKit

theorem info_u64 : (Tryz.prog.info? 32).map (fun i => (i.zero, i.size, i.bytes)) = some (some (.int .u64 0), 1, 8) := by kernel_rfl
theorem info_int : (Tryz.prog.info? 3).map (fun i => (i.zero, i.size, i.bytes)) = some (some (.int .i64 0), 1, 8) := by kernel_rfl

theorem blk_drewN {w : World} {g : Nat} {o : Obj} (h : w.heap[g]? = some o) (n : Nat) : (w.drewN n).heap[g]? = some o := h
theorem blk_drew {w : World} {g : Nat} {o : Obj} (h : w.heap[g]? = some o) : w.drew.heap[g]? = some o := h
theorem blk_at {w : World} {o : Obj} {g : Nat} (h : g = w.heap.size) : (w.alloc o).heap[g]? = some o := by
  subst h
  exact blk_new w o
theorem size_set (w : World) (p : Addr) (v : Value) : (w.setCell p v).heap.size = w.heap.size := by simp [World.setCell]

/-- What is appended: a slice that lies in memory, or one of no elements. -/
def SrcAt (w : World) (u : Value) (m size : Nat) (ys : List Value) : Prop := (m = 0 ∧ ys = [] ∧ ∃ a cap, u = .slice a 0 cap ∧ (a = none → cap = 0)) ∨
  ∃ b off cap, u = .slice (some ⟨b, off, none⟩) m cap ∧ ys.length = m * size ∧ ∀ j y, ys[j]? = some y → w.cell? ⟨b, off + j, none⟩ = some y

/-- What an append leaves. -/
structure Appended (w w' : World) (base : Nat) (E : TypeId) (size : Nat) (v v' : Value) (n : Nat) (xs : List Value) : Prop where
  own : w'.ownsRow base E size v' n xs
  grown : w.grownBy w' v.ownBlock
  lies : v'.ownBlock = v.ownBlock ∨ v'.ownBlock = some w.heap.size

theorem run_append_cells {T E : TypeId} {zero : Value} {size bytes : Nat} (ht : Tryz.prog.underlying T = some (.slice E))
    (hinfo : (Tryz.prog.info? E).map (fun i => (i.zero, i.size, i.bytes)) = some (some zero, size, bytes)) (hzs : zero.cells.size = size) (hsz : 0 < size) (hby : bytes ≤ 64) (ty : TypeId)
    {base : Nat} {w : World} {v u : Value} {n m : Nat} {xs ys : List Value} (hown : w.ownsRow base E size v n xs) (hsrc : SrcAt w u m size ys) (h1 : ∀ y ∈ ys, y.oneCell' = true)
    (hlen : n + m ≤ 1099511627776) (hb : base ≤ w.heap.size) :
    ∃ v' w', (Builtin.append_ #[T, T] ty #[v, u]).run Tryz.prog w = .ok v' w' ∧ Appended w w' base E size v v' (n + m) (xs ++ ys) := by
  obtain ⟨i0, hi, hz0, hz1, hz2⟩ := info_parts hinfo
  have hmul : (n + m) * bytes ≤ 140737488355328 := by
    have : (n + m) * bytes ≤ (n + m) * 64 := Nat.mul_le_mul_left _ hby
    omega
  have fin : ∀ ad cap (hu : u = .slice (some ad) m cap) (hl : ys.length = m * size) (hc : ∀ j y, ys[j]? = some y → w.cell? (ad.add j) = some y), ∃ v' w', (Builtin.append_ #[T, T] ty #[v, u]).run Tryz.prog w = .ok v' w' ∧ Appended w w' base E size v v' (n + m) (xs ++ ys) := by
    intro ad cap hu hl hc
    subst hu
    obtain ⟨v', w', hr, h2, h3, _, h5⟩ := run_append_own_at (P := Tryz.prog) w base T ty E i0 zero size bytes ht hi hz0 hz1 hz2 hzs hsz v n xs hown ad m cap ys hl hc h1 (by unfold maxLen; omega) hmul hb
    exact ⟨v', w', hr, h2, h3, h5⟩
  rcases hsrc with ⟨rfl, rfl, a, cap, rfl, hcap⟩ | ⟨b, off, cap, hu, hl, hc⟩
  · cases a with
    | none =>
      rw [hcap rfl]
      exact ⟨v, w, run_append_owned_none (P := Tryz.prog) (w := w) base T ty E i0 size ht hi v n xs hown, by simpa using hown, ⟨rfl, rfl, rfl, Nat.le_refl _, fun _ _ _ => rfl⟩, .inl rfl⟩
    | some ad => exact fin ad cap rfl (by simp) (fun j y hj => by simp at hj)
  · exact fin ⟨b, off, none⟩ cap hu hl (fun j y hj => by rw [Go.WideShapes.add_plain]; exact hc j y hj)

section
variable {T E : TypeId} {zero : Value} {size bytes : Nat} {ops : Array Oper} {o : Oper} {a : Act}
theorem step_append {K : Act → World → Prop} {Q : Exit → Act → World → Prop} {F : Prop} (hgd : o.guard = none) (s x : Operand)
    (ho : o.op = .call { callee := .builtin .append, args := #[s, x], argTypes := #[T, T] }) (ht : Tryz.prog.underlying T = some (.slice E))
    (hinfo : (Tryz.prog.info? E).map (fun i => (i.zero, i.size, i.bytes)) = some (some zero, size, bytes)) (hzs : zero.cells.size = size) (hsz : 0 < size) (hby : bytes ≤ 64)
    {base : Nat} {w : World} {v u : Value} {n m : Nat} {xs ys : List Value} (hs : a.eval s = v) (hown : w.ownsRow base E size v n xs) (hx : a.eval x = u) (hsrc : SrcAt w u m size ys) (h1 : ∀ y ∈ ys, y.oneCell' = true)
    (hlen : n + m ≤ 1099511627776) (hb : base ≤ w.heap.size)
    (h : ∀ v' w', Appended w w' base E size v v' (n + m) (xs ++ ys) → K (a.put o.dst v') w') :
    if Region.wanted o (yielded ops a.tmps) = true then Oper.wp Tryz.prog o a w K Q else F := by
  have hw : Region.wanted o (yielded ops a.tmps) = true := by simp [Region.wanted, hgd]
  rw [if_pos hw]
  obtain ⟨v', w', hr, h2⟩ := run_append_cells ht hinfo hzs hsz hby o.type hown hsrc h1 hlen hb
  unfold Oper.wp execOp
  simp only [ho, resolve, invoke, builtin, Sem.run_bind, Sem.run_pure, Result.andThen_ok, List.map_toArray, List.map_cons, List.map_nil, hs, hx, hr]
  exact h v' w' h2
theorem walk_append {rest : List Oper} {Q : Exit → Act → World → Prop} (hgd : o.guard = none) (s x : Operand)
    (ho : o.op = .call { callee := .builtin .append, args := #[s, x], argTypes := #[T, T] }) (ht : Tryz.prog.underlying T = some (.slice E))
    (hinfo : (Tryz.prog.info? E).map (fun i => (i.zero, i.size, i.bytes)) = some (some zero, size, bytes)) (hzs : zero.cells.size = size) (hsz : 0 < size) (hby : bytes ≤ 64)
    {base : Nat} {w : World} {v u : Value} {n m : Nat} {xs ys : List Value} (hs : a.eval s = v) (hown : w.ownsRow base E size v n xs) (hx : a.eval x = u) (hsrc : SrcAt w u m size ys) (h1 : ∀ y ∈ ys, y.oneCell' = true)
    (hlen : n + m ≤ 1099511627776) (hb : base ≤ w.heap.size)
    (h : ∀ v' w', Appended w w' base E size v v' (n + m) (xs ++ ys) → wpList Tryz.prog ops Q rest (a.put o.dst v') w') :
    wpList Tryz.prog ops Q (o :: rest) a w := by
  refine wpList_plain hgd fun K hK => ?_
  obtain ⟨v', w', hr, h2⟩ := run_append_cells ht hinfo hzs hsz hby o.type hown hsrc h1 hlen hb
  unfold Oper.wp execOp
  simp only [ho, resolve, invoke, builtin, Sem.run_bind, Sem.run_pure, Result.andThen_ok, List.map_toArray, List.map_cons, List.map_nil, hs, hx, hr]
  exact hK _ _ (h v' w' h2)
end
theorem ints_one (k : IntKind) (l : List Int) : ∀ y ∈ l.map (Value.int k), y.oneCell' = true := by
  intro y hy
  obtain ⟨x, _, rfl⟩ := List.mem_map.1 hy
  rfl
theorem SrcAt.one {w : World} {g : Nat} {x : Value} {E : TypeId} (h : w.heap[g]? = some (.cells #[x] E (0, 0))) : SrcAt w (.slice (some ⟨g, 0, none⟩) 1 1) 1 1 [x] := by
  refine .inr ⟨g, 0, 1, rfl, rfl, fun j y hj => ?_⟩
  match j, hj with
  | 0, hj => simp at hj; subst hj; rw [blk_cell h]; simp
theorem Appended.mod {w w' : World} {F : Nat → Prop} {base : Nat} {E : TypeId} {size : Nat} {v v' : Value} {n : Nat} {xs : List Value} (h : Appended w w' base E size v v' n xs) (hF : ∀ k, v.ownBlock = some k → F k) : Mod F w w' :=
  Mod.of_grown h.grown (fun k hk => .inl (hF k hk))

theorem Appended.keep {w w' : World} {base : Nat} {E : TypeId} {size : Nat} {v v' : Value} {n : Nat} {xs : List Value} (h : Appended w w' base E size v v' n xs) {g : Nat} {o : Obj} (hg : w.heap[g]? = some o) (hne : v.ownBlock ≠ some g) : w'.heap[g]? = some o := by
  rw [h.grown.block g (blk_lt hg) (fun e => hne e.symm)]
  exact hg
theorem Appended.val {w w' : World} {base : Nat} {E : TypeId} {size : Nat} {v v' : Value} {n : Nat} {xs : List Value} (h : Appended w w' base E size v v' n xs) : ∃ a cap, v' = .slice a n cap := by
  rcases h.own.2 with ⟨hv, hn⟩ | ⟨g, cap, cur, hv, _⟩
  · exact ⟨none, 0, by rw [hv, hn]⟩
  · exact ⟨_, cap, hv⟩

/-- A row of the call's own, as integers of one kind; its block is F's. -/
def Owned (k : IntKind) (E : TypeId) (w : World) (v : Value) (l : List Int) : Prop := w.ownsRow 0 E 1 v l.length (l.map (Value.int k))
theorem Owned.nil (k : IntKind) (E : TypeId) (w : World) : Owned k E w (.slice none 0 0) [] := World.ownsRow_nil _ _ _ _
theorem Owned.app {k : IntKind} {E : TypeId} {w w' : World} {v v' : Value} {l : List Int} {ys : List Int} (h : Appended w w' 0 E 1 v v' (l.length + ys.length) (l.map (Value.int k) ++ ys.map (Value.int k))) : Owned k E w' v' (l ++ ys) := by
  have := h.own
  rw [← List.map_append, ← List.length_append] at this
  exact this
theorem Owned.mod {k : IntKind} {E : TypeId} {w w1 : World} {F : Nat → Prop} {v : Value} {l : List Int} (h : Owned k E w v l) (hm : Mod F w w1) (hF : ∀ g, v.ownBlock = some g → ¬ F g) : Owned k E w1 v l := ownsRow_mod h hm hF
theorem Owned.lt {k : IntKind} {E : TypeId} {w : World} {v : Value} {l : List Int} (h : Owned k E w v l) : ∀ g, v.ownBlock = some g → g < w.heap.size := fun g hg => (World.ownsRow.lt h g hg).2
/-- What an owned row is as a value. -/
theorem Owned.form {k : IntKind} {E : TypeId} {w : World} {v : Value} {l : List Int} (h : Owned k E w v l) : ∃ a cap, v = .slice a l.length cap ∧ l.length ≤ cap ∧ (a = none → l.length = 0 ∧ cap = 0) ∧ (∀ g, a = some g → g = ⟨g.block, 0, none⟩ ∧ cap ≤ maxLen) := by
  rcases h.2 with ⟨hv, hn⟩ | ⟨g, cap, cur, hv, hg, hh, hnc, hcm, r⟩
  · exact ⟨none, 0, by rw [hv, hn], by omega, fun _ => ⟨hn, rfl⟩, fun g h => by cases h⟩
  · exact ⟨_, cap, hv, hnc, fun h => (by cases h), fun g' h => by cases h; exact ⟨rfl, hcm⟩⟩
theorem Owned.at_ {k : IntKind} {E : TypeId} {w : World} {g cap : Nat} {l : List Int} {n : Nat} (h : Owned k E w (.slice (some ⟨g, 0, none⟩) n cap) l) {i : Nat} (hi : i < l.length) : w.cell? ⟨g, i, none⟩ = some (.int k (l.getD i 0)) := by
  have h' : Owned k E w (.slice (some ⟨g, 0, none⟩) n cap) l := h
  rcases h.2 with ⟨hv, hn⟩ | ⟨g', cap', cur, hv, hg, hh, hnc, hcm, hcs, htk⟩
  · omega
  · simp only [Value.slice.injEq, Option.some.injEq, Addr.mk.injEq] at hv
    obtain ⟨⟨rfl, _⟩, rfl, rfl⟩ := hv
    rw [blk_cell hh]
    have : (cur.toList.take (l.length * 1))[i]? = (l.map (Value.int k))[i]? := by rw [htk]
    rw [List.getElem?_take_of_lt (by omega)] at this
    simp at this
    rw [this]
    simp [List.getD_eq_getElem?_getD, hi]
theorem Owned.front {k : IntKind} {E : TypeId} {w : World} {g cap n : Nat} {l m : List Int} (h : Owned k E w (.slice (some ⟨g, 0, none⟩) n cap) (l ++ m)) (hn : n = (l ++ m).length) : Owned k E w (.slice (some ⟨g, 0, none⟩) l.length cap) l := by
  subst hn
  rcases h.2 with ⟨hv, hn⟩ | ⟨g', cap', cur, hv, hg, hh, hnc, hcm, hcs, htk⟩
  · cases hv
  · simp only [Value.slice.injEq, Option.some.injEq, Addr.mk.injEq] at hv
    obtain ⟨⟨rfl, _⟩, _, rfl⟩ := hv
    refine ⟨by simp, .inr ⟨g, cap, cur, rfl, hg, hh, by simp at hnc; omega, hcm, hcs, ?_⟩⟩
    have := congrArg (List.take l.length) htk
    rw [List.take_take] at this
    simp at this ⊢
    exact this
end Go.Proofs.YtoidmakaijkglaaGreat
