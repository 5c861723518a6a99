/- Rows of integers that the call itself makes by append: 'Owned'. -/
import Derived.Test.YtbiadeniplmkfaaB1
import Derived.Test.YtbiadeniplmkfaaC1
import Derived.Deep.RegionLaw
import Derived.Deep.QuietTactic
import Derived.BigQuiet
namespace Go.Proofs.Ytbiadeniplmkfaa
open Go.RowKit

def Owned (k : IntKind) (E : TypeId) (base : Nat) (w : World) (v : Value) (l : List Int) : Prop := w.ownsRow base E 1 v l.length (l.map (Value.int k))

theorem ownsRow_below {w w1 : World} {base : Nat} {e : TypeId} {size : Nat} {v : Value} {n : Nat} {xs : List Value} (h : w.ownsRow base e size v n xs) (hb : Below w.heap.size w w1) : w1.ownsRow base e size v n xs := by
  refine ⟨h.1, ?_⟩
  rcases h.2 with h2 | ⟨g, cap, cur, hv, hg, hh, r⟩
  · exact .inl h2
  · refine .inr ⟨g, cap, cur, hv, hg, ?_, r⟩
    have hlt : g < w.heap.size := (Array.getElem?_eq_some_iff.1 hh).1
    rw [hb.block g hlt]
    exact hh
theorem Owned.later {k : IntKind} {E : TypeId} {base : Nat} {w w1 : World} {v : Value} {l : List Int} (h : Owned k E base w v l) (hb : Below w.heap.size w w1) : Owned k E base w1 v l := ownsRow_below h hb
theorem Owned.nil (k : IntKind) (E : TypeId) (base : Nat) (w : World) : Owned k E base w (.slice none 0 0) [] := World.ownsRow_nil _ _ _ _

theorem Owned.row {k : IntKind} {E : TypeId} {base : Nat} {w : World} {v : Value} {l : List Int} (h : Owned k E base w v l) : RowAt k w v l := by
  rcases h.2 with ⟨hv, hn⟩ | ⟨g, cap, cur, hv, hg, hh, hnc, hcm, r⟩
  · have : l = [] := List.length_eq_zero_iff.1 hn
    subst this
    exact .inl ⟨rfl, none, 0, hv, fun _ => rfl⟩
  · refine .inr ⟨g, 0, cap, hv, hnc, by omega, (Array.getElem?_eq_some_iff.1 hh).1, fun i hi => ?_⟩
    unfold Owned at h
    rw [hv] at h
    rw [Nat.zero_add, h.cellAt i (by omega)]
    simp [List.getD_eq_getElem?_getD, List.getElem?_eq_getElem hi]

theorem append_one {k : IntKind} {T E : TypeId} {bytes : Nat} {ops : Array Oper} {rest : List Oper} {o : Oper} {a : Act} {Q : Exit → Act → World → Prop} (hgd : o.guard = none) (s x : Operand)
    (ho : o.op = .call { callee := .builtin .append, args := #[s, x], argTypes := #[T, T] }) (ht : Try.prog.underlying T = some (.slice E))
    (hinfo : (Try.prog.info? E).map (fun i => (i.zero, i.size, i.bytes)) = some (some (.int k 0), 1, bytes)) (hby : bytes ≤ 8)
    {base : Nat} {w : World} {v : Value} {l : List Int} {y : Int} (hs : a.eval s = v) (hown : Owned k E base w v l) (hx : a.eval x = .slice (some ⟨w.heap.size, 0, none⟩) 1 1)
    (hlen : l.length ≤ 1099511627776) (hb : base ≤ w.heap.size)
    (h : ∀ v' w', Owned k E base w' v' (l ++ [y]) → (∀ B w0, B ≤ base → Below B w0 w → Below B w0 w') → wpList Try.prog ops Q rest (a.put o.dst v') w') :
    wpList Try.prog ops Q (o :: rest) a (w.alloc (.cells #[.int k y] E)) := by
  obtain ⟨i0, hi, hz0, hz1, hz2⟩ := info_parts hinfo
  refine wpList_append_own _ hgd s x T ho base E i0 (.int k 0) 1 bytes ht hi hz0 hz1 hz2 rfl (by decide) v l.length (l.map (Value.int k)) hs (World.ownsRow.alloc hown _) ⟨w.heap.size, 0, none⟩ 1 1 [.int k y] hx rfl ?_ ?_ ?_ ?_ ?_ ?_
  · intro j u hj
    match j, hj with
    | 0, hj => simp at hj; subst hj; simp [Addr.add]
  · intro u hu
    simp at hu
    subst hu
    rfl
  · unfold maxLen; omega
  · have : (l.length + 1) * bytes ≤ (l.length + 1) * 8 := Nat.mul_le_mul_left _ hby
    omega
  · simp; omega
  · intro v' w' h1 h2 _
    refine h v' w' ?_ ?_
    · unfold Owned
      simpa using h1
    · intro B w0 hB hb0
      have hbw : B ≤ w.heap.size := by omega
      refine (hb0.alloc hbw _).grown h2 (by simp; omega) ?_
      intro kk hk
      rcases hown.2 with ⟨hv, _⟩ | ⟨g, cap, cur, hv, hg, _⟩
      · rw [hv] at hk; simp [Value.ownBlock] at hk
      · rw [hv] at hk; simp [Value.ownBlock] at hk; omega

theorem step_append_one {k : IntKind} {T E : TypeId} {bytes : Nat} {ops : Array Oper} {o : Oper} {a : Act} {K : Act → World → Prop} {Q : Exit → Act → World → Prop} {F : Prop} (hgd : o.guard = none) (s x : Operand)
    (ho : o.op = .call { callee := .builtin .append, args := #[s, x], argTypes := #[T, T] }) (ht : Try.prog.underlying T = some (.slice E))
    (hinfo : (Try.prog.info? E).map (fun i => (i.zero, i.size, i.bytes)) = some (some (.int k 0), 1, bytes)) (hby : bytes ≤ 8)
    {base : Nat} {w : World} {v : Value} {l : List Int} {y : Int} {ad : Addr} (hs : a.eval s = v) (hown : Owned k E base w v l) (hx : a.eval x = .slice (some ad) 1 1) (hc : w.cell? (ad.add 0) = some (.int k y))
    (hlen : l.length ≤ 1099511627776) (hb : base ≤ w.heap.size)
    (h : ∀ v' w', Owned k E base w' v' (l ++ [y]) → (∀ B w0, B ≤ base → Below B w0 w → Below B w0 w') → K (a.put o.dst v') w') :
    if Region.wanted o (yielded ops a.tmps) = true then Oper.wp Try.prog o a w K Q else F := by
  have hw : Region.wanted o (yielded ops a.tmps) = true := by simp [Region.wanted, hgd]
  rw [if_pos hw]
  obtain ⟨i0, hi, hz0, hz1, hz2⟩ := info_parts hinfo
  refine wp_append_own _ s x T ho base E i0 (.int k 0) 1 bytes ht hi hz0 hz1 hz2 rfl (by decide) v l.length (l.map (Value.int k)) hs hown ad 1 1 [.int k y] hx rfl ?_ ?_ ?_ ?_ ?_ ?_
  · intro j u hj
    match j, hj with
    | 0, hj => simp at hj; subst hj; exact hc
  · intro u hu
    simp at hu
    subst hu
    rfl
  · unfold maxLen; omega
  · have : (l.length + 1) * bytes ≤ (l.length + 1) * 8 := Nat.mul_le_mul_left _ hby
    omega
  · exact hb
  · intro v' w' h1 h2 _
    refine h v' w' ?_ ?_
    · unfold Owned
      simpa using h1
    · intro B w0 hB hb0
      have hbw : B ≤ w.heap.size := by omega
      refine hb0.grown h2 hbw ?_
      intro kk hk
      rcases hown.2 with ⟨hv, _⟩ | ⟨g, cap, cur, hv, hg, _⟩
      · rw [hv] at hk; simp [Value.ownBlock] at hk
      · rw [hv] at hk; simp [Value.ownBlock] at hk; omega

/-- A region that draws its order, whose operations read and whose callees leave what was there alone: one walk, in the order of the text. -/
theorem wp_region_below {id : Nat} {Q : Exit → Act → World → Prop} {a : Act} {w : World} {l : List Oper} (hm : Try.prog.follows .mixedOrders = true) (hB : Region.lexB .any l.toArray = true)
    (h : wpQuiet Try.prog l.toArray (fun w' => Below w.heap.size w w') (fun a' => ∀ w', Below w.heap.size w w' → Q .normal a' w') l a) : (Code.region id l.toArray true).wp Try.prog Q a w :=
  wp_region_quiet (C := fun w' => Below w.heap.size w w') hm hB (Below.drew (Below.refl _ _)) (by simpa using h)

/-- What is appended: a slice that lies in memory, or one of no elements. -/
def SrcAt (w : World) (u : Value) (m size : Nat) (ys : List Value) : Prop := (m = 0 ∧ ys = [] ∧ ∃ a cap, u = .slice a 0 cap ∧ (a = none → cap = 0)) ∨
  ∃ b off cap, u = .slice (some ⟨b, off, none⟩) m cap ∧ ys.length = m * size ∧ ∀ j y, ys[j]? = some y → w.cell? ⟨b, off + j, none⟩ = some y

theorem run_append_cells {T E : TypeId} {zero : Value} {size bytes : Nat} (ht : Try.prog.underlying T = some (.slice E))
    (hinfo : (Try.prog.info? E).map (fun i => (i.zero, i.size, i.bytes)) = some (some zero, size, bytes)) (hzs : zero.cells.size = size) (hsz : 0 < size) (hby : bytes ≤ 64) (ty : TypeId)
    {base : Nat} {w : World} {v u : Value} {n m : Nat} {xs ys : List Value} (hown : w.ownsRow base E size v n xs) (hsrc : SrcAt w u m size ys) (h1 : ∀ y ∈ ys, y.oneCell' = true)
    (hlen : n + m ≤ 1099511627776) (hb : base ≤ w.heap.size) :
    ∃ v' w', (Builtin.append_ #[T, T] ty #[v, u]).run Try.prog w = .ok v' w' ∧ w'.ownsRow base E size v' (n + m) (xs ++ ys) ∧ (∀ B w0, B ≤ base → Below B w0 w → Below B w0 w') ∧ w.grownBy w' v.ownBlock := by
  obtain ⟨i0, hi, hz0, hz1, hz2⟩ := info_parts hinfo
  have hbw : ∀ w', w.grownBy w' v.ownBlock → (∀ B w0, B ≤ base → Below B w0 w → Below B w0 w') := by
    intro w' h2 B w0 hB hb0
    refine hb0.grown h2 (by omega) ?_
    intro kk hk
    rcases hown.2 with ⟨hv, _⟩ | ⟨g, cap, cur, hv, hg, _⟩
    · rw [hv] at hk; simp [Value.ownBlock] at hk
    · rw [hv] at hk; simp [Value.ownBlock] at hk; omega
  have hmul : (n + m) * bytes ≤ 140737488355328 := by
    have : (n + m) * bytes ≤ (n + m) * 64 := Nat.mul_le_mul_left _ hby
    omega
  have fin : ∀ ad cap (hu : u = .slice (some ad) m cap) (hl : ys.length = m * size) (hc : ∀ j y, ys[j]? = some y → w.cell? (ad.add j) = some y), ∃ v' w', (Builtin.append_ #[T, T] ty #[v, u]).run Try.prog w = .ok v' w' ∧ w'.ownsRow base E size v' (n + m) (xs ++ ys) ∧ (∀ B w0, B ≤ base → Below B w0 w → Below B w0 w') ∧ w.grownBy w' v.ownBlock := by
    intro ad cap hu hl hc
    subst hu
    obtain ⟨v', w', hr, h2, h3, _⟩ := run_append_own (P := Try.prog) w base T ty E i0 zero size bytes ht hi hz0 hz1 hz2 hzs hsz v n xs hown ad m cap ys hl hc h1 (by unfold maxLen; omega) hmul hb
    exact ⟨v', w', hr, h2, hbw w' h3, h3⟩
  rcases hsrc with ⟨rfl, rfl, a, cap, rfl, hcap⟩ | ⟨b, off, cap, hu, hl, hc⟩
  · cases a with
    | none =>
      rw [hcap rfl]
      exact ⟨v, w, run_append_owned_none (P := Try.prog) (w := w) base T ty E i0 size ht hi v n xs hown, by simpa using hown, fun _ _ _ h => h, ⟨rfl, rfl, rfl, Nat.le_refl _, fun _ _ _ => rfl⟩⟩
    | some ad => exact fin ad cap rfl (by simp) (fun j y hj => by simp at hj)
  · exact fin ⟨b, off, none⟩ cap hu hl (fun j y hj => by rw [Go.WideShapes.add_plain]; exact hc j y hj)

theorem step_append_cells {T E : TypeId} {zero : Value} {size bytes : Nat} {ops : Array Oper} {o : Oper} {a : Act} {K : Act → World → Prop} {Q : Exit → Act → World → Prop} {F : Prop} (hgd : o.guard = none) (s x : Operand)
    (ho : o.op = .call { callee := .builtin .append, args := #[s, x], argTypes := #[T, T] }) (ht : Try.prog.underlying T = some (.slice E))
    (hinfo : (Try.prog.info? E).map (fun i => (i.zero, i.size, i.bytes)) = some (some zero, size, bytes)) (hzs : zero.cells.size = size) (hsz : 0 < size) (hby : bytes ≤ 64)
    {base : Nat} {w : World} {v u : Value} {n m : Nat} {xs ys : List Value} (hs : a.eval s = v) (hown : w.ownsRow base E size v n xs) (hx : a.eval x = u) (hsrc : SrcAt w u m size ys) (h1 : ∀ y ∈ ys, y.oneCell' = true)
    (hlen : n + m ≤ 1099511627776) (hb : base ≤ w.heap.size)
    (h : ∀ v' w', w'.ownsRow base E size v' (n + m) (xs ++ ys) → (∀ B w0, B ≤ base → Below B w0 w → Below B w0 w') → w.grownBy w' v.ownBlock → K (a.put o.dst v') w') :
    if Region.wanted o (yielded ops a.tmps) = true then Oper.wp Try.prog o a w K Q else F := by
  have hw : Region.wanted o (yielded ops a.tmps) = true := by simp [Region.wanted, hgd]
  rw [if_pos hw]
  obtain ⟨v', w', hr, h2, h3, h4⟩ := run_append_cells ht hinfo hzs hsz hby o.type hown hsrc h1 hlen hb
  unfold Oper.wp execOp
  simp only [ho, resolve, invoke, builtin, Sem.run_bind, Sem.run_pure, Result.andThen_ok, List.map_toArray, List.map_cons, List.map_nil, hs, hx, hr]
  exact h v' w' h2 h3 h4

theorem append_cells {T E : TypeId} {zero : Value} {size bytes : Nat} {ops : Array Oper} {rest : List Oper} {o : Oper} {a : Act} {Q : Exit → Act → World → Prop} (hgd : o.guard = none) (s x : Operand)
    (ho : o.op = .call { callee := .builtin .append, args := #[s, x], argTypes := #[T, T] }) (ht : Try.prog.underlying T = some (.slice E))
    (hinfo : (Try.prog.info? E).map (fun i => (i.zero, i.size, i.bytes)) = some (some zero, size, bytes)) (hzs : zero.cells.size = size) (hsz : 0 < size) (hby : bytes ≤ 64)
    {base : Nat} {w : World} {v u : Value} {n m : Nat} {xs ys : List Value} (hs : a.eval s = v) (hown : w.ownsRow base E size v n xs) (hx : a.eval x = u) (hsrc : SrcAt w u m size ys) (h1 : ∀ y ∈ ys, y.oneCell' = true)
    (hlen : n + m ≤ 1099511627776) (hb : base ≤ w.heap.size)
    (h : ∀ v' w', w'.ownsRow base E size v' (n + m) (xs ++ ys) → (∀ B w0, B ≤ base → Below B w0 w → Below B w0 w') → w.grownBy w' v.ownBlock → wpList Try.prog ops Q rest (a.put o.dst v') w') :
    wpList Try.prog ops Q (o :: rest) a w := by
  refine wpList_plain hgd fun K hK => ?_
  obtain ⟨v', w', hr, h2, h3, h4⟩ := run_append_cells ht hinfo hzs hsz hby o.type hown hsrc h1 hlen hb
  unfold Oper.wp execOp
  simp only [ho, resolve, invoke, builtin, Sem.run_bind, Sem.run_pure, Result.andThen_ok, List.map_toArray, List.map_cons, List.map_nil, hs, hx, hr]
  exact hK _ _ (h v' w' h2 h3 h4)

theorem owned_of {k : IntKind} {E base : Nat} {w : World} {v : Value} {n : Nat} {xs : List Value} {l : List Int} (h : w.ownsRow base E 1 v n xs) (hn : n = l.length) (hx : xs = l.map (Value.int k)) : Owned k E base w v l := by
  subst hn hx
  exact h
theorem owns_made {w : World} {g base : Nat} {E : TypeId} {size : Nat} (h : w.heap[g]? = some (.cells #[] E (0, 0))) (hb : base ≤ g) : w.ownsRow base E size (.slice (some ⟨g, 0, none⟩) 0 0) 0 [] :=
  ⟨by simp, .inr ⟨g, 0, #[], rfl, hb, h, Nat.le_refl _, Nat.zero_le _, by simp, by simp⟩⟩
theorem ints_one (k : IntKind) (l : List Int) : ∀ y ∈ l.map (Value.int k), y.oneCell' = true := by
  intro y hy
  obtain ⟨x, _, rfl⟩ := List.mem_map.1 hy
  rfl
theorem heap_new (w : World) (o : Obj) : (w.alloc o).heap[w.heap.size]? = some o := by
  show (w.heap.push o)[w.heap.size]? = _
  simp
theorem heap_at {w : World} {o : Obj} {g : Nat} (h : g = w.heap.size) : (w.alloc o).heap[g]? = some o := by
  subst h
  exact heap_new w o
theorem heap_old {w : World} {o p : Obj} {g : Nat} (h : w.heap[g]? = some p) : (w.alloc o).heap[g]? = some p := by
  have hlt : g < w.heap.size := (Array.getElem?_eq_some_iff.1 h).1
  rw [Below.heap_alloc _ _ _ hlt]
  exact h
theorem grown_heap {w w' : World} {row : Option Nat} (hg : w.grownBy w' row) {g : Nat} {p : Obj} (h : w.heap[g]? = some p) (hne : some g ≠ row) : w'.heap[g]? = some p := by
  have hlt : g < w.heap.size := (Array.getElem?_eq_some_iff.1 h).1
  rw [hg.block g hlt hne]
  exact h
theorem cell_heap {w : World} {g i : Nat} {cs : Array Value} {E : TypeId} (h : w.heap[g]? = some (.cells cs E (0, 0))) : w.cell? ⟨g, i, none⟩ = cs[i]? := cell_of_row w g i cs E (0, 0) h
theorem SrcAt.one {w : World} {g : Nat} {x : Value} {E : TypeId} (h : w.heap[g]? = some (.cells #[x] E (0, 0))) : SrcAt w (.slice (some ⟨g, 0, none⟩) 1 1) 1 1 [x] := by
  refine .inr ⟨g, 0, 1, rfl, rfl, fun j y hj => ?_⟩
  match j, hj with
  | 0, hj => simp at hj; subst hj; rw [cell_heap h]; simp
theorem RowAt.cap {k : IntKind} {w : World} {a : Option Addr} {n cap : Nat} {l : List Int} (h : RowAt k w (.slice a n cap) l) (hn : n = l.length) : n ≤ cap ∧ (a = none → n = 0) := by
  rcases h with ⟨rfl, a', cap', hv, hc⟩ | ⟨b, off, cap', hv, hlc, hm, hb, hc⟩
  · simp at hn; omega
  · simp only [Value.slice.injEq] at hv
    obtain ⟨rfl, hl2, rfl⟩ := hv
    exact ⟨by omega, fun h => by cases h⟩

/-- A row of integers as what is appended; cut in front, cut behind. -/
theorem RowAt.src {k : IntKind} {w : World} {u : Value} {l : List Int} (h : RowAt k w u l) : SrcAt w u l.length 1 (l.map (Value.int k)) := by
  rcases h with ⟨rfl, a, cap, rfl, hc⟩ | ⟨b, off, cap, rfl, hlc, hm, hb, hc⟩
  · exact .inl ⟨rfl, rfl, a, cap, rfl, hc⟩
  · refine .inr ⟨b, off, cap, rfl, by simp, fun j y hj => ?_⟩
    have hj2 : j < l.length := by
      refine Decidable.byContradiction fun hn => ?_
      rw [List.getElem?_eq_none (by simp; omega)] at hj
      cases hj
    rw [hc j hj2]
    simpa [List.getD_eq_getElem?_getD, List.getElem?_eq_getElem hj2] using hj
theorem RowAt.take {k : IntKind} {w : World} {a : Option Addr} {n cap : Nat} {l : List Int} (h : RowAt k w (.slice a n cap) l) {i : Nat} (hi : i ≤ l.length) : RowAt k w (.slice a i cap) (l.take i) := by
  rcases h with ⟨rfl, a', cap', hv, hc⟩ | ⟨b, off, cap', hv, hlc, hm, hb, hc⟩
  · simp at hv hi
    obtain ⟨rfl, rfl, rfl⟩ := hv
    subst hi
    exact .inl ⟨rfl, a, cap, rfl, hc⟩
  · simp only [Value.slice.injEq] at hv
    obtain ⟨rfl, rfl, rfl⟩ := hv
    have hl : (l.take i).length = i := by rw [List.length_take]; omega
    refine .inr ⟨b, off, cap, by rw [hl], by omega, by omega, hb, fun j hj => ?_⟩
    rw [hl] at hj
    rw [hc j (by omega)]
    simp [List.getD_eq_getElem?_getD, hj]
theorem RowAt.drop {k : IntKind} {w : World} {a : Option Addr} {n cap : Nat} {l : List Int} (h : RowAt k w (.slice a n cap) l) {i : Nat} (hi : i ≤ l.length) (hn : n = l.length) (hz : a = none → n = 0) :
    RowAt k w (.slice (if cap = i then a else a.map (Addr.add · i)) (n - i) (cap - i)) (l.drop i) := by
  rcases h with ⟨rfl, a', cap', hv, hc⟩ | ⟨b, off, cap', hv, hlc, hm, hb, hc⟩
  · simp at hv hi
    obtain ⟨rfl, rfl, rfl⟩ := hv
    subst hi
    refine .inl ⟨rfl, _, cap, rfl, ?_⟩
    intro hh
    cases a with
    | none => exact hc rfl
    | some x => split at hh <;> simp_all
  · simp only [Value.slice.injEq] at hv
    obtain ⟨rfl, hl2, rfl⟩ := hv
    by_cases hci : cap = i
    · have : l.drop i = [] := List.drop_eq_nil_of_le (by omega)
      rw [if_pos hci, this]
      exact .inl ⟨rfl, _, _, by rw [show n - i = 0 by omega], by intro h; cases h⟩
    · rw [if_neg hci]
      have hl : (l.drop i).length = n - i := by rw [List.length_drop]; omega
      refine .inr ⟨b, off + i, cap - i, by rw [hl]; simp [Go.WideShapes.add_plain], by omega, by omega, hb, fun j hj => ?_⟩
      rw [hl] at hj
      rw [show off + i + j = off + (i + j) by omega, hc (i + j) (by omega)]
      simp [List.getD_eq_getElem?_getD, List.getElem?_drop]

theorem info_u64 : (Try.prog.info? 22).map (fun i => (i.zero, i.size, i.bytes)) = some (some (.int .u64 0), 1, 8) := by kernel_rfl
theorem info_int : (Try.prog.info? 3).map (fun i => (i.zero, i.size, i.bytes)) = some (some (.int .i64 0), 1, 8) := by kernel_rfl
end Go.Proofs.Ytbiadeniplmkfaa
