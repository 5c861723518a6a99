/- doom's memory: the bonds, what is to do, who was doomed. -/
import Derived.Test.YtbihfjehlbaahaaJ8
namespace Go.Proofs.Ytbihfjehlbaahaa
open Go.RowKit

/-- Under way: of what was there the bonds alone have turned; the two rows are new and apart. -/
structure DW (w wr : World) (role : Nat → Role) (qv ov : Value) (T O : List Int) : Prop where
  mod : Mod (fun g => role g ≠ .none) w wr
  q : QAt wr qv T
  qn : ∀ g, qv.ownBlock = some g → w.heap.size ≤ g
  o : Owned .i64 3 wr ov O
  on : ∀ g, ov.ownBlock = some g → w.heap.size ≤ g
  ap : ∀ g, qv.ownBlock = some g → ov.ownBlock ≠ some g
section
variable {w wr w1 : World} {role : Nat → Role} {qv ov qv' ov' : Value} {T O T' O' : List Int}
/-- Other blocks turn: the bonds' own, or ones that are neither of the two rows'. -/
theorem DW.other {G : Nat → Prop} (h : DW w wr role qv ov T O) (hlt : ∀ g, role g ≠ .none → g < w.heap.size) (hm : Mod G wr w1) (hG : ∀ g, G g → role g ≠ .none) : DW w w1 role qv ov T O where
  mod := h.mod.next hm (fun g hg => .inl (hG g hg))
  q := h.q.mod hm (fun g hg hGg => by have := h.qn g hg; have := hlt g (hG g hGg); omega)
  qn := h.qn
  o := h.o.mod hm (fun g hg hGg => by have := h.on g hg; have := hlt g (hG g hGg); omega)
  on := h.on
  ap := h.ap
theorem DW.push (h : DW w wr role qv ov T O) (hX : Mod (fun _ => False) wr w1) {w2 : World} (hP : Pushed w1 w2 qv qv' T') : DW w w2 role qv' ov T' O where
  mod := (h.mod.next hX (fun _ h => h.elim)).next (Mod.of_grown (F := fun g => qv.ownBlock = some g) hP.grown (fun k hk => .inl hk)) (fun g hg => .inr (h.qn g hg))
  q := hP.q
  qn g hg := by
    have hs := (h.mod.next hX (fun _ h => h.elim)).size
    rcases hP.lies g hg with e | e
    · exact h.qn g e
    · omega
  o := (h.o.mod hX (fun _ _ h => h)).mod (Mod.of_grown (F := fun g => qv.ownBlock = some g) hP.grown (fun k hk => .inl hk)) (fun g hg hq => h.ap g hq hg)
  on := h.on
  ap g hg e := by
    rcases hP.lies g hg with e2 | e2
    · exact h.ap g e2 e
    · have := h.o.lt g e
      have := hX.size
      omega
theorem DW.take (h : DW w wr role qv ov T O) (hq : QAt wr qv' T') (hb : qv'.ownBlock = qv.ownBlock) : DW w wr role qv' ov T' O where
  mod := h.mod
  q := hq
  qn g hg := h.qn g (hb ▸ hg)
  o := h.o
  on := h.on
  ap g hg := h.ap g (hb ▸ hg)
theorem DW.out {x : Int} (h : DW w wr role qv ov T O) (hX : Mod (fun _ => False) wr w1) {w2 : World} (hA : Appended w1 w2 0 3 1 ov ov' (O.length + 1) (O.map (Value.int .i64) ++ [.int .i64 x])) : DW w w2 role qv ov' T (O ++ [x]) where
  mod := (h.mod.next hX (fun _ h => h.elim)).next (hA.mod (F := fun g => ov.ownBlock = some g) (fun _ hk => hk)) (fun g hg => .inr (h.on g hg))
  q := (h.q.mod hX (fun _ _ h => h)).mod (hA.mod (F := fun g => ov.ownBlock = some g) (fun _ hk => hk)) (fun g hg ho => h.ap g hg ho)
  qn := h.qn
  o := Owned.app (ys := [x]) hA
  on g hg := by
    have hs := (h.mod.next hX (fun _ h => h.elim)).size
    rcases hA.lies with e | e
    · exact h.on g (e ▸ hg)
    · rw [e] at hg
      have := Option.some.inj hg
      omega
  ap g hg e := by
    rcases hA.lies with e2 | e2
    · exact h.ap g hg (e2 ▸ e)
    · rw [e2] at e
      have := Option.some.inj e
      have := h.q.lt g hg
      have := hX.size
      omega
end
theorem DW.start (w : World) (role : Nat → Role) (a : Int) : DW w (w.alloc (.cells #[.int .i64 a] 3)) role (.slice (some ⟨w.heap.size, 0, none⟩) 1 1) (.slice none 0 0) [a] [] where
  mod := (Mod.refl _ w).alloc _
  q := QAt.one (blk_at rfl)
  qn g hg := Nat.le_of_eq (by simpa [Value.ownBlock] using hg)
  o := Owned.nil _ _ _
  on g hg := by simp [Value.ownBlock] at hg
  ap g hg := by simp [Value.ownBlock]
/-- An entry that the range hands over is one of those that are there. -/
theorem MapIs.entry {D : DataW Unit} {ids : List Int} {blk : Int → Nat} (h : MapIs D ids blk) {x : Int} {c : Option Nat} (hat : ∀ zd, D.atKey (.int .i64 x) zd = nodeD c) : x ∈ ids ∧ c = some (blk x) := by
  by_cases hx : x ∈ ids
  · have h1 := (h x).2
    rw [hat, if_pos hx] at h1
    exact ⟨hx, nodeD_inj h1⟩
  · have h0 : Go.Maps.has D (.int .i64 x) = false := by rw [(h x).1]; simpa using hx
    have h1 := (hat (.lit (.bool true))).symm.trans (Go.Maps.atKey_of_not_has h0 _)
    cases c <;> simp [nodeD] at h1
theorem sameKey_int (u y : Int) : (Lit.int .i64 u).sameKey (.int .i64 y) = decide (u = y) := by
  by_cases h : u = y
  · subst h
    simp [Lit.sameKey]
  · rw [Go.Maps.sameKey_ne (key_ne h)]
    simp [h]
theorem struck_int {left : Lit → Bool} {y u : Int} (h : (left (.int .i64 u) && !(Lit.int .i64 u).sameKey (.int .i64 y)) = false) : u = y ∨ left (.int .i64 u) = false := by
  rw [sameKey_int] at h
  by_cases e : u = y
  · exact .inl e
  · simp [e] at h
    exact .inr h
theorem ranges_mod {w w1 : World} {F : Nat → Prop} {k : TypeId} {R : Value → Option (DataW Unit × List MemPlace)} {b r n : Nat} {D : DataW Unit} {left : Lit → Bool} {cnt : Nat} (h : w.ranges Try.prog k R b r n D left cnt) (hm : Mod F w w1) (hb : ¬ F b) (hr : ¬ F r) : w1.ranges Try.prog k R b r n D left cnt := by
  obtain ⟨es, clock, since, seen, c0, hbb, Ft, hs, hD, hrr, rest⟩ := h
  exact ⟨es, clock, since, seen, c0, hm.keep hbb hb, Ft, hs, hD, hm.keep hrr hr, rest⟩
/-- The step of a range over the nodes. -/
theorem next_nodes (w : World) {ops : Array Oper} {rest : List Oper} {o : Oper} {a : Act} {Q : Exit → Act → World → Prop} (hg : o.guard = none) (it : Operand) (hop : o.op = Op.next it false) {ids : List Int} {blk : Int → Nat} {mb r n : Nat} {D : DataW Unit} {left : Lit → Bool} {cnt : Nat}
    (hit : a.eval it = .pointer (some ⟨r, 0, none⟩)) (h : w.ranges Try.prog 3 nodeElem mb r n D left cnt) (his : MapIs D ids blk)
    (hDone : cnt = 0 → (∀ kl, left kl = false) → wpList Try.prog ops Q rest (a.put o.dst (.tuple #[.bool false])) w)
    (hMore : ∀ (x : Int) (w' : World) (cnt' : Nat), x ∈ ids → left (.int .i64 x) = true → w'.ranges Try.prog 3 nodeElem mb r n D (fun z => left z && !z.sameKey (.int .i64 x)) cnt' → cnt' < cnt → Mod (fun g => g = r) w w' →
      (Instr.entry (.pointer (some ⟨r, 0, none⟩))).run Try.prog w' = .ok (.tuple #[.int .i64 x, .pointer (some ⟨blk x, 0, none⟩)]) w' → wpList Try.prog ops Q rest (a.put o.dst (.tuple #[.bool true, .int .i64 x, .pointer (some ⟨blk x, 0, none⟩)])) w') :
    wpList Try.prog ops Q (o :: rest) a w := by
  refine wpList_next_ranges w hg it hop 3 bond_key nodeElem (Value.int .i64) nodeV (fun key kl hk => by obtain ⟨x, rfl, _⟩ := Go.Maps.keyOf_int_inv Try.underlying3 hk; exact ⟨x, rfl⟩) (fun v y hv => by obtain ⟨p, rfl, _⟩ := nodeElem_inv hv; exact ⟨p, rfl⟩) mb r n D left cnt hit h hDone ?_
  intro x c kl y w' cnt' hkey hlk hv hat hrg hlt hgr hsz hen
  obtain ⟨x', ex, rfl, hwx⟩ := Go.Maps.keyOf_int_inv Try.underlying3 hkey
  cases ex
  obtain ⟨p, hp, rfl⟩ := nodeElem_inv hv
  obtain rfl : c = p := by
    cases c <;> cases p <;> simp [nodeV] at hp ⊢
    exact hp
  obtain ⟨hx, rfl⟩ := his.entry hat
  exact hMore x w' cnt' hx hlk hrg hlt (Mod.of_grown hgr (fun k hk => .inl (Option.some.inj hk).symm)) hen
theorem walk_push {w : World} {ops : Array Oper} {rest : List Oper} {o : Oper} {a : Act} {Q : Exit → Act → World → Prop} (hgd : o.guard = none) (sl xl : Operand)
    (ho : o.op = .call { callee := .builtin .append, args := #[sl, xl], argTypes := #[25, 25] }) {v : Value} {T : List Int} {x : Int} {g : Nat} {E : TypeId} (hs : a.eval sl = v) (hx : a.eval xl = .slice (some ⟨g, 0, none⟩) 1 1)
    (hq : QAt w v T) (hc : w.heap[g]? = some (.cells #[.int .i64 x] E (0, 0))) (hT : T.length ≤ 1000000) (h : ∀ v' w', Pushed w w' v v' (T ++ [x]) → wpList Try.prog ops Q rest (a.put o.dst v') w') :
    wpList Try.prog ops Q (o :: rest) a w := by
  refine wpList_plain hgd fun K hK => ?_
  obtain ⟨v', w', hr, h2⟩ := run_push hq hc hT o.type
  unfold Oper.wp execOp
  simp only [ho, resolve, invoke, builtin, Sem.run_bind, Sem.run_pure, Result.andThen_ok, List.map_toArray, List.map_cons, List.map_nil, hs, hx, hr]
  exact hK _ _ (h v' w' h2)
theorem Owned.row {k : IntKind} {E : TypeId} {w : World} {v : Value} {l : List Int} (h : Owned k E w v l) : RowAt k w v l := by
  rcases h.2 with ⟨rfl, h0⟩ | ⟨g, cap, cur, rfl, hg, hh, h1, h2, h3, h4⟩
  · have hl0 : l = [] := List.length_eq_zero_iff.1 h0
    subst hl0
    exact RowAt.nil _ _
  · exact .inr ⟨g, 0, cap, rfl, h1, by omega, (Array.getElem?_eq_some_iff.1 hh).1, fun i hi => by rw [Nat.zero_add]; exact h.at_ hi⟩
/-- A block that is neither of the two rows' turns. -/
theorem DW.aside {w wr w1 : World} {role : Nat → Role} {qv ov : Value} {T O : List Int} {r : Nat} (h : DW w wr role qv ov T O) (hm : Mod (fun g => g = r) wr w1) (hr : w.heap.size ≤ r) (hq : qv.ownBlock ≠ some r) (ho : ov.ownBlock ≠ some r) : DW w w1 role qv ov T O where
  mod := h.mod.next hm (fun _ hg => .inr (hg ▸ hr))
  q := h.q.mod hm (fun _ hg e => hq (e ▸ hg))
  qn := h.qn
  o := h.o.mod hm (fun _ hg e => ho (e ▸ hg))
  on := h.on
  ap := h.ap
end Go.Proofs.Ytbihfjehlbaahaa
