/- Deals and calls in memory; a state as a map that the call owns. -/
import Derived.Test.YtpohehialkgigaaAB
import Derived.Maps.OwnSet
import Derived.Lib.SlKeysI
namespace Go.Proofs.Ytpohehialkgigaa
open Go.RowKit

/-! ### What is read -/
def PairsAt (w : World) (v : Value) (l : St) : Prop :=
  (l = [] ∧ ∃ a cap, v = .slice a 0 cap ∧ (a = none → cap = 0)) ∨
  ∃ b off cap, v = .slice (some ⟨b, off, none⟩) l.length cap ∧ l.length ≤ cap ∧ b < w.heap.size ∧ ∀ i, i < l.length → w.cell? ⟨b, off + i * 2, none⟩ = some (.int .i64 (l.getD i (0, 0)).1) ∧ w.cell? ⟨b, off + i * 2 + 1, none⟩ = some (.int .i64 (l.getD i (0, 0)).2)
def Cl.cells (c : Cl) (pv : Value) : List Value := [.int .i64 c.kind, .int .i64 c.key, .int .i64 c.hi, .int .i64 c.val, .int .i64 c.e, .int .i64 c.rv, pv, .int .i64 c.over, .int .i64 c.reason]
def Dl.cells (d : Dl) (ov : Value) : List Value := [.int .i64 d.id, .int .i64 d.level, .int .i64 d.state, .int .u64 d.beg, .int .u64 d.en, ov]
def CallIs (w : World) (v : Value) (c : Cl) : Prop := ∃ pv, v = .agg (c.cells pv).toArray ∧ PairsAt w pv c.pairs
def CallsAt (w : World) (v : Value) (l : List Cl) : Prop :=
  (l = [] ∧ ∃ a cap, v = .slice a 0 cap ∧ (a = none → cap = 0)) ∨
  ∃ b off cap, v = .slice (some ⟨b, off, none⟩) l.length cap ∧ l.length ≤ cap ∧ b < w.heap.size ∧ ∀ i, i < l.length → ∃ pv, (∀ q, q < 9 → w.cell? ⟨b, off + i * 9 + q, none⟩ = ((l.getD i cl0).cells pv)[q]?) ∧ PairsAt w pv (l.getD i cl0).pairs
def DealIs (w : World) (v : Value) (d : Dl) : Prop := ∃ ov, v = .agg (d.cells ov).toArray ∧ CallsAt w ov d.ops
def DealsAt (w : World) (v : Value) (l : List Dl) : Prop :=
  (l = [] ∧ ∃ a cap, v = .slice a 0 cap ∧ (a = none → cap = 0)) ∨
  ∃ b off cap, v = .slice (some ⟨b, off, none⟩) l.length cap ∧ l.length ≤ cap ∧ b < w.heap.size ∧ ∀ i, i < l.length → ∃ ov, (∀ q, q < 6 → w.cell? ⟨b, off + i * 6 + q, none⟩ = ((l.getD i dl0).cells ov)[q]?) ∧ CallsAt w ov (l.getD i dl0).ops

section
variable {w w1 : World} {v : Value}
theorem PairsAt.later {l : St} (h : PairsAt w v l) (hb : Below w.heap.size w w1) : PairsAt w1 v l := by
  rcases h with h | ⟨b, off, cap, hv, hlc, hl, hc⟩
  · exact .inl h
  · refine .inr ⟨b, off, cap, hv, hlc, Nat.lt_of_lt_of_le hl hb.size, fun i hi => ⟨(hb.cell (p := ⟨b, off + i * 2, none⟩) hl).trans (hc i hi).1, (hb.cell (p := ⟨b, off + i * 2 + 1, none⟩) hl).trans (hc i hi).2⟩⟩
theorem CallIs.later {c : Cl} (h : CallIs w v c) (hb : Below w.heap.size w w1) : CallIs w1 v c := by
  obtain ⟨pv, h1, h2⟩ := h
  exact ⟨pv, h1, h2.later hb⟩
theorem CallsAt.later {l : List Cl} (h : CallsAt w v l) (hb : Below w.heap.size w w1) : CallsAt w1 v l := by
  rcases h with h | ⟨b, off, cap, hv, hlc, hl, hc⟩
  · exact .inl h
  · refine .inr ⟨b, off, cap, hv, hlc, Nat.lt_of_lt_of_le hl hb.size, fun i hi => ?_⟩
    obtain ⟨pv, h1, h2⟩ := hc i hi
    exact ⟨pv, fun q hq => (hb.cell (p := ⟨b, off + i * 9 + q, none⟩) hl).trans (h1 q hq), h2.later hb⟩
theorem DealIs.later {d : Dl} (h : DealIs w v d) (hb : Below w.heap.size w w1) : DealIs w1 v d := by
  obtain ⟨ov, h1, h2⟩ := h
  exact ⟨ov, h1, h2.later hb⟩
theorem DealsAt.later {l : List Dl} (h : DealsAt w v l) (hb : Below w.heap.size w w1) : DealsAt w1 v l := by
  rcases h with h | ⟨b, off, cap, hv, hlc, hl, hc⟩
  · exact .inl h
  · refine .inr ⟨b, off, cap, hv, hlc, Nat.lt_of_lt_of_le hl hb.size, fun i hi => ?_⟩
    obtain ⟨ov, h1, h2⟩ := hc i hi
    exact ⟨ov, fun q hq => (hb.cell (p := ⟨b, off + i * 6 + q, none⟩) hl).trans (h1 q hq), h2.later hb⟩
theorem PairsAt.form {l : St} (h : PairsAt w v l) : ∃ a cap, v = .slice a l.length cap ∧ l.length ≤ cap := by
  rcases h with ⟨rfl, a, cap, rfl, _⟩ | ⟨b, off, cap, rfl, h, _⟩
  · exact ⟨a, cap, rfl, Nat.zero_le _⟩
  · exact ⟨_, cap, rfl, h⟩
theorem CallsAt.form {l : List Cl} (h : CallsAt w v l) : ∃ a cap, v = .slice a l.length cap ∧ l.length ≤ cap := by
  rcases h with ⟨rfl, a, cap, rfl, _⟩ | ⟨b, off, cap, rfl, h, _⟩
  · exact ⟨a, cap, rfl, Nat.zero_le _⟩
  · exact ⟨_, cap, rfl, h⟩
theorem DealsAt.form {l : List Dl} (h : DealsAt w v l) : ∃ a cap, v = .slice a l.length cap ∧ l.length ≤ cap := by
  rcases h with ⟨rfl, a, cap, rfl, _⟩ | ⟨b, off, cap, rfl, h, _⟩
  · exact ⟨a, cap, rfl, Nat.zero_le _⟩
  · exact ⟨_, cap, rfl, h⟩
/-- The i-th element: where it lies, and what its cells hold. -/
theorem CallsAt.at_ {l : List Cl} {i : Nat} (h : CallsAt w v l) (hi : i < l.length) : ∃ b off cap pv, v = .slice (some ⟨b, off, none⟩) l.length cap ∧ b < w.heap.size ∧ (∀ q, q < 9 → w.cell? ⟨b, off + i * 9 + q, none⟩ = ((l.getD i cl0).cells pv)[q]?) ∧ PairsAt w pv (l.getD i cl0).pairs := by
  rcases h with ⟨rfl, _⟩ | ⟨b, off, cap, hv, _, hl, hc⟩
  · simp at hi
  · obtain ⟨pv, h1, h2⟩ := hc i hi
    exact ⟨b, off, cap, pv, hv, hl, h1, h2⟩
theorem DealsAt.at_ {l : List Dl} {i : Nat} (h : DealsAt w v l) (hi : i < l.length) : ∃ b off cap ov, v = .slice (some ⟨b, off, none⟩) l.length cap ∧ b < w.heap.size ∧ (∀ q, q < 6 → w.cell? ⟨b, off + i * 6 + q, none⟩ = ((l.getD i dl0).cells ov)[q]?) ∧ CallsAt w ov (l.getD i dl0).ops := by
  rcases h with ⟨rfl, _⟩ | ⟨b, off, cap, hv, _, hl, hc⟩
  · simp at hi
  · obtain ⟨ov, h1, h2⟩ := hc i hi
    exact ⟨b, off, cap, ov, hv, hl, h1, h2⟩
end

/-! ### A state as a map -/
def stD (s : St) : DataW Unit := .map (s.map fun p => (.int .i64 p.1, .lit (.int .i64 p.2)))
theorem st_del (s : St) (k : Int) : (stD s).del (.int .i64 k) = stD (St.del s k) := by
  unfold stD DataW.del St.del
  simp only [List.filter_map]
  congr 2
  apply List.filter_congr
  intro p _
  simp [Lit.sameKey]
theorem st_ins (x : Int × Int) : ∀ s : St, DataW.insert (H := Unit) (.int .i64 x.1, .lit (.int .i64 x.2)) (s.map fun p => (.int .i64 p.1, .lit (.int .i64 p.2))) = (St.ins x s).map fun p => (.int .i64 p.1, .lit (.int .i64 p.2))
  | [] => rfl
  | y :: r => by
    simp only [List.map_cons, DataW.insert, Lit.before, St.ins, decide_eq_true_eq]
    split
    · rfl
    · rw [st_ins x r]
      rfl
theorem st_put (s : St) (k v : Int) : (stD s).put (.int .i64 k) (.lit (.int .i64 v)) = stD (St.put s k v) := by
  have h := st_del s k
  unfold stD DataW.del at h
  simp only [DataW.map.injEq] at h
  unfold stD DataW.put
  simp only [h]
  rw [st_ins (k, v)]
  rfl
theorem st_find (s : St) (k : Int) : (s.map fun p => ((.int .i64 p.1, .lit (.int .i64 p.2)) : Lit × DataW Unit)).find? (fun p => p.1.sameKey (.int .i64 k)) = (s.find? fun p => decide (p.1 = k)).map fun p => (.int .i64 p.1, .lit (.int .i64 p.2)) := by
  rw [List.find?_map]
  congr 1
  congr 1
  funext p
  simp [Lit.sameKey]
theorem st_at (s : St) (k : Int) : (stD s).atKey (.int .i64 k) (.lit (.int .i64 0)) = .lit (.int .i64 ((s.get k).getD 0)) := by
  unfold stD DataW.atKey St.get
  simp only [st_find]
  cases s.find? fun p => decide (p.1 = k) <;> rfl
theorem st_has (s : St) (k : Int) : Maps.has (stD s) (.int .i64 k) = (s.get k).isSome := by
  unfold stD Maps.has St.get
  induction s with
  | nil => rfl
  | cons p r ih =>
    simp only [List.map_cons, List.any_cons, List.find?_cons, Lit.sameKey] at ih ⊢
    by_cases hk : p.1 = k
    · simp [hk]
    · simp only [hk, and_false, decide_false, Bool.false_or]
      exact ih
theorem st_keys (s : St) : intKeys (stD s) = s.map (·.1) := by
  simp [intKeys, stD, intOf, Function.comp_def]
theorem st_size (s : St) : Maps.size (stD s) = s.length := by simp [Maps.size, stD]

theorem int_key : Maps.Keyed Try.prog 3 := Go.Maps.int_keyed Try.underlying3
theorem zero_int (w : World) : (zeroValue 3).run Try.prog w = .ok (.int .i64 0) w := by kernel_rfl
theorem key_int {x : Int} (hx : (Lit.int .i64 x).wf = true) : keyOf Try.prog 3 (.int .i64 x) = some (.int .i64 x) := Go.Maps.keyOf_int_mk Try.underlying3 hx

/-- Block b is a map that holds the state s. -/
structure SMap (w : World) (b : Nat) (s : St) : Prop where
  own : w.ownsMap Try.prog 3 (plainElem Try.prog 3) b s.length (stD s)
  rising : s.rising
theorem ownsMap_shrink {w : World} {b n : Nat} {s : St} (h : w.ownsMap Try.prog 3 (plainElem Try.prog 3) b n (stD s)) : w.ownsMap Try.prog 3 (plainElem Try.prog 3) b s.length (stD s) := by
  obtain ⟨es, clock, hb, F, hs, hD⟩ := h
  refine ⟨es, clock, hb, F, ?_, hD⟩
  have h1 : Maps.size (stD s) = es.size := by rw [hD]; simp [Maps.size, length_sorted]
  rw [st_size] at h1
  omega
theorem ownsMap_mod {w w1 : World} {F : Nat → Prop} {k : TypeId} {R : Value → Option (DataW Unit × List MemPlace)} {b n : Nat} {D : DataW Unit} (h : w.ownsMap Try.prog k R b n D) (hm : Mod F w w1) (hF : ¬ F b) : w1.ownsMap Try.prog k R b n D := by
  obtain ⟨es, clock, hb, r⟩ := h
  exact ⟨es, clock, hm.keep hb hF, r⟩
theorem SMap.mod {w w1 : World} {F : Nat → Prop} {b : Nat} {s : St} (h : SMap w b s) (hm : Mod F w w1) (hF : ¬ F b) : SMap w1 b s := ⟨ownsMap_mod h.own hm hF, h.rising⟩
theorem SMap.later {w w1 : World} {b : Nat} {s : St} (h : SMap w b s) (hb : Below w.heap.size w w1) : SMap w1 b s := h.mod (Mod.of_below (F := fun _ => False) hb) (fun h => h)
theorem SMap.lt {w : World} {b : Nat} {s : St} (h : SMap w b s) : b < w.heap.size := h.own.lt
theorem SMap.new (w : World) : SMap (w.alloc (.map #[] 0)) w.heap.size [] := ⟨World.ownsMap_made w _ _ _, List.Pairwise.nil⟩

section
variable {w : World} {ops : Array Oper} {rest : List Oper} {o : Oper} {a : Act} {Q : Exit → Act → World → Prop} {T : TypeId} {b : Nat} {s : St} {k v : Int}
theorem smap_look (hg : o.guard = none) (m x : Operand) (hop : o.op = Op.lookup T m x false) (ht : Try.prog.underlying T = some (.map 3 3)) (hm : a.eval m = .map (some b)) (h : SMap w b s) (hx : a.eval x = .int .i64 k) (hw : (Lit.int .i64 k).wf = true)
    (hK : wpList Try.prog ops Q rest (a.put o.dst (.int .i64 ((s.get k).getD 0))) w) : wpList Try.prog ops Q (o :: rest) a w := by
  refine wpList_lookup_own_int w hg m x T hop 3 3 .i64 int_key ht Try.underlying3 (zero_int w) b _ _ hm h.own _ _ hx (key_int hw) fun c hc _ => ?_
  rw [st_at] at hc
  simp only [DataW.lit.injEq, Lit.int.injEq, true_and] at hc
  rw [← hc]
  exact hK
theorem smap_look_ok (hg : o.guard = none) (m x : Operand) (hop : o.op = Op.lookup T m x true) (ht : Try.prog.underlying T = some (.map 3 3)) (hm : a.eval m = .map (some b)) (h : SMap w b s) (hx : a.eval x = .int .i64 k) (hw : (Lit.int .i64 k).wf = true)
    (hK : wpList Try.prog ops Q rest (a.put o.dst (.tuple #[.int .i64 ((s.get k).getD 0), .bool (s.get k).isSome])) w) : wpList Try.prog ops Q (o :: rest) a w := by
  refine wpList_lookup_own_ok_int w hg m x T hop 3 3 .i64 int_key ht Try.underlying3 (zero_int w) b _ _ hm h.own _ _ hx (key_int hw) fun c hc _ => ?_
  rw [st_at] at hc
  simp only [DataW.lit.injEq, Lit.int.injEq, true_and] at hc
  rw [st_has, ← hc]
  exact hK
theorem smap_update (hg : o.guard = none) (m x y : Operand) (hop : o.op = Op.mapUpdate T m x y) (ht : Try.prog.underlying T = some (.map 3 3)) (hm : a.eval m = .map (some b)) (h : SMap w b s) (hn : s.length < maxLen) (hx : a.eval x = .int .i64 k) (hw : (Lit.int .i64 k).wf = true) (hy : a.eval y = .int .i64 v) (hv : (Lit.int .i64 v).wf = true)
    (hK : ∀ w', SMap w' b (s.put k v) → Mod (fun i => i = b) w w' → wpList Try.prog ops Q rest (a.put o.dst undef) w') : wpList Try.prog ops Q (o :: rest) a w := by
  refine wpList_mapUpdate_own w hg m x y T hop 3 3 int_key ht _ b _ _ hm h.own hn _ _ _ hx hy (key_int hw) _ _ (plainElem_int Try.underlying3 hv) fun w' h1 h2 => hK w' ⟨?_, h.rising.put k v⟩ (Mod.of_grown h2 fun i hi => ?_)
  · rw [st_put] at h1
    exact ownsMap_shrink h1
  · simp only [Option.some.injEq] at hi
    exact .inl hi.symm
theorem smap_delete (hg : o.guard = none) (m x : Operand) (hop : o.op = Op.call { callee := Callee.builtin Builtin.delete, args := #[m, x], argTypes := #[T, 3] }) (ht : Try.prog.underlying T = some (.map 3 3)) (hm : a.eval m = .map (some b)) (h : SMap w b s) (hx : a.eval x = .int .i64 k) (hw : (Lit.int .i64 k).wf = true)
    (hK : ∀ w', SMap w' b (s.del k) → Mod (fun i => i = b) w w' → wpList Try.prog ops Q rest (a.put o.dst (.tuple #[])) w') : wpList Try.prog ops Q (o :: rest) a w := by
  refine wpList_delete_own w hg m x T 3 hop 3 int_key ht _ b _ _ hm h.own _ _ hx (key_int hw) fun w' h1 h2 => hK w' ⟨?_, h.rising.del k⟩ (Mod.of_grown h2.grown fun i hi => ?_)
  · rw [st_del] at h1
    exact ownsMap_shrink h1
  · simp only [Option.some.injEq] at hi
    exact .inl hi.symm
end
end Go.Proofs.Ytpohehialkgigaa
