/- Serially: what a Deal's calls are, in memory, one by one. -/
import Derived.Test.YtpohehialkgigaaLB
namespace Go.Proofs.Ytpohehialkgigaa
open Go.RowKit
/-! Appends of what is up to 128 bytes wide -/
theorem run_append_wide {T E : TypeId} {zero : Value} {size bytes : Nat} (ht : Try.prog.underlying T = some (.slice E))
    (hinfo : (Try.prog.info? E).map (fun i => (i.zero, i.size, i.bytes)) = some (some zero, size, bytes)) (hzs : zero.cells.size = size) (hsz : 0 < size) (hby : bytes ≤ 128) (ty : TypeId)
    {base : Nat} {w : World} {v u : Value} {n m : Nat} {xs ys : List Value} (hown : w.ownsRow base E size v n xs) (hsrc : SrcAt w u m size ys) (h1 : ∀ y ∈ ys, y.oneCell' = true)
    (hlen : n + m ≤ 1099511627776) (hb : base ≤ w.heap.size) :
    ∃ v' w', (Builtin.append_ #[T, T] ty #[v, u]).run Try.prog w = .ok v' w' ∧ Appended w w' base E size v v' (n + m) (xs ++ ys) := by
  obtain ⟨i0, hi, hz0, hz1, hz2⟩ := info_parts hinfo
  have hmul : (n + m) * bytes ≤ 140737488355328 := by
    have : (n + m) * bytes ≤ (n + m) * 128 := Nat.mul_le_mul_left _ hby
    omega
  have fin : ∀ ad cap (hu : u = .slice (some ad) m cap) (hl : ys.length = m * size) (hc : ∀ j y, ys[j]? = some y → w.cell? (ad.add j) = some y), ∃ v' w', (Builtin.append_ #[T, T] ty #[v, u]).run Try.prog w = .ok v' w' ∧ Appended w w' base E size v v' (n + m) (xs ++ ys) := by
    intro ad cap hu hl hc
    subst hu
    obtain ⟨v', w', hr, h2, h3, _, h5⟩ := run_append_own_at (P := Try.prog) w base T ty E i0 zero size bytes ht hi hz0 hz1 hz2 hzs hsz v n xs hown ad m cap ys hl hc h1 (by unfold maxLen; omega) hmul hb
    exact ⟨v', w', hr, h2, h3, h5⟩
  rcases hsrc with ⟨rfl, rfl, a, cap, rfl, hcap⟩ | ⟨b, off, cap, hu, hl, hc⟩
  · cases a with
    | none =>
      rw [hcap rfl]
      exact ⟨v, w, run_append_owned_none (P := Try.prog) (w := w) base T ty E i0 size ht hi v n xs hown, by simpa using hown, ⟨rfl, rfl, rfl, Nat.le_refl _, fun _ _ _ => rfl⟩, .inl rfl⟩
    | some ad => exact fin ad cap rfl (by simp) (fun j y hj => by simp at hj)
  · exact fin ⟨b, off, none⟩ cap hu hl (fun j y hj => by rw [Go.WideShapes.add_plain]; exact hc j y hj)

section
variable {T E : TypeId} {zero : Value} {size bytes : Nat} {ops : Array Oper} {o : Oper} {a : Act}
theorem walk_append_wide {rest : List Oper} {Q : Exit → Act → World → Prop} (hgd : o.guard = none) (s x : Operand)
    (ho : o.op = .call { callee := .builtin .append, args := #[s, x], argTypes := #[T, T] }) (ht : Try.prog.underlying T = some (.slice E))
    (hinfo : (Try.prog.info? E).map (fun i => (i.zero, i.size, i.bytes)) = some (some zero, size, bytes)) (hzs : zero.cells.size = size) (hsz : 0 < size) (hby : bytes ≤ 128)
    {base : Nat} {w : World} {v u : Value} {n m : Nat} {xs ys : List Value} (hs : a.eval s = v) (hown : w.ownsRow base E size v n xs) (hx : a.eval x = u) (hsrc : SrcAt w u m size ys) (h1 : ∀ y ∈ ys, y.oneCell' = true)
    (hlen : n + m ≤ 1099511627776) (hb : base ≤ w.heap.size)
    (h : ∀ v' w', Appended w w' base E size v v' (n + m) (xs ++ ys) → wpList Try.prog ops Q rest (a.put o.dst v') w') :
    wpList Try.prog ops Q (o :: rest) a w := by
  refine wpList_plain hgd fun K hK => ?_
  obtain ⟨v', w', hr, h2⟩ := run_append_wide ht hinfo hzs hsz hby o.type hown hsrc h1 hlen hb
  unfold Oper.wp execOp
  simp only [ho, resolve, invoke, builtin, Sem.run_bind, Sem.run_pure, Result.andThen_ok, List.map_toArray, List.map_cons, List.map_nil, hs, hx, hr]
  exact hK _ _ (h v' w' h2)
end
theorem src_call {w : World} (c : Cl) (v : Value) : SrcAt (w.alloc (callsObj [(c, v)])) (.slice (some ⟨w.heap.size, 0, none⟩) 1 1) 1 9 (c.cells v) :=
  SrcAt.block (E := 35) (blk_at rfl |>.trans (by simp [callsObj])) rfl
theorem src_deal {w : World} (d : Dl) (v : Value) : SrcAt (w.alloc (dealsObj [(d, v)])) (.slice (some ⟨w.heap.size, 0, none⟩) 1 1) 1 6 (d.cells v) :=
  SrcAt.block (E := 25) (blk_at rfl |>.trans (by simp [dealsObj])) rfl
/-- Within a Deal, in memory: b6 and b7 hold what is there, db the Deal with its calls. -/
structure InLoop (w wo : World) (db k : Nat) (lv b e : Int) (s0 : St) (q : Nat) (cs : List (Cl × Value)) (s : St) (ov : Value) (wx : World) : Prop where
  ink : InK s0 q (cs.map (·.1)) s
  row : NewCalls (db + 1) wx ov cs
  prs : ∀ x ∈ cs, PairsIn (fun g => db + 1 ≤ g ∧ ov.ownBlock ≠ some g) wx x.2 x.1.pairs
  deal : wx.heap[db]? = some (.cells #[.int .i64 (k + 1), .int .i64 lv, .int .i64 3, .int .u64 b, .int .u64 e, ov] 25 (0, 0))
  there : ThereAt wx w.heap.size s
  val : ValAt wx (w.heap.size + 1) s
  mod : Mod (fun g => g = w.heap.size ∨ g = w.heap.size + 1) wo wx
  size : db + 1 ≤ wx.heap.size
theorem InLoop.skip {w wo : World} {db k : Nat} {lv b e : Int} {s0 : St} {q : Nat} {cs : List (Cl × Value)} {s : St} {ov : Value} {wx wy : World} (h : InLoop w wo db k lv b e s0 q cs s ov wx) (hb : Below wx.heap.size wx wy) : InLoop w wo db k lv b e s0 (q + 1) cs s ov wy where
  ink := h.ink.skip
  row := h.row.later hb
  prs x hx := (h.prs x hx).mod (F := fun _ => False) (Mod.of_below hb) (fun _ _ _ h => h)
  deal := below_keep hb h.deal
  there := h.there.mod (F := fun _ => False) (Mod.of_below hb) (fun h => h)
  val := h.val.mod (F := fun _ => False) (Mod.of_below hb) (fun h => h)
  mod := h.mod.trans (Mod.of_below hb)
  size := Nat.le_trans h.size hb.size
/-- One call answered, in memory: ob holds the Op, ob + 1 the Result. -/
structure InCall (w wr : World) (ob : Nat) (s : St) (c : Cl) (pv : Value) (wx : World) : Prop where
  ans : answersD s c = true
  key : 0 ≤ c.key ∧ c.key ≤ 7 ∧ c.pairs.length ≤ 10
  wf : c.wf
  opb : wx.heap[ob]? = some (.cells #[.int .i64 c.kind, .int .i64 c.key, .int .i64 c.hi, .int .i64 c.val] 29 (0, 0))
  res : wx.heap[ob + 1]? = some (.cells #[.int .i64 c.e, .int .i64 c.rv, pv, .int .i64 c.over, .int .i64 c.reason] 33 (0, 0))
  prs : PairsIn (fun g => ob ≤ g) wx pv c.pairs
  there : ThereAt wx w.heap.size (s.step c)
  val : ValAt wx (w.heap.size + 1) (s.step c)
  mod : Mod (fun g => g = w.heap.size ∨ g = w.heap.size + 1) wr wx
theorem PairsIn.nil (G : Nat → Prop) (w : World) : PairsIn G w (.slice none 0 0) [] := ⟨.inl ⟨rfl, _, _, rfl, fun _ => rfl⟩, fun g h => by cases h⟩
theorem wrap_i64_wf {x : Int} (h0 : 0 ≤ x) (h1 : x ≤ 9223372036854775807) : (Lit.int .i64 x).wf = true := WalkArith.wf_i64 (by omega)
/-- A call that turns nothing of what is there. -/
theorem InCall.still {w wr : World} {s : St} {c : Cl} (ht : ThereAt wr w.heap.size s) (hv : ValAt wr (w.heap.size + 1) s) (ha : answersD s c = true) (hk : 0 ≤ c.key ∧ c.key ≤ 7) (hp : c.pairs = []) (hw : c.wf) (hs : s.step c = s) :
    InCall w wr wr.heap.size s c (.slice none 0 0) ((wr.alloc (.cells #[.int .i64 c.kind, .int .i64 c.key, .int .i64 c.hi, .int .i64 c.val] 29 (0, 0))).alloc (.cells #[.int .i64 c.e, .int .i64 c.rv, .slice none 0 0, .int .i64 c.over, .int .i64 c.reason] 33 (0, 0))) where
  ans := ha
  key := ⟨hk.1, hk.2, by rw [hp]; exact Nat.zero_le _⟩
  wf := hw
  opb := blk_alloc (blk_new _ _)
  res := blk_at (by simp)
  prs := by rw [hp]; exact PairsIn.nil _ _
  there := by rw [hs]; exact ht.mod (F := fun _ => False) (Mod.of_below (bl_alloc (bl_alloc (Below.refl _ _) _) _)) (fun h => h)
  val := by rw [hs]; exact hv.mod (F := fun _ => False) (Mod.of_below (bl_alloc (bl_alloc (Below.refl _ _) _) _)) (fun h => h)
  mod := Mod.of_below (bl_alloc (bl_alloc (Below.refl _ _) _) _)
/-- A call that turns something. -/
theorem InCall.turned {w wr wx : World} {s : St} {c : Cl} (hz : w.heap.size + 2 ≤ wr.heap.size) (hm : Mod (fun g => g = w.heap.size ∨ g = w.heap.size + 1) ((wr.alloc (.cells #[.int .i64 c.kind, .int .i64 c.key, .int .i64 c.hi, .int .i64 c.val] 29 (0, 0))).alloc (.cells #[.int .i64 c.e, .int .i64 c.rv, .slice none 0 0, .int .i64 c.over, .int .i64 c.reason] 33 (0, 0))) wx) (ht : ThereAt wx w.heap.size (s.step c)) (hv : ValAt wx (w.heap.size + 1) (s.step c)) (ha : answersD s c = true) (hk : 0 ≤ c.key ∧ c.key ≤ 7) (hp : c.pairs = []) (hw : c.wf) :
    InCall w wr wr.heap.size s c (.slice none 0 0) wx where
  ans := ha
  key := ⟨hk.1, hk.2, by rw [hp]; exact Nat.zero_le _⟩
  wf := hw
  opb := hm.keep (blk_alloc (blk_new _ _)) (by omega)
  res := hm.keep (blk_at (by simp)) (by omega)
  prs := by rw [hp]; exact PairsIn.nil _ _
  there := ht
  val := hv
  mod := (Mod.of_below (bl_alloc (bl_alloc (Below.refl _ _) _) _)).trans hm
theorem ThereAt.two {w : World} {g : Nat} {s : St} (h : ThereAt w g s) (o r : Obj) : ThereAt ((w.alloc o).alloc r) g s := h.mod (F := fun _ => False) (Mod.of_below (bl_alloc (bl_alloc (Below.refl _ _) _) _)) (fun h => h)
theorem ValAt.two {w : World} {g : Nat} {s : St} (h : ValAt w g s) (o r : Obj) : ValAt ((w.alloc o).alloc r) g s := h.mod (F := fun _ => False) (Mod.of_below (bl_alloc (bl_alloc (Below.refl _ _) _) _)) (fun h => h)
theorem ThereAt.set {w : World} {g : Nat} {s : St} (h : ThereAt w g s) {p : Addr} (hp : g ≠ p.block) (v : Value) : ThereAt (w.setCell p v) g s := h.mod (F := fun b => b = p.block) (Mod.setCell (F := fun b => b = p.block) (Mod.refl _ _) (.inl rfl) _) hp
theorem ValAt.set {w : World} {g : Nat} {s : St} (h : ValAt w g s) {p : Addr} (hp : g ≠ p.block) (v : Value) : ValAt (w.setCell p v) g s := h.mod (F := fun b => b = p.block) (Mod.setCell (F := fun b => b = p.block) (Mod.refl _ _) (.inl rfl) _) hp
theorem Mod.one {F : Nat → Prop} (w : World) {p : Addr} (hp : F p.block) (v : Value) : Mod F w (w.setCell p v) := (Mod.refl _ _).setCell (.inl hp) _
theorem InLoop.next {w wo wr wc w5 : World} {db k : Nat} {lv b e : Int} {s0 s : St} {q : Nat} {cs : List (Cl × Value)} {ov v' : Value} {cl : Cl} {pv : Value} {o : Obj} (hdb : wo.heap.size = db) (hz : w.heap.size + 2 ≤ db) (h : InLoop w wo db k lv b e s0 q cs s ov wr) (hi : InCall w wr wr.heap.size s cl pv wc)
    (hA : Appended (wc.alloc o) w5 (db + 1) 35 9 ov v' (cs.length + 1) (cs.flatMap (fun c => c.1.cells c.2) ++ cl.cells pv)) : InLoop w wo db k lv b e s0 (q + 1) (cs ++ [(cl, pv)]) (s.step cl) v' (w5.setCell ⟨db, 5, none⟩ v') := by
  have hov := World.ownsRow.lt h.row
  have hv' := World.ownsRow.lt hA.own
  have hsz := h.size
  have hrc : wr.heap.size ≤ wc.heap.size := hi.mod.size
  have hca : Mod (fun _ => False) wc (wc.alloc o) := (Mod.refl _ _).alloc o
  have ha5 : Mod (fun g => ov.ownBlock = some g) (wc.alloc o) w5 := hA.mod fun _ hk => hk
  have h5y : Mod (fun g => g = db) w5 (w5.setCell ⟨db, 5, none⟩ v') := Mod.one (F := fun g => g = db) (p := ⟨db, 5, none⟩) w5 rfl v'
  have hcz : (wc.alloc o).heap.size = wc.heap.size + 1 := by simp
  have hc5 := ha5.size
  have hbk : ∀ g, v'.ownBlock = some g → ov.ownBlock = some g ∨ g = wc.heap.size + 1 := fun g hg => by
    rcases hA.lies with hl | hl
    · exact .inl (hl ▸ hg)
    · rw [hl] at hg
      simp only [Option.some.injEq] at hg
      omega
  refine ⟨?_, ?_, ?_, ?_, ?_, ?_, ?_, ?_⟩
  · have := h.ink.snoc hi.ans hi.key hi.wf
    rw [List.map_append]
    exact this
  · exact (NewCalls.app hA rfl rfl).mod h5y fun g hg => by
      have := (hv' g hg).1
      omega
  · intro x hx
    have h3 : PairsIn (fun g => db + 1 ≤ g ∧ ov.ownBlock ≠ some g ∧ g < wc.heap.size) wc x.2 x.1.pairs := by
      rcases List.mem_append.1 hx with hx | hx
      · exact ((h.prs x hx).mod hi.mod (fun g hg _ => by omega)).mono fun g hg hl => ⟨hg.1, hg.2, hl⟩
      · simp only [List.mem_singleton] at hx
        subst hx
        exact hi.prs.mono fun g hg hl => ⟨by omega, fun e => by have := (hov g e).2; omega, hl⟩
    have h4 := ((h3.mod hca (fun _ _ _ h => h)).mod ha5 (fun g hg _ => hg.2.1)).mod h5y (fun g hg _ => by omega)
    refine h4.mono fun g hg _ => ⟨hg.1, fun e => ?_⟩
    rcases hbk g e with h | h
    · exact hg.2.1 h
    · omega
  · have h1 := ha5.keep (hca.keep (hi.mod.keep h.deal (by omega)) (fun h => h)) (fun e => by have := (hov db e).1; omega)
    have := blk_set (i := 5) (u := v') h1
    simpa using this
  · exact ((hi.there.mod hca (fun h => h)).mod ha5 (fun e => by have := (hov _ e).1; omega)).mod h5y (by omega)
  · exact ((hi.val.mod hca (fun h => h)).mod ha5 (fun e => by have := (hov _ e).1; omega)).mod h5y (by omega)
  · exact (((h.mod.trans hi.mod).trans (hca.mono fun _ h => h.elim)).next ha5 (fun g e => .inr (by have := (hov g e).1; omega))).next h5y (fun g e => .inr (by omega))
  · have := h5y.size
    omega
end Go.Proofs.Ytpohehialkgigaa
