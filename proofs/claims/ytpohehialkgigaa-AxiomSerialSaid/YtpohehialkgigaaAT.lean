/- Rows of calls and of Deals that a law builds; did, deal, base. -/
import Derived.Test.YtpohehialkgigaaAS
import Derived.Test.YtpohehialkgigaaAP
namespace Go.Proofs.Ytpohehialkgigaa
open Go.RowKit
theorem flat_get {α : Type} {f : α → List Value} {size : Nat} (hf : ∀ c, (f c).length = size) (d : α) : ∀ (l : List α) (i q : Nat), i < l.length → q < size → (l.flatMap f)[i * size + q]? = (f (l.getD i d))[q]?
  | [], i, q, hi, _ => by simp at hi
  | c :: r, 0, q, _, hq => by
    simp only [List.flatMap_cons, Nat.zero_mul, Nat.zero_add, List.getD_cons_zero]
    rw [List.getElem?_append_left (by rw [hf]; exact hq)]
  | c :: r, i + 1, q, hi, hq => by
    have ih := flat_get hf d r i q (by simpa using hi) hq
    simp only [List.flatMap_cons, List.getD_cons_succ]
    rw [show (i + 1) * size + q = size + (i * size + q) by rw [Nat.add_mul]; omega, List.getElem?_append_right (by rw [hf]; omega), hf, show size + (i * size + q) - size = i * size + q by omega]
    exact ih
theorem Cl.cells_len (c : Cl × Value) : (c.1.cells c.2).length = 9 := rfl
theorem Dl.cells_len (c : Dl × Value) : (c.1.cells c.2).length = 6 := rfl
theorem calls_block {w : World} {g : Nat} {T : TypeId} {l : List (Cl × Value)} (hb : w.heap[g]? = some (.cells (l.flatMap fun c => c.1.cells c.2).toArray T (0, 0))) (hp : ∀ c ∈ l, PairsAt w c.2 c.1.pairs) : CallsAt w (.slice (some ⟨g, 0, none⟩) l.length l.length) (l.map (·.1)) := by
  refine .inr ⟨g, 0, l.length, by simp, by simp, blk_lt hb, fun i hi => ?_⟩
  have hi' : i < l.length := by simpa using hi
  have e : (l.map (·.1)).getD i cl0 = (l.getD i (cl0, undef)).1 := by simp [List.getD_eq_getElem?_getD, hi']
  rw [e]
  refine ⟨(l.getD i (cl0, undef)).2, fun q hq => ?_, hp _ (by rw [List.getD_eq_getElem?_getD]; simp [hi'])⟩
  rw [blk_cell hb, Nat.zero_add]
  have := flat_get Cl.cells_len (cl0, undef) l i q hi' hq
  simpa using this
theorem deals_block {w : World} {g : Nat} {T : TypeId} {l : List (Dl × Value)} (hb : w.heap[g]? = some (.cells (l.flatMap fun c => c.1.cells c.2).toArray T (0, 0))) (hp : ∀ c ∈ l, CallsAt w c.2 c.1.ops) : DealsAt w (.slice (some ⟨g, 0, none⟩) l.length l.length) (l.map (·.1)) := by
  refine .inr ⟨g, 0, l.length, by simp, by simp, blk_lt hb, fun i hi => ?_⟩
  have hi' : i < l.length := by simpa using hi
  have e : (l.map (·.1)).getD i dl0 = (l.getD i (dl0, undef)).1 := by simp [List.getD_eq_getElem?_getD, hi']
  rw [e]
  refine ⟨(l.getD i (dl0, undef)).2, fun q hq => ?_, hp _ (by rw [List.getD_eq_getElem?_getD]; simp [hi'])⟩
  rw [blk_cell hb, Nat.zero_add]
  have := flat_get Dl.cells_len (dl0, undef) l i q hi' hq
  simpa using this
def callsObj (l : List (Cl × Value)) : Obj := .cells (l.flatMap fun c => c.1.cells c.2).toArray 35 (0, 0)
def dealsObj (l : List (Dl × Value)) : Obj := .cells (l.flatMap fun c => c.1.cells c.2).toArray 25 (0, 0)
theorem calls_new (w : World) (l : List (Cl × Value)) (hp : ∀ c ∈ l, PairsAt w c.2 c.1.pairs) : CallsAt (w.alloc (callsObj l)) (.slice (some ⟨w.heap.size, 0, none⟩) l.length l.length) (l.map (·.1)) :=
  calls_block (blk_new w _) fun c hc => (hp c hc).later (bl_alloc (Below.refl _ _) _)
theorem deals_new (w : World) (l : List (Dl × Value)) (hp : ∀ c ∈ l, CallsAt w c.2 c.1.ops) : DealsAt (w.alloc (dealsObj l)) (.slice (some ⟨w.heap.size, 0, none⟩) l.length l.length) (l.map (·.1)) :=
  deals_block (blk_new w _) fun c hc => (hp c hc).later (bl_alloc (Below.refl _ _) _)
def callZero : Value := .agg #[.int .i64 0, .int .i64 0, .int .i64 0, .int .i64 0, .int .i64 0, .int .i64 0, .slice none 0 0, .int .i64 0, .int .i64 0]
def dealZero : Value := .agg #[.int .i64 0, .int .i64 0, .int .i64 0, .int .u64 0, .int .u64 0, .slice none 0 0]
theorem info_call : (Try.prog.info? 35).map (fun i => (i.zero, i.size)) = some (some callZero, 9) := by kernel_rfl
theorem info_deal : (Try.prog.info? 25).map (fun i => (i.zero, i.size)) = some (some dealZero, 6) := by kernel_rfl
theorem build_call1 {ops : Array Oper} {rest : List Oper} {o : Oper} {a : Act} {w : World} {Q : Exit → Act → World → Prop} (hg : o.guard = none) (x0 : Operand) (ho : o.op = .buildSlice 23 1 #[(0, x0)]) (c0 : Cl) {a0 : Option Addr} {n0 m0 : Nat} (h0 : a.eval x0 = .agg (c0.cells (.slice a0 n0 m0)).toArray)
    (h : wpList Try.prog ops Q rest (a.put o.dst (.slice (some ⟨w.heap.size, 0, none⟩) 1 1)) (w.alloc (callsObj [(c0, .slice a0 n0 m0)]))) : wpList Try.prog ops Q (o :: rest) a w := by
  have hi := info_call
  cases hie : Try.prog.info? 35 with
  | none => rw [hie] at hi; cases hi
  | some ie =>
    rw [hie] at hi
    simp only [Option.map_some, Option.some.injEq, Prod.mk.injEq] at hi
    obtain ⟨hz, hs⟩ := hi
    refine wpList_buildSlice hg 23 35 1 _ ho _ ie _ Try.underlying23 hie hz (by rw [hs]; decide) (by rw [hs]; decide) ?_ h
    rw [hs]
    simp only [List.map_toArray, List.map_cons, List.map_nil, h0]
    kernel_rfl
theorem build_call2 {ops : Array Oper} {rest : List Oper} {o : Oper} {a : Act} {w : World} {Q : Exit → Act → World → Prop} (hg : o.guard = none) (x0 x1 : Operand) (ho : o.op = .buildSlice 23 2 #[(0, x0), (1, x1)]) (c0 c1 : Cl) {a0 a1 : Option Addr} {n0 m0 n1 m1 : Nat} (h0 : a.eval x0 = .agg (c0.cells (.slice a0 n0 m0)).toArray) (h1 : a.eval x1 = .agg (c1.cells (.slice a1 n1 m1)).toArray)
    (h : wpList Try.prog ops Q rest (a.put o.dst (.slice (some ⟨w.heap.size, 0, none⟩) 2 2)) (w.alloc (callsObj [(c0, .slice a0 n0 m0), (c1, .slice a1 n1 m1)]))) : wpList Try.prog ops Q (o :: rest) a w := by
  have hi := info_call
  cases hie : Try.prog.info? 35 with
  | none => rw [hie] at hi; cases hi
  | some ie =>
    rw [hie] at hi
    simp only [Option.map_some, Option.some.injEq, Prod.mk.injEq] at hi
    obtain ⟨hz, hs⟩ := hi
    refine wpList_buildSlice hg 23 35 2 _ ho _ ie _ Try.underlying23 hie hz (by rw [hs]; decide) (by rw [hs]; decide) ?_ h
    rw [hs]
    simp only [List.map_toArray, List.map_cons, List.map_nil, h0, h1]
    kernel_rfl
theorem build_call8 {ops : Array Oper} {rest : List Oper} {o : Oper} {a : Act} {w : World} {Q : Exit → Act → World → Prop} (hg : o.guard = none) (x0 x1 x2 x3 x4 x5 x6 x7 : Operand) (ho : o.op = .buildSlice 23 8 #[(0, x0), (1, x1), (2, x2), (3, x3), (4, x4), (5, x5), (6, x6), (7, x7)]) (c0 c1 c2 c3 c4 c5 c6 c7 : Cl) {a0 a1 a2 a3 a4 a5 a6 a7 : Option Addr} {n0 m0 n1 m1 n2 m2 n3 m3 n4 m4 n5 m5 n6 m6 n7 m7 : Nat} (h0 : a.eval x0 = .agg (c0.cells (.slice a0 n0 m0)).toArray) (h1 : a.eval x1 = .agg (c1.cells (.slice a1 n1 m1)).toArray) (h2 : a.eval x2 = .agg (c2.cells (.slice a2 n2 m2)).toArray) (h3 : a.eval x3 = .agg (c3.cells (.slice a3 n3 m3)).toArray) (h4 : a.eval x4 = .agg (c4.cells (.slice a4 n4 m4)).toArray) (h5 : a.eval x5 = .agg (c5.cells (.slice a5 n5 m5)).toArray) (h6 : a.eval x6 = .agg (c6.cells (.slice a6 n6 m6)).toArray) (h7 : a.eval x7 = .agg (c7.cells (.slice a7 n7 m7)).toArray)
    (h : wpList Try.prog ops Q rest (a.put o.dst (.slice (some ⟨w.heap.size, 0, none⟩) 8 8)) (w.alloc (callsObj [(c0, .slice a0 n0 m0), (c1, .slice a1 n1 m1), (c2, .slice a2 n2 m2), (c3, .slice a3 n3 m3), (c4, .slice a4 n4 m4), (c5, .slice a5 n5 m5), (c6, .slice a6 n6 m6), (c7, .slice a7 n7 m7)]))) : wpList Try.prog ops Q (o :: rest) a w := by
  have hi := info_call
  cases hie : Try.prog.info? 35 with
  | none => rw [hie] at hi; cases hi
  | some ie =>
    rw [hie] at hi
    simp only [Option.map_some, Option.some.injEq, Prod.mk.injEq] at hi
    obtain ⟨hz, hs⟩ := hi
    refine wpList_buildSlice hg 23 35 8 _ ho _ ie _ Try.underlying23 hie hz (by rw [hs]; decide) (by rw [hs]; decide) ?_ h
    rw [hs]
    simp only [List.map_toArray, List.map_cons, List.map_nil, h0, h1, h2, h3, h4, h5, h6, h7]
    kernel_rfl
theorem build_deal1 {ops : Array Oper} {rest : List Oper} {o : Oper} {a : Act} {w : World} {Q : Exit → Act → World → Prop} (hg : o.guard = none) (x0 : Operand) (ho : o.op = .buildSlice 37 1 #[(0, x0)]) (c0 : Dl) {a0 : Option Addr} {n0 m0 : Nat} (h0 : a.eval x0 = .agg (c0.cells (.slice a0 n0 m0)).toArray)
    (h : wpList Try.prog ops Q rest (a.put o.dst (.slice (some ⟨w.heap.size, 0, none⟩) 1 1)) (w.alloc (dealsObj [(c0, .slice a0 n0 m0)]))) : wpList Try.prog ops Q (o :: rest) a w := by
  have hi := info_deal
  cases hie : Try.prog.info? 25 with
  | none => rw [hie] at hi; cases hi
  | some ie =>
    rw [hie] at hi
    simp only [Option.map_some, Option.some.injEq, Prod.mk.injEq] at hi
    obtain ⟨hz, hs⟩ := hi
    refine wpList_buildSlice hg 37 25 1 _ ho _ ie _ Try.underlying37 hie hz (by rw [hs]; decide) (by rw [hs]; decide) ?_ h
    rw [hs]
    simp only [List.map_toArray, List.map_cons, List.map_nil, h0]
    kernel_rfl
theorem build_deal2 {ops : Array Oper} {rest : List Oper} {o : Oper} {a : Act} {w : World} {Q : Exit → Act → World → Prop} (hg : o.guard = none) (x0 x1 : Operand) (ho : o.op = .buildSlice 37 2 #[(0, x0), (1, x1)]) (c0 c1 : Dl) {a0 a1 : Option Addr} {n0 m0 n1 m1 : Nat} (h0 : a.eval x0 = .agg (c0.cells (.slice a0 n0 m0)).toArray) (h1 : a.eval x1 = .agg (c1.cells (.slice a1 n1 m1)).toArray)
    (h : wpList Try.prog ops Q rest (a.put o.dst (.slice (some ⟨w.heap.size, 0, none⟩) 2 2)) (w.alloc (dealsObj [(c0, .slice a0 n0 m0), (c1, .slice a1 n1 m1)]))) : wpList Try.prog ops Q (o :: rest) a w := by
  have hi := info_deal
  cases hie : Try.prog.info? 25 with
  | none => rw [hie] at hi; cases hi
  | some ie =>
    rw [hie] at hi
    simp only [Option.map_some, Option.some.injEq, Prod.mk.injEq] at hi
    obtain ⟨hz, hs⟩ := hi
    refine wpList_buildSlice hg 37 25 2 _ ho _ ie _ Try.underlying37 hie hz (by rw [hs]; decide) (by rw [hs]; decide) ?_ h
    rw [hs]
    simp only [List.map_toArray, List.map_cons, List.map_nil, h0, h1]
    kernel_rfl
theorem build_deal3 {ops : Array Oper} {rest : List Oper} {o : Oper} {a : Act} {w : World} {Q : Exit → Act → World → Prop} (hg : o.guard = none) (x0 x1 x2 : Operand) (ho : o.op = .buildSlice 37 3 #[(0, x0), (1, x1), (2, x2)]) (c0 c1 c2 : Dl) {a0 a1 a2 : Option Addr} {n0 m0 n1 m1 n2 m2 : Nat} (h0 : a.eval x0 = .agg (c0.cells (.slice a0 n0 m0)).toArray) (h1 : a.eval x1 = .agg (c1.cells (.slice a1 n1 m1)).toArray) (h2 : a.eval x2 = .agg (c2.cells (.slice a2 n2 m2)).toArray)
    (h : wpList Try.prog ops Q rest (a.put o.dst (.slice (some ⟨w.heap.size, 0, none⟩) 3 3)) (w.alloc (dealsObj [(c0, .slice a0 n0 m0), (c1, .slice a1 n1 m1), (c2, .slice a2 n2 m2)]))) : wpList Try.prog ops Q (o :: rest) a w := by
  have hi := info_deal
  cases hie : Try.prog.info? 25 with
  | none => rw [hie] at hi; cases hi
  | some ie =>
    rw [hie] at hi
    simp only [Option.map_some, Option.some.injEq, Prod.mk.injEq] at hi
    obtain ⟨hz, hs⟩ := hi
    refine wpList_buildSlice hg 37 25 3 _ ho _ ie _ Try.underlying37 hie hz (by rw [hs]; decide) (by rw [hs]; decide) ?_ h
    rw [hs]
    simp only [List.map_toArray, List.map_cons, List.map_nil, h0, h1, h2]
    kernel_rfl
def didC (kind key v : Int) : Cl := if kind = 1 then ⟨1, key, 0, 0, 0, v, [], 0, 0⟩ else ⟨kind, key, 0, v, 0, 0, [], 0, 0⟩
set_option maxRecDepth 100000 in
set_option maxHeartbeats 1600000 in
theorem did_any (kind key v : Int) (w : World) :
    Calls Try.prog 13 #[.int .i64 kind, .int .i64 key, .int .i64 v] w fun e w' => e = .returned (.agg ((didC kind key v).cells (.slice none 0 0)).toArray) ∧ Below w.heap.size w w' := by
  unfold didC
  by_cases h : kind = 1
  · have e1 := bq_t h
    rw [if_pos h]
    subst h
    simp only [Cl.cells]
    go_enter Try.func13, Try.ntmps13
    go_wp2_with fail
    refine bodyPost_ret (v := .agg #[.int .i64 1, .int .i64 key, .int .i64 0, .int .i64 0, .int .i64 0, .int .i64 v, .slice none 0 0, .int .i64 0, .int .i64 0]) (by simp [results, Try.results13, go_sem]) rfl ⟨rfl, bl_alloc (bl_alloc (Below.refl _ _) _) _⟩
  · have e1 := bq_f h
    rw [if_neg h]
    simp only [Cl.cells]
    clear h
    go_enter Try.func13, Try.ntmps13
    go_wp2_with fail
    refine bodyPost_ret (v := .agg #[.int .i64 kind, .int .i64 key, .int .i64 0, .int .i64 v, .int .i64 0, .int .i64 0, .slice none 0 0, .int .i64 0, .int .i64 0]) (by simp [results, Try.results13, go_sem]) rfl ⟨rfl, bl_alloc (bl_alloc (Below.refl _ _) _) _⟩
set_option maxRecDepth 100000 in
set_option maxHeartbeats 1600000 in
theorem deal_any (id lv bg en : Int) (a : Option Addr) (n cap : Nat) (w : World) :
    Calls Try.prog 12 #[.int .i64 id, .int .i64 lv, .int .u64 bg, .int .u64 en, .slice a n cap] w fun e w' => e = .returned (.agg #[.int .i64 id, .int .i64 lv, .int .i64 3, .int .u64 bg, .int .u64 en, .slice a n cap]) ∧ Below w.heap.size w w' := by
  go_enter Try.func12, Try.ntmps12
  go_wp2_with fail
  refine bodyPost_ret (v := .agg #[.int .i64 id, .int .i64 lv, .int .i64 3, .int .u64 bg, .int .u64 en, .slice a n cap]) (by simp [results, Try.results12, go_sem]) rfl ⟨rfl, bl_alloc (Below.refl _ _) _⟩
theorem Mod.set6 {w w4 : World} {B : Nat} {F : Nat → Prop} (h : Mod F w w4) (hB : F B) (u0 u1 u2 u3 u4 u5 : Value) : Mod F w ((((((w4.setCell ⟨B, 0, none⟩ u0).setCell ⟨B, 1, none⟩ u1).setCell ⟨B, 2, none⟩ u2).setCell ⟨B, 3, none⟩ u3).setCell ⟨B, 4, none⟩ u4).setCell ⟨B, 5, none⟩ u5) :=
  (((((h.setCell (p := ⟨B, 0, none⟩) (.inl hB) u0).setCell (p := ⟨B, 1, none⟩) (.inl hB) u1).setCell (p := ⟨B, 2, none⟩) (.inl hB) u2).setCell (p := ⟨B, 3, none⟩) (.inl hB) u3).setCell (p := ⟨B, 4, none⟩) (.inl hB) u4).setCell (p := ⟨B, 5, none⟩) (.inl hB) u5
def baseD : Dl := ⟨1, 3, 3, 1, 2, [didC 2 1 10, didC 2 2 20]⟩
theorem did_pairs (w : World) (kind key v : Int) : PairsAt w (.slice none 0 0) (didC kind key v).pairs := by
  have : (didC kind key v).pairs = [] := by unfold didC; split <;> rfl
  rw [this]
  exact .inl ⟨rfl, _, _, rfl, fun _ => rfl⟩
set_option maxRecDepth 100000 in
set_option maxHeartbeats 1600000 in
theorem base_any (w : World) :
    Calls Try.prog 11 #[] w fun e w' => ∃ g, e = .returned (.agg #[.int .i64 1, .int .i64 3, .int .i64 3, .int .u64 1, .int .u64 2, .slice (some ⟨g, 0, none⟩) 2 2]) ∧ CallsAt w' (.slice (some ⟨g, 0, none⟩) 2 2) baseD.ops ∧ Below w.heap.size w w' := by
  go_enter Try.func11, Try.ntmps11
  go_upto_region 1 with fail
  have hb0 := bl_alloc (Below.refl w.heap.size w) (.cells #[.int .i64 0, .int .i64 0, .int .i64 0, .int .u64 0, .int .u64 0, .slice none 0 0] 25 (0, 0))
  have hbk := blk_new w (.cells #[.int .i64 0, .int .i64 0, .int .i64 0, .int .u64 0, .int .u64 0, .slice none 0 0] 25 (0, 0))
  generalize w.alloc (.cells #[.int .i64 0, .int .i64 0, .int .i64 0, .int .u64 0, .int .u64 0, .slice none 0 0] 25 (0, 0)) = w1 at *
  go_wp2_with fail
  refine (did_any 2 1 10 _).mono ?_
  rintro e w2 ⟨rfl, hb2⟩
  go_wp2_with fail
  refine (did_any 2 2 20 _).mono ?_
  rintro e w3 ⟨rfl, hb3⟩
  go_wp2_with (with_reducible show wpList Try.prog _ _ (Oper.mk _ (Op.buildSlice 23 2 _) _ _ _ _ :: _) _ _; refine build_call2 rfl (.tmp 1) (.tmp 2) rfl (didC 2 1 10) (didC 2 2 20) rfl rfl ?_; simp only [Act.put, List.setIfInBounds_toArray, List.set_cons_zero, List.set_cons_succ])
  refine (deal_any 1 3 1 2 _ _ _ _).mono ?_
  rintro e w4 ⟨rfl, hb4⟩
  have HCB := Lib.hid (below_keep hb4 (blk_new w3 (callsObj [(didC 2 1 10, .slice none 0 0), (didC 2 2 20, .slice none 0 0)])))
  have HNE := Lib.hid (Nat.ne_of_gt (blk_lt (below_keep hb3 (below_keep hb2 hbk))))
  have hb5 := bl_next (bl_alloc (bl_next (bl_next hb0 hb2) hb3) _) hb4
  have hk4 := below_keep hb4 (blk_alloc (below_keep hb3 (below_keep hb2 hbk)))
  have hBl : w.heap.size < w4.heap.size := blk_lt hk4
  have HK4 := Lib.hid hk4
  have HB5 := Lib.hid hb5
  have x0 := blk_cell hk4 0
  have x1 := blk_cell hk4 1
  have x2 := blk_cell hk4 2
  have x3 := blk_cell hk4 3
  have x4 := blk_cell hk4 4
  have x5 := blk_cell hk4 5
  have f0 := blk_free hk4 0
  have f1 := blk_free hk4 1
  have f2 := blk_free hk4 2
  have f3 := blk_free hk4 3
  have f4 := blk_free hk4 4
  have f5 := blk_free hk4 5
  simp at x0 x1 x2 x3 x4 x5
  clear hb5 hk4 hb4 hb3 hb2 hb0 hbk
  go_wp2_with fail
  have hk9 := blk_set (i := 5) (u := .slice (some ⟨w3.heap.size, 0, none⟩) 2 2) (blk_set (i := 4) (u := .int .u64 2) (blk_set (i := 3) (u := .int .u64 1) (blk_set (i := 2) (u := .int .i64 3) (blk_set (i := 1) (u := .int .i64 3) (blk_set (i := 0) (u := .int .i64 1) HK4.out)))))
  have hcb := blk_other (p := ⟨w.heap.size, 5, none⟩) (u := .slice (some ⟨w3.heap.size, 0, none⟩) 2 2) (blk_other (p := ⟨w.heap.size, 4, none⟩) (u := .int .u64 2) (blk_other (p := ⟨w.heap.size, 3, none⟩) (u := .int .u64 1) (blk_other (p := ⟨w.heap.size, 2, none⟩) (u := .int .i64 3) (blk_other (p := ⟨w.heap.size, 1, none⟩) (u := .int .i64 3) (blk_other (p := ⟨w.heap.size, 0, none⟩) (u := .int .i64 1) HCB.out HNE.out) HNE.out) HNE.out) HNE.out) HNE.out) HNE.out
  have hM := Mod.set6 (F := fun i => w.heap.size ≤ i) (B := w.heap.size) (Mod.of_below HB5.out) (Nat.le_refl _) (.int .i64 1) (.int .i64 3) (.int .i64 3) (.int .u64 1) (.int .u64 2) (.slice (some ⟨w3.heap.size, 0, none⟩) 2 2)
  generalize (((((w4.setCell ⟨w.heap.size, 0, none⟩ (.int .i64 1)).setCell ⟨w.heap.size, 1, none⟩ (.int .i64 3)).setCell ⟨w.heap.size, 2, none⟩ (.int .i64 3)).setCell ⟨w.heap.size, 3, none⟩ (.int .u64 1)).setCell ⟨w.heap.size, 4, none⟩ (.int .u64 2)).setCell ⟨w.heap.size, 5, none⟩ (.slice (some ⟨w3.heap.size, 0, none⟩) 2 2) = wf at *
  have z0 := blk_cell hk9 0
  have z1 := blk_cell hk9 1
  have z2 := blk_cell hk9 2
  have z3 := blk_cell hk9 3
  have z4 := blk_cell hk9 4
  have z5 := blk_cell hk9 5
  simp at z0 z1 z2 z3 z4 z5
  refine bodyPost_ret (v := .agg #[.int .i64 1, .int .i64 3, .int .i64 3, .int .u64 1, .int .u64 2, .slice (some ⟨w3.heap.size, 0, none⟩) 2 2]) (by simp [results, Try.results11, go_sem, z0, z1, z2, z3, z4, z5]) rfl ⟨_, rfl, ?_, hM.below (fun _ h => h) (Nat.le_refl _)⟩
  refine calls_block (l := [(didC 2 1 10, .slice none 0 0), (didC 2 2 20, .slice none 0 0)]) hcb ?_
  intro c hc
  simp only [List.mem_cons, List.not_mem_nil, or_false] at hc
  rcases hc with rfl | rfl <;> exact did_pairs _ _ _ _
end Go.Proofs.Ytpohehialkgigaa
