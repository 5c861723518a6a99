/- HashPlays' things beside the index: who is there, how many each has, SameInts. -/
import Derived.Test.YtoidmakaijkglaaGreatHX
import Derived.Deep.LoopGhost
import Derived.BigQuiet
namespace Go.Proofs.YtoidmakaijkglaaGreat
open Go.RowKit
theorem neq_at {l m : List Int} {k : Nat} (_hk : k < l.length) (h : l.getD k 0 ≠ m.getD k 0) : l ≠ m := fun e => h (by rw [e])
theorem eq_all {l m : List Int} (hl : l.length = m.length) (h : ∀ k, k < l.length → l.getD k 0 = m.getD k 0) : l = m := by
  refine List.ext_getElem hl fun k h1 h2 => ?_
  have := h k h1
  simpa [List.getD_eq_getElem?_getD, h1, h2] using this
theorem RowAt.form {k : IntKind} {w : World} {v : Value} {l : List Int} (h : RowAt k w v l) : ∃ a cap, v = .slice a l.length cap ∧ l.length ≤ maxLen ∧ ∀ i, i < l.length → ∃ g o, a = some ⟨g, o, none⟩ := by
  rcases h with ⟨rfl, a, cap, rfl, _⟩ | ⟨g, o, cap, rfl, _, hm, _⟩
  · exact ⟨a, cap, rfl, by simp, fun i hi => by simp at hi⟩
  · exact ⟨_, cap, rfl, hm, fun _ _ => ⟨g, o, rfl⟩⟩
theorem RowAt.at_ {k : IntKind} {w : World} {g o n cap : Nat} {l : List Int} (h : RowAt k w (.slice (some ⟨g, o, none⟩) n cap) l) {i : Nat} (hi : i < l.length) : w.cell? ⟨g, o + i, none⟩ = some (.int k (l.getD i 0)) := by
  rcases h with ⟨rfl, _⟩ | ⟨g', o', cap', hv, _, _, _, hc⟩
  · simp at hi
  · simp only [Value.slice.injEq, Option.some.injEq, Addr.mk.injEq, and_true] at hv
    obtain ⟨⟨rfl, rfl⟩, rfl, rfl⟩ := hv
    exact hc i hi

set_option maxRecDepth 100000 in
set_option maxHeartbeats 1600000 in
theorem same_ints {w : World} {va vb : Value} {l m : List Int} (ha : RowAt .i64 w va l) (hb : RowAt .i64 w vb m) :
    Calls Tryz.prog 19 #[va, vb] w fun e w' => e = .returned (.bool (decide (l = m))) ∧ Below w.heap.size w w' := by
  obtain ⟨a, ca, rfl, na, xa⟩ := ha.form
  obtain ⟨b, cb, rfl, nb, xb⟩ := hb.form
  unfold maxLen at na nb
  have HA := Lib.hid ha
  have HB := Lib.hid hb
  clear ha hb
  by_cases hlen : l.length = m.length
  · have HL := Lib.hid hlen
    have hnn : ((l.length : Int) != (m.length : Int)) = false := by simp [hlen]
    have XA := Lib.hid xa
    have XB := Lib.hid xb
    clear xa xb hlen
    obtain ⟨n, hn⟩ : ∃ n, n = m.length := ⟨_, rfl⟩
    go_enter Tryz.func19, Tryz.ntmps19
    go_wp2_with fail
    go_loopg [5] (l.length) (fun kx iv wr => ∃ (k : Nat), iv = .int .i64 (k : Int) ∧ k ≤ l.length ∧ l.length - k ≤ kx ∧ Hid (∀ j, j < k → l.getD j 0 = m.getD j 0) ∧ Hid (Below w.heap.size w wr))
    case atStart => exact ⟨0, rfl, Nat.zero_le _, by omega, Lib.hid (fun j hj => by omega), Lib.hid (Below.refl _ _)⟩
    case round =>
      obtain ⟨k, rfl, hk, hkx, HE, HBB⟩ := hrel
      have p0 : (0 : Int) ≤ (k : Int) := by omega
      by_cases hlt : k < l.length
      · have hlt2 : k < m.length := by rw [← HL.out]; exact hlt
        have p1 : (k : Int) < (l.length : Int) := by omega
        have p2 : (k : Int) < (m.length : Int) := by omega
        obtain ⟨ga, oa, rfl⟩ := XA.out k hlt
        obtain ⟨gb, ob, rfl⟩ := XB.out k hlt2
        have d1 := (HA.out.later HBB.out).at_ hlt
        have d2 := (HB.out.later HBB.out).at_ hlt2
        have hstep : l.getD k 0 = m.getD k 0 → ∀ j, j < k + 1 → l.getD j 0 = m.getD j 0 := fun e j hj => by
          by_cases h : j = k
          · rw [h]; exact e
          · exact HE.out j (by omega)
        have HST := Lib.hid hstep
        have HNE := Lib.hid (fun (e : l.getD k 0 ≠ m.getD k 0) => (neq_at hlt e))
        have HBN := Lib.hid (fun n => (HBB.out.trans (((Mod.refl (fun _ => False) wr).drewN n).below (fun _ h => h.elim) HBB.out.size)))
        clear hstep hlt2
        generalize l.getD k 0 = x at *
        generalize m.getD k 0 = y at *
        clear HE HBB
        by_cases hxy : x = y
        · have hne : (x != y) = false := by simp [hxy]
          have HS2 := Lib.hid (HST.out hxy)
          clear HST HNE hxy
          go_wp2_with fail
          go_quiet (fail)
          have HB2 := Lib.hid (HBN.out nq)
          generalize wr.drewN nq = wq at *
          go_wp2_with fail
          go_roundg (l.length - (k + 1))
          case rel => exact ⟨k + 1, by go_num, by omega, by omega, HS2, HB2⟩
          case measure => omega
        · have hne : (x != y) = true := by simpa using hxy
          have hlm := HNE.out hxy
          have hdec : decide (l = m) = false := by simpa using hlm
          have HD := Lib.hid hdec
          clear HST HNE hxy hdec hlm
          go_wp2_with fail
          go_quiet (fail)
          have HB2 := Lib.hid (HBN.out nq)
          generalize wr.drewN nq = wq at *
          go_wp2_with fail
          go_ret
          exact ⟨by rw [HD.out]; rfl, HB2.out⟩
      · obtain rfl : k = l.length := by omega
        have hlm := eq_all HL.out HE.out
        have hdec : decide (l = m) = true := by simpa using hlm
        have HD := Lib.hid hdec
        clear hlm hdec
        go_wp2_with fail
        go_ret
        exact ⟨by rw [HD.out]; rfl, HBB.out⟩
  · have hnn : ((l.length : Int) != (m.length : Int)) = true := by simp; omega
    have hdec : decide (l = m) = false := by simp; exact fun e => hlen (by rw [e])
    have HD := Lib.hid hdec
    clear hdec xa xb
    go_enter Tryz.func19, Tryz.ntmps19
    go_wp2_with fail
    go_ret
    exact ⟨by rw [HD.out]; rfl, Below.refl _ _⟩


/-! ### The two arrays -/
def intCells (B : List Int) : Array Value := (B.map (Value.int .i64)).toArray
theorem ic_at {B : List Int} {i : Nat} (h : i < B.length) : (intCells B)[i]? = some (.int .i64 (B.getD i 0)) := by
  simp [intCells, List.getD_eq_getElem?_getD, h]
theorem ic_set (B : List Int) (i : Nat) (v : Int) : (intCells B).setIfInBounds i (.int .i64 v) = intCells (B.set i v) := by
  simp [intCells, List.map_set]
/-- An array of numbers. -/
def obInts (g : Nat) (B : List Int) (T : TypeId) : Ob := ⟨fun k => k = g, fun w => w.heap[g]? = some (.cells (intCells B) T (0, 0)), fun w h k hk => by rw [hk]; exact blk_lt h, fun w w' G h hm ha => hm.keep h (ha g rfl)⟩
section
variable {w0 w : World} {g : Nat} {B : List Int} {T : TypeId} {Q : List Ob}
theorem Sep.ints (h : Sep w0 w Q) (n : Nat) (T : TypeId) : Sep w0 (w.alloc (.cells (intCells (List.replicate n 0)) T)) (obInts w.heap.size (List.replicate n 0) T :: Q) :=
  h.new (A := obInts w.heap.size (List.replicate n 0) T) ((Below.refl _ _).alloc (Nat.le_refl _) _) (blk_new _ _) (fun _ hk => Nat.le_of_eq hk.symm)
theorem Sep.ints_set (h : Sep w0 w (obInts g B T :: Q)) (i : Nat) (v : Int) : Sep w0 (w.setCell ⟨g, i, none⟩ (.int .i64 v)) (obInts g (B.set i v) T :: Q) := by
  refine h.step (A' := obInts g (B.set i v) T) ?_ (Mod.setCell (F := fun k => k = g) (Mod.refl _ w) (p := ⟨g, i, none⟩) (.inl rfl) _) (Grows.refl _ _)
  show (w.setCell ⟨g, i, none⟩ (.int .i64 v)).heap[g]? = _
  rw [blk_set h.head, ic_set]
theorem Sep.ints_at (h : Sep w0 w (obInts g B T :: Q)) {i : Nat} (hi : i < B.length) : w.cell? ⟨g, i, none⟩ = some (.int .i64 (B.getD i 0)) := by
  rw [blk_cell h.head, ic_at hi]
end
theorem alloc_len64 (w : World) : (Instr.alloc 47 true (.tuple #[])).run Tryz.prog w = .ok (.pointer (some ⟨w.heap.size, 0, none⟩)) (w.alloc (.cells (intCells (List.replicate 64 0)) 47)) := by
  have : ∀ w, (Instr.alloc 47 true (.tuple #[])).run Tryz.prog w = .ok (.pointer (some ⟨w.heap.size, 0, none⟩)) (w.alloc (.cells (List.replicate 64 (Value.int .i64 0)).toArray 47)) := fun w => by kernel_rfl
  rw [this]
  simp [intCells]
def thereB (K : List Nat) : List Bool := (List.range 64).map fun k => decide (k ∈ K)
def lenI (L : Nat → List Int) : List Int := (List.range 64).map fun k => ((L k).length : Int)
theorem thereB_len (K : List Nat) : (thereB K).length = 64 := by simp [thereB]
theorem lenI_len (L : Nat → List Int) : (lenI L).length = 64 := by simp [lenI]
theorem thereB_at {K : List Nat} {k : Nat} (h : k < 64) : (thereB K).getD k false = decide (k ∈ K) := by simp [thereB, List.getD_eq_getElem?_getD, h]
theorem lenI_at {L : Nat → List Int} {k : Nat} (h : k < 64) : (lenI L).getD k 0 = ((L k).length : Int) := by simp [lenI, List.getD_eq_getElem?_getD, h]
theorem thereB_nil : thereB [] = List.replicate 64 false := rfl
theorem lenI_nil : lenI (fun _ => []) = List.replicate 64 0 := rfl
theorem map_upd {α : Type} (f : Nat → α) (k : Nat) (v : α) : ((List.range 64).map f).set k v = (List.range 64).map (fun i => if i = k then v else f i) := by
  refine List.ext_getElem (by simp) fun i h1 h2 => ?_
  rw [List.getElem_set]
  simp only [List.getElem_map, List.getElem_range]
  by_cases e : k = i
  · rw [if_pos e, if_pos e.symm]
  · rw [if_neg e, if_neg (fun h => e h.symm)]
theorem thereB_put (K : List Nat) (k : Nat) : (thereB K).set k true = thereB (K ++ [k]) := by
  unfold thereB
  rw [map_upd]
  refine List.map_congr_left fun i _ => ?_
  by_cases e : i = k <;> simp [e]
theorem thereB_drop (K : List Nat) (k : Nat) : (thereB K).set k false = thereB (dropK K k) := by
  unfold thereB
  rw [map_upd]
  refine List.map_congr_left fun i _ => ?_
  by_cases e : i = k <;> simp [e, mem_dropK]
theorem lenI_set (L : Nat → List Int) (k : Nat) (l : List Int) : (lenI L).set k (l.length : Int) = lenI (updC L k l) := by
  unfold lenI
  rw [map_upd]
  refine List.map_congr_left fun i _ => ?_
  by_cases e : i = k
  · rw [if_pos e, e, updC_same]
  · rw [if_neg e, updC_ne e]
/-- Keys as numbers. -/
def asI (K : List Nat) : List Int := K.map fun k : Nat => (k : Int)
theorem asI_len (K : List Nat) : (asI K).length = K.length := by simp [asI]
theorem asI_at {K : List Nat} {j : Nat} (h : j < K.length) : (asI K).getD j 0 = ((K[j] : Nat) : Int) := by simp [asI, List.getD_eq_getElem?_getD, h]
theorem asI_app (K : List Nat) (k : Nat) : asI (K ++ [k]) = asI K ++ [(k : Int)] := by simp [asI]
/-- The keys that are there, up to a number. -/
def upTo (K : List Nat) (m : Nat) : List Int := asI ((List.range m).filter fun k => decide (k ∈ K))
theorem upTo_next (K : List Nat) (m : Nat) : upTo K (m + 1) = upTo K m ++ if m ∈ K then [(m : Int)] else [] := by
  unfold upTo asI
  rw [List.range_succ, List.filter_append, List.map_append]
  congr 1
  by_cases h : m ∈ K <;> simp [h]
theorem upTo_all (K : List Nat) : upTo K 64 = upK K := rfl
theorem upTo_len (K : List Nat) (m : Nat) : (upTo K m).length ≤ m := by
  unfold upTo
  rw [asI_len]
  have := List.length_filter_le (fun k => decide (k ∈ K)) (List.range m)
  simpa using this
/-- A bucket's keys, the last put first, from a place down. -/
def inFrom (n : Nat) (K : List Nat) (b : Int) (m : Nat) : List Int := asI ((K.drop m).reverse.filter fun k => decide (bkt (k : Int) n = b))
theorem inFrom_all (n : Nat) (hn : 1 ≤ n) (K : List Nat) (b : Nat) : inFrom n K b 0 = asI (inB n K b) := by
  unfold inFrom inB
  rw [List.drop_zero]
  congr 1
  refine List.filter_congr fun k _ => ?_
  have := bucketOf_int (n := n) (key := (k : Int)) hn
  by_cases e : bucketOf n (k : Int) = b
  · rw [decide_eq_true e, decide_eq_true (by rw [← this, e])]
  · rw [decide_eq_false e, decide_eq_false (by rw [← this]; omega)]
theorem inFrom_end (n : Nat) (K : List Nat) (b : Int) : inFrom n K b K.length = [] := by simp [inFrom, asI]
theorem inFrom_next {n : Nat} {K : List Nat} {b : Int} {m : Nat} (h : m < K.length) : inFrom n K b m = inFrom n K b (m + 1) ++ if bkt ((K[m] : Nat) : Int) n = b then [((K[m] : Nat) : Int)] else [] := by
  unfold inFrom asI
  rw [List.drop_eq_getElem_cons h, List.reverse_cons, List.filter_append, List.map_append]
  congr 1
  by_cases e : bkt ((K[m] : Nat) : Int) n = b <;> simp [e]
theorem inFrom_len (n : Nat) (K : List Nat) (b : Int) (m : Nat) : (inFrom n K b m).length ≤ K.length := by
  unfold inFrom
  rw [asI_len]
  have := List.length_filter_le (fun k : Nat => decide (bkt (k : Int) n = b)) (K.drop m).reverse
  rw [List.length_reverse, List.length_drop] at this
  omega
theorem dropK_take (K : List Nat) (k m : Nat) (h : m < K.length) : dropK (K.take (m + 1)) k = dropK (K.take m) k ++ if K[m] = k then [] else [K[m]] := by
  unfold dropK
  rw [List.take_succ_eq_append_getElem h, List.filter_append]
  congr 1
  by_cases e : K[m] = k <;> simp [e]
theorem nodup_small {K : List Nat} (hd : K.Nodup) (hl : ∀ k ∈ K, k < 64) : K.length ≤ 64 := nodup_upto 64 K hd hl
theorem Owned.row {E : TypeId} {w : World} {v : Value} {l : List Int} (h : Owned .i64 E w v l) : RowAt .i64 w v l := by
  rcases h.2 with ⟨hv, h0⟩ | ⟨g, cap', cur, hv, hg, hh, h1, h2, h3, h4⟩
  · have hl0 : l = [] := List.length_eq_zero_iff.1 h0
    subst hl0
    exact .inl ⟨rfl, none, 0, hv, fun _ => rfl⟩
  · subst hv
    refine .inr ⟨g, 0, cap', rfl, h1, by omega, (Array.getElem?_eq_some_iff.1 hh).1, fun i hi => ?_⟩
    rw [Nat.zero_add]
    exact h.at_ hi
def cOf (C : Nat → Nat) (K : List Nat) (x : Int) : Value := if x ∈ asI K then .pointer (some ⟨C x.toNat, 0, none⟩) else .pointer none
theorem mem_asI {K : List Nat} {x : Int} : x ∈ asI K ↔ ∃ k ∈ K, (k : Int) = x := by simp [asI]
theorem mem_asI_nat {K : List Nat} {k : Nat} : (k : Int) ∈ asI K ↔ k ∈ K := by
  rw [mem_asI]
  exact ⟨fun ⟨j, hj, e⟩ => by rwa [Int.ofNat.inj e] at hj, fun h => ⟨k, h, rfl⟩⟩
theorem hw_find_any {w0 W : World} {xb sb ab N n : Nat} {live : List Int} {K : List Nat} {C : Nat → Nat} {L : Nat → List Int} {M : List Ob} (h : HW w0 xb sb ab N n live K C L M W) (hn1 : 1 ≤ n) (hn : n ≤ 64) (x : Int) :
    Calls Tryz.prog 13 #[.pointer (some ⟨xb, 0, none⟩), .int .i64 x] W fun e w' => e = .returned (.tuple #[cOf C K x, .bool (decide (x ∈ asI K))]) ∧ HW w0 xb sb ab N n live K C L M w' := by
  by_cases hx : x ∈ asI K
  · obtain ⟨k, hk, rfl⟩ := mem_asI.1 hx
    rw [decide_eq_true hx]
    unfold cOf
    rw [if_pos hx]
    exact hw_find h hn1 hn hk
  · rw [decide_eq_false hx]
    unfold cOf
    rw [if_neg hx]
    exact hw_find_no h hn1 hn (fun k hk e => hx (mem_asI.2 ⟨k, hk, e⟩))
end Go.Proofs.YtoidmakaijkglaaGreat
