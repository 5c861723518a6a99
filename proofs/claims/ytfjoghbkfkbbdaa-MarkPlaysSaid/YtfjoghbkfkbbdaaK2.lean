/- slices.Insert of one into a row of pointers: into a new row; all roads in one. -/
import Derived.Test.YtfjoghbkfkbbdaaK1
namespace Go.Proofs.Ytfjoghbkfkbbdaa
open Go.RowKit

theorem zeros_size (z : Value) (k : Nat) (h : z.cells = #[z]) : (Builtin.zeroCells z.cells k).size = k := by
  rw [h]
  simp [Builtin.zeroCells]

set_option maxRecDepth 100000 in
set_option maxHeartbeats 3200000 in
theorem insert_grow (g cap i : Nat) (cur : Array Value) (ps : List Value) (x : Value) (vb : Nat) (w : World) (hi : i < ps.length) (hnc : ps.length ≤ cap) (hroom : cap < ps.length + 1) (hbig : ps.length ≤ 100000) (hb : w.heap[g]? = some (.cells cur 126 (0, 0)))
    (hj : ∀ j, j < ps.length → cur[j]? = ps[j]?) (hx : w.heap[vb]? = some (.cells #[x] 126 (0, 0))) (h1 : ∀ p ∈ ps, p.oneCell' = true) (hx1 : x.oneCell' = true) :
    Calls Try.prog 76 #[.slice (some ⟨g, 0, none⟩) ps.length cap, .int .i64 i, .slice (some ⟨vb, 0, none⟩) 1 1] w fun e w' =>
      ∃ (G : Nat) (ROW : Array Value), ps.length + 1 ≤ G ∧ G ≤ maxLen ∧ ROW.size = G ∧ (∀ j, j < i → ROW[j]? = ps[j]?) ∧ e = .returned (.slice (some ⟨w.heap.size, 0, none⟩) (ps.length + 1) G) ∧
        (((w.alloc (.cells ROW 126)).drew.setCells w.heap.size i [x]).drew).setCells w.heap.size (i + 1) (ps.drop i) = w' := by
  obtain ⟨i0, hi0, hz0, hzs, hzb⟩ := info_parts info_ptr
  have hgl := blk_lt hb
  have hvl := blk_lt hx
  have hdl : (ps.drop i).length = ps.length - i := List.length_drop ..
  have hold : (Builtin.firstCells i0.size i (.slice (some ⟨g, 0, none⟩) i cap)).run Try.prog w.drew = .ok (ps.take i).toArray w.drew := by
    rw [hzs]
    exact run_firstCells_some w.drew 1 i ⟨g, 0, none⟩ i cap (ps.take i) (by rw [List.length_take]; omega) (fun j v hv => by
      have hlt : j < i := by
        have := (List.getElem?_eq_some_iff.1 hv).1
        rw [List.length_take] at this
        omega
      rw [Go.WideShapes.add_plain, Nat.zero_add]
      show w.cell? ⟨g, j, none⟩ = _
      rw [blk_cell hb, hj _ (by omega)]
      rwa [List.getElem?_take_of_lt hlt] at hv)
  have hkk : (ps.length : Int) + 1 - i = ((ps.length + 1 - i : Nat) : Int) := by omega
  have hik : i + (ps.length + 1 - i) = ps.length + 1 := by omega
  obtain ⟨G, hG⟩ : ∃ G, G = grownCap w (ps.length + 1) cap 126 := ⟨_, rfl⟩
  have hGn : ps.length + 1 ≤ G := by rw [hG]; exact grownCap_ge w _ _ _
  have hGm : G ≤ maxLen := by rw [hG]; exact grownCap_le_maxLen w (ps.length + 1) cap 126 (by unfold maxLen; omega)
  obtain ⟨ROW, hROW⟩ : ∃ ROW : Array Value, ROW = (ps.take i).toArray ++ Builtin.zeroCells (Value.pointer none).cells (ps.length + 1 - i) ++ Builtin.zeroCells (Value.pointer none).cells (G - (ps.length + 1)) := ⟨_, rfl⟩
  have hrz : ∀ ty, (Builtin.append_ #[120, 3] ty #[.slice (some ⟨g, 0, none⟩) i cap, .int .i64 ((ps.length : Int) + 1 - i)]).run Try.prog w =
      .ok (.slice (some ⟨w.heap.size, 0, none⟩) (ps.length + 1) G) (w.drew.alloc (.cells ROW 126)) := fun ty => by
    have h := Lib.run_append_grow_zeros w 120 3 ty 126 i0 _ .i64 .i64 Try.underlying120 Try.underlying3 hi0 hz0 (some ⟨g, 0, none⟩) i cap (ps.take i) hold (ps.length + 1 - i) (by omega) (by omega) (by omega) (by omega) (by rw [hzb]; omega) (by rw [hzb, hik]; exact growslice_fits hroom (by omega))
    rw [hik, ← hG, ← hROW] at h
    rw [hkk]
    exact h
  have hRs : ROW.size = G := by
    rw [hROW]
    simp only [Array.size_append, zeros_size _ _ (show (Value.pointer none).cells = #[Value.pointer none] from rfl)]
    simp
    omega
  have hRj : ∀ j, j < i → ROW[j]? = ps[j]? := fun j hjj => by
    rw [hROW, Array.append_assoc, Array.getElem?_append_left (by simp; omega)]
    simp [List.getElem?_take_of_lt hjj]
  have hN : (w.drew.alloc (.cells ROW 126)).heap[w.heap.size]? = some (.cells ROW 126 (0, 0)) := blk_new w.drew _
  have hOb : (w.drew.alloc (.cells ROW 126)).heap[g]? = some (.cells cur 126 (0, 0)) := blk_alloc (w := w.drew) hb
  have hOv : (w.drew.alloc (.cells ROW 126)).heap[vb]? = some (.cells #[x] 126 (0, 0)) := blk_alloc (w := w.drew) hx
  have hcpA : ∀ (W : World), W.heap = (w.drew.alloc (.cells ROW 126)).heap → ∀ ty dc, (Builtin.copy_ #[120, 120] ty #[.slice (some ⟨w.heap.size, i, none⟩) (ps.length + 1 - i) dc, .slice (some ⟨vb, 0, none⟩) 1 1]).run Try.prog W = .ok (goInt [x].length) (W.setCells w.heap.size i [x]) := fun W hWh ty dc =>
    copy_blk (by rw [hWh]; exact hN) _ dc ⟨vb, 0, none⟩ 1 1 [x] (by simp only [Nat.min_def, List.length_singleton]; split <;> omega)
      (fun j v hv => by
        match j, hv with
        | 0, hv =>
          simp at hv
          subst hv
          rw [Go.WideShapes.add_plain, blk_cell (by rw [hWh]; exact hOv)]
          rfl)
      (by simp; omega) (fun v hv => by simp at hv; subst hv; exact hx1) ty
  have hcpB : ∀ (W : World), W.heap = ((w.drew.alloc (.cells ROW 126)).setCells w.heap.size i [x]).heap → ∀ ty dc sc, (Builtin.copy_ #[120, 120] ty #[.slice (some ⟨w.heap.size, i + 1, none⟩) (ps.length - i) dc, .slice (some ⟨g, i, none⟩) (ps.length - i) sc]).run Try.prog W = .ok (goInt (ps.drop i).length) (W.setCells w.heap.size (i + 1) (ps.drop i)) := fun W hWh ty dc sc =>
    copy_blk (by rw [hWh]; exact blk_setCells _ _ _ _ _ _ hN) _ dc ⟨g, i, none⟩ _ sc (ps.drop i) (by rw [hdl]; simp only [Nat.min_def]; split <;> omega)
      (fun j v hv => by
        have hlt := (List.getElem?_eq_some_iff.1 hv).1
        rw [hdl] at hlt
        rw [Go.WideShapes.add_plain, blk_cell (by rw [hWh]; exact (mod_setCells [x] _ w.heap.size i).keep hOb (by omega)), hj _ (by omega)]
        rwa [List.getElem?_drop] at hv)
      (by rw [hdl, layA_size]; omega) (fun v hv => h1 v (List.mem_of_mem_drop hv)) ty
  have hfin := Lib.hid (fun e w' (h : e = Ending.returned (.slice (some ⟨w.heap.size, 0, none⟩) (ps.length + 1) G) ∧ (((w.alloc (.cells ROW 126)).drew.setCells w.heap.size i [x]).drew).setCells w.heap.size (i + 1) (ps.drop i) = w') => (⟨G, ROW, hGn, hGm, hRs, hRj, h⟩ : ∃ (G : Nat) (ROW : Array Value), ps.length + 1 ≤ G ∧ G ≤ maxLen ∧ ROW.size = G ∧ (∀ j, j < i → ROW[j]? = ps[j]?) ∧ e = .returned (.slice (some ⟨w.heap.size, 0, none⟩) (ps.length + 1) G) ∧ (((w.alloc (.cells ROW 126)).drew.setCells w.heap.size i [x]).drew).setCells w.heap.size (i + 1) (ps.drop i) = w'))
  refine Calls.mono (R := fun e w' => e = Ending.returned (.slice (some ⟨w.heap.size, 0, none⟩) (ps.length + 1) G) ∧ (((w.alloc (.cells ROW 126)).drew.setCells w.heap.size i [x]).drew).setCells w.heap.size (i + 1) (ps.drop i) = w') ?_ (fun e w' h => hfin.out e w' h)
  have hE : ((w.alloc (.cells ROW 126)).drew).heap = (w.drew.alloc (.cells ROW 126)).heap := rfl
  have hc63 : cap ≤ 9223372036854775807 := by omega
  have hG63 : G ≤ 9223372036854775807 := by unfold maxLen at hGm; omega
  have hz2 : ¬ ((i : Int) = (ps.length : Int)) := by omega
  have hz3 : (cap : Int) < (ps.length : Int) + 1 := by omega
  have hw1 : IntKind.i64.wrap ((i : Int) + 1) = (i : Int) + 1 := by rw [IntKind.wrap_i64]; omega
  have hw2 : IntKind.i64.wrap ((ps.length : Int) + 1) = (ps.length : Int) + 1 := by rw [IntKind.wrap_i64]; omega
  have hw3 : IntKind.i64.wrap ((ps.length : Int) + 1 - i) = (ps.length : Int) + 1 - i := by rw [IntKind.wrap_i64]; omega
  have hb1 : (0 : Int) ≤ (i : Int) + 1 := by omega
  have hin : i ≤ ps.length := by omega
  have hb3 : (i : Int) ≤ (ps.length : Int) := by omega
  have hb4 : (i : Int) + 1 ≤ (ps.length : Int) + 1 := by omega
  have hb5 : (i : Int) ≤ (ps.length : Int) + 1 := by omega
  have htn : ((i : Int) + 1).toNat = i + 1 := by omega
  have hGi : ¬ (G = i) := by omega
  have hGim : ¬ (G = i + 1) := by omega
  have hci : ¬ (cap = i) := by omega
  have hF : ((w.alloc (.cells ROW 126)).drew.setCells w.heap.size i [x]).drew.heap = ((w.drew.alloc (.cells ROW 126)).setCells w.heap.size i [x]).heap := rfl
  clear hb hx hj hdl h1 hold hkk hik hG hROW hRs hRj hN hOb hOv hzs hzb hz0 hi0 hfin hgl hvl hx1 hbig
  go_enter Try.func76, Try.ntmps76
  go_wp2_with (first
    | (at_builtin; refine Lib.wpList_append_run _ rfl _ _ _ _ rfl _ _ rfl rfl _ _ (hrz _) ?_)
    | (at_builtin; refine wpList_copy_runI _ rfl _ _ 120 120 rfl _ _ rfl rfl (hcpA _ hE _ _) ?_))
  go_region_law (refine step_copy_runI rfl _ _ 120 120 rfl (.slice (some ⟨w.heap.size, i + 1, none⟩) (ps.length - i) (G - (i + 1))) (.slice (some ⟨g, i, none⟩) (ps.length - i) (cap - i)) (by simp [Act.eval, Act.put]) (by simp [Act.eval, Act.put]) (hcpB _ hF 3 (G - (i + 1)) (cap - i)) ?_)
  go_wp2_with fail
  go_ret
  exact ⟨rfl, rfl⟩

theorem insert_one (v : Value) (ps : List Value) (i : Nat) (x : Value) (vb : Nat) (w : World) (h : PtrRow w v ps) (hx : w.heap[vb]? = some (.cells #[x] 126 (0, 0))) (hne : v.ownBlock ≠ some vb) (hx1 : x.oneCell' = true) (hi : i ≤ ps.length) (hl : ps.length ≤ 100000) :
    Calls Try.prog 76 #[v, .int .i64 i, .slice (some ⟨vb, 0, none⟩) 1 1] w (Inserted w v (ps.take i ++ x :: ps.drop i)) := by
  rcases Nat.eq_or_lt_of_le hi with rfl | hlt
  · have := insert_end v ps x vb w h hx hx1 hl
    simpa using this
  · rcases h.form with ⟨rfl, rfl⟩ | ⟨g, cap, cur, rfl, hb, h2, h3, h4, h5⟩
    · simp at hlt
    · have hil := ins_len (x := x) hi
      by_cases hroom : ps.length + 1 ≤ cap
      · refine (insert_shift g cap i cur ps x vb w hlt hroom h3 h4 hb h5 hx (fun e => hne (by rw [e]; rfl)) h.2 hx1).mono fun e w' r => ?_
        obtain ⟨rfl, rfl⟩ := r
        have hb2 := blk_setCells [x] _ g i _ _ (blk_setCells (ps.drop i) w.drew g (i + 1) _ _ hb)
        have hdl : (ps.drop i).length = ps.length - i := List.length_drop ..
        refine ⟨_, rfl, ?_, ((Mod.refl _ w).drew.trans ((mod_setCells _ _ g _).trans (mod_setCells _ _ g _)) : Mod (fun k => k = g) w _).mono (fun k hk => .inl (by rw [hk]; rfl)), fun k hk => .inl hk⟩
        rw [← hil]
        refine PtrRow.of hb2 (by rw [hil]; exact hroom) h3 (by rw [layA_size, layA_size]; exact h4) (fun j hj => ?_) (ins_one i h.2 hx1)
        rw [hil] at hj
        rw [ins_get hi]
        by_cases c1 : j < i
        · rw [if_pos c1, layA_out _ _ _ _ (by omega), layA_out _ _ _ _ (by omega), h5 _ (by omega)]
        · rw [if_neg c1]
          by_cases c2 : j = i
          · subst c2
            rw [if_pos rfl]
            have := layA_in [x] (layA cur (j + 1) (ps.drop j)) j 0 (by rw [layA_size]; simp; omega) (by simp)
            simpa using this
          · rw [if_neg c2, layA_out _ _ _ _ (by simp; omega)]
            have := layA_in (ps.drop i) cur (i + 1) (j - i - 1) (by rw [hdl, h4]; omega) (by rw [hdl]; omega)
            rw [show i + 1 + (j - i - 1) = j by omega, List.getElem?_drop, show i + (j - i - 1) = j - 1 by omega] at this
            exact this
      · refine (insert_grow g cap i cur ps x vb w hlt h2 (by omega) hl hb h5 hx h.2 hx1).mono fun e w' r => ?_
        obtain ⟨G, ROW, r1, r2, r3, r4, rfl, rfl⟩ := r
        have hdl : (ps.drop i).length = ps.length - i := List.length_drop ..
        have hb1 : ((w.alloc (.cells ROW 126)).drew).heap[w.heap.size]? = some (.cells ROW 126 (0, 0)) := blk_new w _
        have hb2 := blk_setCells (ps.drop i) _ w.heap.size (i + 1) _ _ (show (((w.alloc (.cells ROW 126)).drew.setCells w.heap.size i [x]).drew).heap[w.heap.size]? = _ from blk_setCells [x] _ w.heap.size i _ _ hb1)
        have hm : Mod (fun k => k = w.heap.size) (w.alloc (.cells ROW 126)) ((((w.alloc (.cells ROW 126)).drew.setCells w.heap.size i [x]).drew).setCells w.heap.size (i + 1) (ps.drop i)) :=
          ((Mod.refl _ _).drew.trans (mod_setCells _ _ _ _)).trans ((Mod.refl _ _).drew.trans (mod_setCells _ _ _ _))
        have hB : Below w.heap.size w ((((w.alloc (.cells ROW 126)).drew.setCells w.heap.size i [x]).drew).setCells w.heap.size (i + 1) (ps.drop i)) :=
          ((Below.refl _ _).alloc (Nat.le_refl _) _).trans (hm.below (fun k hk => by omega) (by simp))
        refine ⟨_, rfl, ?_, Mod.of_below hB, fun k hk => .inr (by have : w.heap.size = k := Option.some.inj hk; omega)⟩
        rw [← hil]
        refine PtrRow.of hb2 (by rw [hil]; exact r1) r2 (by rw [layA_size, layA_size]; exact r3) (fun j hj => ?_) (ins_one i h.2 hx1)
        rw [hil] at hj
        rw [ins_get hi]
        by_cases c1 : j < i
        · rw [if_pos c1, layA_out _ _ _ _ (by omega), layA_out _ _ _ _ (by omega), r4 _ c1]
        · rw [if_neg c1]
          by_cases c2 : j = i
          · subst c2
            rw [if_pos rfl, layA_out _ _ _ _ (by omega)]
            have := layA_in [x] ROW j 0 (by simp; omega) (by simp)
            simpa using this
          · rw [if_neg c2]
            have := layA_in (ps.drop i) (layA ROW i [x]) (i + 1) (j - i - 1) (by rw [hdl, layA_size]; omega) (by rw [hdl]; omega)
            rw [show i + 1 + (j - i - 1) = j by omega, List.getElem?_drop, show i + (j - i - 1) = j - 1 by omega] at this
            exact this
end Go.Proofs.Ytfjoghbkfkbbdaa
