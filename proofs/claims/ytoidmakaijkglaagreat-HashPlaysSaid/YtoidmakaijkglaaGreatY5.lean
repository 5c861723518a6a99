/- A key's versions: Cut. -/
import Derived.Test.YtoidmakaijkglaaGreatY4
namespace Go.Proofs.YtoidmakaijkglaaGreat
open Go.RowKit
attribute [local go_sem] Oper.semAt_some

theorem chXs_pre {s : RS} {L : List Int} {pre : List (Int × Ver)} {y : Int × Ver} (h : pre ++ [y] <+: chXs s L) : pre.length < L.length ∧ y = (L.getD pre.length 0, s.ver (slotOf (L.getD pre.length 0))) := by
  have h1 := h.length_le
  simp [chXs] at h1
  refine ⟨by omega, ?_⟩
  obtain ⟨t, ht⟩ := h
  have h2 := congrArg (fun l => l[pre.length]?) ht
  simp [chXs] at h2
  simp [List.getD_eq_getElem?_getD]
  rw [List.getElem?_eq_getElem (by omega)] at h2 ⊢
  simpa using h2
def aheadOf (L : List Int) (k : Nat) : Int := if k = 0 then 0 else L.getD (k - 1) 0
/-- What the caller's own boxes hold between two rounds. -/
structure CutI (w : World) (cb : Nat) (x : Int) (L : List Int) (S : Nat → Prop) (pre : List (Int × Ver)) (W : World) : Prop where
  ne : ∀ y ∈ pre, ¬ y.1 = x
  c : W.heap[w.heap.size]? = some (.cells #[.pointer (some ⟨cb, 0, none⟩)] 29 (0, 0))
  x : W.heap[w.heap.size + 1]? = some (.cells #[.int .u64 x] 32 (0, 0))
  r : W.heap[w.heap.size + 1 + 1]? = some (.cells #[.bool false] 4 (0, 0))
  a : W.heap[w.heap.size + 1 + 1 + 1]? = some (.cells #[.int .u64 (aheadOf L pre.length)] 32 (0, 0))
  m : Mod S w W
/-- The store and the words behind a Cut of the k-th. -/
def cutS (s : RS) (L : List Int) (k : Nat) : RS := if k = 0 then s else s.setw (slotOf (L.getD (k - 1) 0) * 3 + 2) (L.getD (k + 1) 0)
def cutW (ws : List Int) (at' : Nat) (L : List Int) (k : Nat) : List Int := if k = 0 then ws.set at' (L.getD 1 0) else ws
/-- What a region of Cut reads. -/
structure CutR (w : World) (cb sb ab at' : Nat) (x y : Int) (q : Nat) (v : Ver) (W : World) : Prop where
  c : W.heap[w.heap.size]? = some (.cells #[.pointer (some ⟨cb, 0, none⟩)] 29 (0, 0))
  x : W.heap[w.heap.size + 1]? = some (.cells #[.int .u64 x] 32 (0, 0))
  a : W.heap[w.heap.size + 1 + 1 + 1]? = some (.cells #[.int .u64 y] 32 (0, 0))
  r : ∃ u, W.heap[w.heap.size + 1 + 1]? = some (.cells #[.bool u] 4 (0, 0))
  h : W.heap[cb]? = some (.cells (chCells sb ab at') 92 (0, 0))
  q : W.heap[q]? = some (.cells #[.int .i64 v.key, .int .i64 v.val, .int .u64 v.beg, .int .u64 v.en, .int .u64 v.nx] 101 (0, 0))
theorem CutR.keep {w : World} {cb sb ab at' : Nat} {x y : Int} {q : Nat} {v : Ver} {W W' : World} {G : Nat → Prop} (h : CutR w cb sb ab at' x y q v W) (hm : Mod G W W') (hG : ∀ k, G k → k < w.heap.size) (hc : ¬ G cb) (hq : w.heap.size ≤ q) : CutR w cb sb ab at' x y q v W' := by
  have hn : ∀ k, w.heap.size ≤ k → ¬ G k := fun k hk hg => by have := hG k hg; omega
  obtain ⟨u, hu⟩ := h.r
  exact ⟨hm.keep h.c (hn _ (by omega)), hm.keep h.x (hn _ (by omega)), hm.keep h.a (hn _ (by omega)), ⟨u, hm.keep hu (hn _ (by omega))⟩, hm.keep h.h hc, hm.keep h.q (hn _ hq)⟩
def CutX (w0 w : World) (cb sb ab at' : Nat) (Fs Fa : Nat → Prop) (s : RS) (ws : List Int) (M : List Ob) (x : Int) (L : List Int) (W : World) : Prop :=
  W.heap[w.heap.size + 1 + 1]? = some (.cells #[.bool true] 4 (0, 0)) ∧ ∃ k, k < L.length ∧ L.getD k 0 = x ∧ Sep w0 W (chL cb sb ab at' Fs Fa (cutS s L k) (cutW ws at' L k) M) ∧ Mod (fun k => Fs k ∨ Fa k) w W

set_option maxRecDepth 100000 in
set_option maxHeartbeats 6400000 in
theorem chain_cut {w0 : World} {cb sb ab at' : Nat} {Fs Fa : Nat → Prop} {s : RS} {ws : List Int} {M : List Ob} {L : List Int} (hC : Chn s ws at' L) (x : Int) (w : World) (h : Sep w0 w (chL cb sb ab at' Fs Fa s ws M)) :
    Calls Tryz.prog 11 #[.pointer (some ⟨cb, 0, none⟩), .int .u64 x] w fun e w' =>
      (¬ x ∈ L ∧ e = .returned (.bool false) ∧ Sep w0 w' (chL cb sb ab at' Fs Fa s ws M) ∧ Mod (fun k => Fs k ∨ Fa k) w w') ∨
      (e = .returned (.bool true) ∧ ∃ k, k < L.length ∧ L.getD k 0 = x ∧ Sep w0 w' (chL cb sb ab at' Fs Fa (cutS s L k) (cutW ws at' L k) M) ∧ Mod (fun k => Fs k ∨ Fa k) w w') := by
  refine (callsIn_wide (n := 3)).1 ?_
  refine callsIn_of_wp_marks Tryz.func11 rfl trivial ?_ rfl
  simp only [Tryz.ntmps11, List.size_toArray, List.length_cons, List.length_nil, Nat.reduceAdd, Nat.reduceSub, Array.replicate_succ, Array.replicate_zero, List.push_toArray, List.append_toArray, List.nil_append, List.cons_append]
  gi_wp2_with (fail)
  refine ⟨trivial, ?_⟩
  refine (callsIn_wide.2 (chain_all _ _)).mono ?_
  rintro e w1 ⟨rfl, rfl⟩
  gi_wp2_with (fail)
  have hF := chF_lt h
  have hpo := (chL_store h).pool.1
  obtain ⟨W0, hW0⟩ : ∃ W0, ((((w.alloc (.cells #[.pointer (some ⟨cb, 0, none⟩)] 29)).alloc (.cells #[.int .u64 x] 32)).alloc (.cells #[.bool false] 4)).alloc (.cells #[.int .u64 0] 32)).alloc (.cells #[.pointer (some ⟨cb, 0, none⟩)] 29) = W0 := ⟨_, rfl⟩
  have hz : W0.heap.size = w.heap.size + 5 := by rw [← hW0]; simp
  have b0 : W0.heap[w.heap.size]? = some (.cells #[.pointer (some ⟨cb, 0, none⟩)] 29 (0, 0)) := by rw [← hW0]; exact blk_alloc (blk_alloc (blk_alloc (blk_alloc (blk_new _ _))))
  have b1 : W0.heap[w.heap.size + 1]? = some (.cells #[.int .u64 x] 32 (0, 0)) := by rw [← hW0]; exact blk_alloc (blk_alloc (blk_alloc (blk_at (by simp))))
  have b2 : W0.heap[w.heap.size + 1 + 1]? = some (.cells #[.bool false] 4 (0, 0)) := by rw [← hW0]; exact blk_alloc (blk_alloc (blk_at (by simp)))
  have b3 : W0.heap[w.heap.size + 1 + 1 + 1]? = some (.cells #[.int .u64 0] 32 (0, 0)) := by rw [← hW0]; exact blk_alloc (blk_at (by simp))
  have b4 : W0.heap[w.heap.size + 1 + 1 + 1 + 1]? = some (.cells #[.pointer (some ⟨cb, 0, none⟩)] 29 (0, 0)) := by rw [← hW0]; exact blk_at (by simp)
  have hB0 : Below w.heap.size w W0 := by rw [← hW0]; exact (((((Below.refl _ _).alloc (Nat.le_refl _) _).alloc (by simp) _).alloc (by simp; omega) _).alloc (by simp; omega) _).alloc (by simp; omega) _
  have hM0 : Mod (fun k => Fs k ∨ Fa k) w W0 := Mod.of_below hB0
  have hS0 := h.below hB0
  rw [hW0]
  refine range_mine (F := Fence.wide) (α := Int × Ver) (n := 3) rfl (by decide) (gf := 55) (lb := #[.pointer (some ⟨w.heap.size + 1 + 1 + 1 + 1, 0, none⟩)]) rfl trivial (enters_f Tryz.func55 (by kernel_rfl) rfl)
    (all_stops (w0 := w0) (cb := cb) (sb := sb) (ab := ab) (Fs := Fs) (Fa := Fa) (M := M) hC (3 - 1) (w.heap.size + 1 + 1 + 1 + 1) W0.heap.size (fun hk => not_in hF (by omega) (.inl hk)) (fun hk => not_in hF (by omega) (.inr hk))) keepsVer_t (fun W l o o' _ hl ho => keepsVer_b W l o o' hl ho)
    (fun k hk => by have := hF k hk; omega) (fun _ => rfl) (chSt_abide hS0 (Nat.le_refl _) _) ⟨⟨hS0, b4⟩, Nat.le_refl _⟩
    (CutI w cb x L (fun k => Fs k ∨ Fa k))
    (fun c pre W => c = .ret ∧ CutX w0 w cb sb ab at' Fs Fa s ws M x L W)
    (fun pre X Y hx hb => ⟨hx.ne, Abide.blk _ _ hx.c hb, Abide.blk _ _ hx.x hb, Abide.blk _ _ hx.r hb, Abide.blk _ _ hx.a hb, Abide.mod (by omega) _ _ hx.m hb⟩)
    (fun c pre X Y hx hb => by
      obtain ⟨rfl, hr, k, hk, hkx, hs, hm⟩ := hx
      exact ⟨rfl, Abide.blk _ _ hr hb, k, hk, hkx, Abide.sep (L := chL cb sb ab at' Fs Fa (cutS s L k) (cutW ws at' L k) M) (Nat.le_trans hS0.bel.size (Nat.le_refl _)) (fun o ho => by
        rcases List.mem_cons.1 ho with rfl | ho
        · exact hS0.inside (Nat.le_refl _) (obChain cb sb ab at') (by simp [chL])
        · rcases List.mem_cons.1 ho with rfl | ho
          · exact hS0.inside (Nat.le_refl _) (obStore sb Fs s) (by simp [chL])
          · rcases List.mem_cons.1 ho with rfl | ho
            · exact hS0.inside (Nat.le_refl _) (obArena ab Fa ws) (by simp [chL])
            · exact hS0.inside (Nat.le_refl _) o (by simp [chL, ho])) _ _ hs hb, Abide.mod (by omega) _ _ hm hb⟩)
    (fun pre X Y hx hm => ⟨hx.ne, hm.keep hx.c (not_in hF (by omega)), hm.keep hx.x (not_in hF (by omega)), hm.keep hx.r (not_in hF (by omega)), hm.keep hx.a (not_in hF (by omega)), hx.m.trans hm⟩)
    ⟨fun y hy => by simp at hy, b0, b1, b2, b3, hM0⟩
    (fun y a' W => ∃ q, W0.heap.size ≤ q ∧ W.heap[q]? = some (.cells #[.int .i64 y.2.key, .int .i64 y.2.val, .int .u64 y.2.beg, .int .u64 y.2.en, .int .u64 y.2.nx] 101 (0, 0)) ∧
      a' = { tmps := #[.pointer (some ⟨cb, 0, none⟩), .int .u64 x, .pointer (some ⟨w.heap.size, 0, none⟩), .pointer (some ⟨w.heap.size + 1, 0, none⟩), .pointer (some ⟨w.heap.size + 1 + 1, 0, none⟩), .pointer (some ⟨w.heap.size + 1 + 1 + 1, 0, none⟩), .int .u64 y.1, .pointer (some ⟨q, 0, none⟩), .pointer (some ⟨cb, 0, none⟩), .func (.func 55) #[] #[.pointer (some ⟨w.heap.size + 1 + 1 + 1 + 1, 0, none⟩)], .int .u64 y.1, y.2.value, undef, undef, undef, undef, undef, undef, undef, undef, undef, undef, undef, undef, undef, undef, undef, undef, undef, undef, undef, undef, undef, undef, undef, undef, undef, undef, undef, undef], defers := [] })
    (fun y a' X Y ⟨q, hq, hh, ha⟩ hb => ⟨q, hq, Abide.blk _ _ hh hb, ha⟩) ?assign ?body ?done ?stop
  case assign =>
    intro l pre y W K hI hst hK
    simp only [encV, Ver.value]
    gi_wp2_with (fail)
    refine hK _ _ ((KeepsOthers.alloc _ _).from _) (fun k cs _ hk => blk_alloc hk) ⟨⟨hst.1.1.below ((Below.refl _ _).alloc (Nat.le_refl _) _), blk_alloc hst.1.2⟩, by simp; exact Nat.le_succ_of_le hst.2⟩ ⟨hI.ne, blk_alloc hI.c, blk_alloc hI.x, blk_alloc hI.r, blk_alloc hI.a, hI.m.alloc _⟩ ⟨W.heap.size, hst.2, blk_new _ _, ?_⟩
    simp only [Ver.value]
  case body =>
    rintro l pre y a' W hI ⟨⟨hst, hpb⟩, hB⟩ ⟨q, hq, hqv, rfl⟩ hpre
    obtain ⟨hkl, hy⟩ := chXs_pre hpre
    have e0 := blk_cell hI.c 0
    have e1 := blk_cell hI.x 0
    have e2 := blk_cell hI.r 0
    have e3 := blk_cell hI.a 0
    have z2 := blk_free hI.r 0
    have z3 := blk_free hI.a 0
    have f4 := blk_cell hqv 4
    have g0 := blk_cell (chL_head hst) 0
    have g1 := blk_cell (chL_head hst) 1
    have g2 := blk_cell (chL_head hst) 2
    simp [chCells] at e0 e1 e2 e3 f4 g0 g1 g2
    have hcb := (hst.inside (Nat.le_refl _) (obChain cb sb ab at') (by simp [chL]) cb rfl)
    have hcb0 := (h.inside (Nat.le_refl _) (obChain cb sb ab at') (by simp [chL]) cb rfl)
    have HI := Lib.hid hI
    have HST := Lib.hid (And.intro hst hpb)
    have HQ := Lib.hid hqv
    clear hI hst hpb hqv
    by_cases hx : y.1 = x
    · have hb : (y.1 != x) = false := by simpa using hx
      have HX := Lib.hid hx
      clear hx
      generalize hk : pre.length = k at *
      have HY := Lib.hid hy
      by_cases h0 : k = 0
      · have h00 : (aheadOf L k == 0) = true := by unfold aheadOf; rw [if_pos h0]; rfl
        clear hy hpre
        have HR := Lib.hid (show CutR w cb sb ab at' x (aheadOf L k) q y.2 W from ⟨HI.out.c, HI.out.x, by have := HI.out.a; rwa [hk] at this, ⟨_, HI.out.r⟩, chL_head HST.out.1, HQ.out⟩)
        have hcF : ¬ (Fs cb ∨ Fa cb) := fun hc => by
          have hs3 := List.pairwise_cons.1 HST.out.1.apart
          rcases hc with hc | hc
          · exact hs3.1 (obStore sb Fs s) (by simp) cb rfl hc
          · exact hs3.1 (obArena ab Fa ws) (by simp) cb rfl hc
        subst h0
        gi_wp2_with (fail)
        refine region_round (CutR w cb sb ab at' x (aheadOf L 0) q y.2) rfl (HR.out.keep (G := fun _ => False) (Mod.refl _ _).drew (fun _ h => h.elim) id (by omega)) (fun hS => ?_)
        refine wpAnyH_take (i := 0) (v := ?_) rfl (by kernel_rfl) (by kernel_rfl) (by kernel_rfl) (fun _ _ _ h => h) (Or.inl ⟨by rfl, ?_⟩) (by assumption) ?_
        rotate_left
        · intro w' hSw
          have e0 := blk_cell hSw.c 0
          have e1 := blk_cell hSw.x 0
          have e3 := blk_cell hSw.a 0
          have f4 := blk_cell hSw.q 4
          have g0 := blk_cell hSw.h 0
          have g1 := blk_cell hSw.h 1
          have g2 := blk_cell hSw.h 2
          simp [chCells] at e0 e1 e3 f4 g0 g1 g2
          go_simp
          all_goals with_reducible rfl
        simp only [Act.put]
        refine wpAnyH_take (i := 1) (v := ?_) rfl (by kernel_rfl) (by kernel_rfl) (by kernel_rfl) (fun _ _ _ h => h) (Or.inl ⟨by rfl, ?_⟩) (by assumption) ?_
        rotate_left
        · intro w' hSw
          have e0 := blk_cell hSw.c 0
          have e1 := blk_cell hSw.x 0
          have e3 := blk_cell hSw.a 0
          have f4 := blk_cell hSw.q 4
          have g0 := blk_cell hSw.h 0
          have g1 := blk_cell hSw.h 1
          have g2 := blk_cell hSw.h 2
          simp [chCells] at e0 e1 e3 f4 g0 g1 g2
          go_simp
          all_goals with_reducible rfl
        simp only [Act.put]
        refine wpAnyH_take (i := 2) (v := ?_) rfl (by kernel_rfl) (by kernel_rfl) (by kernel_rfl) (fun _ _ _ h => h) (Or.inl ⟨by rfl, ?_⟩) (by assumption) ?_
        rotate_left
        · intro w' hSw
          have e0 := blk_cell hSw.c 0
          have e1 := blk_cell hSw.x 0
          have e3 := blk_cell hSw.a 0
          have f4 := blk_cell hSw.q 4
          have g0 := blk_cell hSw.h 0
          have g1 := blk_cell hSw.h 1
          have g2 := blk_cell hSw.h 2
          simp [chCells] at e0 e1 e3 f4 g0 g1 g2
          go_simp
          all_goals with_reducible rfl
        simp only [Act.put]
        refine wpAnyH_take (i := 3) (v := ?_) rfl (by kernel_rfl) (by kernel_rfl) (by kernel_rfl) (fun _ _ _ h => h) (Or.inl ⟨by rfl, ?_⟩) (by assumption) ?_
        rotate_left
        · intro w' hSw
          have e0 := blk_cell hSw.c 0
          have e1 := blk_cell hSw.x 0
          have e3 := blk_cell hSw.a 0
          have f4 := blk_cell hSw.q 4
          have g0 := blk_cell hSw.h 0
          have g1 := blk_cell hSw.h 1
          have g2 := blk_cell hSw.h 2
          simp [chCells] at e0 e1 e3 f4 g0 g1 g2
          go_simp
          all_goals with_reducible rfl
        simp only [Act.put]
        refine wpAnyH_take (i := 4) (v := ?_) rfl (by kernel_rfl) (by kernel_rfl) (by kernel_rfl) (fun _ _ _ h => h) (Or.inl ⟨by rfl, ?_⟩) (by assumption) ?_
        rotate_left
        · intro w' hSw
          have e0 := blk_cell hSw.c 0
          have e1 := blk_cell hSw.x 0
          have e3 := blk_cell hSw.a 0
          have f4 := blk_cell hSw.q 4
          have g0 := blk_cell hSw.h 0
          have g1 := blk_cell hSw.h 1
          have g2 := blk_cell hSw.h 2
          simp [chCells] at e0 e1 e3 f4 g0 g1 g2
          go_simp
          all_goals with_reducible rfl
        simp only [Act.put]
        refine wpAnyH_take (i := 5) (v := ?_) rfl (by kernel_rfl) (by kernel_rfl) (by kernel_rfl) (fun _ _ _ h => h) (Or.inl ⟨by rfl, ?_⟩) (by assumption) ?_
        rotate_left
        · intro w' hSw
          have e0 := blk_cell hSw.c 0
          have e1 := blk_cell hSw.x 0
          have e3 := blk_cell hSw.a 0
          have f4 := blk_cell hSw.q 4
          have g0 := blk_cell hSw.h 0
          have g1 := blk_cell hSw.h 1
          have g2 := blk_cell hSw.h 2
          simp [chCells] at e0 e1 e3 f4 g0 g1 g2
          go_simp
          all_goals with_reducible rfl
        simp only [Act.put]
        refine wpAnyH_take (i := 6) (v := ?_) rfl (by kernel_rfl) (by kernel_rfl) (by kernel_rfl) (fun _ _ _ h => h) (Or.inl ⟨by rfl, ?_⟩) (by assumption) ?_
        rotate_left
        · intro w' hSw
          have e0 := blk_cell hSw.c 0
          have e1 := blk_cell hSw.x 0
          have e3 := blk_cell hSw.a 0
          have f4 := blk_cell hSw.q 4
          have g0 := blk_cell hSw.h 0
          have g1 := blk_cell hSw.h 1
          have g2 := blk_cell hSw.h 2
          simp [chCells] at e0 e1 e3 f4 g0 g1 g2
          go_simp
          all_goals with_reducible rfl
        simp only [Act.put]
        refine wpAnyH_take (i := 7) (v := ?_) rfl (by kernel_rfl) (by kernel_rfl) (by kernel_rfl) (fun _ _ _ h => h) (Or.inl ⟨by rfl, ?_⟩) (by assumption) ?_
        rotate_left
        · intro w' hSw
          have e0 := blk_cell hSw.c 0
          have e1 := blk_cell hSw.x 0
          have e3 := blk_cell hSw.a 0
          have f4 := blk_cell hSw.q 4
          have g0 := blk_cell hSw.h 0
          have g1 := blk_cell hSw.h 1
          have g2 := blk_cell hSw.h 2
          simp [chCells] at e0 e1 e3 f4 g0 g1 g2
          go_simp
          all_goals with_reducible rfl
        simp only [Act.put]
        refine wpAnyH_take (i := 8) (v := ?_) rfl (by kernel_rfl) (by kernel_rfl) (by kernel_rfl) (fun _ _ _ h => h) (Or.inl ⟨by rfl, ?_⟩) (by assumption) ?_
        rotate_left
        · intro w' hSw
          have e0 := blk_cell hSw.c 0
          have e1 := blk_cell hSw.x 0
          have e3 := blk_cell hSw.a 0
          have f4 := blk_cell hSw.q 4
          have g0 := blk_cell hSw.h 0
          have g1 := blk_cell hSw.h 1
          have g2 := blk_cell hSw.h 2
          simp [chCells] at e0 e1 e3 f4 g0 g1 g2
          go_simp
          all_goals with_reducible rfl
        simp only [Act.put]
        refine wpAnyH_take (i := 9) (v := ?_) rfl (by kernel_rfl) (by kernel_rfl) (by kernel_rfl) (fun _ _ _ h => h) (Or.inl ⟨by rfl, ?_⟩) (by assumption) ?_
        rotate_left
        · intro w' hSw
          have e0 := blk_cell hSw.c 0
          have e1 := blk_cell hSw.x 0
          have e3 := blk_cell hSw.a 0
          have f4 := blk_cell hSw.q 4
          have g0 := blk_cell hSw.h 0
          have g1 := blk_cell hSw.h 1
          have g2 := blk_cell hSw.h 2
          simp [chCells] at e0 e1 e3 f4 g0 g1 g2
          go_simp
          all_goals with_reducible rfl
        simp only [Act.put]
        refine wpAnyH_take (i := 10) (v := ?_) rfl (by kernel_rfl) (by kernel_rfl) (by kernel_rfl) (fun _ _ _ h => h) (Or.inl ⟨by rfl, ?_⟩) (by assumption) ?_
        rotate_left
        · intro w' hSw
          have e0 := blk_cell hSw.c 0
          have e1 := blk_cell hSw.x 0
          have e3 := blk_cell hSw.a 0
          have f4 := blk_cell hSw.q 4
          have g0 := blk_cell hSw.h 0
          have g1 := blk_cell hSw.h 1
          have g2 := blk_cell hSw.h 2
          simp [chCells] at e0 e1 e3 f4 g0 g1 g2
          go_simp
          all_goals with_reducible rfl
        simp only [Act.put]
        refine wpAnyH_ready (rs := [11]) (by kernel_rfl) (by simp) ?_
        refine AllReadyH.cons rfl (fun K hK => ?_) AllReadyH.nil
        go_simp
        have hw0 : ws.getD at' 0 = x := by
          rw [hC.head, ← HX.out, HY.out]
        have hcas := arena_cas ab Fa ws at' x y.2.nx W.drew ((chL_arena HST.out.1).below (Below.drew (Below.refl _ _))) hC.ix
        refine hcas.mono ?_
        rintro e w2 (⟨_, rfl, hl2⟩ | ⟨hne, _⟩)
        · clear hcas
          have hR2 := (HR.out.keep (G := fun _ => False) (Mod.refl _ _).drew (fun _ h => h.elim) id (by omega)).keep hl2.2 (fun k hk => hF k (.inr hk)) (fun e => hcF (.inr e)) (by omega)
          refine hK.out _ _ hR2 (fun hHeld => ?_)
          clear hK K
          refine wpAnyH_ready (rs := [12]) (by kernel_rfl) (by simp) ?_
          refine AllReadyH.cons rfl (fun K hK => ?_) AllReadyH.nil
          obtain ⟨u, hu⟩ := hR2.r
          have cu := blk_cell hu 0
          have zu := blk_free hu 0
          simp at cu
          go_simp
          have h1 : Mod (fun k => k = w.heap.size + 1 + 1) w2 (w2.setCell ⟨w.heap.size + 1 + 1, 0, none⟩ (.bool true)) := (Mod.refl (fun k => k = w.heap.size + 1 + 1) _).setCell (p := ⟨w.heap.size + 1 + 1, 0, none⟩) (.inl rfl) _
          have hu3 := (blk_set (i := 0) (u := .bool true) hu).trans rfl
          have hR3 : CutR w cb sb ab at' x (aheadOf L 0) q y.2 (w2.setCell ⟨w.heap.size + 1 + 1, 0, none⟩ (.bool true)) := ⟨h1.keep hR2.c (by omega), h1.keep hR2.x (by omega), h1.keep hR2.a (by omega), ⟨_, hu3⟩, h1.keep hR2.h (by omega), h1.keep hR2.q (by omega)⟩
          refine hK.out _ _ hR3 (fun hHeld => ?_)
          clear hK K
          refine wpAnyH_done (by kernel_rfl) ?_ _
          have hS2 := chL_stepA (HST.out.1.below (Below.drew (Below.refl _ _))) hl2
          have hS3 : Sep w0 _ (chL cb sb ab at' Fs Fa s (ws.set at' y.2.nx) M) := sep_other hS2 h1 (fun o ho k hk e => by
            have : k < w.heap.size := by
              rcases List.mem_cons.1 ho with rfl | ho
              · exact h.inside (Nat.le_refl _) (obChain cb sb ab at') (by simp [chL]) k hk
              · rcases List.mem_cons.1 ho with rfl | ho
                · exact h.inside (Nat.le_refl _) (obStore sb Fs s) (by simp [chL]) k hk
                · rcases List.mem_cons.1 ho with rfl | ho
                  · exact h.inside (Nat.le_refl _) (obArena ab Fa ws) (by simp [chL]) k hk
                  · exact h.inside (Nat.le_refl _) o (by simp [chL, ho]) k hk
            omega) (fun k hk => by have := h.bel.size; omega)
          have hnx : y.2.nx = L.getD 1 0 := by
            rw [HY.out]
            exact hC.next 0 hkl
          have hm3 := (HI.out.m.drew.trans (hl2.2.mono (fun k hk => .inl (.inr hk)))).next h1 (fun k hk => .inr (by omega))
          have hfin : CutX w0 w cb sb ab at' Fs Fa s ws M x L (w2.setCell ⟨w.heap.size + 1 + 1, 0, none⟩ (.bool true)) := ⟨hu3, 0, hkl, by rw [← HX.out, HY.out], by
            unfold cutS cutW
            rw [if_pos rfl, if_pos rfl, ← hnx]
            exact hS3, hm3⟩
          have hkf := (((KeepsOthers.drew W).from W0.heap.size).trans (KeepsFrom.of_mod (B := W0.heap.size) (hl2.2.mono (G := fun k => Fa k) (fun k hk => .inl hk)) (fun k hk => .inl (by have := hF k (.inr hk); omega)))).trans ((KeepsOthers.setCell w2 ⟨w.heap.size + 1 + 1, 0, none⟩ (.bool true)).from _)
          refine NoPO.normal ?_
          clear hS2 hS3 hR2 hR3 hu3 hu cu zu hHeld HR
          have HFIN := Lib.hid (And.intro hkf hfin)
          clear hkf hfin hm3 h1
          gi_wp2_with (fail)
          exact ⟨HFIN.out.1, rfl, HFIN.out.2⟩
        · exact absurd hw0 hne
      · have h00 : (aheadOf L k == 0) = false := by
          unfold aheadOf
          rw [if_neg h0]
          have := live_range hpo (hC.live _ (getD_mem (show k - 1 < L.length by omega)))
          have h1 : ¬ L.getD (k - 1) 0 = 0 := by omega
          simpa using h1
        clear hy hpre
        have HR := Lib.hid (show CutR w cb sb ab at' x (aheadOf L k) q y.2 W from ⟨HI.out.c, HI.out.x, by have := HI.out.a; rwa [hk] at this, ⟨_, HI.out.r⟩, chL_head HST.out.1, HQ.out⟩)
        have hcF : ¬ (Fs cb ∨ Fa cb) := fun hc => by
          have hs3 := List.pairwise_cons.1 HST.out.1.apart
          rcases hc with hc | hc
          · exact hs3.1 (obStore sb Fs s) (by simp) cb rfl hc
          · exact hs3.1 (obArena ab Fa ws) (by simp) cb rfl hc
        have hea : aheadOf L k = L.getD (k - 1) 0 := if_neg h0
        have hlv := hC.live _ (getD_mem (show k - 1 < L.length by omega))
        have hra := live_range hpo hlv
        have hnx : y.2.nx = L.getD (k + 1) 0 := by
          rw [HY.out]
          exact hC.next k hkl
        have HN := Lib.hid (And.intro hea (And.intro hlv hnx))
        have hra' : 0 ≤ aheadOf L k ∧ aheadOf L k ≤ 18446744073709551615 := by rw [hea]; omega
        clear hea hlv hnx hra
        gi_wp2_with (fail)
        refine region_round (CutR w cb sb ab at' x (aheadOf L k) q y.2) rfl (HR.out.keep (G := fun _ => False) (Mod.refl _ _).drew (fun _ h => h.elim) id (by omega)) (fun hS => ?_)
        refine wpAnyH_take (i := 0) (v := ?_) rfl (by kernel_rfl) (by kernel_rfl) (by kernel_rfl) (fun _ _ _ h => h) (Or.inl ⟨by rfl, ?_⟩) (by assumption) ?_
        rotate_left
        · intro w' hSw
          have e0 := blk_cell hSw.c 0
          have e1 := blk_cell hSw.x 0
          have e3 := blk_cell hSw.a 0
          have f4 := blk_cell hSw.q 4
          have g0 := blk_cell hSw.h 0
          have g1 := blk_cell hSw.h 1
          have g2 := blk_cell hSw.h 2
          simp [chCells] at e0 e1 e3 f4 g0 g1 g2
          go_simp
          all_goals with_reducible rfl
        simp only [Act.put]
        refine wpAnyH_take (i := 1) (v := ?_) rfl (by kernel_rfl) (by kernel_rfl) (by kernel_rfl) (fun _ _ _ h => h) (Or.inl ⟨by rfl, ?_⟩) (by assumption) ?_
        rotate_left
        · intro w' hSw
          have e0 := blk_cell hSw.c 0
          have e1 := blk_cell hSw.x 0
          have e3 := blk_cell hSw.a 0
          have f4 := blk_cell hSw.q 4
          have g0 := blk_cell hSw.h 0
          have g1 := blk_cell hSw.h 1
          have g2 := blk_cell hSw.h 2
          simp [chCells] at e0 e1 e3 f4 g0 g1 g2
          go_simp
          all_goals with_reducible rfl
        simp only [Act.put]
        refine wpAnyH_take (i := 2) (v := ?_) rfl (by kernel_rfl) (by kernel_rfl) (by kernel_rfl) (fun _ _ _ h => h) (Or.inl ⟨by rfl, ?_⟩) (by assumption) ?_
        rotate_left
        · intro w' hSw
          have e0 := blk_cell hSw.c 0
          have e1 := blk_cell hSw.x 0
          have e3 := blk_cell hSw.a 0
          have f4 := blk_cell hSw.q 4
          have g0 := blk_cell hSw.h 0
          have g1 := blk_cell hSw.h 1
          have g2 := blk_cell hSw.h 2
          simp [chCells] at e0 e1 e3 f4 g0 g1 g2
          go_simp
          all_goals with_reducible rfl
        simp only [Act.put]
        refine wpAnyH_take (i := 3) (v := ?_) rfl (by kernel_rfl) (by kernel_rfl) (by kernel_rfl) (fun _ _ _ h => h) (Or.inl ⟨by rfl, ?_⟩) (by assumption) ?_
        rotate_left
        · intro w' hSw
          have e0 := blk_cell hSw.c 0
          have e1 := blk_cell hSw.x 0
          have e3 := blk_cell hSw.a 0
          have f4 := blk_cell hSw.q 4
          have g0 := blk_cell hSw.h 0
          have g1 := blk_cell hSw.h 1
          have g2 := blk_cell hSw.h 2
          simp [chCells] at e0 e1 e3 f4 g0 g1 g2
          go_simp
          all_goals with_reducible rfl
        simp only [Act.put]
        refine wpAnyH_take (i := 4) (v := ?_) rfl (by kernel_rfl) (by kernel_rfl) (by kernel_rfl) (fun _ _ _ h => h) (Or.inl ⟨by rfl, ?_⟩) (by assumption) ?_
        rotate_left
        · intro w' hSw
          have e0 := blk_cell hSw.c 0
          have e1 := blk_cell hSw.x 0
          have e3 := blk_cell hSw.a 0
          have f4 := blk_cell hSw.q 4
          have g0 := blk_cell hSw.h 0
          have g1 := blk_cell hSw.h 1
          have g2 := blk_cell hSw.h 2
          simp [chCells] at e0 e1 e3 f4 g0 g1 g2
          go_simp
          all_goals with_reducible rfl
        simp only [Act.put]
        refine wpAnyH_take (i := 5) (v := ?_) rfl (by kernel_rfl) (by kernel_rfl) (by kernel_rfl) (fun _ _ _ h => h) (Or.inl ⟨by rfl, ?_⟩) (by assumption) ?_
        rotate_left
        · intro w' hSw
          have e0 := blk_cell hSw.c 0
          have e1 := blk_cell hSw.x 0
          have e3 := blk_cell hSw.a 0
          have f4 := blk_cell hSw.q 4
          have g0 := blk_cell hSw.h 0
          have g1 := blk_cell hSw.h 1
          have g2 := blk_cell hSw.h 2
          simp [chCells] at e0 e1 e3 f4 g0 g1 g2
          go_simp
          all_goals with_reducible rfl
        simp only [Act.put]
        refine wpAnyH_take (i := 6) (v := ?_) rfl (by kernel_rfl) (by kernel_rfl) (by kernel_rfl) (fun _ _ _ h => h) (Or.inl ⟨by rfl, ?_⟩) (by assumption) ?_
        rotate_left
        · intro w' hSw
          have e0 := blk_cell hSw.c 0
          have e1 := blk_cell hSw.x 0
          have e3 := blk_cell hSw.a 0
          have f4 := blk_cell hSw.q 4
          have g0 := blk_cell hSw.h 0
          have g1 := blk_cell hSw.h 1
          have g2 := blk_cell hSw.h 2
          simp [chCells] at e0 e1 e3 f4 g0 g1 g2
          go_simp
          all_goals with_reducible rfl
        simp only [Act.put]
        refine wpAnyH_ready (rs := [7]) (by kernel_rfl) (by simp) ?_
        refine AllReadyH.cons rfl (fun K hK => ?_) AllReadyH.nil
        go_simp
        have hnext := next_same sb Fs s (aheadOf L k) y.2.nx W.drew ((chL_store HST.out.1).below (Below.drew (Below.refl _ _))) hra'.1 hra'.2 (by rw [HN.out.1]; exact HN.out.2.1)
        refine hnext.mono ?_
        rintro e w2 ⟨rfl, hs2, hm2⟩
        clear hnext
        have hR2 := (HR.out.keep (G := fun _ => False) (Mod.refl _ _).drew (fun _ h => h.elim) id (by omega)).keep hm2 (fun k hk => hF k (.inl hk)) (fun e => hcF (.inl e)) (by omega)
        refine hK.out _ _ hR2 (fun hHeld => ?_)
        clear hK K
        refine wpAnyH_done (by kernel_rfl) ?_ _
        obtain ⟨u, hu⟩ := hR2.r
        have cu := blk_cell hu 0
        have zu := blk_free hu 0
        simp at cu
        have h1 : Mod (fun k => k = w.heap.size + 1 + 1) w2 (w2.setCell ⟨w.heap.size + 1 + 1, 0, none⟩ (.bool true)) := (Mod.refl (fun k => k = w.heap.size + 1 + 1) _).setCell (p := ⟨w.heap.size + 1 + 1, 0, none⟩) (.inl rfl) _
        have hu3 := (blk_set (i := 0) (u := .bool true) hu).trans rfl
        have hS2 := chL_sameS (HST.out.1.below (Below.drew (Below.refl _ _))) hs2 hm2
        have hS3 := sep_other hS2 h1 (fun o ho k hk e => by
          have : k < w.heap.size := by
            rcases List.mem_cons.1 ho with rfl | ho
            · exact h.inside (Nat.le_refl _) (obChain cb sb ab at') (by simp [chL]) k hk
            · rcases List.mem_cons.1 ho with rfl | ho
              · exact h.inside (Nat.le_refl _) (obStore sb Fs s) (by simp [chL]) k hk
              · rcases List.mem_cons.1 ho with rfl | ho
                · exact h.inside (Nat.le_refl _) (obArena ab Fa ws) (by simp [chL]) k hk
                · exact h.inside (Nat.le_refl _) o (by simp [chL, ho]) k hk
          omega) (fun k hk => by have := h.bel.size; omega)
        have hm3 := (HI.out.m.drew.trans (hm2.mono (G := fun k => Fs k ∨ Fa k) (fun k hk => .inl (.inl hk)))).next h1 (fun k hk => .inr (by omega))
        rw [HN.out.1, HN.out.2.2] at hS3
        have hfin : CutX w0 w cb sb ab at' Fs Fa s ws M x L (w2.setCell ⟨w.heap.size + 1 + 1, 0, none⟩ (.bool true)) := ⟨hu3, k, hkl, by rw [← HX.out, HY.out], by
          unfold cutS cutW
          rw [if_neg h0, if_neg h0]
          exact hS3, hm3⟩
        have hkf := (((KeepsOthers.drew W).from W0.heap.size).trans (KeepsFrom.of_mod (B := W0.heap.size) (hm2.mono (G := fun k => Fs k) (fun k hk => .inl hk)) (fun k hk => .inl (by have := hF k (.inl hk); omega)))).trans ((KeepsOthers.setCell w2 ⟨w.heap.size + 1 + 1, 0, none⟩ (.bool true)).from _)
        refine NoPO.normal ?_
        clear hS2 hS3 hR2 hu3 hu hHeld HR hs2 hm2
        have HFIN := Lib.hid (And.intro hkf hfin)
        clear hkf hfin hm3 h1
        gi_wp2_with (fail)
        exact ⟨HFIN.out.1, rfl, HFIN.out.2⟩
    · have hb : (y.1 != x) = true := by simpa using hx
      have HX := Lib.hid hx
      clear hx
      have hlen : (pre ++ [y]).length = pre.length + 1 := by simp
      have hah : aheadOf L (pre.length + 1) = y.1 := by
        rw [hy]
        unfold aheadOf
        rw [if_neg (by omega)]
        rfl
      have HAH := Lib.hid hah
      have HP := Lib.hid hpre
      clear hy hah hpre
      gi_wp2_with (fail)
      have h1 : Mod (fun k => k = w.heap.size + 1 + 1 + 1) W (W.setCell ⟨w.heap.size + 1 + 1 + 1, 0, none⟩ (.int .u64 y.1)) := (Mod.refl (fun k => k = w.heap.size + 1 + 1 + 1) _).setCell (p := ⟨w.heap.size + 1 + 1 + 1, 0, none⟩) (.inl rfl) _
      refine ⟨(KeepsOthers.setCell _ _ _).from _, KeepsVer.of_mod h1 (fun k hk => .inl (by omega)), ⟨⟨sep_other HST.out.1 h1 (fun o ho k hk e => ?_) (fun k hk => by have := h.bel.size; omega), h1.keep HST.out.2 (by omega)⟩, Nat.le_trans hB h1.size⟩, ?_, h1.keep HI.out.c (by omega), h1.keep HI.out.x (by omega), h1.keep HI.out.r (by omega), ?_, HI.out.m.next h1 (fun k hk => .inr (by omega))⟩
      · have := h.inside (Nat.le_refl _) o ho k hk
        omega
      · intro z hz
        rcases List.mem_append.1 hz with hz | hz
        · exact HI.out.ne z hz
        · simp at hz
          subst hz
          exact HX.out
      · rw [hlen, HAH.out]
        exact (blk_set (i := 0) HI.out.a).trans rfl
  case done =>
    rintro D W hD hI ⟨⟨hst, _⟩, _⟩ hK
    have e1 := blk_cell hI.r 0
    have z1 := blk_free hI.r 0
    simp at e1
    have HI := Lib.hid hI
    have HST := Lib.hid hst
    clear hst hI
    gi_wp2_with (fail)
    have h1 : Mod (fun k => k = w.heap.size + 1 + 1) W (W.setCell ⟨w.heap.size + 1 + 1, 0, none⟩ (.bool false)) := (Mod.refl (fun k => k = w.heap.size + 1 + 1) _).setCell (p := ⟨w.heap.size + 1 + 1, 0, none⟩) (.inl rfl) _
    have hK1 := (KeepsOthers.setCell W ⟨w.heap.size + 1 + 1, 0, none⟩ (.bool false)).same D _ hK rfl
    have hs1 : Sep w0 _ (chL cb sb ab at' Fs Fa s ws M) := sep_other HST.out h1 (fun o ho k hk e => by have := h.inside (Nat.le_refl _) o ho k hk; omega) (fun k hk => by have := h.bel.size; omega)
    have hb := BookStep.putObj (B := W0.heap.size) _ (.deferred none) hD hK1 rfl
    have hs2 := Abide.sep (Nat.le_trans hS0.bel.size (Nat.le_refl _)) (hS0.inside (Nat.le_refl _)) _ _ hs1 hb
    have hm2 := Abide.mod (S := fun k => Fs k ∨ Fa k) (w := w) (by omega) _ _ (HI.out.m.next h1 (fun k hk => .inr (by omega))) hb
    have hc2 := blk_cell (Abide.blk _ _ ((blk_set (i := 0) HI.out.r).trans rfl) hb) 0
    simp at hc2
    refine ⟨by simp, .inl ⟨_, _, rfl, run_takeDeferred hK1, ?_⟩⟩
    refine ⟨.bool false, by simp [results, Tryz.f11, go_sem, hc2], .inl ⟨?_, rfl, hs2, hm2⟩⟩
    intro hx
    exact HI.out.ne (x, s.ver (slotOf x)) (List.mem_map.2 ⟨x, hx, rfl⟩) rfl
  case stop =>
    rintro D c pre W hD hpre ⟨rfl, hr, k, hk, hkx, hs, hm⟩ hK
    have e1 := blk_cell hr 0
    simp at e1
    have HST := Lib.hid (And.intro hr (And.intro hs hm))
    clear hr hs hm
    gi_wp2_with (fail)
    have hb := BookStep.putObj (B := W0.heap.size) _ (.deferred none) hD hK rfl
    have hs2 := Abide.sep (L := chL cb sb ab at' Fs Fa (cutS s L k) (cutW ws at' L k) M) (Nat.le_trans hS0.bel.size (Nat.le_refl _)) (fun o ho => by
        rcases List.mem_cons.1 ho with rfl | ho
        · exact hS0.inside (Nat.le_refl _) (obChain cb sb ab at') (by simp [chL])
        · rcases List.mem_cons.1 ho with rfl | ho
          · exact hS0.inside (Nat.le_refl _) (obStore sb Fs s) (by simp [chL])
          · rcases List.mem_cons.1 ho with rfl | ho
            · exact hS0.inside (Nat.le_refl _) (obArena ab Fa ws) (by simp [chL])
            · exact hS0.inside (Nat.le_refl _) o (by simp [chL, ho])) _ _ HST.out.2.1 hb
    have hm2 := Abide.mod (S := fun k => Fs k ∨ Fa k) (w := w) (by omega) _ _ HST.out.2.2 hb
    have hc2 := blk_cell (Abide.blk _ _ HST.out.1 hb) 0
    simp at hc2
    refine ⟨by simp, .inl ⟨_, _, rfl, run_takeDeferred hK, ?_⟩⟩
    exact ⟨.bool true, by simp [results, Tryz.f11, go_sem, hc2], .inr ⟨rfl, k, hk, hkx, hs2, hm2⟩⟩
end Go.Proofs.YtoidmakaijkglaaGreat
