/- overlap, Writers. -/
import Derived.Test.YtpohehialkgigaaAQ
import Derived.Test.YtpohehialkgigaaAO
namespace Go.Proofs.Ytpohehialkgigaa
open Go.RowKit
theorem any_of {l m : List Int} {k : Int} (h1 : k ∈ l) (h2 : k ∈ m) : (l.any fun k => decide (k ∈ m)) = true := List.any_eq_true.2 ⟨k, h1, dec_t h2⟩
theorem any_none {l m : List Int} (h : ∀ k ∈ l, k ∉ m) : (l.any fun k => decide (k ∈ m)) = false := by
  rw [List.any_eq_false]
  intro k hk
  simpa using h k hk
set_option maxRecDepth 100000 in
set_option maxHeartbeats 6400000 in
theorem overlap_any {w : World} {av bv : Value} {a b : Dl} (ha : DealIs w av a) (hb : DealIs w bv b) (wa : a.wf) (wb : b.wf) :
    Calls Try.prog 25 #[av, bv] w fun e w' => e = .returned (.bool (overlapD a b)) ∧ Below w.heap.size w w' := by
  have hka := fun W (hW : Below w.heap.size w W) => keys_any (ha.later hW) wa
  have hkb := fun W (hW : Below w.heap.size w W) => keys_any (hb.later hW) wb
  unfold overlapD
  generalize keysD a = ka at *
  generalize keysD b = kb at *
  obtain ⟨va, rfl, hoa⟩ := ha
  obtain ⟨vb, rfl, hob⟩ := hb
  obtain ⟨a1, ac, rfl, -⟩ := hoa.form
  obtain ⟨b1, bc, rfl, -⟩ := hob.form
  clear wa wb hoa hob
  generalize a.ops.length = na at *
  generalize b.ops.length = nb at *
  obtain ⟨aid, alv, ast, abg, aen, aops⟩ := a
  obtain ⟨bid, blv, bst, bbg, ben, bops⟩ := b
  simp only [Dl.cells] at *
  have HKA := Lib.hid hka
  have HKB := Lib.hid hkb
  clear hka hkb
  by_cases h1 : aen ≤ bbg
  · have e1 := dec_t h1
    rw [dec_t h1]
    clear h1
    have HB : Hid (∀ o p : Obj, Below w.heap.size w ((w.alloc o).alloc p)) := Lib.hid fun o p => bl_alloc (bl_alloc (Below.refl _ _) _) _
    go_enter Try.func25, Try.ntmps25
    go_wp2_with fail
    go_ret
    exact ⟨rfl, HB.out _ _⟩
  · have e1 := dec_f h1
    rw [dec_f h1]
    clear h1
    by_cases h2 : ben ≤ abg
    · have e2 := dec_t h2
      rw [dec_t h2]
      clear h2
      have HB : Hid (∀ o p : Obj, Below w.heap.size w ((w.alloc o).alloc p)) := Lib.hid fun o p => bl_alloc (bl_alloc (Below.refl _ _) _) _
      go_enter Try.func25, Try.ntmps25
      go_wp2_with fail
      go_ret
      exact ⟨rfl, HB.out _ _⟩
    · have e2 := dec_f h2
      rw [dec_f h2]
      clear h2
      have hb0 : Below w.heap.size w ((w.alloc (.cells #[.int .i64 aid, .int .i64 alv, .int .i64 ast, .int .u64 abg, .int .u64 aen, .slice a1 na ac] 25 (0, 0))).alloc (.cells #[.int .i64 bid, .int .i64 blv, .int .i64 bst, .int .u64 bbg, .int .u64 ben, .slice b1 nb bc] 25 (0, 0))) := bl_alloc (bl_alloc (Below.refl _ _) _) _
      have hk1 : ((w.alloc (.cells #[.int .i64 aid, .int .i64 alv, .int .i64 ast, .int .u64 abg, .int .u64 aen, .slice a1 na ac] 25 (0, 0))).alloc (.cells #[.int .i64 bid, .int .i64 blv, .int .i64 bst, .int .u64 bbg, .int .u64 ben, .slice b1 nb bc] 25 (0, 0))).heap[w.heap.size]? = _ := blk_alloc (blk_new _ _)
      have hk2 : ((w.alloc (.cells #[.int .i64 aid, .int .i64 alv, .int .i64 ast, .int .u64 abg, .int .u64 aen, .slice a1 na ac] 25 (0, 0))).alloc (.cells #[.int .i64 bid, .int .i64 blv, .int .i64 bst, .int .u64 bbg, .int .u64 ben, .slice b1 nb bc] 25 (0, 0))).heap[w.heap.size + 1]? = _ := blk_at (by simp)
      go_enter Try.func25, Try.ntmps25
      go_upto_region 1 with fail
      generalize (w.alloc (.cells #[.int .i64 aid, .int .i64 alv, .int .i64 ast, .int .u64 abg, .int .u64 aen, .slice a1 na ac] 25 (0, 0))).alloc (.cells #[.int .i64 bid, .int .i64 blv, .int .i64 bst, .int .u64 bbg, .int .u64 ben, .slice b1 nb bc] 25 (0, 0)) = w1 at *
      have x0 := blk_cell hk1 0
      have x1 := blk_cell hk1 1
      have x2 := blk_cell hk1 2
      have x3 := blk_cell hk1 3
      have x4 := blk_cell hk1 4
      have x5 := blk_cell hk1 5
      have y3 := blk_cell hk2 3
      have y4 := blk_cell hk2 4
      simp at x0 x1 x2 x3 x4 x5 y3 y4
      have HB1 := Lib.hid hb0
      have HK2 := Lib.hid hk2
      clear hb0 hk1 hk2
      go_wp2_with fail
      refine (HKA.out _ HB1.out).mono ?_
      rintro e w2 ⟨ma, sa, rfl, hmg, hsa, hka, hb2⟩
      have hk3 := below_keep hb2 HK2.out
      have z0 := blk_cell hk3 0
      have z1 := blk_cell hk3 1
      have z2 := blk_cell hk3 2
      have z3 := blk_cell hk3 3
      have z4 := blk_cell hk3 4
      have z5 := blk_cell hk3 5
      simp at z0 z1 z2 z3 z4 z5
      have HSA := Lib.hid hsa
      have HA := Lib.hid hka
      have HB2 := Lib.hid (bl_next HB1.out hb2)
      clear hmg hsa hka hb2 hk3 HKA x0 x1 x2 x3 x4 x5 y3 y4
      go_wp2_with fail
      refine (HKB.out _ HB2.out).mono ?_
      rintro e w3 ⟨mb, sb, rfl, hmg, hsb, hkb, hb3⟩
      have HSB := Lib.hid hsb
      have HSA3 := Lib.hid (HSA.out.later hb3)
      have HBK := Lib.hid hkb
      have HB3 := Lib.hid (bl_next HB2.out hb3)
      clear hmg hsb hkb hb3 HKB z0 z1 z2 z3 z4 z5 HSA
      go_wp2_with (at_range; refine wpList_range_own _ rfl _ _ rfl 3 3 int_key Try.underlying65 (plainElem Try.prog 3) mb sb.length (stD sb) rfl HSB.out.own ?_)
      intro w4 hr4 hg4 hs4
      have hm4 : Mod (fun _ => False) w3 w4 := Mod.of_grown hg4 fun k hk => by cases hk
      have HR := Lib.hid hr4
      have HSA4 := Lib.hid (HSA3.out.mod hm4 (fun h => h))
      have HB4 : Hid (Below w.heap.size w w4) := Lib.hid (HB3.out.trans (hm4.below (fun k hk => hk.elim) HB3.out.size))
      have HRG : Hid (w.heap.size ≤ w3.heap.size) := Lib.hid HB3.out.size
      have HRN : Hid (ma ≠ w3.heap.size) := Lib.hid (Nat.ne_of_lt HSA3.out.lt)
      generalize w3.heap.size = r at *
      clear hr4 hg4 hs4 hm4 HSB HB3 HSA3
      go_wp2_with fail
      go_loopg [] (Go.Maps.size (stD sb)) (fun kx wr => ∃ left cnt, Hid (wr.ranges Try.prog 3 (plainElem Try.prog 3) mb r sb.length (stD sb) left cnt) ∧ cnt ≤ kx ∧ Hid (∀ k, (sb.get k).isSome = true → left (.int .i64 k) = false → k ∉ ka) ∧ Hid (SMap wr ma sa) ∧ Hid (Below w.heap.size w wr))
      case atStart => exact ⟨_, _, HR, Nat.le_refl _, Lib.hid (fun k h1 h2 => by rw [st_has, h1] at h2; cases h2), HSA4, HB4⟩
      case round =>
        obtain ⟨left, cnt, HR5, hcx, HL, HS5, HB5⟩ := hrel
        clear HR HSA4 HB4
        go_wp2_with (at_next; refine wpList_next_ranges_ii _ rfl _ rfl 3 3 .i64 .i64 int_key Try.underlying3 Try.underlying3 mb r sb.length (stD sb) left cnt rfl HR5.out ?_ ?_)
        · intro _ hl0
          have HN : Hid ((kb.any fun k => decide (k ∈ ka)) = false) := Lib.hid (any_none fun k hk => HL.out k (by rw [HBK.out k, if_pos hk]; rfl) (hl0 _))
          clear hl0
          go_wp2_with fail
          go_ret
          exact ⟨by rw [HN.out]; rfl, HB5.out⟩
        · intro x c w6 cnt' hwx hwc hlx hat hr6 hlt hg6 hs6 hen
          have hsome := has_of_at hat
          have hxb : x ∈ kb := by
            rw [HBK.out x] at hsome
            by_cases hx : x ∈ kb
            · exact hx
            · rw [if_neg hx] at hsome; cases hsome
          have hm6 : Mod (fun i => i = r) wr w6 := Mod.of_grown hg6 fun k hk => .inl (by simpa using hk.symm)
          have hs6' := HS5.out.mod hm6 (fun e => HRN.out e)
          have HS6 := Lib.hid hs6'
          have HB6 : Hid (Below w.heap.size w w6) := Lib.hid (HB5.out.trans (hm6.below (fun k hk => by rw [hk]; exact HRG.out) HB5.out.size))
          have HR6 := Lib.hid hr6
          have HWX := Lib.hid hwx
          have hget := HA.out x
          clear hwx hwc hlx hat hr6 hg6 hs6 hsome hm6 hs6' HR5
          by_cases hxa : x ∈ ka
          · rw [if_pos hxa] at hget
            have HG := Lib.hid hget
            have HN : Hid ((kb.any fun k => decide (k ∈ ka)) = true) := Lib.hid (any_of hxb hxa)
            clear hget hxa hxb
            go_wp2_with (at_lookup; refine smap_look rfl _ _ rfl Try.underlying65 rfl HS6.out rfl HWX.out ?_; rw [HG.out]; simp only [Act.put, List.setIfInBounds_toArray, List.set_cons_zero, List.set_cons_succ, Option.getD_some])
            go_ret
            exact ⟨by rw [HN.out]; rfl, HB6.out⟩
          · rw [if_neg hxa] at hget
            have HG := Lib.hid hget
            have HL2 : Hid (∀ k, (sb.get k).isSome = true → (left (.int .i64 k) && !(Lit.int .i64 k).sameKey (.int .i64 x)) = false → k ∉ ka) := Lib.hid fun k h1 h2 => by
              rcases struck left h2 with rfl | h3
              · exact hxa
              · exact HL.out k h1 h3
            clear hget hxa hxb
            go_wp2_with (at_lookup; refine smap_look rfl _ _ rfl Try.underlying65 rfl HS6.out rfl HWX.out ?_; rw [HG.out]; simp only [Act.put, List.setIfInBounds_toArray, List.set_cons_zero, List.set_cons_succ, Option.getD_none])
            go_roundg cnt'
            case rel => exact ⟨_, cnt', HR6, Nat.le_refl _, HL2, HS6, HB6⟩
            case measure => omega
end Go.Proofs.Ytpohehialkgigaa
