/- SweepTells holds: which versions are garbage, and that just these are cut and given back, is as the document says. No condition. -/
import Derived.Test.YtjojbfgppgnmjaaN10
import Derived.Test.YtjojbfgppgnmjaaWSweepAgain
namespace Go.Proofs.Ytjojbfgppgnmjaa
open Go.RowKit Go.ChangeShapes

theorem SameAll.cons {l R : List Ver} {v' v : Ver} (h : SameAll l R) (hv : SameVer v' v) : SameAll (v' :: l) (v :: R) := by
  refine ⟨by simp [h.1], fun i hi => ?_⟩
  match i with
  | 0 => exact hv
  | i + 1 => exact h.2 i (by simpa using hi)
theorem app_newS {w X W : World} {E : TypeId} {size n : Nat} {v v' : Value} {xs : List Value} (hX : Below w.heap.size w X) (hv : ∀ k, v.ownBlock = some k → w.heap.size ≤ k) (h : Appended X W 0 E size v v' n xs) :
    Below w.heap.size w W ∧ ∀ k, v'.ownBlock = some k → w.heap.size ≤ k := by
  have hXs := hX.size
  have m1 : Mod (fun k => w.heap.size ≤ k) X W := h.mod hv
  refine ⟨hX.trans (m1.below (fun k hk => hk) hXs), fun k hk => ?_⟩
  rcases h.lies with e | e
  · exact hv k (e ▸ hk)
  · rw [e] at hk
    have : X.heap.size = k := Option.some.inj hk
    omega
theorem Sep.prependV {w0 w w' : World} {L : List Ob} {v v' : Value} {l : List Ver} {y : Ver} {T : TypeId} {n : Nat} {zs : List Value} (h : Sep w0 w (obVers v l :: L))
    (hA : Appended (w.alloc (.cells y.cells.toArray T (0, 0))) w' 0 34 5 (.slice (some ⟨w.heap.size, 0, none⟩) 1 1) v' n zs) (hn : n = 1 + l.length) (hz : zs = y.cells ++ verCells l) : Sep w0 w' (obVers v' (y :: l) :: L) := by
  subst hn hz
  have hb := app_newS (w := w) (v := .slice (some ⟨w.heap.size, 0, none⟩) 1 1) ((Below.refl _ _).alloc (Nat.le_refl _) _) (fun k hk => by have : w.heap.size = k := Option.some.inj hk; omega) hA
  refine Sep.tail (A := obVers v l) (Sep.swap (Sep.new h hb.1 (A := obVers v' (y :: l)) ?_ hb.2))
  have h1 := hA.own
  show World.ownsRow _ _ _ _ _ (y :: l).length (verCells (y :: l))
  rw [show (y :: l).length = 1 + l.length by simp; omega]
  exact h1
theorem VersAt.src {w : World} {v : Value} {l : List Ver} (h : OwnedV w v l) : SrcAt w v l.length 5 (verCells l) := by
  obtain ⟨a, cap, rfl, hlc, hz, _⟩ := h.form
  obtain ⟨a', c', hv, ⟨rfl, h0⟩ | ⟨g, cur, rfl, hh, hc⟩⟩ := h.at_
  · simp only [Value.slice.injEq] at hv
    obtain ⟨rfl, _, rfl⟩ := hv
    subst h0
    exact .inl ⟨rfl, rfl, none, _, rfl, fun _ => (hz rfl).2⟩
  · simp only [Value.slice.injEq] at hv
    obtain ⟨rfl, _, rfl⟩ := hv
    refine .inr ⟨g, 0, cap, rfl, verCells_length l, fun j y hj => ?_⟩
    have hjl := (List.getElem?_eq_some_iff.1 hj).1
    rw [verCells_length] at hjl
    rw [blk_cell hh, Nat.zero_add]
    have h1 := hc (j / 5) (j % 5) (by omega) (by omega)
    have h2 := verCells_at l (j / 5) (j % 5) (by omega) (by omega)
    rw [show j / 5 * 5 + j % 5 = j by omega] at h1 h2
    rw [h1, ← h2, hj]
theorem verbox_own {w : World} {g : Nat} {T : TypeId} {v : Ver} (h : w.heap[g]? = some (.cells v.cells.toArray T (0, 0))) : w.ownsRow 0 T 5 (.slice (some ⟨g, 0, none⟩) 1 1) 1 v.cells :=
  ⟨by simp [Ver.cells], .inr ⟨g, 1, v.cells.toArray, rfl, Nat.zero_le _, h, Nat.le_refl _, by simp [maxLen], by simp [Ver.cells], by simp [Ver.cells]⟩⟩
theorem dead_none {R : List Ver} {p : Ver → Bool} : ((R.filter fun v => !p v).filter p).length = 0 := by
  rw [List.length_eq_zero_iff, List.filter_filter]
  refine List.filter_eq_nil_iff.2 fun v _ => ?_
  cases p v <;> simp
theorem ver_cells_one (l : List Ver) : ∀ y ∈ verCells l, y.oneCell' = true := by
  intro y hy
  obtain ⟨v, _, hv⟩ := List.mem_flatMap.1 hy
  exact ver_one v y hv

set_option maxRecDepth 100000 in
set_option maxHeartbeats 6400000 in
theorem sweepTells_walk {a0 a1 a3 : Option Addr} {len0 len1 len3 cap0 cap1 cap3 : Nat} {a2 : Int} {l0 l1 : List Int} {l3 : List Oth} {w : World} (n0 : l0.length = len0) (r0 : RowAt .i64 w (.slice a0 len0 cap0) l0) (_w0 : ∀ x ∈ l0, (Lit.int .i64 x).wf = true)
    (n1 : l1.length = len1) (r1 : RowAt .u64 w (.slice a1 len1 cap1) l1) (w1 : ∀ x ∈ l1, (Lit.int .u64 x).wf = true) (_w2 : (Lit.int .u64 a2).wf = true) (n3 : l3.length = len3) (r3 : OthAt w (.slice a3 len3 cap3) l3) (_w3 : ∀ i, (l3.getD i zeroOth).tx.wf) :
    Calls Try.prog 12 #[.slice a0 len0 cap0, .slice a1 len1 cap1, .int .u64 a2, .slice a3 len3 cap3] w fun e w' => e = .returned (.bool true) ∧ Below w.heap.size w w' := by
  subst n0 n1
  have HM := Lib.hid (fun wx (h : Sep w wx [obBlk w.heap.size #[.slice a3 len3 cap3] 73]) => cr_made h 40 (by decide) (by decide))
  have HS0 := Lib.hid ((Sep.nil w).new (A := obBlk w.heap.size #[.slice a3 len3 cap3] 73) (w' := w.alloc (.cells #[.slice a3 len3 cap3] 73)) (bl_alloc (Below.refl _ _) _) (blk_new _ _) (fun j hj => by have : j = w.heap.size := hj; omega))
  by_cases h20 : 20 < len3
  · clear r0 r1 w1 r3
    have h20' : (20 : Int) < len3 := by omega
    go_enter Try.func12, Try.ntmps12
    go_wp2_with fail
    refine (HM.out _ HS0.out).mono ?_
    rintro e w1 ⟨cb, sb, ab, rfl, hW⟩
    have hbk := (blk_cell hW.front 0).trans rfl
    have HW := Lib.hid hW.bel
    clear hW
    go_wp2_with fail
    refine (awake22_any _).mono ?_
    rintro e w2 ⟨rfl, hb⟩
    go_wp2_with fail
    go_ret
    exact ⟨rfl, bl_next HW.out hb⟩
  · have h20' : ¬ (20 : Int) < len3 := by omega
    have HK := Lib.hid r0
    have HN := Lib.hid r1
    have HO := Lib.hid r3
    have HWF := Lib.hid w1
    clear r0 r1 w1 r3
    go_enter Try.func12, Try.ntmps12
    go_wp2_with fail
    refine (HM.out _ HS0.out).mono ?_
    rintro e w1 ⟨cb, sb, ab, rfl, hW⟩
    have hbk := (blk_cell hW.front 0).trans rfl
    have H1 := Lib.hid (hW.add (A := obVers (.slice none 0 0) []) (fun K hS => hS.new (Below.refl _ _) (OwnedV.nil _) (fun g hg => by simp [obVers, Value.ownBlock] at hg)))
    have HT := Lib.hid (fun (W : World) (k : Int) (R : List Ver) (u : Nat) (v : Value) (l : List Ver) (h : CR w cb sb ab 40 k R u [obVers v l, obBlk w.heap.size #[.slice a3 len3 cap3] 73] W) => sweepTellsClo_tells l3 (.slice a3 len3 cap3) w.heap.size W ((blk_cell h.swap.front 0).trans rfl) (HO.out.later h.bel))
    clear hW HM HS0
    go_wp2_with fail
    go_loopw [12, 13, 14] (fun lv nv iv wr => ∃ (i : Nat) (R l : List Ver), i ≤ 30 ∧ iv = .int .i64 i ∧ nv = .int .i64 i ∧ R.length = i ∧ SameAll l (R.filter fun v => !(deadB (lookS l3) a2 v.beg v.en)) ∧ (∀ v ∈ R, v.wf ∧ v.key = 7) ∧
      CR w cb sb ab 40 0 R i [obVers lv l, obBlk w.heap.size #[.slice a3 len3 cap3] 73] wr) (fun _ _ iv _ => 30 - (intOf iv).toNat)
    case atStart => exact ⟨0, [], [], by decide, rfl, rfl, rfl, ⟨rfl, fun i hi => by simp at hi⟩, fun v hv => by simp at hv, H1.out⟩
    case round =>
      obtain ⟨i, R, l, hi, rfl, rfl, hRl, hsa, hwf, hW⟩ := hrel
      have HW := Lib.hid hW
      have HSA := Lib.hid hsa
      have HRW := Lib.hid hwf
      have HBW := Lib.hid hW.bel
      clear hW hsa hwf H1
      have x3 : IntKind.i64.wrap ((i : Int) + 1) = (i : Int) + 1 := IntWalk.i64_in _ (by omega)
      by_cases hin : i < l0.length ∧ i + 1 < l1.length ∧ i < 30
      · obtain ⟨h1, h2, h3⟩ := hin
        obtain ⟨b0, o0, rfl, g0, c0⟩ := (HK.out.later HBW.out).cell_ h1 rfl
        obtain ⟨b1, o1, rfl, g1, c1⟩ := (HN.out.later HBW.out).cell_ (i := i) (by omega) rfl
        have d0 := c0 i h1
        have d1 := c1 i (by omega)
        have d2 := c1 (i + 1) h2
        have e1 := HWF.out _ (getD_mem (show i < l1.length by omega))
        have e2 := HWF.out _ (getD_mem h2)
        clear c0 c1
        have hi1 : i < l1.length := by omega
        have p0 : (0 : Int) ≤ i := by omega
        have p1 : (i : Int) < l1.length := by omega
        have p2 : (i : Int) < l0.length := by omega
        have p3 : (i : Int) + 1 < l1.length := by omega
        have p4 : (0 : Int) ≤ (i : Int) + 1 := by omega
        have x4 : ((i : Int) + 1).toNat = i + 1 := by omega
        generalize l0.getD i 0 = k0 at *
        generalize l1.getD i 0 = x0 at *
        generalize l1.getD (i + 1) 0 = x1' at *
        go_wp2_with fail
        go_quiet ((go_at_call 47; refine Calls.quiet_of_same ((word_any _ _ _).mono fun _ _ h => ⟨h.1, h.2.symm⟩)))
        have HW1 := Lib.hid (HW.out.later (show Below wr.heap.size wr (wr.drewN nq) from below_drewN (Below.refl _ _) nq))
        obtain ⟨g1, g2⟩ := wordOf_range k0 x0 (bounds_u64 e1).1 (bounds_u64 e1).2
        obtain ⟨g3, g4⟩ := wordOf_range (k0 / 4) x1' (bounds_u64 e2).1 (bounds_u64 e2).2
        clear d0 d1 d2 e1 e2 HW
        generalize wordOf k0 x0 = b at *
        generalize wordOf (k0 / 4) x1' = e at *
        have HG := Lib.hid (And.intro (And.intro g1 g2) (And.intro g3 g4))
        clear g1 g2 g3 g4
        go_wp2_with fail
        refine (cr_make HW1.out (by omega) (key := 7) (v := i) (x := b) (y := e) (by decide) (by decide) (by omega) (by omega)).mono ?_
        rintro r w2 ⟨z, rfl, z0, z1, hW⟩
        have H2 := Lib.hid hW
        clear hW HW1
        go_wp2_with fail
        refine (cr_push H2.out).mono ?_
        rintro r w3 ⟨rfl, hW⟩
        have H3 := Lib.hid hW
        clear hW H2
        go_wp2_with fail
        refine (cr_get H3.out).mono ?_
        rintro r w4 ⟨⟨vk, vv, vb, ve, vx⟩, ⟨s1, s2, s3, s4⟩, rfl, hW⟩
        simp only at s1 s2 s3 s4
        subst vk vv vb ve
        have H4 := Lib.hid hW.forget
        simp only [Ver.value]
        clear hW H3
        have hbk4 := (blk_cell H4.out.swap.front 0).trans rfl
        have hbl4 := blk_lt H4.out.swap.front
        go_wp2_with fail
        refine (rdead_any l3 _ b e a2 _ (HO.out.later (bl_alloc H4.out.bel _)) HG.out.1.1 HG.out.1.2).mono ?_
        rintro r w5 ⟨rfl, hb5⟩
        obtain ⟨hc5, hf5⟩ := bcell hb5
        have hz5 : w4.heap.size < w5.heap.size := by have := hb5.size; simp at this; omega
        simp only [World.size_alloc] at hc5 hf5
        have H5 := Lib.hid ((H4.out.later (bl_alloc (Below.refl _ _) (.cells #[.int .i64 7, .int .i64 i, .int .u64 b, .int .u64 e, .int .u64 vx] 34))).later hb5)
        have HD := Lib.hid (dead_any 7 i b e vx a2 _ _ w5 (HT.out _ _ _ _ _ _ H5.out) HG.out.1.1 HG.out.1.2 HG.out.2.1 HG.out.2.2)
        have HRW' := Lib.hid (show ∀ v ∈ (⟨7, i, b, e, 0⟩ : Ver) :: R, v.wf ∧ v.key = 7 from fun v hv => by
          rcases List.mem_cons.1 hv with rfl | hv
          · exact ⟨⟨HG.out.1.1, HG.out.1.2, HG.out.2.1, HG.out.2.2⟩, rfl⟩
          · exact HRW.out v hv)
        clear hb5 hbk4
        rcases Bool.eq_false_or_eq_true (deadB (lookS l3) a2 b e) with hdd | hdd
        · have HF := Lib.hid (show ((⟨7, i, b, e, 0⟩ : Ver) :: R).filter (fun v => !(deadB (lookS l3) a2 v.beg v.en)) = R.filter (fun v => !(deadB (lookS l3) a2 v.beg v.en)) from List.filter_cons_of_neg (by simp [hdd]))
          rw [hdd] at HD ⊢
          clear hdd
          go_wp2_with fail
          refine HD.out.mono ?_
          rintro r w6 ⟨rfl, hb6⟩
          have H6 := Lib.hid (H5.out.later hb6)
          clear hb6 HD H5
          go_wp2_with fail
          go_roundw
          case rel => exact ⟨i + 1, ⟨7, i, b, e, 0⟩ :: R, l, by omega, by go_num, by go_num, by simp [hRl], by rw [HF.out]; exact HSA.out, HRW'.out, H6.out⟩
          case measure => simp [intOf]; omega
        · have HF := Lib.hid (show ((⟨7, i, b, e, 0⟩ : Ver) :: R).filter (fun v => !(deadB (lookS l3) a2 v.beg v.en)) = ⟨7, i, b, e, 0⟩ :: R.filter (fun v => !(deadB (lookS l3) a2 v.beg v.en)) from List.filter_cons_of_pos (by simp [hdd]))
          rw [hdd] at HD ⊢
          clear hdd
          have hll : 1 + l.length ≤ 1099511627776 := by
            have h1 := HSA.out.1
            have h2 := List.length_filter_le (fun v : Ver => !(deadB (lookS l3) a2 v.beg v.en)) R
            omega
          go_wp2_with fail
          refine HD.out.mono ?_
          rintro r w6 ⟨rfl, hb6⟩
          obtain ⟨hc6, hf6⟩ := bcell hb6
          have hz6 : w4.heap.size < w6.heap.size := by have := hb6.size; omega
          have H6 := Lib.hid (H5.out.later hb6)
          have HSRC := Lib.hid (fun o => VersAt.src (ownsRow_mod (w1 := w6.alloc o) (H6.out.front : OwnedV w6 u12 l) (Mod.of_below (F := fun _ => False) (bl_alloc (Below.refl _ _) _)) (fun _ _ h => h)))
          clear hb6 HD H5
          go_wp2_with (at_builtin; refine walk_append (zero := .agg #[.int .i64 0, .int .i64 0, .int .u64 0, .int .u64 0, .int .u64 0]) (size := 5) (base := 0) (n := 1) (m := l.length) (xs := (⟨7, i, b, e, vx⟩ : Ver).cells) (ys := verCells l) rfl _ _ rfl Try.underlying49 info_ver rfl (by decide) (Nat.le_of_ble_eq_true rfl) rfl (verbox_own (blk_at rfl)) rfl (HSRC.out _) (ver_cells_one _) hll (Nat.zero_le _) ?_)
          intro v' w7 hA
          have H7 := Lib.hid (H6.out.turn (A' := obVers v' (⟨7, i, b, e, vx⟩ :: l)) (fun K hS => hS.prependV hA rfl rfl))
          clear hA H6
          go_wp2_with fail
          go_roundw
          case rel => exact ⟨i + 1, ⟨7, i, b, e, 0⟩ :: R, ⟨7, i, b, e, vx⟩ :: l, by omega, by go_num, by go_num, by simp [hRl], by rw [HF.out]; exact HSA.out.cons ⟨rfl, rfl, rfl, rfl⟩, HRW'.out, H7.out⟩
          case measure => simp [intOf]; omega
      · have hd : (l0.length : Int) ≤ i ∨ ((i : Int) < l0.length ∧ (l1.length : Int) ≤ (i : Int) + 1) ∨ ((i : Int) < l0.length ∧ (i : Int) + 1 < l1.length ∧ i = 30) := by omega
        clear hin
        have hrest := Lib.hid (filter_rest (fun v => deadB (lookS l3) a2 v.beg v.en) R)
        have hle1 := List.length_filter_le (fun v : Ver => !(deadB (lookS l3) a2 v.beg v.en)) R
        have HC1 := Lib.hid (cr_chain HW.out a2 _ (lookS l3) (fun v hv => (HRW.out v hv).1) (fun W' k' R' u' h => HT.out W' k' R' u' _ _ h) (by decide) (by omega))
        have hd0 := Lib.hid (dead_none (R := R) (p := fun v => deadB (lookS l3) a2 v.beg v.en))
        have HRB := Lib.hid (show ∀ v ∈ (R.filter fun v => !(deadB (lookS l3) a2 v.beg v.en)), v.wf ∧ v.key = 7 from fun v hv => HRW.out v (List.mem_filter.1 hv).1)
        have HC2 := Lib.hid (fun (w3 : World) (k' : Int) (u' : Nat) (h0 : 0 ≤ k') (h1 : k' ≤ 60) (h : CR w cb sb ab 40 k' (R.filter fun v => !(deadB (lookS l3) a2 v.beg v.en)) u' [obVers u12 l, obBlk w.heap.size #[.slice a3 len3 cap3] 73] w3) => cr_chain h a2 _ (lookS l3) (fun v hv => (HRB.out v hv).1) (fun W' k' R' u' h => HT.out W' k' R' u' _ _ h) h0 (by omega))
        rw [hd0.out] at HC2
        obtain ⟨c, hc⟩ : ∃ c, (R.filter fun v => deadB (lookS l3) a2 v.beg v.en).length = c := ⟨_, rfl⟩
        obtain ⟨RB, hRB⟩ : ∃ RB, (R.filter fun v => !(deadB (lookS l3) a2 v.beg v.en)) = RB := ⟨_, rfl⟩
        rw [hc, hRB] at hrest
        rw [hc, hRB] at HC1
        rw [hRB] at HC2 HRB hle1 HSA
        clear hc hRB hd0
        have hlr := HSA.out.1
        have hcr := hrest.out
        obtain ⟨lv, lc, rfl, HLC⟩ : ∃ a cap, u12 = .slice a l.length cap ∧ Hid (0 < l.length → ∃ g, a = some ⟨g, 0, none⟩) := by
          obtain ⟨a, cap, h, _⟩ := OwnedV.form (HW.out.front : OwnedV wr u12 l)
          refine ⟨a, cap, h, Lib.hid fun hl => ?_⟩
          have h2 := OwnedV.at_ (HW.out.front : OwnedV wr u12 l)
          rw [h] at h2
          exact h2.some_ hl
        have y1 : IntKind.i64.wrap ((i : Int) - l.length) = (i : Int) - l.length := IntWalk.i64_in _ (by omega)
        have y2 : ((c : Int) != (i : Int) - l.length) = false := by simp; omega
        clear HW
        rcases hd with hd | ⟨hd, hd2⟩ | ⟨hd, hd2, rfl⟩
        all_goals
          go_wp2_with fail
          refine HC1.out.mono ?_
          rintro r w2 ⟨u', hu', rfl, hW⟩
          have H2 := Lib.hid hW
          have y3 : ((u' : Int) != (l.length : Int)) = false := by simp; omega
          clear hW HC1
          go_wp2_with fail
          refine (cr_used H2.out).mono ?_
          rintro r w3 ⟨rfl, hW⟩
          have H3 := Lib.hid hW
          clear hW H2
          go_wp2_with fail
          refine (cr_kept H3.out (by decide)).mono ?_
          rintro r w4 ⟨ma, mc, ml, rfl, hs1, hW⟩
          have H4 := Lib.hid hW
          have HS1 := Lib.hid hs1
          have y4 : ((RB.length : Int) != (l.length : Int)) = false := by simp; omega
          clear hW H3 hs1
          go_wp2_with fail
          go_loopw [25] (fun iv wr => ∃ (j : Nat), j ≤ RB.length ∧ iv = .int .i64 j ∧ Below w4.heap.size w4 wr) (fun iv _ => RB.length - (intOf iv).toNat)
          case atStart => exact ⟨0, Nat.zero_le _, rfl, Below.refl _ _⟩
          case round =>
            obtain ⟨j, hj, rfl, hB⟩ := hrel
            have HB := Lib.hid (H4.out.later hB)
            have HX := Lib.hid (HB.out.front : VersAt _ (.slice ma RB.length mc) ml)
            have HY := Lib.hid (OwnedV.at_ (HB.out.swap.front : OwnedV _ (.slice lv l.length lc) l))
            have HBB := Lib.hid hB
            clear hB
            by_cases hlt : j < RB.length
            · obtain ⟨gx, rfl⟩ := HX.out.some_ (by rw [HS1.out.1]; omega)
              obtain ⟨gy, rfl⟩ := HLC.out (by omega)
              obtain ⟨cx0, cx1, cx2, cx3⟩ := HX.out.like HS1.out hlt
              obtain ⟨cy0, cy1, cy2, cy3⟩ := HY.out.like HSA.out hlt
              have hk7 := (HRB.out _ (vgetD_mem hlt)).2
              have hltl : j < l.length := by omega
              have p0 : (0 : Int) ≤ j := by omega
              have p1 : (j : Int) < l.length := by omega
              have p2 : (j : Int) < RB.length := by omega
              generalize RB.getD j ver0 = v at *
              obtain ⟨vk, vv, vb, ve, vx⟩ := v
              simp only at cx0 cx1 cx2 cx3 cy0 cy1 cy2 cy3 hk7
              subst hk7
              have z1 : (vv != vv) = false := by simp
              have z2 : (vb != vb) = false := by simp
              have z3 : (ve != ve) = false := by simp
              go_wp2_with fail
              go_quiet (fail)
              go_wp2_with fail
              go_roundw
              case rel => exact ⟨j + 1, by omega, by go_num, below_drewN HBB.out _⟩
              case measure => simp [intOf]; omega
            · have HC3 := Lib.hid (HC2.out _ _ _ (by omega) (by omega) HB.out.drop)
              clear HC2
              go_wp2_with fail
              refine HC3.out.mono ?_
              rintro r w5 ⟨u5, hu5, rfl, hW⟩
              have H5 := Lib.hid hW.bel
              clear hW
              go_wp2_with fail
              refine (kept_none _ _).mono ?_
              rintro r w6 ⟨rfl, rfl⟩
              go_wp2_with fail
              refine (awake22_any _).mono ?_
              rintro e w10 ⟨rfl, hb10⟩
              go_wp2_with fail
              go_ret
              exact ⟨rfl, bl_next H5.out hb10⟩
end Go.Proofs.Ytjojbfgppgnmjaa
