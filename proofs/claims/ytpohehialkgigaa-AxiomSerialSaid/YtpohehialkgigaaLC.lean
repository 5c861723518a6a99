/- Serially: the walk. -/
import Derived.Test.YtpohehialkgigaaLI
import Derived.Deep.CutRange
namespace Go.Proofs.Ytpohehialkgigaa
open Go.RowKit
set_option maxRecDepth 100000 in
set_option maxHeartbeats 12800000 in
theorem serially_any {w : World} {ov gv : Value} {L : List (List OpR)} {gs : List Int} (ho : OpsAt w ov L) (hg : RowAt .i64 w gv gs) (wo : ∀ l ∈ L, ∀ o ∈ l, (Lit.int .i64 o.kind).wf = true ∧ (Lit.int .i64 o.val).wf = true) :
    Calls Try.prog 22 #[ov, gv] w fun e w' => ∃ v l k c s, e = .returned v ∧ DealsAt w' v l ∧ SerK k c l s ∧ k ≤ 10 ∧ Below w.heap.size w w' := by
  obtain ⟨oa, oc, rfl, hoc⟩ := ho.form
  obtain ⟨ga, gc, rfl⟩ : ∃ a cap, gv = .slice a gs.length cap := by
    rcases hg with ⟨rfl, a, cap, rfl, _⟩ | ⟨b, off, cap, rfl, _⟩
    · exact ⟨a, cap, rfl⟩
    · exact ⟨_, cap, rfl⟩
  have HO := Lib.hid ho
  have HG := Lib.hid hg
  have WO := Lib.hid wo
  clear ho hg wo
  have ha := alloc_there
  have hb := alloc_val
  go_enter Try.func22, Try.ntmps22
  go_upto_region 4 with fail
  clear ha hb
  show Code.wp Try.prog _ _ _ ((w.alloc (.cells (boolCells (List.replicate 64 false)) 76 (0, 0))).alloc (.cells (intCells (List.replicate 64 0)) 77 (0, 0)))
  have ht := there_new w
  have hv := val_new (w.alloc (.cells (boolCells (List.replicate 64 false)) 76 (0, 0)))
  have ht2 := ht.mod (F := fun _ => False) (Mod.of_below (bl_alloc (Below.refl _ _) (.cells (intCells (List.replicate 64 0)) 77 (0, 0)))) (fun h => h)
  have hb1 : Below w.heap.size w ((w.alloc (.cells (boolCells (List.replicate 64 false)) 76 (0, 0))).alloc (.cells (intCells (List.replicate 64 0)) 77 (0, 0))) := bl_alloc (bl_alloc (Below.refl _ _) _) _
  have e1 : (w.alloc (.cells (boolCells (List.replicate 64 false)) 76 (0, 0))).heap.size = w.heap.size + 1 := by simp
  rw [e1] at hv
  have hsz : ((w.alloc (.cells (boolCells (List.replicate 64 false)) 76 (0, 0))).alloc (.cells (intCells (List.replicate 64 0)) 77 (0, 0))).heap.size = w.heap.size + 2 := by simp
  clear ht e1
  generalize (w.alloc (.cells (boolCells (List.replicate 64 false)) 76 (0, 0))).alloc (.cells (intCells (List.replicate 64 0)) 77 (0, 0)) = w1 at *
  have HT := Lib.hid ht2
  have HV := Lib.hid hv
  have HB := Lib.hid hb1
  have HSZ := Lib.hid hsz
  have HOB := Lib.hid (HO.out.later hb1)
  clear ht2 hv hb1 hsz
  go_wp2_with fail
  go_loopg [5, 8, 9] 10 (fun kx outv cv iv wr => ∃ (k c : Nat) (ds : List (Dl × Value)) (s : St), iv = .int .i64 k ∧ cv = .int .u64 c ∧ k ≤ L.length ∧ k ≤ 10 ∧ 10 - k ≤ kx ∧ Hid (OutLoop w k c ds s outv wr))
  case atStart => exact ⟨0, 0, [], [], rfl, rfl, Nat.zero_le _, Nat.zero_le _, Nat.le_refl _, Lib.hid ⟨SerK.nil, NewDeals.nil _ _, by simp, HT.out, HV.out, HB.out, by rw [HSZ.out]; exact Nat.le_refl _⟩⟩
  case round =>
    obtain ⟨k, c, ds, s, rfl, rfl, hk, hk10, hkx, HOL⟩ := hrel
    have HS := Lib.hid HOL.out.ser
    have HN := Lib.hid HOL.out.row
    have HC := Lib.hid HOL.out.calls
    have HT1 := Lib.hid HOL.out.there
    have HV1 := Lib.hid HOL.out.val
    have HB1 := Lib.hid HOL.out.below
    have HZ1 := Lib.hid HOL.out.size
    clear HT HV HB
    have q0 : (0 : Int) ≤ (k : Int) := by omega
    by_cases hlt : k < L.length ∧ k < 10
    · have q1 : (k : Int) < (L.length : Int) := by omega
      have q2 : (k : Int) < 10 := by omega
      have hck := HS.out.clock
      have hcw : IntKind.u64.wrap ((c : Int) + 1) = (c : Int) + 1 := IntWalk.u64_in _ (by omega)
      have hkw : IntKind.i64.wrap ((k : Int) + 1) = (k : Int) + 1 := IntWalk.i64_in _ (by omega)
      go_upto_region 10 with fail
      go_upto_if 34 with fail
      go_cut [8] from 34 to 51 (fun s8 wx => ∃ (c1 : Nat) (lv : Int), s8 = .int .u64 c1 ∧ c + 1 ≤ c1 ∧ c1 ≤ c + 8 ∧ (lv = 1 ∨ lv = 2 ∨ lv = 3) ∧ wx = wr.alloc (.cells #[.int .i64 (k + 1), .int .i64 lv, .int .i64 3, .int .u64 (c + 1), .int .u64 0, .slice none 0 0] 25 (0, 0)))
      case first =>
        --{f1
        by_cases hgl : k < gs.length
        · have hgi : (k : Int) < (gs.length : Int) := by omega
          rcases HG.out with ⟨h0, _⟩ | ⟨gb, goff, gcap, hv, -, -, hbl, hcc⟩
          · rw [h0] at hgl
            exact absurd hgl (Nat.not_lt_zero k)
          simp only [Value.slice.injEq, true_and] at hv
          obtain ⟨rfl, rfl⟩ := hv
          have cg := (HB1.out.cell (p := ⟨gb, goff + k, none⟩) hbl).trans (hcc k hgl)
          have cg2 : (wr.alloc (.cells #[.int .i64 (k + 1), .int .i64 3, .int .i64 3, .int .u64 (c + 1), .int .u64 0, .slice none 0 0] 25 (0, 0))).cell? ⟨gb, goff + k, none⟩ = some (.int .i64 (gs.getD k 0)) := ((bl_alloc (Below.refl wr.heap.size wr) _).cell (p := ⟨gb, goff + k, none⟩) (Nat.lt_of_lt_of_le hbl HB1.out.size)).trans cg
          have hne := World.new_ne wr ⟨gb, goff + k, none⟩ cg
          clear hcc cg
          generalize gs.getD k 0 = g at *
          have m7 := i64_and7 g
          obtain ⟨n7, h7, h7b⟩ : ∃ n : Nat, g % 8 = n ∧ n < 8 := ⟨(g % 8).toNat, by omega, by omega⟩
          rw [h7] at m7
          have m255 := i64_and255 (g / 8)
          obtain ⟨n9, h9, h9b⟩ : ∃ n : Nat, g / 8 % 256 = n ∧ n < 256 := ⟨(g / 8 % 256).toNat, by omega, by omega⟩
          rw [h9] at m255
          have e7 : IntKind.u64.wrap (n7 : Int) = (n7 : Int) := IntWalk.u64_in _ (by omega)
          have e8 : IntKind.u64.wrap ((c : Int) + 1 + n7) = (c : Int) + 1 + n7 := IntWalk.u64_in _ (by omega)
          have hr : (n9 : Int) % 3 = ((n9 % 3 : Nat) : Int) := by simp
          have hr2 : n9 % 3 < 3 := Nat.mod_lt _ (by decide)
          clear h7 h9
          generalize n9 % 3 = r at *
          go_wp2_with fail
          go_meet
          case rel => exact ⟨c + 1 + n7, (r : Int) + 1, rfl, by omega, by omega, by omega, rfl⟩
        · have hgi : ¬ (k : Int) < (gs.length : Int) := by omega
          have hgd : decide (k < gs.length) = false := by simpa using hgl
          have hgd2 : decide ((k : Int) < (gs.length : Int)) = false := by simpa using hgl
          go_wp2_with fail
          go_meet
          case rel => exact ⟨c + 1, 3, rfl, Nat.le_refl _, by omega, .inr (.inr rfl), rfl⟩
        --}f1
      case rest =>
      obtain ⟨c1, lv, rfl, hc1, hc2, hlv, rfl⟩ := hcut
      have hcw1 : IntKind.u64.wrap ((c1 : Int) + 1) = (c1 : Int) + 1 := IntWalk.u64_in _ (by omega)
      go_upto_region 15 with fail
      have hd0 : (wr.alloc (.cells #[.int .i64 (k + 1), .int .i64 lv, .int .i64 3, .int .u64 (c + 1), .int .u64 (c1 + 1), .slice none 0 0] 25 (0, 0))).heap[wr.heap.size]? = some (.cells #[.int .i64 (k + 1), .int .i64 lv, .int .i64 3, .int .u64 (c + 1), .int .u64 (c1 + 1), .slice none 0 0] 25 (0, 0)) := blk_new _ _
      have hb0 : Below wr.heap.size wr (wr.alloc (.cells #[.int .i64 (k + 1), .int .i64 lv, .int .i64 3, .int .u64 (c + 1), .int .u64 (c1 + 1), .slice none 0 0] 25 (0, 0))) := bl_alloc (Below.refl _ _) _
      generalize wr.alloc (.cells #[.int .i64 (k + 1), .int .i64 lv, .int .i64 3, .int .u64 (c + 1), .int .u64 (c1 + 1), .slice none 0 0] 25 (0, 0)) = w2 at *
      generalize hdb : wr.heap.size = db at *
      have HD0 := Lib.hid hd0
      have HB0 := Lib.hid hb0
      have HDB := Lib.hid hdb
      clear hd0 hb0 hdb
      obtain ⟨lb, loff, rfl, hlb, rv, hrv, hrow⟩ : ∃ lb loff, oa = some ⟨lb, loff, none⟩ ∧ lb < w.heap.size ∧ ∃ rv, w.cell? ⟨lb, loff + k, none⟩ = some rv ∧ RowOps w rv (L.getD k []) := by
        rcases HO.out with ⟨h0, _⟩ | ⟨b, off, cap, hv, -, hl, hc⟩
        · exact absurd hlt.1 (by rw [h0]; exact Nat.not_lt_zero k)
        · simp only [Value.slice.injEq, true_and] at hv
          exact ⟨b, off, hv.1, hl, hc k hlt.1⟩
      obtain ⟨ra, rc, rfl, hrc⟩ := hrow.form
      have WK := Lib.hid (fun o ho => WO.out (L.getD k []) (by rw [List.getD_eq_getElem?_getD]; simp [hlt.1]) o ho)
      have HRV := Lib.hid hrv
      have HROW := Lib.hid hrow
      clear hrv hrow
      generalize L.getD k [] = l at *
      obtain ⟨wo, rfl⟩ : ∃ x, x = wr := ⟨_, rfl⟩
      obtain ⟨gko, rfl⟩ : ∃ x, x = gk := ⟨_, rfl⟩
      go_upto_block 2 with fail
      go_cut [11, 12, 13, 14] from 56 to 160 (fun s11 s12 s13 s14 wx => ∃ (cs : List (Cl × Value)) (s2 : St) (ov : Value), InLoop w wo db k lv (c + 1) (c1 + 1) s 8 cs s2 ov wx)
      case first =>
        --{f2
        go_wp2_with fail
        go_loopg [11] 8 (fun kq qv wx => ∃ (q : Nat) (cs : List (Cl × Value)) (s2 : St) (ov : Value), qv = .int .i64 q ∧ q ≤ l.length ∧ q ≤ 8 ∧ 8 - q ≤ kq ∧ Hid (InLoop w wo db k lv (c + 1) (c1 + 1) s q cs s2 ov wx))
        case atStart => exact ⟨0, [], s, .slice none 0 0, rfl, Nat.zero_le _, Nat.zero_le _, Nat.le_refl _, Lib.hid ⟨InK.nil HS.out.low, NewCalls.nil _ _, by simp, HD0.out, HT1.out.mod (Mod.of_below (F := fun _ => False) (by rw [HDB.out]; exact HB0.out)) (fun h => h), HV1.out.mod (Mod.of_below (F := fun _ => False) (by rw [HDB.out]; exact HB0.out)) (fun h => h), Mod.of_below (by rw [HDB.out]; exact HB0.out), blk_lt HD0.out⟩⟩
        case round =>
          obtain ⟨q, cs, s2, ov, rfl, hql, hq8, hqk, HI⟩ := hrel
          have hbw : Below w.heap.size w wr := HB1.out.trans (HI.out.mod.below (fun g hg => by rcases hg with rfl | rfl <;> omega) HB1.out.size)
          have cop : wr.cell? ⟨lb, loff + k, none⟩ = some (.slice ra l.length rc) := (hbw.cell (p := ⟨lb, loff + k, none⟩) hlb).trans HRV.out
          have p0 : (0 : Int) ≤ (q : Int) := by omega
          by_cases hlt2 : q < l.length ∧ q < 8
          · have p1 : (q : Int) < (l.length : Int) := by omega
            have p2 : (q : Int) < 8 := by omega
            have hqw : IntKind.i64.wrap ((q : Int) + 1) = (q : Int) + 1 := IntWalk.i64_in _ (by omega)
            obtain ⟨rb, roff, hra, hrb, hr4⟩ : ∃ rb roff, ra = some ⟨rb, roff, none⟩ ∧ rb < w.heap.size ∧ ∀ j, j < 4 → w.cell? ⟨rb, roff + q * 4 + j, none⟩ = ((l.getD q opr0).cells)[j]? := by
              rcases HROW.out with ⟨h0, _⟩ | ⟨b, off, cap, hv, -, hl, hc⟩
              · exact absurd hlt2.1 (by rw [h0]; exact Nat.not_lt_zero q)
              · simp only [Value.slice.injEq, true_and] at hv
                exact ⟨b, off, hv.1, hl, fun j hj => hc q hlt2.1 j hj⟩
            have hr4' : ∀ j, j < 4 → wr.cell? ⟨rb, roff + q * 4 + j, none⟩ = ((l.getD q opr0).cells)[j]? := fun j hj => (hbw.cell (p := ⟨rb, roff + q * 4 + j, none⟩) hrb).trans (hr4 j hj)
            have hwo := WK.out (l.getD q opr0) (by rw [List.getD_eq_getElem?_getD]; simp [hlt2.1])
            generalize l.getD q opr0 = o at *
            obtain ⟨kd, ky, hi, vl⟩ := o
            have z0 := hr4' 0 (by decide)
            have z1 := hr4' 1 (by decide)
            have z2 := hr4' 2 (by decide)
            have z3 := hr4' 3 (by decide)
            simp only [OpR.cells, List.getElem?_cons_zero, List.getElem?_cons_succ, Nat.add_zero] at z0 z1 z2 z3
            clear hr4 hr4'
            obtain ⟨n7, h7, h7b⟩ : ∃ n : Nat, ky % 8 = n ∧ n < 8 := ⟨(ky % 8).toNat, by omega, by omega⟩
            have m7 := i64_and7 ky
            rw [h7] at m7
            have HBW := Lib.hid hbw
            have HWO := Lib.hid hwo
            have H7 := Lib.hid h7
            have HRA := Lib.hid hra
            clear hbw hwo h7
            subst hra
            go_upto_block 4 with fail
            go_cut [14] from 83 to 152 (fun s14 wx => ∃ (cl : Cl) (pv : Value), InCall w wr wr.heap.size s2 cl pv wx)
            case first =>
              have hn6 : n7 < 64 := by omega
              have hbb : Below wr.heap.size wr ((wr.alloc (.cells #[] 29 (0, 0))).alloc (.cells #[] 29 (0, 0))) := bl_alloc (bl_alloc (Below.refl _ _) _) _
              have f6 : ∀ o r, ((wr.alloc o).alloc r).cell? ⟨w.heap.size, n7, none⟩ = some (.bool (s2.get n7).isSome) ∧ ((wr.alloc o).alloc r).frozen? ⟨w.heap.size, n7, none⟩ = false := fun o r => (HI.out.there.mod (F := fun _ => False) (Mod.of_below (bl_alloc (bl_alloc (Below.refl _ _) o) r)) (fun h => h)).cell hn6
              obtain ⟨vx, f7, hvx⟩ : ∃ vx, (∀ o r, ((wr.alloc o).alloc r).cell? ⟨w.heap.size + 1, n7, none⟩ = some (.int .i64 vx) ∧ ((wr.alloc o).alloc r).frozen? ⟨w.heap.size + 1, n7, none⟩ = false) ∧ ∀ y, s2.get n7 = some y → vx = y := by
                obtain ⟨V, h1, h2, h3⟩ := HI.out.val
                refine ⟨V.getD n7 0, fun o r => ?_, h3 n7 hn6⟩
                have h4 := below_keep (bl_alloc (bl_alloc (Below.refl wr.heap.size wr) o) r) h1
                refine ⟨?_, blk_free h4 n7⟩
                rw [blk_cell h4]
                simp [intCells, List.getD_eq_getElem?_getD, h2, hn6]
              have F6 := Lib.hid f6
              have F7 := Lib.hid f7
              have HVX := Lib.hid hvx
              clear f6 f7 hvx hbb
              have f6a := fun o r => (F6.out o r).1
              have f7a := fun o r => (F7.out o r).1
              have f6b := fun o r => (F6.out o r).2
              have f7b := fun o r => (F7.out o r).2
              have HSW := Lib.hid (show w.heap.size + 2 ≤ wr.heap.size by have := HI.out.size; have := HZ1.out; omega)
              have r7 : (n7 : Int) < 64 := by omega
              have r0 : (0 : Int) ≤ (n7 : Int) := by omega
              have r8 : (n7 : Int) ≤ 7 := by omega
              have HK7 := Lib.hid (wrap_i64_wf (x := (n7 : Int)) (by omega) (by omega))
              by_cases k1 : kd = 1
              · --{k1
                have e1 := bq_t k1
                subst k1
                rcases hg : s2.get n7 with _ | y
                · rw [hg] at f6a
                  have HG2 := Lib.hid hg
                  clear hg
                  simp only [Option.isSome_none] at f6a
                  go_wp2_with fail
                  go_meet
                  case rel => exact ⟨⟨1, n7, 0, 0, 11, 0, [], 0, 0⟩, _, InCall.still HI.out.there HI.out.val (by simp [answersD, HG2.out]) ⟨r0, r8⟩ rfl ⟨rfl, HK7.out, rfl⟩ rfl⟩
                · rw [hg] at f6a
                  obtain rfl := HVX.out y hg
                  have HG2 := Lib.hid hg
                  clear hg
                  simp only [Option.isSome_some] at f6a
                  go_wp2_with fail
                  go_meet
                  case rel => exact ⟨⟨1, n7, 0, 0, 0, vx, [], 0, 0⟩, _, InCall.still HI.out.there HI.out.val (by simp [answersD, HG2.out]) ⟨r0, r8⟩ rfl ⟨rfl, HK7.out, rfl⟩ rfl⟩
                --}k1
              have e1 := bq_f k1
              by_cases k2 : kd = 2
              · --{k2
                have e2 := bq_t k2
                subst k2
                rcases hg : s2.get n7 with _ | y
                · rw [hg] at f6a
                  have HG2 := Lib.hid hg
                  clear hg
                  simp only [Option.isSome_none] at f6a
                  go_upto_region 30 with fail
                  have y1 := blk_cell (blk_alloc (p := .cells #[.int .i64 0, .int .i64 0, .slice none 0 0, .int .i64 0, .int .i64 0] 33 (0, 0)) (blk_new wr (.cells #[.int .i64 2, .int .i64 n7, .int .i64 0, .int .i64 vl] 29 (0, 0)))) 1
                  have y3 := blk_cell (blk_alloc (p := .cells #[.int .i64 0, .int .i64 0, .slice none 0 0, .int .i64 0, .int .i64 0] 33 (0, 0)) (blk_new wr (.cells #[.int .i64 2, .int .i64 n7, .int .i64 0, .int .i64 vl] 29 (0, 0)))) 3
                  simp only [List.getElem?_toArray, List.getElem?_cons_zero, List.getElem?_cons_succ] at y1 y3
                  have b6a := f6a (.cells #[.int .i64 2, .int .i64 n7, .int .i64 0, .int .i64 vl] 29 (0, 0)) (.cells #[.int .i64 0, .int .i64 0, .slice none 0 0, .int .i64 0, .int .i64 0] 33 (0, 0))
                  have b6b := f6b (.cells #[.int .i64 2, .int .i64 n7, .int .i64 0, .int .i64 vl] 29 (0, 0)) (.cells #[.int .i64 0, .int .i64 0, .slice none 0 0, .int .i64 0, .int .i64 0] 33 (0, 0))
                  have b7a := f7a (.cells #[.int .i64 2, .int .i64 n7, .int .i64 0, .int .i64 vl] 29 (0, 0)) (.cells #[.int .i64 0, .int .i64 0, .slice none 0 0, .int .i64 0, .int .i64 0] 33 (0, 0))
                  have b7b := f7b (.cells #[.int .i64 2, .int .i64 n7, .int .i64 0, .int .i64 vl] 29 (0, 0)) (.cells #[.int .i64 0, .int .i64 0, .slice none 0 0, .int .i64 0, .int .i64 0] 33 (0, 0))
                  clear f6a f6b f7a f7b
                  have hT := HI.out.there.two (.cells #[.int .i64 2, .int .i64 n7, .int .i64 0, .int .i64 vl] 29 (0, 0)) (.cells #[.int .i64 0, .int .i64 0, .slice none 0 0, .int .i64 0, .int .i64 0] 33 (0, 0))
                  have hV := HI.out.val.two (.cells #[.int .i64 2, .int .i64 n7, .int .i64 0, .int .i64 vl] 29 (0, 0)) (.cells #[.int .i64 0, .int .i64 0, .slice none 0 0, .int .i64 0, .int .i64 0] 33 (0, 0))
                  have hcall := fun wx hm ht hv => InCall.turned (wx := wx) (c := ⟨2, n7, 0, vl, 0, 0, [], 0, 0⟩) (s := s2) HSW.out hm ht hv (by simp [answersD, HG2.out]) ⟨r0, r8⟩ rfl ⟨rfl, HK7.out, HWO.out.2⟩
                  have ne1 : wr.heap.size ≠ w.heap.size := by have := HSW.out; omega
                  have ne2 : wr.heap.size ≠ w.heap.size + 1 := by have := HSW.out; omega
                  have ne3 : w.heap.size ≠ wr.heap.size := by have := HSW.out; omega
                  have ne4 : w.heap.size + 1 ≠ wr.heap.size := by have := HSW.out; omega
                  have HT := Lib.hid hT
                  have HV := Lib.hid hV
                  have HCALL := Lib.hid hcall
                  clear hT hV hcall
                  generalize (wr.alloc (.cells #[.int .i64 2, .int .i64 n7, .int .i64 0, .int .i64 vl] 29 (0, 0))).alloc (.cells #[.int .i64 0, .int .i64 0, .slice none 0 0, .int .i64 0, .int .i64 0] 33 (0, 0)) = w3 at *
                  go_region
                  go_wp2_with fail
                  go_meet
                  case rel =>
                    have hs : St.step s2 ⟨2, n7, 0, vl, 0, 0, [], 0, 0⟩ = s2.put n7 vl := rfl
                    exact ⟨⟨2, n7, 0, vl, 0, 0, [], 0, 0⟩, _, HCALL.out _ ((Mod.one _ (.inl rfl) _).trans (Mod.one _ (.inr rfl) _)).drew (by rw [hs]; exact ((HT.out.put hn6 vl).set (by show w.heap.size ≠ w.heap.size + 1; omega) _).mod (F := fun _ => False) (Mod.refl _ _).drew (fun h => h)) (by rw [hs]; exact ((HV.out.set (by show w.heap.size + 1 ≠ w.heap.size; omega) _).put hn6 vl).mod (F := fun _ => False) (Mod.refl _ _).drew (fun h => h))⟩
                · rw [hg] at f6a
                  have HG2 := Lib.hid hg
                  clear hg
                  simp only [Option.isSome_some] at f6a
                  go_wp2_with fail
                  go_meet
                  case rel => exact ⟨⟨2, n7, 0, vl, 12, 0, [], 0, 0⟩, _, InCall.still HI.out.there HI.out.val (by simp [answersD, HG2.out]) ⟨r0, r8⟩ rfl ⟨rfl, HK7.out, HWO.out.2⟩ rfl⟩
                --}k2
              have e2 := bq_f k2
              by_cases k3 : kd = 3
              · --{k3
                have e3 := bq_t k3
                subst k3
                rcases hg : s2.get n7 with _ | y
                · rw [hg] at f6a
                  have HG2 := Lib.hid hg
                  clear hg
                  simp only [Option.isSome_none] at f6a
                  go_wp2_with fail
                  go_meet
                  case rel => exact ⟨⟨3, n7, 0, vl, 11, 0, [], 0, 0⟩, _, InCall.still HI.out.there HI.out.val (by simp [answersD, HG2.out]) ⟨r0, r8⟩ rfl ⟨rfl, HK7.out, HWO.out.2⟩ rfl⟩
                · rw [hg] at f6a
                  have HG2 := Lib.hid hg
                  clear hg
                  simp only [Option.isSome_some] at f6a
                  go_wp2_with fail
                  go_meet
                  case rel =>
                    have hs : St.step s2 ⟨3, n7, 0, vl, 0, 0, [], 0, 0⟩ = s2.put n7 vl := rfl
                    exact ⟨⟨3, n7, 0, vl, 0, 0, [], 0, 0⟩, _, InCall.turned HSW.out (Mod.one _ (.inr rfl) _) (by rw [hs]; exact ((HI.out.there.two _ _).again (by rw [HG2.out]; rfl) _).set (by show w.heap.size ≠ w.heap.size + 1; omega) _) (by rw [hs]; exact (HI.out.val.two _ _).put hn6 _) (by simp [answersD, HG2.out]) ⟨r0, r8⟩ rfl ⟨rfl, HK7.out, HWO.out.2⟩⟩
                --}k3
              have e3 := bq_f k3
              by_cases k4 : kd = 4
              · --{k4
                have e4 := bq_t k4
                subst k4
                rcases hg : s2.get n7 with _ | y
                · rw [hg] at f6a
                  have HG2 := Lib.hid hg
                  clear hg
                  simp only [Option.isSome_none] at f6a
                  go_wp2_with fail
                  go_meet
                  case rel => exact ⟨⟨4, n7, 0, vl, 11, 0, [], 0, 0⟩, _, InCall.still HI.out.there HI.out.val (by simp [answersD, HG2.out]) ⟨r0, r8⟩ rfl ⟨rfl, HK7.out, HWO.out.2⟩ rfl⟩
                · rw [hg] at f6a
                  have HG2 := Lib.hid hg
                  clear hg
                  simp only [Option.isSome_some] at f6a
                  go_wp2_with fail
                  go_meet
                  case rel =>
                    have hs : St.step s2 ⟨4, n7, 0, vl, 0, 0, [], 0, 0⟩ = s2.del n7 := rfl
                    exact ⟨⟨4, n7, 0, vl, 0, 0, [], 0, 0⟩, _, InCall.turned HSW.out (Mod.one _ (.inl rfl) _) (by rw [hs]; exact (HI.out.there.two _ _).del hn6) (by rw [hs]; exact ((HI.out.val.two _ _).del _).set (by show w.heap.size + 1 ≠ w.heap.size; omega) _) (by simp [answersD, HG2.out]) ⟨r0, r8⟩ rfl ⟨rfl, HK7.out, HWO.out.2⟩⟩
                --}k4
              have e4 := bq_f k4
              by_cases k5 : kd = 5
              · --{k5
                have e5 := bq_t k5
                subst k5
                have HSR : Hid s2.rising := Lib.hid (by rw [← HI.out.ink.st]; exact HS.out.rising.steps)
                have HTT := Lib.hid HI.out.there
                have HVV := Lib.hid HI.out.val
                clear f6a f6b f7a f7b F6 F7 HVX
                obtain ⟨wq, rfl⟩ : ∃ x, x = wr := ⟨_, rfl⟩
                obtain ⟨gkq, rfl⟩ : ∃ x, x = gk := ⟨_, rfl⟩
                go_wp2_with fail
                go_loopg [14] 10 (fun kj jv wx => ∃ (j : Nat) (ps : St) (pv : Value), jv = .int .i64 j ∧ n7 ≤ j ∧ j ≤ 10 ∧ 10 - j ≤ kj ∧ Hid (ps = s2.span n7 ((j : Int) - 1)) ∧ Hid (ScanAt wq wx n7 vl ps pv))
                case atStart => exact ⟨n7, [], .slice none 0 0, rfl, Nat.le_refl _, by omega, by omega, Lib.hid (span_below (by omega)).symm, Lib.hid (ScanAt.start _ _ _)⟩
                case round =>
                  obtain ⟨j, ps, pv, rfl, hnj, hj10, hjk, HPS, HSA⟩ := hrel
                  have j0 : (0 : Int) ≤ (j : Int) := by omega
                  by_cases hj9 : j ≤ 9
                  · have j9 : (j : Int) ≤ 9 := by omega
                    have j64 : (j : Int) < 64 := by omega
                    have hjw : IntKind.i64.wrap ((j : Int) + 1) = (j : Int) + 1 := IntWalk.i64_in _ (by omega)
                    have h6 := (HTT.out.mod (F := fun _ => False) (Mod.of_below HSA.out.below) (fun h => h)).cell (k := j) (by omega)
                    have c6 := h6.1
                    have b6 := h6.2
                    have HNX := Lib.hid (span_next HSR.out (lo := n7) (j := j) (by omega))
                    clear h6
                    rcases hg : s2.get j with _ | y
                    · rw [hg] at c6
                      have HG2 := Lib.hid hg
                      clear hg
                      simp only [Option.isSome_none] at c6
                      go_wp2_with fail
                      go_roundg (10 - (j + 1))
                      case rel => exact ⟨j + 1, ps, pv, by go_num, by omega, by omega, by omega, Lib.hid (by have h1 := HNX.out; rw [HG2.out] at h1; rw [show ((j + 1 : Nat) : Int) - 1 = (j : Int) by omega, h1, ← HPS.out]; simp), HSA⟩
                      case measure => omega
                    · rw [hg] at c6
                      have HG2 := Lib.hid hg
                      clear hg
                      simp only [Option.isSome_some] at c6
                      obtain ⟨vy, c7, -, hvy⟩ := (HVV.out.mod (F := fun _ => False) (Mod.of_below HSA.out.below) (fun h => h)).cell (k := j) (by omega)
                      obtain rfl := hvy y HG2.out
                      have r2 := blk_cell HSA.out.res 2
                      simp only [List.getElem?_toArray, List.getElem?_cons_zero, List.getElem?_cons_succ] at r2
                      have c7a : ∀ o, (wr.alloc o).cell? ⟨w.heap.size + 1, j, none⟩ = some (.int .i64 vy) := fun o => (World.cell?_alloc_lt wr o _ (cell_lt c7)).trans c7
                      have r2a : ∀ o, (wr.alloc o).cell? ⟨wq.heap.size + 1, 2, none⟩ = some pv := fun o => (World.cell?_alloc_lt wr o _ (cell_lt r2)).trans r2
                      have HLEN : Hid (ps.length + 1 ≤ 1099511627776) := Lib.hid (by
                        have h1 := HPS.out
                        have h2 := span_few HSR.out (lo := (n7 : Int)) (j - n7)
                        rw [show (n7 : Int) - 1 + ((j - n7 : Nat) : Int) = (j : Int) - 1 by omega, ← h1] at h2
                        omega)
                      clear hvy
                      go_upto_region 44 with fail
                      go_region_law (refine step_append (zero := .agg #[.int .i64 0, .int .i64 0]) (size := 2) (base := wq.heap.size + 2) (n := ps.length) (m := 1) (xs := pairCells ps) (ys := [.int .i64 j, .int .i64 vy]) rfl (.tmp 144) (.tmp 150) rfl Try.underlying31 info_pair rfl (by decide) (Nat.le_of_ble_eq_true rfl) rfl ?_ rfl ?_ (pair_one _ _) ?_ ?_ ?_; exact World.ownsRow.alloc HSA.out.own _; exact SrcAt.pair (blk_at (by simp)); exact HLEN.out; (have := HSA.out.size; simp; omega); intro v5 w5 h5; obtain ⟨va5, vc5, rfl⟩ := h5.val; have hn := HSA.out.next (x := j) (y := vy) (by repeat (first | exact Below.refl _ _ | refine Below.drew ?_ | exact bl_alloc (Below.refl _ _) _ | exact bl_alloc (w := wr.drewN _) (Below.refl _ _) _)) h5; have hk := h5.keep (g := wq.heap.size + 1) (blk_alloc HSA.out.res) (fun e => by have := (World.ownsRow.lt HSA.out.own _ e).1; omega); have r5 := blk_cell hk 2; have f5 := blk_free hk 2; simp only [List.getElem?_toArray, List.getElem?_cons_zero, List.getElem?_cons_succ] at r5; clear hk)
                      all_goals
                        have HN5 := Lib.hid hn
                        clear hn h5 r5 f5 r2a c7a
                        go_wp2_with fail
                        go_roundg (10 - (j + 1))
                        case rel => exact ⟨j + 1, _, _, by go_num, by omega, by omega, by omega, Lib.hid (by have h1 := HNX.out; rw [HG2.out] at h1; rw [show ((j + 1 : Nat) : Int) - 1 = (j : Int) by omega, h1, ← HPS.out]), HN5⟩
                        case measure => omega
                  · obtain rfl : j = 10 := by omega
                    go_wp2_with fail
                    go_meet
                    case rel => exact ⟨⟨5, n7, 9, vl, 0, 0, s2.span n7 9, 0, 0⟩, pv, InCall.scan HSR.out (by have h := HSA.out; rw [HPS.out] at h; exact h) HTT.out HVV.out ⟨r0, r8⟩ ⟨HK7.out, HWO.out.2⟩⟩
                --}k5
              have e5 := bq_f k5
              --{kd
              go_wp2_with fail
              go_roundg (8 - (q + 1))
              case rel => exact ⟨q + 1, cs, s2, ov, by go_num, hlt2.1, hlt2.2, by omega, Lib.hid (HI.out.skip (bl_alloc (bl_alloc (Below.refl _ _) _) _))⟩
              case measure => omega
              --}kd
            case rest =>
            obtain ⟨cl, pv, hic⟩ := hcut
            have hdl := hic.mod.keep HI.out.deal (by have := HZ1.out; omega)
            have hpf : ∃ pa pn pc, pv = .slice pa pn pc := by
              obtain ⟨pa, pc, h, -⟩ := hic.prs.1.form
              exact ⟨pa, _, pc, h⟩
            obtain ⟨pa, pn, pc, rfl⟩ := hpf
            have x0 := blk_cell hic.opb 0
            have x1 := blk_cell hic.opb 1
            have x2 := blk_cell hic.opb 2
            have x3 := blk_cell hic.opb 3
            have y0 := blk_cell hic.res 0
            have y1 := blk_cell hic.res 1
            have y2 := blk_cell hic.res 2
            have y3 := blk_cell hic.res 3
            have y4 := blk_cell hic.res 4
            have d5 := blk_cell hdl 5
            simp only [List.getElem?_toArray, List.getElem?_cons_zero, List.getElem?_cons_succ] at x0 x1 x2 x3 y0 y1 y2 y3 y4 d5
            have HIC := Lib.hid hic
            have HDL := Lib.hid hdl
            clear hic hdl
            have hrow := HI.out.row.mod HIC.out.mod (fun g hg => by
              have := (World.ownsRow.lt HI.out.row g hg).1
              have := HZ1.out
              omega)
            have HROW2 := Lib.hid hrow
            clear hrow
            have HSC := Lib.hid (fun o : Obj => show db + 1 ≤ (wc.alloc o).heap.size by
              have := HI.out.size
              have := HIC.out.mod.size
              simp
              omega)
            go_upto_region 45 with fail
            have hlen : cs.length + 1 ≤ 1099511627776 := by
              have := HI.out.ink.few
              simp only [List.length_map] at this
              omega
            have HLEN := Lib.hid hlen
            clear hlen
            go_wp2_with (first
              | (with_reducible show wpList Try.prog _ _ (Oper.mk _ (Op.buildSlice 23 1 _) _ _ _ _ :: _) _ _; refine build_call1 rfl (.tmp 157) rfl cl rfl ?_; simp only [Act.put, List.setIfInBounds_toArray, List.set_cons_zero, List.set_cons_succ])
              | (at_builtin; refine walk_append_wide (zero := callZero) (size := 9) (base := db + 1) (n := cs.length) (m := 1) (xs := cs.flatMap fun c => c.1.cells c.2) (ys := cl.cells (.slice pa pn pc)) rfl (.tmp 154) (.tmp 158) rfl Try.underlying23 info_call3 rfl (by decide) (Nat.le_of_ble_eq_true rfl) rfl (World.ownsRow.alloc HROW2.out _) rfl (src_call _ _) (call_one _ _ _ _) HLEN.out (HSC.out _) ?_))
            intro v' w5 hA5
            have h5 := hA5.keep (blk_alloc HDL.out) (fun e => by have := (World.ownsRow.lt HROW2.out _ e).1; omega)
            have h5c := blk_cell h5 5
            simp only [List.getElem?_toArray, List.getElem?_cons_zero, List.getElem?_cons_succ] at h5c
            have h5f := blk_free h5 5
            have hnx := HI.out.next HDB.out HZ1.out HIC.out hA5
            obtain ⟨va, vc, rfl⟩ := hA5.val
            have HNX := Lib.hid hnx
            clear hnx hA5 h5
            go_wp2_with fail
            go_roundg (8 - (q + 1))
            case rel => exact ⟨q + 1, _, _, _, by go_num, hlt2.1, hlt2.2, by omega, HNX⟩
            case measure => omega
          · have hd : decide (q < l.length) = false ∨ (decide (q < l.length) = true ∧ decide ((q : Int) < 8) = false ∧ decide (q < 8) = false) := by simp only [decide_eq_true_eq, decide_eq_false_iff_not]; omega
            clear hlt2
            rcases hd with hd | ⟨hd, hd2, hd3⟩
            all_goals
              go_wp2_with fail
              go_meet
              case rel =>
                have HI := HI.out
                exact ⟨cs, s2, ov, ⟨HI.ink.ans, HI.ink.st, HI.ink.low, Nat.le_trans HI.ink.few hq8, HI.ink.keys, HI.ink.wf⟩, HI.row, HI.prs, HI.deal, HI.there, HI.val, HI.mod, HI.size⟩
        --}f2
      case rest =>
      obtain ⟨cs, s2, ov, hin⟩ := hcut
      --{f3
      obtain ⟨va, vn, vc, rfl⟩ : ∃ a n m, ov = .slice a n m := by
        rcases hin.row.2 with ⟨hv, -⟩ | ⟨g, cap, cur, hv, -⟩
        · exact ⟨_, _, _, hv⟩
        · exact ⟨_, _, _, hv⟩
      have d0 := blk_cell hin.deal 0
      have d1 := blk_cell hin.deal 1
      have d2 := blk_cell hin.deal 2
      have d3 := blk_cell hin.deal 3
      have d4 := blk_cell hin.deal 4
      have d5 := blk_cell hin.deal 5
      simp only [List.getElem?_toArray, List.getElem?_cons_zero, List.getElem?_cons_succ] at d0 d1 d2 d3 d4 d5
      have HROW2 := Lib.hid (HN.out.mod hin.mod (fun g hg => by
        have := (World.ownsRow.lt HN.out g hg).1
        omega))
      have HSC := Lib.hid (fun o : Obj => show w.heap.size + 2 ≤ (wc.alloc o).heap.size by
        have h1 := hin.size
        have h2 := HZ1.out
        have h3 := HDB.out
        simp
        omega)
      have HLEN : Hid (ds.length + 1 ≤ 1099511627776) := Lib.hid (by
        have h1 := HS.out.len
        simp only [List.length_map] at h1
        omega)
      have HIN := Lib.hid hin
      clear hin
      go_upto_region 46 with fail
      go_wp2_with (first
        | (with_reducible show wpList Try.prog _ _ (Oper.mk _ (Op.buildSlice 37 1 _) _ _ _ _ :: _) _ _; refine build_deal1 rfl (.tmp 162) rfl (⟨(k : Int) + 1, lv, 3, (c : Int) + 1, (c1 : Int) + 1, cs.map (·.1)⟩ : Dl) rfl ?_; simp only [Act.put, List.setIfInBounds_toArray, List.set_cons_zero, List.set_cons_succ])
        | (at_builtin; refine walk_append_wide (zero := dealZero) (size := 6) (base := w.heap.size + 2) (n := ds.length) (m := 1) (xs := ds.flatMap fun c => c.1.cells c.2) (ys := (⟨(k : Int) + 1, lv, 3, (c : Int) + 1, (c1 : Int) + 1, cs.map (·.1)⟩ : Dl).cells (.slice va vn vc)) rfl (.tmp 161) (.tmp 163) rfl Try.underlying37 info_deal3 rfl (by decide) (Nat.le_of_ble_eq_true rfl) rfl (World.ownsRow.alloc HROW2.out _) rfl (src_deal _ _) (deal_one _ _ _ _) HLEN.out (HSC.out _) ?_))
      intro v' w5 hA5
      have HNX := Lib.hid (HOL.out.next HDB.out HIN.out hlv (by omega) (by omega) hlt.2 hA5)
      clear hA5 HIN
      go_wp2_with fail
      go_roundg (10 - (k + 1))
      case rel => exact ⟨k + 1, c1 + 1, _, s2, by go_num, by go_num, hlt.1, hlt.2, by omega, HNX⟩
      case measure => omega
      --}f3
    · have hd : decide (k < L.length) = false ∨ (decide (k < L.length) = true ∧ decide ((k : Int) < 10) = false ∧ decide (k < 10) = false) := by simp only [decide_eq_true_eq, decide_eq_false_iff_not]; omega
      have hat := HN.out.at_ (fun x hx => (HC.out x hx).at_)
      have HAT := Lib.hid hat
      clear hlt hat
      rcases hd with hd | ⟨hd, hd2, hd3⟩
      all_goals
        go_wp2_with fail
        go_ret
        exact ⟨_, _, k, c, s, rfl, HAT.out, HS.out, hk10, HB1.out⟩
end Go.Proofs.Ytpohehialkgigaa
