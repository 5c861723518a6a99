/- Writers. -/
import Derived.Test.YtpohehialkgigaaAR
namespace Go.Proofs.Ytpohehialkgigaa
open Go.RowKit
theorem writers_yes {l : List Dl} (h : ∀ i, i < l.length → ∀ j, j < i → clash (l.getD i dl0) (l.getD j dl0) = false) : writersD l = true := by
  unfold writersD
  simp only [List.all_eq_true, List.mem_range]
  intro i hi j hj
  rw [h i hi j hj]
  rfl
theorem writers_no {l : List Dl} {i j : Nat} (hi : i < l.length) (hj : j < i) (h : clash (l.getD i dl0) (l.getD j dl0) = true) : writersD l = false := by
  cases hw : writersD l with
  | false => rfl
  | true =>
    unfold writersD at hw
    simp only [List.all_eq_true, List.mem_range] at hw
    have := hw i hi j hj
    rw [h] at this
    cases this
set_option maxRecDepth 100000 in
set_option maxHeartbeats 6400000 in
theorem writers_any {w : World} {v : Value} {l : List Dl} (h : DealsAt w v l) (hl : l.length ≤ 1000) (hwf : ∀ d ∈ l, d.wf) :
    Calls Try.prog 14 #[v] w fun e w' => e = .returned (.bool (writersD l)) ∧ Below w.heap.size w w' := by
  obtain ⟨a, cap, rfl, hcap⟩ := h.form
  have HD := Lib.hid h
  have HWF := Lib.hid hwf
  clear h hwf
  go_enter Try.func14, Try.ntmps14
  go_wp2_with fail
  go_loopg [9] l.length (fun kx kv wr => ∃ k : Nat, kv = .int .i64 k ∧ k ≤ l.length ∧ l.length - k ≤ kx ∧ Hid (∀ i, i < k → ∀ j, j < i → clash (l.getD i dl0) (l.getD j dl0) = false) ∧ Hid (Below w.heap.size w wr))
  case atStart => exact ⟨0, rfl, Nat.zero_le _, by omega, Lib.hid (fun i hi => absurd hi (Nat.not_lt_zero i)), Lib.hid (Below.refl _ _)⟩
  case round =>
    obtain ⟨k, rfl, hk, hkx, HC, HB⟩ := hrel
    have q0 : (0 : Int) ≤ (k : Int) := by omega
    by_cases hlt : k < l.length
    · have q1 : (k : Int) < (l.length : Int) := by omega
      have q2 : (k : Int) ≤ (cap : Int) := by omega
      obtain ⟨b, off, cap', dv, hv, hb, hcs, hops⟩ := HD.out.at_ hlt
      simp only [Value.slice.injEq, true_and] at hv
      obtain ⟨rfl, rfl⟩ := hv
      have hcc := fun x hx => (HB.out.cell (p := ⟨b, off + k * 6 + x, none⟩) hb).trans (hcs x hx)
      have hdk : DealIs w (.agg ((l.getD k dl0).cells dv).toArray) (l.getD k dl0) := ⟨dv, rfl, hops⟩
      have hwk := HWF.out _ (getD_mem hlt)
      obtain ⟨ao, co, rfl, -⟩ := hops.form
      obtain ⟨kno, hkno⟩ : ∃ n, (l.getD k dl0).ops.length = n := ⟨_, rfl⟩
      rw [hkno] at hcc hdk
      clear hkno hops
      obtain ⟨dk, hdke⟩ : ∃ dk, l.getD k dl0 = dk := ⟨_, rfl⟩
      have hcl : ∀ j, j < k → clash (l.getD k dl0) (l.getD j dl0) = clash dk (l.getD j dl0) := fun j _ => by rw [hdke]
      have hst : decide (dk.state = 3) = decide ((l.getD k dl0).state = 3) := by rw [hdke]
      rw [hdke] at hcc hdk hwk
      have HCL := Lib.hid hcl
      have HKE := Lib.hid hdke
      clear hcl hst hcs hdke
      have c0 := hcc 0 (by decide)
      have c1 := hcc 1 (by decide)
      have c2 := hcc 2 (by decide)
      have c3 := hcc 3 (by decide)
      have c4 := hcc 4 (by decide)
      have c5 := hcc 5 (by decide)
      clear hcc
      have HDK := Lib.hid hdk
      have HWK := Lib.hid hwk
      clear hdk hwk
      obtain ⟨id, lv, st, bg, en, ops⟩ := dk
      simp [Dl.cells] at c0 c1 c2 c3 c4 c5
      simp only [Dl.cells] at HDK
      have HW1 : Hid (Below w.heap.size w (wr.alloc (.cells #[.int .i64 id, .int .i64 lv, .int .i64 st, .int .u64 bg, .int .u64 en, .slice ao kno co] 25 (0, 0)))) := Lib.hid (bl_alloc HB.out _)
      have hbk := blk_new wr (.cells #[.int .i64 id, .int .i64 lv, .int .i64 st, .int .u64 bg, .int .u64 en, .slice ao kno co] 25 (0, 0))
      go_upto_region 4 with fail
      generalize wr.alloc (.cells #[.int .i64 id, .int .i64 lv, .int .i64 st, .int .u64 bg, .int .u64 en, .slice ao kno co] 25 (0, 0)) = w1 at *
      generalize wr.heap.size = B at *
      have HBK := Lib.hid hbk
      clear hbk c0 c1 c2 c3 c4 c5
      go_wp2_with fail
      go_loopg [18] k (fun kx kv wr2 => ∃ q : Nat, kv = .int .i64 q ∧ q ≤ k ∧ k - q ≤ kx ∧ Hid (∀ j, j < q → clash ⟨id, lv, st, bg, en, ops⟩ (l.getD j dl0) = false) ∧ Hid (Below w1.heap.size w1 wr2))
      case atStart => exact ⟨0, rfl, Nat.zero_le _, by omega, Lib.hid (fun j hj => absurd hj (Nat.not_lt_zero j)), Lib.hid (Below.refl _ _)⟩
      case round =>
        obtain ⟨q, rfl, hq, hqx, HC2, HB2⟩ := hrel
        have s0 : (0 : Int) ≤ (q : Int) := by omega
        by_cases hql : q < k
        · have s1 : (q : Int) < (k : Int) := by omega
          have hql2 : q < l.length := by omega
          obtain ⟨b2, off2, cap2, dv2, hv2, hb2, hcs2, hops2⟩ := HD.out.at_ hql2
          simp only [Value.slice.injEq, true_and, Option.some.injEq, Addr.mk.injEq, and_true] at hv2
          obtain ⟨⟨rfl, rfl⟩, rfl⟩ := hv2
          have hw2 : Below w.heap.size w wr := HW1.out.trans (HB2.out.mono HW1.out.size)
          have hcc2 := fun x hx => (hw2.cell (p := ⟨b, off + q * 6 + x, none⟩) hb).trans (hcs2 x hx)
          have hdq : DealIs w (.agg ((l.getD q dl0).cells dv2).toArray) (l.getD q dl0) := ⟨dv2, rfl, hops2⟩
          have hwq := HWF.out _ (getD_mem hql2)
          obtain ⟨ao2, co2, rfl, -⟩ := hops2.form
          obtain ⟨qno, hqno⟩ : ∃ n, (l.getD q dl0).ops.length = n := ⟨_, rfl⟩
          rw [hqno] at hcc2 hdq
          clear hqno hops2 hcs2
          obtain ⟨dq, hdqe⟩ : ∃ dq, l.getD q dl0 = dq := ⟨_, rfl⟩
          rw [hdqe] at hcc2 hdq hwq
          have HQE := Lib.hid hdqe
          clear hdqe
          have e0 := hcc2 0 (by decide)
          have e1 := hcc2 1 (by decide)
          have e2 := hcc2 2 (by decide)
          have e3 := hcc2 3 (by decide)
          have e4 := hcc2 4 (by decide)
          have e5 := hcc2 5 (by decide)
          clear hcc2
          have hov := fun W (hW : Below w.heap.size w W) => overlap_any (HDK.out.later hW) (hdq.later hW) HWK.out hwq
          obtain ⟨qid, qlv, qst, qbg, qen, qops⟩ := dq
          simp [Dl.cells] at e0 e1 e2 e3 e4 e5
          simp only [Dl.cells] at hov
          obtain ⟨cv, hcv⟩ : ∃ cv, clash ⟨id, lv, st, bg, en, ops⟩ ⟨qid, qlv, qst, qbg, qen, qops⟩ = cv := ⟨_, rfl⟩
          have hcv2 := hcv
          unfold clash at hcv2
          dsimp only at hcv2
          generalize overlapD ⟨id, lv, st, bg, en, ops⟩ ⟨qid, qlv, qst, qbg, qen, qops⟩ = ovb at *
          have HOV := Lib.hid hov
          have HCV := Lib.hid hcv
          have hw4 := bl_alloc hw2 (.cells #[.int .i64 qid, .int .i64 qlv, .int .i64 qst, .int .u64 qbg, .int .u64 qen, .slice ao2 qno co2] 25 (0, 0))
          have hw5 := bl_alloc HB2.out (.cells #[.int .i64 qid, .int .i64 qlv, .int .i64 qst, .int .u64 qbg, .int .u64 qen, .slice ao2 qno co2] 25 (0, 0))
          have hbk2 := blk_alloc (p := (.cells #[.int .i64 qid, .int .i64 qlv, .int .i64 qst, .int .u64 qbg, .int .u64 qen, .slice ao2 qno co2] 25 (0, 0))) (below_keep HB2.out HBK.out)
          have hbq := blk_new wr (.cells #[.int .i64 qid, .int .i64 qlv, .int .i64 qst, .int .u64 qbg, .int .u64 qen, .slice ao2 qno co2] 25 (0, 0))
          go_upto_region 7 with fail
          generalize wr.alloc (.cells #[.int .i64 qid, .int .i64 qlv, .int .i64 qst, .int .u64 qbg, .int .u64 qen, .slice ao2 qno co2] 25 (0, 0)) = w2 at *
          generalize wr.heap.size = B2 at *
          have x0 := blk_cell hbk2 0
          have x1 := blk_cell hbk2 1
          have x2 := blk_cell hbk2 2
          have x3 := blk_cell hbk2 3
          have x4 := blk_cell hbk2 4
          have x5 := blk_cell hbk2 5
          have y0 := blk_cell hbq 0
          have y1 := blk_cell hbq 1
          have y2 := blk_cell hbq 2
          have y3 := blk_cell hbq 3
          have y4 := blk_cell hbq 4
          have y5 := blk_cell hbq 5
          simp at x0 x1 x2 x3 x4 x5 y0 y1 y2 y3 y4 y5
          have HW2 := Lib.hid hw4
          have HW3 := Lib.hid hw5
          clear hov hcv hw2 hw4 hw5 hdq hwq hbk2 hbq e0 e1 e2 e3 e4 e5
          by_cases a1 : st = 3
          · have g1 := bq_t a1
            rw [dec_t a1] at hcv2
            by_cases a2 : qst = 3
            · have g2 := bq_t a2
              rw [dec_t a2] at hcv2
              have HCV2 := Lib.hid (show ovb = cv from hcv2)
              clear a1 a2 hcv2
              go_wp2_with fail
              refine (HOV.out _ HW2.out).mono ?_
              rintro e w5 ⟨rfl, hb5⟩
              have HB5 : Hid (Below w.heap.size w w5) := Lib.hid (bl_next HW2.out hb5)
              have HB6 : Hid (Below w1.heap.size w1 w5) := Lib.hid (bl_next HW3.out hb5)
              clear hb5 HOV HW2 HW3 x0 x1 x2 x3 x4 x5 y0 y1 y2 y3 y4 y5
              cases ovb
              · go_wp2_with fail
                go_roundg (k - (q + 1))
                case rel => exact ⟨q + 1, by go_num, by omega, by omega, Lib.hid (fun j hj => if e : j = q then by rw [e, HQE.out, HCV.out]; exact HCV2.out.symm else HC2.out j (by omega)), HB6⟩
                case measure => omega
              · have HN : Hid (writersD l = false) := Lib.hid (writers_no (i := k) (j := q) hlt hql (by rw [HKE.out, HQE.out, HCV.out]; exact HCV2.out.symm))
                go_wp2_with fail
                go_ret
                exact ⟨by rw [HN.out]; rfl, HB5.out⟩
            · have g2 := bq_f a2
              rw [dec_f a2] at hcv2
              have HCV2 := Lib.hid (show false = cv from hcv2)
              clear a1 a2 hcv2
              go_wp2_with fail
              go_roundg (k - (q + 1))
              case rel => exact ⟨q + 1, by go_num, by omega, by omega, Lib.hid (fun j hj => if e : j = q then by rw [e, HQE.out, HCV.out]; exact HCV2.out.symm else HC2.out j (by omega)), HW3⟩
              case measure => omega
          · have g1 := bq_f a1
            rw [dec_f a1] at hcv2
            have HCV2 := Lib.hid (show false = cv from hcv2)
            clear a1 hcv2
            go_wp2_with fail
            go_roundg (k - (q + 1))
            case rel => exact ⟨q + 1, by go_num, by omega, by omega, Lib.hid (fun j hj => if e : j = q then by rw [e, HQE.out, HCV.out]; exact HCV2.out.symm else HC2.out j (by omega)), HW3⟩
            case measure => omega
        · obtain rfl : q = k := by omega
          have hd2 : decide (q < q) = false := by simp
          have HB7 : Hid (Below w.heap.size w wr) := Lib.hid (HW1.out.trans (HB2.out.mono HW1.out.size))
          clear hql
          go_wp2_with fail
          go_roundg (l.length - (q + 1))
          case rel => exact ⟨q + 1, by go_num, by omega, by omega, Lib.hid (fun i hi j hj => if e : i = q then by subst e; rw [HKE.out]; exact HC2.out j hj else HC.out i (by omega) j hj), HB7⟩
          case measure => omega
    · obtain rfl : k = l.length := by omega
      have hd : decide (l.length < l.length) = false := by simp
      have HN : Hid (writersD l = true) := Lib.hid (writers_yes HC.out)
      clear hlt
      go_wp2_with fail
      go_ret
      exact ⟨by rw [HN.out]; rfl, HB.out⟩
end Go.Proofs.Ytpohehialkgigaa
