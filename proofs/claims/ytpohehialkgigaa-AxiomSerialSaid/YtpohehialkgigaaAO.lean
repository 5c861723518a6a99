/- holds, first, Holds, Replay. -/
import Derived.Test.YtpohehialkgigaaAN
namespace Go.Proofs.Ytpohehialkgigaa
open Go.RowKit
set_option maxRecDepth 100000 in
set_option maxHeartbeats 3200000 in
theorem holds_any {w : World} {v dv : Value} {l : List Dl} {d : Dl} (h : DealsAt w v l) (g : Good l) (hd : DealIs w dv d) :
    Calls Try.prog 28 #[v, dv] w fun e w' => e = .returned (.bool (holdD l d)) ∧ Below w.heap.size w w' := by
  obtain ⟨ov, rfl, hops⟩ := hd
  obtain ⟨id, lv, st, bg, en, ops⟩ := d
  unfold holdD
  simp only [Dl.cells]
  have HS : Hid (∀ W, Below w.heap.size w W → Calls Try.prog 17 #[v, .int .i64 id] W fun e w' => e = .returned (.bool (snapshotD l id)) ∧ Below w.heap.size w w') := Lib.hid fun W hW => (snapshot_any (h.later hW) g).mono fun _ _ ⟨h1, h2⟩ => ⟨h1, bl_next hW h2⟩
  have HR : Hid (∀ W, Below w.heap.size w W → Calls Try.prog 19 #[v, .int .i64 id] W fun e w' => e = .returned (.bool (repeatableD l id)) ∧ Below w.heap.size w w') := Lib.hid fun W hW => (repeatable_any (h.later hW) g).mono fun _ _ ⟨h1, h2⟩ => ⟨h1, bl_next hW h2⟩
  have HE3 : Hid (∀ W, Below w.heap.size w W → Calls Try.prog 18 #[v, .int .i64 id] W fun e w' => e = .returned (.bool (serialD l id)) ∧ Below W.heap.size W w') := Lib.hid fun W hW => serial_any (h.later hW) g
  obtain ⟨a, cap, rfl, -⟩ := h.form
  obtain ⟨ao, co, rfl, -⟩ := hops.form
  clear h g hops
  generalize snapshotD l id = sn at *
  generalize serialD l id = se at *
  generalize repeatableD l id = re at *
  dsimp only
  generalize ops.length = no at *
  have hb0 : Below w.heap.size w (w.alloc (.cells #[.int .i64 id, .int .i64 lv, .int .i64 st, .int .u64 bg, .int .u64 en, .slice ao no co] 25 (0, 0))) := bl_alloc (Below.refl _ _) _
  have hbk := blk_new w (.cells #[.int .i64 id, .int .i64 lv, .int .i64 st, .int .u64 bg, .int .u64 en, .slice ao no co] 25 (0, 0))
  by_cases h1 : lv = 1
  · have e1 := bq_t h1
    rw [if_pos h1]
    clear h1 hbk
    have HB0 := Lib.hid hb0
    clear hb0
    go_enter Try.func28, Try.ntmps28
    go_wp2_with fail
    refine (HS.out _ HB0.out).mono ?_
    rintro e w1 ⟨rfl, hb⟩
    have HB := Lib.hid hb
    clear hb HS
    go_wp2_with fail
    go_ret
    exact ⟨rfl, HB.out⟩
  · have e1 := bq_f h1
    rw [if_neg h1]
    by_cases h2 : lv = 2
    · have e2 := bq_t h2
      rw [if_pos h2]
      clear h1 h2 hbk
      have HB0 := Lib.hid hb0
      clear hb0
      go_enter Try.func28, Try.ntmps28
      go_wp2_with fail
      refine (HR.out _ HB0.out).mono ?_
      rintro e w1 ⟨rfl, hb⟩
      have HB := Lib.hid hb
      clear hb HR
      go_wp2_with fail
      go_ret
      exact ⟨rfl, HB.out⟩
    · have e2 := bq_f h2
      rw [if_neg h2]
      by_cases h3 : lv = 3
      · have e3 := bq_t h3
        rw [if_pos h3]
        clear h1 h2 h3
        go_enter Try.func28, Try.ntmps28
        go_upto_region 1 with fail
        generalize w.alloc (.cells #[.int .i64 id, .int .i64 lv, .int .i64 st, .int .u64 bg, .int .u64 en, .slice ao no co] 25 (0, 0)) = w0 at *
        have y0 := blk_cell hbk 0
        have y1 := blk_cell hbk 1
        simp at y0 y1
        have HBK : Hid (∀ W, Below w0.heap.size w0 W → W.cell? ⟨w.heap.size, 0, none⟩ = some (.int .i64 id)) := Lib.hid fun W hW => (hW.cell (p := ⟨w.heap.size, 0, none⟩) (blk_lt hbk)).trans y0
        have HS2 : Hid (∀ W, Below w0.heap.size w0 W → Calls Try.prog 17 #[.slice a l.length cap, .int .i64 id] W fun e w' => e = .returned (.bool sn) ∧ Below w.heap.size w w') := Lib.hid fun W hW => HS.out W (hb0.trans (hW.mono hb0.size))
        have HE2 := Lib.hid (HE3.out _ hb0)
        have HB0' := Lib.hid hb0
        clear hbk HS hb0
        go_wp2_with fail
        refine HE2.out.mono ?_
        rintro e w1 ⟨rfl, hb⟩
        have HB := Lib.hid hb
        have y2 := HBK.out _ hb
        clear hb HE2 HE3 y0
        cases se
        · go_wp2_with fail
          go_ret
          exact ⟨rfl, HB0'.out.trans (HB.out.mono HB0'.out.size)⟩
        · go_wp2_with fail
          refine (HS2.out _ HB.out).mono ?_
          rintro e w2 ⟨rfl, hb2⟩
          have HB2 := Lib.hid hb2
          clear hb2 HS2 y2
          go_wp2_with fail
          go_ret
          exact ⟨rfl, HB2.out⟩
      · have e3 := bq_f h3
        rw [if_neg h3]
        clear h1 h2 h3 hbk
        have HB0 := Lib.hid hb0
        clear hb0
        go_enter Try.func28, Try.ntmps28
        go_wp2_with fail
        go_ret
        exact ⟨rfl, HB0.out⟩
def serialId (l : List Dl) (d : Dl) : Bool := serialD l d.id
set_option maxRecDepth 100000 in
set_option maxHeartbeats 1600000 in
theorem holds_clos {w : World} {v dv : Value} {l : List Dl} {d : Dl} {B : Nat} (h : DealsAt w v l) (g : Good l) (hd : DealIs w dv d) (hB : B < w.heap.size) (hc : w.cell? ⟨B, 0, none⟩ = some v) :
    Calls Try.prog 27 #[dv, .pointer (some ⟨B, 0, none⟩)] w fun e w' => e = .returned (.bool (holdD l d)) ∧ Below w.heap.size w w' := by
  obtain ⟨ov, rfl, hops⟩ := hd
  have HH : Hid (∀ W, Below w.heap.size w W → Calls Try.prog 28 #[v, .agg (d.cells ov).toArray] W fun e w' => e = .returned (.bool (holdD l d)) ∧ Below w.heap.size w w') := Lib.hid fun W hW => (holds_any (h.later hW) g ⟨ov, rfl, hops.later hW⟩).mono fun _ _ ⟨h1, h2⟩ => ⟨h1, bl_next hW h2⟩
  obtain ⟨a, cap, rfl, -⟩ := h.form
  obtain ⟨ao, co, rfl, -⟩ := hops.form
  obtain ⟨id, lv, st, bg, en, ops⟩ := d
  simp only [Dl.cells] at *
  have hne := World.new_ne w ⟨B, 0, none⟩ hc
  clear h g hops
  generalize holdD l _ = b at *
  try dsimp only at HH ⊢
  generalize ops.length = no at *
  have HB0 : Hid (∀ o : Obj, Below w.heap.size w (w.alloc o)) := Lib.hid fun o => bl_alloc (Below.refl _ _) o
  go_enter Try.func27, Try.ntmps27
  go_wp2_with fail
  refine (HH.out _ (HB0.out _)).mono ?_
  rintro e w1 ⟨rfl, hb⟩
  have HB := Lib.hid hb
  clear hb HH
  go_wp2_with fail
  go_ret
  exact ⟨rfl, HB.out⟩
set_option maxRecDepth 100000 in
set_option maxHeartbeats 1600000 in
theorem replay_clos {w : World} {v dv : Value} {l : List Dl} {d : Dl} {B : Nat} (h : DealsAt w v l) (g : Good l) (hd : DealIs w dv d) (hB : B < w.heap.size) (hc : w.cell? ⟨B, 0, none⟩ = some v) :
    Calls Try.prog 39 #[dv, .pointer (some ⟨B, 0, none⟩)] w fun e w' => e = .returned (.bool (serialId l d)) ∧ Below w.heap.size w w' := by
  obtain ⟨ov, rfl, hops⟩ := hd
  have HH : Hid (∀ W, Below w.heap.size w W → Calls Try.prog 18 #[v, .int .i64 d.id] W fun e w' => e = .returned (.bool (serialId l d)) ∧ Below w.heap.size w w') := Lib.hid fun W hW => (serial_any (id := d.id) (h.later hW) g).mono fun _ _ ⟨h1, h2⟩ => ⟨h1, bl_next hW h2⟩
  obtain ⟨a, cap, rfl, -⟩ := h.form
  obtain ⟨ao, co, rfl, -⟩ := hops.form
  obtain ⟨id, lv, st, bg, en, ops⟩ := d
  simp only [Dl.cells] at *
  have hne := World.new_ne w ⟨B, 0, none⟩ hc
  clear h g hops
  generalize serialId l _ = b at *
  try dsimp only at HH ⊢
  generalize ops.length = no at *
  have HB0 : Hid (∀ o : Obj, Below w.heap.size w (w.alloc o)) := Lib.hid fun o => bl_alloc (Below.refl _ _) o
  go_enter Try.func39, Try.ntmps39
  go_wp2_with fail
  refine (HH.out _ (HB0.out _)).mono ?_
  rintro e w1 ⟨rfl, hb⟩
  have HB := Lib.hid hb
  clear hb HH
  go_wp2_with fail
  go_ret
  exact ⟨rfl, HB.out⟩
set_option maxRecDepth 100000 in
set_option maxHeartbeats 3200000 in
theorem holds_first {w : World} {v : Value} {l : List Dl} {B : Nat} (h : DealsAt w v l) (g : Good l) (hB : B < w.heap.size) (hc : w.cell? ⟨B, 0, none⟩ = some v) :
    Calls Try.prog 26 #[v, .func (.func 27) #[] #[.pointer (some ⟨B, 0, none⟩)]] w fun e w' => e = .returned (.tuple #[.bool (firstD l (holdD l)).1, .int .i64 (firstD l (holdD l)).2]) ∧ Below w.heap.size w w' := by
  have hl := g.few
  obtain ⟨a, cap, rfl, hcap⟩ := h.form
  have HD := Lib.hid h
  have HG := Lib.hid g
  have HC := Lib.hid hc
  have HLB := Lib.hid hB
  clear h g hc hB
  go_enter Try.func26, Try.ntmps26
  go_wp2_with fail
  go_loopg [6, 7, 12] l.length (fun kx av iv kv wr => ∃ (k : Nat) (ok : Bool) (id : Int), av = .bool ok ∧ iv = .int .i64 id ∧ kv = .int .i64 k ∧ k ≤ l.length ∧ l.length - k ≤ kx ∧ Hid ((l.take k).foldl (firstStep (holdD l)) (true, 0) = (ok, id)) ∧ Hid (Below w.heap.size w wr))
  case atStart => exact ⟨0, true, 0, rfl, rfl, rfl, Nat.zero_le _, by omega, Lib.hid rfl, Lib.hid (Below.refl _ _)⟩
  case round =>
    obtain ⟨k, ok, id, rfl, rfl, rfl, hk, hkx, HF, HB⟩ := hrel
    have q0 : (0 : Int) ≤ (k : Int) := by omega
    by_cases hlt : k < l.length
    · have q1 : (k : Int) < (l.length : Int) := by omega
      obtain ⟨b, off, cap', dv, hv, hb, hcs, hops⟩ := (HD.out.later HB.out).at_ hlt
      simp only [Value.slice.injEq, true_and] at hv
      obtain ⟨rfl, rfl⟩ := hv
      have hst : (l.take (k + 1)).foldl (firstStep (holdD l)) (true, 0) = firstStep (holdD l) (ok, id) (l.getD k dl0) := by
        rw [List.take_succ_eq_append_getElem hlt, List.foldl_append, HF.out]
        simp [List.getD_eq_getElem?_getD, hlt]
      obtain ⟨R, hR⟩ : ∃ R, (l.take (k + 1)).foldl (firstStep (holdD l)) (true, 0) = R := ⟨_, rfl⟩
      rw [hR] at hst
      have HRR := Lib.hid hR
      clear hR
      unfold firstStep at hst
      have hcl : ∀ o : Obj, Calls Try.prog 27 #[.agg ((l.getD k dl0).cells dv).toArray, .pointer (some ⟨B, 0, none⟩)] (wr.alloc o) fun e w' => e = .returned (.bool (holdD l (l.getD k dl0))) ∧ Below (wr.alloc o).heap.size (wr.alloc o) w' := fun o =>
        holds_clos (HD.out.later (bl_alloc HB.out o)) HG.out ⟨dv, rfl, hops.later (bl_alloc (Below.refl _ _) o)⟩ (Nat.lt_of_lt_of_le HLB.out (bl_alloc HB.out o).size) (((bl_alloc HB.out o).cell (p := ⟨B, 0, none⟩) HLB.out).trans HC.out)
      obtain ⟨ao, co, rfl, -⟩ := hops.form
      clear hops
      obtain ⟨p, hp⟩ : ∃ p, holdD l (l.getD k dl0) = p := ⟨_, rfl⟩
      rw [hp] at hst hcl
      clear hp
      generalize (l.getD k dl0).ops.length = no at *
      generalize l.getD k dl0 = d at *
      obtain ⟨did, dlv, dst, dbg, den, dops⟩ := d
      have c0 := hcs 0 (by decide)
      have c1 := hcs 1 (by decide)
      have c2 := hcs 2 (by decide)
      have c3 := hcs 3 (by decide)
      have c4 := hcs 4 (by decide)
      have c5 := hcs 5 (by decide)
      clear hcs
      simp [Dl.cells] at c0 c1 c2 c3 c4 c5
      simp only [Dl.cells] at hcl
      dsimp only at hst
      have HCL := Lib.hid hcl
      have HBA : Hid (∀ o : Obj, Below w.heap.size w (wr.alloc o)) := Lib.hid fun o => bl_alloc HB.out o
      have HBK : Hid (∀ W : World, Below (wr.alloc (.cells #[.int .i64 did, .int .i64 dlv, .int .i64 dst, .int .u64 dbg, .int .u64 den, .slice ao no co] 25 (0, 0))).heap.size (wr.alloc (.cells #[.int .i64 did, .int .i64 dlv, .int .i64 dst, .int .u64 dbg, .int .u64 den, .slice ao no co] 25 (0, 0))) W → W.heap[wr.heap.size]? = some (.cells #[.int .i64 did, .int .i64 dlv, .int .i64 dst, .int .u64 dbg, .int .u64 den, .slice ao no co] 25 (0, 0))) := Lib.hid fun W hW => below_keep hW (blk_new _ _)
      clear hcl
      by_cases a1 : dst = 3
      · have e1 := bq_t a1
        rw [dec_t a1] at hst
        by_cases a2 : did < id
        · have e2 := dec_t a2
          rw [dec_t a2] at hst
          cases ok
          · skip
            cases p
            · have HST := Lib.hid hst
              clear a1 a2 hst
              go_wp2_with fail
              refine (HCL.out _).mono ?_
              rintro e w5 ⟨rfl, hb5⟩
              have hbk := HBK.out _ hb5
              have g0 := blk_cell hbk 0
              simp at g0
              have HB5 : Hid (Below w.heap.size w w5) := Lib.hid (bl_next (HBA.out _) hb5)
              clear hb5 hbk HCL HBK
              go_upto_region 6 with fail
              go_quiet (fail)
              go_wp2_with fail
              go_roundg (l.length - (k + 1))
              case rel => exact ⟨k + 1, false, did, rfl, rfl, by go_num, by omega, by omega, Lib.hid (by rw [HRR.out, HST.out]; rfl), Lib.hid (below_drewN' HB5.out nq)⟩
              case measure => omega
            · have HST := Lib.hid hst
              clear a1 a2 hst
              go_wp2_with fail
              refine (HCL.out _).mono ?_
              rintro e w5 ⟨rfl, hb5⟩
              have HB5 : Hid (Below w.heap.size w w5) := Lib.hid (bl_next (HBA.out _) hb5)
              clear hb5 HCL HBK
              go_wp2_with fail
              go_roundg (l.length - (k + 1))
              case rel => exact ⟨k + 1, false, id, rfl, rfl, by go_num, by omega, by omega, Lib.hid (by rw [HRR.out, HST.out]; rfl), HB5⟩
              case measure => omega
          · skip
            cases p
            · have HST := Lib.hid hst
              clear a1 a2 hst
              go_wp2_with fail
              refine (HCL.out _).mono ?_
              rintro e w5 ⟨rfl, hb5⟩
              have hbk := HBK.out _ hb5
              have g0 := blk_cell hbk 0
              simp at g0
              have HB5 : Hid (Below w.heap.size w w5) := Lib.hid (bl_next (HBA.out _) hb5)
              clear hb5 hbk HCL HBK
              go_upto_region 6 with fail
              go_quiet (fail)
              go_wp2_with fail
              go_roundg (l.length - (k + 1))
              case rel => exact ⟨k + 1, false, did, rfl, rfl, by go_num, by omega, by omega, Lib.hid (by rw [HRR.out, HST.out]; rfl), Lib.hid (below_drewN' HB5.out nq)⟩
              case measure => omega
            · have HST := Lib.hid hst
              clear a1 a2 hst
              go_wp2_with fail
              refine (HCL.out _).mono ?_
              rintro e w5 ⟨rfl, hb5⟩
              have HB5 : Hid (Below w.heap.size w w5) := Lib.hid (bl_next (HBA.out _) hb5)
              clear hb5 HCL HBK
              go_wp2_with fail
              go_roundg (l.length - (k + 1))
              case rel => exact ⟨k + 1, true, id, rfl, rfl, by go_num, by omega, by omega, Lib.hid (by rw [HRR.out, HST.out]; rfl), HB5⟩
              case measure => omega
        · have e2 := dec_f a2
          rw [dec_f a2] at hst
          cases ok
          · have HST := Lib.hid hst
            clear a1 a2 hst HCL HBK
            go_wp2_with fail
            go_roundg (l.length - (k + 1))
            case rel => exact ⟨k + 1, false, id, rfl, rfl, by go_num, by omega, by omega, Lib.hid (by rw [HRR.out, HST.out]; rfl), Lib.hid (HBA.out _)⟩
            case measure => omega
          · skip
            cases p
            · have HST := Lib.hid hst
              clear a1 a2 hst
              go_wp2_with fail
              refine (HCL.out _).mono ?_
              rintro e w5 ⟨rfl, hb5⟩
              have hbk := HBK.out _ hb5
              have g0 := blk_cell hbk 0
              simp at g0
              have HB5 : Hid (Below w.heap.size w w5) := Lib.hid (bl_next (HBA.out _) hb5)
              clear hb5 hbk HCL HBK
              go_upto_region 6 with fail
              go_quiet (fail)
              go_wp2_with fail
              go_roundg (l.length - (k + 1))
              case rel => exact ⟨k + 1, false, did, rfl, rfl, by go_num, by omega, by omega, Lib.hid (by rw [HRR.out, HST.out]; rfl), Lib.hid (below_drewN' HB5.out nq)⟩
              case measure => omega
            · have HST := Lib.hid hst
              clear a1 a2 hst
              go_wp2_with fail
              refine (HCL.out _).mono ?_
              rintro e w5 ⟨rfl, hb5⟩
              have HB5 : Hid (Below w.heap.size w w5) := Lib.hid (bl_next (HBA.out _) hb5)
              clear hb5 HCL HBK
              go_wp2_with fail
              go_roundg (l.length - (k + 1))
              case rel => exact ⟨k + 1, true, id, rfl, rfl, by go_num, by omega, by omega, Lib.hid (by rw [HRR.out, HST.out]; rfl), HB5⟩
              case measure => omega
      · have e1 := bq_f a1
        rw [dec_f a1] at hst
        have HST := Lib.hid hst
        clear a1 hst HCL HBK
        go_wp2_with fail
        go_roundg (l.length - (k + 1))
        case rel => exact ⟨k + 1, ok, id, rfl, rfl, by go_num, by omega, by omega, Lib.hid (by rw [HRR.out, HST.out]; rfl), Lib.hid (HBA.out _)⟩
        case measure => omega
    · obtain rfl : k = l.length := by omega
      have hd : decide (l.length < l.length) = false := by simp
      have hf := HF.out
      rw [List.take_length] at hf
      have HF2 : Hid (firstD l (holdD l) = (ok, id)) := Lib.hid hf
      clear hf hlt
      go_wp2_with fail
      go_ret2
      exact ⟨by rw [HF2.out]; rfl, HB.out⟩
set_option maxRecDepth 100000 in
set_option maxHeartbeats 3200000 in
theorem replay_first {w : World} {v : Value} {l : List Dl} {B : Nat} (h : DealsAt w v l) (g : Good l) (hB : B < w.heap.size) (hc : w.cell? ⟨B, 0, none⟩ = some v) :
    Calls Try.prog 26 #[v, .func (.func 39) #[] #[.pointer (some ⟨B, 0, none⟩)]] w fun e w' => e = .returned (.tuple #[.bool (firstD l (serialId l)).1, .int .i64 (firstD l (serialId l)).2]) ∧ Below w.heap.size w w' := by
  have hl := g.few
  obtain ⟨a, cap, rfl, hcap⟩ := h.form
  have HD := Lib.hid h
  have HG := Lib.hid g
  have HC := Lib.hid hc
  have HLB := Lib.hid hB
  clear h g hc hB
  go_enter Try.func26, Try.ntmps26
  go_wp2_with fail
  go_loopg [6, 7, 12] l.length (fun kx av iv kv wr => ∃ (k : Nat) (ok : Bool) (id : Int), av = .bool ok ∧ iv = .int .i64 id ∧ kv = .int .i64 k ∧ k ≤ l.length ∧ l.length - k ≤ kx ∧ Hid ((l.take k).foldl (firstStep (serialId l)) (true, 0) = (ok, id)) ∧ Hid (Below w.heap.size w wr))
  case atStart => exact ⟨0, true, 0, rfl, rfl, rfl, Nat.zero_le _, by omega, Lib.hid rfl, Lib.hid (Below.refl _ _)⟩
  case round =>
    obtain ⟨k, ok, id, rfl, rfl, rfl, hk, hkx, HF, HB⟩ := hrel
    have q0 : (0 : Int) ≤ (k : Int) := by omega
    by_cases hlt : k < l.length
    · have q1 : (k : Int) < (l.length : Int) := by omega
      obtain ⟨b, off, cap', dv, hv, hb, hcs, hops⟩ := (HD.out.later HB.out).at_ hlt
      simp only [Value.slice.injEq, true_and] at hv
      obtain ⟨rfl, rfl⟩ := hv
      have hst : (l.take (k + 1)).foldl (firstStep (serialId l)) (true, 0) = firstStep (serialId l) (ok, id) (l.getD k dl0) := by
        rw [List.take_succ_eq_append_getElem hlt, List.foldl_append, HF.out]
        simp [List.getD_eq_getElem?_getD, hlt]
      obtain ⟨R, hR⟩ : ∃ R, (l.take (k + 1)).foldl (firstStep (serialId l)) (true, 0) = R := ⟨_, rfl⟩
      rw [hR] at hst
      have HRR := Lib.hid hR
      clear hR
      unfold firstStep at hst
      have hcl : ∀ o : Obj, Calls Try.prog 39 #[.agg ((l.getD k dl0).cells dv).toArray, .pointer (some ⟨B, 0, none⟩)] (wr.alloc o) fun e w' => e = .returned (.bool (serialId l (l.getD k dl0))) ∧ Below (wr.alloc o).heap.size (wr.alloc o) w' := fun o =>
        replay_clos (HD.out.later (bl_alloc HB.out o)) HG.out ⟨dv, rfl, hops.later (bl_alloc (Below.refl _ _) o)⟩ (Nat.lt_of_lt_of_le HLB.out (bl_alloc HB.out o).size) (((bl_alloc HB.out o).cell (p := ⟨B, 0, none⟩) HLB.out).trans HC.out)
      obtain ⟨ao, co, rfl, -⟩ := hops.form
      clear hops
      obtain ⟨p, hp⟩ : ∃ p, serialId l (l.getD k dl0) = p := ⟨_, rfl⟩
      rw [hp] at hst hcl
      clear hp
      generalize (l.getD k dl0).ops.length = no at *
      generalize l.getD k dl0 = d at *
      obtain ⟨did, dlv, dst, dbg, den, dops⟩ := d
      have c0 := hcs 0 (by decide)
      have c1 := hcs 1 (by decide)
      have c2 := hcs 2 (by decide)
      have c3 := hcs 3 (by decide)
      have c4 := hcs 4 (by decide)
      have c5 := hcs 5 (by decide)
      clear hcs
      simp [Dl.cells] at c0 c1 c2 c3 c4 c5
      simp only [Dl.cells] at hcl
      dsimp only at hst
      have HCL := Lib.hid hcl
      have HBA : Hid (∀ o : Obj, Below w.heap.size w (wr.alloc o)) := Lib.hid fun o => bl_alloc HB.out o
      have HBK : Hid (∀ W : World, Below (wr.alloc (.cells #[.int .i64 did, .int .i64 dlv, .int .i64 dst, .int .u64 dbg, .int .u64 den, .slice ao no co] 25 (0, 0))).heap.size (wr.alloc (.cells #[.int .i64 did, .int .i64 dlv, .int .i64 dst, .int .u64 dbg, .int .u64 den, .slice ao no co] 25 (0, 0))) W → W.heap[wr.heap.size]? = some (.cells #[.int .i64 did, .int .i64 dlv, .int .i64 dst, .int .u64 dbg, .int .u64 den, .slice ao no co] 25 (0, 0))) := Lib.hid fun W hW => below_keep hW (blk_new _ _)
      clear hcl
      by_cases a1 : dst = 3
      · have e1 := bq_t a1
        rw [dec_t a1] at hst
        by_cases a2 : did < id
        · have e2 := dec_t a2
          rw [dec_t a2] at hst
          cases ok
          · skip
            cases p
            · have HST := Lib.hid hst
              clear a1 a2 hst
              go_wp2_with fail
              refine (HCL.out _).mono ?_
              rintro e w5 ⟨rfl, hb5⟩
              have hbk := HBK.out _ hb5
              have g0 := blk_cell hbk 0
              simp at g0
              have HB5 : Hid (Below w.heap.size w w5) := Lib.hid (bl_next (HBA.out _) hb5)
              clear hb5 hbk HCL HBK
              go_upto_region 6 with fail
              go_quiet (fail)
              go_wp2_with fail
              go_roundg (l.length - (k + 1))
              case rel => exact ⟨k + 1, false, did, rfl, rfl, by go_num, by omega, by omega, Lib.hid (by rw [HRR.out, HST.out]; rfl), Lib.hid (below_drewN' HB5.out nq)⟩
              case measure => omega
            · have HST := Lib.hid hst
              clear a1 a2 hst
              go_wp2_with fail
              refine (HCL.out _).mono ?_
              rintro e w5 ⟨rfl, hb5⟩
              have HB5 : Hid (Below w.heap.size w w5) := Lib.hid (bl_next (HBA.out _) hb5)
              clear hb5 HCL HBK
              go_wp2_with fail
              go_roundg (l.length - (k + 1))
              case rel => exact ⟨k + 1, false, id, rfl, rfl, by go_num, by omega, by omega, Lib.hid (by rw [HRR.out, HST.out]; rfl), HB5⟩
              case measure => omega
          · skip
            cases p
            · have HST := Lib.hid hst
              clear a1 a2 hst
              go_wp2_with fail
              refine (HCL.out _).mono ?_
              rintro e w5 ⟨rfl, hb5⟩
              have hbk := HBK.out _ hb5
              have g0 := blk_cell hbk 0
              simp at g0
              have HB5 : Hid (Below w.heap.size w w5) := Lib.hid (bl_next (HBA.out _) hb5)
              clear hb5 hbk HCL HBK
              go_upto_region 6 with fail
              go_quiet (fail)
              go_wp2_with fail
              go_roundg (l.length - (k + 1))
              case rel => exact ⟨k + 1, false, did, rfl, rfl, by go_num, by omega, by omega, Lib.hid (by rw [HRR.out, HST.out]; rfl), Lib.hid (below_drewN' HB5.out nq)⟩
              case measure => omega
            · have HST := Lib.hid hst
              clear a1 a2 hst
              go_wp2_with fail
              refine (HCL.out _).mono ?_
              rintro e w5 ⟨rfl, hb5⟩
              have HB5 : Hid (Below w.heap.size w w5) := Lib.hid (bl_next (HBA.out _) hb5)
              clear hb5 HCL HBK
              go_wp2_with fail
              go_roundg (l.length - (k + 1))
              case rel => exact ⟨k + 1, true, id, rfl, rfl, by go_num, by omega, by omega, Lib.hid (by rw [HRR.out, HST.out]; rfl), HB5⟩
              case measure => omega
        · have e2 := dec_f a2
          rw [dec_f a2] at hst
          cases ok
          · have HST := Lib.hid hst
            clear a1 a2 hst HCL HBK
            go_wp2_with fail
            go_roundg (l.length - (k + 1))
            case rel => exact ⟨k + 1, false, id, rfl, rfl, by go_num, by omega, by omega, Lib.hid (by rw [HRR.out, HST.out]; rfl), Lib.hid (HBA.out _)⟩
            case measure => omega
          · skip
            cases p
            · have HST := Lib.hid hst
              clear a1 a2 hst
              go_wp2_with fail
              refine (HCL.out _).mono ?_
              rintro e w5 ⟨rfl, hb5⟩
              have hbk := HBK.out _ hb5
              have g0 := blk_cell hbk 0
              simp at g0
              have HB5 : Hid (Below w.heap.size w w5) := Lib.hid (bl_next (HBA.out _) hb5)
              clear hb5 hbk HCL HBK
              go_upto_region 6 with fail
              go_quiet (fail)
              go_wp2_with fail
              go_roundg (l.length - (k + 1))
              case rel => exact ⟨k + 1, false, did, rfl, rfl, by go_num, by omega, by omega, Lib.hid (by rw [HRR.out, HST.out]; rfl), Lib.hid (below_drewN' HB5.out nq)⟩
              case measure => omega
            · have HST := Lib.hid hst
              clear a1 a2 hst
              go_wp2_with fail
              refine (HCL.out _).mono ?_
              rintro e w5 ⟨rfl, hb5⟩
              have HB5 : Hid (Below w.heap.size w w5) := Lib.hid (bl_next (HBA.out _) hb5)
              clear hb5 HCL HBK
              go_wp2_with fail
              go_roundg (l.length - (k + 1))
              case rel => exact ⟨k + 1, true, id, rfl, rfl, by go_num, by omega, by omega, Lib.hid (by rw [HRR.out, HST.out]; rfl), HB5⟩
              case measure => omega
      · have e1 := bq_f a1
        rw [dec_f a1] at hst
        have HST := Lib.hid hst
        clear a1 hst HCL HBK
        go_wp2_with fail
        go_roundg (l.length - (k + 1))
        case rel => exact ⟨k + 1, ok, id, rfl, rfl, by go_num, by omega, by omega, Lib.hid (by rw [HRR.out, HST.out]; rfl), Lib.hid (HBA.out _)⟩
        case measure => omega
    · obtain rfl : k = l.length := by omega
      have hd : decide (l.length < l.length) = false := by simp
      have hf := HF.out
      rw [List.take_length] at hf
      have HF2 : Hid (firstD l (serialId l) = (ok, id)) := Lib.hid hf
      clear hf hlt
      go_wp2_with fail
      go_ret2
      exact ⟨by rw [HF2.out]; rfl, HB.out⟩
set_option maxRecDepth 100000 in
set_option maxHeartbeats 800000 in
theorem holds_all {w : World} {v : Value} {l : List Dl} (h : DealsAt w v l) (g : Good l) :
    Calls Try.prog 16 #[v] w fun e w' => e = .returned (.tuple #[.bool (holdsD l).1, .int .i64 (holdsD l).2]) ∧ Below w.heap.size w w' := by
  have HF := Lib.hid (holds_first (B := w.heap.size) (h.later (bl_alloc (Below.refl _ _) (.cells #[v] 37 (0, 0)))) g (by simp) (by rw [blk_cell (blk_new _ _)]; rfl))
  obtain ⟨a, cap, rfl, -⟩ := h.form
  clear h g
  go_enter Try.func16, Try.ntmps16
  go_wp2_with fail
  refine HF.out.mono ?_
  rintro e w1 ⟨rfl, hb⟩
  have HB := Lib.hid (bl_next (bl_alloc (Below.refl _ _) _) hb)
  clear hb HF
  go_wp2_with fail
  go_ret2
  exact ⟨rfl, HB.out⟩
set_option maxRecDepth 100000 in
set_option maxHeartbeats 800000 in
theorem replay_all {w : World} {v : Value} {l : List Dl} (h : DealsAt w v l) (g : Good l) :
    Calls Try.prog 24 #[v] w fun e w' => e = .returned (.tuple #[.bool (replayD l).1, .int .i64 (replayD l).2]) ∧ Below w.heap.size w w' := by
  have HF := Lib.hid (replay_first (B := w.heap.size) (h.later (bl_alloc (Below.refl _ _) (.cells #[v] 37 (0, 0)))) g (by simp) (by rw [blk_cell (blk_new _ _)]; rfl))
  obtain ⟨a, cap, rfl, -⟩ := h.form
  clear h g
  go_enter Try.func24, Try.ntmps24
  go_wp2_with fail
  refine HF.out.mono ?_
  rintro e w1 ⟨rfl, hb⟩
  have HB := Lib.hid (bl_next (bl_alloc (Below.refl _ _) _) hb)
  clear hb HF
  go_wp2_with fail
  go_ret2
  exact ⟨rfl, HB.out⟩
end Go.Proofs.Ytpohehialkgigaa
