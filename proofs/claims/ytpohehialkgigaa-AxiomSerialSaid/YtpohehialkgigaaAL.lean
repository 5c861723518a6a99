/- from, Snapshot, Serial: whether a Deal's calls answer as its view. -/
import Derived.Test.YtpohehialkgigaaAK
namespace Go.Proofs.Ytpohehialkgigaa
open Go.RowKit

/-- Deals that are few, of which no two that committed end at one time. -/
structure Good (l : List Dl) : Prop where
  few : l.length ≤ 19
  wf : ∀ d ∈ l, d.wf
  apart : l.Pairwise fun a b => a.state = 3 → b.state = 3 → a.en ≠ b.en
  pairs : ∀ d ∈ l, ∀ c ∈ d.ops, c.pairs.length ≤ 1000000
theorem getD_mem {l : List Dl} {i : Nat} (hi : i < l.length) : l.getD i dl0 ∈ l := by
  rw [List.getD_eq_getElem?_getD]
  simp [hi]
theorem getC_mem {l : List Cl} {i : Nat} (hi : i < l.length) : l.getD i cl0 ∈ l := by
  rw [List.getD_eq_getElem?_getD]
  simp [hi]
theorem Good.sel {l : List Dl} (h : Good l) (when without : Int) : (sel l when without).Pairwise fun a b => a.en ≠ b.en := by
  unfold Go.Proofs.Ytpohehialkgigaa.sel selI
  rw [List.pairwise_map]
  have h1 : ((List.range l.length).filter fun i => pick when without i (l.getD i dl0)).Pairwise (· < ·) := List.Pairwise.filter _ List.pairwise_lt_range
  refine h1.imp_of_mem fun {i j} hi hj hij => ?_
  obtain ⟨hi1, hi2⟩ := List.mem_filter.1 hi
  obtain ⟨hj1, hj2⟩ := List.mem_filter.1 hj
  simp only [List.mem_range] at hi1 hj1
  simp only [pick, Bool.and_eq_true, decide_eq_true_eq] at hi2 hj2
  have := List.pairwise_iff_getElem.1 h.apart i j hi1 hj1 hij
  have e1 : l.getD i dl0 = l[i] := by simp [List.getD_eq_getElem?_getD, hi1]
  have e2 : l.getD j dl0 = l[j] := by simp [List.getD_eq_getElem?_getD, hj1]
  rw [e1] at hi2 ⊢
  rw [e2] at hj2 ⊢
  exact this hi2.1.2 hj2.1.2
theorem fold_len : ∀ (ds : List Dl) (s : St), (∀ d ∈ ds, d.ops.length ≤ 1000) → (ds.foldl (fun s d => St.steps s d.ops) s).length ≤ s.length + ds.length * 1000
  | [], s, _ => by simp
  | d :: r, s, h => by
    have h1 := fold_len r (St.steps s d.ops) fun x hx => h x (by simp [hx])
    have h2 := St.steps_length d.ops s
    have h3 := h d (by simp)
    simp only [List.foldl_cons, List.length_cons]
    omega
theorem Good.atLen {l : List Dl} (h : Good l) (when without : Int) : (atD l when without).length ≤ 19000 := by
  unfold atD
  have h1 : (srt (Go.Proofs.Ytpohehialkgigaa.sel l when without)).length ≤ 19 := by
    rw [(srt_perm _).length_eq]
    have := List.length_filter_le (fun i => pick when without i (l.getD i dl0)) (List.range l.length)
    have := h.few
    simp [Go.Proofs.Ytpohehialkgigaa.sel, selI] at *
    omega
  have h2 := fold_len (srt (Go.Proofs.Ytpohehialkgigaa.sel l when without)) [] fun d hd => by
    have hd' := (srt_perm _).mem_iff.1 hd
    obtain ⟨i, hi, rfl⟩ := List.mem_map.1 hd'
    have hi' := (List.mem_filter.1 hi).1
    simp only [List.mem_range] at hi'
    exact (h.wf _ (getD_mem hi')).few
  simp only [List.length_nil, Nat.zero_add] at h2
  omega
theorem Good.at_ {w : World} {v : Value} {l : List Dl} (g : Good l) (h : DealsAt w v l) (when without : Int) :
    Calls Try.prog 32 #[v, .int .u64 when, .int .i64 without] w fun e w' => ∃ m, e = .returned (.map (some m)) ∧ w.heap.size ≤ m ∧ SMap w' m (atD l when without) ∧ Below w.heap.size w w' :=
  at_any h g.few g.wf (g.sel when without)
theorem answer_step {s : St} {l : List Cl} {q : Nat} (hq : q < l.length) : allAnswer (St.steps s (l.take q)) (l.drop q) = (answersD (St.steps s (l.take q)) (l.getD q cl0) && allAnswer (St.steps s (l.take (q + 1))) (l.drop (q + 1))) := by
  rw [steps_succ hq, List.drop_eq_getElem_cons hq]
  have e : l.getD q cl0 = l[q] := by simp [List.getD_eq_getElem?_getD, hq]
  rw [e]
  rfl
set_option maxRecDepth 100000 in
set_option maxHeartbeats 3200000 in
theorem from_any {w : World} {v : Value} {l : List Dl} {i : Nat} {when : Int} (h : DealsAt w v l) (g : Good l) (hi : i < l.length) :
    Calls Try.prog 30 #[v, .int .i64 i, .int .u64 when] w fun e w' => e = .returned (.bool (fromD l i when)) ∧ Below w.heap.size w w' := by
  have HAT := Lib.hid (g.at_ h when i)
  have hln := g.atLen when i
  obtain ⟨b, off, cap, dv, rfl, hb, hcs, hops⟩ := h.at_ hi
  obtain ⟨ao, co, rfl, -⟩ := hops.form
  have hwd := g.wf _ (getD_mem hi)
  have hpd := g.pairs _ (getD_mem hi)
  have r0 : (0 : Int) ≤ (i : Int) := by omega
  have r1 : (i : Int) < (l.length : Int) := by omega
  have c5 := hcs 5 (by decide)
  unfold fromD
  clear hcs h g
  generalize atD l when i = s0 at *
  generalize l.getD i dl0 = d at *
  obtain ⟨did, dlv, dst, dbg, den, ops⟩ := d
  obtain ⟨-, -, wops, wfew⟩ := hwd
  simp [Dl.cells] at c5
  dsimp only at wops wfew hops hpd
  have HOPS := Lib.hid hops
  have HB0 := Lib.hid hb
  have C5 := Lib.hid c5
  have WOPS := Lib.hid wops
  have HPD := Lib.hid hpd
  have HLN := Lib.hid hln
  clear hops hb c5 wops hpd hln
  go_enter Try.func30, Try.ntmps30
  go_wp2_with fail
  refine HAT.out.mono ?_
  rintro e w1 ⟨m, rfl, hm, hs, hb1⟩
  have c5 := (hb1.cell (p := ⟨b, off + i * 6 + 5, none⟩) HB0.out).trans C5.out
  have HM := Lib.hid hm
  have HS1 := Lib.hid hs
  have HB1 := Lib.hid hb1
  clear hm hs hb1 HAT
  go_wp2_with fail
  clear c5
  go_loopg [20] ops.length (fun kx qv wr => ∃ q : Nat, qv = .int .i64 q ∧ q ≤ ops.length ∧ ops.length - q ≤ kx ∧ Hid (SMap wr m (St.steps s0 (ops.take q))) ∧ Hid (Below w.heap.size w wr) ∧ Hid (allAnswer s0 ops = allAnswer (St.steps s0 (ops.take q)) (ops.drop q)))
  case atStart => exact ⟨0, rfl, Nat.zero_le _, by omega, HS1, HB1, Lib.hid rfl⟩
  case round =>
    obtain ⟨q, rfl, hq, hqx, HS, HB, HA⟩ := hrel
    clear HS1 HB1
    have s0' : (0 : Int) ≤ (q : Int) := by omega
    by_cases hql : q < ops.length
    · have s1 : (q : Int) < (ops.length : Int) := by omega
      obtain ⟨cb, coff, ccap, pv, hcv, hcb, hccs, hps⟩ := HOPS.out.at_ hql
      simp only [Value.slice.injEq, true_and] at hcv
      obtain ⟨rfl, rfl⟩ := hcv
      obtain ⟨ap, cp, rfl, -⟩ := hps.form
      have hcc := fun x hx => (HB.out.cell (p := ⟨cb, coff + q * 9 + x, none⟩) hcb).trans (hccs x hx)
      have hst := steps_succ (s := s0) hql
      have han := answer_step (s := s0) hql
      have hwc := WOPS.out _ (getC_mem hql)
      have hpc := HPD.out _ (getC_mem hql)
      have hnl : (St.steps s0 (ops.take q)).length ≤ 100000 := by
        have h1 := St.steps_length (ops.take q) s0
        have h2 : (ops.take q).length ≤ q := by simp; omega
        have := HLN.out
        omega
      have hpl := hps.later HB.out
      clear hccs hps
      generalize ops.getD q cl0 = c at *
      obtain ⟨kd, key, hi2, val, er, rv, ps, ov, rs⟩ := c
      have e0 := hcc 0 (by decide)
      have e1 := hcc 1 (by decide)
      have e2 := hcc 2 (by decide)
      have e3 := hcc 3 (by decide)
      have e4 := hcc 4 (by decide)
      have e5 := hcc 5 (by decide)
      have e6 := hcc 6 (by decide)
      have e7 := hcc 7 (by decide)
      have e8 := hcc 8 (by decide)
      clear hcc
      simp [Cl.cells] at e0 e1 e2 e3 e4 e5 e6 e7 e8
      dsimp only at hpl hpc
      have hci : ∀ o : Obj, CallIs (wr.alloc o) (.agg #[.int .i64 kd, .int .i64 key, .int .i64 hi2, .int .i64 val, .int .i64 er, .int .i64 rv, .slice ap ps.length cp, .int .i64 ov, .int .i64 rs]) ⟨kd, key, hi2, val, er, rv, ps, ov, rs⟩ := fun o => ⟨_, rfl, hpl.later (bl_alloc (Below.refl _ _) o)⟩
      have hsa : ∀ o : Obj, SMap (wr.alloc o) m (St.steps s0 (ops.take q)) := fun o => HS.out.later (bl_alloc (Below.refl _ _) o)
      have hans := fun o => answers_any (hci o) (hsa o) hnl hwc hpc
      obtain ⟨an, hane⟩ : ∃ an, answersD (St.steps s0 (ops.take q)) ⟨kd, key, hi2, val, er, rv, ps, ov, rs⟩ = an := ⟨_, rfl⟩
      rw [hane] at hans han
      have HANS := Lib.hid hans
      have HBX : Hid (∀ W : World, Below (wr.alloc (.cells #[.int .i64 kd, .int .i64 key, .int .i64 hi2, .int .i64 val, .int .i64 er, .int .i64 rv, .slice ap ps.length cp, .int .i64 ov, .int .i64 rs] 35 (0, 0))).heap.size (wr.alloc (.cells #[.int .i64 kd, .int .i64 key, .int .i64 hi2, .int .i64 val, .int .i64 er, .int .i64 rv, .slice ap ps.length cp, .int .i64 ov, .int .i64 rs] 35 (0, 0))) W → W.heap[wr.heap.size]? = some (.cells #[.int .i64 kd, .int .i64 key, .int .i64 hi2, .int .i64 val, .int .i64 er, .int .i64 rv, .slice ap ps.length cp, .int .i64 ov, .int .i64 rs] 35 (0, 0))) := Lib.hid fun W hW => below_keep hW (blk_new _ _)
      have HCI := Lib.hid hci
      have HSA := Lib.hid hsa
      have HWC := Lib.hid hwc
      have HNL := Lib.hid hnl
      have HST := Lib.hid hst
      have HAN := Lib.hid han
      clear hans hci hsa hst han hane hwc hpc hpl hnl
      cases an
      · go_wp2_with fail
        refine (HANS.out _).mono ?_
        rintro e w5 ⟨rfl, hb5⟩
        have HB5 := Lib.hid hb5
        clear hb5 HANS
        go_wp2_with fail
        go_ret
        exact ⟨by rw [HA.out, HAN.out]; rfl, (HB.out.alloc HB.out.size _).trans (HB5.out.mono (by simp; exact Nat.le_succ_of_le HB.out.size))⟩
      · go_wp2_with fail
        refine (HANS.out _).mono ?_
        rintro e w5 ⟨rfl, hb5⟩
        have hbk := HBX.out w5 hb5
        have f0 := blk_cell hbk 0
        have f1 := blk_cell hbk 1
        have f2 := blk_cell hbk 2
        have f3 := blk_cell hbk 3
        have f4 := blk_cell hbk 4
        have f5 := blk_cell hbk 5
        have f6 := blk_cell hbk 6
        have f7 := blk_cell hbk 7
        have f8 := blk_cell hbk 8
        simp at f0 f1 f2 f3 f4 f5 f6 f7 f8
        have hput := put_any ((HCI.out _).later hb5) ((HSA.out _).later hb5) HWC.out (Nat.lt_of_le_of_lt HNL.out (by unfold maxLen; omega))
        have HPUT := Lib.hid hput
        have hb6 : Below w.heap.size w w5 := (HB.out.alloc HB.out.size _).trans (hb5.mono (by simp; exact Nat.le_succ_of_le HB.out.size))
        have HB6 := Lib.hid hb6
        clear hput hb5 hb6 hbk HANS HBX HCI HSA
        go_wp2_with fail
        refine HPUT.out.mono ?_
        rintro e w6 ⟨rfl, hs6, hm6⟩
        have HS6 := Lib.hid hs6
        have hb7 : Below w.heap.size w w6 := HB6.out.trans (hm6.below (fun k hk => by rw [hk]; exact HM.out) HB6.out.size)
        have HB7 := Lib.hid hb7
        clear hs6 hm6 hb7 HPUT f0 f1 f2 f3 f4 f5 f6 f7 f8
        go_wp2_with fail
        go_roundg (ops.length - (q + 1))
        case rel => exact ⟨q + 1, by go_num, by omega, by omega, Lib.hid (by rw [HST.out]; exact HS6.out), HB7, Lib.hid (by rw [HA.out, HAN.out]; rfl)⟩
        case measure => omega
    · obtain rfl : q = ops.length := by omega
      have hd3 : decide (ops.length < ops.length) = false := by simp
      have ha := HA.out
      rw [List.drop_length] at ha
      have HA2 := Lib.hid ha
      clear ha hql
      go_wp2_with fail
      go_ret
      exact ⟨by rw [HA2.out]; rfl, HB.out⟩
end Go.Proofs.Ytpohehialkgigaa
