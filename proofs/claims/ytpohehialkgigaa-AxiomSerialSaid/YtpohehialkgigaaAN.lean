/- Repeatable. -/
import Derived.Test.YtpohehialkgigaaAM
namespace Go.Proofs.Ytpohehialkgigaa
open Go.RowKit
theorem find_ins_ne {x : Int × Int} {k : Int} (h : ¬ x.1 = k) : ∀ s : St, (St.ins x s).find? (fun p => decide (p.1 = k)) = s.find? (fun p => decide (p.1 = k))
  | [] => by simp [St.ins, h]
  | y :: r => by
    unfold St.ins
    split
    · simp [h]
    · simp only [List.find?_cons, find_ins_ne h r]
theorem find_ins_eq {x : Int × Int} : ∀ s : St, (∀ p ∈ s, p.1 ≠ x.1) → (St.ins x s).find? (fun p => decide (p.1 = x.1)) = some x
  | [], _ => by simp [St.ins]
  | y :: r, h => by
    unfold St.ins
    split
    · simp
    · rw [List.find?_cons_of_neg (by simpa using h y (by simp)), find_ins_eq r fun p hp => h p (by simp [hp])]
theorem find_del_ne {x k : Int} (h : ¬ x = k) : ∀ s : St, (St.del s x).find? (fun p => decide (p.1 = k)) = s.find? (fun p => decide (p.1 = k))
  | [] => rfl
  | y :: r => by
    have ih := find_del_ne h r
    unfold St.del at ih ⊢
    by_cases hy : y.1 = x
    · have hk : ¬ y.1 = k := by omega
      rw [List.filter_cons_of_neg (by simp [hy]), ih, List.find?_cons_of_neg (by simpa using hk)]
    · simp only [List.filter_cons, hy, decide_false, Bool.not_false, if_true, List.find?_cons, ih]
theorem St.get_put (s : St) (k v x : Int) : (St.put s k v).get x = if x = k then some v else s.get x := by
  unfold St.put St.get
  by_cases h : x = k
  · subst h
    rw [if_pos rfl, find_ins_eq (x := (x, v)) _ fun p hp => (St.del_mem hp).2]
    rfl
  · rw [if_neg h, find_ins_ne (x := (k, v)) (fun e => h e.symm), find_del_ne (fun e => h e.symm)]
/-- A map that tells whose keys are on a list. -/
def Mine (s : St) (l : List Int) : Prop := ∀ k, (s.get k).getD 0 = if k ∈ l then 1 else 0
theorem Mine.nil : Mine [] [] := fun k => by simp [St.get]
theorem Mine.put {s : St} {l : List Int} (h : Mine s l) (k : Int) : Mine (s.put k 1) (k :: l) := fun x => by
  rw [St.get_put]
  by_cases hx : x = k
  · subst hx; simp
  · rw [if_neg hx, h x]
    simp [hx]
theorem still_step {s : St} {l : List Cl} {q : Nat} (hq : q < l.length) (d : List Int) : stillThere s d (l.drop q) = (!(decide ((l.getD q cl0).kind = 1) && decide ((l.getD q cl0).e = 0) && !decide ((l.getD q cl0).key ∈ d) && !answersD s (l.getD q cl0)) && stillThere (s.step (l.getD q cl0)) (if (l.getD q cl0).wrote then (l.getD q cl0).key :: d else d) (l.drop (q + 1))) := by
  rw [List.drop_eq_getElem_cons hq]
  have e : l.getD q cl0 = l[q] := by simp [List.getD_eq_getElem?_getD, hq]
  rw [e]
  rfl
theorem smap_run {w : World} {b : Nat} {s : St} {k : Int} {T : TypeId} (ht : Try.prog.underlying T = some (.map 3 3)) (h : SMap w b s) (hw : (Lit.int .i64 k).wf = true) : (Instr.lookup T (.map (some b)) (.int .i64 k) false).run Try.prog w = .ok (.int .i64 ((s.get k).getD 0)) w := by
  obtain ⟨c, hr, hc, _⟩ := h.own.lookup_int int_key ht Try.underlying3 (zero_int w) (key_int hw)
  rw [st_at] at hc
  simp only [DataW.lit.injEq, Lit.int.injEq, true_and] at hc
  rw [hr, hc]
set_option maxRecDepth 100000 in
set_option maxHeartbeats 6400000 in
theorem repeatable_any {w : World} {v : Value} {l : List Dl} {id : Int} (h : DealsAt w v l) (g : Good l) :
    Calls Try.prog 19 #[v, .int .i64 id] w fun e w' => e = .returned (.bool (repeatableD l id)) ∧ Below w.heap.size w w' := by
  have hsn := snapshot_any (id := id) h g
  cases hsd : snapshotD l id with
  | false =>
    have hr : repeatableD l id = false := by unfold repeatableD; rw [hsd]; rfl
    rw [hr]
    rw [hsd] at hsn
    have HSN := Lib.hid hsn
    obtain ⟨a, cap, rfl, -⟩ := h.form
    clear hsn hr hsd h g
    go_enter Try.func19, Try.ntmps19
    go_wp2_with fail
    refine HSN.out.mono ?_
    rintro e w1 ⟨rfl, hb⟩
    have HB := Lib.hid hb
    clear hb HSN
    go_wp2_with fail
    go_ret
    exact ⟨rfl, HB.out⟩
  | true =>
    obtain ⟨i, hfd⟩ : ∃ i, findD l id = some i := by
      cases hf : findD l id with
      | none => unfold snapshotD at hsd; rw [hf] at hsd; cases hsd
      | some i => exact ⟨i, rfl⟩
    have hlt := findD_lt hfd
    have hr : repeatableD l id = stillThere (atD l (lastD (l.getD i dl0)) i) [] (l.getD i dl0).ops := by unfold repeatableD; rw [hsd, hfd]; rfl
    have hi : findI l id = i := by unfold findI; rw [hfd]
    rw [hr]
    rw [hsd] at hsn
    have HSN := Lib.hid hsn
    have HF : Hid (∀ W, Below w.heap.size w W → Calls Try.prog 29 #[v, .int .i64 id] W fun e w' => e = .returned (.int .i64 i) ∧ Below w.heap.size w w') := Lib.hid fun W hW => (find_any (id := id) (h.later hW) (by have := g.few; omega)).mono fun _ _ ⟨h1, h2⟩ => ⟨by rw [h1, hi], bl_next hW h2⟩
    have HAT : Hid (∀ W, Below w.heap.size w W → Calls Try.prog 32 #[v, .int .u64 (lastD (l.getD i dl0)), .int .i64 i] W fun e w' => ∃ m, e = .returned (.map (some m)) ∧ w.heap.size ≤ m ∧ SMap w' m (atD l (lastD (l.getD i dl0)) i) ∧ Below w.heap.size w w') := Lib.hid fun W hW => (g.at_ (h.later hW) _ _).mono fun _ _ ⟨m, h1, h2, h3, h4⟩ => ⟨m, h1, Nat.le_trans hW.size h2, h3, bl_next hW h4⟩
    have hln := g.atLen (lastD (l.getD i dl0)) i
    obtain ⟨b, off, cap, dv, rfl, hb, hcs, hops⟩ := h.at_ hlt
    have hlast : ∀ W, Below w.heap.size w W → Calls Try.prog 31 #[.agg ((l.getD i dl0).cells dv).toArray] W fun e w' => e = .returned (.int .u64 (lastD (l.getD i dl0))) ∧ Below w.heap.size w w' := fun W hW => (last_any (d := l.getD i dl0) ⟨dv, rfl, hops.later hW⟩ (u64_bounds (g.wf _ (getD_mem hlt)).en).1 (u64_bounds (g.wf _ (getD_mem hlt)).en).2).mono fun _ _ ⟨h1, h2⟩ => ⟨h1, bl_next hW h2⟩
    obtain ⟨ao, co, rfl, -⟩ := hops.form
    have hwd := g.wf _ (getD_mem hlt)
    have hpd := g.pairs _ (getD_mem hlt)
    have c0 := hcs 0 (by decide)
    have c1 := hcs 1 (by decide)
    have c2 := hcs 2 (by decide)
    have c3 := hcs 3 (by decide)
    have c4 := hcs 4 (by decide)
    have c5 := hcs 5 (by decide)
    have r0 : (0 : Int) ≤ (i : Int) := by omega
    have r1 : (i : Int) < (l.length : Int) := by omega
    clear hsn hr hi hfd hsd h g hcs
    generalize atD l (lastD (l.getD i dl0)) i = s0 at *
    generalize lastD (l.getD i dl0) = la at *
    generalize l.getD i dl0 = d at *
    obtain ⟨did, dlv, dst, dbg, den, ops⟩ := d
    obtain ⟨-, -, wops, wfew⟩ := hwd
    simp [Dl.cells] at c0 c1 c2 c3 c4 c5
    simp only [Dl.cells] at hlast
    dsimp only at wops wfew hops hpd
    have HLA := Lib.hid hlast
    have C : Hid (∀ W, Below w.heap.size w W → W.cell? ⟨b, off + i * 6, none⟩ = some (.int .i64 did) ∧ W.cell? ⟨b, off + i * 6 + 1, none⟩ = some (.int .i64 dlv) ∧ W.cell? ⟨b, off + i * 6 + 2, none⟩ = some (.int .i64 dst) ∧ W.cell? ⟨b, off + i * 6 + 3, none⟩ = some (.int .u64 dbg) ∧ W.cell? ⟨b, off + i * 6 + 4, none⟩ = some (.int .u64 den) ∧ W.cell? ⟨b, off + i * 6 + 5, none⟩ = some (.slice ao ops.length co)) := Lib.hid fun W hW => ⟨(hW.cell (p := ⟨b, off + i * 6, none⟩) hb).trans c0, (hW.cell (p := ⟨b, off + i * 6 + 1, none⟩) hb).trans c1, (hW.cell (p := ⟨b, off + i * 6 + 2, none⟩) hb).trans c2, (hW.cell (p := ⟨b, off + i * 6 + 3, none⟩) hb).trans c3, (hW.cell (p := ⟨b, off + i * 6 + 4, none⟩) hb).trans c4, (hW.cell (p := ⟨b, off + i * 6 + 5, none⟩) hb).trans c5⟩
    have HOPS := Lib.hid hops
    have WOPS := Lib.hid wops
    have HPD := Lib.hid hpd
    have HLN := Lib.hid hln
    have HFW := Lib.hid wfew
    clear c0 c1 c2 c3 c4 c5 hb hlt hlast hops wops hpd hln wfew
    go_enter Try.func19, Try.ntmps19
    go_wp2_with fail
    refine HSN.out.mono ?_
    rintro e w1 ⟨rfl, hb⟩
    have HB := Lib.hid hb
    clear hb HSN
    go_wp2_with fail
    refine (HF.out _ HB.out).mono ?_
    rintro e w2 ⟨rfl, hb⟩
    have HB2 := Lib.hid hb
    obtain ⟨c0, c1, c2, c3, c4, c5⟩ := C.out _ hb
    clear hb HF HB
    go_wp2_with fail
    refine (HLA.out _ HB2.out).mono ?_
    rintro e w3 ⟨rfl, hb⟩
    have HB3 := Lib.hid hb
    clear hb HLA HB2 c0 c1 c2 c3 c4 c5
    go_wp2_with fail
    refine (HAT.out _ HB3.out).mono ?_
    rintro e w4 ⟨m, rfl, hmg, hs4, hb4⟩
    have hmn : SMap (w4.alloc (.map #[] 0)) w4.heap.size [] := SMap.new w4
    have hs5 := hs4.later (bl_alloc (Below.refl _ _) (.map #[] 0))
    have hb5 := bl_alloc hb4 (.map #[] 0)
    have hmn2 : m ≠ w4.heap.size := Nat.ne_of_lt hs4.lt
    have hng : w.heap.size ≤ w4.heap.size := hb4.size
    obtain ⟨-, -, -, -, -, c5⟩ := C.out _ hb5
    clear HAT HB3 hs4 hb4 C
    have hmm := @run_makeMap Try.prog
    go_upto_region 6 with fail
    clear hmm
    generalize w4.alloc (.map #[] 0) = w5 at *
    generalize w4.heap.size = mn at *
    have HS := Lib.hid hs5
    have HMN := Lib.hid hmn
    have HB5 := Lib.hid hb5
    have HNE := Lib.hid hmn2
    have HMG := Lib.hid hmg
    have HNG := Lib.hid hng
    clear hs5 hmn hb5 hmn2 hmg hng
    go_wp2_with fail
    clear c5
    go_loopg [32] ops.length (fun kx qv wr => ∃ (q : Nat) (ms : St) (mine : List Int), qv = .int .i64 q ∧ q ≤ ops.length ∧ ops.length - q ≤ kx ∧ Hid (SMap wr m (St.steps s0 (ops.take q))) ∧ Hid (SMap wr mn ms ∧ Mine ms mine ∧ ms.length ≤ q) ∧ Hid (Below w.heap.size w wr) ∧ Hid (stillThere s0 [] ops = stillThere (St.steps s0 (ops.take q)) mine (ops.drop q)))
    case atStart => exact ⟨0, [], [], rfl, Nat.zero_le _, by omega, HS, Lib.hid ⟨HMN.out, Mine.nil, Nat.le_refl _⟩, HB5, Lib.hid rfl⟩
    case round =>
      obtain ⟨q, ms, mine, rfl, hq, hqx, HS3, HN3, HB3, HA⟩ := hrel
      clear HS HMN HB5
      have s0' : (0 : Int) ≤ (q : Int) := by omega
      by_cases hql : q < ops.length
      · have s1 : (q : Int) < (ops.length : Int) := by omega
        obtain ⟨cb, coff, ccap, pv, hcv, hcb, hccs, hps⟩ := HOPS.out.at_ hql
        simp only [Value.slice.injEq, true_and] at hcv
        obtain ⟨rfl, rfl⟩ := hcv
        obtain ⟨ap, cp, rfl, -⟩ := hps.form
        have hcc := fun x hx => (HB3.out.cell (p := ⟨cb, coff + q * 9 + x, none⟩) hcb).trans (hccs x hx)
        have hst := steps_succ (s := s0) hql
        have han := still_step (s := St.steps s0 (ops.take q)) hql mine
        have hwc := WOPS.out _ (getC_mem hql)
        have hpc := HPD.out _ (getC_mem hql)
        have hnl : (St.steps s0 (ops.take q)).length ≤ 100000 := by
          have h1 := St.steps_length (ops.take q) s0
          have h2 : (ops.take q).length ≤ q := by simp; omega
          have := HLN.out
          have := HFW.out
          omega
        have hpl := hps.later HB3.out
        have hpw := hps
        clear hccs hps
        generalize ops.getD q cl0 = c at *
        obtain ⟨kd, key, hi2, val, er, rv, ps, ov, rs⟩ := c
        have e0 := hcc 0 (by decide)
        have e1 := hcc 1 (by decide)
        have e2 := hcc 2 (by decide)
        have e3 := hcc 3 (by decide)
        have e4 := hcc 4 (by decide)
        have e5 := hcc 5 (by decide)
        have e6 := hcc 6 (by decide)
        have e7 := hcc 7 (by decide)
        have e8 := hcc 8 (by decide)
        clear hcc
        simp [Cl.cells] at e0 e1 e2 e3 e4 e5 e6 e7 e8
        dsimp only at hpl hpc han hpw
        have HPW := Lib.hid hpw
        clear hpw
        have hci := (show CallIs wr (.agg #[.int .i64 kd, .int .i64 key, .int .i64 hi2, .int .i64 val, .int .i64 er, .int .i64 rv, .slice ap ps.length cp, .int .i64 ov, .int .i64 rs]) ⟨kd, key, hi2, val, er, rv, ps, ov, rs⟩ from ⟨_, rfl, hpl⟩).later (bl_alloc (Below.refl _ _) (.cells #[.int .i64 kd, .int .i64 key, .int .i64 hi2, .int .i64 val, .int .i64 er, .int .i64 rv, .slice ap ps.length cp, .int .i64 ov, .int .i64 rs] 35 (0, 0)))
        have hs6 := HS3.out.later (bl_alloc (Below.refl _ _) (.cells #[.int .i64 kd, .int .i64 key, .int .i64 hi2, .int .i64 val, .int .i64 er, .int .i64 rv, .slice ap ps.length cp, .int .i64 ov, .int .i64 rs] 35 (0, 0)))
        have hn6 := HN3.out.1.later (bl_alloc (Below.refl _ _) (.cells #[.int .i64 kd, .int .i64 key, .int .i64 hi2, .int .i64 val, .int .i64 er, .int .i64 rv, .slice ap ps.length cp, .int .i64 ov, .int .i64 rs] 35 (0, 0)))
        have hb6 := bl_alloc HB3.out (.cells #[.int .i64 kd, .int .i64 key, .int .i64 hi2, .int .i64 val, .int .i64 er, .int .i64 rv, .slice ap ps.length cp, .int .i64 ov, .int .i64 rs] 35 (0, 0))
        have hbk := blk_new wr (.cells #[.int .i64 kd, .int .i64 key, .int .i64 hi2, .int .i64 val, .int .i64 er, .int .i64 rv, .slice ap ps.length cp, .int .i64 ov, .int .i64 rs] 35 (0, 0))
        have HMI := Lib.hid HN3.out.2
        have HWC := Lib.hid hwc
        have HPC := Lib.hid hpc
        have HNL := Lib.hid hnl
        have HST := Lib.hid hst
        have HAN := Lib.hid han
        clear hwc hpc hnl hst han HS3 HB3 HN3 hpl
        go_upto_region 9 with fail
        clear e0 e1 e2 e3 e4 e5 e6 e7 e8
        generalize wr.alloc (.cells #[.int .i64 kd, .int .i64 key, .int .i64 hi2, .int .i64 val, .int .i64 er, .int .i64 rv, .slice ap ps.length cp, .int .i64 ov, .int .i64 rs] 35 (0, 0)) = W0 at *
        generalize wr.heap.size = B at *
        have HCI := Lib.hid hci
        have HS6 := Lib.hid hs6
        have HN6 := Lib.hid hn6
        have HB6 := Lib.hid hb6
        have HBK := Lib.hid hbk
        clear hci hs6 hn6 hb6 hbk
        obtain ⟨cond, hcond⟩ : ∃ cond, cond = (decide (kd = 1) && decide (er = 0) && !decide (key ∈ mine) && !answersD (St.steps s0 (ops.take q)) ⟨kd, key, hi2, val, er, rv, ps, ov, rs⟩) := ⟨_, rfl⟩
        have HCO := Lib.hid hcond
        clear hcond
        go_cut [59] from 36 to 59 (fun s59 wx => s59 = .bool cond ∧ Below W0.heap.size W0 wx)
        case first =>
          --{c1
          as_aux_lemma =>
            have hcond := HCO.out
            have hmi := HMI.out.1 key
            have hrun := smap_run Try.underlying65 HN6.out HWC.out.key
            have f0 := blk_cell HBK.out 0
            have f1 := blk_cell HBK.out 1
            have f2 := blk_cell HBK.out 2
            have f3 := blk_cell HBK.out 3
            have f4 := blk_cell HBK.out 4
            have f5 := blk_cell HBK.out 5
            have f6 := blk_cell HBK.out 6
            have f7 := blk_cell HBK.out 7
            have f8 := blk_cell HBK.out 8
            simp at f0 f1 f2 f3 f4 f5 f6 f7 f8
            have hans := answers_any HCI.out HS6.out HNL.out HWC.out HPC.out
            generalize answersD (St.steps s0 (ops.take q)) ⟨kd, key, hi2, val, er, rv, ps, ov, rs⟩ = an at hans hcond
            have HANS := Lib.hid hans
            clear hans
            by_cases h1 : kd = 1
            · have g1 := bq_t h1
              rw [dec_t h1] at hcond
              by_cases h0 : er = 0
              · have g0 := bq_t h0
                rw [dec_t h0] at hcond
                by_cases hm : key ∈ mine
                · rw [if_pos hm] at hmi
                  rw [hmi] at hrun
                  rw [dec_t hm] at hcond
                  have HC := Lib.hid (show cond = false from hcond)
                  clear h1 h0 hm hcond hmi
                  go_wp2_with fail
                  go_meet
                  case rel => exact ⟨by rw [HC.out], Below.refl _ _⟩
                · rw [if_neg hm] at hmi
                  rw [hmi] at hrun
                  rw [dec_f hm] at hcond
                  clear h1 h0 hm hmi
                  cases an
                  · have HC := Lib.hid (show cond = true from hcond)
                    clear hcond
                    go_wp2_with fail
                    refine HANS.out.mono ?_
                    rintro e w7 ⟨rfl, hb7⟩
                    have HB7 := Lib.hid hb7
                    clear hb7 HANS
                    go_wp2_with fail
                    go_meet
                    case rel => exact ⟨by rw [HC.out], HB7.out⟩
                  · have HC := Lib.hid (show cond = false from hcond)
                    clear hcond
                    go_wp2_with fail
                    refine HANS.out.mono ?_
                    rintro e w7 ⟨rfl, hb7⟩
                    have HB7 := Lib.hid hb7
                    clear hb7 HANS
                    go_wp2_with fail
                    go_meet
                    case rel => exact ⟨by rw [HC.out], HB7.out⟩
              · have g0 := bq_f h0
                rw [dec_f h0] at hcond
                have HC := Lib.hid (show cond = false from hcond)
                clear h1 h0 hcond hmi hrun
                go_wp2_with fail
                go_meet
                case rel => exact ⟨by rw [HC.out], Below.refl _ _⟩
            · have g1 := bq_f h1
              rw [dec_f h1] at hcond
              have HC := Lib.hid (show cond = false from hcond)
              clear h1 hcond hmi hrun
              go_wp2_with fail
              go_meet
              case rel => exact ⟨by rw [HC.out], Below.refl _ _⟩
          --}c1
        case rest =>
        obtain ⟨rfl, hwc⟩ := hcut
        have hbk := below_keep hwc HBK.out
        have f0 := blk_cell hbk 0
        have f1 := blk_cell hbk 1
        have f2 := blk_cell hbk 2
        have f3 := blk_cell hbk 3
        have f4 := blk_cell hbk 4
        have f5 := blk_cell hbk 5
        have f6 := blk_cell hbk 6
        have f7 := blk_cell hbk 7
        have f8 := blk_cell hbk 8
        simp at f0 f1 f2 f3 f4 f5 f6 f7 f8
        have hb7 := bl_next HB6.out hwc
        have HB7 := Lib.hid hb7
        have HBK7 := Lib.hid hbk
        have hci7 := HCI.out.later hwc
        have HCI7 := Lib.hid hci7
        have hs7 := HS6.out.later hwc
        have HS7 := Lib.hid hs7
        have hn7 := HN6.out.later hwc
        have HN7 := Lib.hid hn7
        have hwr := wrote_any hci7
        have HWR := Lib.hid hwr
        clear hwc hbk hb7 hci7 hs7 hn7 hwr HCI HS6 HN6 HB6 HBK
        cases cond
        · obtain ⟨wt, hwt⟩ : ∃ wt, Cl.wrote ⟨kd, key, hi2, val, er, rv, ps, ov, rs⟩ = wt := ⟨_, rfl⟩
          have han := HAN.out
          have hwrr := HWR.out
          rw [← HCO.out, hwt] at han
          rw [hwt] at hwrr
          have HAN2 := Lib.hid han
          have HWR2 := Lib.hid hwrr
          clear han hwrr hwt HAN HWR
          cases wt
          · --{c2
            go_wp2_with fail
            refine HWR2.out.mono ?_
            rintro e w8 ⟨rfl, hb8⟩
            have hput := put_any (HCI7.out.later hb8) (HS7.out.later hb8) HWC.out (Nat.lt_of_le_of_lt HNL.out (by unfold maxLen; omega))
            have hbk := below_keep hb8 HBK7.out
            have g0 := blk_cell hbk 0
            have g1 := blk_cell hbk 1
            have g2 := blk_cell hbk 2
            have g3 := blk_cell hbk 3
            have g4 := blk_cell hbk 4
            have g5 := blk_cell hbk 5
            have g6 := blk_cell hbk 6
            have g7 := blk_cell hbk 7
            have g8 := blk_cell hbk 8
            simp at g0 g1 g2 g3 g4 g5 g6 g7 g8
            have hb9 := bl_next HB7.out hb8
            have hn8 := HN7.out.later hb8
            have HPUT := Lib.hid hput
            have HB9 := Lib.hid hb9
            have HN8 := Lib.hid hn8
            clear hput hbk hb9 hb8 hn8 f0 f1 f2 f3 f4 f5 f6 f7 f8 HWR2
            go_wp2_with fail
            refine HPUT.out.mono ?_
            rintro e w9 ⟨rfl, hs9, hm9⟩
            have HS9 := Lib.hid hs9
            have HB10 : Hid (Below w.heap.size w w9) := Lib.hid (HB9.out.trans (hm9.below (fun k hk => by rw [hk]; exact HMG.out) HB9.out.size))
            have HN9 := Lib.hid (HN8.out.mod hm9 (fun e => HNE.out e.symm))
            clear hs9 hm9 HPUT g0 g1 g2 g3 g4 g5 g6 g7 g8
            have hfw := HFW.out
            go_wp2_with fail
            go_roundg (ops.length - (q + 1))
            case rel => exact ⟨q + 1, ms, mine, by go_num, by omega, by omega, Lib.hid (by rw [HST.out]; exact HS9.out), Lib.hid ⟨HN9.out, HMI.out.1, Nat.le_succ_of_le HMI.out.2⟩, HB10, Lib.hid (by rw [HA.out, HAN2.out, HST.out]; rfl)⟩
            case measure => omega
            --}c2
          · --{c3
            go_wp2_with fail
            refine HWR2.out.mono ?_
            rintro e w8 ⟨rfl, hb8⟩
            have hbk := below_keep hb8 HBK7.out
            have g1 := blk_cell hbk 1
            simp at g1
            have HBK8 := Lib.hid hbk
            have HB8 := Lib.hid hb8
            have hb9 := bl_next HB7.out hb8
            have HB9 := Lib.hid hb9
            have hn8 := HN7.out.later hb8
            have HN8 := Lib.hid hn8
            have HBl : Hid (B ≠ mn) := Lib.hid fun e => by
              obtain ⟨es, ck, hh, _⟩ := hn8.own
              rw [← e, hbk] at hh
              cases hh
            have HWO : Hid ((Lit.int .i64 1).wf = true) := Lib.hid (by decide)
            clear hbk hb8 hb9 hn8 f0 f1 f2 f3 f4 f5 f6 f7 f8 HWR2
            go_upto_region 13 with (at_mapUpdate; refine smap_update rfl _ _ _ rfl Try.underlying65 rfl HN8.out (Nat.lt_of_le_of_lt (Nat.le_trans HMI.out.2 (Nat.le_trans hq HFW.out)) (by unfold maxLen; omega)) rfl HWC.out.key rfl HWO.out ?_; intro w9 hs9 hm9)
            have hbk9 := hm9.keep HBK8.out (fun e => HBl.out e)
            have h0 := blk_cell hbk9 0
            have h1 := blk_cell hbk9 1
            have h2 := blk_cell hbk9 2
            have h3 := blk_cell hbk9 3
            have h4 := blk_cell hbk9 4
            have h5 := blk_cell hbk9 5
            have h6 := blk_cell hbk9 6
            have h7 := blk_cell hbk9 7
            have h8 := blk_cell hbk9 8
            simp at h0 h1 h2 h3 h4 h5 h6 h7 h8
            have hb10 : Below w.heap.size w w9 := HB9.out.trans (hm9.below (fun k hk => by rw [hk]; exact HNG.out) HB9.out.size)
            have hs10 := (HS7.out.later HB8.out).mod hm9 (fun e => HNE.out e)
            have hcl10 : CallIs w9 (.agg #[.int .i64 kd, .int .i64 key, .int .i64 hi2, .int .i64 val, .int .i64 er, .int .i64 rv, .slice ap ps.length cp, .int .i64 ov, .int .i64 rs]) ⟨kd, key, hi2, val, er, rv, ps, ov, rs⟩ := ⟨_, rfl, HPW.out.later hb10⟩
            have hput := put_any hcl10 hs10 HWC.out (Nat.lt_of_le_of_lt HNL.out (by unfold maxLen; omega))
            have HPUT := Lib.hid hput
            have HB10 := Lib.hid hb10
            have HS9 := Lib.hid hs9
            clear hput hb10 hs10 hcl10 hs9 hm9 hbk9 g1
            go_wp2_with fail
            refine HPUT.out.mono ?_
            rintro e w10 ⟨rfl, hs11, hm11⟩
            have HS11 := Lib.hid hs11
            have HB11 : Hid (Below w.heap.size w w10) := Lib.hid (HB10.out.trans (hm11.below (fun k hk => by rw [hk]; exact HMG.out) HB10.out.size))
            have HN11 := Lib.hid (HS9.out.mod hm11 (fun e => HNE.out e.symm))
            clear hs11 hm11 HPUT h0 h1 h2 h3 h4 h5 h6 h7 h8
            have hfw := HFW.out
            go_wp2_with fail
            go_roundg (ops.length - (q + 1))
            case rel => exact ⟨q + 1, ms.put key 1, key :: mine, by go_num, by omega, by omega, Lib.hid (by rw [HST.out]; exact HS11.out), Lib.hid ⟨HN11.out, HMI.out.1.put key, Nat.le_trans (St.put_length _ _ _) (Nat.succ_le_succ HMI.out.2)⟩, HB11, Lib.hid (by rw [HA.out, HAN2.out, HST.out]; rfl)⟩
            case measure => omega
            --}c3
        · --{c4
          have han := HAN.out
          rw [← HCO.out] at han
          have HAN2 := Lib.hid han
          clear han
          go_wp2_with fail
          go_ret
          exact ⟨by rw [HA.out, HAN2.out]; rfl, HB7.out⟩
          --}c4
      · obtain rfl : q = ops.length := by omega
        have hd3 : decide (ops.length < ops.length) = false := by simp
        have ha := HA.out
        rw [List.drop_length] at ha
        have HA2 := Lib.hid ha
        clear ha hql
        go_wp2_with fail
        go_ret
        exact ⟨by rw [HA2.out]; rfl, HB3.out⟩
end Go.Proofs.Ytpohehialkgigaa
