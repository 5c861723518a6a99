/- keys, overlap, Writers. -/
import Derived.Test.YtpohehialkgigaaAN
import Derived.Maps.RangeWalk
namespace Go.Proofs.Ytpohehialkgigaa
open Go.RowKit
/-- A map that has just the keys of a list, each with 1. -/
def Keyset (s : St) (l : List Int) : Prop := ∀ k, s.get k = if k ∈ l then some 1 else none
theorem Keyset.nil : Keyset [] [] := fun k => by simp [St.get]
theorem Keyset.put {s : St} {l : List Int} (h : Keyset s l) (k : Int) : Keyset (s.put k 1) (l ++ [k]) := fun x => by
  rw [St.get_put]
  by_cases hx : x = k
  · subst hx; simp
  · rw [if_neg hx, h x]
    simp [hx]
def keysK (l : List Cl) (q : Nat) : List Int := ((l.take q).filter Cl.wrote).map (·.key)
theorem keysK_succ {l : List Cl} {q : Nat} (hq : q < l.length) : keysK l (q + 1) = keysK l q ++ (if (l.getD q cl0).wrote then [(l.getD q cl0).key] else []) := by
  have e : l.getD q cl0 = l[q] := by simp [List.getD_eq_getElem?_getD, hq]
  unfold keysK
  rw [List.take_succ_eq_append_getElem hq, List.filter_append, List.map_append, e]
  cases hw : (l[q]).wrote <;> simp [hw]
set_option maxRecDepth 100000 in
set_option maxHeartbeats 3200000 in
theorem keys_any {w : World} {dv : Value} {d : Dl} (hd : DealIs w dv d) (hw : d.wf) :
    Calls Try.prog 40 #[dv] w fun e w' => ∃ m s, e = .returned (.map (some m)) ∧ w.heap.size ≤ m ∧ SMap w' m s ∧ Keyset s (keysD d) ∧ Below w.heap.size w w' := by
  obtain ⟨ov, rfl, hops⟩ := hd
  obtain ⟨ao, co, rfl, -⟩ := hops.form
  obtain ⟨id, lv, st, bg, en, ops⟩ := d
  obtain ⟨-, -, wops, wfew⟩ := hw
  simp only [Dl.cells]
  dsimp only at hops wops wfew
  have hk : keysD ⟨id, lv, st, bg, en, ops⟩ = keysK ops ops.length := by unfold keysD keysK; rw [List.take_length]
  rw [hk]
  have HOPS := Lib.hid hops
  have WOPS := Lib.hid wops
  have HFW := Lib.hid wfew
  have hb0 : Below w.heap.size w ((w.alloc (.cells #[.int .i64 id, .int .i64 lv, .int .i64 st, .int .u64 bg, .int .u64 en, .slice ao ops.length co] 25 (0, 0))).alloc (.map #[] 0)) := bl_alloc (bl_alloc (Below.refl _ _) _) _
  have hm0 := SMap.new (w.alloc (.cells #[.int .i64 id, .int .i64 lv, .int .i64 st, .int .u64 bg, .int .u64 en, .slice ao ops.length co] 25 (0, 0)))
  have hsz : (w.alloc (.cells #[.int .i64 id, .int .i64 lv, .int .i64 st, .int .u64 bg, .int .u64 en, .slice ao ops.length co] 25 (0, 0))).heap.size = w.heap.size + 1 := by simp
  rw [hsz] at hm0
  clear hsz
  have hng : w.heap.size ≤ w.heap.size + 1 := Nat.le_succ _
  have c5 : ((w.alloc (.cells #[.int .i64 id, .int .i64 lv, .int .i64 st, .int .u64 bg, .int .u64 en, .slice ao ops.length co] 25 (0, 0))).alloc (.map #[] 0)).cell? ⟨w.heap.size, 5, none⟩ = some (.slice ao ops.length co) := by
    rw [blk_cell (blk_alloc (blk_new _ _))]
    rfl
  clear hops wops wfew hk
  have hmm := @run_makeMap Try.prog
  go_enter Try.func40, Try.ntmps40
  go_upto_region 2 with fail
  clear hmm
  generalize (w.alloc (.cells #[.int .i64 id, .int .i64 lv, .int .i64 st, .int .u64 bg, .int .u64 en, .slice ao ops.length co] 25 (0, 0))).alloc (.map #[] 0) = w5 at *
  generalize w.heap.size + 1 = mn at *
  have HM := Lib.hid hm0
  have HB5 := Lib.hid hb0
  have HNG := Lib.hid hng
  clear hm0 hb0 hng
  go_wp2_with fail
  clear c5
  go_loopg [10] ops.length (fun kx qv wr => ∃ (q : Nat) (ms : St), qv = .int .i64 q ∧ q ≤ ops.length ∧ ops.length - q ≤ kx ∧ Hid (SMap wr mn ms ∧ Keyset ms (keysK ops q) ∧ ms.length ≤ q) ∧ Hid (Below w.heap.size w wr))
  case atStart => exact ⟨0, [], rfl, Nat.zero_le _, by omega, Lib.hid ⟨HM.out, Keyset.nil, Nat.le_refl _⟩, HB5⟩
  case round =>
    obtain ⟨q, ms, rfl, hq, hqx, HN3, HB3⟩ := hrel
    clear HM HB5
    have s0' : (0 : Int) ≤ (q : Int) := by omega
    by_cases hql : q < ops.length
    · have s1 : (q : Int) < (ops.length : Int) := by omega
      obtain ⟨cb, coff, ccap, pv, hcv, hcb, hccs, hps⟩ := HOPS.out.at_ hql
      simp only [Value.slice.injEq, true_and] at hcv
      obtain ⟨rfl, rfl⟩ := hcv
      obtain ⟨ap, cp, rfl, -⟩ := hps.form
      have hcc := fun x hx => (HB3.out.cell (p := ⟨cb, coff + q * 9 + x, none⟩) hcb).trans (hccs x hx)
      have hkk := keysK_succ hql
      have hwc := WOPS.out _ (getC_mem hql)
      have hpl := hps.later HB3.out
      clear hccs hps
      generalize ops.getD q cl0 = c at *
      obtain ⟨kd, key, hi2, val, er, rv, ps, ov, rs⟩ := c
      have e0 := hcc 0 (by decide)
      have e1 := hcc 1 (by decide)
      have e2 := hcc 2 (by decide)
      have e3 := hcc 3 (by decide)
      have e4 := hcc 4 (by decide)
      have e5 := hcc 5 (by decide)
      have e6 := hcc 6 (by decide)
      have e7 := hcc 7 (by decide)
      have e8 := hcc 8 (by decide)
      clear hcc
      simp [Cl.cells] at e0 e1 e2 e3 e4 e5 e6 e7 e8
      dsimp only at hpl hkk
      have hwr := fun o : Obj => wrote_any ((show CallIs wr (.agg #[.int .i64 kd, .int .i64 key, .int .i64 hi2, .int .i64 val, .int .i64 er, .int .i64 rv, .slice ap ps.length cp, .int .i64 ov, .int .i64 rs]) ⟨kd, key, hi2, val, er, rv, ps, ov, rs⟩ from ⟨_, rfl, hpl⟩).later (bl_alloc (Below.refl _ _) o))
      have HBK : Hid (∀ W : World, Below (wr.alloc (.cells #[.int .i64 kd, .int .i64 key, .int .i64 hi2, .int .i64 val, .int .i64 er, .int .i64 rv, .slice ap ps.length cp, .int .i64 ov, .int .i64 rs] 35 (0, 0))).heap.size (wr.alloc (.cells #[.int .i64 kd, .int .i64 key, .int .i64 hi2, .int .i64 val, .int .i64 er, .int .i64 rv, .slice ap ps.length cp, .int .i64 ov, .int .i64 rs] 35 (0, 0))) W → W.heap[wr.heap.size]? = some (.cells #[.int .i64 kd, .int .i64 key, .int .i64 hi2, .int .i64 val, .int .i64 er, .int .i64 rv, .slice ap ps.length cp, .int .i64 ov, .int .i64 rs] 35 (0, 0))) := Lib.hid fun W hW => below_keep hW (blk_new _ _)
      have HBA : Hid (∀ o : Obj, Below w.heap.size w (wr.alloc o)) := Lib.hid fun o => bl_alloc HB3.out o
      have HMA : Hid (∀ o : Obj, SMap (wr.alloc o) mn ms) := Lib.hid fun o => HN3.out.1.later (bl_alloc (Below.refl _ _) o)
      obtain ⟨wt, hwt⟩ : ∃ wt, Cl.wrote ⟨kd, key, hi2, val, er, rv, ps, ov, rs⟩ = wt := ⟨_, rfl⟩
      rw [hwt] at hkk hwr
      have HWR := Lib.hid hwr
      have HKK := Lib.hid hkk
      have HWC := Lib.hid hwc
      clear hwt hkk hwr hwc hpl
      cases wt
      · go_wp2_with fail
        refine (HWR.out _).mono ?_
        rintro e w8 ⟨rfl, hb8⟩
        have HB9 := Lib.hid (bl_next (HBA.out _) hb8)
        have HN9 := Lib.hid ((HMA.out _).later hb8)
        clear hb8 HWR HBK HMA
        have hfw := HFW.out
        go_wp2_with fail
        go_roundg (ops.length - (q + 1))
        case rel => exact ⟨q + 1, ms, by go_num, by omega, by omega, Lib.hid ⟨HN9.out, by rw [HKK.out]; simpa using HN3.out.2.1, Nat.le_succ_of_le HN3.out.2.2⟩, HB9⟩
        case measure => omega
      · go_wp2_with fail
        refine (HWR.out _).mono ?_
        rintro e w8 ⟨rfl, hb8⟩
        have hbk := HBK.out _ hb8
        have g1 := blk_cell hbk 1
        simp at g1
        have HB9 := Lib.hid (bl_next (HBA.out _) hb8)
        have HN9 := Lib.hid ((HMA.out _).later hb8)
        have HWO : Hid ((Lit.int .i64 1).wf = true) := Lib.hid (by decide)
        have HNL : Hid (ms.length < maxLen) := Lib.hid (Nat.lt_of_le_of_lt (Nat.le_trans HN3.out.2.2 (Nat.le_trans hq HFW.out)) (by unfold maxLen; omega))
        clear hb8 hbk HWR HBK HMA
        go_upto_region 7 with (at_mapUpdate; refine smap_update rfl _ _ _ rfl Try.underlying65 rfl HN9.out HNL.out rfl HWC.out.key rfl HWO.out ?_; intro w9 hs9 hm9)
        have HS9 := Lib.hid hs9
        have HB10 : Hid (Below w.heap.size w w9) := Lib.hid (HB9.out.trans (hm9.below (fun k hk => by rw [hk]; exact HNG.out) HB9.out.size))
        clear hs9 hm9 g1
        have hfw := HFW.out
        go_wp2_with fail
        go_roundg (ops.length - (q + 1))
        case rel => exact ⟨q + 1, ms.put key 1, by go_num, by omega, by omega, Lib.hid ⟨HS9.out, by rw [HKK.out]; exact HN3.out.2.1.put key, Nat.le_trans (St.put_length _ _ _) (Nat.succ_le_succ HN3.out.2.2)⟩, HB10⟩
        case measure => omega
    · obtain rfl : q = ops.length := by omega
      have hd3 : decide (ops.length < ops.length) = false := by simp
      clear hql
      go_wp2_with fail
      go_ret
      exact ⟨mn, ms, rfl, HNG.out, HN3.out.1, HN3.out.2.1, HB3.out⟩
theorem has_of_at {s : St} {x c : Int} (h : ∀ zd, (stD s).atKey (.int .i64 x) zd = .lit (.int .i64 c)) : (s.get x).isSome = true := by
  have h1 := h (.lit (.bool true))
  unfold stD DataW.atKey at h1
  simp only [st_find] at h1
  unfold St.get
  cases hf : s.find? fun p => decide (p.1 = x) with
  | none => rw [hf] at h1; simp at h1
  | some p => rfl
theorem struck (left : Lit → Bool) {x k : Int} (h : (left (.int .i64 k) && !(Lit.int .i64 k).sameKey (.int .i64 x)) = false) : k = x ∨ left (.int .i64 k) = false := by
  rw [Bool.and_eq_false_iff] at h
  rcases h with h | h
  · exact .inr h
  · left
    simpa [Lit.sameKey] using h
end Go.Proofs.Ytpohehialkgigaa
