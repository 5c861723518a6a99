/- at: what is there at a time. -/
import Derived.Test.YtpohehialkgigaaAH
namespace Go.Proofs.Ytpohehialkgigaa
open Go.RowKit

/-- A row of integers of the call's own, all of it new since there were B blocks. -/
def NewRow (B : Nat) (w : World) (v : Value) (l : List Int) : Prop := w.ownsRow B 3 1 v l.length (l.map (Value.int .i64))
theorem NewRow.nil (B : Nat) (w : World) : NewRow B w (.slice none 0 0) [] := World.ownsRow_nil _ _ _ _
theorem NewRow.owned {B : Nat} {w : World} {v : Value} {l : List Int} (h : NewRow B w v l) : Owned .i64 3 w v l := by
  refine ⟨h.1, ?_⟩
  rcases h.2 with h | ⟨g, cap, cur, h1, _, r⟩
  · exact .inl h
  · exact .inr ⟨g, cap, cur, h1, Nat.zero_le _, r⟩
theorem NewRow.ge {B : Nat} {w : World} {v : Value} {l : List Int} (h : NewRow B w v l) : ∀ g, v.ownBlock = some g → B ≤ g := fun g hg => (World.ownsRow.lt h g hg).1
theorem NewRow.mod {B : Nat} {w w1 : World} {F : Nat → Prop} {v : Value} {l : List Int} (h : NewRow B w v l) (hm : Mod F w w1) (hF : ∀ g, v.ownBlock = some g → ¬ F g) : NewRow B w1 v l := ownsRow_mod h hm hF
theorem NewRow.later {B : Nat} {w w1 : World} {v : Value} {l : List Int} (h : NewRow B w v l) (hb : Below w.heap.size w w1) : NewRow B w1 v l := h.mod (Mod.of_below (F := fun _ => False) hb) (fun _ _ h => h)
theorem NewRow.app {B : Nat} {W w' : World} {v v' : Value} {l : List Int} {x : Int} {m : Nat} {zs : List Value} (hA : Appended W w' B 3 1 v v' m zs) (hm : m = l.length + 1) (hz : zs = l.map (Value.int .i64) ++ [.int .i64 x]) : NewRow B w' v' (l ++ [x]) := by
  have := hA.own
  unfold NewRow
  rw [List.length_append, List.map_append]
  subst hm hz
  exact this
theorem app_below {B : Nat} {W w' : World} {v v' : Value} {l : List Int} {m : Nat} {zs : List Value} {w1 : World} (h : NewRow B W v l) (hA : Appended W w' B 3 1 v v' m zs) (hb : Below B w1 W) (hBW : B ≤ W.heap.size) : Below B w1 w' :=
  hb.trans ((hA.mod (F := fun i => B ≤ i) (fun k hk => h.ge k hk)).below (fun _ hk => hk) hBW)

def selK (l : List Dl) (when without : Int) (k : Nat) : List Nat := (List.range k).filter fun i => pick when without i (l.getD i dl0)
theorem selK_yes {l : List Dl} {when without : Int} {k : Nat} (h : pick when without k (l.getD k dl0) = true) : selK l when without (k + 1) = selK l when without k ++ [k] := by
  unfold selK
  rw [List.range_succ, List.filter_append]
  simp only [List.filter_cons, h, List.filter_nil, if_true]
theorem selK_no {l : List Dl} {when without : Int} {k : Nat} (h : pick when without k (l.getD k dl0) = false) : selK l when without (k + 1) = selK l when without k := by
  unfold selK
  rw [List.range_succ, List.filter_append]
  simp only [List.filter_cons, h, List.filter_nil, Bool.false_eq_true, if_false, List.append_nil]
theorem selK_len (l : List Dl) (when without : Int) (k : Nat) : (selK l when without k).length ≤ k := by
  have := List.length_filter_le (fun i => pick when without i (l.getD i dl0)) (List.range k)
  simpa [selK] using this
theorem selK_lt {l : List Dl} {when without : Int} {k i : Nat} (h : i ∈ selK l when without k) : i < k := by
  have := (List.mem_filter.1 h).1
  simpa using this
def selF (l : List Dl) (when without : Int) : List (Fin l.length) := (selK l when without l.length).pmap (fun i h => ⟨i, h⟩) fun _ h => selK_lt h
theorem selF_ints (l : List Dl) (when without : Int) : (selF l when without).map (fun i => ((i.val : Nat) : Int)) = (selK l when without l.length).map fun i => ((i : Nat) : Int) := by
  simp [selF, List.map_pmap]
theorem selF_deals (l : List Dl) (when without : Int) : (selF l when without).map (fun i => l.getD i.val dl0) = sel l when without := by
  unfold selF
  rw [List.map_pmap]
  exact List.pmap_eq_map (f := fun i => l.getD i dl0) _

/-- The state behind the first k Deals of an order. -/
def after (l : List Dl) (js : List (Fin l.length)) (k : Nat) : St := (js.take k).foldl (fun s i => St.steps s (l.getD i.val dl0).ops) []
theorem after_succ {l : List Dl} {js : List (Fin l.length)} {k : Nat} (hk : k < js.length) : after l js (k + 1) = St.steps (after l js k) (l.getD (js[k]'hk).val dl0).ops := by
  unfold after
  rw [List.take_succ_eq_append_getElem hk, List.foldl_append]
  rfl
theorem after_len {l : List Dl} (hw : ∀ d ∈ l, d.wf) (js : List (Fin l.length)) : ∀ k, k ≤ js.length → (after l js k).length ≤ k * 1000
  | 0, _ => by simp [after]
  | k + 1, hk => by
    have ih := after_len hw js k (by omega)
    rw [after_succ (by omega)]
    have h1 := St.steps_length (l.getD (js[k]'(by omega)).val dl0).ops (after l js k)
    have h2 := (hw (l.getD (js[k]'(by omega)).val dl0) (by rw [List.getD_eq_getElem?_getD]; simp)).few
    omega
theorem after_all {l : List Dl} {when without : Int} {js : List (Fin l.length)} (hp : js.Perm (selF l when without)) (hs : js.Pairwise (fun a b => (l.getD a.val dl0).en ≤ (l.getD b.val dl0).en)) (hu : (sel l when without).Pairwise fun a b => a.en ≠ b.en) : after l js js.length = atD l when without := by
  unfold after atD
  rw [List.take_length]
  have h1 : (js.map fun i => l.getD i.val dl0) = srt (sel l when without) := by
    refine srt_only ?_ (List.pairwise_map.2 hs) hu
    rw [← selF_deals]
    exact hp.map _
  rw [← h1, List.foldl_map]
theorem steps_succ {s : St} {l : List Cl} {q : Nat} (hq : q < l.length) : St.steps s (l.take (q + 1)) = (St.steps s (l.take q)).step (l.getD q cl0) := by
  unfold St.steps
  rw [List.take_succ_eq_append_getElem hq, List.foldl_append]
  simp [List.getD_eq_getElem?_getD, hq]
theorem bn_t {a b : Int} (h : ¬ a = b) : (a != b) = true := by simp [h]
theorem bn_f {a b : Int} (h : a = b) : (a != b) = false := by simp [h]
theorem some_at {k : IntKind} {E : TypeId} {w : World} {a : Option Addr} {n cap : Nat} {l : List Int} (h : Owned k E w (.slice a n cap) l) (hl : 0 < l.length) : ∃ g, a = some ⟨g, 0, none⟩ := by
  obtain ⟨a', cap', hv, _, h1, h2⟩ := h.form
  simp only [Value.slice.injEq] at hv
  obtain ⟨rfl, rfl, rfl⟩ := hv
  cases a with
  | none => exact absurd (h1 rfl).1 (by omega)
  | some g => exact ⟨g.block, by rw [(h2 g rfl).1]⟩
set_option maxRecDepth 100000 in
set_option maxHeartbeats 6400000 in
theorem at_any {w : World} {v : Value} {l : List Dl} {when without : Int} (h : DealsAt w v l) (hl : l.length ≤ 19) (hwf : ∀ d ∈ l, d.wf) (hu : (sel l when without).Pairwise fun a b => a.en ≠ b.en) :
    Calls Try.prog 32 #[v, .int .u64 when, .int .i64 without] w fun e w' => ∃ m, e = .returned (.map (some m)) ∧ w.heap.size ≤ m ∧ SMap w' m (atD l when without) ∧ Below w.heap.size w w' := by
  obtain ⟨a, cap, rfl, hcap⟩ := h.form
  have b01 : Below w.heap.size w (w.alloc (.cells #[.slice a l.length cap] 37 (0, 0))) := bl_alloc (Below.refl _ _) _
  have h1 := h.later b01
  have hbx : (w.alloc (.cells #[.slice a l.length cap] 37 (0, 0))).cell? ⟨w.heap.size, 0, none⟩ = some (.slice a l.length cap) := by rw [blk_cell (blk_new _ _)]; rfl
  have hB0 : w.heap.size < (w.alloc (.cells #[.slice a l.length cap] 37 (0, 0))).heap.size := by simp
  have HU := Lib.hid hu
  have HWF := Lib.hid hwf
  clear h hu hwf
  go_enter Try.func32, Try.ntmps32
  go_upto_region 2 with fail
  generalize w.alloc (.cells #[.slice a l.length cap] 37 (0, 0)) = w1 at *
  have HSZ := Lib.hid b01.size
  have H01 := Lib.hid b01
  clear b01
  generalize w.heap.size = B0 at hbx hB0 ⊢
  have HD := Lib.hid h1
  have HBX := Lib.hid hbx
  have HB0 := Lib.hid hB0
  clear h1 hB0
  go_wp2_with fail
  clear hbx
  go_loopg [7, 17] l.length (fun kx ov kv wr => ∃ k : Nat, kv = .int .i64 k ∧ k ≤ l.length ∧ l.length - k ≤ kx ∧ Hid (NewRow w1.heap.size wr ov ((selK l when without k).map fun i => ((i : Nat) : Int))) ∧ Hid (Below w1.heap.size w1 wr))
  case atStart => exact ⟨0, rfl, Nat.zero_le _, by omega, Lib.hid (NewRow.nil _ _), Lib.hid (Below.refl _ _)⟩
  case round =>
    obtain ⟨k, rfl, hk, hkx, HO, HB⟩ := hrel
    have q0 : (0 : Int) ≤ (k : Int) := by omega
    by_cases hlt : k < l.length
    · --{a1
      have q1 : (k : Int) < (l.length : Int) := by omega
      obtain ⟨b, off, cap', dv, hv, hb, hcs, hops⟩ := (HD.out.later HB.out).at_ hlt
      obtain ⟨ao, co, rfl, -⟩ := hops.form
      clear hops
      simp only [Value.slice.injEq, true_and] at hv
      obtain ⟨rfl, rfl⟩ := hv
      have HY := Lib.hid (selK_yes (l := l) (when := when) (without := without) (k := k))
      have HNO := Lib.hid (selK_no (l := l) (when := when) (without := without) (k := k))
      have hpk : pick when without k (l.getD k dl0) = (!decide ((k : Int) = without) && decide ((l.getD k dl0).state = 3) && decide ((l.getD k dl0).en ≤ when)) := rfl
      rw [hpk] at HY HNO
      clear hpk
      generalize (l.getD k dl0).ops.length = nops at *
      generalize l.getD k dl0 = d at *
      obtain ⟨did, dlv, dst, dbg, den, dops⟩ := d
      have c0 := hcs 0 (by decide)
      have c1 := hcs 1 (by decide)
      have c2 := hcs 2 (by decide)
      have c3 := hcs 3 (by decide)
      have c4 := hcs 4 (by decide)
      have c5 := hcs 5 (by decide)
      clear hcs
      simp [Dl.cells] at c0 c1 c2 c3 c4 c5
      have hlen : ((selK l when without k).map fun i => ((i : Nat) : Int)).length + 1 ≤ 1099511627776 := by
        have := selK_len l when without k
        simp
        omega
      by_cases a1 : (k : Int) = without
      · have e1 := bq_t a1
        have e2 := bn_f a1
        have hs := HNO.out (by simp [a1])
        have HS := Lib.hid hs
        clear a1 hs HY HNO
        go_wp2_with fail
        go_roundg (l.length - (k + 1))
        case rel => exact ⟨k + 1, by go_num, by omega, by omega, Lib.hid (by rw [HS.out]; exact (HO.out.later (bl_alloc (Below.refl _ _) _))), Lib.hid (bl_alloc HB.out _)⟩
        case measure => omega
      · have e1 := bq_f a1
        have e2 := bn_t a1
        by_cases a2 : dst = 3
        · have e3 := bq_t a2
          by_cases a3 : den ≤ when
          · have e4 := dec_t a3
            have hs := HY.out (by simp [a1, a2, a3])
            have HS := Lib.hid hs
            clear a1 a2 a3 hs HY HNO
            go_wp2_with (at_builtin; refine walk_append (zero := .int .i64 0) (base := w1.heap.size) (n := ((selK l when without k).map fun i => ((i : Nat) : Int)).length) (m := 1) (xs := ((selK l when without k).map fun i => ((i : Nat) : Int)).map (Value.int .i64)) (ys := [.int .i64 k]) rfl (.tmp 36) (.tmp 38) rfl Try.underlying51 info_int rfl Nat.zero_lt_one (Nat.le_of_ble_eq_true rfl) rfl (World.ownsRow.alloc (World.ownsRow.alloc HO.out _) _) rfl (SrcAt.one (blk_at (by simp))) (ints_one .i64 [_]) hlen (Nat.le_trans HB.out.size (by simp <;> omega)) ?_)
            intro v' w5 hA5
            have ho5 := NewRow.app (l := (selK l when without k).map fun i => ((i : Nat) : Int)) (x := (k : Int)) hA5 (by simp) (by simp)
            have hb5 := app_below (w1 := w1) (l := (selK l when without k).map fun i => ((i : Nat) : Int)) (World.ownsRow.alloc (World.ownsRow.alloc HO.out _) _) hA5 ((HB.out.alloc HB.out.size _).alloc (by simp; exact Nat.le_succ_of_le HB.out.size) _) (Nat.le_trans HB.out.size (by simp <;> omega))
            have HO5 := Lib.hid ho5
            have HB5 := Lib.hid hb5
            clear hA5 ho5 hb5
            go_wp2_with fail
            go_roundg (l.length - (k + 1))
            case rel => exact ⟨k + 1, by go_num, by omega, by omega, Lib.hid (by rw [HS.out, List.map_append]; exact HO5.out), HB5⟩
            case measure => omega
          · have e4 := dec_f a3
            have hs := HNO.out (by simp [a3])
            have HS := Lib.hid hs
            clear a1 a2 a3 hs HY HNO
            go_wp2_with fail
            go_roundg (l.length - (k + 1))
            case rel => exact ⟨k + 1, by go_num, by omega, by omega, Lib.hid (by rw [HS.out]; exact (HO.out.later (bl_alloc (Below.refl _ _) _))), Lib.hid (bl_alloc HB.out _)⟩
            case measure => omega
        · have e3 := bq_f a2
          have hs := HNO.out (by simp [a2])
          have HS := Lib.hid hs
          clear a1 a2 hs HY HNO
          go_wp2_with fail
          go_roundg (l.length - (k + 1))
          case rel => exact ⟨k + 1, by go_num, by omega, by omega, Lib.hid (by rw [HS.out]; exact (HO.out.later (bl_alloc (Below.refl _ _) _))), Lib.hid (bl_alloc HB.out _)⟩
          case measure => omega
      --}a1
    · --{a2
      obtain rfl : k = l.length := by omega
      have hd : decide (l.length < l.length) = false := by simp
      have hpl := placed_sort (w := wr) (B := B0) (rv := u7) (is := selF l when without) HD.out HB.out HO.out.ge (Nat.lt_of_lt_of_le HB0.out HB.out.size) (fun g hg e => by have := HO.out.ge g hg; have := HB0.out; omega) ((HB.out.cell (p := ⟨B0, 0, none⟩) HB0.out).trans HBX.out) (by rw [selF_ints]; exact HO.out.owned) (by have := selK_len l when without l.length; simp [selF]; omega)
      have HP := Lib.hid hpl
      clear hpl hlt
      go_wp2_with fail
      refine HP.out.mono ?_
      rintro e w3 ⟨rfl, js, hjp, hjs, hjo, hjm⟩
      have hjl : js.length ≤ 19 := by
        rw [hjp.length_eq]
        have := selK_len l when without l.length
        simp [selF]
        omega
      have hb3 : Below w1.heap.size w1 w3 := HB.out.trans (hjm.below (fun k hk => HO.out.ge k hk) HB.out.size)
      have hms := SMap.new w3
      have hne : ∀ g, u7.ownBlock = some g → g ≠ w3.heap.size := fun g hg => Nat.ne_of_lt (hjo.lt g hg)
      obtain ⟨ra, rc, hv, -⟩ := hjo.form
      rw [List.length_map] at hv
      have HALL := Lib.hid (after_all hjp hjs HU.out)
      have hjo4 := hjo.mod (F := fun _ => False) (Mod.of_below (bl_alloc (Below.refl _ _) (.map #[] 0))) (fun _ _ h => h)
      have hb4 := hb3.trans ((Below.refl w1.heap.size w3).alloc hb3.size (.map #[] 0))
      have hmg : w1.heap.size ≤ w3.heap.size := hb3.size
      clear hjp hjs hjo hjm hb3 HO HP HB
      subst hv
      have hmm := @run_makeMap Try.prog
      go_upto_region 10 with fail
      clear hmm
      generalize w3.alloc (.map #[] 0) = w4 at *
      generalize w3.heap.size = m at *
      have HM := Lib.hid hms
      have HB4 := Lib.hid hb4
      have HO4 := Lib.hid hjo4
      have HNE := Lib.hid hne
      have HMG := Lib.hid hmg
      clear hms hb4 hjo4 hne hmg
      go_wp2_with fail
      go_loopg [47] js.length (fun kx kv wr2 => ∃ k : Nat, kv = .int .i64 k ∧ k ≤ js.length ∧ js.length - k ≤ kx ∧ Hid (SMap wr2 m (after l js k)) ∧ Hid (Below w1.heap.size w1 wr2) ∧ Hid (Owned .i64 3 wr2 (.slice ra js.length rc) (js.map fun i => ((i.val : Nat) : Int))))
      case atStart => exact ⟨0, rfl, Nat.zero_le _, by omega, HM, HB4, HO4⟩
      case round =>
        obtain ⟨k, rfl, hk2, hkx2, HS, HB, HO⟩ := hrel
        clear HM HB4 HO4
        have p0 : (0 : Int) ≤ (k : Int) := by omega
        by_cases hlt : k < js.length
        · have p1 : (k : Int) < (js.length : Int) := by omega
          obtain ⟨g, rfl⟩ := some_at HO.out (by simp; omega)
          have cr := HO.out.at_ (i := k) (by simpa using hlt)
          obtain ⟨i, hi⟩ : ∃ i : Fin l.length, i = js[k] := ⟨_, rfl⟩
          have hri : (js.map fun i => ((i.val : Nat) : Int)).getD k 0 = (i.val : Int) := by
            rw [hi]
            simp [List.getD_eq_getElem?_getD, hlt]
          rw [hri] at cr
          have hsuc := after_succ (l := l) hlt
          rw [← hi] at hsuc
          clear hri hi
          have hil := i.isLt
          generalize i.val = iv at *
          have r0 : (0 : Int) ≤ (iv : Int) := by omega
          have r1 : (iv : Int) < (l.length : Int) := by omega
          obtain ⟨b, off, cap', dv, hv, hb, hcs, hops⟩ := HD.out.at_ hil
          simp only [Value.slice.injEq, true_and] at hv
          obtain ⟨rfl, rfl⟩ := hv
          obtain ⟨ao, co, rfl, -⟩ := hops.form
          have c5 := (HB.out.cell (p := ⟨b, off + iv * 6 + 5, none⟩) hb).trans (hcs 5 (by decide))
          have cb := (HB.out.cell (p := ⟨B0, 0, none⟩) HB0.out).trans HBX.out
          have hwd := HWF.out (l.getD iv dl0) (by rw [List.getD_eq_getElem?_getD]; simp [hil])
          have hln := after_len HWF.out js k hk2
          clear hcs
          generalize (l.getD iv dl0) = d at *
          obtain ⟨did, dlv, dst, dbg, den, ops⟩ := d
          simp [Dl.cells] at c5
          dsimp only at hops hsuc
          obtain ⟨-, -, wops, wfew⟩ := hwd
          dsimp only at wops wfew
          have HOPS := Lib.hid hops
          have HSUC := Lib.hid hsuc
          have WOPS := Lib.hid wops
          have hk19 : k * 1000 ≤ 19000 := by omega
          clear hops hsuc wops
          go_wp2_with fail
          clear cr c5 cb
          go_loopg [57] ops.length (fun kx qv wr3 => ∃ q : Nat, qv = .int .i64 q ∧ q ≤ ops.length ∧ ops.length - q ≤ kx ∧ Hid (SMap wr3 m (St.steps (after l js k) (ops.take q))) ∧ Hid (Below w1.heap.size w1 wr3) ∧ Hid (Owned .i64 3 wr3 (.slice (some ⟨g, 0, none⟩) js.length rc) (js.map fun i => ((i.val : Nat) : Int))))
          case atStart => exact ⟨0, rfl, Nat.zero_le _, by omega, HS, HB, HO⟩
          case round =>
            obtain ⟨q, rfl, hq, hqx, HS3, HB3, HO3⟩ := hrel
            clear HS HB HO
            have s0 : (0 : Int) ≤ (q : Int) := by omega
            by_cases hql : q < ops.length
            · have s1 : (q : Int) < (ops.length : Int) := by omega
              obtain ⟨cb, coff, ccap, pv, hcv, hcb, hccs, hps⟩ := HOPS.out.at_ hql
              simp only [Value.slice.injEq, true_and] at hcv
              obtain ⟨rfl, rfl⟩ := hcv
              obtain ⟨ap, cp, rfl, -⟩ := hps.form
              have hcc := fun x hx => (HB3.out.cell (p := ⟨cb, coff + q * 9 + x, none⟩) hcb).trans (hccs x hx)
              have hst := steps_succ (s := after l js k) hql
              have hwc := WOPS.out (ops.getD q cl0) (by rw [List.getD_eq_getElem?_getD]; simp [hql])
              have hnl : (St.steps (after l js k) (ops.take q)).length < maxLen := by
                have h1 := St.steps_length (ops.take q) (after l js k)
                have h2 : (ops.take q).length ≤ q := by simp; omega
                unfold maxLen
                omega
              have hpl := hps.later HB3.out
              clear hccs hps
              generalize ops.getD q cl0 = c at *
              obtain ⟨kd, key, hi, val, er, rv, ps, ov, rs⟩ := c
              have e0 := hcc 0 (by decide)
              have e1 := hcc 1 (by decide)
              have e2 := hcc 2 (by decide)
              have e3 := hcc 3 (by decide)
              have e4 := hcc 4 (by decide)
              have e5 := hcc 5 (by decide)
              have e6 := hcc 6 (by decide)
              have e7 := hcc 7 (by decide)
              have e8 := hcc 8 (by decide)
              clear hcc
              simp [Cl.cells] at e0 e1 e2 e3 e4 e5 e6 e7 e8
              dsimp only at hpl
              have hput := fun (o : Obj) => put_any (w := wr.alloc o) (b := m) (c := ⟨kd, key, hi, val, er, rv, ps, ov, rs⟩) ⟨_, rfl, hpl.later (bl_alloc (Below.refl _ _) o)⟩ (HS3.out.later (bl_alloc (Below.refl _ _) o)) hwc hnl
              have HPUT := Lib.hid hput
              have HST := Lib.hid hst
              clear hput hst hwc hpl hnl
              go_wp2_with fail
              refine (HPUT.out _).mono ?_
              rintro e w5 ⟨rfl, hs5, hm5⟩
              have HS5 := Lib.hid hs5
              have hb5 : Below w1.heap.size w1 w5 := (HB3.out.alloc HB3.out.size _).trans (hm5.below (fun k hk => by rw [hk]; exact HMG.out) (by simp; exact Nat.le_succ_of_le HB3.out.size))
              have ho5 := (HO3.out.mod (F := fun _ => False) (Mod.of_below (bl_alloc (Below.refl _ _) _)) (fun _ _ h => h)).mod hm5 (fun g hg => HNE.out g hg)
              have HB5 := Lib.hid hb5
              have HO5 := Lib.hid ho5
              clear hs5 hm5 hb5 ho5 HPUT
              go_wp2_with fail
              go_roundg (ops.length - (q + 1))
              case rel => exact ⟨q + 1, by go_num, by omega, by omega, Lib.hid (by rw [HST.out]; exact HS5.out), HB5, HO5⟩
              case measure => omega
            · obtain rfl : q = ops.length := by omega
              have hd3 : decide (ops.length < ops.length) = false := by simp
              have hs6 := HS3.out
              rw [List.take_length, ← HSUC.out] at hs6
              have HS6 := Lib.hid hs6
              clear hs6 hql
              go_wp2_with fail
              go_roundg (js.length - (k + 1))
              case rel => exact ⟨k + 1, by go_num, by omega, by omega, HS6, HB3, HO3⟩
              case measure => omega
        · obtain rfl : k = js.length := by omega
          have hd2 : decide (js.length < js.length) = false := by simp
          have hs7 := HS.out
          rw [HALL.out] at hs7
          have HS7 := Lib.hid hs7
          clear hs7 hlt
          go_wp2_with fail
          go_ret
          exact ⟨m, rfl, Nat.le_trans HSZ.out HMG.out, HS7.out, H01.out.trans (HB.out.mono HSZ.out)⟩
      --}a2
end Go.Proofs.Ytpohehialkgigaa
