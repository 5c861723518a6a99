/- SweepKeeps holds: of a row of versions, each ended where the next begins, those are left that somebody who lives at the lowest time, or later, may see. No condition. -/
import Derived.Test.YtjojbfgppgnmjaaN10
import Derived.Test.YtjojbfgppgnmjaaN9
namespace Go.Proofs.Ytjojbfgppgnmjaa
open Go.RowKit Go.ChangeShapes

/-- The row of versions as far as it was made: their ends, oldest first; where the last one ends. -/
structure KP (i : Nat) (last : Int) (ends : List Int) (R : List Ver) : Prop where
  len : R.length = i
  elen : ends.length = i
  en : R.map Ver.en = ends.reverse
  beg : ∀ v ∈ R, 1 ≤ v.beg ∧ v.beg ≤ 1000
  ens : ∀ v ∈ R, 1 ≤ v.en ∧ v.en ≤ 1000
  l0 : 1 ≤ last
  l1 : last ≤ 1 + 8 * i
theorem KP.new : KP 0 1 [] [] := ⟨rfl, rfl, rfl, fun v h => by simp at h, fun v h => by simp at h, by decide, by decide⟩
theorem KP.more {i : Nat} {last x key val : Int} {ends : List Int} {R : List Ver} (h : KP i last ends R) (hi : i < 20) (h0 : 0 ≤ x) (h1 : x < 8) : KP (i + 1) (last + 1 + x) (ends ++ [last + 1 + x]) (⟨key, val, last, last + 1 + x, 0⟩ :: R) where
  len := by simp [h.len]
  elen := by simp [h.elen]
  en := by simp [h.en]
  beg := fun v hv => by
    have := h.l0
    have := h.l1
    rcases List.mem_cons.1 hv with rfl | hv
    · exact ⟨by simp only; omega, by simp only; omega⟩
    · exact h.beg v hv
  ens := fun v hv => by
    have := h.l0
    have := h.l1
    rcases List.mem_cons.1 hv with rfl | hv
    · exact ⟨by simp only; omega, by simp only; omega⟩
    · exact h.ens v hv
  l0 := by have := h.l0; omega
  l1 := by have := h.l1; omega
theorem KP.dead {i : Nat} {last low : Int} {ends : List Int} {R : List Ver} {L : Int → Tx × Bool} (h : KP i last ends R) {v : Ver} (hv : v ∈ R) : deadB L low v.beg v.en = decide (v.en ≤ low) := by
  have h1 := h.beg v hv
  have h2 := h.ens v hv
  rw [dead_time (by omega), garb_time (by omega)]
  simp [h2.1]
theorem KP.count {i : Nat} {last low : Int} {ends : List Int} {R : List Ver} {L : Int → Tx × Bool} (h : KP i last ends R) : (R.filter fun v => deadB L low v.beg v.en).length = (ends.filter fun e => decide (e ≤ low)).length := by
  have e1 : (R.filter fun v => deadB L low v.beg v.en) = R.filter fun v => decide (v.en ≤ low) := List.filter_congr fun v hv => h.dead hv
  have e2 : (R.filter fun v => decide (v.en ≤ low)).length = ((R.map Ver.en).filter fun e => decide (e ≤ low)).length := by
    rw [List.filter_map, List.length_map]
    rfl
  rw [e1, e2, h.en, List.filter_reverse, List.length_reverse]
theorem filter_rest {α : Type} (p : α → Bool) (l : List α) : (l.filter p).length + (l.filter fun a => !p a).length = l.length := by
  induction l with
  | nil => rfl
  | cons a l ih =>
    cases h : p a
    · simp [h]; omega
    · simp [h]; omega
theorem dead_ever {L : Int → Tx × Bool} {low b : Int} (hb : b ≤ 1099511627776) : deadB L low b 2305843009213693952 = false := by
  rw [dead_time hb]
  exact garb_no (by decide)
theorem RowAt.cell_ {k : IntKind} {w : World} {a : Option Addr} {n cap : Nat} {l : List Int} (h : RowAt k w (.slice a n cap) l) {i : Nat} (hi : i < l.length) (hn : n = l.length) : ∃ b off, a = some ⟨b, off, none⟩ ∧ b < w.heap.size ∧ ∀ j, j < l.length → w.cell? ⟨b, off + j, none⟩ = some (.int k (l.getD j 0)) := by
  rcases h with ⟨rfl, _⟩ | ⟨b, off, cap', hv, _, _, hb, hc⟩
  · simp at hi
  · simp only [Value.slice.injEq] at hv
    obtain ⟨rfl, _, _⟩ := hv
    exact ⟨b, off, rfl, hb, hc⟩

set_option maxRecDepth 100000 in
set_option maxHeartbeats 3200000 in
theorem sweepKeeps_walk {a0 : Option Addr} {len0 cap0 : Nat} {a1 : Int} {l0 : List Int} {w : World} (n0 : l0.length = len0) (r0 : RowAt .i64 w (.slice a0 len0 cap0) l0) (_w0 : ∀ x ∈ l0, (Lit.int .i64 x).wf = true) (_w1 : (Lit.int .u64 a1).wf = true) :
    Calls Try.prog 13 #[.slice a0 len0 cap0, .int .u64 a1] w fun e w' => e = .returned (.bool true) ∧ Below w.heap.size w w' := by
  subst n0
  have m1 := u64_and127 a1
  obtain ⟨low, hlow⟩ : ∃ x, a1 % 128 = x := ⟨_, rfl⟩
  rw [hlow] at m1
  have q1 : 0 ≤ low ∧ low < 128 := by omega
  clear hlow
  have HK := Lib.hid r0
  have HM := Lib.hid (cr_made (Sep.nil w) 40 (by decide) (by decide))
  clear r0
  go_enter Try.func13, Try.ntmps13
  go_wp2_with fail
  refine HM.out.mono ?_
  rintro e w1 ⟨cb, sb, ab, rfl, hW⟩
  have H1 := Lib.hid (hW.row_nil .u64 28)
  clear hW HM
  go_wp2_with fail
  go_loopw [7, 8, 9] (fun lv ev iv wr => ∃ (i : Nat) (last : Int) (ends : List Int) (R : List Ver), i ≤ 20 ∧ iv = .int .i64 i ∧ lv = .int .u64 last ∧ KP i last ends R ∧ CR w cb sb ab 40 0 R i [obRow .u64 28 ev ends] wr) (fun _ _ iv _ => 20 - (intOf iv).toNat)
  case atStart => exact ⟨0, 1, [], [], by decide, rfl, rfl, KP.new, H1.out⟩
  case round =>
    obtain ⟨i, last, ends, R, hi, rfl, rfl, hkp, hW⟩ := hrel
    have HW := Lib.hid hW
    have HKP := Lib.hid hkp
    have l0' := hkp.l0
    have l1' := hkp.l1
    clear hW hkp H1
    by_cases hin : i < l0.length ∧ i < 20
    · obtain ⟨h1, h2⟩ := hin
      obtain ⟨b0, o0, rfl, g0, c0⟩ := (HK.out.later HW.out.bel).cell_ h1 rfl
      have d0 := c0 i h1
      clear c0
      have m7 := i64_and7 (l0.getD i 0)
      obtain ⟨x, hx⟩ : ∃ x, l0.getD i 0 % 8 = x := ⟨_, rfl⟩
      rw [hx] at m7
      have x0 : 0 ≤ x ∧ x < 8 := by omega
      clear hx
      generalize l0.getD i 0 = k0 at *
      have e1 : IntKind.u64.wrap (last + 1) = last + 1 := by rw [IntKind.wrap_u64]; omega
      have e2 : IntKind.u64.wrap x = x := by rw [IntKind.wrap_u64]; omega
      have e3 : IntKind.u64.wrap (last + 1 + x) = last + 1 + x := by rw [IntKind.wrap_u64]; omega
      have HKM := Lib.hid (HKP.out.more (key := 3) (val := i) h2 x0.1 x0.2)
      have hel : ends.length + 1 ≤ 1099511627776 := by have := HKP.out.elen; omega
      go_wp2_with fail
      refine (cr_make HW.out (by omega) (by decide) (by decide) (by omega) (by omega)).mono ?_
      rintro e w2 ⟨z, rfl, z0, z1, hW⟩
      have H2 := Lib.hid hW
      clear hW
      go_wp2_with fail
      refine (cr_push H2.out).mono ?_
      rintro e w3 ⟨rfl, hW⟩
      have H3 := Lib.hid hW.forget
      clear hW H2
      go_wp2_with (at_builtin; refine walk_append (zero := .int .u64 0) (base := 0) (n := ends.length) (m := 1) (xs := ends.map (Value.int .u64)) (ys := [.int .u64 (last + 1 + x)]) rfl _ _ rfl Try.underlying22 info_u64 rfl Nat.zero_lt_one (Nat.le_of_ble_eq_true rfl) rfl (World.ownsRow.alloc H3.out.front _) rfl (SrcAt.one (blk_at (by simp))) (ints_one .u64 [_]) hel (Nat.zero_le _) ?_)
      intro v' w5 hA
      have H5 := Lib.hid (H3.out.turn (A' := obRow .u64 28 v' (ends ++ [last + 1 + x])) (fun K hS => hS.append (ys := [last + 1 + x]) ((Mod.refl _ _).alloc _) hA rfl rfl))
      clear hA H3
      go_wp2_with fail
      go_roundw
      case rel => exact ⟨i + 1, last + 1 + x, ends ++ [last + 1 + x], _, by omega, by go_num, rfl, HKM.out, H5.out⟩
      case measure => simp [intOf]; omega
    · have hd : (l0.length : Int) ≤ i ∨ ((i : Int) < l0.length ∧ i = 20) := by omega
      clear hin
      obtain ⟨ea, ec, hev, hen0⟩ : ∃ a cap, u8 = .slice a ends.length cap ∧ (0 < ends.length → ∃ g, a = some ⟨g, 0, none⟩) := by
        obtain ⟨a, cap, h, _⟩ := Owned.form (HW.out.front : Owned .u64 _ _ u8 ends)
        refine ⟨a, cap, h, fun hl => ?_⟩
        have := HW.out.front
        rw [h] at this
        exact some_of this hl
      subst hev
      have HE0 := Lib.hid hen0
      clear hen0
      have hcnt := Lib.hid (HKP.out.count (L := noneL) (low := low))
      rcases hd with hd | ⟨hd, rfl⟩
      all_goals
        go_wp2_with fail
        refine (ref_forever _).mono ?_
        rintro e w2 ⟨rfl, rfl⟩
        go_wp2_with fail
        refine (cr_make HW.out (by omega) (key := 3) (v := 99) (x := last) (y := 2305843009213693952) (by decide) (by decide) (by decide) (by decide)).mono ?_
        rintro e w2 ⟨z, rfl, z0, z1, hW⟩
        have H2 := Lib.hid hW
        clear hW HW
        go_wp2_with fail
        refine (cr_push H2.out).mono ?_
        rintro e w3 ⟨rfl, hW⟩
        have H3 := Lib.hid hW.forget
        have HC := Lib.hid (cr_chain H3.out low .nilFunc noneL (by
          intro v hv
          rcases List.mem_cons.1 hv with rfl | hv
          · simp only [Ver.wf]; omega
          · have h1 := HKP.out.beg v hv
            have h2 := HKP.out.ens v hv
            simp only [Ver.wf]; omega) (fun W' _ _ _ _ => tells_nil W') (by decide) (by have := HKP.out.len; simp; omega))
        have hf1 : ((⟨3, 99, last, 2305843009213693952, 0⟩ : Ver) :: R).filter (fun v => deadB noneL low v.beg v.en) = R.filter fun v => deadB noneL low v.beg v.en := List.filter_cons_of_neg (by simp [dead_ever (L := noneL) (low := low) (b := last) (by omega)])
        have hf2 : ((⟨3, 99, last, 2305843009213693952, 0⟩ : Ver) :: R).filter (fun v => !(deadB noneL low v.beg v.en)) = ⟨3, 99, last, 2305843009213693952, 0⟩ :: R.filter fun v => !(deadB noneL low v.beg v.en) := List.filter_cons_of_pos (by simp [dead_ever (L := noneL) (low := low) (b := last) (by omega)])
        rw [hf1, hf2, hcnt.out] at HC
        have hrest := Lib.hid (filter_rest (fun v => deadB noneL low v.beg v.en) R)
        rw [hcnt.out, HKP.out.len] at hrest
        clear hW H2 H3 hf1 hf2
        obtain ⟨RR, hRR⟩ : ∃ RR, (R.filter fun v => !(deadB noneL low v.beg v.en)) = RR := ⟨_, rfl⟩
        rw [hRR] at HC hrest
        clear hRR
        have hwant := Lib.hid (swD_all (D := fun e => decide (e ≤ low)) (L := ends))
        obtain ⟨c, hc⟩ : ∃ c, (ends.filter fun e => decide (e ≤ low)).length = c := ⟨_, rfl⟩
        rw [hc] at HC hrest hwant
        clear hc hcnt
        have helen := HKP.out.elen
        go_wp2_with fail
        refine HC.out.mono ?_
        rintro e w4 ⟨u', hu', rfl, hW⟩
        have H4 := Lib.hid hW
        clear hW HC hu'
        go_wp2_with fail
        go_loopw [17, 18] (fun nv iv wr => ∃ (j : Nat), j ≤ ends.length ∧ iv = .int .i64 j ∧ nv = .int .i64 (swD (fun e => decide (e ≤ low)) ends j) ∧ wr = w4) (fun _ iv _ => ends.length - (intOf iv).toNat)
        case atStart => exact ⟨0, Nat.zero_le _, rfl, by rw [swD_zero]; rfl, rfl⟩
        case round =>
          obtain ⟨j, hj, rfl, rfl, rfl⟩ := hrel
          by_cases hlt : j < ends.length
          · obtain ⟨ga, rfl⟩ := HE0.out (by omega)
            have hrc : wr.cell? ⟨ga, j, none⟩ = some (.int .u64 (ends.getD j 0)) := Owned.at_ (H4.out.front : Owned .u64 _ _ _ ends) hlt
            have hsd := swD_le (D := fun e => decide (e ≤ low)) (L := ends) (j := j)
            have x3 : IntKind.i64.wrap ((swD (fun e => decide (e ≤ low)) ends j : Int) + 1) = (swD (fun e => decide (e ≤ low)) ends j : Int) + 1 := IntWalk.i64_in _ (by omega)
            by_cases hle : ends.getD j 0 ≤ low
            · have HN := Lib.hid (swD_yes (D := fun e => decide (e ≤ low)) (L := ends) hlt (decide_eq_true hle))
              generalize ends.getD j 0 = y at *
              go_wp2_with fail
              go_roundw
              case rel => exact ⟨j + 1, by omega, by go_num, by rw [HN.out]; go_num, by trivial⟩
              case measure => simp [intOf]; omega
            · have HN := Lib.hid (swD_no (D := fun e => decide (e ≤ low)) (L := ends) hlt (decide_eq_false hle))
              generalize ends.getD j 0 = y at *
              go_wp2_with fail
              go_roundw
              case rel => exact ⟨j + 1, by omega, by go_num, by rw [HN.out], by trivial⟩
              case measure => simp [intOf]; omega
          · obtain rfl : j = ends.length := by omega
            rw [hwant.out]
            have HKept := Lib.hid (cr_kept H4.out (by decide))
            have hrr := hrest.out
            clear hlt hj
            go_wp2_with fail
            refine HKept.out.mono ?_
            rintro e w5 ⟨ma, mc, ml, rfl, hsame, hW⟩
            have H5 := Lib.hid hW
            obtain ⟨g, rfl⟩ : ∃ g, ma = some ⟨g, 0, none⟩ := by
              obtain ⟨a', c', hv, ⟨rfl, h0⟩ | ⟨g', cur, rfl, _⟩⟩ := (hW.front : VersAt _ _ _)
              · have := hsame.1
                rw [h0] at this
                simp at this
              · simp only [Value.slice.injEq] at hv
                exact ⟨g', hv.1⟩
            have hm0 : w5.cell? ⟨g, 1, none⟩ = some (.int .i64 99) := by
              have h1 := VersAt.cell (hW.front : VersAt _ _ _) (i := 0) (q := 1) (by rw [hsame.1]; simp) (by decide)
              have h2 := (hsame.2 0 (by simp)).2.1
              rw [show 0 * 5 + 1 = 1 from rfl] at h1
              rw [h1]
              show some (Value.int .i64 (ml.getD 0 ver0).val) = _
              rw [h2]
              rfl
            clear hW hsame HKept
            simp only [List.length_cons] at *
            have hq : ((RR.length + 1 : Nat) : Int) = (ends.length : Int) - c + 1 := by omega
            generalize RR.length + 1 = q at *
            have y1 : IntKind.i64.wrap ((ends.length : Int) - c) = (ends.length : Int) - c := IntWalk.i64_in _ (by omega)
            have y2 : IntKind.i64.wrap ((ends.length : Int) - c + 1) = (ends.length : Int) - c + 1 := IntWalk.i64_in _ (by omega)
            have y3 : ((q : Int) == (ends.length : Int) - c + 1) = true := by simpa using hq
            have y4 : (0 : Int) < q := by omega
            go_wp2_with fail
            refine (awake22_any _).mono ?_
            rintro e w6 ⟨rfl, hb6⟩
            go_wp2_with fail
            go_ret
            exact ⟨rfl, bl_next H5.out.bel hb6⟩
end Go.Proofs.Ytjojbfgppgnmjaa
