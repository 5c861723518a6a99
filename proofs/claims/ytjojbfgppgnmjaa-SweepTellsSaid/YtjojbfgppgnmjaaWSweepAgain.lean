/- SweepAgain holds: swept at one time, and then at a later one, a chain is as if it had been swept at the later one alone. No condition. -/
import Derived.Test.YtjojbfgppgnmjaaN11
import Derived.Test.YtjojbfgppgnmjaaWSweepKeeps
import Derived.Deep.CutRange
import Derived.Deep.CutBlock
import Derived.Deep.DeepCutAuto
namespace Go.Proofs.Ytjojbfgppgnmjaa
open Go.RowKit Go.ChangeShapes

theorem again_left {R : List Ver} {p q : Ver → Bool} (h : ∀ v ∈ R, p v = true → q v = true) : ((R.filter fun v => !p v).filter fun v => !q v) = R.filter fun v => !q v := by
  rw [List.filter_filter]
  refine List.filter_congr fun v hv => ?_
  cases hp : p v
  · simp
  · simp [h v hv hp]
theorem again_count {R : List Ver} {p q : Ver → Bool} (h : ∀ v ∈ R, p v = true → q v = true) : (R.filter p).length + ((R.filter fun v => !p v).filter q).length = (R.filter q).length := by
  rw [List.filter_filter]
  induction R with
  | nil => rfl
  | cons v R ih =>
    have ih := ih (fun v hv => h v (by simp [hv]))
    have hv := h v (by simp)
    cases hp : p v
    · cases hq : q v
      · simp [hp, hq]; omega
      · simp [hp, hq]; omega
    · have := hv hp
      simp [hp, this]; omega
theorem KP.rising {i : Nat} {last a b : Int} {ends : List Int} {R : List Ver} {L : Int → Tx × Bool} (h : KP i last ends R) (hab : a ≤ b) : ∀ v ∈ R, deadB L a v.beg v.en = true → deadB L b v.beg v.en = true := by
  intro v hv h1
  rw [h.dead hv, decide_eq_true_iff] at h1
  rw [h.dead hv, decide_eq_true_iff]
  omega
theorem KP.wf {i : Nat} {last : Int} {ends : List Int} {R : List Ver} (h : KP i last ends R) : ∀ v ∈ R, v.wf := by
  intro v hv
  have h1 := h.beg v hv
  have h2 := h.ens v hv
  simp only [Ver.wf]
  omega
theorem VersAt.some_ {w : World} {a : Option Addr} {n c : Nat} {l : List Ver} (h : VersAt w (.slice a n c) l) (hl : 0 < l.length) : ∃ g, a = some ⟨g, 0, none⟩ := by
  obtain ⟨a', c', hv, ⟨rfl, h0⟩ | ⟨g', cur, rfl, _⟩⟩ := h
  · rw [h0] at hl
    simp at hl
  · simp only [Value.slice.injEq] at hv
    exact ⟨g', hv.1⟩
/-- The five words of a row's version that is like another one. -/
theorem VersAt.like {w : World} {g n c : Nat} {l R : List Ver} (h : VersAt w (.slice (some ⟨g, 0, none⟩) n c) l) (hs : SameAll l R) {i : Nat} (hi : i < R.length) :
    w.cell? ⟨g, i * 5, none⟩ = some (.int .i64 (R.getD i ver0).key) ∧ w.cell? ⟨g, i * 5 + 1, none⟩ = some (.int .i64 (R.getD i ver0).val) ∧ w.cell? ⟨g, i * 5 + 2, none⟩ = some (.int .u64 (R.getD i ver0).beg) ∧ w.cell? ⟨g, i * 5 + 3, none⟩ = some (.int .u64 (R.getD i ver0).en) := by
  have hil : i < l.length := by rw [hs.1]; exact hi
  obtain ⟨s1, s2, s3, s4⟩ := hs.2 i hi
  have h0 := h.cell hil (q := 0) (by decide)
  have h1 := h.cell hil (q := 1) (by decide)
  have h2 := h.cell hil (q := 2) (by decide)
  have h3 := h.cell hil (q := 3) (by decide)
  rw [← s1, ← s2, ← s3, ← s4]
  exact ⟨h0, h1, h2, h3⟩
theorem vgetD_mem {R : List Ver} {i : Nat} (h : i < R.length) : R.getD i ver0 ∈ R := by simp [List.getD_eq_getElem?_getD, h]

set_option maxRecDepth 100000 in
set_option maxHeartbeats 6400000 in
theorem sweepAgain_walk {a0 : Option Addr} {len0 cap0 : Nat} {a1 a2 : Int} {l0 : List Int} {w : World} (n0 : l0.length = len0) (r0 : RowAt .i64 w (.slice a0 len0 cap0) l0) (_w0 : ∀ x ∈ l0, (Lit.int .i64 x).wf = true) (_w1 : (Lit.int .u64 a1).wf = true) (_w2 : (Lit.int .u64 a2).wf = true) :
    Calls Try.prog 11 #[.slice a0 len0 cap0, .int .u64 a1, .int .u64 a2] w fun e w' => e = .returned (.bool true) ∧ Below w.heap.size w w' := by
  subst n0
  have m1 := u64_and127 a1
  have m2 := u64_and127 a2
  obtain ⟨x, hx⟩ : ∃ x, a1 % 128 = x := ⟨_, rfl⟩
  obtain ⟨y, hy⟩ : ∃ y, a2 % 128 = y := ⟨_, rfl⟩
  rw [hx] at m1
  rw [hy] at m2
  have q1 : 0 ≤ x ∧ x < 128 := by omega
  have q2 : 0 ≤ y ∧ y < 128 := by omega
  clear hx hy
  obtain ⟨lo, hi, hle, hgt, hlo, hlh⟩ : ∃ lo hi : Int, (x ≤ y → lo = x ∧ hi = y) ∧ (y < x → lo = y ∧ hi = x) ∧ 0 ≤ lo ∧ lo ≤ hi := by
    by_cases h : x ≤ y
    · exact ⟨x, y, fun _ => ⟨rfl, rfl⟩, fun h2 => by omega, by omega, h⟩
    · exact ⟨y, x, fun h2 => by omega, fun _ => ⟨rfl, rfl⟩, by omega, by omega⟩
  have HK := Lib.hid r0
  have HM := Lib.hid (cr_made (Sep.nil w) 40 (by decide) (by decide))
  clear r0
  go_enter Try.func11, Try.ntmps11
  go_wp2_with fail
  refine HM.out.mono ?_
  rintro e w1 ⟨cb, sb, ab, rfl, hW⟩
  have H1 := Lib.hid hW.toG
  clear hW HM
  go_wp2_with fail
  refine (two_made H1.out (by decide) (by decide)).mono ?_
  rintro e w2 ⟨db, tb, bb, rfl, hW⟩
  have H2 := Lib.hid hW
  clear hW H1
  go_upto_if 47 with fail
  go_cut [1, 2] (fun s1 s2 wx => s1 = .int .u64 lo ∧ s2 = .int .u64 hi ∧ wx = w2)
  case first =>
    by_cases hxy : x ≤ y
    · have he := hle hxy
      go_wp2_with fail
      all_goals
        go_meet
        case rel => exact ⟨by rw [he.1], by rw [he.2], rfl⟩
    · have hxy2 : y < x := by omega
      have he := hgt hxy2
      go_wp2_with fail
      all_goals
        go_meet
        case rel => exact ⟨by rw [he.1], by rw [he.2], rfl⟩
  case rest =>
    obtain ⟨rfl, rfl, rfl⟩ := hcut
    clear hle hgt m1 m2
    go_wp2_with fail
    go_loopw [11, 12] (fun lv iv wr => ∃ (i : Nat) (last : Int) (ends : List Int) (R : List Ver), i ≤ 20 ∧ iv = .int .i64 i ∧ lv = .int .u64 last ∧ KP i last ends R ∧ CR2 w cb sb ab db tb bb (CJ 40 0 R i) (CJ 40 0 R i) [] wr) (fun _ iv _ => 20 - (intOf iv).toNat)
    case atStart => exact ⟨0, 1, [], [], by decide, rfl, rfl, KP.new, H2.out⟩
    case round =>
      obtain ⟨i, last, ends, R, hi20, rfl, rfl, hkp, hW⟩ := hrel
      have HW := Lib.hid hW
      have HKP := Lib.hid hkp
      have l0' := hkp.l0
      have l1' := hkp.l1
      clear hW hkp H2
      by_cases hin : i < l0.length ∧ i < 20
      · obtain ⟨h1, h2⟩ := hin
        obtain ⟨b0, o0, rfl, g0, c0⟩ := (HK.out.later HW.out.bel).cell_ h1 rfl
        have d0 := c0 i h1
        clear c0
        have m7 := i64_and7 (l0.getD i 0)
        obtain ⟨st, hx⟩ : ∃ x, l0.getD i 0 % 8 = x := ⟨_, rfl⟩
        rw [hx] at m7
        have x0 : 0 ≤ st ∧ st < 8 := by omega
        clear hx
        generalize l0.getD i 0 = k0 at *
        have e1 : IntKind.u64.wrap (last + 1) = last + 1 := by rw [IntKind.wrap_u64]; omega
        have e2 : IntKind.u64.wrap st = st := by rw [IntKind.wrap_u64]; omega
        have e3 : IntKind.u64.wrap (last + 1 + st) = last + 1 + st := by rw [IntKind.wrap_u64]; omega
        have HKM := Lib.hid (HKP.out.more (key := 3) (val := i) h2 x0.1 x0.2)
        go_wp2_with fail
        refine (two_make HW.out (by omega) (key := 3) (v := i) (x := last) (y := last + 1 + st) (by decide) (by decide) (by omega) (by omega)).mono ?_
        rintro e w3 ⟨z, ⟨rfl, z0, z1⟩, hW⟩
        have H3 := Lib.hid hW.swap
        clear hW HW
        go_wp2_with fail
        refine (two_make H3.out (by omega) (key := 3) (v := i) (x := last) (y := last + 1 + st) (by decide) (by decide) (by omega) (by omega)).mono ?_
        rintro e w4 ⟨z', ⟨rfl, z0', z1'⟩, hW⟩
        have H4 := Lib.hid hW.swap
        clear hW H3
        go_wp2_with fail
        refine (two_push H4.out).mono ?_
        rintro e w5 ⟨_, rfl, hW⟩
        have H5 := Lib.hid hW.swap
        clear hW H4
        go_wp2_with fail
        refine (two_push H5.out).mono ?_
        rintro e w6 ⟨_, rfl, hW⟩
        have H6 := Lib.hid hW.swap
        clear hW H5
        go_wp2_with fail
        go_roundw
        case rel => exact ⟨i + 1, last + 1 + st, ends ++ [last + 1 + st], _, by omega, by go_num, rfl, HKM.out, H6.out⟩
        case measure => simp [intOf]; omega
      · have hd : (l0.length : Int) ≤ i ∨ ((i : Int) < l0.length ∧ i = 20) := by omega
        clear hin
        have hc1 := Lib.hid (again_count (R := R) (HKP.out.rising (L := noneL) hlh))
        have hc2 := Lib.hid (again_left (R := R) (HKP.out.rising (L := noneL) hlh))
        have hlen := HKP.out.len
        have hle1 := List.length_filter_le (fun v : Ver => !(deadB noneL lo v.beg v.en)) R
        have hle2 := List.length_filter_le (fun v : Ver => deadB noneL lo v.beg v.en) R
        have hle3 := List.length_filter_le (fun v : Ver => deadB noneL hi v.beg v.en) R
        have hle4 := List.length_filter_le (fun v : Ver => !(deadB noneL hi v.beg v.en)) R
        have HC1 := Lib.hid (two_chain HW.out lo HKP.out.wf (by decide) (by omega))
        have HC2 := Lib.hid (fun (w3 : World) (u' : Nat) (h : CR2 w cb sb ab db tb bb (CJ 40 (0 + R.length) (R.filter fun v => !(deadB noneL lo v.beg v.en)) u') (CJ 40 0 R i) [] w3) => two_chain h hi (fun v hv => HKP.out.wf v ((List.mem_filter.1 hv).1)) (by omega) (by omega))
        have HC3 := Lib.hid (fun (w3 : World) (P : RS → List Int → Prop) (h : CR2 w db tb bb cb sb ab (CJ 40 0 R i) P [] w3) => two_chain h hi HKP.out.wf (by decide) (by omega))
        rw [hc2.out] at HC2
        have HG := Lib.hid (fun j (hj : j < (R.filter fun v => !(deadB noneL hi v.beg v.en)).length) => (by
          have hm := vgetD_mem hj
          have h1 := HKP.out.beg _ (List.mem_filter.1 hm).1
          have h2 := (List.mem_filter.1 hm).2
          rw [dead_time (by omega)] at h2
          simpa using h2 : garb ((R.filter fun v => !(deadB noneL hi v.beg v.en)).getD j ver0).en hi = false))
        have HRL := Lib.hid hlen
        clear hle1
        obtain ⟨p, hp⟩ : ∃ p, (R.filter fun v => deadB noneL lo v.beg v.en).length = p := ⟨_, rfl⟩
        obtain ⟨q, hq⟩ : ∃ q, ((R.filter fun v => !(deadB noneL lo v.beg v.en)).filter fun v => deadB noneL hi v.beg v.en).length = q := ⟨_, rfl⟩
        obtain ⟨n, hn⟩ : ∃ n, (R.filter fun v => deadB noneL hi v.beg v.en).length = n := ⟨_, rfl⟩
        obtain ⟨RB, hRB⟩ : ∃ RB, (R.filter fun v => !(deadB noneL hi v.beg v.en)) = RB := ⟨_, rfl⟩
        rw [hp, hq, hn] at hc1
        rw [hp] at HC1 hle2
        rw [hq, hRB] at HC2
        rw [hn, hRB] at HC3
        rw [hRB] at HG hle4
        rw [hn] at hle3
        have hpq := hc1.out
        clear hp hq hn hRB hc2 hc1
        have y1 : IntKind.i64.wrap ((p : Int) + q) = (p : Int) + q := IntWalk.i64_in _ (by omega)
        have y2 : ((p : Int) + q != (n : Int)) = false := by simp; omega
        rcases hd with hd | ⟨hd, rfl⟩
        all_goals
          go_wp2_with fail
          refine HC1.out.mono ?_
          rintro e w3 ⟨u1, ⟨hu1, rfl⟩, hW⟩
          have HC2' := Lib.hid (HC2.out _ _ hW)
          clear hW HC1
          go_wp2_with fail
          refine HC2'.out.mono ?_
          rintro e w4 ⟨u2, ⟨hu2, rfl⟩, hW⟩
          have HC3' := Lib.hid (HC3.out _ _ hW.swap)
          clear hW HC2 HC2'
          go_wp2_with fail
          refine HC3'.out.mono ?_
          rintro e w5 ⟨u3, ⟨hu3, rfl⟩, hW⟩
          obtain rfl : u2 = u3 := by omega
          have H5 := Lib.hid hW.swap
          clear hW HC3 HC3'
          go_wp2_with fail
          refine (two_kept H5.out (by decide)).mono ?_
          rintro e w6 ⟨⟨xa, xc, xl⟩, ⟨rfl, hs1⟩, hW⟩
          have H6 := Lib.hid hW.swap
          have HS1 := Lib.hid hs1
          clear hW H5 hs1
          go_wp2_with fail
          refine (two_kept H6.out (by decide)).mono ?_
          rintro e w7 ⟨⟨ya, yc, yl⟩, ⟨rfl, hs2⟩, hW⟩
          have H7 := Lib.hid hW.swap
          have HS2 := Lib.hid hs2
          clear hW H6 hs2
          go_wp2_with fail
          refine (two_used H7.out).mono ?_
          rintro e w8 ⟨_, rfl, hW⟩
          have H8 := Lib.hid hW.swap
          clear hW H7
          go_wp2_with fail
          refine (two_used H8.out).mono ?_
          rintro e w9 ⟨_, rfl, hW⟩
          have H9 := Lib.hid hW
          clear hW H8
          simp only at *
          go_wp2_with fail
          go_loopw [26] (fun iv wr => ∃ (j : Nat), j ≤ RB.length ∧ iv = .int .i64 j ∧ Below w9.heap.size w9 wr) (fun iv _ => RB.length - (intOf iv).toNat)
          case atStart => exact ⟨0, Nat.zero_le _, rfl, Below.refl _ _⟩
          case round =>
            obtain ⟨j, hj, rfl, hB⟩ := hrel
            have HB := Lib.hid hB
            have HX := Lib.hid ((H9.out.later hB).mem (A := obVerR (.slice xa RB.length xc) xl) (by simp) : VersAt wr (.slice xa RB.length xc) xl)
            have HY := Lib.hid ((H9.out.later hB).mem (A := obVerR (.slice ya RB.length yc) yl) (by simp) : VersAt wr (.slice ya RB.length yc) yl)
            clear hB
            by_cases hlt : j < RB.length
            · obtain ⟨gx, rfl⟩ := HX.out.some_ (by rw [HS1.out.1]; omega)
              obtain ⟨gy, rfl⟩ := HY.out.some_ (by rw [HS2.out.1]; omega)
              obtain ⟨_, cx1, cx2, cx3⟩ := HX.out.like HS1.out hlt
              obtain ⟨_, cy1, cy2, _⟩ := HY.out.like HS2.out hlt
              have hgb := HG.out j hlt
              generalize RB.getD j ver0 = v at *
              obtain ⟨vk, vv, vb, ve, vx⟩ := v
              simp only at cx1 cx2 cx3 cy1 cy2 hgb
              have z1 : (vv != vv) = false := by simp
              have z2 : (vb != vb) = false := by simp
              have HRG := Lib.hid (fun w => rgarbage_any ve hi w)
              rw [hgb] at HRG
              clear hgb
              go_wp2_with fail
              go_quiet ((go_at_call 43; refine Calls.quiet_of_same ((HRG.out _).mono fun _ _ h => ⟨h.1, h.2.symm⟩)))
              go_wp2_with fail
              go_roundw
              case rel => exact ⟨j + 1, by omega, by go_num, below_drewN HB.out _⟩
              case measure => simp [intOf]; omega
            · go_wp2_with fail
              refine (awake22_any _).mono ?_
              rintro e w10 ⟨rfl, hb10⟩
              go_wp2_with fail
              go_ret
              exact ⟨rfl, bl_next (bl_next H9.out.bel HB.out) hb10⟩
end Go.Proofs.Ytjojbfgppgnmjaa
