/- RecPlays holds: versions are made, turned, led to one another and freed as the document says. No condition. -/
import Derived.Test.YtjojbfgppgnmjaaRB
import Derived.Test.YtjojbfgppgnmjaaF7
import Derived.Deep.CutRange
import Derived.Deep.CutBlock
import Derived.Deep.DeepCutAuto
import Derived.Deep.RegionHeld3
import Derived.Deep.DrawnRows
namespace Go.Proofs.Ytjojbfgppgnmjaa
open Go.RowKit Go.ChangeShapes
attribute [local go_sem ↓] Go.wp_at_zero Go.wp_at_succ

set_option maxRecDepth 100000 in
theorem rec_bad (x : Int) (w : World) (h : x < 1 ∨ 4096 < x) :
    Calls Try.prog 15 #[.int .i64 x] w fun e w' => e = .returned (.tuple #[.pointer none, .int .i64 1]) ∧ w = w' := by
  have hd : decide (x < 1) = true ∨ (decide (x < 1) = false ∧ decide (4096 < x) = true) := by simp; omega
  clear h
  rcases hd with hd | ⟨hd, hd2⟩
  all_goals
    go_enter Try.func15, Try.ntmps15
    go_wp2_with fail
    all_goals
      go_ret2
      exact ⟨rfl, rfl⟩
theorem RQ.op {w0 W : World} {b c : Nat} {ov vv : Value} {told : List Int} {vs : List Ver} {s : RS} {t : PS} (h : RQ w0 b c [] ov told vv vs s t W) (cs : Array Value) (T : TypeId) : RQ w0 b c [obBlk W.heap.size cs T] ov told vv vs s t (W.alloc (.cells cs T (0, 0))) := by
  obtain ⟨F, G, h⟩ := h
  have h2 := h.new (A := obBlk W.heap.size cs T) ((Below.refl _ _).alloc (Nat.le_refl _) _) (blk_new _ _) (fun _ hk => Nat.le_of_eq hk.symm)
  exact ⟨F, G, h2.perm (((((List.Perm.swap _ _ _).trans ((List.Perm.swap _ _ _).cons _))).trans (((List.Perm.swap _ _ _).cons _).cons _)).trans ((((List.Perm.swap _ _ _).cons _).cons _).cons _))⟩
set_option maxRecDepth 100000 in
set_option maxHeartbeats 0 in
theorem recPlays_walk {a0 : Int} {av : Option Addr} {len cap : Nat} {l : List Op8} {w : World} (_w0 : (Lit.int .i64 a0).wf = true) (hlen : l.length = len) (hr : OpAt8 w (.slice av len cap) l) (hwf : ∀ i, (l.getD i op8).wf) :
    Calls Try.prog 7 #[.int .i64 a0, .slice av len cap] w fun e w' => e = .returned (.bool true) ∧ Below w.heap.size w w' := by
  obtain ⟨x, hx⟩ : ∃ x, x = if 20 < a0 ∧ a0 ≤ 4096 then a0 % 20 + 1 else a0 := ⟨_, rfl⟩
  by_cases hbad : x < 1 ∨ 4096 < x
  · have HB1 := Lib.hid (rec_bad x w hbad)
    have hxb : decide (x < 1) = true ∨ (decide (x < 1) = false ∧ decide (4096 < x) = true) := by simp; omega
    clear hr hwf
    have hc : (decide (20 < a0) = false ∧ x = a0) ∨ (decide (20 < a0) = true ∧ decide (a0 ≤ 4096) = false ∧ x = a0) := by
      simp only [decide_eq_true_eq, decide_eq_false_iff_not]
      split at hx <;> omega
    clear hbad hx
    rcases hc with ⟨d1, hxe⟩ | ⟨d1, d2, hxe⟩
    all_goals
      subst hxe
      rcases hxb with d3 | ⟨d3, d4⟩
      all_goals
        go_enter Try.func7, Try.ntmps7
        go_wp2_with fail
        refine HB1.out.mono ?_
        rintro e w1 ⟨rfl, rfl⟩
        go_wp2_with fail
        refine (awake6_any w).mono ?_
        rintro e w1 ⟨rfl, b1⟩
        go_wp2_with fail
        go_ret
        exact ⟨rfl, b1⟩
  · obtain ⟨n, rfl⟩ : ∃ n : Nat, x = n := ⟨x.toNat, by omega⟩
    have n1 : 1 ≤ n := by omega
    have n2 : n ≤ 4096 := by omega
    have HN := Lib.hid (store_new n w n1 n2)
    have HR := Lib.hid (fun W => ref_new n 65535 W n1 n2 (by decide) (by decide))
    clear hbad
    have hc : (20 < a0 ∧ a0 ≤ 4096 ∧ (n : Int) = a0 % 20 + 1) ∨ (¬ 20 < a0 ∧ (n : Int) = a0) := by
      split at hx <;> omega
    clear hx
    have m1 : decide ((n : Int) < 1) = false := by simp; omega
    have m2 : decide (4096 < (n : Int)) = false := by simp; omega
    have HR' := Lib.hid hr
    have HWF := Lib.hid hwf
    have HC := Lib.hid hc
    clear hr hwf hc
    go_enter Try.func7, Try.ntmps7
    go_upto_region 1 with fail
    go_cut [30] from 25 to 30 (fun s30 wx => s30 = .bool (decide (20 < a0 ∧ a0 ≤ 4096)) ∧ wx = w)
    case first =>
      --{c1
      rcases HC.out with ⟨d1, d2, _⟩ | ⟨d1, _⟩
      · have hd := Lib.hid (decide_eq_true (And.intro d1 d2))
        go_wp2_with fail
        go_meet
        case rel => exact ⟨by rw [hd.out], rfl⟩
      · have hd := Lib.hid (decide_eq_false (fun h : 20 < a0 ∧ a0 ≤ 4096 => d1 h.1))
        go_wp2_with fail
        go_meet
        case rel => exact ⟨by rw [hd.out], rfl⟩
      --}c1
    case rest =>
    obtain ⟨rfl, rfl⟩ := hcut
    go_upto_if 30 with fail
    go_cut [0] from 30 to 33 (fun s0 wx => s0 = .int .i64 n ∧ wx = wc)
    case first =>
      --{c2
      rcases HC.out with ⟨d1, d2, d3⟩ | ⟨d1, d3⟩
      · have hd := decide_eq_true (And.intro d1 d2)
        have hp0 : (0 : Int) ≤ a0 := by omega
        have H3 := Lib.hid d3
        clear d3
        go_wp2_with fail
        go_meet
        case rel => exact ⟨by rw [H3.out], rfl⟩
      · have hd := decide_eq_false (fun h : 20 < a0 ∧ a0 ≤ 4096 => d1 h.1)
        have H3 := Lib.hid d3
        clear d3
        go_wp2_with fail
        go_meet
        case rel => exact ⟨by rw [H3.out], rfl⟩
      --}c2
    case rest =>
    obtain ⟨rfl, rfl⟩ := hcut
    clear HC
    rename World => wi
    go_wp2_with fail
    refine HN.out.mono ?_
    rintro e w1 ⟨b, F1, rfl, p1, B1, f1⟩
    have S1 : Hid (Sep wi w1 [obStore b F1 (RS.new n)]) := Lib.hid ((Sep.nil wi).new (A := obStore b F1 (RS.new n)) B1 p1 f1)
    clear p1 B1 f1 HN
    go_wp2_with fail
    refine (HR.out w1).mono ?_
    rintro e w2 ⟨c, G1, rfl, p2, B2, f2⟩
    have S2 : Hid (RQ wi b c [] (.slice none 0 0) [] (.slice none 0 0) [] (RS.new n) (RS.new n).p.listed w2) := Lib.hid ⟨F1, G1, (((S1.out.new (A := obRef c G1 (PS.new n 65535).listed) B2 p2 f2).swap.new (A := obVers (.slice none 0 0) []) (Below.refl _ _) (OwnedV.nil _) (fun g hg => by simp [obVers, Value.ownBlock] at hg)).row_nil _ _)⟩
    clear p2 B2 f2 HR S1
    go_wp2_with fail
    go_loopg [8, 9, 10] 80 (fun kx ov vv iv wr => ∃ (k : Nat) (told : List Int) (vs : List Ver) (s : RS), iv = .int .i64 (k : Int) ∧ k ≤ len ∧ k ≤ 80 ∧ 80 - k ≤ kx ∧ told.length ≤ k ∧ Hid (Told n k s told vs) ∧ Hid (RQ wi b c [] ov told vv vs s s.p.listed wr))
    case atStart => exact ⟨0, [], [], _, rfl, Nat.zero_le _, Nat.zero_le _, by omega, Nat.le_refl _, Lib.hid (Told.new n1 n2), S2⟩
    case round =>
      obtain ⟨k, told, vs, s, rfl, hk, hk2, hkx, htl, HT, HQ⟩ := hrel
      clear S2
      have q0 : (0 : Int) ≤ (k : Int) := by omega
      obtain ⟨ra, rc, hov, hrcap⟩ : ∃ a cap, u8 = .slice a told.length cap ∧ told.length ≤ cap := by
        obtain ⟨a, cap, h, h2, _⟩ := Owned.form HQ.out.row
        exact ⟨a, cap, h, h2⟩
      subst hov
      obtain ⟨va, vc, hvv, hvcap⟩ : ∃ a cap, u9 = .slice a told.length cap ∧ told.length ≤ cap := by
        obtain ⟨a, cap, h, h2, _⟩ := OwnedV.form HQ.out.vers
        rw [HT.out.lens] at h h2
        exact ⟨a, cap, h, h2⟩
      subst hvv
      by_cases hlt : k < len ∧ k < 80
      · obtain ⟨hlt1, hlt2⟩ := hlt
        have q1 : (k : Int) < (len : Int) := by omega
        have q2 : (k : Int) < 80 := by omega
        rcases HR'.out with ⟨h0, _⟩ | ⟨b', off, cap', hv, _, hbl, hc⟩
        · rw [hlen] at h0
          omega
        replace hc := hc k (by rw [hlen]; exact hlt1)
        have cq := fun q hq => (HQ.out.bel.cell (p := ⟨b', off + k * 8 + q, none⟩) hbl).trans (hc q hq)
        rw [hlen] at hv
        simp only [Value.slice.injEq] at hv
        obtain ⟨rfl, _, rfl⟩ := hv
        have hw := HWF.out k
        clear hc
        generalize l.getD k op8 = o at *
        obtain ⟨kd, on, key, val, raw, ol, old, nw⟩ := o
        have z0 := cq 0 (by decide)
        have z1 := cq 1 (by decide)
        have z2 := cq 2 (by decide)
        have z3 := cq 3 (by decide)
        have z4 := cq 4 (by decide)
        have z5 := cq 5 (by decide)
        have z6 := cq 6 (by decide)
        have z7 := cq 7 (by decide)
        simp [Op8.cells] at z0 z1 z2 z3 z4 z5 z6 z7
        clear cq
        obtain ⟨-, -, -, -, wl, wo, wn⟩ := hw
        have bl := bounds_u64 wl
        have bo := bounds_u64 wo
        have bn := bounds_u64 wn
        clear wl wo wn
        dsimp only at bl bo bn
        have HTR := Lib.hid (HT.out.range (by omega) n2)
        have mn := i64_and65535 on
        obtain ⟨nn, hnn, hnn2⟩ : ∃ nn : Nat, on % 65536 = nn ∧ nn < 65536 := ⟨(on % 65536).toNat, by omega, by omega⟩
        rw [hnn] at mn
        clear hnn
        obtain ⟨x, hx⟩ : ∃ x : Int, x = if 0 < told.length ∧ raw = false then told.getD (nn % told.length) 0 else ol := ⟨_, rfl⟩
        have hwhich : (told.length = 0 ∧ x = ol) ∨ (0 < told.length ∧ raw = true ∧ x = ol) ∨ (0 < told.length ∧ raw = false ∧ x = told.getD (nn % told.length) 0) := by
          by_cases h1 : 0 < told.length
          · cases raw with
            | true => exact .inr (.inl ⟨h1, rfl, by rw [hx, if_neg (fun h => by cases h.2)]⟩)
            | false => exact .inr (.inr ⟨h1, rfl, by rw [hx, if_pos ⟨h1, rfl⟩]⟩)
          · exact .inl ⟨by omega, by rw [hx, if_neg (fun h => h1 h.1)]⟩
        have hxr : 0 ≤ x ∧ x ≤ 18446744073709551615 := by
          rcases hwhich with ⟨_, e⟩ | ⟨_, _, e⟩ | ⟨h1, _, e⟩
          · omega
          · omega
          · rw [e]
            refine HTR.out _ ?_
            have := Nat.mod_lt nn h1
            simp [List.getD_eq_getElem?_getD, this]
        clear hx
        have HWH := Lib.hid hwhich
        clear hwhich
        have HQ0 := Lib.hid (HQ.out.op #[.int .i64 kd, .int .i64 on, .int .i64 key, .int .i64 val, .bool raw, .int .u64 ol, .int .u64 old, .int .u64 nw] 51)
        go_upto_region 17 with fail
        generalize hW0 : wr.alloc (.cells #[.int .i64 kd, .int .i64 on, .int .i64 key, .int .i64 val, .bool raw, .int .u64 ol, .int .u64 old, .int .u64 nw] 51 (0, 0)) = W0 at *
        have hbx : W0.heap[wr.heap.size]? = some (.cells #[.int .i64 kd, .int .i64 on, .int .i64 key, .int .i64 val, .bool raw, .int .u64 ol, .int .u64 old, .int .u64 nw] 51 (0, 0)) := by rw [← hW0]; exact blk_new _ _
        generalize hgg : wr.heap.size = g at *
        clear hW0 hgg z0 z1 z2 z3 z4 z5 z6 z7 HQ
        have f1 := blk_cell hbx 1
        have f4 := blk_cell hbx 4
        simp at f1 f4
        have HBX := Lib.hid hbx
        clear hbx
        obtain ⟨cn, hcn⟩ : ∃ cn : Bool, cn = decide (0 < told.length ∧ raw = false) := ⟨_, rfl⟩
        have HCN := Lib.hid hcn
        clear hcn
        go_cut [85] from 78 to 85 (fun s85 wx => s85 = .bool cn ∧ wx = W0)
        case first =>
          --{c3
          as_aux_lemma =>
            by_cases h1 : 0 < told.length
            · have p1 : (0 : Int) < (told.length : Int) := by omega
              cases raw with
              | true =>
                have hd := Lib.hid (decide_eq_false (fun h : 0 < told.length ∧ true = false => by cases h.2))
                clear h1
                go_wp2_with fail
                go_meet
                case rel => exact ⟨by rw [HCN.out, hd.out], rfl⟩
              | false =>
                have hd := Lib.hid (decide_eq_true (And.intro h1 (rfl : false = false)))
                clear h1
                go_wp2_with fail
                go_meet
                case rel => exact ⟨by rw [HCN.out, hd.out], rfl⟩
            · have p1 : ¬ (0 : Int) < (told.length : Int) := by omega
              have hd := Lib.hid (decide_eq_false (fun h : 0 < told.length ∧ raw = false => h1 h.1))
              clear h1
              go_wp2_with fail
              go_meet
              case rel => exact ⟨by rw [HCN.out, hd.out], rfl⟩
          --}c3
        case rest =>
        obtain ⟨rfl, rfl⟩ := hcut
        go_upto_if 85 with fail
        go_cut [12] from 85 to 94 (fun s12 wx => s12 = .int .u64 x ∧ wx = wc)
        case first =>
          --{c4
          as_aux_lemma =>
            rcases HWH.out with ⟨h1, hxe⟩ | ⟨h1, hr3, hxe⟩ | ⟨h1, hr3, hxe⟩
            · obtain rfl : cn = false := HCN.out.trans (decide_eq_false (fun h => by omega))
              clear h1
              have HXE := Lib.hid hxe
              clear hxe
              go_wp2_with fail
              go_meet
              case rel => exact ⟨by rw [HXE.out], rfl⟩
            · obtain rfl : cn = false := HCN.out.trans (decide_eq_false (fun h => by rw [hr3] at h; cases h.2))
              have HXE := Lib.hid hxe
              clear hxe h1 hr3
              go_wp2_with fail
              go_meet
              case rel => exact ⟨by rw [HXE.out], rfl⟩
            · obtain rfl : cn = true := HCN.out.trans (decide_eq_true ⟨h1, hr3⟩)
              obtain ⟨ga, rfl⟩ := some_of HQ0.out.row h1
              have cx := HQ0.out.row.at_ (Nat.mod_lt nn h1)
              rw [← hxe] at cx
              have hq : (nn : Int) % told.length = ((nn % told.length : Nat) : Int) := by simp
              have hqlt : nn % told.length < told.length := Nat.mod_lt _ h1
              have p2 : ((nn % told.length : Nat) : Int) < (told.length : Int) := Int.ofNat_lt.2 hqlt
              have p3 : (0 : Int) ≤ ((nn % told.length : Nat) : Int) := Int.natCast_nonneg _
              have p4 : ((told.length : Int) == 0) = false := beq_eq_false_iff_ne.2 (by omega)
              generalize nn % told.length = q at *
              clear hxe hqlt hr3
              go_wp2_with fail
              go_meet
              case rel => exact ⟨rfl, rfl⟩
          --}c4
        case rest =>
        obtain ⟨rfl, rfl⟩ := hcut
        clear HWH HCN f1 f4 mn hnn2
        go_upto_block 2 with fail
        go_cut [13] from 95 to 107 (fun s13 wx => AtRel told x told.length s13 ∧ wx = wc)
        case first =>
          --{c5
          as_aux_lemma =>
            go_wp2_with fail
            go_loopg [13, 14] told.length (fun kx av kv wr2 => ∃ i : Nat, told.length - i ≤ kx ∧ i ≤ told.length ∧ kv = .int .i64 i ∧ AtRel told x i av ∧ wr2 = wc)
            case atStart => exact ⟨0, by omega, Nat.zero_le _, rfl, AtRel.start _ _, rfl⟩
            case round =>
              obtain ⟨i, hix, hi, rfl, hA, rfl⟩ := hrel
              have HA := Lib.hid hA
              clear hA
              have p0 : (0 : Int) ≤ (i : Int) := by omega
              by_cases hlt : i < told.length
              · have p1 : (i : Int) < (told.length : Int) := by omega
                obtain ⟨ga, rfl⟩ := some_of HQ0.out.row (by omega)
                have cx := HQ0.out.row.at_ hlt
                by_cases hx : told.getD i 0 = x
                · have HX := Lib.hid hx
                  rw [hx] at cx
                  clear hx
                  go_wp2_with fail
                  go_roundg (told.length - (i + 1))
                  case rel => exact ⟨i + 1, by omega, by omega, by go_num, AtRel.hit hlt HX.out, rfl⟩
                  case measure => omega
                · have HX := Lib.hid (HA.out.miss hx)
                  have e : (told.getD i 0 == x) = false := by simpa using hx
                  clear hx HA
                  generalize told.getD i 0 = y at *
                  go_wp2_with fail
                  go_roundg (told.length - (i + 1))
                  case rel => exact ⟨i + 1, by omega, by omega, by go_num, HX.out, rfl⟩
                  case measure => omega
              · have hd : decide (i < told.length) = false := decide_eq_false hlt
                have he : i = told.length := by omega
                have HE := Lib.hid he
                clear he hlt
                go_wp2_with fail
                go_meet
                case rel => exact ⟨by have := HA.out; rw [HE.out] at this; exact this, rfl⟩
          --}c5
        case rest =>
        obtain ⟨hA, rfl⟩ := hcut
        have HA := Lib.hid hA
        clear hA
        go_upto_region 24 with fail
        obtain ⟨lv, hlv⟩ : ∃ lv, s.p.live x = lv := ⟨_, rfl⟩
        have HLV := Lib.hid hlv
        clear hlv
        go_cut [15] from 108 to 114 (fun s15 wx => s15 = .bool lv ∧ wx = wc)
        case first =>
          --{c6
          as_aux_lemma =>
            rcases HA.out.none with ⟨hv, hno⟩ | ⟨j, hj, hv, hjx⟩
            · have HL := Lib.hid (HLV.out.symm.trans (HT.out.stale hno))
              clear hno
              subst hv
              go_wp2_with fail
              go_meet
              case rel => exact ⟨by rw [HL.out], rfl⟩
            · subst hv
              clear hjx
              have p0 : (0 : Int) ≤ (j : Int) := by omega
              have hlv := rq_live HQ0.out hxr.1 hxr.2
              rw [listed_live, HLV.out] at hlv
              have HC := Lib.hid hlv
              clear hlv
              go_wp2_with fail
              refine HC.out.mono ?_
              rintro e w2 ⟨rfl, rfl⟩
              go_wp2_with fail
              go_meet
              case rel => exact ⟨rfl, rfl⟩
          --}c6
        case rest =>
        obtain ⟨rfl, rfl⟩ := hcut
        go_upto_region 25 with fail
        obtain ⟨vb, hvb⟩ : ∃ vb : Bool, vb = decide (0 ≤ val ∧ val ≤ 65535) := ⟨_, rfl⟩
        have HVB := Lib.hid hvb
        clear hvb
        go_cut [16] from 115 to 122 (fun s16 wx => s16 = .bool vb ∧ wx = wc)
        case first =>
          --{c7
          as_aux_lemma =>
            have f3 := blk_cell HBX.out 3
            simp at f3
            by_cases h0 : 0 ≤ val
            · by_cases h1 : val ≤ 65535
              · have hd := Lib.hid (decide_eq_true (And.intro h0 h1))
                go_wp2_with fail
                go_meet
                case rel => exact ⟨by rw [HVB.out, hd.out], rfl⟩
              · have hd := Lib.hid (decide_eq_false (fun h : 0 ≤ val ∧ val ≤ 65535 => h1 h.2))
                go_wp2_with fail
                go_meet
                case rel => exact ⟨by rw [HVB.out, hd.out], rfl⟩
            · have hd := Lib.hid (decide_eq_false (fun h : 0 ≤ val ∧ val ≤ 65535 => h0 h.1))
              go_wp2_with fail
              go_meet
              case rel => exact ⟨by rw [HVB.out, hd.out], rfl⟩
          --}c7
        case rest =>
        obtain ⟨rfl, rfl⟩ := hcut
        have f0 := blk_cell HBX.out 0
        simp at f0
        go_upto_block 4 with fail
        go_cut [8, 9] from 125 to 314 (fun s8 s9 wx => Turn6 wi b c n g #[.int .i64 kd, .int .i64 on, .int .i64 key, .int .i64 val, .bool raw, .int .u64 ol, .int .u64 old, .int .u64 nw] 51 k x u13 s8 s9 wx)
        case first =>
          as_aux_lemma =>
            have hat : s.p.live x = true → ∃ j : Nat, j < told.length ∧ u13 = .int .i64 j ∧ told.getD j 0 = x := fun hl => HA.out.none.resolve_left (fun h => by rw [HT.out.stale h.2] at hl; cases hl)
            have HAT := Lib.hid hat
            have HQL := Lib.hid (HQ0.out.drewN 0)
            clear hat
            skip
            by_cases g0 : kd = 0
            · have e0 : (kd == 0) = true := by simp [g0]
              clear g0
              --{k0
              as_aux_lemma =>
                have f2 := blk_cell HBX.out 2
                have f3 := blk_cell HBX.out 3
                have f6 := blk_cell HBX.out 6
                have f7 := blk_cell HBX.out 7
                simp at f2 f3 f6 f7
                by_cases hb : key < 0 ∨ 63 < key ∨ val < 0 ∨ 65535 < val
                · --{k0a
                  have HM := Lib.hid (rq_make_bad HQ0.out key val old nw hb)
                  have hcs : key < 0 ∨ (¬ key < 0 ∧ 63 < key) ∨ (¬ key < 0 ∧ ¬ 63 < key ∧ vb = false) := by
                    rw [HVB.out, decide_eq_false_iff_not]
                    omega
                  have HCS := Lib.hid hcs
                  clear hb hcs
                  go_wp2_with fail
                  refine HM.out.mono ?_
                  rintro e w2 ⟨rfl, h2⟩
                  have z2 := blk_cell h2.blk 2
                  simp at z2
                  have H2 := Lib.hid h2
                  clear h2 HM f2 f3 f6 f7
                  go_upto_region 29 with fail
                  go_cut [151] from 140 to 151 (fun s151 wx => s151 = .bool true ∧ wx = w2)
                  case first =>
                    have hcs2 : key < 0 ∨ (¬ key < 0 ∧ 63 < key) ∨ (¬ key < 0 ∧ ¬ 63 < key ∧ (!vb) = true) := by
                      rcases HCS.out with h | h | h
                      · exact .inl (by omega)
                      · exact .inr (.inl ⟨by omega, by omega⟩)
                      · exact .inr (.inr ⟨by omega, by omega, by rw [h.2.2]; rfl⟩)
                    rcases hcs2 with hc | ⟨hc, hc2⟩ | ⟨hc, hc2, hc3⟩
                    all_goals
                      go_wp2_with fail
                      go_meet
                      case rel => exact ⟨rfl, rfl⟩
                  case rest =>
                  obtain ⟨rfl, rfl⟩ := hcut
                  go_wp2_with fail
                  go_roundg (80 - (k + 1))
                  case rel => exact ⟨k + 1, told, vs, s, by go_num, by omega, by omega, by omega, by omega, Lib.hid (HT.out.mono (by omega)), Lib.hid H2.out.shut⟩
                  case measure => omega
                  --}k0a
                · have hvb : vb = true := HVB.out.trans (decide_eq_true (by omega))
                  have k0 : 0 ≤ key := by omega
                  have k1 : key ≤ 63 := by omega
                  have v0 : 0 ≤ val := by omega
                  have v1 : val ≤ 65535 := by omega
                  have kk0 : ¬ key < 0 := by omega
                  have kk1 : ¬ 63 < key := by omega
                  clear hb
                  subst hvb
                  by_cases hf : s.p.listed.free = []
                  · --{k0b
                    have HM := Lib.hid (rq_make_full HQ0.out key val old nw k0 k1 v0 v1 hf)
                    have HF := Lib.hid hf
                    clear hf
                    go_wp2_with fail
                    refine HM.out.mono ?_
                    rintro e w2 ⟨rfl, h2⟩
                    have z2 := blk_cell h2.blk 2
                    simp at z2
                    have H2 := Lib.hid (rq_take_full h2 HF.out)
                    clear h2 HM f2 f3 f6 f7
                    go_wp2_with fail
                    refine H2.out.mono ?_
                    rintro e w3 ⟨rfl, h3⟩
                    have H3 := Lib.hid h3
                    clear h3 H2 z2
                    go_wp2_with fail
                    go_meet
                    case rel => exact ⟨told, vs, s.listed, HT.out.listed.mono (by omega), by omega, HA.out.back, by rw [show s.listed.p.listed = s.p.listed from listed_listed _]; exact H3.out⟩
                    --}k0b
                  · --{k0c
                    obtain ⟨fl, i, hf⟩ := HT.out.room.resolve_left hf
                    obtain ⟨z, hz⟩ : ∃ z, s.p.listed.link i = z := ⟨_, rfl⟩
                    have hm := rq_make HQ0.out key val old nw k0 k1 v0 v1 hf
                    have htm := (HT.out.make hf key val old nw).mono (k' := k + 1) (by omega)
                    rw [hz] at hm htm
                    have HM := Lib.hid hm
                    have HTM := Lib.hid htm
                    have HF := Lib.hid hf
                    clear hf hm htm
                    have HZ := Lib.hid hz
                    clear hz
                    go_wp2_with fail
                    refine HM.out.mono ?_
                    rintro e w2 ⟨rfl, h2⟩
                    have z2 := blk_cell h2.blk 2
                    simp at z2
                    have ht2 := rq_take h2 HF.out
                    rw [HZ.out] at ht2
                    have H2 := Lib.hid ht2
                    clear h2 ht2 HM f2 f3 f6 f7
                    go_wp2_with fail
                    refine H2.out.mono ?_
                    rintro e w3 ⟨rfl, h3⟩
                    have H3 := Lib.hid h3
                    clear h3 H2 z2
                    have hl1 : told.length + 1 ≤ 1099511627776 := by omega
                    have hl2 : vs.length + 1 ≤ 1099511627776 := by have := HT.out.lens; omega
                    go_wp2_with (at_builtin; refine walk_append (zero := .int .u64 0) (base := 0) (n := told.length) (m := 1) (xs := told.map (Value.int .u64)) (ys := [.int .u64 z]) rfl (.tmp 173) (.tmp 175) rfl Try.underlying22 info_u64 rfl Nat.zero_lt_one (Nat.le_of_ble_eq_true rfl) rfl (World.ownsRow.alloc H3.out.row _) rfl (SrcAt.one (blk_at (by simp))) (ints_one .u64 [_]) hl1 (Nat.zero_le _) ?_)
                    intro v' w5 hA5
                    try simp only [Act.put, List.setIfInBounds_toArray, List.set_cons_zero, List.set_cons_succ]
                    have h5 := H3.out.app ((Mod.refl _ _).alloc _) hA5 rfl rfl
                    have z2 := blk_cell h5.blk 2
                    have z3 := blk_cell h5.blk 3
                    have z6 := blk_cell h5.blk 6
                    have z7 := blk_cell h5.blk 7
                    simp at z2 z3 z6 z7
                    have H5 := Lib.hid h5
                    clear hA5 h5 H3
                    go_wp2_with (first | (refine wpList_buildVer rfl (.tmp 186) rfl ⟨key, val, old, nw, 0⟩ rfl ?_; simp only [Act.put, List.setIfInBounds_toArray, List.set_cons_zero, List.set_cons_succ]) | (at_builtin; refine walk_append (zero := .agg #[.int .i64 0, .int .i64 0, .int .u64 0, .int .u64 0, .int .u64 0]) (size := 5) (base := 0) (n := vs.length) (m := 1) (xs := verCells vs) (ys := (⟨key, val, old, nw, 0⟩ : Ver).cells) rfl (.tmp 177) (.tmp 187) rfl Try.underlying49 info_ver rfl (by decide) (Nat.le_of_ble_eq_true rfl) rfl (World.ownsRow.alloc H5.out.vers _) rfl (SrcAt.ver (blk_at (by simp))) (ver_one _) hl2 (Nat.zero_le _) ?_))
                    intro v'' w6 hA6
                    try simp only [Act.put, List.setIfInBounds_toArray, List.set_cons_zero, List.set_cons_succ]
                    have H6 := Lib.hid (H5.out.appV (y := ⟨key, val, old, nw, 0⟩) ((Mod.refl _ _).alloc _) hA6 rfl rfl)
                    clear hA6 H5 z2 z3 z6 z7
                    go_wp2_with fail
                    go_meet
                    case rel => exact ⟨_, _, _, HTM.out, by simp; omega, HA.out.back.grow z, by rw [make_listed]; exact H6.out⟩
                    --}k0c
              --}k0
            · have e0 : (kd == 0) = false := beq_eq_false_iff_ne.2 g0
              clear g0
              by_cases g1 : kd = 1
              · have e1 : (kd == 1) = true := by simp [g1]
                clear g1
                --{k1
                as_aux_lemma =>
                  rcases Bool.eq_false_or_eq_true lv with hlt9 | hlt9
                  · have hl : s.p.live x = true := HLV.out.trans hlt9
                    subst hlt9
                    obtain ⟨j, hj, hjv, hjx⟩ := HAT.out hl
                    have hc := rq_free HQ0.out hxr.1 hxr.2
                    rw [if_pos hl, if_pos hl] at hc
                    have HM := Lib.hid hc
                    have HTF := Lib.hid (HT.out.free (by omega) hl)
                    have HFL := Lib.hid (free_listed HQ0.out.ok.1 hl)
                    have htl : s.p.listed.live x = true := by rw [listed_live]; exact hl
                    have HLL := Lib.hid htl
                    clear hc htl hjv hjx
                    clear hl
                    go_wp2_with fail
                    refine HM.out.mono ?_
                    rintro e w2 ⟨rfl, h2⟩
                    have H2 := Lib.hid (rq_give h2 hxr.1 hxr.2 HLL.out)
                    clear h2 HM
                    go_wp2_with fail
                    refine H2.out.mono ?_
                    rintro e w3 ⟨rfl, h3⟩
                    have H3 := Lib.hid h3
                    clear h3 H2
                    go_wp2_with fail
                    go_meet
                    case rel => exact ⟨told, vs, _, HTF.out, by omega, HA.out.back, by rw [HFL.out]; exact H3.out⟩
                  · --{k1n
                    have hl : s.p.live x = false := HLV.out.trans hlt9
                    subst hlt9
                    have hc := rq_free HQ0.out hxr.1 hxr.2
                    rw [if_neg (by rw [hl]; decide), if_neg (by rw [hl]; decide)] at hc
                    have HM := Lib.hid hc
                    clear hc HAT
                    clear hl
                    go_wp2_with fail
                    refine HM.out.mono ?_
                    rintro e w2 ⟨rfl, h2⟩
                    have H2 := Lib.hid h2
                    clear h2 HM
                    go_wp2_with fail
                    go_meet
                    case rel => exact ⟨told, vs, s, HT.out.mono (by omega), by omega, HA.out.back, H2.out⟩
                    --}k1n
                --}k1
              · have e1 : (kd == 1) = false := beq_eq_false_iff_ne.2 g1
                clear g1
                by_cases g2 : kd = 2
                · have e2 : (kd == 2) = true := by simp [g2]
                  clear g2
                  --{k2
                  as_aux_lemma =>
                    rcases Bool.eq_false_or_eq_true lv with hlt9 | hlt9
                    · have hl : s.p.live x = true := HLV.out.trans hlt9
                      subst hlt9
                      obtain ⟨j, hj, hjv, hjx⟩ := HAT.out hl
                      have f3 := blk_cell HBX.out 3
                      simp at f3
                      subst hjv
                      have p0 : (0 : Int) ≤ (j : Int) := by omega
                      have p1 : (j : Int) < (told.length : Int) := by omega
                      by_cases hv : 0 ≤ val ∧ val ≤ 65535
                      · have HM := Lib.hid (rq_set HQ0.out hxr.1 hxr.2 val hl hv.1 hv.2)
                        have hts := HT.out.setv (v := val) hj (by rw [hjx]; exact hl)
                        rw [hjx] at hts
                        have HTS := Lib.hid (hts.mono (k' := k + 1) (by omega))
                        have hjl : j < vs.length := by rw [HT.out.lens]; exact hj
                        have HJL := Lib.hid hjl
                        obtain ⟨gv, hgv⟩ := HQ0.out.someV (Nat.lt_of_le_of_lt (Nat.zero_le j) hjl)
                        subst hgv
                        clear hjl
                        have hvb : vb = true := HVB.out.trans (decide_eq_true hv)
                        clear hts hv hjx HAT
                        subst hvb
                        clear hl
                        go_wp2_with fail
                        refine HM.out.mono ?_
                        rintro e w2 ⟨rfl, h2⟩
                        obtain ⟨cv, fv⟩ := h2.verAt HJL.out (q := 1) (by decide)
                        simp [Ver.cells] at cv
                        have z3 := blk_cell h2.blk 3
                        simp at z3
                        have H2 := Lib.hid (h2.setV HJL.out (q := 1) (by decide) val)
                        clear h2 HM f3
                        go_wp2_with fail
                        go_meet
                        case rel => exact ⟨told, _, _, HTS.out, by omega, HA.out.back, H2.out⟩
                      · have HM := Lib.hid (rq_set_bad HQ0.out hxr.1 hxr.2 val hl hv)
                        have hvb : vb = false := HVB.out.trans (decide_eq_false hv)
                        clear hv hjx HAT
                        subst hvb
                        clear hl
                        go_wp2_with fail
                        refine HM.out.mono ?_
                        rintro e w2 ⟨rfl, h2⟩
                        have H2 := Lib.hid h2
                        clear h2 HM
                        go_wp2_with fail
                        go_meet
                        case rel => exact ⟨told, vs, s, HT.out.mono (by omega), by omega, HA.out.back, H2.out⟩
                    · --{k2n
                      have hl : s.p.live x = false := HLV.out.trans hlt9
                      subst hlt9
                      have f3 := blk_cell HBX.out 3
                      simp at f3
                      have HM := Lib.hid (rq_set_no HQ0.out hxr.1 hxr.2 val hl)
                      clear HAT
                      clear hl
                      go_wp2_with fail
                      refine HM.out.mono ?_
                      rintro e w2 ⟨rfl, h2⟩
                      have H2 := Lib.hid h2
                      clear h2 HM
                      go_wp2_with fail
                      go_meet
                      case rel => exact ⟨told, vs, s, HT.out.mono (by omega), by omega, HA.out.back, H2.out⟩
                      --}k2n
                  --}k2
                · have e2 : (kd == 2) = false := beq_eq_false_iff_ne.2 g2
                  clear g2
                  by_cases g3 : kd = 3
                  · have e3 : (kd == 3) = true := by simp [g3]
                    clear g3
                    --{k3
                    as_aux_lemma =>
                      rcases Bool.eq_false_or_eq_true lv with hlt9 | hlt9
                      · have hl : s.p.live x = true := HLV.out.trans hlt9
                        subst hlt9
                        obtain ⟨j, hj, hjv, hjx⟩ := HAT.out hl
                        have f7 := blk_cell HBX.out 7
                        simp at f7
                        subst hjv
                        have p0 : (0 : Int) ≤ (j : Int) := by omega
                        have p1 : (j : Int) < (told.length : Int) := by omega
                        have hc := rq_next HQ0.out hxr.1 hxr.2 nw
                        rw [if_pos hl, if_pos hl] at hc
                        have HM := Lib.hid hc
                        have hts := HT.out.setw (q := 2) (y := nw) (by decide) hj (by rw [hjx]; exact hl)
                        rw [hjx] at hts
                        have HTS := Lib.hid (hts.mono (k' := k + 1) (by omega))
                        have hjl : j < vs.length := by rw [HT.out.lens]; exact hj
                        have HJL := Lib.hid hjl
                        obtain ⟨gv, hgv⟩ := HQ0.out.someV (Nat.lt_of_le_of_lt (Nat.zero_le j) hjl)
                        subst hgv
                        clear hjl
                        clear hc hts hjx HAT
                        clear hl
                        go_wp2_with fail
                        refine HM.out.mono ?_
                        rintro e w2 ⟨rfl, h2⟩
                        obtain ⟨cv, fv⟩ := h2.verAt HJL.out (q := 4) (by decide)
                        simp [Ver.cells] at cv
                        have z7 := blk_cell h2.blk 7
                        simp at z7
                        have H2 := Lib.hid (h2.setV HJL.out (q := 4) (by decide) nw)
                        clear h2 HM f7
                        go_wp2_with fail
                        go_meet
                        case rel => exact ⟨told, _, _, HTS.out, by omega, HA.out.back, H2.out⟩
                      · --{k3n
                        have hl : s.p.live x = false := HLV.out.trans hlt9
                        subst hlt9
                        have f7 := blk_cell HBX.out 7
                        simp at f7
                        have hc := rq_next HQ0.out hxr.1 hxr.2 nw
                        rw [if_neg (by rw [hl]; decide), if_neg (by rw [hl]; decide)] at hc
                        have HM := Lib.hid hc
                        clear hc HAT
                        clear hl
                        go_wp2_with fail
                        refine HM.out.mono ?_
                        rintro e w2 ⟨rfl, h2⟩
                        have H2 := Lib.hid h2
                        clear h2 HM
                        go_wp2_with fail
                        go_meet
                        case rel => exact ⟨told, vs, s, HT.out.mono (by omega), by omega, HA.out.back, H2.out⟩
                        --}k3n
                    --}k3
                  · have e3 : (kd == 3) = false := beq_eq_false_iff_ne.2 g3
                    clear g3
                    by_cases g4 : kd = 4
                    · have e4 : (kd == 4) = true := by simp [g4]
                      clear g4
                      --{k4
                      as_aux_lemma =>
                        rcases Bool.eq_false_or_eq_true lv with hlt9 | hlt9
                        · have hl : s.p.live x = true := HLV.out.trans hlt9
                          subst hlt9
                          obtain ⟨j, hj, hjv, hjx⟩ := HAT.out hl
                          subst hjv
                          have p0 : (0 : Int) ≤ (j : Int) := by omega
                          have p1 : (j : Int) < (told.length : Int) := by omega
                          obtain ⟨cur, hcu⟩ : ∃ cur, s.ws.getD (slotOf x * 3 + 0) 0 = cur := ⟨_, rfl⟩
                          have hcur : (vs.getD j ver0).cells[2]? = some (.int .u64 cur) := by rw [HT.out.ver hj (by rw [hjx]; exact hl), hjx, ← hcu]; rfl
                          have HCU := Lib.hid hcur
                          have HCE := Lib.hid hcu
                          clear hcur hcu
                          have HL := Lib.hid hl
                          have hts := HT.out.setw (q := 0) (y := nw) (by decide) hj (by rw [hjx]; exact hl)
                          rw [hjx] at hts
                          have HTS := Lib.hid (hts.mono (k' := k + 1) (by omega))
                          have hjl : j < vs.length := by rw [HT.out.lens]; exact hj
                          have HJL := Lib.hid hjl
                          obtain ⟨gv, hgv⟩ := HQ0.out.someV (Nat.lt_of_le_of_lt (Nat.zero_le j) hjl)
                          subst hgv
                          clear hjl
                          have HFL := Lib.hid (fun W s' (h : RQ wi b c [obBlk g #[.int .i64 kd, .int .i64 on, .int .i64 key, .int .i64 val, .bool raw, .int .u64 ol, .int .u64 old, .int .u64 nw] 51] (.slice ra told.length rc) told (.slice (some ⟨gv, 0, none⟩) told.length vc) vs s' s.p.listed W) => (show W.cell? ⟨g, 6, none⟩ = some (.int .u64 old) ∧ W.cell? ⟨g, 7, none⟩ = some (.int .u64 nw) ∧ W.cell? ⟨gv, j * 5 + 2, none⟩ = some (.int .u64 cur) from ⟨(blk_cell h.blk 6).trans (by simp), (blk_cell h.blk 7).trans (by simp), (h.verAt HJL.out (q := 2) (by decide)).1.trans HCU.out⟩))
                          have HDR := Lib.hid HQ0.out.drew
                          clear hts hl hjx HAT HCU
                          by_cases hq : cur = old
                          · --{KYE
                            have HM := Lib.hid (fun W (h : RQ wi b c [obBlk g #[.int .i64 kd, .int .i64 on, .int .i64 key, .int .i64 val, .bool raw, .int .u64 ol, .int .u64 old, .int .u64 nw] 51] (.slice ra told.length rc) told (.slice (some ⟨gv, 0, none⟩) told.length vc) vs s s.p.listed W) => (rq_begin h hxr.1 hxr.2 old nw).mono fun _ _ r => r.yes ⟨HL.out, HCE.out.trans hq⟩)
                            have he : (cur == old) = true := by simp [hq]
                            clear hq
                            go_upto_region 59 with fail
                            go_region_held3 (fun W => W.cell? ⟨g, 6, none⟩ = some (.int .u64 old) ∧ W.cell? ⟨g, 7, none⟩ = some (.int .u64 nw) ∧ W.cell? ⟨gv, j * 5 + 2, none⟩ = some (.int .u64 cur))
                              (first | exact HFL.out _ _ (by assumption) | exact HFL.out _ _ HDR.out)
                              (((with_reducible refine (HM.out _ ?_).mono ?_); (first | assumption | exact HDR.out); rintro e w2 ⟨rfl, hg2⟩))
                            all_goals
                              obtain ⟨z6, z7, zv⟩ := HFL.out _ _ hg2
                              have HG2 := Lib.hid hg2
                              clear hg2
                              go_upto_region 61 with fail
                              go_quiet (fail)
                              have hg3 := HG2.out.drewN nq
                              obtain ⟨z6, z7, zv⟩ := HFL.out _ _ hg3
                              obtain ⟨_, fv⟩ := hg3.verAt HJL.out (q := 2) (by decide)
                              have HG3 := Lib.hid (hg3.setV HJL.out (q := 2) (by decide) nw)
                              clear hg3 HG2
                              generalize World.drewN _ nq = wq at *
                              go_wp2_with fail
                              go_meet
                              case rel => exact ⟨told, _, _, HTS.out, by omega, HA.out.back, HG3.out⟩
                            --}KYE
                          · --{KNE
                            have HM := Lib.hid (fun W (h : RQ wi b c [obBlk g #[.int .i64 kd, .int .i64 on, .int .i64 key, .int .i64 val, .bool raw, .int .u64 ol, .int .u64 old, .int .u64 nw] 51] (.slice ra told.length rc) told (.slice (some ⟨gv, 0, none⟩) told.length vc) vs s s.p.listed W) => (rq_begin h hxr.1 hxr.2 old nw).mono fun _ _ r => r.no (fun h => hq (HCE.out.symm.trans h.2)))
                            have he : (cur == old) = false := beq_eq_false_iff_ne.2 hq
                            clear hq HTS
                            go_upto_region 59 with fail
                            go_region_held3 (fun W => W.cell? ⟨g, 6, none⟩ = some (.int .u64 old) ∧ W.cell? ⟨g, 7, none⟩ = some (.int .u64 nw) ∧ W.cell? ⟨gv, j * 5 + 2, none⟩ = some (.int .u64 cur))
                              (first | exact HFL.out _ _ (by assumption) | exact HFL.out _ _ HDR.out)
                              (((with_reducible refine (HM.out _ ?_).mono ?_); (first | assumption | exact HDR.out); rintro e w2 ⟨rfl, hg2⟩))
                            all_goals
                              obtain ⟨z6, z7, zv⟩ := HFL.out _ _ hg2
                              have HG2 := Lib.hid hg2
                              clear hg2
                              go_upto_region 61 with fail
                              go_quiet (fail)
                              have HG3 := Lib.hid (HG2.out.drewN nq)
                              clear HG2
                              generalize World.drewN _ nq = wq at *
                              go_wp2_with fail
                              go_meet
                              case rel => exact ⟨told, vs, s, HT.out.mono (by omega), by omega, HA.out.back, HG3.out⟩
                            --}KNE
                        · --{k4n
                          have hl : s.p.live x = false := HLV.out.trans hlt9
                          subst hlt9
                          have HL := Lib.hid hl
                          have HM := Lib.hid (fun m => rq_begin_dead (HQ0.out.drewN m) hxr.1 hxr.2 old nw HL.out)
                          clear HAT HL hl
                          have f6 := blk_cell HBX.out 6
                          have f7 := blk_cell HBX.out 7
                          simp at f6 f7
                          go_upto_region 59 with fail
                          go_quiet ((exact Calls.quiet_of_same (HM.out _)))
                          clear HM
                          have HG2 := Lib.hid (HQ0.out.drewN nq)
                          clear f6 f7
                          generalize World.drewN _ nq = wq1 at *
                          go_upto_region 61 with fail
                          go_quiet (fail)
                          have HG3 := Lib.hid (HG2.out.drewN nq)
                          clear HG2
                          generalize World.drewN _ nq = wq at *
                          go_wp2_with fail
                          go_meet
                          case rel => exact ⟨told, vs, s, HT.out.mono (by omega), by omega, HA.out.back, HG3.out⟩
                          --}k4n
                      --}k4
                    · have e4 : (kd == 4) = false := beq_eq_false_iff_ne.2 g4
                      clear g4
                      by_cases g5 : kd = 5
                      · have e5 : (kd == 5) = true := by simp [g5]
                        clear g5
                        --{k5
                        as_aux_lemma =>
                          rcases Bool.eq_false_or_eq_true lv with hlt9 | hlt9
                          · have hl : s.p.live x = true := HLV.out.trans hlt9
                            subst hlt9
                            obtain ⟨j, hj, hjv, hjx⟩ := HAT.out hl
                            subst hjv
                            have p0 : (0 : Int) ≤ (j : Int) := by omega
                            have p1 : (j : Int) < (told.length : Int) := by omega
                            obtain ⟨cur, hcu⟩ : ∃ cur, s.ws.getD (slotOf x * 3 + 1) 0 = cur := ⟨_, rfl⟩
                            have hcur : (vs.getD j ver0).cells[3]? = some (.int .u64 cur) := by rw [HT.out.ver hj (by rw [hjx]; exact hl), hjx, ← hcu]; rfl
                            have HCU := Lib.hid hcur
                            have HCE := Lib.hid hcu
                            clear hcur hcu
                            have HL := Lib.hid hl
                            have hts := HT.out.setw (q := 1) (y := nw) (by decide) hj (by rw [hjx]; exact hl)
                            rw [hjx] at hts
                            have HTS := Lib.hid (hts.mono (k' := k + 1) (by omega))
                            have hjl : j < vs.length := by rw [HT.out.lens]; exact hj
                            have HJL := Lib.hid hjl
                            obtain ⟨gv, hgv⟩ := HQ0.out.someV (Nat.lt_of_le_of_lt (Nat.zero_le j) hjl)
                            subst hgv
                            clear hjl
                            have HFL := Lib.hid (fun W s' (h : RQ wi b c [obBlk g #[.int .i64 kd, .int .i64 on, .int .i64 key, .int .i64 val, .bool raw, .int .u64 ol, .int .u64 old, .int .u64 nw] 51] (.slice ra told.length rc) told (.slice (some ⟨gv, 0, none⟩) told.length vc) vs s' s.p.listed W) => (show W.cell? ⟨g, 6, none⟩ = some (.int .u64 old) ∧ W.cell? ⟨g, 7, none⟩ = some (.int .u64 nw) ∧ W.cell? ⟨gv, j * 5 + 3, none⟩ = some (.int .u64 cur) from ⟨(blk_cell h.blk 6).trans (by simp), (blk_cell h.blk 7).trans (by simp), (h.verAt HJL.out (q := 3) (by decide)).1.trans HCU.out⟩))
                            have HDR := Lib.hid HQ0.out.drew
                            clear hts hl hjx HAT HCU
                            by_cases hq : cur = old
                            · --{KYE
                              have HM := Lib.hid (fun W (h : RQ wi b c [obBlk g #[.int .i64 kd, .int .i64 on, .int .i64 key, .int .i64 val, .bool raw, .int .u64 ol, .int .u64 old, .int .u64 nw] 51] (.slice ra told.length rc) told (.slice (some ⟨gv, 0, none⟩) told.length vc) vs s s.p.listed W) => (rq_end h hxr.1 hxr.2 old nw).mono fun _ _ r => r.yes ⟨HL.out, HCE.out.trans hq⟩)
                              have he : (cur == old) = true := by simp [hq]
                              clear hq
                              go_upto_region 64 with fail
                              go_region_held3 (fun W => W.cell? ⟨g, 6, none⟩ = some (.int .u64 old) ∧ W.cell? ⟨g, 7, none⟩ = some (.int .u64 nw) ∧ W.cell? ⟨gv, j * 5 + 3, none⟩ = some (.int .u64 cur))
                                (first | exact HFL.out _ _ (by assumption) | exact HFL.out _ _ HDR.out)
                                (((with_reducible refine (HM.out _ ?_).mono ?_); (first | assumption | exact HDR.out); rintro e w2 ⟨rfl, hg2⟩))
                              all_goals
                                obtain ⟨z6, z7, zv⟩ := HFL.out _ _ hg2
                                have HG2 := Lib.hid hg2
                                clear hg2
                                go_upto_region 66 with fail
                                go_quiet (fail)
                                have hg3 := HG2.out.drewN nq
                                obtain ⟨z6, z7, zv⟩ := HFL.out _ _ hg3
                                obtain ⟨_, fv⟩ := hg3.verAt HJL.out (q := 3) (by decide)
                                have HG3 := Lib.hid (hg3.setV HJL.out (q := 3) (by decide) nw)
                                clear hg3 HG2
                                generalize World.drewN _ nq = wq at *
                                go_wp2_with fail
                                go_meet
                                case rel => exact ⟨told, _, _, HTS.out, by omega, HA.out.back, HG3.out⟩
                              --}KYE
                            · --{KNE
                              have HM := Lib.hid (fun W (h : RQ wi b c [obBlk g #[.int .i64 kd, .int .i64 on, .int .i64 key, .int .i64 val, .bool raw, .int .u64 ol, .int .u64 old, .int .u64 nw] 51] (.slice ra told.length rc) told (.slice (some ⟨gv, 0, none⟩) told.length vc) vs s s.p.listed W) => (rq_end h hxr.1 hxr.2 old nw).mono fun _ _ r => r.no (fun h => hq (HCE.out.symm.trans h.2)))
                              have he : (cur == old) = false := beq_eq_false_iff_ne.2 hq
                              clear hq HTS
                              go_upto_region 64 with fail
                              go_region_held3 (fun W => W.cell? ⟨g, 6, none⟩ = some (.int .u64 old) ∧ W.cell? ⟨g, 7, none⟩ = some (.int .u64 nw) ∧ W.cell? ⟨gv, j * 5 + 3, none⟩ = some (.int .u64 cur))
                                (first | exact HFL.out _ _ (by assumption) | exact HFL.out _ _ HDR.out)
                                (((with_reducible refine (HM.out _ ?_).mono ?_); (first | assumption | exact HDR.out); rintro e w2 ⟨rfl, hg2⟩))
                              all_goals
                                obtain ⟨z6, z7, zv⟩ := HFL.out _ _ hg2
                                have HG2 := Lib.hid hg2
                                clear hg2
                                go_upto_region 66 with fail
                                go_quiet (fail)
                                have HG3 := Lib.hid (HG2.out.drewN nq)
                                clear HG2
                                generalize World.drewN _ nq = wq at *
                                go_wp2_with fail
                                go_meet
                                case rel => exact ⟨told, vs, s, HT.out.mono (by omega), by omega, HA.out.back, HG3.out⟩
                              --}KNE
                          · --{k5n
                            have hl : s.p.live x = false := HLV.out.trans hlt9
                            subst hlt9
                            have HL := Lib.hid hl
                            have HM := Lib.hid (fun m => rq_end_dead (HQ0.out.drewN m) hxr.1 hxr.2 old nw HL.out)
                            clear HAT HL hl
                            have f6 := blk_cell HBX.out 6
                            have f7 := blk_cell HBX.out 7
                            simp at f6 f7
                            go_upto_region 64 with fail
                            go_quiet ((exact Calls.quiet_of_same (HM.out _)))
                            clear HM
                            have HG2 := Lib.hid (HQ0.out.drewN nq)
                            clear f6 f7
                            generalize World.drewN _ nq = wq1 at *
                            go_upto_region 66 with fail
                            go_quiet (fail)
                            have HG3 := Lib.hid (HG2.out.drewN nq)
                            clear HG2
                            generalize World.drewN _ nq = wq at *
                            go_wp2_with fail
                            go_meet
                            case rel => exact ⟨told, vs, s, HT.out.mono (by omega), by omega, HA.out.back, HG3.out⟩
                            --}k5n
                        --}k5
                      · have e5 : (kd == 5) = false := beq_eq_false_iff_ne.2 g5
                        clear g5
                        --{k6
                        as_aux_lemma =>
                          go_wp2_with fail
                          go_meet
                          case rel => exact ⟨told, vs, s, HT.out.mono (by omega), by omega, HA.out.back, HQ0.out⟩
                        --}k6
        case rest =>
        obtain ⟨told', vs', s', hT', htl', hA', hQ'⟩ := hcut
        have HT' := Lib.hid hT'
        have HA' := Lib.hid hA'
        have HQ' := Lib.hid hQ'
        clear hT' hA' hQ' HQ0 HBX HT HA HTR f0 HR' HWF bl bo bn hbl htl hrcap hvcap
        obtain ⟨ra', rc', hov, hrcap'⟩ : ∃ a cap, u8 = .slice a told'.length cap ∧ told'.length ≤ cap := by
          obtain ⟨a, cap, h, h2, _⟩ := Owned.form HQ'.out.row
          exact ⟨a, cap, h, h2⟩
        subst hov
        obtain ⟨va', vc', hvv, hvcap'⟩ : ∃ a cap, u9 = .slice a told'.length cap ∧ told'.length ≤ cap := by
          obtain ⟨a, cap, h, h2, _⟩ := OwnedV.form HQ'.out.vers
          rw [HT'.out.lens] at h h2
          exact ⟨a, cap, h, h2⟩
        subst hvv
        go_upto_block 5 with fail
        go_cut [13] from 315 to 327 (fun s13 wx => AtRel told' x told'.length s13 ∧ wx = wc)
        case first =>
          --{c8
          as_aux_lemma =>
            go_wp2_with fail
            go_loopg [13, 22] told'.length (fun kx av kv wr2 => ∃ i : Nat, told'.length - i ≤ kx ∧ i ≤ told'.length ∧ kv = .int .i64 i ∧ AtRel told' x i av ∧ wr2 = wc)
            case atStart => exact ⟨0, by omega, Nat.zero_le _, rfl, HA'.out, rfl⟩
            case round =>
              obtain ⟨i, hix, hi, rfl, hA, rfl⟩ := hrel
              have HA := Lib.hid hA
              clear hA
              have p0 : (0 : Int) ≤ (i : Int) := by omega
              by_cases hlt : i < told'.length
              · have p1 : (i : Int) < (told'.length : Int) := by omega
                obtain ⟨ga, rfl⟩ := some_of HQ'.out.row (by omega)
                have cx := HQ'.out.row.at_ hlt
                by_cases hx : told'.getD i 0 = x
                · have HX := Lib.hid hx
                  rw [hx] at cx
                  clear hx
                  go_wp2_with fail
                  go_roundg (told'.length - (i + 1))
                  case rel => exact ⟨i + 1, by omega, by omega, by go_num, AtRel.hit hlt HX.out, rfl⟩
                  case measure => omega
                · have HX := Lib.hid (HA.out.miss hx)
                  have e : (told'.getD i 0 == x) = false := by simpa using hx
                  clear hx HA
                  generalize told'.getD i 0 = y at *
                  go_wp2_with fail
                  go_roundg (told'.length - (i + 1))
                  case rel => exact ⟨i + 1, by omega, by omega, by go_num, HX.out, rfl⟩
                  case measure => omega
              · have hd : decide (i < told'.length) = false := decide_eq_false hlt
                have he : i = told'.length := by omega
                have HE := Lib.hid he
                clear he hlt
                go_wp2_with fail
                go_meet
                case rel => exact ⟨by have := HA.out; rw [HE.out] at this; exact this, rfl⟩
          --}c8
        case rest =>
        obtain ⟨hA', rfl⟩ := hcut
        clear HA'
        have HA' := Lib.hid hA'
        clear hA'
        obtain ⟨v, hv⟩ : ∃ v, v = if s'.p.live x = true then s'.ver (slotOf x) else ver0 := ⟨_, rfl⟩
        have HG := Lib.hid (rq_get_any HQ'.out hxr.1 hxr.2 hv)
        have HV := Lib.hid hv
        clear hv
        generalize hlv : s'.p.live x = lv at HG
        have HLV := Lib.hid hlv
        clear hlv
        obtain ⟨vk, vv, vb, ve, vx⟩ := v
        simp only [Ver.value] at HG
        go_wp2_with fail
        refine HG.out.mono ?_
        rintro e w2 ⟨rfl, h2⟩
        have H2 := Lib.hid (h2.below (bl_alloc (Below.refl _ _) _) : RQ wi b c _ _ told' _ vs' s' s'.p.listed (w2.alloc (.cells #[.int .i64 vk, .int .i64 vv, .int .u64 vb, .int .u64 ve, .int .u64 vx] 34 (0, 0))))
        clear h2 HG HQ'
        go_upto_region 74 with fail
        have hbx2 := blk_new w2 (.cells #[.int .i64 vk, .int .i64 vv, .int .u64 vb, .int .u64 ve, .int .u64 vx] 34 (0, 0))
        generalize hW2 : w2.alloc (.cells #[.int .i64 vk, .int .i64 vv, .int .u64 vb, .int .u64 ve, .int .u64 vx] 34 (0, 0)) = W2 at *
        generalize hgg2 : w2.heap.size = g2 at *
        clear hW2 hgg2
        go_cut [15] from 334 to 340 (fun s15 wx => s15 = .bool lv ∧ wx = W2)
        case first =>
          --{c9
          as_aux_lemma =>
            rcases HA'.out.none with ⟨hv, hno⟩ | ⟨j, hj, hv, hjx⟩
            · have HL := Lib.hid (HLV.out.symm.trans (HT'.out.stale hno))
              clear hno
              subst hv
              go_wp2_with fail
              go_meet
              case rel => exact ⟨by rw [HL.out], rfl⟩
            · subst hv
              clear hjx
              have p0 : (0 : Int) ≤ (j : Int) := by omega
              have hlv := rq_live H2.out hxr.1 hxr.2
              rw [listed_live, HLV.out] at hlv
              have HC := Lib.hid hlv
              clear hlv
              go_wp2_with fail
              refine HC.out.mono ?_
              rintro e w3 ⟨rfl, rfl⟩
              go_wp2_with fail
              go_meet
              case rel => exact ⟨rfl, rfl⟩
          --}c9
        case rest =>
        obtain ⟨rfl, rfl⟩ := hcut
        have HB2 := Lib.hid hbx2
        clear hbx2
        go_upto_region 75 with fail
        go_cut [363] from 341 to 363 (fun s363 wx => s363 = .bool false ∧ ∃ m, wx = wc.drewN m)
        case first =>
          --{c10
          as_aux_lemma =>
            have y0 := blk_cell HB2.out 0
            have y1 := blk_cell HB2.out 1
            have y2 := blk_cell HB2.out 2
            have y3 := blk_cell HB2.out 3
            have y4 := blk_cell HB2.out 4
            simp at y0 y1 y2 y3 y4
            rcases Bool.eq_false_or_eq_true lv with h9 | h9
            · --{c10y
              have hl : s'.p.live x = true := HLV.out.trans h9
              subst h9
              obtain ⟨j, hj, hjv, hjx⟩ := HA'.out.none.resolve_left (fun h => by rw [HT'.out.stale h.2] at hl; cases hl)
              subst hjv
              have hjl : j < vs'.length := by rw [HT'.out.lens]; exact hj
              obtain ⟨gv, hgv⟩ := H2.out.someV (Nat.lt_of_le_of_lt (Nat.zero_le j) hjl)
              subst hgv
              have hver := HT'.out.ver hj (by rw [hjx]; exact hl)
              have hvv := HV.out
              rw [if_pos hl] at hvv
              rw [hjx, ← hvv] at hver
              have t0 := (H2.out.verAt hjl (q := 0) (by decide)).1
              have t1 := (H2.out.verAt hjl (q := 1) (by decide)).1
              have t2 := (H2.out.verAt hjl (q := 2) (by decide)).1
              have t3 := (H2.out.verAt hjl (q := 3) (by decide)).1
              have t4 := (H2.out.verAt hjl (q := 4) (by decide)).1
              rw [hver] at t0 t1 t2 t3 t4
              simp [Ver.cells] at t0 t1 t2 t3 t4
              have p0 : (0 : Int) ≤ (j : Int) := by omega
              have p1 : (j : Int) < (told'.length : Int) := by omega
              clear hver hvv hjx hjl hl
              go_quiet (fail)
              go_wp2_with fail
              go_meet
              case rel => exact ⟨rfl, nq, rfl⟩
              --}c10y
            · --{c10n
              have hl : s'.p.live x = false := HLV.out.trans h9
              subst h9
              have hvv := HV.out
              rw [if_neg (by rw [hl]; decide)] at hvv
              simp only [ver0, Ver.mk.injEq] at hvv
              obtain ⟨rfl, rfl, rfl, rfl, rfl⟩ := hvv
              clear hl
              go_quiet (fail)
              go_wp2_with fail
              go_meet
              case rel => exact ⟨rfl, nq, rfl⟩
              --}c10n
          --}c10
        case rest =>
        obtain ⟨rfl, m9, rfl⟩ := hcut
        have H3 := Lib.hid (H2.out.drewN m9)
        clear H2 HB2
        generalize World.drewN _ m9 = W3 at *
        obtain ⟨N, hN⟩ : ∃ N, cnt s'.p.sl = N := ⟨_, rfl⟩
        have HN := Lib.hid hN
        clear hN
        have HAL := Lib.hid H3.out.all_len
        have HU := Lib.hid (rq_used' H3.out HN.out)
        clear H3
        --{c11
        as_aux_lemma =>
          go_wp2_with fail
          refine HU.out.mono ?_
          rintro e w4 ⟨rfl, h4⟩
          have H4 := Lib.hid (rq_all' h4 HN.out)
          clear h4 HU
          go_wp2_with fail
          refine H4.out.mono ?_
          rintro e w5 ⟨a5, c5, rfl, o5, h5, b5⟩
          have H5 := Lib.hid (rq_links' h5 HN.out)
          clear h5 H4 o5 b5
          go_wp2_with fail
          refine H5.out.mono ?_
          rintro e w6 ⟨a6, c6, rfl, o6, h6⟩
          have H6 := Lib.hid (rq_all' h6 HN.out)
          have O6 := Lib.hid o6
          clear h6 H5 o6
          go_wp2_with fail
          refine H6.out.mono ?_
          rintro e w7 ⟨a7, c7, rfl, o7, h7, b7⟩
          have HS := Lib.hid (same_rows O6.out o7 b7 HAL.out)
          have H7 := Lib.hid h7
          clear h7 H6 o7 b7 O6
          go_wp2_with fail
          refine HS.out.mono ?_
          rintro e w8 ⟨rfl, b8⟩
          have H8 := Lib.hid (H7.out.below b8)
          clear b8 HS H7
          go_wp2_with fail
          go_roundg (80 - (k + 1))
          case rel => exact ⟨k + 1, told', vs', s'.listed, by go_num, by omega, by omega, by omega, by omega, Lib.hid (HT'.out.listed.mono (by omega)), Lib.hid (show RQ wi b c [] _ told' _ vs' s'.listed s'.p.listed.listed w8 from by rw [listed_listed]; exact H8.out.shut)⟩
          case measure => omega
        --}c11
      · --{end
        have hd : decide (k < len) = false ∨ (decide (k < len) = true ∧ decide ((k : Int) < 80) = false ∧ decide (k < 80) = false) := by simp only [decide_eq_true_eq, decide_eq_false_iff_not]; omega
        clear hlt
        rcases hd with hd | ⟨hd, hd2, hd3⟩
        all_goals
          go_wp2_with fail
          refine (awake6_any _).mono ?_
          rintro e b6w ⟨rfl, b6⟩
          go_wp2_with fail
          go_ret
          exact ⟨rfl, bl_next HQ.out.bel b6⟩
        --}end
end Go.Proofs.Ytjojbfgppgnmjaa
