/- HashParts holds: every key has one bucket, and all buckets together have all keys that are there, each once. No condition. -/
import Derived.Test.YtoidmakaijkglaaHR
namespace Go.Proofs.Ytoidmakaijkglaa
open Go.RowKit
theorem bkt_of {n b : Nat} {q : Int} (hn : 1 ≤ n) (h : bucketOf n q = b) : bkt q n = (b : Int) := by
  have := (bkt_range (k := q) (b := (n : Int)) (by omega)).1
  unfold bucketOf at h
  rw [← h, Int.toNat_of_nonneg this]
theorem below_drewN2 {B : Nat} {a w : World} (h : Below B a w) (n : Nat) : Below B a (w.drewN n) := ⟨h.os, h.tape, h.output, h.size, h.block⟩
theorem small_of (a : Int) : ∃ n : Nat, bits .and .i64 a 63 = (n : Int) ∧ n < 64 := ⟨(a % 64).toNat, by rw [i64_and63]; omega, by omega⟩
set_option maxRecDepth 100000 in
set_option maxHeartbeats 12800000 in
theorem hashParts_walk {a0 a1 : Int} {w : World} (_w0 : (Lit.int .i64 a0).wf = true) (_w1 : (Lit.int .u64 a1).wf = true) :
    Calls Try.prog 3 #[.int .i64 a0, .int .u64 a1] w fun e w' => e = .returned (.bool true) ∧ Below w.heap.size w w' := by
  obtain ⟨m, hm, hm2⟩ := small_of a0
  obtain ⟨n, hnm⟩ : ∃ n : Nat, n = m + 1 := ⟨_, rfl⟩
  have n1 : 1 ≤ n := by omega
  have n2 : n ≤ 64 := by omega
  have hni : (n : Int) = (m : Int) + 1 := by omega
  have HNI := Lib.hid hni
  have HNEW := Lib.hid (store_new 4 w (by decide) (by decide))
  clear hni hnm
  go_enter Try.func3, Try.ntmps3
  go_upto_region 1 with fail
  go_cut [0] from 19 to 21 (fun s0 wx => s0 = .int .i64 n ∧ wx = w)
  case first =>
    go_wp2_with fail
    go_meet
    case rel => exact ⟨by rw [HNI.out], rfl⟩
  case rest =>
  obtain ⟨rfl, rfl⟩ := hcut
  obtain ⟨wi, rfl⟩ : ∃ x, x = wc := ⟨_, rfl⟩
  clear hm hm2 HNI
  go_wp2_with fail
  refine HNEW.out.mono ?_
  rintro e w1 ⟨sb, Fs, rfl, p1, B1, f1⟩
  have S1 := Lib.hid ((Sep.nil wi).new (A := obStore sb Fs (RS.new 4)) B1 p1 f1)
  clear p1 B1 f1 HNEW
  have HNX := Lib.hid (hx_new S1.out sb n1 n2)
  clear S1
  go_wp2_with fail
  refine HNX.out.mono ?_
  rintro e w2 ⟨xb, ab, Fa, rfl, h2, -⟩
  have HS2 := Lib.hid h2
  clear h2 HNX
  go_wp2_with fail
  go_loopg [9] 64 (fun kx jv wx => ∃ (k : Nat) (F : Nat → Prop) (bs : List (List (Int × Nat))) (L : List Ob), jv = .int .i64 k ∧ k ≤ 64 ∧ 64 - k ≤ kx ∧ Hid (Keyed n bs (fun x => ∃ q : Nat, q < k ∧ x = q ∧ a1 / 2 ^ q % 2 = 1)) ∧ Hid (Sep wi wx (obIx xb F sb ab n bs :: obArena ab Fa (List.replicate 64 0) :: L)))
  case atStart => exact ⟨0, _, _, _, rfl, Nat.zero_le _, Nat.le_refl _, Lib.hid ((Keyed.new n).congr fun k => by simp), HS2⟩
  case round =>
    obtain ⟨k, F, bs, L, rfl, hk, hkx, HKD, HSP⟩ := hrel
    clear HS2
    have k0 : (0 : Int) ≤ (k : Int) := by omega
    by_cases hlt : k < 64
    · have k1 : (k : Int) < 64 := by omega
      have kw : IntKind.i64.wrap ((k : Int) + 1) = (k : Int) + 1 := IntWalk.i64_in _ (by omega)
      have hbit : (bits .and .u64 (a1 / 2 ^ k) 1 == 1) = decide (a1 / 2 ^ k % 2 = 1) := by rw [u64_and1]; rfl
      go_upto_if 50 with fail
      clear hbit
      by_cases hset : a1 / 2 ^ k % 2 = 1
      · rw [decide_eq_true hset]
        have hno : ¬ (fun x : Int => ∃ q : Nat, q < k ∧ x = q ∧ a1 / 2 ^ q % 2 = 1) (k : Int) := by
          rintro ⟨q, hq, e, _⟩
          omega
        have HPUT := Lib.hid (sx_put_new (key := k) HSP.out n1 n2 HKD.out.small (by omega) (by simp) (HKD.out.none hno n1))
        have HKD2 := Lib.hid (fun c => ((HKD.out.put c n1 (by omega) hno).congr (Q := fun x => ∃ q : Nat, q < k + 1 ∧ x = q ∧ a1 / 2 ^ q % 2 = 1) fun x => by
          constructor
          · rintro (⟨q, hq, e, h⟩ | rfl)
            · exact ⟨q, by omega, e, h⟩
            · exact ⟨k, by omega, rfl, hset⟩
          · rintro ⟨q, hq, e, h⟩
            rcases Nat.lt_or_eq_of_le (Nat.le_of_lt_succ hq) with h1 | rfl
            · exact .inl ⟨q, h1, e, h⟩
            · exact .inr e))
        clear hno HKD HSP hset
        go_wp2_with fail
        refine HPUT.out.mono ?_
        rintro e w3 ⟨cb, rfl, F', h3⟩
        have HS3 := Lib.hid h3
        clear h3 HPUT
        go_wp2_with fail
        go_roundg (64 - (k + 1))
        case rel => exact ⟨k + 1, F', _, _, by go_num, by omega, by omega, Lib.hid (HKD2.out cb), HS3⟩
        case measure => omega
      · rw [decide_eq_false hset]
        have HKD2 := Lib.hid (HKD.out.congr (Q := fun x => ∃ q : Nat, q < k + 1 ∧ x = q ∧ a1 / 2 ^ q % 2 = 1) fun x => by
          constructor
          · rintro ⟨q, hq, e, h⟩
            exact ⟨q, by omega, e, h⟩
          · rintro ⟨q, hq, e, h⟩
            rcases Nat.lt_or_eq_of_le (Nat.le_of_lt_succ hq) with h1 | rfl
            · exact ⟨q, h1, e, h⟩
            · exact absurd h hset)
        clear HKD hset
        go_wp2_with fail
        go_roundg (64 - (k + 1))
        case rel => exact ⟨k + 1, F, bs, L, by go_num, by omega, by omega, HKD2, HSP⟩
        case measure => omega
    · obtain rfl : k = 64 := by omega
      have h0 := HSP.out.bools 64 33
      generalize hg : wr.heap.size = g at h0
      have HB0 := Lib.hid h0
      have HBN := Lib.hid n2
      clear h0 HSP hlt hkx hk k0
      go_wp2_with fail
      clear hg
      go_loopg [13] n (fun kx bv wx => ∃ (b : Nat) (F' : Nat → Prop) (B : List Bool), bv = .int .i64 b ∧ b ≤ n ∧ n - b ≤ kx ∧ Hid (B.length = 64 ∧ ∀ q : Nat, q < 64 → (B.getD q false = true ↔ ∃ i, i < b ∧ (q : Int) ∈ keysOf bs i)) ∧ Hid (Sep wi wx (obBools g B 33 :: obIx xb F' sb ab n bs :: obArena ab Fa (List.replicate 64 0) :: L)))
      case atStart => exact ⟨0, F, _, rfl, Nat.zero_le _, Nat.le_refl _, Lib.hid ⟨List.length_replicate, fun q hq => by
        rw [List.getD_eq_getElem?_getD, List.getElem?_replicate, if_pos hq]
        simp⟩, HB0⟩
      case round =>
        obtain ⟨b, F', B, rfl, hb, hbx, HTR, HSP⟩ := hrel
        clear HB0
        have b0 : (0 : Int) ≤ (b : Int) := by omega
        by_cases hlt : b < n
        · have b1 : (b : Int) < (n : Int) := by omega
          have bw : IntKind.i64.wrap ((b : Int) + 1) = (b : Int) + 1 := IntWalk.i64_in _ (by have := HBN.out; omega)
          have HIN := Lib.hid (sx_in HSP.out.swap n2 hlt (HKD.out.small b))
          have HLEN := Lib.hid (show (keysOf bs b).length ≤ 64 by have := HKD.out.few b; simpa [keysOf] using this)
          clear HSP
          go_wp2_with fail
          refine HIN.out.mono ?_
          rintro e w5 ⟨sv, rfl, F2, h5⟩
          obtain ⟨ra, rc, rfl, hr1, hr2, hr3⟩ := (h5.head : Owned .i64 3 w5 _ _).form
          have HS5 := Lib.hid h5.bring3
          have HR2 := Lib.hid hr2
          have HR3 := Lib.hid hr3
          clear h5 hr1 hr2 hr3 HIN
          generalize hl : (keysOf bs b).length = len
          have HL := Lib.hid hl
          clear hl
          go_wp2_with fail
          go_loopg [15] len (fun kx jv wx => ∃ (j : Nat) (B' : List Bool), jv = .int .i64 j ∧ j ≤ len ∧ len - j ≤ kx ∧ Hid (B'.length = 64 ∧ ∀ q : Nat, q < 64 → (B'.getD q false = true ↔ (∃ i, i < b ∧ (q : Int) ∈ keysOf bs i) ∨ (q : Int) ∈ (keysOf bs b).take j)) ∧ Hid (Sep wi wx (obBools g B' 33 :: obRow .i64 3 (.slice ra len rc) (keysOf bs b) :: obIx xb F2 sb ab n bs :: obArena ab Fa (List.replicate 64 0) :: L)))
          case atStart => exact ⟨0, B, rfl, Nat.zero_le _, Nat.le_refl _, Lib.hid ⟨HTR.out.1, fun q hq => by rw [HTR.out.2 q hq]; simp⟩, HL.out ▸ HS5⟩
          case round =>
            obtain ⟨j, B', rfl, hj, hjx, HT2, HSP⟩ := hrel
            clear HS5
            have j0 : (0 : Int) ≤ (j : Int) := by omega
            by_cases hjl : j < len
            · obtain ⟨g2, rfl⟩ : ∃ g2, ra = some ⟨g2, 0, none⟩ := by
                cases ra with
                | none =>
                  have h1 := (HR2.out rfl).1
                  have h2 := HL.out
                  omega
                | some p => exact ⟨p.block, by rw [(HR3.out p rfl).1]⟩
              have hjl' : j < (keysOf bs b).length := by rw [HL.out]; exact hjl
              have hrow : Owned .i64 3 wr (.slice (some ⟨g2, 0, none⟩) len rc) (keysOf bs b) := HSP.out.second
              have hc := hrow.at_ hjl'
              have hgd : (keysOf bs b).getD j 0 = (keysOf bs b)[j] := by rw [List.getD_eq_getElem?_getD, List.getElem?_eq_getElem hjl']; rfl
              have hx : (keysOf bs b)[j] ∈ keysOf bs b := List.getElem_mem hjl'
              obtain ⟨-, -, hbo, q, hq, e, hset⟩ := HKD.out.ok b hlt _ hx
              rw [hgd, e] at hc
              rw [e] at hx hbo
              have hbk : bkt (q : Int) n = (b : Int) := bkt_of n1 hbo
              have hsn : B'.getD q false = false := by
                cases h : B'.getD q false with
                | false => rfl
                | true =>
                  exfalso
                  rcases (HT2.out.2 q hq).1 h with ⟨i, hi, hm⟩ | hm
                  · have := (HKD.out.ok i (by omega) _ hm).2.2.1
                    omega
                  · obtain ⟨i, hi, he⟩ := List.mem_take_iff_getElem.1 hm
                    have hnd := HKD.out.nd b hlt
                    rw [List.nodup_iff_pairwise_ne] at hnd
                    exact List.pairwise_iff_getElem.1 hnd i j (by omega) hjl' (by omega) (by rw [he, e])
              have hcb := HSP.out.bools_at (i := q) (by rw [HT2.out.1]; exact hq)
              rw [hsn] at hcb
              have hfr : wr.frozen? ⟨g, q, none⟩ = false := blk_free HSP.out.head q
              have HTN := Lib.hid (show (B'.set q true).length = 64 ∧ ∀ p : Nat, p < 64 → ((B'.set q true).getD p false = true ↔ (∃ i, i < b ∧ (p : Int) ∈ keysOf bs i) ∨ (p : Int) ∈ (keysOf bs b).take (j + 1)) from ⟨by rw [List.length_set]; exact HT2.out.1, fun p hp => by
                rw [getD_set (by rw [HT2.out.1]; exact hq), List.take_succ_eq_append_getElem hjl', e]
                by_cases hpq : p = q
                · rw [if_pos hpq, hpq]
                  simp
                · rw [if_neg hpq, HT2.out.2 p hp]
                  have : ¬ (p : Int) = (q : Int) := by omega
                  simp [this]⟩)
              have HSN := Lib.hid (HSP.out.bools_set q true)
              have HBU := Lib.hid (bucket_in (k := (q : Int)) (b := (n : Int)) wr (by omega) (by omega) (by omega) (by omega))
              have HBK := Lib.hid hbk
              have hbit : (bits .and .u64 (a1 / 2 ^ q) 1 == 0) = false := by
                rw [u64_and1, hset]
                rfl
              have q0 : (0 : Int) ≤ (q : Int) := by omega
              have q1 : (q : Int) < 64 := by omega
              have q2 : ¬ (q : Int) < 0 := by omega
              have q3 : ¬ (63 : Int) < (q : Int) := by omega
              have j1 : (j : Int) < (len : Int) := by omega
              have j2 : (len : Int) ≤ 64 := by have := HLEN.out; have := HL.out; omega
              have jw : IntKind.i64.wrap ((j : Int) + 1) = (j : Int) + 1 := IntWalk.i64_in _ (by omega)
              clear hrow hgd hx hbo e hset hsn HT2 HSP HTR hbk hjl'
              go_wp2_with fail
              refine HBU.out.mono ?_
              rintro e w6 ⟨rfl, rfl⟩
              rw [HBK.out]
              clear HBU HBK
              go_wp2_with fail
              go_roundg (len - (j + 1))
              case rel => exact ⟨j + 1, B'.set q true, by go_num, by omega, by omega, HTN, HSN⟩
              case measure => omega
            · obtain rfl : j = len := by omega
              have HTN := Lib.hid (show B'.length = 64 ∧ ∀ q : Nat, q < 64 → (B'.getD q false = true ↔ ∃ i, i < b + 1 ∧ (q : Int) ∈ keysOf bs i) from ⟨HT2.out.1, fun q hq => by
                rw [HT2.out.2 q hq, ← HL.out, List.take_length]
                constructor
                · rintro (⟨i, hi, h⟩ | h)
                  · exact ⟨i, by omega, h⟩
                  · exact ⟨b, by omega, h⟩
                · rintro ⟨i, hi, h⟩
                  rcases Nat.lt_or_eq_of_le (Nat.le_of_lt_succ hi) with h1 | rfl
                  · exact .inl ⟨i, h1, h⟩
                  · exact .inr h⟩)
              have HSN := Lib.hid HSP.out.swap.tail
              clear HT2 HSP HTR HL HR2 HR3
              have j1 : ¬ (j : Int) < (j : Int) := by omega
              go_wp2_with fail
              go_roundg (n - (b + 1))
              case rel => exact ⟨b + 1, F2, B', by go_num, by omega, by omega, HTN, HSN⟩
              case measure => omega
        · obtain rfl : b = n := by omega
          have HT2 := Lib.hid (show B.length = 64 ∧ ∀ q : Nat, q < 64 → B.getD q false = decide (a1 / 2 ^ q % 2 = 1) from ⟨HTR.out.1, fun q hq => by
            have h1 := HTR.out.2 q hq
            by_cases hp : a1 / 2 ^ q % 2 = 1
            · rw [decide_eq_true hp, h1]
              obtain ⟨_, _, h2⟩ := HKD.out.all (q : Int) ⟨q, hq, rfl, hp⟩
              exact ⟨_, bucketOf_lt n1, h2⟩
            · rw [decide_eq_false hp]
              cases h : B.getD q false with
              | false => rfl
              | true =>
                obtain ⟨i, hi, h2⟩ := h1.1 h
                obtain ⟨-, -, -, q2, -, e, h3⟩ := HKD.out.ok i hi _ h2
                obtain rfl : q = q2 := by omega
                exact absurd h3 hp⟩)
          clear HTR HKD
          have j1 : ¬ (b : Int) < (b : Int) := by omega
          go_wp2_with fail
          have HAW := Lib.hid awake10_any
          have HNO := Lib.hid (fun W => hx_new_no none 4 W (.inl rfl))
          go_loopg [16] 64 (fun kx kv wx => ∃ (k : Nat), kv = .int .i64 k ∧ k ≤ 64 ∧ 64 - k ≤ kx ∧ Hid (Sep wi wx (obBools g B 33 :: obIx xb F' sb ab b bs :: obArena ab Fa (List.replicate 64 0) :: L)))
          case atStart => exact ⟨0, rfl, Nat.zero_le _, Nat.le_refl _, HSP⟩
          case round =>
            clear HSP
            obtain ⟨k, rfl, hk, hkx, HSP⟩ := hrel
            have k0 : (0 : Int) ≤ (k : Int) := by omega
            by_cases hlt : k < 64
            · have k1 : (k : Int) < 64 := by omega
              have kw : IntKind.i64.wrap ((k : Int) + 1) = (k : Int) + 1 := IntWalk.i64_in _ (by omega)
              have hbit : (bits .and .u64 (a1 / 2 ^ k) 1 == 1) = decide (a1 / 2 ^ k % 2 = 1) := by rw [u64_and1]; rfl
              have hcb := HSP.out.bools_at (i := k) (by rw [HT2.out.1]; exact hlt)
              rw [HT2.out.2 k hlt] at hcb
              generalize decide (a1 / 2 ^ k % 2 = 1) = bv at hcb hbit
              go_wp2_with fail
              go_region
              all_goals
                go_wp2_with fail
                go_roundg (64 - (k + 1))
                case rel => exact ⟨k + 1, by go_num, by omega, by omega, Lib.hid (by first | exact HSP.out | exact HSP.out.below (Below.refl _ _).drew | exact HSP.out.below (below_drewN2 (Below.refl _ _) _))⟩
                case measure => omega
            · obtain rfl : k = 64 := by omega
              have HB9 := Lib.hid HSP.out.bel
              go_wp2_with fail
              refine (HNO.out wr).mono ?_
              rintro e w7 ⟨rfl, rfl⟩
              go_wp2_with fail
              refine (HAW.out wr).mono ?_
              rintro e w8 ⟨rfl, h8⟩
              have HB8 := Lib.hid (bl_next HB9 h8)
              clear h8
              go_wp2_with fail
              go_ret
              exact ⟨rfl, HB8.out⟩
end Go.Proofs.Ytoidmakaijkglaa
