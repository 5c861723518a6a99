/- RecRows holds: versions that are led to one another are gone through from the first to the last, each as it was made; freed in any order the others stay. No condition. -/
import Derived.Test.YtjojbfgppgnmjaaV1
namespace Go.Proofs.Ytjojbfgppgnmjaa
open Go.RowKit Go.ChangeShapes

def prevL (L : List Int) (j : Nat) : Int := if j = 0 then 0 else L.getD (j - 1) 0
def rowVer (L : List Int) (j : Nat) : Ver := ⟨j, 10 * j, j, 2305843009213693952, prevL L j⟩
def RowsOk (L : List Int) (V : Int → Ver) : Prop := ∀ j, j < L.length → V (L.getD j 0) = rowVer L j
theorem prev_app {L : List Int} {z : Int} {j : Nat} (h : j ≤ L.length) : prevL (L ++ [z]) j = prevL L j := by
  unfold prevL
  by_cases e : j = 0
  · rw [if_pos e, if_pos e]
  · rw [if_neg e, if_neg e, List.getD_eq_getElem?_getD, List.getD_eq_getElem?_getD, List.getElem?_append_left (by omega)]
theorem rows_app {L : List Int} {V : Int → Ver} (h : RowsOk L V) {z : Int} (hz : ¬ z ∈ L) :
    RowsOk (L ++ [z]) (fun b => if b = z then { (fun a => if a = z then (⟨L.length, 10 * L.length, L.length, 2305843009213693952, 0⟩ : Ver) else V a) b with nx := prevL L L.length } else (fun a => if a = z then (⟨L.length, 10 * L.length, L.length, 2305843009213693952, 0⟩ : Ver) else V a) b) := by
  intro j hj
  simp at hj
  by_cases e : j = L.length
  · subst e
    have e1 : (L ++ [z]).getD L.length 0 = z := by simp [List.getD_eq_getElem?_getD]
    rw [e1]
    simp only [if_true, rowVer, prev_app (Nat.le_refl L.length)]
  · have hjl : j < L.length := by omega
    have e1 : (L ++ [z]).getD j 0 = L.getD j 0 := by rw [List.getD_eq_getElem?_getD, List.getD_eq_getElem?_getD, List.getElem?_append_left hjl]
    have e2 : ¬ L.getD j 0 = z := by
      intro e2
      apply hz
      rw [← e2]
      simp [List.getD_eq_getElem?_getD, hjl]
    have e3 := prev_app (L := L) (z := z) (j := j) (by omega)
    rw [e1]
    simp only [if_neg e2, h j hjl, rowVer, e3]
/-- Which are freed. -/
def bitOf (g : Int) (j : Nat) : Bool := decide (g / 2 ^ j % 2 = 1)

set_option maxRecDepth 100000 in
set_option maxHeartbeats 6400000 in
theorem recRows_walk {a0 g : Int} {w : World} (_w0 : (Lit.int .i64 a0).wf = true) (_w1 : (Lit.int .u64 g).wf = true) :
    Calls Try.prog 5 #[.int .i64 a0, .int .u64 g] w fun e w' => e = .returned (.bool true) ∧ Below w.heap.size w w' := by
  have m0 := i64_and255 a0
  have bd := bounds_u64 _w1
  obtain ⟨x, hx, hx2⟩ : ∃ x : Nat, a0 % 256 = x ∧ x < 256 := ⟨(a0 % 256).toNat, by omega, by omega⟩
  rw [hx] at m0
  clear hx _w0 _w1
  have HN := Lib.hid (store_new 40 w (by decide) (by decide))
  go_enter Try.func5, Try.ntmps5
  go_wp2_with fail
  obtain ⟨n, hn, n1, n2⟩ : ∃ n : Nat, ((n : Int) = (x : Int) % 30 + 1) ∧ 1 ≤ n ∧ n ≤ 30 := ⟨x % 30 + 1, by omega, by omega, by omega⟩
  rw [← hn]
  refine HN.out.mono ?_
  rintro e w1 ⟨b, F1, rfl, p1, B1, f1⟩
  have S1 : Hid (Sep w w1 [obRow .u64 28 (.slice none 0 0) [], obStore b F1 (RS.new 40)]) := Lib.hid (((Sep.nil w).new (A := obStore b F1 (RS.new 40)) B1 p1 f1).row_nil _ _)
  have I1 := Lib.hid (RI.new (n := 40) (by decide) (by decide) (fun _ => ver0))
  clear p1 B1 f1 HN hn m0 hx2
  go_wp2_with fail
  go_loopw [7, 8, 9] (fun hv ov i wr => ∃ (k : Nat) (F : Nat → Prop) (s : RS) (L : List Int) (V : Int → Ver), k ≤ n ∧ i = .int .i64 k ∧ hv = .int .u64 (prevL L k) ∧ RI 40 0 s L [] V ∧ L.length = k ∧ RowsOk L V ∧ Sep w wr [obRow .u64 28 ov L, obStore b F s]) (fun _ _ i _ => n - (intOf i).toNat)
  case atStart => exact ⟨0, F1, _, [], _, Nat.zero_le _, rfl, rfl, I1.out, rfl, fun j hj => by simp at hj, S1.out⟩
  case round =>
    obtain ⟨k, F, s, L, V, hk, rfl, rfl, hI, hL, hR, hS⟩ := hrel
    have HS := Lib.hid hS
    have HI := Lib.hid hI
    have HL := Lib.hid hL
    have HR := Lib.hid hR
    clear hS hI hL hR S1 I1
    by_cases hlt : k < n
    · rcases HI.out.room with ⟨h1, _⟩ | ⟨_, l, i, hf⟩
      · have := HL.out; omega
      have hM := HI.out.make hf k (10 * k) k 2305843009213693952
      have hzm : s.p.listed.link i ∈ L ++ [s.p.listed.link i] := by simp
      have HM2 := Lib.hid (hM.2.2.next hzm (prevL L k))
      have HZ := Lib.hid hM.1
      have HZL := Lib.hid (hM.2.2.lives hzm)
      have hzr := hM.2.2.range hzm
      have HC := Lib.hid (make_ok b F s l i k (10 * k) k 2305843009213693952 wr HS.out.second (by omega) (by omega) (by omega) (by omega) hf)
      clear hf hM hzm
      generalize s.p.listed.link i = z at *
      have HR2 := Lib.hid (rows_app HR.out HZ.out)
      rw [HL.out] at HR2
      go_wp2_with fail
      refine (ref_forever _).mono ?_
      rintro e w2 ⟨rfl, rfl⟩
      go_wp2_with fail
      refine HC.out.mono ?_
      rintro e w2 ⟨rfl, hl⟩
      obtain ⟨F2, hS2⟩ := HS.out.swap.store hl
      have S2 := Lib.hid hS2.swap
      clear hl hS2 HS HC
      go_wp2_with fail
      refine (next_ok b F2 _ z (prevL L k) w2 S2.out.second (by omega) (by omega) HZL.out).mono ?_
      rintro e w3 ⟨rfl, hl⟩
      obtain ⟨F3, hS3⟩ := S2.out.swap.store hl
      have S3 := Lib.hid hS3.swap
      clear hl hS3 S2
      have hLb : L.length ≤ 40 := by have := HL.out; omega
      go_wp2_with (at_builtin; refine walk_append (zero := .int .u64 0) (base := 0) (n := L.length) (m := 1) (xs := L.map (Value.int .u64)) (ys := [.int .u64 z]) rfl _ _ rfl Try.underlying22 info_u64 rfl Nat.zero_lt_one (Nat.le_of_ble_eq_true rfl) rfl (World.ownsRow.alloc S3.out.head _) rfl (SrcAt.one (blk_at (by simp))) (ints_one .u64 [_]) (by omega) (Nat.zero_le _) ?_)
      intro v' w4 hA
      have S4 := Lib.hid (S3.out.append (ys := [z]) ((Mod.refl _ _).alloc _) hA rfl rfl)
      clear hA S3
      have hpz : prevL (L ++ [z]) (k + 1) = z := by
        unfold prevL
        rw [if_neg (by omega), List.getD_eq_getElem?_getD]
        have := HL.out
        simp [← this]
      have HPZ := Lib.hid hpz
      clear hpz
      go_wp2_with fail
      go_roundw
      case rel => exact ⟨k + 1, F3, _, _, _, by omega, by go_num, by rw [HPZ.out], HM2.out, by rw [List.length_append, HL.out]; rfl, HR2.out, S4.out⟩
      case measure => simp [intOf]; omega
    · obtain rfl : k = n := by omega
      obtain ⟨gb, cap, hu8⟩ : ∃ g cap, u8 = .slice (some ⟨g, 0, none⟩) k cap := by
        obtain ⟨a, cap, h, _, h2, h3⟩ := Owned.form (HS.out.head : Owned .u64 _ _ u8 L)
        rw [HL.out] at h h2
        cases a with
        | none => have := (h2 rfl).1; omega
        | some g => exact ⟨g.block, cap, by rw [h, ← (h3 g rfl).1]⟩
      subst hu8
      go_wp2_with fail
      go_loopw [12, 13] (fun av i wr => ∃ (j : Nat) (F : Nat → Prop), j ≤ k ∧ i = .int .i64 ((j : Int) - 1) ∧ av = .int .u64 (prevL L j) ∧ Sep w wr [obRow .u64 28 (.slice (some ⟨gb, 0, none⟩) k cap) L, obStore b F s]) (fun _ i _ => (intOf i + 1).toNat)
      case atStart => exact ⟨k, F, Nat.le_refl _, rfl, rfl, HS.out⟩
      case round =>
        obtain ⟨j, F', hj, rfl, rfl, hS'⟩ := hrel
        have HS' := Lib.hid hS'
        clear hS' HS
        by_cases hj0 : 0 < j
        · obtain ⟨m, rfl⟩ : ∃ m, j = m + 1 := ⟨j - 1, by omega⟩
          have hmm : L.getD m 0 ∈ L := by simp [List.getD_eq_getElem?_getD, HL.out, show m < k by omega]
          have hpe : prevL L (m + 1) = L.getD m 0 := by unfold prevL; rw [if_neg (by omega)]; rfl
          have hmr := HI.out.range hmm
          have HG := Lib.hid (fun wr h => get_live b F' s (L.getD m 0) wr h (by omega) (by omega) (HI.out.lives hmm))
          have HV := Lib.hid ((HI.out.ver _ hmm).trans (HR.out m (by rw [HL.out]; omega)))
          rw [HV.out] at HG
          rw [hpe]
          clear hmm hpe HV
          generalize L.getD m 0 = a at *
          simp only [rowVer, Ver.value] at HG
          generalize hpv : prevL L m = pv at *
          have HPV := Lib.hid hpv
          clear hpv
          have e1 : ((m + 1 : Nat) : Int) - 1 = m := by omega
          simp only [e1]
          clear e1
          go_wp2_with fail
          refine (HG.out _ HS'.out.second).mono ?_
          rintro e w3 ⟨rfl, hl⟩
          obtain ⟨F3, hS3⟩ := HS'.out.swap.store hl
          have S3 := Lib.hid hS3.swap
          clear hl hS3 HS' HG
          go_wp2_with fail
          go_roundw
          case rel => exact ⟨m, F3, by omega, rfl, by rw [HPV.out], S3.out.below ((Below.refl _ _).alloc (Nat.le_refl _) _)⟩
          case measure => simp [intOf]
        · obtain rfl : j = 0 := by omega
          rw [show prevL L 0 = 0 from rfl]
          simp only [show ((0 : Nat) : Int) - 1 = -1 from rfl]
          have hRI0 : RI 40 ((0 : Nat) : Int) s ([] ++ L.drop 0) [] V := by
            rw [List.drop_zero, List.nil_append]
            exact HI.out
          have HRI0 := Lib.hid hRI0
          clear hRI0
          go_wp2_with fail
          go_loopw [16, 17] (fun uv i wr => ∃ (j : Nat) (F : Nat → Prop) (s' : RS) (K G : List Int), j ≤ k ∧ i = .int .i64 j ∧ uv = .int .i64 ((k : Int) - G.length) ∧ RI 40 j s' (K ++ L.drop j) G V ∧ K.length + G.length = j ∧ (∀ m, m < j → (bitOf g m = true → L.getD m 0 ∈ G) ∧ (bitOf g m = false → L.getD m 0 ∈ K)) ∧ Sep w wr [obRow .u64 28 (.slice (some ⟨gb, 0, none⟩) k cap) L, obStore b F s']) (fun _ i _ => k - (intOf i).toNat)
          case atStart => exact ⟨0, F', s, [], [], Nat.zero_le _, rfl, by simp, HRI0.out, rfl, fun m hm => by omega, HS'.out⟩
          case round =>
            obtain ⟨j, F2, s', K, G, hj, rfl, rfl, hRI, hlen, hbits, hS2⟩ := hrel
            have H2 := Lib.hid hS2
            have HRI := Lib.hid hRI
            have HBT := Lib.hid hbits
            have HLN := Lib.hid hlen
            clear hS2 hRI hbits hlen HS' HRI0
            by_cases hjk : j < k
            · have mg := u64_and1 (g / 2 ^ j)
              have cj := Owned.at_ (H2.out.head : Owned .u64 _ _ _ L) (i := j) (by rw [HL.out]; exact hjk)
              have HCJ := Lib.hid (fun W F s (hW : Sep w W [obRow .u64 28 (.slice (some ⟨gb, 0, none⟩) k cap) L, obStore b F s]) => Owned.at_ (hW.head : Owned .u64 _ _ _ L) (i := j) (by rw [HL.out]; exact hjk))
              have hdrop : L.drop j = L.getD j 0 :: L.drop (j + 1) := by
                rw [List.drop_eq_getElem_cons (by rw [HL.out]; exact hjk)]
                simp [List.getD_eq_getElem?_getD, HL.out, hjk]
              have HDR := Lib.hid hdrop
              clear hdrop
              by_cases hb : g / 2 ^ j % 2 = 1
              · have hb1 : (g / 2 ^ j % 2 == 1) = true := by simpa using hb
                have HBB := Lib.hid (show bitOf g j = true from decide_eq_true hb)
                clear hb
                have hr := HRI.out
                rw [HDR.out] at hr
                have hq : (K ++ L.getD j 0 :: L.drop (j + 1)).getD K.length 0 = L.getD j 0 := by simp [List.getD_eq_getElem?_getD]
                have hfree := hr.free (by omega) (q := K.length) (by simp)
                rw [hq] at hfree
                have e1 : (K ++ L.getD j 0 :: L.drop (j + 1)).take K.length ++ (K ++ L.getD j 0 :: L.drop (j + 1)).drop (K.length + 1) = K ++ L.drop (j + 1) := by
                  rw [List.take_left, ← List.drop_drop, List.drop_left]
                  rfl
                rw [e1] at hfree
                have hlv := hr.lives (a := L.getD j 0) (by simp)
                have hrg := hr.range (a := L.getD j 0) (by simp)
                have hst := hfree.stale (by decide) (a := L.getD j 0) (by simp)
                have HFR := Lib.hid hfree
                have HLV := Lib.hid hlv
                have HST := Lib.hid hst
                clear hr hq hfree e1 hlv hst
                have HBT2 := Lib.hid (show ∀ m, m < j + 1 → (bitOf g m = true → L.getD m 0 ∈ G ++ [L.getD j 0]) ∧ (bitOf g m = false → L.getD m 0 ∈ K) from fun m hm => by
                  by_cases e : m = j
                  · subst e
                    exact ⟨fun _ => by simp, fun h => by rw [HBB.out] at h; cases h⟩
                  · have := HBT.out m (by omega)
                    exact ⟨fun h => List.mem_append_left _ (this.1 h), this.2⟩)
                generalize L.getD j 0 = a at *
                go_wp2_with fail
                refine (rec_free a wr H2.out.second (by omega) (by omega)).mono ?_
                rintro e w3 (⟨h, _⟩ | ⟨_, rfl, hl⟩)
                · rw [HLV.out] at h
                  cases h
                obtain ⟨F3, hS3⟩ := H2.out.swap.store hl
                have S3 := Lib.hid hS3.swap
                clear hl hS3 H2 cj
                have c3 := HCJ.out _ _ _ S3.out
                go_wp2_with fail
                refine (rec_free a w3 S3.out.second (by omega) (by omega)).mono ?_
                rintro e w4 (⟨_, rfl, rfl⟩ | ⟨h, _⟩)
                · have hgl : G.length ≤ 30 := by have := HLN.out; omega
                  go_wp2_with fail
                  go_roundw
                  case rel => exact ⟨j + 1, F3, _, K, G ++ [a], by omega, by go_num, by simp; omega, HFR.out, by have := HLN.out; simp; omega, HBT2.out, S3.out⟩
                  case measure => simp [intOf]; omega
                · rw [HST.out] at h
                  cases h
              · have hb1 : (g / 2 ^ j % 2 == 1) = false := by simpa using hb
                have HBB := Lib.hid (show bitOf g j = false from decide_eq_false hb)
                clear hb
                have HFR := Lib.hid (show RI 40 ((j + 1 : Nat) : Int) s' ((K ++ [L.getD j 0]) ++ L.drop (j + 1)) G V from by
                  have hr := HRI.out
                  rw [HDR.out] at hr
                  rw [List.append_assoc]
                  exact hr.mono (by omega))
                have HBT2 := Lib.hid (show ∀ m, m < j + 1 → (bitOf g m = true → L.getD m 0 ∈ G) ∧ (bitOf g m = false → L.getD m 0 ∈ K ++ [L.getD j 0]) from fun m hm => by
                  by_cases e : m = j
                  · subst e
                    exact ⟨fun h => (by rw [HBB.out] at h; cases h), fun _ => by simp⟩
                  · have := HBT.out m (by omega)
                    exact ⟨this.1, fun h => List.mem_append_left _ (this.2 h)⟩)
                go_wp2_with fail
                go_roundw
                case rel => exact ⟨j + 1, F2, s', K ++ [L.getD j 0], G, by omega, by go_num, rfl, HFR.out, by have := HLN.out; simp; omega, HBT2.out, H2.out⟩
                case measure => simp [intOf]; omega
            · obtain rfl : j = k := by omega
              have HRK := Lib.hid (show RI 40 (j : Int) s' K G V from by
                have hr := HRI.out
                rw [List.drop_eq_nil_of_le (by rw [HL.out]; exact Nat.le_refl _), List.append_nil] at hr
                exact hr)
              clear HRI
              go_wp2_with fail
              go_loopw [18] (fun i wr => ∃ (m : Nat) (F : Nat → Prop), m ≤ j ∧ i = .int .i64 m ∧ Sep w wr [obRow .u64 28 (.slice (some ⟨gb, 0, none⟩) j cap) L, obStore b F s']) (fun i _ => j - (intOf i).toNat)
              case atStart => exact ⟨0, F2, Nat.zero_le _, rfl, H2.out⟩
              case round =>
                obtain ⟨m, F4, hm, rfl, hS4⟩ := hrel
                have S4 := Lib.hid hS4
                clear hS4 H2
                by_cases hmj : m < j
                · have mg := u64_and1 (g / 2 ^ m)
                  have cj := Owned.at_ (S4.out.head : Owned .u64 _ _ _ L) (i := m) (by rw [HL.out]; exact hmj)
                  have hmm : L.getD m 0 ∈ L := by simp [List.getD_eq_getElem?_getD, HL.out, hmj]
                  have hmr := HI.out.range hmm
                  have HV := Lib.hid (fun (h : L.getD m 0 ∈ K) => (HRK.out.ver _ h).symm.trans ((HRK.out.ver _ h).trans (HR.out m (by rw [HL.out]; exact hmj))))
                  by_cases hb : g / 2 ^ m % 2 = 1
                  · have hb1 : (g / 2 ^ m % 2 == 1) = true := by simpa using hb
                    have hst := HRK.out.stale (by decide) ((HBT.out m hmj).1 (decide_eq_true hb))
                    have HST := Lib.hid hst
                    clear hb hst hmm HV
                    generalize L.getD m 0 = a at *
                    go_wp2_with fail
                    refine (get_stale b F4 s' a wr S4.out.second (by omega) (by omega) HST.out).mono ?_
                    simp only [ver0, Ver.value]
                    rintro e w5 ⟨rfl, b5⟩
                    have S5 := Lib.hid (S4.out.below b5)
                    clear b5 S4 cj
                    go_wp2_with fail
                    go_roundw
                    case rel => exact ⟨m + 1, F4, by omega, by go_num, S5.out.below ((Below.refl _ _).alloc (Nat.le_refl _) _)⟩
                    case measure => simp [intOf]; omega
                  · have hb1 : (g / 2 ^ m % 2 == 1) = false := by simpa using hb
                    have hk := (HBT.out m hmj).2 (decide_eq_false hb)
                    have HLV := Lib.hid (HRK.out.lives hk)
                    have hvv := (HRK.out.ver _ hk).trans (HR.out m (by rw [HL.out]; exact hmj))
                    have HVV := Lib.hid hvv
                    clear hb hk hmm HV hvv
                    generalize L.getD m 0 = a at *
                    go_wp2_with fail
                    refine (get_live b F4 s' a wr S4.out.second (by omega) (by omega) HLV.out).mono ?_
                    rw [HVV.out]
                    simp only [rowVer, Ver.value]
                    rintro e w5 ⟨rfl, hl⟩
                    obtain ⟨F5, hS5⟩ := S4.out.swap.store hl
                    have S5 := Lib.hid hS5.swap
                    clear hl hS5 S4 cj
                    go_wp2_with fail
                    go_roundw
                    case rel => exact ⟨m + 1, F5, by omega, by go_num, S5.out.below ((Below.refl _ _).alloc (Nat.le_refl _) _)⟩
                    case measure => simp [intOf]; omega
                · have HCN := Lib.hid (HRK.out.cnt)
                  have hkl : (K.length : Int) = (j : Int) - G.length := by have := HLN.out; omega
                  have HKL := Lib.hid hkl
                  have hall := all_cnt s'.p
                  rw [HRK.out.cnt] at hall
                  have HAL := Lib.hid hall
                  clear hkl hall
                  have HUS := Lib.hid (rec_used (b := b) (F := F4) (s := s') wr S4.out.second)
                  rw [HCN.out, HKL.out] at HUS
                  go_wp2_with fail
                  refine HUS.out.mono ?_
                  rintro e w5 ⟨rfl, hl⟩
                  obtain ⟨F5, hS5⟩ := S4.out.swap.store hl
                  have S5 := Lib.hid hS5
                  clear hl hS5 S4 HUS
                  go_wp2_with fail
                  refine (rec_links (b := b) (F := F5) (s := s'.listed) w5 S5.out.head).mono ?_
                  rintro e w6 ⟨sv, rfl, hO, hB, _⟩
                  obtain ⟨ra, rc, hrv⟩ : ∃ a c, sv = .slice a K.length c := by
                    obtain ⟨a, c, h, _⟩ := hO.form
                    have e1 : s'.listed.p.all'.length = K.length := by
                      have h1 := all_cnt s'.listed.p
                      rw [show s'.listed.p.sl = s'.p.sl from listed_sl _, HCN.out] at h1
                      exact h1
                    rw [e1] at h
                    exact ⟨a, c, h⟩
                  subst hrv
                  have B6 := bl_next S5.out.bel hB
                  have hKI : ((K.length : Nat) : Int) = (j : Int) - G.length := HKL.out
                  clear hO hB S5
                  go_wp2_with fail
                  refine (awake6_any _).mono ?_
                  rintro e w7 ⟨rfl, b7⟩
                  go_wp2_with fail
                  go_ret
                  exact ⟨rfl, bl_next B6 b7⟩

end Go.Proofs.Ytjojbfgppgnmjaa
