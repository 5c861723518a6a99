/- PoolWears holds: a slot may be taken once more than the greatest tag says, and then never again; the others go on. No condition. -/
import Derived.Test.YtfjoghbkfkbbdaaQ0
namespace Go.Proofs.Ytfjoghbkfkbbdaa
open Go.RowKit Go.ChangeShapes

/-- n slots, the first c of which are worn. -/
def wb (n m c : Nat) : List Slot := List.replicate c ⟨m, false⟩ ++ List.replicate (n - c) slot0
def wsl (n m c t : Nat) : List Slot := (wb n m c).set c ⟨t, false⟩
def ws (n m c t : Nat) : PS := ⟨m, wsl n m c t, dn n (n - c), true, c⟩
def us (n m c t : Nat) : PS := ⟨m, (wb n m c).set c ⟨t, true⟩, dn n (n - c - 1), true, c⟩
theorem wb_len {n m c : Nat} (h : c ≤ n) : (wb n m c).length = n := by simp [wb]; omega
theorem wb_no (n m c : Nat) : ∀ x ∈ wb n m c, x.taken = false := by
  intro x hx
  simp only [wb, List.mem_append] at hx
  rcases hx with hx | hx
  · rw [List.eq_of_mem_replicate hx]
  · rw [List.eq_of_mem_replicate hx]
    rfl
theorem wsl_no (n m c t : Nat) : ∀ x ∈ wsl n m c t, x.taken = false := by
  intro x hx
  rcases List.mem_or_eq_of_mem_set hx with hx | rfl
  · exact wb_no n m c x hx
  · rfl
theorem no_cnt {l : List Slot} (h : ∀ x ∈ l, x.taken = false) : cnt l = 0 := by
  unfold cnt
  rw [List.countP_eq_zero]
  intro x hx
  simp [h x hx]
theorem no_live {s : PS} (h : ∀ x ∈ s.sl, x.taken = false) (x : Int) : s.live x = false := by
  cases hl : s.live x
  · rfl
  · obtain ⟨i, hi, _, ht, _⟩ := live_yes hl
    have := h s.sl[i] (List.getElem_mem hi)
    rw [List.getD_eq_getElem?_getD, List.getElem?_eq_getElem hi] at ht
    simp [this] at ht
theorem ws_new (n m : Nat) : (PS.new n m).listed = ws n m 0 0 := by
  have e : (List.replicate n slot0).set 0 ⟨0, false⟩ = List.replicate n slot0 := by
    match n with
    | 0 => rfl
    | n + 1 => rfl
  simp [PS.new, PS.listed, ws, wsl, wb, e]
theorem ws_at {n m c t : Nat} (h : c < n) : (wsl n m c t).getD c slot0 = ⟨t, false⟩ := by
  simp [wsl, List.getD_eq_getElem?_getD, wb_len (Nat.le_of_lt h), h]
theorem us_at {n m c t : Nat} (h : c < n) : (us n m c t).sl.getD c slot0 = ⟨t, true⟩ := by
  simp [us, List.getD_eq_getElem?_getD, wb_len (Nat.le_of_lt h), h]
theorem dn_last {n c : Nat} (h : c < n) : dn n (n - c) = dn n (n - c - 1) ++ [(c : Int)] := by
  have e : dn n (n - c) = dn n (n - c - 1) ++ [(n : Int) - 1 - ((n - c - 1 : Nat) : Int)] := by
    rw [show n - c = (n - c - 1) + 1 by omega]
    rfl
  rw [e, show (n : Int) - 1 - ((n - c - 1 : Nat) : Int) = c by omega]
theorem ws_take {n m c t : Nat} (h : c < n) : (ws n m c t).take (dn n (n - c - 1)) c = us n m c t := by
  unfold PS.take
  show PS.mk _ ((wsl n m c t).set c ⟨((wsl n m c t).getD c slot0).tag, true⟩) _ _ _ = _
  rw [ws_at h]
  simp [wsl, us, ws]
def lk (c t : Nat) : Int := (t : Int) * 131072 + c + 1
theorem ws_link {n m c t : Nat} (h : c < n) : (ws n m c t).link c = lk c t := by
  unfold PS.link
  rw [show ((ws n m c t).sl.getD c slot0) = _ from ws_at h]
  rfl
theorem us_link {n m c t : Nat} (h : c < n) : (us n m c t).link c = lk c t := by
  unfold PS.link
  rw [us_at h]
  rfl
theorem us_live {n m c t : Nat} (h : c < n) (hn : n ≤ 5) : (us n m c t).live (lk c t) = true := by
  rw [live_in (i := c) (by unfold lk; omega) (by simp [us, wb_len (Nat.le_of_lt h)]; exact h), us_at h, us_link h]
  simp
theorem us_cnt {n m c t : Nat} (h : c < n) : cnt (us n m c t).sl = 1 := by
  have h0 := no_cnt (wb_no n m c)
  unfold cnt at h0 ⊢
  show List.countP _ ((wb n m c).set c ⟨t, true⟩) = 1
  rw [List.countP_set (by rw [wb_len (Nat.le_of_lt h)]; exact h), h0]
  simp
theorem wb_set {n m c : Nat} (h : c < n) : (wb n m c).set c ⟨m, false⟩ = wb n m (c + 1) := by
  unfold wb
  rw [List.set_append_right _ _ (by simp)]
  obtain ⟨r, hr⟩ : ∃ r, n - c = r + 1 := ⟨n - c - 1, by omega⟩
  rw [hr, show n - (c + 1) = r by omega, List.replicate_succ' (n := c)]
  simp [List.replicate_succ]
theorem wb_end {n m c : Nat} : (wb n m c).set c ⟨0, false⟩ = wb n m c := by
  unfold wb
  rw [List.set_append_right _ _ (by simp)]
  simp
  match n - c with
  | 0 => rfl
  | r + 1 => rfl
theorem us_give {n m c t : Nat} (h : c < n) (ht : t < m) : (us n m c t).give c = ws n m c (t + 1) := by
  unfold PS.give
  rw [us_at h, if_neg (by show ¬ (t : Int) = m; omega)]
  simp [us, ws, wsl]
  exact (dn_last h).symm
theorem us_wear {n m c : Nat} (h : c < n) : (us n m c m).give c = ws n m (c + 1) 0 := by
  unfold PS.give
  have e : (us n m c m).most = m := rfl
  rw [us_at h, e, if_pos rfl]
  simp [us, ws, wsl]
  refine ⟨by rw [wb_set h]; exact wb_end.symm, by congr 1⟩
/-- The next place. -/
theorem next_place {M k : Nat} (hM : 0 < M) : (k % M + 1 < M → (k + 1) / M = k / M ∧ (k + 1) % M = k % M + 1) ∧ (k % M + 1 = M → (k + 1) / M = k / M + 1 ∧ (k + 1) % M = 0) := by
  have e := Nat.div_add_mod k M
  refine ⟨fun h => ?_, fun h => ?_⟩
  · have e2 : k + 1 = (k % M + 1) + M * (k / M) := by omega
    refine ⟨?_, ?_⟩
    · rw [e2, Nat.add_mul_div_left _ _ hM, Nat.div_eq_of_lt h, Nat.zero_add]
    · rw [e2, Nat.add_mul_mod_self_left, Nat.mod_eq_of_lt h]
  · have e2 : k + 1 = M * (k / M + 1) := by rw [Nat.mul_add]; omega
    refine ⟨?_, ?_⟩
    · rw [e2, Nat.mul_div_cancel_left _ hM]
    · rw [e2, Nat.mul_mod_right]
def seen (M : Nat) : Nat → List Int
  | 0 => []
  | k + 1 => seen M k ++ [lk (k / M) (k % M)]
theorem seen_len (M k : Nat) : (seen M k).length = k := by
  induction k with
  | zero => rfl
  | succ k ih => simp [seen, ih]
theorem seen_at {M k i : Nat} (h : i < k) : (seen M k).getD i 0 = lk (i / M) (i % M) := by
  induction k with
  | zero => omega
  | succ k ih =>
    by_cases hi : i < k
    · have := ih hi
      rw [seen, List.getD_eq_getElem?_getD, List.getElem?_append_left (by rw [seen_len]; exact hi)]
      simpa [List.getD_eq_getElem?_getD] using this
    · obtain rfl : i = k := by omega
      simp [seen, List.getD_eq_getElem?_getD, seen_len]
theorem lk_ne {M i k : Nat} (hi : i < k) (hM : i / M ≤ 5) (hM2 : k / M ≤ 5) : ¬ lk (i / M) (i % M) = lk (k / M) (k % M) := by
  intro e
  unfold lk at e
  have h1 : i / M = k / M := by
    generalize i / M = a at *
    generalize k / M = b at *
    generalize i % M = c at *
    generalize k % M = d at *
    omega
  have h2 : i % M = k % M := by
    rw [h1] at e
    omega
  have e1 := Nat.div_add_mod i M
  have e2 := Nat.div_add_mod k M
  rw [h1, h2] at e1
  omega
theorem lk_range {c t : Nat} (hc : c ≤ 5) (ht : t ≤ 40) : 0 ≤ lk c t ∧ lk c t ≤ 18446744073709551615 ∧ (lk c t % 131072 - 1).toNat = c := by
  unfold lk
  omega

set_option maxRecDepth 100000 in
set_option maxHeartbeats 3200000 in
theorem poolWears_walk {a0 a1 : Int} {w : World} (_w0 : (Lit.int .i64 a0).wf = true) (_w1 : (Lit.int .i64 a1).wf = true) :
    Calls Try.prog 10 #[.int .i64 a0, .int .i64 a1] w fun e w' => e = .returned (.bool true) ∧ Below w.heap.size w w' := by
  have m0 := i64_and255 a0
  have m1 := i64_and255 a1
  obtain ⟨x, hx, hx2⟩ : ∃ x : Nat, a0 % 256 = x ∧ x < 256 := ⟨(a0 % 256).toNat, by omega, by omega⟩
  obtain ⟨y, hy, hy2⟩ : ∃ x : Nat, a1 % 256 = x ∧ x < 256 := ⟨(a1 % 256).toNat, by omega, by omega⟩
  rw [hx] at m0
  rw [hy] at m1
  clear hx hy _w0 _w1
  have HN := Lib.hid (fun n (m : Nat) w h0 h hm => pool_new n m w h0 h (by omega) hm)
  go_enter Try.func10, Try.ntmps10
  go_wp2_with fail
  obtain ⟨n, hn, n1, n2⟩ : ∃ n : Nat, ((n : Int) = (x : Int) % 5 + 1) ∧ 1 ≤ n ∧ n ≤ 5 := ⟨x % 5 + 1, by omega, by omega, by omega⟩
  obtain ⟨m, hm, hm2⟩ : ∃ m : Nat, ((m : Int) = (y : Int) % 41) ∧ m ≤ 40 := ⟨y % 41, by omega, by omega⟩
  rw [← hn, ← hm]
  refine (HN.out n m w n1 (by omega) (by omega)).mono ?_
  rintro e w1 ⟨b, F1, rfl, p1, B1, f1⟩
  have S1 : Hid (Sep w w1 [obRow .u64 39 (.slice none 0 0) [], obPool b F1 (PS.new n m)]) := Lib.hid (((Sep.nil w).new (A := obPool b F1 (PS.new n m)) B1 p1 f1).row_nil _ _)
  clear p1 B1 f1 HN hn hm m0 m1 hx2 hy2
  obtain ⟨N, hN, hN2⟩ : ∃ N : Nat, ((n : Int) * ((m : Int) + 1) = N) ∧ N = n * (m + 1) := ⟨n * (m + 1), by push_cast; rfl, rfl⟩
  have hNb : N ≤ 205 := by
    rw [hN2]
    exact Nat.mul_le_mul n2 (show m + 1 ≤ 41 by omega)
  have HNN := Lib.hid hN2
  clear hN2
  go_wp2_with fail
  go_loopw [7, 8] (fun ov i wr => ∃ (k : Nat) (F : Nat → Prop) (s : PS), k ≤ N ∧ i = .int .i64 k ∧ s.listed = ws n m (k / (m + 1)) (k % (m + 1)) ∧ Sep w wr [obRow .u64 39 ov (seen (m + 1) k), obPool b F s]) (fun _ i _ => N - (intOf i).toNat)
  case atStart => exact ⟨0, F1, _, Nat.zero_le _, rfl, by rw [Nat.zero_div, Nat.zero_mod]; exact ws_new n m, S1.out⟩
  case round =>
    obtain ⟨k, F, s, hk, rfl, hs, hS⟩ := hrel
    have HS := Lib.hid hS
    have HE := Lib.hid hs
    clear hS hs S1
    by_cases hlt : k < N
    · have hcn : k / (m + 1) < n := by
        rw [Nat.div_lt_iff_lt_mul (by omega), ← HNN.out]
        exact hlt
      have htm : k % (m + 1) < m + 1 := Nat.mod_lt _ (by omega)
      have HNX := Lib.hid (next_place (M := m + 1) (k := k) (by omega))
      have HSN := Lib.hid (fun i (hi : i < k) => (show ((seen (m + 1) k).getD i 0 == lk (k / (m + 1)) (k % (m + 1))) = false from by
        rw [seen_at hi]
        have := lk_ne (M := m + 1) hi (Nat.le_trans (Nat.div_le_div_right (Nat.le_of_lt hi)) (by omega)) (by omega)
        simp [this]))
      have HSY : Hid (seen (m + 1) (k + 1) = seen (m + 1) k ++ [lk (k / (m + 1)) (k % (m + 1))]) := Lib.hid rfl
      have HSL := Lib.hid (seen_len (m + 1) k)
      obtain ⟨c, hc⟩ : ∃ c, k / (m + 1) = c := ⟨_, rfl⟩
      obtain ⟨t, ht⟩ : ∃ t, k % (m + 1) = t := ⟨_, rfl⟩
      rw [hc, ht] at HE HSN HSY
      rw [hc, ht] at HNX
      rw [hc] at hcn
      rw [ht] at htm
      clear hc ht
      have HL := Lib.hid (ws_link (m := m) (t := t) hcn)
      have HT := Lib.hid (ws_take (m := m) (t := t) hcn)
      have HF : Hid (s.listed.free = dn n (n - c - 1) ++ [(c : Int)]) := Lib.hid (by rw [HE.out]; exact dn_last hcn)
      have HR := lk_range (c := c) (t := t) (by omega) (by omega)
      have HUL := Lib.hid (us_live (m := m) (t := t) hcn n2)
      have HUC := Lib.hid (us_cnt (m := m) (t := t) hcn)
      generalize lk c t = z at *
      obtain ⟨z0, z1, hz⟩ := HR
      have HZ := Lib.hid hz
      clear hz
      go_wp2_with fail
      refine (take_some b F s _ c wr HS.out.second HF.out).mono ?_
      rw [HE.out, HL.out, HT.out]
      rintro e w2 ⟨rfl, hl⟩
      obtain ⟨F2, hS2⟩ := HS.out.swap.pool hl
      have S2 := Lib.hid hS2.swap
      clear hl hS2 HS HE HL HT HF
      go_wp2_with fail
      refine (pool_used b F2 _ w2 S2.out.second).mono ?_
      rw [HUC.out]
      rintro e w3 ⟨rfl, hl⟩
      obtain ⟨F3, hS3⟩ := S2.out.swap.pool hl
      have S3 : Hid (Sep w w3 [obRow .u64 39 u7 (seen (m + 1) k), obPool b F3 (us n m c t)]) := Lib.hid hS3.swap
      clear hl hS3 S2 HUC
      obtain ⟨ra, rc, hrf⟩ : ∃ a cap, u7 = .slice a k cap := by
        obtain ⟨a, cap, h, _⟩ := Owned.form (S3.out.head : Owned .u64 _ _ u7 (seen (m + 1) k))
        rw [seen_len] at h
        exact ⟨a, cap, h⟩
      subst hrf
      go_wp2_with fail
      go_loop [11] (fun j => ∃ jj : Nat, jj ≤ k ∧ j = .int .i64 jj) (fun j => k - (intOf j).toNat)
      case atStart => exact ⟨0, Nat.zero_le _, rfl⟩
      case round =>
        obtain ⟨jj, hjj, rfl⟩ := hrel
        by_cases hjk : jj < k
        · obtain ⟨g, rfl⟩ : ∃ g, ra = some ⟨g, 0, none⟩ := by
            obtain ⟨a, cap, h, _, h2, h3⟩ := Owned.form (S3.out.head : Owned .u64 _ _ _ (seen (m + 1) k))
            simp only [Value.slice.injEq] at h
            obtain ⟨rfl, _, rfl⟩ := h
            cases ra with
            | none => have := (h2 rfl).1; rw [seen_len] at this; omega
            | some g => exact ⟨g.block, by rw [← (h3 g rfl).1]⟩
          have cj := Owned.at_ (S3.out.head : Owned .u64 _ _ _ (seen (m + 1) k)) (i := jj) (by rw [HSL.out]; exact hjk)
          have hne := HSN.out jj hjk
          generalize (seen (m + 1) k).getD jj 0 = q at *
          go_wp2_with fail
          go_round
          case rel => exact ⟨jj + 1, by omega, by go_num⟩
          case measure => simp [intOf]; omega
        · obtain rfl : jj = k := by omega
          go_wp2_with (at_builtin; refine walk_append (zero := .int .u64 0) (base := 0) (n := (seen (m + 1) jj).length) (m := 1) (xs := (seen (m + 1) jj).map (Value.int .u64)) (ys := [.int .u64 z]) rfl _ _ rfl Try.underlying48 info_u64 rfl Nat.zero_lt_one (Nat.le_of_ble_eq_true rfl) rfl ?c1 rfl ?c2 (ints_one .u64 [_]) ?c3 ?c4 ?_)
          case c1 => exact World.ownsRow.alloc S3.out.head _
          case c2 => exact SrcAt.one (blk_at (by simp))
          case c3 => rw [HSL.out]; omega
          intro v' w4 hA
          have S4 := Lib.hid (S3.out.append (ys := [z]) ((Mod.refl _ _).alloc _) hA rfl rfl)
          rw [← HSY.out] at S4
          clear hA S3
          go_wp2_with fail
          refine (pool_give b F3 (us n m c t) z w4 S4.out.second z0 z1).mono ?_
          rw [HZ.out]
          rintro e w5 (⟨h, _⟩ | ⟨_, rfl, hl⟩)
          · rw [HUL.out] at h
            cases h
          have hgv : (us n m c t).give c = ws n m ((jj + 1) / (m + 1)) ((jj + 1) % (m + 1)) := by
            by_cases htt : t + 1 < m + 1
            · rw [us_give hcn (by omega), (HNX.out.1 htt).1, (HNX.out.1 htt).2]
            · have e2 : t + 1 = m + 1 := by omega
              rw [(HNX.out.2 e2).1, (HNX.out.2 e2).2]
              obtain rfl : t = m := by omega
              exact us_wear hcn
          rw [hgv] at hl
          obtain ⟨F5, hS5⟩ := S4.out.swap.pool hl
          have S5 := Lib.hid hS5.swap
          clear hl hS5 S4 hgv
          go_wp2_with fail
          refine (give_stale b F5 _ z w5 S5.out.second z0 z1 (no_live (wsl_no _ _ _ _) z)).mono ?_
          rintro e w6 ⟨rfl, rfl⟩
          go_wp2_with fail
          go_roundw
          case rel => exact ⟨jj + 1, F5, _, by omega, by go_num, rfl, S5.out⟩
          case measure => simp [intOf]; omega
    · obtain rfl : k = N := by omega
      have hcn : k / (m + 1) = n := by rw [HNN.out]; exact Nat.mul_div_cancel _ (by omega)
      have htm : k % (m + 1) = 0 := by rw [HNN.out]; exact Nat.mul_mod_left _ _
      rw [hcn, htm] at HE
      clear hcn htm HNN
      have hfr : s.listed.free = [] := by
        rw [HE.out]
        simp [ws, dn]
      have HFR := Lib.hid hfr
      clear hfr
      have e1 : (ws n m n 0).listed = ws n m n 0 := rfl
      have e2 : (ws n m n 0).worn = n := rfl
      have e3 : (ws n m n 0).free = [] := by simp [ws, dn]
      have e4 : cnt (ws n m n 0).sl = 0 := no_cnt (wsl_no _ _ _ _)
      have HEE := Lib.hid (And.intro e1 (And.intro e2 (And.intro e3 e4)))
      clear e1 e2 e3 e4
      go_wp2_with fail
      refine (take_full b F s wr HS.out.second HFR.out).mono ?_
      rw [HE.out]
      generalize ws n m n 0 = p at *
      rintro e w2 ⟨rfl, hl⟩
      obtain ⟨F2, hS2⟩ := HS.out.swap.pool hl
      have S2 := Lib.hid hS2
      clear hl hS2 HS HE HFR
      go_wp2_with fail
      refine (pool_worn b F2 p w2 S2.out.head).mono ?_
      rw [HEE.out.2.1]
      rintro e w3 ⟨rfl, rfl⟩
      go_wp2_with fail
      refine (pool_free b F2 p w2 S2.out.head).mono ?_
      rw [HEE.out.1, HEE.out.2.2.1]
      rintro e w3 ⟨rfl, hl⟩
      obtain ⟨F3, hS3⟩ := S2.out.pool hl
      have S3 := Lib.hid hS3
      clear hl hS3 S2
      go_wp2_with fail
      refine (pool_used b F3 p w3 S3.out.head).mono ?_
      rw [HEE.out.2.2.2]
      rintro e w4 ⟨rfl, hl⟩
      obtain ⟨F4, hS4⟩ := S3.out.pool hl
      have B4 := hS4.bel
      clear hl hS4 S3
      go_wp2_with fail
      refine (awake3_any w4).mono ?_
      rintro e w7 ⟨rfl, b7⟩
      go_wp2_with fail
      go_ret
      exact ⟨rfl, bl_next B4 b7⟩

end Go.Proofs.Ytfjoghbkfkbbdaa
