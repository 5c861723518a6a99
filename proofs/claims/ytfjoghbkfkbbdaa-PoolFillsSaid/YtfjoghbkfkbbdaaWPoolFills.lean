/- PoolFills holds: as many slots are taken as there are, the least first, each its own; one that is given back is the next one that is taken. No condition. -/
import Derived.Test.YtfjoghbkfkbbdaaQ0
namespace Go.Proofs.Ytfjoghbkfkbbdaa
open Go.RowKit Go.ChangeShapes

def tk0 : Slot := ⟨0, true⟩
/-- The pool of n slots, k of which are taken. -/
def fsl (n k : Nat) : List Slot := List.replicate k tk0 ++ List.replicate (n - k) slot0
def fs (n k : Nat) : PS := ⟨100, fsl n k, dn n (n - k), true, 0⟩
theorem fsl_len {n k : Nat} (h : k ≤ n) : (fsl n k).length = n := by simp [fsl]; omega
theorem fs_new (n : Nat) : (PS.new n 100).listed = fs n 0 := by simp [PS.new, PS.listed, fs, fsl]
theorem fs_free {n k : Nat} (h : k < n) : (fs n k).free = dn n (n - k - 1) ++ [(k : Int)] := by
  have e : dn n (n - k) = dn n (n - k - 1) ++ [(n : Int) - 1 - ((n - k - 1 : Nat) : Int)] := by
    rw [show n - k = (n - k - 1) + 1 by omega]
    rfl
  show dn n (n - k) = _
  rw [e, show (n : Int) - 1 - ((n - k - 1 : Nat) : Int) = k by omega]
theorem fs_free' (n : Nat) : (fs n n).free = [] := by simp [fs, dn]
theorem fs_at {n k : Nat} : (fsl n k).getD k slot0 = slot0 := by
  rw [fsl, List.getD_eq_getElem?_getD, List.getElem?_append_right (by simp), List.getElem?_replicate]
  split <;> rfl
theorem fsl_set {n k : Nat} (h : k < n) : (fsl n k).set k tk0 = fsl n (k + 1) := by
  unfold fsl
  rw [List.set_append_right _ _ (by simp)]
  obtain ⟨m, hm⟩ : ∃ m, n - k = m + 1 := ⟨n - k - 1, by omega⟩
  rw [hm, show n - (k + 1) = m by omega, List.replicate_succ' (n := k)]
  simp [List.replicate_succ]
theorem fs_take {n k : Nat} (h : k < n) : (fs n k).take (dn n (n - k - 1)) k = fs n (k + 1) := by
  unfold PS.take
  show PS.mk 100 ((fsl n k).set k ⟨((fsl n k).getD k slot0).tag, true⟩) _ true 0 = _
  rw [fs_at, show (⟨slot0.tag, true⟩ : Slot) = tk0 from rfl, fsl_set h, show n - k - 1 = n - (k + 1) by omega]
  rfl
theorem fs_link {n k : Nat} : (fs n k).link k = (k : Int) + 1 := by
  unfold PS.link
  rw [show ((fs n k).sl.getD k slot0) = slot0 from fs_at]
  simp [slot0]
theorem fs_listed (n k : Nat) : (fs n k).listed = fs n k := listed_yes rfl
def ones : Nat → List Int
  | 0 => []
  | k + 1 => ones k ++ [(k : Int) + 1]
theorem ones_len (k : Nat) : (ones k).length = k := by
  induction k with
  | zero => rfl
  | succ k ih => simp [ones, ih]
theorem ones_at {k i : Nat} (h : i < k) : (ones k).getD i 0 = (i : Int) + 1 := by
  induction k with
  | zero => omega
  | succ k ih =>
    by_cases hi : i < k
    · have := ih hi
      rw [ones, List.getD_eq_getElem?_getD, List.getElem?_append_left (by rw [ones_len]; exact hi)]
      simpa [List.getD_eq_getElem?_getD] using this
    · obtain rfl : i = k := by omega
      simp [ones, List.getD_eq_getElem?_getD, ones_len]
theorem fs_end_at {n i : Nat} (h : i < n) : (fs n n).sl.getD i slot0 = tk0 := by
  simp [fs, fsl, List.getD_eq_getElem?_getD, h]
theorem fs_end_live {n i : Nat} (h : i < n) (hn : n ≤ 1000) : (fs n n).live ((i : Int) + 1) = true := by
  rw [live_in (i := i) (by omega) (by rw [show (fs n n).sl = fsl n n from rfl, fsl_len (Nat.le_refl _)]; exact h), fs_end_at h]
  have e : (fs n n).link i = (i : Int) + 1 := by
    unfold PS.link
    rw [fs_end_at h]
    simp [tk0]
  rw [e]
  simp [tk0]
def gs (n i : Nat) : PS := ⟨100, (fsl n n).set i ⟨1, false⟩, [(i : Int)], true, 0⟩
def hs (n i : Nat) : PS := ⟨100, (fsl n n).set i ⟨1, true⟩, [], true, 0⟩
theorem fs_give {n i : Nat} (h : i < n) : (fs n n).give i = gs n i := by
  unfold PS.give
  rw [if_neg (by rw [fs_end_at h]; show ¬ (0 : Int) = 100; decide), fs_end_at h]
  simp [fs, gs, dn, tk0]
theorem gs_at {n i : Nat} (h : i < n) : (gs n i).sl.getD i slot0 = ⟨1, false⟩ := by
  simp [gs, List.getD_eq_getElem?_getD, fsl_len (Nat.le_refl n), h]
theorem gs_take {n i : Nat} (h : i < n) : (gs n i).take [] i = hs n i := by
  unfold PS.take
  rw [gs_at h]
  simp [gs, hs]
theorem gs_link {n i : Nat} (h : i < n) : (gs n i).link i = 131072 + (i : Int) + 1 := by
  unfold PS.link
  rw [gs_at h]
  simp
theorem hs_at {n i : Nat} (h : i < n) : (hs n i).sl.getD i slot0 = ⟨1, true⟩ := by
  simp [hs, List.getD_eq_getElem?_getD, fsl_len (Nat.le_refl n), h]
theorem hs_len (n i : Nat) : (hs n i).sl.length = n := by simp [hs, fsl_len]
theorem hs_old {n i : Nat} (h : i < n) (hn : n ≤ 1000) : (hs n i).live ((i : Int) + 1) = false := by
  rw [live_in (i := i) (by omega) (by rw [hs_len]; exact h), hs_at h]
  simp only [PS.link, hs_at h]
  simp
  omega
theorem hs_new {n i : Nat} (h : i < n) (hn : n ≤ 1000) : (hs n i).live (131072 + (i : Int) + 1) = true := by
  rw [live_in (i := i) (by omega) (by rw [hs_len]; exact h), hs_at h]
  have e : (hs n i).link i = 131072 + (i : Int) + 1 := by
    unfold PS.link
    rw [hs_at h]
    simp
  rw [e]
  simp
theorem hs_cnt {n i : Nat} (h : i < n) : cnt (hs n i).sl = n := by
  unfold cnt hs
  rw [List.countP_set (by rw [fsl_len (Nat.le_refl _)]; exact h)]
  have e : (fsl n n)[i]'(by rw [fsl_len (Nat.le_refl _)]; exact h) = tk0 := by simp [fsl]
  rw [e]
  simp [fsl, tk0, List.countP_replicate]
  omega

set_option maxRecDepth 100000 in
set_option maxHeartbeats 3200000 in
theorem poolFills_walk {a0 a1 : Int} {w : World} (_w0 : (Lit.int .i64 a0).wf = true) (_w1 : (Lit.int .i64 a1).wf = true) :
    Calls Try.prog 9 #[.int .i64 a0, .int .i64 a1] w fun e w' => e = .returned (.bool true) ∧ Below w.heap.size w w' := by
  have m0 := i64_and255 a0
  have m1 := i64_and65535 a1
  obtain ⟨x, hx, hx2⟩ : ∃ x : Nat, a0 % 256 = x ∧ x < 256 := ⟨(a0 % 256).toNat, by omega, by omega⟩
  obtain ⟨y, hy⟩ : ∃ x : Nat, a1 % 65536 = x := ⟨(a1 % 65536).toNat, by omega⟩
  rw [hx] at m0
  rw [hy] at m1
  clear hx hy _w0 _w1
  have HN := Lib.hid (fun n w h0 h => pool_new n 100 w h0 h (by decide) (by decide))
  go_enter Try.func9, Try.ntmps9
  go_wp2_with fail
  obtain ⟨n, hn, n1, n2⟩ : ∃ n : Nat, ((n : Int) = (x : Int) % 200 + 1) ∧ 1 ≤ n ∧ n ≤ 200 := ⟨x % 200 + 1, by omega, by omega, by omega⟩
  rw [← hn]
  refine (HN.out n w n1 (by omega)).mono ?_
  rintro e w1 ⟨b, F1, rfl, p1, B1, f1⟩
  have S1 : Hid (Sep w w1 [obRow .u64 39 (.slice none 0 0) [], obPool b F1 (PS.new n 100)]) := Lib.hid (((Sep.nil w).new (A := obPool b F1 (PS.new n 100)) B1 p1 f1).row_nil _ _)
  clear p1 B1 f1 HN hn m0
  go_wp2_with fail
  go_loopw [7, 8] (fun ov i wr => ∃ (k : Nat) (F : Nat → Prop) (s : PS), k ≤ n ∧ i = .int .i64 k ∧ s.listed = fs n k ∧ Sep w wr [obRow .u64 39 ov (ones k), obPool b F s]) (fun _ i _ => n - (intOf i).toNat)
  case atStart => exact ⟨0, F1, _, Nat.zero_le _, rfl, fs_new n, S1.out⟩
  case round =>
    obtain ⟨k, F, s, hk, rfl, hs, hS⟩ := hrel
    have HS := Lib.hid hS
    have HE := Lib.hid hs
    clear hS hs S1
    by_cases hlt : k < n
    · have HL := Lib.hid (fs_link (n := n) (k := k))
      have HT := Lib.hid (fs_take hlt)
      have HO := Lib.hid (ones_len k)
      have HF := Lib.hid (fs_free hlt)
      go_wp2_with fail
      refine (take_some b F s (dn n (n - k - 1)) k wr HS.out.second (by rw [HE.out, HF.out])).mono ?_
      rw [HE.out, HL.out, HT.out]
      rintro e w2 ⟨rfl, hl⟩
      obtain ⟨F2, hS2⟩ := HS.out.swap.pool hl
      have S2 := Lib.hid hS2.swap
      clear hl hS2 HS HE HL HT HF
      have hu := word_unlink ((k : Int) + 1) w2 (by omega) (by omega)
      rw [show ((k : Int) + 1) % 131072 - 1 = k by omega, show ((k : Int) + 1) / 131072 % 65536 = 0 by omega, marked_no (by omega) (by omega)] at hu
      go_wp2_with fail
      refine hu.mono ?_
      rintro e w3 ⟨rfl, rfl⟩
      clear hu
      go_wp2_with (at_builtin; refine walk_append (zero := .int .u64 0) (base := 0) (n := (ones k).length) (m := 1) (xs := (ones k).map (Value.int .u64)) (ys := [.int .u64 ((k : Int) + 1)]) rfl _ _ rfl Try.underlying48 info_u64 rfl Nat.zero_lt_one (Nat.le_of_ble_eq_true rfl) rfl ?c1 rfl ?c2 (ints_one .u64 [_]) ?c3 ?c4 ?_)
      case c1 => exact World.ownsRow.alloc S2.out.head _
      case c2 => exact SrcAt.one (blk_at (by simp))
      case c3 => rw [HO.out]; omega
      case c4 => exact Nat.zero_le _
      intro v' w4 hA
      have S4 := Lib.hid (S2.out.append (ys := [(k : Int) + 1]) ((Mod.refl _ _).alloc _) hA rfl rfl)
      clear hA S2
      go_wp2_with fail
      go_roundw
      case rel => exact ⟨k + 1, F2, fs n (k + 1), by omega, by go_num, fs_listed _ _, S4.out⟩
      case measure => simp [intOf]; omega
    · obtain rfl : k = n := by omega
      obtain ⟨q, hq, hqk⟩ : ∃ q : Nat, (y : Int) % (k : Int) = q ∧ q < k := ⟨y % k, by omega, Nat.mod_lt _ (by omega)⟩
      obtain ⟨g, cap, rfl⟩ : ∃ g cap, u7 = .slice (some ⟨g, 0, none⟩) k cap := by
        obtain ⟨a, cap, h, _, h2, h3⟩ := Owned.form (HS.out.head : Owned .u64 _ _ u7 (ones k))
        rw [ones_len] at h h2
        cases a with
        | none => have := (h2 rfl).1; omega
        | some g => exact ⟨g.block, cap, by rw [h, ← (h3 g rfl).1]⟩
      have HC := Lib.hid (fun W F s (hW : Sep w W [obRow .u64 39 (.slice (some ⟨g, 0, none⟩) k cap) (ones k), obPool b F s]) => (show W.cell? ⟨g, q, none⟩ = some (.int .u64 ((q : Int) + 1)) from by
        have := Owned.at_ (hW.head : Owned .u64 _ _ _ (ones k)) (i := q) (by rw [ones_len]; exact hqk)
        rw [ones_at hqk] at this
        exact this))
      have HF := Lib.hid (take_full b F s wr HS.out.second (by rw [HE.out]; exact fs_free' k))
      go_wp2_with fail
      refine HF.out.mono ?_
      rw [HE.out]
      rintro e w2 ⟨rfl, hl⟩
      obtain ⟨F2, hS2⟩ := HS.out.swap.pool hl
      have S2 := Lib.hid hS2.swap
      clear hl hS2 HS HE HF
      have c2 := HC.out _ _ _ S2.out
      go_wp2_with fail
      refine (pool_give b F2 (fs k k) ((q : Int) + 1) w2 S2.out.second (by omega) (by omega)).mono ?_
      rintro e w3 (⟨h, _⟩ | ⟨_, rfl, hl⟩)
      · rw [fs_end_live hqk (by omega)] at h
        cases h
      rw [show (((q : Int) + 1) % 131072 - 1).toNat = q by omega, fs_give hqk] at hl
      obtain ⟨F3, hS3⟩ := S2.out.swap.pool hl
      have S3 := Lib.hid hS3.swap
      clear hl hS3 S2 c2
      have c3 := HC.out _ _ _ S3.out
      go_wp2_with fail
      refine (pool_free b F3 (gs k q) w3 S3.out.second).mono ?_
      rintro e w4 ⟨rfl, hl⟩
      rw [show (gs k q).listed = gs k q from rfl] at hl
      rw [show ((gs k q).listed.free.length : Int) = 1 from rfl]
      obtain ⟨F4, hS4⟩ := S3.out.swap.pool hl
      have S4 := Lib.hid hS4.swap
      clear hl hS4 S3 c3
      go_wp2_with fail
      refine (take_some b F4 (gs k q) [] q w4 S4.out.second rfl).mono ?_
      rw [show (gs k q).listed = gs k q from rfl, gs_link hqk, gs_take hqk]
      rintro e w5 ⟨rfl, hl⟩
      obtain ⟨F5, hS5⟩ := S4.out.swap.pool hl
      have S5 := Lib.hid hS5.swap
      clear hl hS5 S4
      have c5 := HC.out _ _ _ S5.out
      have hu := word_unlink (131072 + (q : Int) + 1) w5 (by omega) (by omega)
      rw [show (131072 + (q : Int) + 1) % 131072 - 1 = q by omega, show (131072 + (q : Int) + 1) / 131072 % 65536 = 1 by omega] at hu
      have HU := Lib.hid hu
      clear hu
      go_wp2_with fail
      refine HU.out.mono ?_
      rintro e w6 ⟨rfl, rfl⟩
      go_wp2_with fail
      refine (pool_live b F5 (hs k q) ((q : Int) + 1) w5 S5.out.second (by omega) (by omega)).mono ?_
      rw [hs_old hqk (by omega)]
      rintro e w6 ⟨rfl, rfl⟩
      go_wp2_with fail
      refine (pool_live b F5 (hs k q) (131072 + (q : Int) + 1) w5 S5.out.second (by omega) (by omega)).mono ?_
      rw [hs_new hqk (by omega)]
      rintro e w6 ⟨rfl, rfl⟩
      go_wp2_with fail
      refine (pool_used b F5 (hs k q) w5 S5.out.second).mono ?_
      rw [hs_cnt hqk]
      rintro e w6 ⟨rfl, hl⟩
      obtain ⟨F6, hS6⟩ := S5.out.swap.pool hl
      have B6 := hS6.bel
      clear hl hS6 S5 c5
      go_wp2_with fail
      refine (awake3_any w6).mono ?_
      rintro e w7 ⟨rfl, b7⟩
      go_wp2_with fail
      go_ret
      exact ⟨rfl, bl_next B6 b7⟩

end Go.Proofs.Ytfjoghbkfkbbdaa
