/- AxiomLost holds: two that write one key, of which neither ended ahead of the other's begin, are told by Writers; one behind the other they are not. No condition. -/
import Derived.Test.YtpohehialkgigaaAU
namespace Go.Proofs.Ytpohehialkgigaa
open Go.RowKit
def lostL (k A B C D : Int) : List Dl := [baseD, ⟨2, 1, 3, A, B, [didC 3 1 11]⟩, ⟨3, 1, 3, C, D, [didC 3 k 12]⟩]
theorem did_wf {kind key v : Int} (h0 : (Lit.int .i64 kind).wf = true) (h1 : (Lit.int .i64 key).wf = true) (h2 : (Lit.int .i64 v).wf = true) : (didC kind key v).wf := by
  unfold didC
  split
  · exact ⟨rfl, h1, rfl⟩
  · exact ⟨h0, h1, h2⟩
theorem lost_wf {k A B C D : Int} (hk : (Lit.int .i64 k).wf = true) (hA : (Lit.int .u64 A).wf = true) (hB : (Lit.int .u64 B).wf = true) (hC : (Lit.int .u64 C).wf = true) (hD : (Lit.int .u64 D).wf = true) : ∀ d ∈ lostL k A B C D, d.wf := by
  intro d hd
  simp only [lostL, List.mem_cons, List.not_mem_nil, or_false] at hd
  rcases hd with rfl | rfl | rfl
  · refine ⟨rfl, rfl, fun c hc => ?_, Nat.le_of_ble_eq_true rfl⟩
    simp only [baseD, List.mem_cons, List.not_mem_nil, or_false] at hc
    rcases hc with rfl | rfl <;> exact did_wf rfl rfl rfl
  · refine ⟨hA, hB, fun c hc => ?_, Nat.le_of_ble_eq_true rfl⟩
    simp only [List.mem_cons, List.not_mem_nil, or_false] at hc
    subst hc
    exact did_wf rfl rfl rfl
  · refine ⟨hC, hD, fun c hc => ?_, Nat.le_of_ble_eq_true rfl⟩
    simp only [List.mem_cons, List.not_mem_nil, or_false] at hc
    subst hc
    exact did_wf rfl hk rfl
theorem lost_keys : keysD baseD = [1, 2] := by kernel_rfl
theorem lost_k1 (i A B v : Int) : keysD ⟨i, 1, 3, A, B, [didC 3 1 v]⟩ = [1] := by kernel_rfl
theorem lost_k2 (i A B v : Int) : keysD ⟨i, 1, 3, A, B, [didC 3 2 v]⟩ = [2] := by kernel_rfl
theorem lost_all (x y z : Dl) : writersD [x, y, z] = (!clash y x && (!clash z x && !clash z y)) := by
  simp [writersD, List.range_succ]
theorem clash_apart {a b : Dl} (h : b.en ≤ a.beg) : clash a b = false := by
  unfold clash overlapD
  rw [decide_eq_true h]
  simp
theorem clash_apart' {a b : Dl} (h : a.en ≤ b.beg) : clash a b = false := by
  unfold clash overlapD
  rw [decide_eq_true h]
  simp
theorem clash_any {a b : Dl} (ha : a.state = 3) (hb : b.state = 3) (h1 : ¬ a.en ≤ b.beg) (h2 : ¬ b.en ≤ a.beg) : clash a b = (keysD b).any fun k => decide (k ∈ keysD a) := by
  unfold clash overlapD
  rw [decide_eq_true ha, decide_eq_true hb, decide_eq_false h1, decide_eq_false h2]
  simp
theorem lost_one {A B C D : Int} (hA : 3 ≤ A) (hC : 3 ≤ C) : writersD (lostL 1 A B C D) = (decide (B ≤ C) || decide (D ≤ A)) := by
  unfold lostL
  rw [lost_all, clash_apart (a := ⟨2, 1, 3, A, B, [didC 3 1 11]⟩) (b := baseD) (show (2 : Int) ≤ A by omega), clash_apart (a := ⟨3, 1, 3, C, D, [didC 3 1 12]⟩) (b := baseD) (show (2 : Int) ≤ C by omega)]
  by_cases a : B ≤ C
  · rw [clash_apart (show B ≤ C from a), decide_eq_true a]
    rfl
  · by_cases b : D ≤ A
    · rw [clash_apart' (show D ≤ A from b), decide_eq_true b, Bool.or_true]
      rfl
    · rw [clash_any rfl rfl (show ¬ D ≤ A from b) (show ¬ B ≤ C from a), decide_eq_false a, decide_eq_false b, lost_k1, lost_k1]
      rfl
theorem lost_two {A B C D : Int} (hA : 3 ≤ A) (hC : 3 ≤ C) : writersD (lostL 2 A B C D) = true := by
  unfold lostL
  rw [lost_all, clash_apart (a := ⟨2, 1, 3, A, B, [didC 3 1 11]⟩) (b := baseD) (show (2 : Int) ≤ A by omega), clash_apart (a := ⟨3, 1, 3, C, D, [didC 3 2 12]⟩) (b := baseD) (show (2 : Int) ≤ C by omega)]
  by_cases a : B ≤ C
  · rw [clash_apart (show B ≤ C from a)]
    rfl
  · by_cases b : D ≤ A
    · rw [clash_apart' (show D ≤ A from b)]
      rfl
    · rw [clash_any rfl rfl (show ¬ D ≤ A from b) (show ¬ B ≤ C from a), lost_k1, lost_k2]
      rfl
theorem low_of (a : Int) : ∃ n : Nat, bits .and .u64 a 31 = (n : Int) ∧ n < 32 := ⟨(a % 32).toNat, by rw [u64_and31]; omega, by omega⟩
set_option maxRecDepth 100000 in
set_option maxHeartbeats 12800000 in
theorem axiomLost_walk {a0 a1 a2 a3 : Int} {w : World} (_w0 : (Lit.int .u64 a0).wf = true) (_w1 : (Lit.int .u64 a1).wf = true) (_w2 : (Lit.int .u64 a2).wf = true) (_w3 : (Lit.int .u64 a3).wf = true) :
    Calls Try.prog 3 #[.int .u64 a0, .int .u64 a1, .int .u64 a2, .int .u64 a3] w fun e w' => e = .returned (.bool true) ∧ Below w.heap.size w w' := by
  obtain ⟨n0, hn0, ln0⟩ := low_of a0
  obtain ⟨n1, hn1, ln1⟩ := low_of a1
  obtain ⟨n2, hn2, ln2⟩ := low_of a2
  obtain ⟨n3, hn3, ln3⟩ := low_of a3
  obtain ⟨A, hA⟩ : ∃ A : Int, A = (n0 : Int) + 3 := ⟨_, rfl⟩
  obtain ⟨B, hB⟩ : ∃ B : Int, B = (n0 : Int) + 3 + 1 + n1 := ⟨_, rfl⟩
  obtain ⟨C, hC⟩ : ∃ C : Int, C = (n2 : Int) + 3 := ⟨_, rfl⟩
  obtain ⟨D, hD⟩ : ∃ D : Int, D = (n2 : Int) + 3 + 1 + n3 := ⟨_, rfl⟩
  have HA := Lib.hid hA
  have HBB := Lib.hid hB
  have HC := Lib.hid hC
  have HDD := Lib.hid hD
  have HA3 : Hid (3 ≤ A) := Lib.hid (by omega)
  have HC3 : Hid (3 ≤ C) := Lib.hid (by omega)
  have wA : Hid ((Lit.int .u64 A).wf = true) := Lib.hid (WalkArith.wf_u64 (by omega))
  have wB : Hid ((Lit.int .u64 B).wf = true) := Lib.hid (WalkArith.wf_u64 (by omega))
  have wC : Hid ((Lit.int .u64 C).wf = true) := Lib.hid (WalkArith.wf_u64 (by omega))
  have wD : Hid ((Lit.int .u64 D).wf = true) := Lib.hid (WalkArith.wf_u64 (by omega))
  clear hA hB hC hD
  go_enter Try.func3, Try.ntmps3
  go_upto_region 1 with fail
  go_cut [0, 2] from 11 to 16 (fun s0 s2 wx => s0 = .int .u64 A ∧ s2 = .int .u64 C ∧ wx = w)
  case first =>
    --{c1
    have e0 : IntKind.u64.wrap ((n0 : Int) + 3) = (n0 : Int) + 3 := IntWalk.u64_in _ (by omega)
    have e1 : IntKind.u64.wrap ((n2 : Int) + 3) = (n2 : Int) + 3 := IntWalk.u64_in _ (by omega)
    go_wp2_with fail
    go_meet
    case rel => exact ⟨by rw [HA.out], by rw [HC.out], rfl⟩
    --}c1
  case rest =>
  obtain ⟨rfl, rfl, rfl⟩ := hcut
  go_upto_region 2 with fail
  go_cut [1, 3] from 17 to 26 (fun s1 s3 wx => s1 = .int .u64 B ∧ s3 = .int .u64 D ∧ wx = wc)
  case first =>
    --{c2
    have e2 : IntKind.u64.wrap (A + 1) = A + 1 := IntWalk.u64_in _ (by rw [HA.out]; omega)
    have e3 : IntKind.u64.wrap (C + 1) = C + 1 := IntWalk.u64_in _ (by rw [HC.out]; omega)
    have e4 : IntKind.u64.wrap (A + 1 + n1) = A + 1 + n1 := IntWalk.u64_in _ (by rw [HA.out]; omega)
    have e5 : IntKind.u64.wrap (C + 1 + n3) = C + 1 + n3 := IntWalk.u64_in _ (by rw [HC.out]; omega)
    go_wp2_with fail
    go_meet
    case rel => exact ⟨by rw [HBB.out, HA.out], by rw [HDD.out, HC.out], rfl⟩
    --}c2
  case rest =>
  obtain ⟨rfl, rfl, rfl⟩ := hcut
  rename World => wi
  clear hn0 hn1 hn2 hn3 ln0 ln1 ln2 ln3 HA HBB HC HDD
  have HB := Lib.hid (Below.refl wi.heap.size wi)
  go_wp2_with fail
  refine (base_any _).mono ?_
  rintro e w1 ⟨g0, rfl, hc0, hb1⟩
  have HC0 := Lib.hid hc0
  have HB := Lib.hid (bl_next HB.out hb1)
  clear hc0 hb1
  go_wp2_with fail
  refine (did_any 3 1 11 _).mono ?_
  rintro e w2 ⟨rfl, hb2⟩
  have HC0 := Lib.hid (HC0.out.later hb2)
  have HB := Lib.hid (bl_next HB.out hb2)
  clear hb2
  have hcn := calls_new w2 [(didC 3 1 11, .slice none 0 0)] (by
    intro c hc
    simp only [List.mem_cons, List.not_mem_nil, or_false] at hc
    rcases hc with rfl <;> exact did_pairs _ _ _ _)
  have HC1 : Hid (CallsAt (w2.alloc (callsObj [(didC 3 1 11, .slice none 0 0)])) (.slice (some ⟨w2.heap.size, 0, none⟩) 1 1) [didC 3 1 11]) := Lib.hid hcn
  clear hcn
  have HC0 := Lib.hid (HC0.out.later (bl_alloc (Below.refl _ _) (callsObj [(didC 3 1 11, .slice none 0 0)])))
  have HB := Lib.hid (bl_alloc HB.out (callsObj [(didC 3 1 11, .slice none 0 0)]))
  go_wp2_with (with_reducible show wpList Try.prog _ _ (Oper.mk _ (Op.buildSlice 23 1 _) _ _ _ _ :: _) _ _; refine build_call1 rfl (.tmp 30) rfl (didC 3 1 11) rfl ?_; simp only [Act.put, List.setIfInBounds_toArray, List.set_cons_zero, List.set_cons_succ])
  refine (deal_any 2 1 A B _ _ _ _).mono ?_
  rintro e w3 ⟨rfl, hb3⟩
  have HC0 := Lib.hid (HC0.out.later hb3)
  have HC1 := Lib.hid (HC1.out.later hb3)
  have HB := Lib.hid (bl_next HB.out hb3)
  clear hb3
  go_wp2_with fail
  refine (did_any 3 1 12 _).mono ?_
  rintro e w4 ⟨rfl, hb4⟩
  have HC0 := Lib.hid (HC0.out.later hb4)
  have HC1 := Lib.hid (HC1.out.later hb4)
  have HB := Lib.hid (bl_next HB.out hb4)
  clear hb4
  have hcn := calls_new w4 [(didC 3 1 12, .slice none 0 0)] (by
    intro c hc
    simp only [List.mem_cons, List.not_mem_nil, or_false] at hc
    rcases hc with rfl <;> exact did_pairs _ _ _ _)
  have HC2 : Hid (CallsAt (w4.alloc (callsObj [(didC 3 1 12, .slice none 0 0)])) (.slice (some ⟨w4.heap.size, 0, none⟩) 1 1) [didC 3 1 12]) := Lib.hid hcn
  clear hcn
  have HC0 := Lib.hid (HC0.out.later (bl_alloc (Below.refl _ _) (callsObj [(didC 3 1 12, .slice none 0 0)])))
  have HC1 := Lib.hid (HC1.out.later (bl_alloc (Below.refl _ _) (callsObj [(didC 3 1 12, .slice none 0 0)])))
  have HB := Lib.hid (bl_alloc HB.out (callsObj [(didC 3 1 12, .slice none 0 0)]))
  go_wp2_with (with_reducible show wpList Try.prog _ _ (Oper.mk _ (Op.buildSlice 23 1 _) _ _ _ _ :: _) _ _; refine build_call1 rfl (.tmp 35) rfl (didC 3 1 12) rfl ?_; simp only [Act.put, List.setIfInBounds_toArray, List.set_cons_zero, List.set_cons_succ])
  refine (deal_any 3 1 C D _ _ _ _).mono ?_
  rintro e w5 ⟨rfl, hb5⟩
  have HC0 := Lib.hid (HC0.out.later hb5)
  have HC1 := Lib.hid (HC1.out.later hb5)
  have HC2 := Lib.hid (HC2.out.later hb5)
  have HB := Lib.hid (bl_next HB.out hb5)
  clear hb5
  have hdn := deals_new w5 [(baseD, .slice (some ⟨g0, 0, none⟩) 2 2), (⟨2, 1, 3, A, B, [didC 3 1 11]⟩, .slice (some ⟨w2.heap.size, 0, none⟩) 1 1), (⟨3, 1, 3, C, D, [didC 3 1 12]⟩, .slice (some ⟨w4.heap.size, 0, none⟩) 1 1)] (by
    intro c hc
    simp only [List.mem_cons, List.not_mem_nil, or_false] at hc
    rcases hc with rfl | rfl | rfl
    · exact HC0.out
    · exact HC1.out
    · exact HC2.out)
  have HX : Hid (DealsAt (w5.alloc (dealsObj [(baseD, .slice (some ⟨g0, 0, none⟩) 2 2), (⟨2, 1, 3, A, B, [didC 3 1 11]⟩, .slice (some ⟨w2.heap.size, 0, none⟩) 1 1), (⟨3, 1, 3, C, D, [didC 3 1 12]⟩, .slice (some ⟨w4.heap.size, 0, none⟩) 1 1)])) (.slice (some ⟨w5.heap.size, 0, none⟩) 3 3) [baseD, ⟨2, 1, 3, A, B, [didC 3 1 11]⟩, ⟨3, 1, 3, C, D, [didC 3 1 12]⟩]) := Lib.hid hdn
  clear hdn
  have HB := Lib.hid (bl_alloc HB.out (dealsObj [(baseD, .slice (some ⟨g0, 0, none⟩) 2 2), (⟨2, 1, 3, A, B, [didC 3 1 11]⟩, .slice (some ⟨w2.heap.size, 0, none⟩) 1 1), (⟨3, 1, 3, C, D, [didC 3 1 12]⟩, .slice (some ⟨w4.heap.size, 0, none⟩) 1 1)]))
  go_upto_region 4 with (with_reducible show wpList Try.prog _ _ (Oper.mk _ (Op.buildSlice 37 3 _) _ _ _ _ :: _) _ _; refine build_deal3 rfl (.tmp 27) (.tmp 32) (.tmp 37) rfl (baseD) (⟨2, 1, 3, A, B, [didC 3 1 11]⟩) (⟨3, 1, 3, C, D, [didC 3 1 12]⟩) rfl rfl rfl ?_; simp only [Act.put, List.setIfInBounds_toArray, List.set_cons_zero, List.set_cons_succ])
  generalize w5.alloc (dealsObj [(baseD, .slice (some ⟨g0, 0, none⟩) 2 2), (⟨2, 1, 3, A, B, [didC 3 1 11]⟩, .slice (some ⟨w2.heap.size, 0, none⟩) 1 1), (⟨3, 1, 3, C, D, [didC 3 1 12]⟩, .slice (some ⟨w4.heap.size, 0, none⟩) 1 1)]) = wd at *
  generalize w5.heap.size = gd at *
  clear HC0 HC1 HC2
  have HD1 : Hid (DealsAt wd (.slice (some ⟨gd, 0, none⟩) 3 3) (lostL 1 A B C D)) := HX
  clear HX
  go_wp2_with fail
  refine (base_any _).mono ?_
  rintro e w6 ⟨g0, rfl, hc0, hb6⟩
  have HC0 := Lib.hid hc0
  have HD1 := Lib.hid (HD1.out.later hb6)
  have HB := Lib.hid (bl_next HB.out hb6)
  clear hc0 hb6
  go_wp2_with fail
  refine (did_any 3 1 11 _).mono ?_
  rintro e w7 ⟨rfl, hb7⟩
  have HD1 := Lib.hid (HD1.out.later hb7)
  have HC0 := Lib.hid (HC0.out.later hb7)
  have HB := Lib.hid (bl_next HB.out hb7)
  clear hb7
  have hcn := calls_new w7 [(didC 3 1 11, .slice none 0 0)] (by
    intro c hc
    simp only [List.mem_cons, List.not_mem_nil, or_false] at hc
    rcases hc with rfl <;> exact did_pairs _ _ _ _)
  have HC1 : Hid (CallsAt (w7.alloc (callsObj [(didC 3 1 11, .slice none 0 0)])) (.slice (some ⟨w7.heap.size, 0, none⟩) 1 1) [didC 3 1 11]) := Lib.hid hcn
  clear hcn
  have HD1 := Lib.hid (HD1.out.later (bl_alloc (Below.refl _ _) (callsObj [(didC 3 1 11, .slice none 0 0)])))
  have HC0 := Lib.hid (HC0.out.later (bl_alloc (Below.refl _ _) (callsObj [(didC 3 1 11, .slice none 0 0)])))
  have HB := Lib.hid (bl_alloc HB.out (callsObj [(didC 3 1 11, .slice none 0 0)]))
  go_wp2_with (with_reducible show wpList Try.prog _ _ (Oper.mk _ (Op.buildSlice 23 1 _) _ _ _ _ :: _) _ _; refine build_call1 rfl (.tmp 42) rfl (didC 3 1 11) rfl ?_; simp only [Act.put, List.setIfInBounds_toArray, List.set_cons_zero, List.set_cons_succ])
  refine (deal_any 2 1 A B _ _ _ _).mono ?_
  rintro e w8 ⟨rfl, hb8⟩
  have HD1 := Lib.hid (HD1.out.later hb8)
  have HC0 := Lib.hid (HC0.out.later hb8)
  have HC1 := Lib.hid (HC1.out.later hb8)
  have HB := Lib.hid (bl_next HB.out hb8)
  clear hb8
  go_wp2_with fail
  refine (did_any 3 2 12 _).mono ?_
  rintro e w9 ⟨rfl, hb9⟩
  have HD1 := Lib.hid (HD1.out.later hb9)
  have HC0 := Lib.hid (HC0.out.later hb9)
  have HC1 := Lib.hid (HC1.out.later hb9)
  have HB := Lib.hid (bl_next HB.out hb9)
  clear hb9
  have hcn := calls_new w9 [(didC 3 2 12, .slice none 0 0)] (by
    intro c hc
    simp only [List.mem_cons, List.not_mem_nil, or_false] at hc
    rcases hc with rfl <;> exact did_pairs _ _ _ _)
  have HC2 : Hid (CallsAt (w9.alloc (callsObj [(didC 3 2 12, .slice none 0 0)])) (.slice (some ⟨w9.heap.size, 0, none⟩) 1 1) [didC 3 2 12]) := Lib.hid hcn
  clear hcn
  have HD1 := Lib.hid (HD1.out.later (bl_alloc (Below.refl _ _) (callsObj [(didC 3 2 12, .slice none 0 0)])))
  have HC0 := Lib.hid (HC0.out.later (bl_alloc (Below.refl _ _) (callsObj [(didC 3 2 12, .slice none 0 0)])))
  have HC1 := Lib.hid (HC1.out.later (bl_alloc (Below.refl _ _) (callsObj [(didC 3 2 12, .slice none 0 0)])))
  have HB := Lib.hid (bl_alloc HB.out (callsObj [(didC 3 2 12, .slice none 0 0)]))
  go_wp2_with (with_reducible show wpList Try.prog _ _ (Oper.mk _ (Op.buildSlice 23 1 _) _ _ _ _ :: _) _ _; refine build_call1 rfl (.tmp 47) rfl (didC 3 2 12) rfl ?_; simp only [Act.put, List.setIfInBounds_toArray, List.set_cons_zero, List.set_cons_succ])
  refine (deal_any 3 1 C D _ _ _ _).mono ?_
  rintro e w10 ⟨rfl, hb10⟩
  have HD1 := Lib.hid (HD1.out.later hb10)
  have HC0 := Lib.hid (HC0.out.later hb10)
  have HC1 := Lib.hid (HC1.out.later hb10)
  have HC2 := Lib.hid (HC2.out.later hb10)
  have HB := Lib.hid (bl_next HB.out hb10)
  clear hb10
  have hdn := deals_new w10 [(baseD, .slice (some ⟨g0, 0, none⟩) 2 2), (⟨2, 1, 3, A, B, [didC 3 1 11]⟩, .slice (some ⟨w7.heap.size, 0, none⟩) 1 1), (⟨3, 1, 3, C, D, [didC 3 2 12]⟩, .slice (some ⟨w9.heap.size, 0, none⟩) 1 1)] (by
    intro c hc
    simp only [List.mem_cons, List.not_mem_nil, or_false] at hc
    rcases hc with rfl | rfl | rfl
    · exact HC0.out
    · exact HC1.out
    · exact HC2.out)
  have HX : Hid (DealsAt (w10.alloc (dealsObj [(baseD, .slice (some ⟨g0, 0, none⟩) 2 2), (⟨2, 1, 3, A, B, [didC 3 1 11]⟩, .slice (some ⟨w7.heap.size, 0, none⟩) 1 1), (⟨3, 1, 3, C, D, [didC 3 2 12]⟩, .slice (some ⟨w9.heap.size, 0, none⟩) 1 1)])) (.slice (some ⟨w10.heap.size, 0, none⟩) 3 3) [baseD, ⟨2, 1, 3, A, B, [didC 3 1 11]⟩, ⟨3, 1, 3, C, D, [didC 3 2 12]⟩]) := Lib.hid hdn
  clear hdn
  have HB := Lib.hid (bl_alloc HB.out (dealsObj [(baseD, .slice (some ⟨g0, 0, none⟩) 2 2), (⟨2, 1, 3, A, B, [didC 3 1 11]⟩, .slice (some ⟨w7.heap.size, 0, none⟩) 1 1), (⟨3, 1, 3, C, D, [didC 3 2 12]⟩, .slice (some ⟨w9.heap.size, 0, none⟩) 1 1)]))
  go_upto_region 5 with (with_reducible show wpList Try.prog _ _ (Oper.mk _ (Op.buildSlice 37 3 _) _ _ _ _ :: _) _ _; refine build_deal3 rfl (.tmp 39) (.tmp 44) (.tmp 49) rfl (baseD) (⟨2, 1, 3, A, B, [didC 3 1 11]⟩) (⟨3, 1, 3, C, D, [didC 3 2 12]⟩) rfl rfl rfl ?_; simp only [Act.put, List.setIfInBounds_toArray, List.set_cons_zero, List.set_cons_succ])
  have HD1 := Lib.hid (HD1.out.later (bl_alloc (Below.refl _ _) (dealsObj [(baseD, .slice (some ⟨g0, 0, none⟩) 2 2), (⟨2, 1, 3, A, B, [didC 3 1 11]⟩, .slice (some ⟨w7.heap.size, 0, none⟩) 1 1), (⟨3, 1, 3, C, D, [didC 3 2 12]⟩, .slice (some ⟨w9.heap.size, 0, none⟩) 1 1)])))
  generalize w10.alloc (dealsObj [(baseD, .slice (some ⟨g0, 0, none⟩) 2 2), (⟨2, 1, 3, A, B, [didC 3 1 11]⟩, .slice (some ⟨w7.heap.size, 0, none⟩) 1 1), (⟨3, 1, 3, C, D, [didC 3 2 12]⟩, .slice (some ⟨w9.heap.size, 0, none⟩) 1 1)]) = we at *
  generalize w10.heap.size = ge at *
  clear HC0 HC1 HC2
  have HD2 : Hid (DealsAt we (.slice (some ⟨ge, 0, none⟩) 3 3) (lostL 2 A B C D)) := HX
  clear HX
  by_cases h1 : B ≤ C
  · have e1 := dec_t h1
    have hwo : writersD (lostL 1 A B C D) = true := by rw [lost_one HA3.out HC3.out, e1]; rfl
    have HWO := Lib.hid hwo
    clear h1 hwo
    have hs := writers_any HD1.out (Nat.le_of_ble_eq_true rfl) (lost_wf rfl wA.out wB.out wC.out wD.out)
    rw [HWO.out] at hs
    have HS := Lib.hid hs
    clear hs
    go_wp2_with fail
    refine HS.out.mono ?_
    rintro e w61 ⟨rfl, hb61⟩
    have HD1 := Lib.hid (HD1.out.later hb61)
    have HD2 := Lib.hid (HD2.out.later hb61)
    have HB := Lib.hid (bl_next HB.out hb61)
    clear hb61 HS
    have hs := writers_any HD2.out (Nat.le_of_ble_eq_true rfl) (lost_wf rfl wA.out wB.out wC.out wD.out)
    rw [lost_two HA3.out HC3.out] at hs
    have HS := Lib.hid hs
    clear hs
    go_wp2_with fail
    refine HS.out.mono ?_
    rintro e w62 ⟨rfl, hb62⟩
    have HD1 := Lib.hid (HD1.out.later hb62)
    have HD2 := Lib.hid (HD2.out.later hb62)
    have HB := Lib.hid (bl_next HB.out hb62)
    clear hb62 HS
    go_wp2_with fail
    refine (awake_any _).mono ?_
    rintro e w99 ⟨rfl, hb99⟩
    have HB := Lib.hid (bl_next HB.out hb99)
    clear hb99
    go_wp2_with fail
    go_ret
    exact ⟨rfl, HB.out⟩
  · have e1 := dec_f h1
    by_cases h2 : D ≤ A
    · have e2 := dec_t h2
      have hwo : writersD (lostL 1 A B C D) = true := by rw [lost_one HA3.out HC3.out, e1, e2]; rfl
      have HWO := Lib.hid hwo
      clear h1 h2 hwo
      have hs := writers_any HD1.out (Nat.le_of_ble_eq_true rfl) (lost_wf rfl wA.out wB.out wC.out wD.out)
      rw [HWO.out] at hs
      have HS := Lib.hid hs
      clear hs
      go_wp2_with fail
      refine HS.out.mono ?_
      rintro e w61 ⟨rfl, hb61⟩
      have HD1 := Lib.hid (HD1.out.later hb61)
      have HD2 := Lib.hid (HD2.out.later hb61)
      have HB := Lib.hid (bl_next HB.out hb61)
      clear hb61 HS
      have hs := writers_any HD2.out (Nat.le_of_ble_eq_true rfl) (lost_wf rfl wA.out wB.out wC.out wD.out)
      rw [lost_two HA3.out HC3.out] at hs
      have HS := Lib.hid hs
      clear hs
      go_wp2_with fail
      refine HS.out.mono ?_
      rintro e w62 ⟨rfl, hb62⟩
      have HD1 := Lib.hid (HD1.out.later hb62)
      have HD2 := Lib.hid (HD2.out.later hb62)
      have HB := Lib.hid (bl_next HB.out hb62)
      clear hb62 HS
      go_wp2_with fail
      refine (awake_any _).mono ?_
      rintro e w99 ⟨rfl, hb99⟩
      have HB := Lib.hid (bl_next HB.out hb99)
      clear hb99
      go_wp2_with fail
      go_ret
      exact ⟨rfl, HB.out⟩
    · have e2 := dec_f h2
      have hwo : writersD (lostL 1 A B C D) = false := by rw [lost_one HA3.out HC3.out, e1, e2]; rfl
      have HWO := Lib.hid hwo
      clear h1 h2 hwo
      have hs := writers_any HD1.out (Nat.le_of_ble_eq_true rfl) (lost_wf rfl wA.out wB.out wC.out wD.out)
      rw [HWO.out] at hs
      have HS := Lib.hid hs
      clear hs
      go_wp2_with fail
      refine HS.out.mono ?_
      rintro e w61 ⟨rfl, hb61⟩
      have HD1 := Lib.hid (HD1.out.later hb61)
      have HD2 := Lib.hid (HD2.out.later hb61)
      have HB := Lib.hid (bl_next HB.out hb61)
      clear hb61 HS
      have hs := writers_any HD2.out (Nat.le_of_ble_eq_true rfl) (lost_wf rfl wA.out wB.out wC.out wD.out)
      rw [lost_two HA3.out HC3.out] at hs
      have HS := Lib.hid hs
      clear hs
      go_wp2_with fail
      refine HS.out.mono ?_
      rintro e w62 ⟨rfl, hb62⟩
      have HD1 := Lib.hid (HD1.out.later hb62)
      have HD2 := Lib.hid (HD2.out.later hb62)
      have HB := Lib.hid (bl_next HB.out hb62)
      clear hb62 HS
      go_wp2_with fail
      refine (awake_any _).mono ?_
      rintro e w99 ⟨rfl, hb99⟩
      have HB := Lib.hid (bl_next HB.out hb99)
      clear hb99
      go_wp2_with fail
      go_ret
      exact ⟨rfl, HB.out⟩
end Go.Proofs.Ytpohehialkgigaa
