/- AxiomOwn: what is told of the one that wrote, in plain words; the call that was answered by an error. -/
import Derived.Test.YtpohehialkgigaaAU
namespace Go.Proofs.Ytpohehialkgigaa
open Go.RowKit
def noneC (kind key e : Int) : Cl := ⟨kind, key, 0, 0, e, 0, [], 0, 0⟩
def ownScan (v : Int) : Cl := ⟨5, 1, 9, 0, 0, 0, [(1, v), (2, 20)], 0, 0⟩
def ownOps (v : Int) : List Cl := [didC 3 1 v, didC 1 1 v, didC 4 1 0, noneC 1 1 11, noneC 3 1 11, didC 2 1 v, noneC 2 1 12, ownScan v]
def ownD (lv v : Int) : Dl := ⟨2, lv, 3, 3, 4, ownOps v⟩
def ownL (lv v : Int) : List Dl := [baseD, ownD lv v]
theorem own_at (lv v : Int) : atD (ownL lv v) 3 1 = [(1, 10), (2, 20)] := by kernel_rfl
theorem own_state (lv v : Int) : atD (ownL lv v) 9 (-1) = [(1, v), (2, 20)] := by kernel_rfl
theorem own_find (lv v : Int) : findD (ownL lv v) 2 = some 1 := by kernel_rfl
theorem own_step0 (v : Int) : St.step [(1, 10), (2, 20)] (didC 3 1 v) = [(1, v), (2, 20)] := by kernel_rfl
theorem own_step1 (v x : Int) : St.step [(1, x), (2, 20)] (didC 1 1 v) = [(1, x), (2, 20)] := by kernel_rfl
theorem own_step2 (x : Int) : St.step [(1, x), (2, 20)] (didC 4 1 0) = [(2, 20)] := by kernel_rfl
theorem own_step3 : St.step [(2, 20)] (noneC 1 1 11) = [(2, 20)] := by kernel_rfl
theorem own_step4 : St.step [(2, 20)] (noneC 3 1 11) = [(2, 20)] := by kernel_rfl
theorem own_step5 (v : Int) : St.step [(2, 20)] (didC 2 1 v) = [(1, v), (2, 20)] := by kernel_rfl
theorem own_step6 (v : Int) : St.step [(1, v), (2, 20)] (noneC 2 1 12) = [(1, v), (2, 20)] := by kernel_rfl
theorem own_a0 (v : Int) : answersD [(1, 10), (2, 20)] (didC 3 1 v) = true := by kernel_rfl
theorem own_get (v : Int) : St.get [(1, v), (2, 20)] 1 = some v := by kernel_rfl
theorem own_span (v : Int) : St.span [(1, v), (2, 20)] 1 9 = [(1, v), (2, 20)] := by kernel_rfl
theorem own_a1 (v : Int) : answersD [(1, v), (2, 20)] (didC 1 1 v) = true := by
  unfold answersD didC
  simp [own_get]
theorem own_a2 (v : Int) : answersD [(1, v), (2, 20)] (didC 4 1 0) = true := by kernel_rfl
theorem own_a3 : answersD [(2, 20)] (noneC 1 1 11) = true := by kernel_rfl
theorem own_a4 : answersD [(2, 20)] (noneC 3 1 11) = true := by kernel_rfl
theorem own_a5 (v : Int) : answersD [(2, 20)] (didC 2 1 v) = true := by kernel_rfl
theorem own_a6 (v : Int) : answersD [(1, v), (2, 20)] (noneC 2 1 12) = true := by kernel_rfl
theorem own_a7 (v : Int) : answersD [(1, v), (2, 20)] (ownScan v) = true := by
  unfold answersD ownScan
  simp [own_span]
theorem own_all (v : Int) : allAnswer [(1, 10), (2, 20)] (ownOps v) = true := by
  simp only [ownOps, allAnswer, own_step0, own_step1, own_step2, own_step3, own_step4, own_step5, own_step6, own_a0, own_a1, own_a2, own_a3, own_a4, own_a5, own_a6, own_a7, Bool.and_self]
theorem own_from (lv v : Int) : fromD (ownL lv v) 1 3 = true := by
  unfold fromD
  rw [show ((1 : Nat) : Int) = 1 from rfl, own_at]
  exact own_all v
theorem own_snap (lv v : Int) : snapshotD (ownL lv v) 2 = true := by
  unfold snapshotD
  rw [own_find]
  exact own_from lv v
theorem own_serial (lv v : Int) : serialD (ownL lv v) 2 = true := by
  unfold serialD
  rw [own_find]
  exact own_from lv v
theorem own_still (v : Int) : stillThere [(1, 10), (2, 20)] [] (ownOps v) = true := by kernel_rfl
theorem own_rep (lv v : Int) : repeatableD (ownL lv v) 2 = true := by
  unfold repeatableD
  rw [own_snap, own_find]
  show (true && stillThere (atD (ownL lv v) 3 1) [] (ownOps v)) = true
  rw [own_at, own_still]
  rfl
theorem own_base (lv v : Int) : holdD (ownL lv v) baseD = true := by kernel_rfl
theorem own_hold {lv : Int} (v : Int) (h : lv = 1 ∨ lv = 2 ∨ lv = 3) : holdD (ownL lv v) (ownD lv v) = true := by
  unfold holdD
  rcases h with rfl | rfl | rfl
  · exact own_snap 1 v
  · exact own_rep 2 v
  · show (serialD (ownL 3 v) 2 && snapshotD (ownL 3 v) 2) = true
    rw [own_serial, own_snap]
    rfl
theorem first_keep {p : Dl → Bool} : ∀ (l : List Dl) (a : Bool × Int), (∀ d ∈ l, p d = true) → l.foldl (firstStep p) a = a
  | [], _, _ => rfl
  | d :: r, a, h => by
    have e : firstStep p a d = a := by unfold firstStep; rw [h d (by simp)]; simp
    rw [List.foldl_cons, e]
    exact first_keep r a fun x hx => h x (by simp [hx])
theorem own_holds {lv : Int} (v : Int) (h : lv = 1 ∨ lv = 2 ∨ lv = 3) : holdsD (ownL lv v) = (true, 0) := by
  unfold holdsD firstD
  refine first_keep _ _ fun d hd => ?_
  simp only [ownL, List.mem_cons, List.not_mem_nil, or_false] at hd
  rcases hd with rfl | rfl
  · exact own_base lv v
  · exact own_hold v h
theorem did_wf {kind key v : Int} (h0 : (Lit.int .i64 kind).wf = true) (h1 : (Lit.int .i64 key).wf = true) (h2 : (Lit.int .i64 v).wf = true) : (didC kind key v).wf := by
  unfold didC
  split
  · exact ⟨rfl, h1, rfl⟩
  · exact ⟨h0, h1, h2⟩
theorem did_few (kind key v : Int) : (didC kind key v).pairs.length ≤ 1000000 := by unfold didC; split <;> exact Nat.zero_le _
theorem own_good {lv v : Int} (hv : (Lit.int .i64 v).wf = true) : Good (ownL lv v) where
  few := Nat.le_of_ble_eq_true rfl
  wf d hd := by
    simp only [ownL, List.mem_cons, List.not_mem_nil, or_false] at hd
    rcases hd with rfl | rfl
    · refine ⟨rfl, rfl, fun c hc => ?_, Nat.le_of_ble_eq_true rfl⟩
      simp only [baseD, List.mem_cons, List.not_mem_nil, or_false] at hc
      rcases hc with rfl | rfl <;> exact did_wf rfl rfl rfl
    · refine ⟨rfl, rfl, fun c hc => ?_, Nat.le_of_ble_eq_true rfl⟩
      simp only [ownD, ownOps, List.mem_cons, List.not_mem_nil, or_false] at hc
      rcases hc with rfl | rfl | rfl | rfl | rfl | rfl | rfl | rfl
      · exact did_wf rfl rfl hv
      · exact did_wf rfl rfl hv
      · exact did_wf rfl rfl rfl
      · exact ⟨rfl, rfl, rfl⟩
      · exact ⟨rfl, rfl, rfl⟩
      · exact did_wf rfl rfl hv
      · exact ⟨rfl, rfl, rfl⟩
      · exact ⟨rfl, rfl, rfl⟩
  apart := by simp [ownL, baseD, ownD]
  pairs d hd c hc := by
    simp only [ownL, List.mem_cons, List.not_mem_nil, or_false] at hd
    rcases hd with rfl | rfl
    · simp only [baseD, List.mem_cons, List.not_mem_nil, or_false] at hc
      rcases hc with rfl | rfl <;> exact did_few _ _ _
    · simp only [ownD, ownOps, List.mem_cons, List.not_mem_nil, or_false] at hc
      rcases hc with rfl | rfl | rfl | rfl | rfl | rfl | rfl | rfl
      all_goals first | exact did_few _ _ _ | exact Nat.le_of_ble_eq_true rfl
set_option maxRecDepth 100000 in
set_option maxHeartbeats 1600000 in
theorem none_any (kind key e : Int) (w : World) :
    Calls Try.prog 20 #[.int .i64 kind, .int .i64 key, .int .i64 e] w fun r w' => r = .returned (.agg ((noneC kind key e).cells (.slice none 0 0)).toArray) ∧ Below w.heap.size w w' := by
  unfold noneC
  simp only [Cl.cells]
  go_enter Try.func20, Try.ntmps20
  go_wp2_with fail
  refine bodyPost_ret (v := .agg #[.int .i64 kind, .int .i64 key, .int .i64 0, .int .i64 0, .int .i64 e, .int .i64 0, .slice none 0 0, .int .i64 0, .int .i64 0]) (by simp [results, Try.results20, go_sem]) rfl ⟨rfl, bl_alloc (Below.refl _ _) _⟩
theorem pairs_block {w : World} {g : Nat} {T : TypeId} {a b c d : Int} (hk : w.heap[g]? = some (.cells #[.int .i64 a, .int .i64 b, .int .i64 c, .int .i64 d] T (0, 0))) : PairsAt w (.slice (some ⟨g, 0, none⟩) 2 2) [(a, b), (c, d)] := by
  refine .inr ⟨g, 0, 2, rfl, by simp, blk_lt hk, fun i hi => ?_⟩
  have hi2 : i < 2 := hi
  rw [blk_cell hk, blk_cell hk]
  rcases Nat.lt_succ_iff_lt_or_eq.1 hi2 with h | rfl
  · obtain rfl : i = 0 := by omega
    exact ⟨rfl, rfl⟩
  · exact ⟨rfl, rfl⟩
end Go.Proofs.Ytpohehialkgigaa
