/- MayFirst holds: a key's first version may be made if all that were are elder, one's own, or of those that are aborted; one that is later, or another one's, bars it, wherever it stands. No condition. -/
import Derived.Test.YtbiadeniplmkfaaF0
import Derived.Test.YtbiadeniplmkfaaC2
import Derived.Test.YtbiadeniplmkfaaO0
namespace Go.Proofs.Ytbiadeniplmkfaa
open Go.RowKit Go.ChangeShapes

def stL (s : Int) : Int → Tx × Bool := fun _ => (⟨1, s, 1, 0⟩, true)

set_option maxHeartbeats 400000 in
theorem firstClo8_any (s id : Int) (b : Nat) (w : World) (hs : w.cell? ⟨b, 0, none⟩ = some (.int .i64 s)) :
    Calls Try.prog 25 #[.int .i64 id, .pointer (some ⟨b, 0, none⟩)] w fun e w' => e = .returned (.tuple #[(stL s id).1.val, .bool (stL s id).2]) ∧ Below w.heap.size w w' := by
  have hb := cell_lt0 hs
  simp only [stL, Tx.val]
  go_enter Try.func25, Try.ntmps25
  go_wp2_with fail
  refine bodyPost_ret (v := .tuple #[.agg #[.int .i64 1, .int .i64 s, .int .u64 1, .int .u64 0], .bool true]) (by simp [results, Try.results25, go_sem]) rfl ⟨rfl, ?_⟩
  exact bl_alloc (Below.refl _ _) _

/-- The words that were: elder ones. -/
def elder (t : Int) : Nat → List Int
  | 0 => []
  | k + 1 => elder t k ++ [t - (k : Int) % 8]
theorem elder_len (t : Int) (k : Nat) : (elder t k).length = k := by
  induction k with
  | zero => rfl
  | succ k ih => simp [elder, ih]
theorem elder_mem {t : Int} (ht : 10 ≤ t ∧ t < 266) {k : Nat} : ∀ x ∈ elder t k, 0 ≤ x ∧ x ≤ t := by
  induction k with
  | zero => intro x hx; simp [elder] at hx
  | succ k ih =>
    intro x hx
    simp only [elder, List.mem_append, List.mem_singleton] at hx
    rcases hx with hx | rfl
    · exact ih x hx
    · omega
theorem range_of_mem {l : List Int} (h : ∀ x ∈ l, 0 ≤ x ∧ x ≤ 18446744073709551615) : inRange l := by
  intro i hi
  have := h l[i] (List.getElem_mem hi)
  simpa [List.getD_eq_getElem?_getD, List.getElem?_eq_getElem hi] using this
theorem bar_elder {s t x : Int} (hx : 0 ≤ x ∧ x ≤ t) (ht : t < 266) : barB (stL s) 3 t x = false := by
  have hr := rd_cases x
  rw [bar_time (by omega)]
  have : rdN x = x := by omega
  rw [this]
  simp; omega
theorem elder_bar {s t : Int} (ht : 10 ≤ t ∧ t < 266) (k : Nat) : (elder t k).any (barB (stL s) 3 t) = false := by
  rw [List.any_eq_false]
  intro x hx
  rw [bar_elder (elder_mem ht x hx) ht.2]
  simp
/-- The odd word and state, by kind. -/
def oddOf (t kind : Int) : Int := if kind = 0 then t + 1 else if kind = 1 then 4611686018427387913 else if kind = 2 then 4611686018427387913 else 4611686018427387907
def stOf (kind : Int) : Int := if kind = 2 then 4 else 1
def wantOf (kind : Int) : Bool := if kind = 0 then false else if kind = 1 then false else true
theorem odd_bar {t kind : Int} (ht : 10 ≤ t ∧ t < 266) (hk : kind = 0 ∨ kind = 1 ∨ kind = 2 ∨ kind = 3) : (!barB (stL (stOf kind)) 3 t (oddOf t kind)) = wantOf kind := by
  rcases hk with rfl | rfl | rfl | rfl
  · show (!barB (stL 1) 3 t (t + 1)) = false
    have hr := rd_cases (t + 1)
    rw [bar_time (by omega)]
    have : rdN (t + 1) = t + 1 := by omega
    rw [this]
    simp; omega
  · rfl
  · rfl
  · rfl
theorem all_bar {s t odd : Int} (ht : 10 ≤ t ∧ t < 266) (n k : Nat) : (!(((elder t n).take k ++ [odd] ++ (elder t n).drop k).any (barB (stL s) 3 t))) = !barB (stL s) 3 t odd := by
  have h1 : ((elder t n).take k).any (barB (stL s) 3 t) = false := by
    rw [List.any_eq_false]
    intro x hx
    rw [bar_elder (elder_mem ht x (List.mem_of_mem_take hx)) ht.2]
    simp
  have h2 : ((elder t n).drop k).any (barB (stL s) 3 t) = false := by
    rw [List.any_eq_false]
    intro x hx
    rw [bar_elder (elder_mem ht x (List.mem_of_mem_drop hx)) ht.2]
    simp
  rw [List.any_append, List.any_append, h1, h2]
  simp

set_option maxRecDepth 100000 in
set_option maxHeartbeats 3200000 in
theorem mayFirst_walk {a0 a1 a2 a3 : Int} {w : World} (_w0 : (Lit.int .i64 a0).wf = true) (_w1 : (Lit.int .u64 a1).wf = true) (_w2 : (Lit.int .i64 a2).wf = true) (_w3 : (Lit.int .i64 a3).wf = true) :
    Calls Try.prog 6 #[.int .i64 a0, .int .u64 a1, .int .i64 a2, .int .i64 a3] w fun e w' => e = .returned (.bool true) ∧ Below w.heap.size w w' := by
  have m0 := i64_and255 a0
  have m1 := u64_and255 a1
  have m2 := i64_and255 a2
  have m3 := i64_and3 a3
  obtain ⟨x, hx⟩ : ∃ x, x = a0 % 256 := ⟨_, rfl⟩
  obtain ⟨y, hy⟩ : ∃ x, x = a1 % 256 := ⟨_, rfl⟩
  obtain ⟨z, hz⟩ : ∃ x, x = a2 % 256 := ⟨_, rfl⟩
  obtain ⟨kd, hkd⟩ : ∃ x, x = a3 % 4 := ⟨_, rfl⟩
  have bx : 0 ≤ x ∧ x < 256 := by omega
  have by_ : 0 ≤ y ∧ y < 256 := by omega
  have bz : 0 ≤ z ∧ z < 256 := by omega
  have bk : kd = 0 ∨ kd = 1 ∨ kd = 2 ∨ kd = 3 := by omega
  rw [← hx] at m0
  rw [← hy] at m1
  rw [← hz] at m2
  rw [← hkd] at m3
  clear hx hy hz hkd
  go_enter Try.func6, Try.ntmps6
  go_wp2_with fail
  obtain ⟨n, hn⟩ : ∃ n : Nat, (n : Int) = x % 11 := ⟨(x % 11).toNat, by omega⟩
  obtain ⟨t, ht⟩ : ∃ t, t = y + 10 := ⟨_, rfl⟩
  have bn : n ≤ 10 := by omega
  have bt : 10 ≤ t ∧ t < 266 := by omega
  rw [← hn, ← ht]
  clear hn ht by_
  go_loopw [9, 10] (fun v i wr => ∃ k : Nat, k ≤ n ∧ i = .int .i64 k ∧ Owned .u64 22 w.heap.size wr v (elder t k) ∧ Below w.heap.size w wr) (fun _ i _ => n - (intOf i).toNat)
  case atStart => exact ⟨0, Nat.zero_le _, rfl, Owned.nil _ _ _ _, Below.refl _ _⟩
  case round =>
    obtain ⟨k, hk, rfl, hown, hB⟩ := hrel
    have HO := Lib.hid hown
    clear hown
    have m8 := u64_and7 (k : Int)
    by_cases hlt : k < n
    · have HTS := Lib.hid (show elder t (k + 1) = elder t k ++ [t - (k : Int) % 8] from rfl)
      have HTL := Lib.hid (elder_len t k)
      go_wp2_with (at_builtin; refine append_one rfl _ _ rfl Try.underlying29 info_u64 (by decide) rfl HO.out rfl ?c1 ?c2 ?c3)
      case c1 => rw [HTL.out]; omega
      case c2 => exact hB.size
      · intro v' w' h1 h2
        go_wp2
        go_roundw
        case rel => exact ⟨k + 1, by omega, by go_num, by rw [HTS.out]; exact h1, h2 _ _ (Nat.le_refl _) hB⟩
        case measure => simp [intOf]; omega
    · obtain rfl : n = k := by omega
      clear m8
      have hlen := elder_len t n
      have hRow := HO.out.row
      have HRG := Lib.hid (range_of_mem (l := elder t n) (fun x hx => by have := elder_mem bt x hx; omega))
      have HEB := Lib.hid (elder_bar (s := stOf kd) bt n)
      have HOB := Lib.hid (odd_bar bt bk)
      obtain ⟨ra, rc, hv, _⟩ := hRow.len
      rw [hlen] at hv
      subst hv
      have HRow := Lib.hid hRow
      have HEL := Lib.hid hlen
      have HSA := Lib.hid (fun (w2 : World) (q : Nat) (hq : q ≤ n) (h : RowAt .u64 w2 (.slice ra n rc) (elder t n)) => (show SrcAt w2 (.slice ra q rc) q 1 (((elder t n).take q).map (Value.int .u64)) from by
        have h2 := (h.take (i := q) (by rw [hlen]; exact hq)).src
        rw [List.length_take, hlen, Nat.min_eq_left hq] at h2
        exact h2))
      have HSB := Lib.hid (fun (w2 : World) (q : Nat) (hq : q ≤ n) (h : RowAt .u64 w2 (.slice ra n rc) (elder t n)) (hz : ra = none → n = 0) => (show SrcAt w2 (.slice (if rc = q then ra else ra.map (Addr.add · q)) (n - q) (rc - q)) (n - q) 1 (((elder t n).drop q).map (Value.int .u64)) from by
        have h2 := (h.drop (i := q) (by rw [hlen]; exact hq) hlen.symm hz).src
        rw [List.length_drop, hlen] at h2
        exact h2))
      clear HO hRow hlen
      have HT := Lib.hid (show ∀ s, Tells (wr.alloc (.cells #[.int .i64 s] 3)) (.func (.func 25) #[] #[.pointer (some ⟨wr.heap.size, 0, none⟩)]) (stL s) from
        fun s => .inr ⟨_, _, rfl, fun _ _ => by kernel_rfl, fun w1 id hb => firstClo8_any s id wr.heap.size w1 (keep hb (by simp))⟩)
      have HF : Hid (∀ s, Calls Try.prog 17 #[.slice ra n rc, .int .i64 3, .int .u64 t, .func (.func 25) #[] #[.pointer (some ⟨wr.heap.size, 0, none⟩)]] (wr.alloc (.cells #[.int .i64 s] 3)) fun e w' => e = .returned (.bool true) ∧ Below (wr.alloc (.cells #[.int .i64 s] 3)).heap.size (wr.alloc (.cells #[.int .i64 s] 3)) w') := by
        intro s
        have h := first_any (elder t n) (.slice ra n rc) 3 t _ (stL s) _ (HT.out s) (HRow.out.later (bl_alloc (Below.refl _ _) _)) HRG.out
        rw [elder_bar bt n] at h
        exact h
      have HGO : Hid (∀ (s odd : Int), 0 ≤ odd ∧ odd ≤ 18446744073709551615 → ∀ (lk v : Value) (w2 : World) (q : Nat), Tells w2 lk (stL s) → ∀ {base : Nat}, Owned .u64 22 base w2 v ((elder t n).take q ++ [odd] ++ (elder t n).drop q) →
          Calls Try.prog 17 #[v, .int .i64 3, .int .u64 t, lk] w2 fun e w' => e = .returned (.bool (!barB (stL s) 3 t odd)) ∧ Below w2.heap.size w2 w') := by
        intro s odd hodd lk v w2 q hT base hO
        have h := first_any _ v 3 t lk (stL s) w2 hT hO.row (range_of_mem (fun x hx => by
          simp only [List.mem_append, List.mem_singleton] at hx
          rcases hx with (hx | rfl) | hx
          · have := elder_mem bt x (List.mem_of_mem_take hx); omega
          · exact hodd
          · have := elder_mem bt x (List.mem_of_mem_drop hx); omega))
        rw [all_bar bt] at h
        exact h
      have HQ := Lib.hid (show ∃ q : Nat, (q : Int) = z % ((n : Int) + 1) ∧ q ≤ n from ⟨(z % ((n : Int) + 1)).toNat, by have := Int.emod_nonneg z (show (n : Int) + 1 ≠ 0 by omega); omega, by have := Int.emod_lt_of_pos z (show (0 : Int) < (n : Int) + 1 by omega); have := Int.emod_nonneg z (show (n : Int) + 1 ≠ 0 by omega); omega⟩)
      rcases bk with rfl | rfl | rfl | rfl
      all_goals
        go_wp2_with fail
        first | (with_reducible refine (HF.out 1).mono ?_) | (with_reducible refine (HF.out 4).mono ?_)
        rintro ee w1 ⟨rfl, b1⟩
        have B1 := bl_next hB (bl_next (bl_alloc (Below.refl _ _) _) b1)
        have HR1 := Lib.hid ((HRow.out.later (bl_alloc (Below.refl _ _) _)).later b1)
        go_wp2_with fail
        obtain ⟨q, hq, hqn⟩ := HQ.out
        rw [← hq]
        clear hq
        have hcp := HR1.out.cap HEL.out.symm
        have hqc : q ≤ rc := by omega
        have HTK := Lib.hid (show (((elder t n).take q).map (Value.int .u64)).length = q by rw [List.length_map, List.length_take, HEL.out]; omega)
        have HS1 := Lib.hid (fun (w2 : World) (h : Below w1.heap.size w1 w2) => HSA.out w2 q (by omega) (HR1.out.later h))
        have HS2 := Lib.hid (fun (w2 : World) (h : Below w1.heap.size w1 w2) => HSB.out w2 q (by omega) (HR1.out.later h) hcp.2)
        go_region_law (first | (refine step_append_cells (zero := .int .u64 0) (base := w1.heap.size) (n := 0) (xs := []) (m := q) (ys := ((elder t n).take q).map (Value.int .u64)) rfl (.tmp 57) (.tmp 60) rfl Try.underlying29 info_u64 rfl Nat.zero_lt_one (Nat.le_of_ble_eq_true rfl) rfl ?_ rfl ?_ (ints_one _ _) ?_ ?_ ?_; (first | exact owns_made (heap_new _ _) (Nat.le_refl _) | exact owns_made (heap_old (heap_new _ _)) (Nat.le_refl _) | exact owns_made (heap_at (by simp)) (by simp)); exact HS1.out _ (by first | exact Below.drew (bl_alloc (Below.refl _ _) _) | exact Below.drew (bl_alloc (bl_alloc (Below.refl _ _) _) _)); omega; (simp; try omega); intro v1 wA h1 T1 g1; have B1A : Below w1.heap.size w1 wA := T1 _ _ (Nat.le_refl _) (by first | exact Below.drew (bl_alloc (Below.refl _ _) _) | exact Below.drew (bl_alloc (bl_alloc (Below.refl _ _) _) _))) | (refine step_append_cells (zero := .int .u64 0) (base := w1.heap.size) (n := 0 + q) (xs := [] ++ ((elder t n).take q).map (Value.int .u64)) (m := 1) (ys := [.int .u64 (t + 1)]) rfl (.tmp 61) (.tmp 63) rfl Try.underlying29 info_u64 rfl Nat.zero_lt_one (Nat.le_of_ble_eq_true rfl) rfl ?_ rfl ?_ (ints_one .u64 [t + 1]) ?_ ?_ ?_; (first | exact h1 | exact World.ownsRow.alloc h1 _); (first | exact SrcAt.one (heap_new _ _) | exact SrcAt.one (grown_heap g1 (heap_at (by simp)) (fun hh => absurd (Option.some.inj (show some (w1.heap.size + 1) = some w1.heap.size from hh)) (by omega))) | exact SrcAt.one (grown_heap g1 (heap_old (heap_new _ _)) (fun hh => absurd (Option.some.inj (show some w1.heap.size = some (w1.heap.size + 1) from hh)) (by omega)))); omega; exact Nat.le_trans B1A.size (by simp); intro v2 wB h2 T2 g2; have B1B : Below w1.heap.size w1 wB := T2 _ _ (Nat.le_refl _) (by first | exact B1A | exact B1A.alloc B1A.size _)) | (refine step_append_cells (zero := .int .u64 0) (base := w1.heap.size) (n := 0 + q) (xs := [] ++ ((elder t n).take q).map (Value.int .u64)) (m := 1) (ys := [.int .u64 (4611686018427387913)]) rfl (.tmp 61) (.tmp 63) rfl Try.underlying29 info_u64 rfl Nat.zero_lt_one (Nat.le_of_ble_eq_true rfl) rfl ?_ rfl ?_ (ints_one .u64 [4611686018427387913]) ?_ ?_ ?_; (first | exact h1 | exact World.ownsRow.alloc h1 _); (first | exact SrcAt.one (heap_new _ _) | exact SrcAt.one (grown_heap g1 (heap_at (by simp)) (fun hh => absurd (Option.some.inj (show some (w1.heap.size + 1) = some w1.heap.size from hh)) (by omega))) | exact SrcAt.one (grown_heap g1 (heap_old (heap_new _ _)) (fun hh => absurd (Option.some.inj (show some w1.heap.size = some (w1.heap.size + 1) from hh)) (by omega)))); omega; exact Nat.le_trans B1A.size (by simp); intro v2 wB h2 T2 g2; have B1B : Below w1.heap.size w1 wB := T2 _ _ (Nat.le_refl _) (by first | exact B1A | exact B1A.alloc B1A.size _)) | (refine step_append_cells (zero := .int .u64 0) (base := w1.heap.size) (n := 0 + q) (xs := [] ++ ((elder t n).take q).map (Value.int .u64)) (m := 1) (ys := [.int .u64 (4611686018427387907)]) rfl (.tmp 61) (.tmp 63) rfl Try.underlying29 info_u64 rfl Nat.zero_lt_one (Nat.le_of_ble_eq_true rfl) rfl ?_ rfl ?_ (ints_one .u64 [4611686018427387907]) ?_ ?_ ?_; (first | exact h1 | exact World.ownsRow.alloc h1 _); (first | exact SrcAt.one (heap_new _ _) | exact SrcAt.one (grown_heap g1 (heap_at (by simp)) (fun hh => absurd (Option.some.inj (show some (w1.heap.size + 1) = some w1.heap.size from hh)) (by omega))) | exact SrcAt.one (grown_heap g1 (heap_old (heap_new _ _)) (fun hh => absurd (Option.some.inj (show some w1.heap.size = some (w1.heap.size + 1) from hh)) (by omega)))); omega; exact Nat.le_trans B1A.size (by simp); intro v2 wB h2 T2 g2; have B1B : Below w1.heap.size w1 wB := T2 _ _ (Nat.le_refl _) (by first | exact B1A | exact B1A.alloc B1A.size _)) | (refine step_append_cells (zero := .int .u64 0) (base := w1.heap.size) (n := 0 + q + 1) (xs := [] ++ ((elder t n).take q).map (Value.int .u64) ++ [.int .u64 (t + 1)]) (m := n - q) (ys := ((elder t n).drop q).map (Value.int .u64)) rfl (.tmp 64) (.tmp 67) rfl Try.underlying29 info_u64 rfl Nat.zero_lt_one (Nat.le_of_ble_eq_true rfl) rfl ?_ rfl ?_ (ints_one _ _) ?_ ?_ ?_; exact h2; exact HS2.out _ B1B; omega; exact B1B.size; intro v3 wC h3 T3 g3) | (refine step_append_cells (zero := .int .u64 0) (base := w1.heap.size) (n := 0 + q + 1) (xs := [] ++ ((elder t n).take q).map (Value.int .u64) ++ [.int .u64 (4611686018427387913)]) (m := n - q) (ys := ((elder t n).drop q).map (Value.int .u64)) rfl (.tmp 64) (.tmp 67) rfl Try.underlying29 info_u64 rfl Nat.zero_lt_one (Nat.le_of_ble_eq_true rfl) rfl ?_ rfl ?_ (ints_one _ _) ?_ ?_ ?_; exact h2; exact HS2.out _ B1B; omega; exact B1B.size; intro v3 wC h3 T3 g3) | (refine step_append_cells (zero := .int .u64 0) (base := w1.heap.size) (n := 0 + q + 1) (xs := [] ++ ((elder t n).take q).map (Value.int .u64) ++ [.int .u64 (4611686018427387907)]) (m := n - q) (ys := ((elder t n).drop q).map (Value.int .u64)) rfl (.tmp 64) (.tmp 67) rfl Try.underlying29 info_u64 rfl Nat.zero_lt_one (Nat.le_of_ble_eq_true rfl) rfl ?_ rfl ?_ (ints_one _ _) ?_ ?_ ?_; exact h2; exact HS2.out _ B1B; omega; exact B1B.size; intro v3 wC h3 T3 g3))
        all_goals
          have HLN : Hid (∀ odd : Int, 0 + q + 1 + (n - q) = ((elder t n).take q ++ [odd] ++ (elder t n).drop q).length) := by
            intro odd
            simp only [List.length_append, List.length_take, List.length_drop, HEL.out, List.length_cons, List.length_nil]
            omega
          have B3 : Below w1.heap.size w1 wC := T3 _ _ (Nat.le_refl _) B1B
          clear T1 T2 T3 g1 g2 g3 h1 h2 HS1 HS2 HTK
          have HX : Hid (∀ odd : Int, [] ++ ((elder t n).take q).map (Value.int .u64) ++ [.int .u64 odd] ++ ((elder t n).drop q).map (Value.int .u64) = ((elder t n).take q ++ [odd] ++ (elder t n).drop q).map (Value.int .u64)) := by
            intro odd
            simp
          first
            | (have HO3 := owned_of (k := .u64) h3 (HLN.out (t + 1)) (HX.out (t + 1)); have HG := Lib.hid (HGO.out 1 (t + 1) (by omega) _ _ _ q (((HT.out 1).later b1).later B3) HO3); have HW : Hid ((!barB (stL 1) 3 t (t + 1)) = false) := HOB.out)
            | (have HO3 := owned_of (k := .u64) h3 (HLN.out 4611686018427387913) (HX.out 4611686018427387913); have HG := Lib.hid (HGO.out 1 4611686018427387913 (by omega) _ _ _ q (((HT.out 1).later b1).later B3) HO3); have HW : Hid ((!barB (stL 1) 3 t 4611686018427387913) = false) := HOB.out)
            | (have HO3 := owned_of (k := .u64) h3 (HLN.out 4611686018427387913) (HX.out 4611686018427387913); have HG := Lib.hid (HGO.out 4 4611686018427387913 (by omega) _ _ _ q (((HT.out 4).later b1).later B3) HO3); have HW : Hid ((!barB (stL 4) 3 t 4611686018427387913) = true) := HOB.out)
            | (have HO3 := owned_of (k := .u64) h3 (HLN.out 4611686018427387907) (HX.out 4611686018427387907); have HG := Lib.hid (HGO.out 1 4611686018427387907 (by omega) _ _ _ q (((HT.out 1).later b1).later B3) HO3); have HW : Hid ((!barB (stL 1) 3 t 4611686018427387907) = true) := HOB.out)
          have hg := HG.out
          rw [HW.out] at hg
          have HGG := Lib.hid hg
          clear hg HG HW HX HLN HO3 h3 b1
          go_wp2_with fail
          all_goals
            refine HGG.out.mono ?_
            rintro ee w4 ⟨rfl, b4⟩
            go_wp2_with (go_at_call 18; refine (awake8_any _).mono ?_; rintro ee w6 ⟨rfl, b6⟩)
            go_ret
            exact ⟨rfl, bl_next (bl_next (bl_next B1 B3) b4) b6⟩

end Go.Proofs.Ytbiadeniplmkfaa
