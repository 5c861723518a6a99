/- vinculumref16.put: a list in order with a number, if it is not there. -/
import Derived.Test.YtbihfjehlbaahaaJM
import Derived.Deep.RegionLaw
namespace Go.Proofs.Ytbihfjehlbaahaa
open Go.RowKit

theorem cut_front {k : IntKind} {E : TypeId} {w : World} {a : Option Addr} {n cap : Nat} {l : List Int} (h : Owned k E w (.slice a n cap) l) {q : Nat} (hq : q ≤ l.length) : SrcAt w (.slice a q cap) q 1 ((l.take q).map (Value.int k)) := by
  rcases h.2 with ⟨hv, hn⟩ | ⟨g, cap', cur, hv, hg, hh, hnc, hcm, hcs, htk⟩
  · simp only [Value.slice.injEq] at hv
    obtain ⟨rfl, _, rfl⟩ := hv
    obtain rfl : q = 0 := by omega
    exact .inl ⟨rfl, by simp, none, 0, rfl, fun _ => rfl⟩
  · simp only [Value.slice.injEq] at hv
    obtain ⟨rfl, rfl, rfl⟩ := hv
    refine .inr ⟨g, 0, cap, rfl, by simp; omega, fun j y hj => ?_⟩
    have hjq : j < q ∧ j < l.length := by
      have := (List.getElem?_eq_some_iff.1 hj).1
      simp at this
      omega
    have := Owned.at_ h (i := j) hjq.2
    rw [Nat.zero_add, this, ← hj]
    simp [List.getElem?_take_of_lt hjq.1, List.getD_eq_getElem?_getD, hjq.2]
theorem cut_back {k : IntKind} {E : TypeId} {w : World} {g n cap : Nat} {l : List Int} (h : Owned k E w (.slice (some ⟨g, 0, none⟩) n cap) l) {q : Nat} (hq : q ≤ l.length) (hn : n = l.length) :
    SrcAt w (.slice (if cap = q then some ⟨g, 0, none⟩ else some ⟨g, q, none⟩) (n - q) (cap - q)) (n - q) 1 ((l.drop q).map (Value.int k)) := by
  subst hn
  by_cases hc : cap = q
  · rw [if_pos hc]
    obtain ⟨a', cap', h1, h2, _⟩ := h.form
    simp only [Value.slice.injEq] at h1
    obtain ⟨_, _, rfl⟩ := h1
    have : l.length - q = 0 := by omega
    rw [this]
    refine .inl ⟨rfl, ?_, _, _, rfl, fun h => by cases h⟩
    rw [List.drop_eq_nil_of_le (by omega)]
    rfl
  · rw [if_neg hc]
    refine .inr ⟨g, q, cap - q, rfl, by simp, fun j y hj => ?_⟩
    have hjq : q + j < l.length := by
      have := (List.getElem?_eq_some_iff.1 hj).1
      simp at this
      omega
    rw [Owned.at_ h hjq, ← hj]
    simp [List.getD_eq_getElem?_getD, hjq]

theorem some_of {k : IntKind} {E : TypeId} {w : World} {a : Option Addr} {n cap : Nat} {l : List Int} (h : Owned k E w (.slice a n cap) l) (hl : 0 < l.length) : ∃ g, a = some ⟨g, 0, none⟩ := by
  obtain ⟨a', cap', h1, _, h2, h3⟩ := h.form
  simp only [Value.slice.injEq] at h1
  obtain ⟨rfl, _, rfl⟩ := h1
  cases a with
  | none => have := (h2 rfl).1; omega
  | some g => exact ⟨g.block, by rw [← (h3 g rfl).1]⟩
theorem owns_made {w : World} {g : Nat} {E : TypeId} {size : Nat} (h : w.heap[g]? = some (.cells #[] E (0, 0))) : w.ownsRow 0 E size (.slice (some ⟨g, 0, none⟩) 0 0) 0 [] :=
  ⟨by simp, .inr ⟨g, 0, #[], rfl, Nat.zero_le _, h, Nat.le_refl _, Nat.zero_le _, by simp, by simp⟩⟩
theorem app_new {w X W : World} {E : TypeId} {n : Nat} {v v' : Value} {xs : List Value} (hX : Below w.heap.size w X) (hv : ∀ k, v.ownBlock = some k → w.heap.size ≤ k) (h : Appended X W 0 E 1 v v' n xs) :
    Below w.heap.size w W ∧ ∀ k, v'.ownBlock = some k → w.heap.size ≤ k := by
  have hXs := hX.size
  have m1 : Mod (fun k => w.heap.size ≤ k) X W := h.mod hv
  refine ⟨hX.trans (m1.below (fun k hk => hk) hXs), fun k hk => ?_⟩
  rcases h.lies with e | e
  · exact hv k (e ▸ hk)
  · rw [e] at hk
    have : X.heap.size = k := Option.some.inj hk
    omega
theorem bl_al {w X : World} (h : Below w.heap.size w X) (o : Obj) : Below w.heap.size w (X.alloc o) := h.alloc h.size o
theorem owned_three {k : IntKind} {E : TypeId} {w : World} {v : Value} {l1 l2 : List Int} {x : Int} {n : Nat} (h : w.ownsRow 0 E 1 v n (([] ++ l1.map (Value.int k)) ++ [.int k x] ++ l2.map (Value.int k))) (hn : n = (l1 ++ x :: l2).length) : Owned k E w v (l1 ++ x :: l2) := by
  subst hn
  have e : ([] ++ l1.map (Value.int k)) ++ [.int k x] ++ l2.map (Value.int k) = (l1 ++ x :: l2).map (Value.int k) := by simp
  rw [e] at h
  exact h
theorem box_keep {X w5 : World} {E : TypeId} {g0 gb n5 : Nat} {v5 : Value} {xs5 : List Value} {o : Obj} (h5 : Appended X w5 0 E 1 (.slice (some ⟨g0, 0, none⟩) 0 0) v5 n5 xs5) (hb : X.heap[gb]? = some o) (hne : gb ≠ g0) : w5.heap[gb]? = some o :=
  h5.keep hb (fun e => hne (Option.some.inj e).symm)
theorem src_nil (w : World) : SrcAt w (.slice none 0 0) 0 1 [] := .inl ⟨rfl, rfl, none, 0, rfl, fun _ => rfl⟩
theorem src_zero {w : World} {c : Prop} [Decidable c] (p q : Addr) (cap : Nat) : SrcAt w (.slice (if c then some p else some q) 0 cap) 0 1 [] := .inl ⟨rfl, rfl, _, cap, rfl, fun h => by split at h <;> cases h⟩

/-- A list in order, and x in it. -/
structure Puts (l : List Int) (x : Int) (l' : List Int) : Prop where
  up : l'.Pairwise (fun a b => a < b)
  mem : ∀ y, y ∈ l' ↔ y ∈ l ∨ y = x
  len : l'.length ≤ l.length + 1
theorem puts_same {l : List Int} {x : Int} (hl : l.Pairwise (fun a b => a < b)) (h : x ∈ l) : Puts l x l := ⟨hl, fun y => ⟨.inl, fun g => by rcases g with g | rfl; exact g; exact h⟩, by omega⟩
theorem puts_in {l : List Int} {x : Int} {k : Nat} (hl : l.Pairwise (fun a b => a < b)) (hk : k ≤ l.length) (hb : ∀ j, j < k → l.getD j 0 < x) (ha : k < l.length → x < l.getD k 0) : Puts l x (l.take k ++ x :: l.drop k) := by
  have e : l = l.take k ++ l.drop k := (List.take_append_drop k l).symm
  have hl2 := hl
  rw [e] at hl2
  have hp := List.pairwise_append.1 hl2
  have ht : ∀ y ∈ l.take k, y < x := fun y hy => by
    obtain ⟨j, hj, rfl⟩ := List.getElem_of_mem hy
    have hj2 : j < k ∧ j < l.length := by simp at hj; omega
    have := hb j hj2.1
    simpa [List.getD_eq_getElem?_getD, hj2.2] using this
  have hd : ∀ y ∈ l.drop k, x < y := fun y hy => by
    by_cases hkl : k < l.length
    · have h1 : l.drop k = l[k] :: l.drop (k + 1) := List.drop_eq_getElem_cons hkl
      have h2 := ha hkl
      have h3 : l.getD k 0 = l[k] := by simp [List.getD_eq_getElem?_getD, hkl]
      rw [h3] at h2
      rw [h1] at hy
      have h4 := hp.2.1
      rw [h1] at h4
      rcases List.mem_cons.1 hy with rfl | hy
      · exact h2
      · have := (List.pairwise_cons.1 h4).1 y hy
        omega
    · rw [List.drop_eq_nil_of_le (by omega)] at hy
      simp at hy
  refine ⟨List.pairwise_append.2 ⟨hp.1, List.pairwise_cons.2 ⟨hd, hp.2.1⟩, fun a ha2 b hb2 => ?_⟩, fun y => ?_, by simp; omega⟩
  · rcases List.mem_cons.1 hb2 with rfl | hb2
    · exact ht a ha2
    · have := ht a ha2
      have := hd b hb2
      omega
  · have : y ∈ l ↔ y ∈ l.take k ∨ y ∈ l.drop k := by rw [← List.mem_append, List.take_append_drop]
    rw [this, List.mem_append, List.mem_cons]
    constructor
    · rintro (h | h | h)
      · exact .inl (.inl h)
      · exact .inr h
      · exact .inl (.inr h)
    · rintro ((h | h) | h)
      · exact .inl h
      · exact .inr (.inr h)
      · exact .inr (.inl h)
theorem puts_end {l : List Int} {x : Int} {k : Nat} (hl : l.Pairwise (fun a b => a < b)) (hk : k = l.length) (hb : ∀ j, j < k → l.getD j 0 < x) : Puts l x (l.take k ++ x :: []) := by
  have := puts_in hl (Nat.le_of_eq hk) hb (fun h => by omega)
  rwa [List.drop_eq_nil_of_le (by omega)] at this

def PutDone (w : World) (v : Value) (l : List Int) (x : Int) (e : Ending) (w' : World) : Prop := ∃ v' l', e = .returned v' ∧ Owned .i64 3 w' v' l' ∧ Puts l x l' ∧ Below w.heap.size w w' ∧ ∀ g, v'.ownBlock = some g → v.ownBlock = some g ∨ w.heap.size ≤ g
set_option maxRecDepth 100000 in
set_option maxHeartbeats 6400000 in
theorem put_any {w : World} {v : Value} {l : List Int} (h : Owned .i64 3 w v l) (hl : l.Pairwise (fun a b => a < b)) (hlen : l.length ≤ 1000000) (x : Int) :
    Calls Try.prog 59 #[v, .int .i64 x] w (PutDone w v l x) := by
  obtain ⟨ra, rc, hv, h1, h2, h3⟩ := h.form
  subst hv
  have HI := Lib.hid (own_some h)
  have HO := Lib.hid h
  have hkeep := Lib.hid (fun W (hb : Below w.heap.size w W) => Owned.mod h (Mod.of_below (F := fun _ => False) hb) (fun _ _ h => h))
  have HS := Lib.hid hl
  have hnone := Lib.hid h2
  have hcap : rc ≤ maxLen ∨ ra = none := by
    cases ra with
    | none => exact .inr rfl
    | some g => exact .inl (h3 g rfl).2
  have HC := Lib.hid hcap
  have HRC := Lib.hid h1
  clear h hl h2 h3 hcap h1
  go_enter Try.func59, Try.ntmps59
  go_wp2_with fail
  go_loopg [5] l.length (fun kx kv wr => ∃ (k : Nat), kv = .int .i64 (k : Int) ∧ k ≤ l.length ∧ l.length - k ≤ kx ∧ Hid (∀ j, j < k → l.getD j 0 < x) ∧ wr = w)
  case atStart => exact ⟨0, rfl, Nat.zero_le _, by omega, Lib.hid (fun j hj => by omega), rfl⟩
  case round =>
    obtain ⟨k, rfl, hk, hkx, HB, rfl⟩ := hrel
    have q0 : (0 : Int) ≤ (k : Int) := by omega
    have xk : ((k : Int)).toNat = k := by omega
    by_cases hkl : k < l.length
    · have q1 : (k : Int) < (l.length : Int) := by omega
      have q3 : (k : Int) ≤ (l.length : Int) := by omega
      obtain ⟨g, rfl⟩ := HI.out k hkl
      have hrc : rc ≤ maxLen := HC.out.resolve_right (by simp)
      unfold maxLen at hrc
      have d1 := HO.out.at_ hkl
      have hge := HRC.out
      have q2 : (k : Int) ≤ (rc : Int) := by omega
      have HLT := Lib.hid (fun (e : l.getD k 0 < x) => (fun j hj => by
        by_cases h : j = k
        · rw [h]; exact e
        · exact HB.out j (by omega) : ∀ j, j < k + 1 → l.getD j 0 < x))
      have HEQ := Lib.hid (fun (e : l.getD k 0 = x) => puts_same HS.out (e ▸ get_mem hkl))
      have HGT := Lib.hid (fun (e : x < l.getD k 0) => puts_in HS.out hk HB.out (fun _ => e))
      generalize l.getD k 0 = y at *
      clear HB
      by_cases e1 : y < x
      · have HB2 := Lib.hid (HLT.out e1)
        clear HLT HEQ HGT
        go_wp2_with fail
        go_roundg (l.length - (k + 1))
        case rel => exact ⟨k + 1, by go_num, by omega, by omega, HB2, rfl⟩
        case measure => omega
      · by_cases e2 : y = x
        · have e3 : (y == x) = true := by simp [e2]
          have HP := Lib.hid (HEQ.out e2)
          clear HLT HEQ HGT e2
          go_wp2_with fail
          go_ret
          exact ⟨_, l, rfl, HO.out, HP.out, Below.refl _ _, fun g hg => .inl hg⟩
        · have e3 : (y == x) = false := by simpa using e2
          have HP := Lib.hid (HGT.out (by omega))
          clear HLT HEQ HGT e2
          go_wp2_with fail
          go_region_law (first | (refine step_append (zero := .int .i64 0) (base := 0) (n := 0) (xs := []) (m := k) (ys := (l.take k).map (Value.int .i64)) rfl (.tmp 33) (.tmp 36) rfl Try.underlying25 info_int rfl Nat.zero_lt_one (Nat.le_of_ble_eq_true rfl) rfl ?_ rfl ?_ (by first | exact ints_one _ _ | (intro y hy; simp at hy)) ?_ (Nat.zero_le _) ?_; exact owns_made (by first | exact blk_at (by simp) | exact blk_drew (blk_at (by simp)) | exact blk_alloc (blk_at (by simp)) | exact blk_alloc (blk_drew (blk_at (by simp))) | exact blk_drew (blk_alloc (blk_at (by simp)))); exact cut_front (hkeep.out _ (by repeat (first | exact Below.refl _ _ | refine Below.drew ?_ | refine bl_al ?_ _))) (by omega); omega; intro v5 w5 h5; obtain ⟨B5, f5⟩ := app_new (w := wr) (by repeat (first | exact Below.refl _ _ | refine Below.drew ?_ | refine bl_al ?_ _)) (fun j hj => by have hj2 : _ = j := Option.some.inj hj; (try simp at hj2); omega) h5) | (refine step_append (zero := .int .i64 0) (base := 0) (n := 0 + k) (xs := [] ++ (l.take k).map (Value.int .i64)) (m := 1) (ys := [.int .i64 x]) rfl (.tmp 37) (.tmp 39) rfl Try.underlying25 info_int rfl Nat.zero_lt_one (Nat.le_of_ble_eq_true rfl) rfl ?_ rfl ?_ (ints_one .i64 [_]) ?_ (Nat.zero_le _) ?_; (first | exact h5.own | exact World.ownsRow.alloc h5.own _); (first | exact SrcAt.one (blk_at (by simp)) | exact SrcAt.one (box_keep h5 (by first | exact blk_at (by simp) | exact blk_drew (blk_at (by simp)) | exact blk_alloc (blk_at (by simp)) | exact blk_alloc (blk_drew (blk_at (by simp))) | exact blk_drew (blk_alloc (blk_at (by simp)))) (by simp))); omega; intro v6 w6 h6; obtain ⟨B6, f6⟩ := app_new (w := wr) (by repeat (first | exact B5 | refine Below.drew ?_ | refine bl_al ?_ _)) f5 h6) | (refine step_append (zero := .int .i64 0) (base := 0) (n := 0 + k + 1) (xs := ([] ++ (l.take k).map (Value.int .i64)) ++ [.int .i64 x]) (m := l.length - k) (ys := (l.drop k).map (Value.int .i64)) rfl (.tmp 40) (.tmp 43) rfl Try.underlying25 info_int rfl Nat.zero_lt_one (Nat.le_of_ble_eq_true rfl) rfl ?_ rfl ?_ (by first | exact ints_one _ _ | (intro y hy; simp at hy)) ?_ (Nat.zero_le _) ?_; exact h6.own; exact cut_back (hkeep.out _ (by repeat (first | exact B6 | refine Below.drew ?_ | refine bl_al ?_ _))) (by omega) rfl; omega; intro v7 w7 h7; obtain ⟨B7, f7⟩ := app_new (w := wr) (by repeat (first | exact B6 | refine Below.drew ?_ | refine bl_al ?_ _)) f6 h7; have O7 : Owned .i64 3 w7 v7 (l.take k ++ x :: l.drop k) := owned_three (l1 := l.take k) (l2 := l.drop k) h7.own (by simp; (try omega))))
          all_goals
            obtain ⟨a7, c7, hv7⟩ := h7.val
            have O8 := Lib.hid O7
            have B8 := Lib.hid B7
            have f8 := Lib.hid f7
            clear B5 f5 B6 f6 B7 f7 O7 h5 h6 h7 hkeep
            subst hv7
            simp only [Nat.zero_add] at O8 f8
            go_wp2_with fail
            all_goals
              go_ret
              exact ⟨_, l.take k ++ x :: l.drop k, rfl, O8.out, HP.out, B8.out, fun g hg => .inr (f8.out g hg)⟩
    · have q1 : ¬ (k : Int) < (l.length : Int) := by omega
      have hke : k = l.length := by omega
      have HP := Lib.hid (puts_end HS.out hke HB.out)
      cases ra with
      | none =>
        obtain ⟨hl0, hc0⟩ := hnone.out rfl
        have hl1 : l = [] := List.length_eq_zero_iff.1 hl0
        subst hl1 hc0
        obtain rfl : k = 0 := by simpa using hke
        clear HB hke hkx hk HI HO HS hnone HC HRC hl0
        go_wp2_with fail
        go_region_law (first | (refine step_append (zero := .int .i64 0) (base := 0) (n := 0) (xs := []) (m := 0) (ys := []) rfl (.tmp 33) (.tmp 36) rfl Try.underlying25 info_int rfl Nat.zero_lt_one (Nat.le_of_ble_eq_true rfl) rfl ?_ rfl ?_ (by first | exact ints_one _ _ | (intro y hy; simp at hy)) ?_ (Nat.zero_le _) ?_; exact owns_made (by first | exact blk_at (by simp) | exact blk_drew (blk_at (by simp)) | exact blk_alloc (blk_at (by simp)) | exact blk_alloc (blk_drew (blk_at (by simp))) | exact blk_drew (blk_alloc (blk_at (by simp)))); exact src_nil _; omega; intro v5 w5 h5; obtain ⟨B5, f5⟩ := app_new (w := wr) (by repeat (first | exact Below.refl _ _ | refine Below.drew ?_ | refine bl_al ?_ _)) (fun j hj => by have hj2 : _ = j := Option.some.inj hj; (try simp at hj2); omega) h5) | (refine step_append (zero := .int .i64 0) (base := 0) (n := 0 + 0) (xs := [] ++ []) (m := 1) (ys := [.int .i64 x]) rfl (.tmp 37) (.tmp 39) rfl Try.underlying25 info_int rfl Nat.zero_lt_one (Nat.le_of_ble_eq_true rfl) rfl ?_ rfl ?_ (ints_one .i64 [_]) ?_ (Nat.zero_le _) ?_; (first | exact h5.own | exact World.ownsRow.alloc h5.own _); (first | exact SrcAt.one (blk_at (by simp)) | exact SrcAt.one (box_keep h5 (by first | exact blk_at (by simp) | exact blk_drew (blk_at (by simp)) | exact blk_alloc (blk_at (by simp)) | exact blk_alloc (blk_drew (blk_at (by simp))) | exact blk_drew (blk_alloc (blk_at (by simp)))) (by simp))); omega; intro v6 w6 h6; obtain ⟨B6, f6⟩ := app_new (w := wr) (by repeat (first | exact B5 | refine Below.drew ?_ | refine bl_al ?_ _)) f5 h6) | (refine step_append (zero := .int .i64 0) (base := 0) (n := 0 + 0 + 1) (xs := ([] ++ []) ++ [.int .i64 x]) (m := 0) (ys := []) rfl (.tmp 40) (.tmp 43) rfl Try.underlying25 info_int rfl Nat.zero_lt_one (Nat.le_of_ble_eq_true rfl) rfl ?_ rfl ?_ (by first | exact ints_one _ _ | (intro y hy; simp at hy)) ?_ (Nat.zero_le _) ?_; exact h6.own; exact src_nil _; omega; intro v7 w7 h7; obtain ⟨B7, f7⟩ := app_new (w := wr) (by repeat (first | exact B6 | refine Below.drew ?_ | refine bl_al ?_ _)) f6 h7; have O7 : Owned .i64 3 w7 v7 ([] ++ x :: []) := owned_three (l1 := []) (l2 := []) h7.own (by simp; (try omega))))
        all_goals
          obtain ⟨a7, c7, hv7⟩ := h7.val
          have O8 := Lib.hid O7
          have B8 := Lib.hid B7
          have f8 := Lib.hid f7
          clear B5 f5 B6 f6 B7 f7 O7 h5 h6 h7 hkeep
          subst hv7
          simp only [Nat.zero_add, Nat.add_zero] at O8 f8
          go_wp2_with fail
          all_goals
            go_ret
            exact ⟨_, [] ++ x :: [], rfl, O8.out, HP.out, B8.out, fun g hg => .inr (f8.out g hg)⟩
      | some ga =>
        have hrc : rc ≤ maxLen := HC.out.resolve_right (by simp)
        unfold maxLen at hrc
        have hge := HRC.out
        have q2 : (k : Int) ≤ (rc : Int) := by omega
        have q3 : (k : Int) ≤ (l.length : Int) := by omega
        have hga : ga = ⟨ga.block, 0, none⟩ := by
          obtain ⟨a', cap', g1, _, _, g3⟩ := HO.out.form
          simp only [Value.slice.injEq] at g1
          exact (g3 ga g1.1.symm).1
        obtain ⟨gb, go2, gs⟩ := ga
        simp only [Addr.mk.injEq, true_and] at hga
        obtain ⟨rfl, rfl⟩ := hga
        have HP := Lib.hid (puts_in HS.out hk HB.out (fun h => by omega))
        have hkl2 : k ≤ l.length := hk
        clear HB hkx HS hnone HC HRC HI hke
        go_wp2_with fail
        go_region_law (first | (refine step_append (zero := .int .i64 0) (base := 0) (n := 0) (xs := []) (m := k) (ys := (l.take k).map (Value.int .i64)) rfl (.tmp 33) (.tmp 36) rfl Try.underlying25 info_int rfl Nat.zero_lt_one (Nat.le_of_ble_eq_true rfl) rfl ?_ rfl ?_ (by first | exact ints_one _ _ | (intro y hy; simp at hy)) ?_ (Nat.zero_le _) ?_; exact owns_made (by first | exact blk_at (by simp) | exact blk_drew (blk_at (by simp)) | exact blk_alloc (blk_at (by simp)) | exact blk_alloc (blk_drew (blk_at (by simp))) | exact blk_drew (blk_alloc (blk_at (by simp)))); exact cut_front (hkeep.out _ (by repeat (first | exact Below.refl _ _ | refine Below.drew ?_ | refine bl_al ?_ _))) (by omega); omega; intro v5 w5 h5; obtain ⟨B5, f5⟩ := app_new (w := wr) (by repeat (first | exact Below.refl _ _ | refine Below.drew ?_ | refine bl_al ?_ _)) (fun j hj => by have hj2 : _ = j := Option.some.inj hj; (try simp at hj2); omega) h5) | (refine step_append (zero := .int .i64 0) (base := 0) (n := 0 + k) (xs := [] ++ (l.take k).map (Value.int .i64)) (m := 1) (ys := [.int .i64 x]) rfl (.tmp 37) (.tmp 39) rfl Try.underlying25 info_int rfl Nat.zero_lt_one (Nat.le_of_ble_eq_true rfl) rfl ?_ rfl ?_ (ints_one .i64 [_]) ?_ (Nat.zero_le _) ?_; (first | exact h5.own | exact World.ownsRow.alloc h5.own _); (first | exact SrcAt.one (blk_at (by simp)) | exact SrcAt.one (box_keep h5 (by first | exact blk_at (by simp) | exact blk_drew (blk_at (by simp)) | exact blk_alloc (blk_at (by simp)) | exact blk_alloc (blk_drew (blk_at (by simp))) | exact blk_drew (blk_alloc (blk_at (by simp)))) (by simp))); omega; intro v6 w6 h6; obtain ⟨B6, f6⟩ := app_new (w := wr) (by repeat (first | exact B5 | refine Below.drew ?_ | refine bl_al ?_ _)) f5 h6) | (refine step_append (zero := .int .i64 0) (base := 0) (n := 0 + k + 1) (xs := ([] ++ (l.take k).map (Value.int .i64)) ++ [.int .i64 x]) (m := l.length - k) (ys := (l.drop k).map (Value.int .i64)) rfl (.tmp 40) (.tmp 43) rfl Try.underlying25 info_int rfl Nat.zero_lt_one (Nat.le_of_ble_eq_true rfl) rfl ?_ rfl ?_ (by first | exact ints_one _ _ | (intro y hy; simp at hy)) ?_ (Nat.zero_le _) ?_; exact h6.own; exact cut_back (hkeep.out _ (by repeat (first | exact B6 | refine Below.drew ?_ | refine bl_al ?_ _))) (by omega) rfl; omega; intro v7 w7 h7; obtain ⟨B7, f7⟩ := app_new (w := wr) (by repeat (first | exact B6 | refine Below.drew ?_ | refine bl_al ?_ _)) f6 h7; have O7 : Owned .i64 3 w7 v7 (l.take k ++ x :: l.drop k) := owned_three (l1 := l.take k) (l2 := l.drop k) h7.own (by simp; (try omega))))
        all_goals
          obtain ⟨a7, c7, hv7⟩ := h7.val
          have O8 := Lib.hid O7
          have B8 := Lib.hid B7
          have f8 := Lib.hid f7
          clear B5 f5 B6 f6 B7 f7 O7 h5 h6 h7 hkeep
          subst hv7
          simp only [Nat.zero_add] at O8 f8
          go_wp2_with fail
          all_goals
            go_ret
            exact ⟨_, l.take k ++ x :: l.drop k, rfl, O8.out, HP.out, B8.out, fun g hg => .inr (f8.out g hg)⟩
end Go.Proofs.Ytbihfjehlbaahaa
