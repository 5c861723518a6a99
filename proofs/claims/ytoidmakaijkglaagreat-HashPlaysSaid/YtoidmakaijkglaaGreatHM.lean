/- New and Put. -/
import Derived.Test.YtoidmakaijkglaaGreatHL
import Derived.Test.YtoidmakaijkglaaGreatY1
namespace Go.Proofs.YtoidmakaijkglaaGreat
open Go.RowKit
def Made (w0 w : World) (sb n : Nat) (L : List Ob) (e : Ending) (w' : World) : Prop := ∃ (xb ab : Nat) (Fa : Nat → Prop), e = .returned (.tuple #[.pointer (some ⟨xb, 0, none⟩), .int .i64 0]) ∧ Sep w0 w' (obIx xb (fun k => k = xb) sb ab n (List.replicate n []) :: obArena ab Fa (List.replicate 64 0) :: L) ∧ w.heap.size ≤ w'.heap.size
set_option maxRecDepth 100000 in
set_option maxHeartbeats 800000 in
theorem hx_new {w0 w : World} {L : List Ob} (h : Sep w0 w L) (sb : Nat) {n : Nat} (h1 : 1 ≤ n) (h2 : n ≤ 64) :
    Calls Tryz.prog 6 #[.pointer (some ⟨sb, 0, none⟩), .int .i64 n] w (Made w0 w sb n L) := by
  have HA := Lib.hid (arena_new 64 w (by decide) (by decide))
  have HS := Lib.hid h
  have a1 : (1 : Int) ≤ n := by omega
  have a2 : (n : Int) ≤ 64 := by omega
  clear h
  go_enter Tryz.func6, Tryz.ntmps6
  go_wp2_with fail
  refine HA.out.mono ?_
  rintro e w1 ⟨ab, Fa, rfl, hA, hB, hF⟩
  have h2 := HS.out.new (A := obArena ab Fa (List.replicate 64 0)) hB hA hF
  have HS2 := Lib.hid h2
  have HB := Lib.hid hB.size
  clear hA hB hF h2 HA HS
  go_wp2_with fail
  go_ret2
  refine ⟨w1.heap.size, ab, Fa, rfl, ?_, by have := HB.out; simp; omega⟩
  exact HS2.out.new (A := obIx w1.heap.size (fun k => k = w1.heap.size) sb ab n (List.replicate n [])) (bl_alloc2 (Below.refl _ _) _) (.inl ⟨rfl, rfl, blk_new _ _⟩) (fun k hk => Nat.le_of_eq hk.symm)
set_option maxHeartbeats 800000 in
theorem hx_new_no (s : Option Addr) (b : Int) (w : World) (hb : s = none ∨ b < 1 ∨ 64 < b) :
    Calls Tryz.prog 6 #[.pointer s, .int .i64 b] w fun e w' => e = .returned (.tuple #[.pointer none, .int .i64 1]) ∧ w = w' := by
  cases s with
  | none =>
    go_enter Tryz.func6, Tryz.ntmps6
    go_wp2_with fail
    go_ret2
    exact ⟨rfl, rfl⟩
  | some a =>
    rcases (by simpa using hb : b < 1 ∨ 64 < b) with hb | hb
    · go_enter Tryz.func6, Tryz.ntmps6
      go_wp2_with fail
      go_ret2
      exact ⟨rfl, rfl⟩
    · have h1 : 1 ≤ b := by omega
      go_enter Tryz.func6, Tryz.ntmps6
      go_wp2_with fail
      go_ret2
      exact ⟨rfl, rfl⟩
/-- A key's bucket behind a Put. -/
def putK (n : Nat) (bs : List (List (Int × Nat))) (key : Int) (c : Nat) : List (List (Int × Nat)) := bs.set (bucketOf n key) ((key, c) :: bs.getD (bucketOf n key) [])
theorem vAt_set {vs : List Value} {i j : Nat} {v : Value} (hi : i < vs.length) : vAt (vs.set i v) j = if j = i then v else vAt vs j := by
  unfold vAt
  by_cases h : j = i
  · subst h
    simp [List.getD_eq_getElem?_getD, hi]
  · rw [if_neg h]
    simp [List.getD_eq_getElem?_getD, List.getElem?_set_ne (fun e => h e.symm)]
theorem bs_set {bs : List (List (Int × Nat))} {i j : Nat} {l : List (Int × Nat)} (hi : i < bs.length) : (bs.set i l).getD j [] = if j = i then l else bs.getD j [] := by
  by_cases h : j = i
  · subst h
    simp [List.getD_eq_getElem?_getD, hi]
  · rw [if_neg h]
    simp [List.getD_eq_getElem?_getD, List.getElem?_set_ne (fun e => h e.symm)]
/-- A bucket's row is another one. -/
theorem IxM.turn {w w1 : World} {xb g sb ab n i : Nat} {vs : List Value} {bs : List (List (Int × Nat))} {v' : Value} {l : List (Int × Nat)} (h : IxM w xb g sb ab n vs bs) (hi : i < n) (hr : EntRow w1 v' l) (hm : Mod (fun k => (vAt vs i).ownBlock = some k) w w1) (hg : ∀ k, v'.ownBlock = some k → (vAt vs i).ownBlock = some k ∨ w.heap.size ≤ k) :
    IxM (w1.setCell ⟨g, i, none⟩ v') xb g sb ab n (vs.set i v') (bs.set i l) ∧ Mod (IxF xb g n vs) w (w1.setCell ⟨g, i, none⟩ v') ∧ Grows w (IxF xb g n vs) (IxF xb g n (vs.set i v')) := by
  have hvl := h.vlen
  have hbl := h.blen
  have hgl := blk_lt h.row
  have hxl := blk_lt h.head
  have hrow := hm.keep h.row (h.neg i hi)
  have hset : Mod (fun k => k = g) w1 (w1.setCell ⟨g, i, none⟩ v') := (Mod.refl (fun k => k = g) w1).setCell (p := ⟨g, i, none⟩) (.inl rfl) _
  have hvg : v'.ownBlock ≠ some g := fun e => by
    rcases hg g e with h1 | h1
    · exact h.neg i hi h1
    · omega
  have hvx : v'.ownBlock ≠ some xb := fun e => by
    rcases hg xb e with h1 | h1
    · exact h.nex i hi h1
    · omega
  refine ⟨⟨?_, ?_, by simpa using hvl, by simpa using hbl, fun j hj => ?_, h.ne, fun j hj => ?_, fun j hj => ?_, fun j j2 k hj hj2 => ?_⟩, ?_, ?_⟩
  · exact hset.keep (hm.keep h.head (h.nex i hi)) h.ne
  · have := blk_set (i := i) (u := v') hrow
    simpa using this
  · rw [vAt_set (by omega), bs_set (by omega)]
    by_cases e : j = i
    · rw [if_pos e, if_pos e]
      exact hr.mod hset (fun k hk e => hvg (by rw [hk, e]))
    · rw [if_neg e, if_neg e]
      exact ((h.ents j hj).mod hm (fun k hk hk2 => e (h.apart j i k hj hi hk hk2))).mod hset (fun k hk e2 => h.neg j hj (by rw [hk, e2]))
  · rw [vAt_set (by omega)]
    by_cases e : j = i
    · rw [if_pos e]; exact hvx
    · rw [if_neg e]; exact h.nex j hj
  · rw [vAt_set (by omega)]
    by_cases e : j = i
    · rw [if_pos e]; exact hvg
    · rw [if_neg e]; exact h.neg j hj
  · have key : ∀ a b, a < n → b < n → a = i → b ≠ i → v'.ownBlock = some k → (vAt vs b).ownBlock = some k → False := fun a b _ hb _ hbi h1 h2 => by
      rcases hg k h1 with h3 | h3
      · exact hbi (h.apart b i k hb hi h2 h3)
      · have := (h.ents b hb).lt k h2
        omega
    rw [vAt_set (by omega), vAt_set (by omega)]
    by_cases e : j = i
    · by_cases e2 : j2 = i
      · intro _ _; rw [e, e2]
      · rw [if_pos e, if_neg e2]
        exact fun h1 h2 => (key j j2 hj hj2 e e2 h1 h2).elim
    · by_cases e2 : j2 = i
      · rw [if_neg e, if_pos e2]
        exact fun h1 h2 => (key j2 j hj2 hj e2 e h2 h1).elim
      · rw [if_neg e, if_neg e2]
        exact h.apart j j2 k hj hj2
  · exact (hm.mono (fun k hk => .inl (.inr (.inr ⟨i, hi, hk⟩)))).trans (hset.mono (fun k hk => .inl (.inr (.inl hk))))
  · rintro k (rfl | rfl | ⟨j, hj, hk⟩)
    · exact .inl (.inl rfl)
    · exact .inl (.inr (.inl rfl))
    · rw [vAt_set (by omega)] at hk
      by_cases e : j = i
      · rw [if_pos e] at hk
        rcases hg k hk with h1 | h1
        · exact .inl (.inr (.inr ⟨i, hi, h1⟩))
        · exact .inr h1
      · rw [if_neg e] at hk
        exact .inl (.inr (.inr ⟨j, hj, hk⟩))
end Go.Proofs.YtoidmakaijkglaaGreat
