/- Find. -/
import Derived.Test.YtoidmakaijkglaaGreatHG
namespace Go.Proofs.YtoidmakaijkglaaGreat
open Go.RowKit
def findL (l : List (Int × Nat)) (key : Int) : Option Nat := (l.find? fun e => decide (e.1 = key)).map (·.2)
def bucketOf (n : Nat) (key : Int) : Nat := (bkt key n).toNat
def findK (n : Nat) (bs : List (List (Int × Nat))) (key : Int) : Option Nat := if 0 ≤ key ∧ key ≤ 63 then findL (bs.getD (bucketOf n key) []) key else none
def foundV : Option Nat → Value
  | some c => .tuple #[.pointer (some ⟨c, 0, none⟩), .bool true]
  | none => .tuple #[.pointer none, .bool false]
theorem findL_next {l : List (Int × Nat)} {k : Nat} (hk : k < l.length) (key : Int) : findL (l.drop k) key = if (l.getD k (0, 0)).1 = key then some (l.getD k (0, 0)).2 else findL (l.drop (k + 1)) key := by
  have e : l.getD k (0, 0) = l[k] := by simp [List.getD_eq_getElem?_getD, hk]
  rw [e, List.drop_eq_getElem_cons hk]
  unfold findL
  rw [List.find?_cons]
  by_cases h : l[k].1 = key
  · simp [h]
  · simp [h]
theorem bucketOf_lt {n : Nat} {key : Int} (hn : 1 ≤ n) : bucketOf n key < n := by
  have := bkt_range (k := key) (b := (n : Int)) (by omega)
  unfold bucketOf
  omega
theorem bucketOf_int {n : Nat} {key : Int} (hn : 1 ≤ n) : ((bucketOf n key : Nat) : Int) = bkt key n := by
  have := bkt_range (k := key) (b := (n : Int)) (by omega)
  unfold bucketOf
  omega
theorem IxM.at_ {w : World} {xb g sb ab n : Nat} {vs : List Value} {bs : List (List (Int × Nat))} (h : IxM w xb g sb ab n vs bs) : IxAt w xb (IxF xb g n vs) sb ab n bs := .inr ⟨g, vs, rfl, h⟩
theorem IxM.slot {w : World} {xb g sb ab n : Nat} {vs : List Value} {bs : List (List (Int × Nat))} (h : IxM w xb g sb ab n vs bs) {i : Nat} (hi : i < n) : w.cell? ⟨g, i, none⟩ = some (vAt vs i) ∧ w.frozen? ⟨g, i, none⟩ = false := by
  refine ⟨?_, blk_free h.row i⟩
  rw [blk_cell h.row]
  have := h.vlen
  simp [vAt, List.getD_eq_getElem?_getD, show i < vs.length by omega]
theorem IxAt.n_cell {w : World} {xb : Nat} {F : Nat → Prop} {sb ab n : Nat} {bs : List (List (Int × Nat))} (h : IxAt w xb F sb ab n bs) : w.cell? ⟨xb, 0, none⟩ = some (.pointer (some ⟨sb, 0, none⟩)) ∧ w.cell? ⟨xb, 1, none⟩ = some (.pointer (some ⟨ab, 0, none⟩)) ∧ w.cell? ⟨xb, 2, none⟩ = some (.int .i64 n) := by
  rcases h with ⟨_, _, h⟩ | ⟨g, vs, _, h⟩
  · exact ⟨(blk_cell h 0).trans rfl, (blk_cell h 1).trans rfl, (blk_cell h 2).trans rfl⟩
  · exact ⟨(blk_cell h.head 0).trans rfl, (blk_cell h.head 1).trans rfl, (blk_cell h.head 2).trans rfl⟩
/-- What a call leaves of the index. -/
def LeftX (w : World) (xb : Nat) (F : Nat → Prop) (sb ab n : Nat) (bs : List (List (Int × Nat))) (w' : World) : Prop := ∃ F', IxAt w' xb F' sb ab n bs ∧ Mod F w w' ∧ Grows w F F'
theorem LeftX.same {w : World} {xb : Nat} {F : Nat → Prop} {sb ab n : Nat} {bs : List (List (Int × Nat))} (h : IxAt w xb F sb ab n bs) : LeftX w xb F sb ab n bs w := ⟨F, h, Mod.refl _ _, Grows.refl _ _⟩
set_option maxRecDepth 100000 in
set_option maxHeartbeats 1600000 in
theorem ix_find {xb sb ab n : Nat} {F : Nat → Prop} {bs : List (List (Int × Nat))} (w : World) (h : IxAt w xb F sb ab n bs) (hn1 : 1 ≤ n) (hn : n ≤ 64) (hsz : ∀ i, (bs.getD i []).length ≤ 100000) (key : Int) :
    Calls Tryz.prog 13 #[.pointer (some ⟨xb, 0, none⟩), .int .i64 key] w fun e w' => e = .returned (foundV (findK n bs key)) ∧ LeftX w xb F sb ab n bs w' := by
  have his := is_any key w
  by_cases hk : 0 ≤ key ∧ key ≤ 63
  · rw [show okKey key = true by simp [okKey, hk]] at his
    have HIS := Lib.hid his
    have c2 := h.n_cell.2.2
    have HBK := Lib.hid (bucket_in (k := key) (b := (n : Int)) w hk.1 hk.2 (by omega) (by omega))
    rw [← bucketOf_int hn1] at HBK
    have hlt := bucketOf_lt (key := key) hn1
    have HL := Lib.hid (ix_list (i := bucketOf n key) w h hn hlt)
    have e1 : findK n bs key = findL (bs.getD (bucketOf n key) []) key := by unfold findK; rw [if_pos hk]
    rw [e1]
    generalize bucketOf n key = i at *
    obtain ⟨R, hR⟩ : ∃ R, findL (bs.getD i []) key = R := ⟨_, rfl⟩
    rw [hR]
    have HR := Lib.hid hR
    have HSZ := Lib.hid (hsz i)
    clear his h e1 hR hsz
    go_enter Tryz.func13, Tryz.ntmps13
    go_wp2_with fail
    refine HIS.out.mono ?_
    rintro e w' ⟨rfl, rfl⟩
    go_wp2_with fail
    refine HBK.out.mono ?_
    rintro e w' ⟨rfl, rfl⟩
    go_wp2_with fail
    refine HL.out.mono ?_
    rintro e w1 ⟨g, vs, rfl, hM, hm, hg⟩
    have HM := Lib.hid hM
    have HMD := Lib.hid hm
    have HGR := Lib.hid hg
    have c3 := (hM.slot hlt).1
    have hE := hM.ents i hlt
    have HEN := Lib.hid hE
    clear hM hm hg HIS HBK HL c2
    generalize bs.getD i [] = l at *
    generalize vAt vs i = v at *
    rcases hE.form with ⟨rfl, rfl⟩ | ⟨gr, cap, cur, rfl, -, -, -, -, -⟩
    · clear hE
      go_wp2_with fail
      go_loopg [22] 0 (fun kx jv wr => jv = .int .i64 0 ∧ Hid (wr = w1))
      case atStart => exact ⟨rfl, Lib.hid rfl⟩
      case round =>
        obtain ⟨rfl, HW⟩ := hrel
        obtain rfl := HW.out
        go_wp2_with fail
        go_ret2
        rw [← HR.out]
        exact ⟨rfl, _, HM.out.at_, HMD.out, HGR.out⟩
    · clear hE
      go_wp2_with fail
      go_loopg [22] l.length (fun kx jv wr => ∃ j : Nat, jv = .int .i64 j ∧ j ≤ l.length ∧ l.length - j ≤ kx ∧ Hid (R = findL (l.drop j) key) ∧ Hid (Below w1.heap.size w1 wr))
      case atStart => exact ⟨0, rfl, Nat.zero_le _, by omega, Lib.hid HR.out.symm, Lib.hid (Below.refl _ _)⟩
      case round =>
        obtain ⟨j, rfl, hj, hjk, HF, HX⟩ := hrel
        have j0 : (0 : Int) ≤ (j : Int) := by omega
        by_cases hlt : j < l.length
        · have j1 : (j : Int) < (l.length : Int) := by omega
          have jw : IntKind.i64.wrap ((j : Int) + 1) = (j : Int) + 1 := IntWalk.i64_in _ (by have := HSZ.out; omega)
          have hnx := findL_next hlt key
          have hat := (HEN.out.later HX.out).at_ hlt
          have c0 := hat.1
          have c1 := hat.2.1
          clear hat
          generalize l.getD j (0, 0) = y at *
          obtain ⟨yk, yc⟩ := y
          dsimp only at c0 c1 hnx
          by_cases hyk : yk = key
          · rw [if_pos hyk] at hnx
            subst hyk
            have HNX := Lib.hid hnx
            have HB := Lib.hid (bl_alloc2 HX.out (.cells #[.int .i64 yk, .pointer (some ⟨yc, 0, none⟩)] 84 (0, 0)))
            clear hnx
            go_wp2_with fail
            go_ret2
            rw [HF.out, HNX.out]
            exact ⟨rfl, _, (HM.out.later ((bl_alloc2 HX.out _))).at_, HMD.out.trans (Mod.of_below (bl_alloc2 HX.out _)), HGR.out⟩
          · rw [if_neg hyk] at hnx
            have HNX := Lib.hid hnx
            have hye : (yk == key) = false := by simpa using hyk
            clear hnx
            go_wp2_with fail
            go_roundg (l.length - (j + 1))
            case rel => exact ⟨j + 1, by go_num, by omega, by omega, Lib.hid (by rw [HF.out, HNX.out]), Lib.hid (bl_alloc2 HX.out _)⟩
            case measure => omega
        · have j1 : ¬ (j : Int) < (l.length : Int) := by omega
          have hje : j = l.length := by omega
          have HJE := Lib.hid hje
          clear hje
          go_wp2_with fail
          go_ret2
          rw [HF.out, HJE.out, List.drop_length]
          exact ⟨rfl, _, (HM.out.later HX.out).at_, HMD.out.trans (Mod.of_below HX.out), HGR.out⟩
  · have e1 : findK n bs key = none := by unfold findK; rw [if_neg hk]
    rw [e1, show okKey key = false by unfold okKey; simp; omega] at *
    have HIS := Lib.hid his
    have HS := Lib.hid (LeftX.same h)
    clear his h e1
    go_enter Tryz.func13, Tryz.ntmps13
    go_wp2_with fail
    refine HIS.out.mono ?_
    rintro e w' ⟨rfl, rfl⟩
    go_wp2_with fail
    go_ret2
    exact ⟨rfl, HS.out⟩
end Go.Proofs.YtoidmakaijkglaaGreat
