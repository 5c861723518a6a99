/- Put. -/
import Derived.Test.YtoidmakaijkglaaGreatHM
namespace Go.Proofs.YtoidmakaijkglaaGreat
open Go.RowKit
set_option maxHeartbeats 1600000 in
theorem put_bad {w0 w : World} {xb : Nat} (key : Int) (hk : ¬ (0 ≤ key ∧ key ≤ 63)) (_h : w0 = w0) :
    Calls Tryz.prog 7 #[.pointer (some ⟨xb, 0, none⟩), .int .i64 key] w fun e w' => e = .returned (.tuple #[.pointer none, .int .i64 1]) ∧ w = w' := by
  have his := is_any key w
  rw [show okKey key = false by unfold okKey; simp; omega] at his
  have HIS := Lib.hid his
  clear his
  go_enter Tryz.func7, Tryz.ntmps7
  go_wp2_with fail
  refine HIS.out.mono ?_
  rintro e w' ⟨rfl, rfl⟩
  go_wp2_with fail
  go_ret2
  exact ⟨rfl, rfl⟩
section
variable {w0 w : World} {xb sb ab n : Nat} {F Fa : Nat → Prop} {bs : List (List (Int × Nat))} {ws : List Int} {L : List Ob}
set_option maxRecDepth 100000 in
set_option maxHeartbeats 3200000 in
theorem sx_put_old (h : Sep w0 w (obIx xb F sb ab n bs :: L)) (hn1 : 1 ≤ n) (hn : n ≤ 64) (hsz : ∀ i, (bs.getD i []).length ≤ 100000) {key : Int} (hk : 0 ≤ key ∧ key ≤ 63) {c : Nat} (hf : findK n bs key = some c) :
    Calls Tryz.prog 7 #[.pointer (some ⟨xb, 0, none⟩), .int .i64 key] w fun e w' => e = .returned (.tuple #[.pointer (some ⟨c, 0, none⟩), .int .i64 0]) ∧ ∃ F', Sep w0 w' (obIx xb F' sb ab n bs :: L) := by
  have his := is_any key w
  rw [show okKey key = true by simp [okKey, hk]] at his
  have HIS := Lib.hid his
  have hfi := sx_find h hn1 hn hsz key
  rw [hf] at hfi
  simp only [foundV] at hfi
  have HF := Lib.hid hfi
  clear his hfi h hsz
  go_enter Tryz.func7, Tryz.ntmps7
  go_wp2_with fail
  refine HIS.out.mono ?_
  rintro e w' ⟨rfl, rfl⟩
  go_wp2_with fail
  refine HF.out.mono ?_
  rintro e w1 ⟨rfl, h1⟩
  have H1 := Lib.hid h1
  clear h1
  go_wp2_with fail
  go_ret2
  exact ⟨rfl, H1.out⟩
set_option maxRecDepth 100000 in
set_option maxHeartbeats 3200000 in
theorem sx_put_new (h : Sep w0 w (obIx xb F sb ab n bs :: obArena ab Fa ws :: L)) (hn1 : 1 ≤ n) (hn : n ≤ 64) (hsz : ∀ i, (bs.getD i []).length ≤ 100000) {key : Nat} (hk : key ≤ 63) (hws : ws.length = 64) (hf : findK n bs key = none) :
    Calls Tryz.prog 7 #[.pointer (some ⟨xb, 0, none⟩), .int .i64 key] w fun e w' => ∃ cb, e = .returned (.tuple #[.pointer (some ⟨cb, 0, none⟩), .int .i64 0]) ∧ ∃ F', Sep w0 w' (obIx xb F' sb ab n (putK n bs key cb) :: obArena ab Fa ws :: obChain cb sb ab key :: L) := by
  have hki : (0 : Int) ≤ (key : Int) ∧ (key : Int) ≤ 63 := by omega
  have his := is_any key w
  rw [show okKey key = true by simp [okKey, hki]] at his
  have HIS := Lib.hid his
  have hfi := sx_find h hn1 hn hsz key
  rw [hf] at hfi
  simp only [foundV] at hfi
  have HF := Lib.hid hfi
  have HKI := Lib.hid hki
  have HWS := Lib.hid hws
  have HSZ := Lib.hid (hsz (bucketOf n key))
  have HLT := Lib.hid (bucketOf_lt (key := (key : Int)) hn1)
  have HBI := Lib.hid (bucketOf_int (key := (key : Int)) hn1)
  clear his hfi h hsz hws hki
  go_enter Tryz.func7, Tryz.ntmps7
  go_wp2_with fail
  refine HIS.out.mono ?_
  rintro e w' ⟨rfl, rfl⟩
  go_wp2_with fail
  refine HF.out.mono ?_
  rintro e w1 ⟨rfl, F1, h1⟩
  have H1 := Lib.hid h1
  have c0 := h1.head.n_cell.1
  have c1 := h1.head.n_cell.2.1
  have hbl : ∀ W, (W = w1 ∨ W = w1.drew) → Below w1.heap.size w1 W := fun W hW => by
    rcases hW with rfl | rfl
    · exact Below.refl _ _
    · exact Below.drew (Below.refl _ _)
  have HCN := Lib.hid (fun W (hW : W = w1 ∨ W = w1.drew) => chain_new sb ab key Fa ws W ((h1.below (hbl W hW)).second) (by rw [HWS.out]; omega))
  have HBL := Lib.hid hbl
  clear h1 HF HIS hbl
  go_upto_region 6 with fail
  go_cut [8, 9] from 23 to 34 (fun s8 s9 wx => ∃ cb : Nat, s8 = .pointer (some ⟨cb, 0, none⟩) ∧ s9 = .int .i64 0 ∧ Hid (Sep w0 wx (obChain cb sb ab key :: obIx xb F1 sb ab n bs :: obArena ab Fa ws :: L)))
  case first =>
    go_region_with (go_at_call 24; refine (HCN.out _ (by first | exact .inl rfl | exact .inr rfl)).mono ?_; rintro e w2 ⟨rfl, rfl⟩)
    all_goals
      go_wp2_with fail
      go_meet
      case rel => exact ⟨w1.heap.size, rfl, rfl, Lib.hid ((H1.out.new (A := obChain w1.heap.size sb ab key) (bl_alloc2 (Below.refl w1.heap.size w1) _) (blk_new _ _) (fun k hk => Nat.le_of_eq (Eq.symm hk))).below (by first | exact Below.refl _ _ | exact Below.drew (Below.refl _ _)))⟩
  case rest =>
  obtain ⟨cb, rfl, rfl, HC⟩ := hcut
  obtain ⟨w2, rfl⟩ : ∃ x, x = wc := ⟨_, rfl⟩
  have hs3 := HC.out.swap
  have HS3 := Lib.hid hs3
  have c2 := hs3.head.n_cell.2.2
  have hbu := bucket_in (k := (key : Int)) (b := (n : Int)) w2 HKI.out.1 HKI.out.2 (by omega) (by omega)
  rw [← HBI.out] at hbu
  have HBU := Lib.hid hbu
  have HLI := Lib.hid (ix_list w2 hs3.head hn HLT.out)
  clear hs3 hbu H1 HC c0 c1 HCN HBL HBI HKI
  obtain ⟨R, hR⟩ : ∃ R, R = putK n bs key cb := ⟨_, rfl⟩
  have HRR := Lib.hid hR
  have HRP : Hid (putK n bs key cb = R) := Lib.hid hR.symm
  clear hR
  unfold putK at HRR
  generalize bucketOf n (key : Int) = i at *
  go_wp2_with fail
  refine HBU.out.mono ?_
  rintro e w' ⟨rfl, rfl⟩
  go_wp2_with fail
  refine HLI.out.mono ?_
  rintro e w3 ⟨g, vs, rfl, hM, hm, hg⟩
  have hs4 := HS3.out.step (A' := obIx xb (IxF xb g n vs) sb ab n bs) hM.at_ hm hg
  have HM := Lib.hid hM
  have HS4 := Lib.hid hs4
  have c3 := (hM.slot HLT.out).1
  have f3 := (hM.slot HLT.out).2
  have HE := Lib.hid (hM.ents i HLT.out)
  clear hm hg hs4 hM HS3 HLI HBU c2
  have hlt3 := (HE.out).lt
  have hb3 := bl_alloc2 (Below.refl w3.heap.size w3) (.cells #[.int .i64 key, .pointer (some ⟨cb, 0, none⟩)] 84 (0, 0))
  have HIN := Lib.hid (put_first (vAt vs i) (bs.getD i []) ((key : Int), cb) w3.heap.size (w3.alloc (.cells #[.int .i64 key, .pointer (some ⟨cb, 0, none⟩)] 84 (0, 0))) (HE.out.later hb3) (blk_new _ _) (fun e => by have := hlt3 _ e; omega) HSZ.out)
  have HM4 := Lib.hid (HM.out.later hb3)
  have HS5 := Lib.hid (HS4.out.below hb3)
  obtain ⟨v, hv⟩ : ∃ v, v = vAt vs i := ⟨_, rfl⟩
  rw [← hv] at c3 HIN
  have HV := Lib.hid hv
  have g3 : ∀ o, (w3.alloc o).cell? ⟨g, i, none⟩ = some v := fun o => (World.cell?_alloc_lt w3 o _ (cell_lt c3)).trans c3
  clear hb3 hlt3 hv HM HS4 HE
  go_wp2_with fail
  refine HIN.out.mono ?_
  rintro e w5 ⟨v', rfl, hr, hmod, hown⟩
  rw [HV.out] at hmod hown
  have hturn := HM4.out.turn HLT.out hr hmod hown
  have hrow := hmod.keep HM4.out.row (HM4.out.neg i HLT.out)
  have c5 := blk_cell hrow i
  have f5 := blk_free hrow i
  rw [show vs.toArray[i]? = some (vAt vs i) by have := HM4.out.vlen; have := HLT.out; simp [vAt, List.getD_eq_getElem?_getD, show i < vs.length by omega]] at c5
  have hs6 := HS5.out.step (A' := obIx xb (IxF xb g n (vs.set i v')) sb ab n (bs.set i (((key : Int), cb) :: bs.getD i []))) hturn.1.at_ hturn.2.1 hturn.2.2
  rw [← HRR.out] at hs6
  have HS6 := Lib.hid hs6
  obtain ⟨va, vn, vc, rfl⟩ : ∃ a m c, v' = .slice a m c := by
    rcases hr.form with ⟨rfl, _⟩ | ⟨g2, cap2, cur2, rfl, _⟩
    · exact ⟨_, _, _, rfl⟩
    · exact ⟨_, _, _, rfl⟩
  clear hr hmod hown hturn hrow hs6 HIN HM4 HS5 c3 f3 g3
  go_wp2_with fail
  go_ret2
  exact ⟨cb, rfl, _, by rw [HRP.out]; exact HS6.out.perm (List.Perm.cons _ (List.Perm.swap _ _ _))⟩
end
end Go.Proofs.YtoidmakaijkglaaGreat
