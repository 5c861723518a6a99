/- sweep.Chain: what is garbage is cut and freed, newest first. -/
import Derived.Test.YtjojbfgppgnmjaaN4
import Derived.Test.YtjojbfgppgnmjaaZ1
namespace Go.Proofs.Ytjojbfgppgnmjaa
open Go.RowKit

/-- How many of the first j are garbage; what stands when the first j were looked at. -/
def swD (D : Int → Bool) (L : List Int) (j : Nat) : Nat := ((L.take j).filter D).length
def swL (D : Int → Bool) (L : List Int) (j : Nat) : List Int := (L.take j).filter (fun a => !D a) ++ L.drop j
section
variable {D : Int → Bool} {L : List Int} {j : Nat}
theorem swD_zero : swD D L 0 = 0 := by simp [swD]
theorem swL_zero : swL D L 0 = L := by simp [swL]
theorem swD_all : swD D L L.length = (L.filter D).length := by simp [swD]
theorem swL_all : swL D L L.length = L.filter (fun a => !D a) := by simp [swL]
theorem swD_le : swD D L j ≤ j := by
  unfold swD
  have h1 := List.length_filter_le D (L.take j)
  have h2 : (L.take j).length ≤ j := by rw [List.length_take]; omega
  omega
theorem take_more (h : j < L.length) : L.take (j + 1) = L.take j ++ [L.getD j 0] := by
  rw [List.take_add_one]
  simp [List.getD_eq_getElem?_getD, h]
theorem drop_more (h : j < L.length) : L.drop j = L.getD j 0 :: L.drop (j + 1) := by
  rw [List.drop_eq_getElem_cons h]
  simp [List.getD_eq_getElem?_getD, h]
theorem swD_yes (h : j < L.length) (hd : D (L.getD j 0) = true) : swD D L (j + 1) = swD D L j + 1 := by
  unfold swD
  rw [take_more h, List.filter_append, List.filter_cons_of_pos hd]
  simp
theorem swD_no (h : j < L.length) (hd : D (L.getD j 0) = false) : swD D L (j + 1) = swD D L j := by
  unfold swD
  rw [take_more h, List.filter_append, List.filter_cons_of_neg (by rw [hd]; decide)]
  simp
theorem swL_no (h : j < L.length) (hd : D (L.getD j 0) = false) : swL D L (j + 1) = swL D L j := by
  unfold swL
  rw [take_more h, List.filter_append, drop_more h, List.filter_cons_of_pos (by rw [hd]; decide)]
  simp
theorem swL_yes (h : j < L.length) (hd : D (L.getD j 0) = true) (hn : (swL D L j).Nodup) : (swL D L j).erase (L.getD j 0) = swL D L (j + 1) := by
  unfold swL at *
  rw [drop_more h] at hn ⊢
  rw [take_more h, List.filter_append]
  have hnm : ¬ L.getD j 0 ∈ (L.take j).filter (fun a => !D a) := by
    rw [List.nodup_append] at hn
    intro hm
    exact hn.2.2 _ hm _ (by simp) rfl
  rw [List.erase_append_right _ hnm, List.erase_cons_head, List.filter_cons_of_neg (by rw [hd]; decide)]
  simp
theorem swL_mem (h : j < L.length) : L.getD j 0 ∈ swL D L j := by
  unfold swL
  rw [drop_more h]
  simp
end

/-- What sweep.Dead says of each version of a store, in whatever world. -/
def DeadIs (w0 : World) (cb sb ab n : Nat) (Lz : List Int) (V : Int → Ver) (M : List Ob) (low : Int) (lk : Value) (D : Int → Bool) : Prop :=
  ∀ z ∈ Lz, ∀ v W' k' L' live' gone', SameVer v (V z) → CW w0 cb sb ab n k' L' live' gone' V M W' →
    Calls Try.prog 49 #[v.value, .int .u64 low, lk] W' fun e w' => e = .returned (.bool (D z)) ∧ Below W'.heap.size W' w'
def Ver.wf (v : Ver) : Prop := 0 ≤ v.beg ∧ v.beg ≤ 18446744073709551615 ∧ 0 ≤ v.en ∧ v.en ≤ 18446744073709551615
theorem deadIs {w0 : World} {cb sb ab n : Nat} {Lz : List Int} {V : Int → Ver} {M : List Ob} {lk : Value} {Lk : Int → Tx × Bool} (low : Int) (hwf : ∀ z ∈ Lz, (V z).wf)
    (ht : ∀ W' k' L' live' gone', CW w0 cb sb ab n k' L' live' gone' V M W' → Tells W' lk Lk) : DeadIs w0 cb sb ab n Lz V M low lk (fun z => deadB Lk low (V z).beg (V z).en) := by
  intro z hz v W' k' L' live' gone' hs hC
  obtain ⟨h1, h2, h3, h4⟩ := hs
  obtain ⟨g1, g2, g3, g4⟩ := hwf z hz
  have := dead_any v.key v.val v.beg v.en v.nx low lk Lk W' (ht _ _ _ _ _ hC) (by omega) (by omega) (by omega) (by omega)
  rw [show deadB Lk low v.beg v.en = deadB Lk low (V z).beg (V z).en by rw [h3, h4]] at this
  exact this

set_option maxRecDepth 100000 in
set_option maxHeartbeats 1600000 in
theorem sweep_chain {w0 W : World} {cb sb ab n : Nat} {k : Int} {L live gone : List Int} {V : Int → Ver} {M : List Ob} (h : CW w0 cb sb ab n k L live gone V M W) (low : Int) (lk : Value) (D : Int → Bool)
    (hd : DeadIs w0 cb sb ab n L V M low lk D) (hk0 : 0 ≤ k) (hk : k + L.length ≤ 100) :
    Calls Try.prog 41 #[.pointer (some ⟨cb, 0, none⟩), .pointer (some ⟨sb, 0, none⟩), .int .u64 low, lk] W fun e w' => ∃ live' gone', e = .returned (.tuple #[.int .i64 (L.filter D).length, .int .i64 0]) ∧
      CW w0 cb sb ab n (k + L.length) (L.filter (fun a => !D a)) live' gone' V M w' ∧ live'.length + (L.filter D).length = live.length ∧ ∀ a ∈ live', a ∈ live := by
  have H0 := Lib.hid h
  have HD := Lib.hid hd
  have hLn := h.len.1
  clear h hd
  go_enter Try.func41, Try.ntmps41
  go_wp2_with fail
  refine (cw_links H0.out).mono ?_
  rintro e w1 ⟨a, c, rfl, hW⟩
  have H1 := Lib.hid hW
  clear hW
  go_wp2_with fail
  go_loopw [10, 24] (fun nv iv wr => ∃ (j : Nat) (live' gone' : List Int), j ≤ L.length ∧ iv = .int .i64 j ∧ nv = .int .i64 (swD D L j) ∧ live'.length + swD D L j = live.length ∧ (∀ a ∈ live', a ∈ live) ∧
    CW w0 cb sb ab n (k + j) (swL D L j) live' gone' V (obRow .u64 28 (.slice a L.length c) L :: M) wr) (fun _ iv _ => L.length - (intOf iv).toNat)
  case atStart => exact ⟨0, live, gone, Nat.zero_le _, rfl, by rw [swD_zero]; rfl, by rw [swD_zero]; rfl, fun a h => h, by rw [swL_zero]; simpa using H1.out⟩
  case round =>
    obtain ⟨j, live', gone', hj, rfl, rfl, hln, hsub, hW⟩ := hrel
    have HW := Lib.hid hW
    have HS := Lib.hid hsub
    have HLN := Lib.hid hln
    clear hW hsub hln
    by_cases hlt : j < L.length
    · obtain ⟨ga, rfl⟩ : ∃ g, a = some ⟨g, 0, none⟩ := some_of (HW.out.first : Owned .u64 _ _ _ L) (by omega)
      have hrc : wr.cell? ⟨ga, j, none⟩ = some (.int .u64 (L.getD j 0)) := Owned.at_ (HW.out.first : Owned .u64 _ _ _ L) hlt
      obtain ⟨z, hz⟩ : ∃ z, L.getD j 0 = z := ⟨_, rfl⟩
      have hmem : z ∈ swL D L j := hz ▸ swL_mem hlt
      have hmemL := HW.out.len.2.2.2.2.1 z hmem
      have hGet := Lib.hid (cw_get HW.out hmemL)
      rw [hz] at hrc
      have HZ := Lib.hid (And.intro hz hmem)
      have HM := Lib.hid hmemL
      clear hz hmem hmemL
      rcases Bool.eq_false_or_eq_true (D z) with hDz | hDz
      · have HE := Lib.hid (by have := swL_yes hlt (HZ.out.1 ▸ hDz) HW.out.len.2.2.2.1; rw [HZ.out.1] at this; exact this : (swL D L j).erase z = swL D L (j + 1))
        have HDN := Lib.hid (swD_yes hlt (HZ.out.1 ▸ hDz))
        have HDD := Lib.hid (fun v W' k' L' live' gone' h1 h2 => hDz ▸ HD.out z (HZ.out.1 ▸ getD_mem hlt) v W' k' L' live' gone' h1 h2)
        clear hDz
        go_wp2_with fail
        refine hGet.out.mono ?_
        rintro e w2 ⟨v, hv, rfl, hW⟩
        have H2 := Lib.hid hW
        have HV := Lib.hid hv
        obtain ⟨vk, vv, vb, ve, vx⟩ := v
        simp only [Ver.value]
        clear hW hv hGet
        go_wp2_with fail
        refine (HDD.out ⟨vk, vv, vb, ve, vx⟩ _ _ _ _ _ HV.out (H2.out.drop.later ((Below.refl _ _).alloc (Nat.le_refl _) _))).mono ?_
        rintro e w3 ⟨rfl, b3⟩
        have H3 := Lib.hid ((H2.out.later ((Below.refl _ _).alloc (Nat.le_refl _) _)).later b3)
        clear b3 H2 HDD
        go_wp2_with fail
        refine (cw_cut H3.out HZ.out.2).mono ?_
        rintro e w4 ⟨rfl, hW⟩
        rw [HE.out] at hW
        have H4 := Lib.hid hW
        have HNZ := Lib.hid (fun hn => by have h4 := H3.out.len.2.2.2.1; rw [← HE.out] at hn; exact absurd hn (fun hm => (List.Nodup.mem_erase_iff h4).1 hm |>.1 rfl) : ¬ z ∈ swL D L (j + 1))
        clear hW H3
        go_wp2_with fail
        refine (cw_free H4.out (by omega) HM.out HNZ.out).mono ?_
        rintro e w5 ⟨rfl, hW⟩
        have H5 := Lib.hid hW
        clear hW H4
        go_wp2_with fail
        go_roundw
        case rel =>
          refine ⟨j + 1, live'.erase z, gone' ++ [z], by omega, by go_num, ?_, ?_, ?_, ?_⟩
          · have hsd := swD_le (D := D) (L := L) (j := j)
            rw [HDN.out]
            refine congrArg (Value.int .i64) ?_
            rw [IntWalk.wrap64_in _ (by omega)]
            omega
          · have h1 := HLN.out
            have h2 := List.length_erase_of_mem HM.out
            have h3 := List.length_pos_of_mem HM.out
            rw [HDN.out]
            omega
          · exact fun a ha => HS.out a (List.mem_of_mem_erase ha)
          · rw [show k + ((j + 1 : Nat) : Int) = k + (j : Int) + 1 by omega]
            exact H5.out
        case measure => simp [intOf]; omega
      · have HE := Lib.hid (swL_no hlt (HZ.out.1 ▸ hDz))
        have HDN := Lib.hid (swD_no hlt (HZ.out.1 ▸ hDz))
        have HDD := Lib.hid (fun v W' k' L' live' gone' h1 h2 => hDz ▸ HD.out z (HZ.out.1 ▸ getD_mem hlt) v W' k' L' live' gone' h1 h2)
        clear hDz
        go_wp2_with fail
        refine hGet.out.mono ?_
        rintro e w2 ⟨v, hv, rfl, hW⟩
        have H2 := Lib.hid hW
        have HV := Lib.hid hv
        obtain ⟨vk, vv, vb, ve, vx⟩ := v
        simp only [Ver.value]
        clear hW hv hGet
        go_wp2_with fail
        refine (HDD.out ⟨vk, vv, vb, ve, vx⟩ _ _ _ _ _ HV.out (H2.out.drop.later ((Below.refl _ _).alloc (Nat.le_refl _) _))).mono ?_
        rintro e w3 ⟨rfl, b3⟩
        have H3 := Lib.hid ((H2.out.later ((Below.refl _ _).alloc (Nat.le_refl _) _)).later b3)
        clear b3 H2 HDD
        go_wp2_with fail
        go_roundw
        case rel =>
          refine ⟨j + 1, live', gone', by omega, by go_num, by rw [HDN.out], by rw [HDN.out]; exact HLN.out, HS.out, ?_⟩
          rw [HE.out]
          exact H3.out.mono (by omega)
        case measure => simp [intOf]; omega
    · obtain rfl : j = L.length := by omega
      go_wp2_with fail
      go_ret2
      rw [← swD_all]
      refine ⟨live', gone', ?_, ?_, ?_, HS.out⟩
      · rfl
      · have := HW.out.drop
        rw [swL_all] at this
        exact this
      · exact HLN.out
end Go.Proofs.Ytjojbfgppgnmjaa
