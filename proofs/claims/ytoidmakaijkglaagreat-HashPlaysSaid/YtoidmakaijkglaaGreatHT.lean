/- hash.Drop. -/
import Derived.Test.YtoidmakaijkglaaGreatHS
namespace Go.Proofs.YtoidmakaijkglaaGreat
open Go.RowKit
section
variable {w0 w : World} {xb sb ab n : Nat} {F Fa : Nat → Prop} {bs : List (List (Int × Nat))} {ws : List Int} {L : List Ob}
theorem sx_arena_store (h : Sep w0 w (obArena ab Fa ws :: L)) {i : Nat} (hi : i < ws.length) (v : Int) :
    Calls Tryz.prog 30 #[.pointer (some ⟨ab, 0, none⟩), .int .i64 i, .int .u64 v] w fun e w' => e = .returned (.tuple #[]) ∧ Sep w0 w' (obArena ab Fa (ws.set i v) :: L) :=
  (arena_store ab Fa ws i v w h.head hi).mono fun _ _ r => ⟨r.1, h.step (A' := obArena ab Fa (ws.set i v)) r.2.1 r.2.2 (Grows.refl _ _)⟩
theorem Sep.arena_front {P M : List Ob} (h : Sep w0 w (P ++ obArena ab Fa ws :: M)) : Sep w0 w (obArena ab Fa ws :: (P ++ M)) := h.perm List.perm_middle
set_option maxRecDepth 100000 in
set_option maxHeartbeats 1600000 in
theorem sx_drop {cb key : Nat} {Fs : Nat → Prop} {s : RS} {M : List Ob} {A B : List (Int × Nat)} (hC : Chn s ws key []) (h : Sep w0 w (obIx xb F sb ab n bs :: chL cb sb ab key Fs Fa s ws M)) (hn1 : 1 ≤ n) (hn : n ≤ 64) (hsz : ∀ i, (bs.getD i []).length ≤ 100000) (hf : findK n bs key = some cb) (hws : ws.length = 64) (hk64 : key < 64)
    (hAB : bs.getD (bucketOf n key) [] = A ++ ((key : Int), cb) :: B) (hA : ∀ e ∈ A, e.1 ≠ (key : Int)) (hB : ∀ e ∈ B, e.1 ≠ (key : Int)) :
    Calls Tryz.prog 10 #[.pointer (some ⟨xb, 0, none⟩), .int .i64 key] w fun e w' => e = .returned (.bool true) ∧ ∃ F', Sep w0 w' (obIx xb F' sb ab n (bs.set (bucketOf n key) (A ++ B)) :: chL cb sb ab key Fs Fa s (ws.set key 0) M) := by
  have hfi := sx_find (h.key key).swap hn1 hn hsz key
  rw [hf] at hfi
  have HFI := Lib.hid hfi
  have HC := Lib.hid hC
  have HLT := Lib.hid (bucketOf_lt (key := (key : Int)) hn1)
  have HBI := Lib.hid (bucketOf_int (key := (key : Int)) hn1)
  have HAB := Lib.hid hAB
  have HSZ := Lib.hid (hsz (bucketOf n key))
  have HA := Lib.hid hA
  have HB := Lib.hid hB
  clear hfi h hC hAB hsz hA hB
  go_enter Tryz.func10, Tryz.ntmps10
  go_wp2_with fail
  refine HFI.out.mono ?_
  rintro e w1 ⟨rfl, F', h1⟩
  have HL := Lib.hid (chain_len HC.out w1 (h1.chL_front (P := [_, _])))
  clear h1
  simp only [foundV]
  go_wp2_with fail
  refine HL.out.mono ?_
  rintro e w2 ⟨rfl, h2, -⟩
  simp only [List.length_nil]
  have HS2 := Lib.hid (h2.chL_back (P := [_, _]))
  clear h2 HL
  have hs3 := HS2.out.arena_front (P := [_, _, _, _])
  have hbl : ∀ W, (W = w2 ∨ W = w2.drew) → Below w2.heap.size w2 W := fun W hW => by
    rcases hW with rfl | rfl
    · exact Below.refl _ _
    · exact Below.drew (Below.refl _ _)
  have HST := Lib.hid (fun W (hW : W = w2 ∨ W = w2.drew) => sx_arena_store (hs3.below (hbl W hW)) (i := key) (by rw [hws]; exact hk64) 0)
  have c1 := HS2.out.head.n_cell.2.1
  have ck : w2.cell? ⟨w.heap.size, 0, none⟩ = some (.int .i64 key) := (blk_cell HS2.out.second 0).trans rfl
  clear hbl hs3
  go_upto_region 4 with fail
  go_cut [26] from 21 to 27 (fun s8 wx => Hid (Sep w0 wx (obArena ab Fa (ws.set key 0) :: ([obIx xb F' sb ab n bs, obKey w.heap.size key, obChain cb sb ab key, obStore sb Fs s] ++ M))))
  case first =>
    go_region_with (go_at_call 30; refine (HST.out _ (by first | exact .inl rfl | exact .inr rfl)).mono ?_; rintro e w3 ⟨rfl, h3⟩)
    all_goals
      go_wp2_with fail
      go_meet
      case rel => exact Lib.hid (by first | exact h3 | exact h3.below (Below.drew (Below.refl _ _)))
  case rest =>
  have HC4 := hcut
  clear hcut c1 ck HST HS2 HFI
  obtain ⟨w4, rfl⟩ : ∃ x, x = wc := ⟨_, rfl⟩
  have hs5 : Sep w0 w4 (obIx xb F' sb ab n bs :: obKey w.heap.size key :: obChain cb sb ab key :: obStore sb Fs s :: obArena ab Fa (ws.set key 0) :: M) := HC4.out.perm (List.perm_middle (l₁ := [obIx xb F' sb ab n bs, obKey w.heap.size key, obChain cb sb ab key, obStore sb Fs s])).symm
  have HS5 := Lib.hid hs5
  have c2 := hs5.head.n_cell.2.2
  have ck : w4.cell? ⟨w.heap.size, 0, none⟩ = some (.int .i64 key) := (blk_cell hs5.second 0).trans rfl
  have hbl : ∀ W, (W = w4 ∨ W = w4.drew) → Below w4.heap.size w4 W := fun W hW => by
    rcases hW with rfl | rfl
    · exact Below.refl _ _
    · exact Below.drew (Below.refl _ _)
  have hbu := fun W (_hW : W = w4 ∨ W = w4.drew) => bucket_in (k := (key : Int)) (b := (n : Int)) W (by omega) (by omega) (by omega) (by omega)
  rw [← HBI.out] at hbu
  have HBU := Lib.hid hbu
  have HLI := Lib.hid (fun W (hW : W = w4 ∨ W = w4.drew) => ix_list W (hs5.below (hbl W hW)).head hn HLT.out)
  clear hs5 hbu hbl HC4
  obtain ⟨i, hi⟩ : ∃ i, i = bucketOf n (key : Int) := ⟨_, rfl⟩
  rw [← hi] at HLT HBI HAB HSZ HLI HBU
  have HIE := Lib.hid hi
  clear hi
  go_upto_region 5 with fail
  go_cut [7] from 27 to 35 (fun s7 wx => ∃ g vs, s7 = .pointer (some ⟨g, i, none⟩) ∧ Hid (IxM wx xb g sb ab n vs bs) ∧ Hid (Sep w0 wx (obIx xb (IxF xb g n vs) sb ab n bs :: obKey w.heap.size key :: obChain cb sb ab key :: obStore sb Fs s :: obArena ab Fa (ws.set key 0) :: M)))
  case first =>
    go_region_with (first
      | (go_at_call 18; refine (HBU.out _ (by first | exact .inl rfl | exact .inr rfl)).mono ?_; rintro e w5 ⟨rfl, rfl⟩)
      | (go_at_call 25; refine (HLI.out _ (by first | exact .inl rfl | exact .inr rfl)).mono ?_; rintro e w5 ⟨g, vs, rfl, hM, hm, hg⟩))
    all_goals
      have HH := Lib.hid (And.intro hM ((HS5.out.below (by first | exact Below.refl _ _ | exact Below.drew (Below.refl _ _))).step (A' := obIx xb (IxF xb g n vs) sb ab n bs) hM.at_ hm hg))
      clear hM hm hg
      go_wp2_with fail
      go_meet
      case rel => exact ⟨g, vs, rfl, Lib.hid (by first | exact HH.out.1 | exact HH.out.1.later (Below.drew (Below.refl _ _))), Lib.hid (by first | exact HH.out.2 | exact HH.out.2.below (Below.drew (Below.refl _ _)))⟩
  case rest =>
  obtain ⟨g, vs, rfl, HM, HS6⟩ := hcut
  obtain ⟨w6, rfl⟩ : ∃ x, x = wc := ⟨_, rfl⟩
  clear HS5 c2 ck HBU HLI
  have ck : w6.cell? ⟨w.heap.size, 0, none⟩ = some (.int .i64 key) := (blk_cell HS6.out.second 0).trans rfl
  have hE := HM.out.ents i HLT.out
  rw [HAB.out] at hE
  have c3 := (HM.out.slot HLT.out).1
  have f3 := (HM.out.slot HLT.out).2
  rcases hE.form with ⟨_, h0⟩ | ⟨gr, cap, cur, hv, hb, -, -, -, -⟩
  · exact absurd h0 (by simp)
  have hkg : w.heap.size ≠ gr := fun e => by
    have h1 := (List.pairwise_cons.1 HS6.out.apart).1 (obKey w.heap.size key) (by simp)
    exact h1 gr (.inr (.inr ⟨i, HLT.out, by rw [hv]; rfl⟩)) e.symm
  rw [hv] at hE c3
  have HD := Lib.hid (delete_at hE HA.out HB.out (by have := HSZ.out; rw [HAB.out] at this; exact this) rfl ck hkg)
  have HV := Lib.hid hv
  clear hE hv hb ck hkg
  obtain ⟨m, hm⟩ : ∃ m, m = (A ++ ((key : Int), cb) :: B).length := ⟨_, rfl⟩
  obtain ⟨m2, hm2⟩ : ∃ m2, m2 = (A ++ B).length := ⟨_, rfl⟩
  rw [← hm] at HD c3 HV
  rw [← hm2] at HD
  clear hm hm2 HAB
  go_wp2_with fail
  refine HD.out.mono ?_
  rintro e w7 ⟨rfl, hr, hmod⟩
  have hturn := HM.out.turn HLT.out hr (hmod.mono (fun k hk => .inl (by rw [hk, HV.out]; rfl))) (fun k hk => .inl (by rw [HV.out]; exact hk))
  have hrow := (hmod.mono (G := fun k => (vAt vs i).ownBlock = some k) (fun k hk => .inl (by rw [hk, HV.out]; rfl))).keep HM.out.row (HM.out.neg i HLT.out)
  have c5 := blk_cell hrow i
  have f5 := blk_free hrow i
  rw [show vs.toArray[i]? = some (vAt vs i) by have := HM.out.vlen; have := HLT.out; simp [vAt, List.getD_eq_getElem?_getD, show i < vs.length by omega], HV.out] at c5
  have hs8 := HS6.out.step (A' := obIx xb (IxF xb g n (vs.set i (.slice (some ⟨gr, 0, none⟩) m2 cap))) sb ab n (bs.set i (A ++ B))) hturn.1.at_ hturn.2.1 hturn.2.2
  have HS8 := Lib.hid hs8
  clear hr hmod hturn hrow hs8 HD HM HS6 c3 f3
  go_wp2_with fail
  go_ret
  rw [← HIE.out]
  exact ⟨rfl, _, HS8.out.swap.tail⟩
end
end Go.Proofs.YtoidmakaijkglaaGreat
