/- Marks over time: All, Len. -/
import Derived.Test.YtfjoghbkfkbbdaaK8
namespace Go.Proofs.Ytfjoghbkfkbbdaa
open Go.RowKit

theorem flat_take {es : List Ent} {i : Nat} (hi : i < es.length) : flat (es.take (i + 1)) = flat (es.take i) ++ List.replicate (es.getD i ent0).n.toNat (es.getD i ent0).at_ := by
  have h : es.take (i + 1) = es.take i ++ [es.getD i ent0] := by
    rw [List.take_add_one]
    simp [List.getD_eq_getElem?_getD, hi]
  rw [h, flat_app]
  simp [flat]
theorem flat_take_len (es : List Ent) (i : Nat) : (flat (es.take i)).length ≤ (flat es).length := by
  rw [flat_split es i, List.length_append]
  omega

set_option maxRecDepth 100000 in
set_option maxHeartbeats 3200000 in
theorem mk_all {w0 W : World} {b : Nat} {l : List Int} {M : List Ob} (h : MF w0 b l M W) (hl : l.length ≤ 1000) :
    Calls Try.prog 57 #[.pointer (some ⟨b, 0, none⟩)] W fun e w' => ∃ a cap, e = .returned (.slice a l.length cap) ∧ MF w0 b l (obRow .u64 39 (.slice a l.length cap) l :: M) w' := by
  obtain ⟨es, v, hS, hg, rfl⟩ := h
  obtain ⟨hle, hln⟩ := flat_len hg.pos
  have HG := Lib.hid hg
  have HLN := Lib.hid hln
  have c0 := (blk_cell hS.head 0).trans rfl
  obtain ⟨a, cap, rfl, h1, h2, h3⟩ := PtrRow.val (hS.second : PtrRow W v (es.map Ent.ptr))
  rw [List.length_map] at *
  have HA := Lib.hid h3
  have H1 := Lib.hid (hS.row_nil .u64 39).back4
  clear hS hg hln h3
  go_enter Try.func57, Try.ntmps57
  go_wp2_with fail
  go_loopw [3, 11] (fun ov iv wr => ∃ (i : Nat), i ≤ es.length ∧ iv = .int .i64 i ∧ Sep w0 wr (obM b (.slice a es.length cap) :: obPtr (.slice a es.length cap) (es.map Ent.ptr) :: obEnts es :: obRow .u64 39 ov (flat (es.take i)) :: M)) (fun _ iv _ => es.length - (intOf iv).toNat)
  case atStart => exact ⟨0, Nat.zero_le _, rfl, by simpa [flat] using H1.out⟩
  case round =>
    obtain ⟨i, hi, rfl, hW⟩ := hrel
    have HW := Lib.hid hW
    clear hW H1
    by_cases hlt : i < es.length
    · obtain ⟨g, rfl⟩ := HA.out (by omega)
      have hc := PtrRow.cell (HW.out.second : PtrRow wr _ (es.map Ent.ptr)) hlt
      have hE := (HW.out.third : EntsAt wr es).at_ hlt
      have hpos := HG.out.pos _ (eget_mem hlt)
      have hmax := HLN.out _ (eget_mem hlt)
      have HL := Lib.hid (i64_load (es.getD i ent0).blk 1 (es.getD i ent0).n wr ((blk_cell hE 1).trans rfl))
      have HFT := Lib.hid (flat_take hlt)
      have hftl := flat_take_len es i
      have HEN := Lib.hid (fun (w1 : World) (h : EntsAt w1 es) => (blk_cell (h.at_ hlt) 0).trans (show _ = some (Value.int .u64 (es.getD i ent0).at_) from rfl))
      clear hE
      unfold Ent.ptr at hc
      generalize (es.getD i ent0).blk = eb at *
      generalize (es.getD i ent0).at_ = ea at *
      generalize (es.getD i ent0).n = en at *
      go_wp2_with fail
      refine HL.out.mono ?_
      rintro e w2 ⟨rfl, rfl⟩
      go_wp2_with fail
      go_loopw [3, 19] (fun ov kv wr2 => ∃ (k : Nat), k ≤ en.toNat ∧ kv = .int .i64 k ∧ Sep w0 wr2 (obM b (.slice (some ⟨g, 0, none⟩) es.length cap) :: obPtr (.slice (some ⟨g, 0, none⟩) es.length cap) (es.map Ent.ptr) :: obEnts es :: obRow .u64 39 ov (flat (es.take i) ++ List.replicate k ea) :: M)) (fun _ kv _ => en.toNat - (intOf kv).toNat)
      case atStart => exact ⟨0, Nat.zero_le _, rfl, by simpa using HW.out⟩
      case round =>
        obtain ⟨k, hk, rfl, hW2⟩ := hrel
        have HW2 := Lib.hid hW2
        clear hW2
        by_cases hkl : k < en.toNat
        · have ce := HEN.out _ HW2.out.third
          have hrl : (flat (es.take i) ++ List.replicate k ea).length + 1 ≤ 1099511627776 := by rw [List.length_append, List.length_replicate]; omega
          have hnx : flat (es.take i) ++ List.replicate (k + 1) ea = (flat (es.take i) ++ List.replicate k ea) ++ [ea] := by rw [List.replicate_succ', List.append_assoc]
          have HNX := Lib.hid hnx
          clear hnx
          generalize flat (es.take i) ++ List.replicate k ea = LL at *
          have HR := Lib.hid (HW2.out.bring4.head : Owned .u64 39 _ u3 LL)
          have hkk : (k : Int) < en := by omega
          go_wp2_with (at_builtin; refine walk_append (zero := .int .u64 0) (base := 0) (n := LL.length) (m := 1) (xs := LL.map (Value.int .u64)) (ys := [.int .u64 ea]) rfl (.tmp 21) (.tmp 26) rfl Try.underlying48 info_u64 rfl Nat.zero_lt_one (Nat.le_of_ble_eq_true rfl) rfl (World.ownsRow.alloc HR.out _) rfl (SrcAt.one (blk_at (by simp))) (ints_one .u64 [_]) hrl (Nat.zero_le _) ?_)
          intro v' w5 hA
          have hS5 := (HW2.out.bring4.append (ys := [ea]) ((Mod.refl _ _).alloc _) hA rfl rfl).back4
          rw [← HNX.out] at hS5
          have HS5 := Lib.hid hS5
          clear hA hS5 HR
          go_wp2_with fail
          go_roundw
          case rel => exact ⟨k + 1, by omega, by go_num, HS5.out⟩
          case measure => simp [intOf]; omega
        · have hkk : ¬ (k : Int) < en := by omega
          have hS5 := HW2.out
          rw [show k = en.toNat by omega, ← HFT.out] at hS5
          have HS5 := Lib.hid hS5
          clear hS5
          go_wp2_with fail
          go_roundw
          case rel => exact ⟨i + 1, by omega, by go_num, HS5.out⟩
          case measure => simp [intOf]; omega
    · obtain rfl : i = es.length := by omega
      rw [List.take_length] at HW
      obtain ⟨oa, oc, hov, _⟩ := Owned.form (HW.out.bring4.head : Owned .u64 39 wr u3 (flat es))
      subst hov
      go_wp2_with fail
      go_ret
      exact ⟨oa, oc, rfl, es, _, HW.out, HG.out, rfl⟩

theorem MF.drop {w0 W : World} {b : Nat} {l : List Int} {A : Ob} {M : List Ob} (h : MF w0 b l (A :: M) W) : MF w0 b l M W := by
  obtain ⟨es, v, hS, hg, hl⟩ := h
  exact ⟨es, v, hS.bring4.tail, hg, hl⟩
theorem MF.first {w0 W : World} {b : Nat} {l : List Int} {A : Ob} {M : List Ob} (h : MF w0 b l (A :: M) W) : A.P W := by
  obtain ⟨es, v, hS, hg, hl⟩ := h
  exact hS.bring4.head
theorem MF.turn {w0 W W' : World} {b : Nat} {l : List Int} {A A' : Ob} {M : List Ob} (h : MF w0 b l (A :: M) W) (hf : ∀ K, Sep w0 W (A :: K) → Sep w0 W' (A' :: K)) : MF w0 b l (A' :: M) W' := by
  obtain ⟨es, v, hS, hg, hl⟩ := h
  exact ⟨es, v, (hf _ hS.bring4).back4, hg, hl⟩
theorem MF.add {w0 W W' : World} {b : Nat} {l : List Int} {A : Ob} {M : List Ob} (h : MF w0 b l M W) (hf : ∀ K, Sep w0 W K → Sep w0 W' (A :: K)) : MF w0 b l (A :: M) W' := by
  obtain ⟨es, v, hS, hg, hl⟩ := h
  exact ⟨es, v, (hf _ hS).back4, hg, hl⟩
theorem MF.swap {w0 W : World} {b : Nat} {l : List Int} {A B : Ob} {M : List Ob} (h : MF w0 b l (A :: B :: M) W) : MF w0 b l (B :: A :: M) W := by
  obtain ⟨es, v, hS, hg, hl⟩ := h
  exact ⟨es, v, hS.perm ((((List.Perm.swap B A M).cons _).cons _).cons _), hg, hl⟩

set_option maxRecDepth 100000 in
set_option maxHeartbeats 800000 in
theorem mk_len {w0 W : World} {b : Nat} {l : List Int} {M : List Ob} (h : MF w0 b l M W) (hl : l.length ≤ 1000) :
    Calls Try.prog 56 #[.pointer (some ⟨b, 0, none⟩)] W fun e w' => e = .returned (.int .i64 l.length) ∧ MF w0 b l M w' := by
  have HA := Lib.hid (mk_all h hl)
  clear h
  go_enter Try.func56, Try.ntmps56
  go_wp2_with fail
  refine HA.out.mono ?_
  rintro e w2 ⟨a, c, rfl, hW⟩
  have HW := Lib.hid hW.drop
  clear hW
  go_wp2_with fail
  go_ret
  exact ⟨rfl, HW.out⟩
end Go.Proofs.Ytfjoghbkfkbbdaa
