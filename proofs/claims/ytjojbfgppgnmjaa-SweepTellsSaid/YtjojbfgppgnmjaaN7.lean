/- sweep.Kept: the versions that stand in a chain, newest first; Chain and Kept of none. -/
import Derived.Test.YtjojbfgppgnmjaaN6
namespace Go.Proofs.Ytjojbfgppgnmjaa
open Go.RowKit

/-- The first j of a row of versions are those that stand in the store. -/
def VersOf (V : Int → Ver) (L : List Int) (l : List Ver) : Prop := l.length ≤ L.length ∧ ∀ i, i < l.length → SameVer (l.getD i ver0) (V (L.getD i 0))
theorem VersOf.nil (V : Int → Ver) (L : List Int) : VersOf V L [] := ⟨Nat.zero_le _, fun i h => by simp at h⟩
theorem VersOf.more {V : Int → Ver} {L : List Int} {l : List Ver} {v : Ver} (h : VersOf V L l) (hl : l.length < L.length) (hv : SameVer v (V (L.getD l.length 0))) : VersOf V L (l ++ [v]) := by
  refine ⟨by simp; omega, fun i hi => ?_⟩
  by_cases e : i < l.length
  · have := h.2 i e
    rwa [show (l ++ [v]).getD i ver0 = l.getD i ver0 by simp [List.getD_eq_getElem?_getD, List.getElem?_append_left e]]
  · have e2 : i = l.length := by simp at hi; omega
    subst e2
    rwa [show (l ++ [v]).getD l.length ver0 = v by simp [List.getD_eq_getElem?_getD]]

set_option maxRecDepth 100000 in
set_option maxHeartbeats 1600000 in
theorem sweep_kept {w0 W : World} {cb sb ab n : Nat} {k : Int} {L live gone : List Int} {V : Int → Ver} {M : List Ob} (h : CW w0 cb sb ab n k L live gone V M W) (hn : n ≤ 4096) :
    Calls Try.prog 42 #[.pointer (some ⟨cb, 0, none⟩), .pointer (some ⟨sb, 0, none⟩)] W fun e w' => ∃ a c l, e = .returned (.slice a L.length c) ∧ l.length = L.length ∧ VersOf V L l ∧
      CW w0 cb sb ab n k L live gone V (obVerR (.slice a L.length c) l :: M) w' := by
  have H0 := Lib.hid h
  have hLn := h.len.1
  clear h
  go_enter Try.func42, Try.ntmps42
  go_wp2_with fail
  refine (cw_links H0.out).mono ?_
  rintro e w1 ⟨a, c, rfl, hW⟩
  have H1 := Lib.hid (hW.add (A := obVers (.slice none 0 0) []) (fun K hS => hS.new (Below.refl _ _) (OwnedV.nil _) (fun g hg => by simp [obVers, Value.ownBlock] at hg)))
  clear hW H0
  go_wp2_with fail
  go_loopw [5, 19] (fun ov iv wr => ∃ (l : List Ver), iv = .int .i64 l.length ∧ VersOf V L l ∧
    CW w0 cb sb ab n k L live gone V (obVers ov l :: obRow .u64 28 (.slice a L.length c) L :: M) wr) (fun _ iv _ => L.length - (intOf iv).toNat)
  case atStart => exact ⟨[], rfl, VersOf.nil _ _, H1.out⟩
  case round =>
    obtain ⟨l, rfl, hv, hW⟩ := hrel
    have HW := Lib.hid hW
    have hl := hv.1
    have HV := Lib.hid hv
    clear hW hv H1
    by_cases hlt : l.length < L.length
    · obtain ⟨ga, rfl⟩ : ∃ g, a = some ⟨g, 0, none⟩ := some_of (HW.out.swap.first : Owned .u64 _ _ _ L) (by omega)
      have hrc : wr.cell? ⟨ga, l.length, none⟩ = some (.int .u64 (L.getD l.length 0)) := Owned.at_ (HW.out.swap.first : Owned .u64 _ _ _ L) hlt
      obtain ⟨z, hz⟩ : ∃ z, L.getD l.length 0 = z := ⟨_, rfl⟩
      rw [hz] at hrc
      have hGet := Lib.hid (cw_get HW.out (HW.out.len.2.2.2.2.1 z (hz ▸ getD_mem hlt)))
      have HZ := Lib.hid hz
      clear hz
      have hlim : l.length + 1 ≤ 1099511627776 := by omega
      go_wp2_with fail
      refine hGet.out.mono ?_
      rintro e w2 ⟨v, hv, rfl, hW⟩
      have H2 := Lib.hid (fun (W' : World) (hb : Below w2.heap.size w2 W') => (hW.first : OwnedV w2 u5 l) |> fun h => (ownsRow_mod h (Mod.of_below (F := fun _ => False) hb) (fun _ _ h => h) : OwnedV W' u5 l))
      have H3 := Lib.hid hW
      have HSV := Lib.hid hv
      obtain ⟨vk, vv, vb, ve, vx⟩ := v
      simp only [Ver.value]
      clear hW hv hGet
      go_wp2_with (at_builtin; refine walk_append (zero := .agg #[.int .i64 0, .int .i64 0, .int .u64 0, .int .u64 0, .int .u64 0]) (size := 5) (base := 0) (n := l.length) (m := 1) (xs := verCells l) (ys := (⟨vk, vv, vb, ve, vx⟩ : Ver).cells) rfl _ _ rfl Try.underlying49 info_ver rfl (by decide) (Nat.le_of_ble_eq_true rfl) rfl (H2.out _ (bl_al (bl_al (Below.refl _ _) _) _)) rfl (SrcAt.ver (blk_at (by simp))) (ver_one _) hlim (Nat.zero_le _) ?_)
      intro v' w5 hA
      have H5 := Lib.hid (H3.out.turn (A' := obVers v' (l ++ [⟨vk, vv, vb, ve, vx⟩])) (fun K hS => hS.appendV (((Mod.refl _ _).alloc _).alloc _) hA rfl rfl))
      clear hA H2 H3
      go_wp2_with fail
      go_roundw
      case rel => exact ⟨l ++ [⟨vk, vv, vb, ve, vx⟩], by rw [List.length_append]; go_num, HV.out.more hlt (by rw [HZ.out]; exact HSV.out), H5.out⟩
      case measure => simp [intOf]; omega
    · obtain ⟨oa, oc, rfl, q1, q2, q3⟩ := OwnedV.form (HW.out.first : OwnedV wr u5 l)
      have HC := Lib.hid (clip_any oa l.length oc wr q1 q2 q3)
      clear q1 q2 q3
      go_wp2_with fail
      refine HC.out.mono ?_
      rintro e w6 ⟨rfl, rfl⟩
      go_wp2_with fail
      go_ret
      have hll : l.length = L.length := by omega
      have hW := HW.out
      have hv := HV.out
      rw [← hll]
      refine ⟨oa, l.length, l, rfl, rfl, hv, ?_⟩
      have h2 := hW.turn (A' := obVerR (.slice oa l.length l.length) l) (fun K hS => hS.step (OwnedV.at_ (hS.head : OwnedV wr (.slice oa l.length oc) l) |>.recap _) (Mod.refl _ _) (fun g hg => .inl (by cases oa with | none => simp [obVerR, Value.ownBlock] at hg | some x => exact hg)))
      exact h2.swap.drop

set_option maxRecDepth 100000 in
theorem chain_none (sb : Nat) (low : Int) (lk : Value) (w : World) :
    Calls Try.prog 41 #[.pointer none, .pointer (some ⟨sb, 0, none⟩), .int .u64 low, lk] w fun e w' => e = .returned (.tuple #[.int .i64 0, .int .i64 1]) ∧ w = w' := by
  go_enter Try.func41, Try.ntmps41
  go_wp2_with fail
  go_ret2
  exact ⟨rfl, rfl⟩
set_option maxRecDepth 100000 in
theorem kept_none (sb : Nat) (w : World) :
    Calls Try.prog 42 #[.pointer none, .pointer (some ⟨sb, 0, none⟩)] w fun e w' => e = .returned (.slice none 0 0) ∧ w = w' := by
  go_enter Try.func42, Try.ntmps42
  go_wp2_with fail
  go_ret
  exact ⟨rfl, rfl⟩
end Go.Proofs.Ytjojbfgppgnmjaa
