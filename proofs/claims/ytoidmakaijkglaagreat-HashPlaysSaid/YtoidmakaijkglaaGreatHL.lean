/- Keys. -/
import Derived.Test.YtoidmakaijkglaaGreatHK
import Derived.Deep.LoopGhost
namespace Go.Proofs.YtoidmakaijkglaaGreat
open Go.RowKit
theorem Owned.clip {k : IntKind} {E : TypeId} {w : World} {a : Option Addr} {n cap : Nat} {l : List Int} (h : Owned k E w (.slice a n cap) l) (hn : n = l.length) : RowAt k w (.slice a n n) l := by
  subst hn
  rcases h.2 with ⟨hv, h0⟩ | ⟨g, cap', cur, hv, hg, hh, h1, h2, h3, h4⟩
  · have hl0 : l = [] := List.length_eq_zero_iff.1 h0
    subst hl0
    exact .inl ⟨rfl, a, 0, rfl, fun _ => rfl⟩
  · simp only [Value.slice.injEq] at hv
    obtain ⟨rfl, _, rfl⟩ := hv
    refine .inr ⟨g, 0, l.length, rfl, Nat.le_refl _, by omega, (Array.getElem?_eq_some_iff.1 hh).1, fun i hi => ?_⟩
    rw [Nat.zero_add]
    exact h.at_ hi
theorem RowAt.mod {k : IntKind} {w w1 : World} {v : Value} {l : List Int} {F : Nat → Prop} (h : RowAt k w v l) (hm : Mod F w w1) (hF : ∀ g, v.ownBlock = some g → ¬ F g) : RowAt k w1 v l := by
  rcases h with h | ⟨b, off, cap, rfl, hlc, hml, hl, hc⟩
  · exact .inl h
  · have hb : w1.heap[b]? = w.heap[b]? := hm.block b hl (hF b rfl)
    exact .inr ⟨b, off, cap, rfl, hlc, hml, Nat.lt_of_lt_of_le hl hm.size, fun i hi => (World.cell?_of_block (w := w) (a := ⟨b, off + i, none⟩) hb).trans (hc i hi)⟩
/-- A row that is only read from here on. -/
def obRead (v : Value) (l : List Int) : Ob := ⟨fun g => v.ownBlock = some g ∧ l ≠ [], fun w => RowAt .i64 w v l, fun w h g hg => by
  rcases h with ⟨h, _⟩ | ⟨b, off, cap, rfl, _, _, hl, _⟩
  · exact absurd h hg.2
  · have : b = g := by simpa [Value.ownBlock] using hg.1
    omega, fun w w' G h hm ha => by
  rcases h with h | ⟨b, off, cap, rfl, hlc, hml, hl, hc⟩
  · exact .inl h
  · by_cases hl0 : l = []
    · subst hl0; exact .inr ⟨b, off, cap, rfl, hlc, hml, Nat.lt_of_lt_of_le hl hm.size, fun i hi => by simp at hi⟩
    · have hb : w'.heap[b]? = w.heap[b]? := hm.block b hl (ha b ⟨rfl, hl0⟩)
      exact .inr ⟨b, off, cap, rfl, hlc, hml, Nat.lt_of_lt_of_le hl hm.size, fun i hi => (World.cell?_of_block (w := w) (a := ⟨b, off + i, none⟩) hb).trans (hc i hi)⟩⟩


theorem own_src {k : IntKind} {E : TypeId} {w : World} {v : Value} {l : List Int} (h : Owned k E w v l) : SrcAt w v l.length 1 (l.map (Value.int k)) := by
  rcases h.2 with ⟨hv, hn⟩ | ⟨g, cap', cur, hv, hg, hh, hnc, hcm, hcs, htk⟩
  · have : l = [] := List.length_eq_zero_iff.1 hn
    subst this
    exact .inl ⟨rfl, rfl, none, 0, hv, fun _ => rfl⟩
  · refine .inr ⟨g, 0, cap', hv, by simp, fun j y hj => ?_⟩
    have hjl : j < l.length := by simpa using (List.getElem?_eq_some_iff.1 hj).1
    subst hv
    rw [Nat.zero_add, Owned.at_ h hjl, ← hj]
    simp [List.getD_eq_getElem?_getD, hjl]
def allKeys (bs : List (List (Int × Nat))) (n : Nat) : List Int := (List.range n).flatMap (keysOf bs)
theorem allKeys_next (bs : List (List (Int × Nat))) (n : Nat) : allKeys bs (n + 1) = allKeys bs n ++ keysOf bs n := by
  unfold allKeys
  rw [List.range_succ, List.flatMap_append, List.flatMap_singleton]
set_option maxRecDepth 100000 in
set_option maxHeartbeats 3200000 in
theorem sx_keys {w0 w : World} {xb sb ab n : Nat} {F : Nat → Prop} {bs : List (List (Int × Nat))} {L : List Ob} (h : Sep w0 w (obIx xb F sb ab n bs :: L)) (hn : n ≤ 64) (hsz : ∀ i, (bs.getD i []).length ≤ 100000) (hall : ∀ i, i ≤ n → (allKeys bs i).length ≤ 100000) :
    Calls Tryz.prog 15 #[.pointer (some ⟨xb, 0, none⟩)] w fun e w' => ∃ sv, e = .returned sv ∧ ∃ F', Sep w0 w' (obRead sv (sortI (allKeys bs n)) :: obIx xb F' sb ab n bs :: L) := by
  have HS := Lib.hid (h.row_nil .i64 3)
  have c2 := h.head.n_cell.2.2
  have HSZ := Lib.hid hsz
  have HALL := Lib.hid hall
  clear h hsz hall
  go_enter Tryz.func15, Tryz.ntmps15
  go_wp2_with fail
  clear c2
  go_loopg [3, 9] n (fun kx ov jv wr => ∃ (j : Nat) (F' : Nat → Prop), jv = .int .i64 j ∧ j ≤ n ∧ n - j ≤ kx ∧ Hid (Sep w0 wr (obRow .i64 3 ov (allKeys bs j) :: obIx xb F' sb ab n bs :: L)))
  case atStart => exact ⟨0, F, rfl, Nat.zero_le _, by omega, HS⟩
  case round =>
    obtain ⟨j, F', rfl, hj, hjk, HP⟩ := hrel
    clear HS
    have j0 : (0 : Int) ≤ (j : Int) := by omega
    by_cases hlt : j < n
    · have j1 : (j : Int) < (n : Int) := by omega
      have jw : IntKind.i64.wrap ((j : Int) + 1) = (j : Int) + 1 := IntWalk.i64_in _ (by omega)
      have HIN := Lib.hid (sx_in HP.out.swap hn hlt (HSZ.out j))
      have HAK := Lib.hid (allKeys_next bs j)
      have HLN := Lib.hid (HALL.out (j + 1) hlt)
      go_wp2_with fail
      refine HIN.out.mono ?_
      rintro e w5 ⟨sv, rfl, F2, h5⟩
      have h6 := h5.bring3
      have HO := Lib.hid (h6.head : Owned .i64 3 w5 _ _)
      have HV := Lib.hid (h6.second : Owned .i64 3 w5 _ _)
      have HS6 := Lib.hid h6
      have hlen : (allKeys bs j).length + (keysOf bs j).length ≤ 1099511627776 := by
        have := HLN.out
        rw [HAK.out, List.length_append] at this
        omega
      have HL2 := Lib.hid hlen
      clear h5 h6 hlen HIN
      go_wp2_with (at_builtin; refine walk_append (zero := .int .i64 0) (base := 0) (n := (allKeys bs j).length) (m := (keysOf bs j).length) (xs := (allKeys bs j).map (Value.int .i64)) (ys := (keysOf bs j).map (Value.int .i64)) rfl (.tmp 12) (.tmp 15) rfl Tryz.underlying41 info_int' rfl Nat.zero_lt_one (Nat.le_of_ble_eq_true rfl) rfl HO.out rfl (own_src HV.out) (ints_one .i64 _) HL2.out (Nat.zero_le _) ?_)
      intro v' w6 hA
      have h7 := HS6.out.append (Mod.refl _ _) hA rfl rfl
      rw [← HAK.out] at h7
      have HS7 := Lib.hid h7.swap.tail
      clear hA h7
      go_wp2_with fail
      go_roundg (n - (j + 1))
      case rel => exact ⟨j + 1, F2, by go_num, by omega, by omega, HS7⟩
      case measure => omega
    · have j1 : ¬ (j : Int) < (n : Int) := by omega
      obtain rfl : j = n := by omega
      have hO := (HP.out.head : Owned .i64 3 wr _ _)
      have HSO := Lib.hid (sort_own hO (HALL.out j (Nat.le_refl _)))
      obtain ⟨oa, oc, rfl, ho1, ho2, ho3⟩ := hO.form
      have HO1 := Lib.hid ho1
      have HO2 := Lib.hid ho2
      have HO3 := Lib.hid ho3
      clear hO ho1 ho2 ho3
      go_wp2_with fail
      refine HSO.out.mono ?_
      rintro e w5 ⟨rfl, h5, h6⟩
      have hst := HP.out.step (A' := obRow .i64 3 (.slice oa (allKeys bs j).length oc) (sortI (allKeys bs j))) h5 (Mod.of_grown h6 (fun k hk => .inl hk)) (Grows.refl _ _)
      have HST := Lib.hid hst
      have HCL := Lib.hid (clip_int oa (allKeys bs j).length oc w5 HO1.out HO2.out HO3.out)
      have HRD := Lib.hid (Owned.clip h5 (sortI_len _).symm)
      clear h5 h6 hst HSO
      go_wp2_with fail
      refine HCL.out.mono ?_
      rintro e w6 ⟨rfl, rfl⟩
      go_wp2_with fail
      go_ret
      refine ⟨_, rfl, F', HST.out.step (A' := obRead (.slice oa (allKeys bs j).length (allKeys bs j).length) (sortI (allKeys bs j))) HRD.out (Mod.refl _ _) ?_⟩
      rintro k ⟨hk, -⟩
      refine .inl ?_
      show Value.ownBlock (.slice oa (allKeys bs j).length oc) = some k
      cases oa <;> exact hk
end Go.Proofs.YtoidmakaijkglaaGreat
