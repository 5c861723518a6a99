/- reach: the walk. -/
import Derived.Test.YtbihfjehlbaahaaJ4
namespace Go.Proofs.Ytbihfjehlbaahaa
open Go.RowKit

set_option maxRecDepth 100000 in
set_option maxHeartbeats 3200000 in
theorem reach_any {w : World} {b : Nat} {F : Nat → Prop} {s : Bs} (h : BondsAt w b F s) {a to : Int} (ha : a ∈ s.ids) :
    Calls Try.prog 50 #[.pointer (some ⟨b, 0, none⟩), .int .i64 a, .int .i64 to] w fun e w' => ∃ r, e = .returned (.bool r) ∧ (r = true ↔ Reach s a to) ∧ Below w.heap.size w w' := by
  obtain ⟨mb, blk, row, role, D, hF, h⟩ := h
  have hwf : ∀ x ∈ s.ids, (Lit.int .i64 x).wf = true := fun x hx => by have := h.good.pos x hx; exact wf_int (by omega) this.2
  obtain ⟨w2, hins, hse, hg2⟩ := seen_first w (hwf a ha)
  have B2 : Below w.heap.size w w2 := Mod.below (F := fun g => g = w.heap.size) (((Mod.refl _ w).alloc _).trans (Mod.of_grown hg2 (fun k hk => .inl (by simpa using hk.symm)))) (fun k hk => by omega) (Nat.le_refl _)
  have S2 : Sep w w2 [obSeen w.heap.size [a]] := (Sep.nil w).new (A := obSeen w.heap.size [a]) B2 hse (fun k hk => by have : k = w.heap.size := hk; omega)
  have S3 : Sep w (w2.alloc (.cells #[.int .i64 a] 3)) [obRow .i64 3 (.slice (some ⟨w2.heap.size, 0, none⟩) 1 1) [a], obSeen w.heap.size [a]] :=
    S2.new (A := obRow .i64 3 (.slice (some ⟨w2.heap.size, 0, none⟩) 1 1) [a]) ((Below.refl _ _).alloc (Nat.le_refl _) _) ⟨rfl, .inr ⟨w2.heap.size, 1, _, rfl, Nat.zero_le _, blk_at rfl, Nat.le_refl _, by unfold maxLen; omega, rfl, rfl⟩⟩ (fun k hk => Nat.le_of_eq (show w2.heap.size = k by simpa [obRow, Value.ownBlock] using hk))
  have hmm := @run_makeMap Try.prog
  have HB := Lib.hid (fun (W : World) (hb : Below w.heap.size w W) => h.below hb)
  have HG := Lib.hid h.good
  have HW := Lib.hid hwf
  have HI := Lib.hid (RI.start (to := to) ha)
  have HS3 := Lib.hid S3
  have hfew := h.good.few
  have hn0 : 1 ≤ s.ids.length := List.length_pos_of_mem ha
  clear h hF hwf hse hg2 B2 S2 S3 ha
  go_enter Try.func50, Try.ntmps50
  go_wp2_with fail
  go_loopg [8] (2 * s.ids.length + 3) (fun kx ov wr => ∃ S T z, Hid (RI s a to S T z (s.on z).length) ∧ Sep w wr [obRow .i64 3 ov T, obSeen w.heap.size S] ∧ 2 * (s.ids.length - S.length) + T.length ≤ kx ∧ 2 * (s.ids.length - S.length) + T.length ≤ 2 * s.ids.length)
  case atStart => exact ⟨[a], [a], a, HI, HS3.out, by simp; omega, by simp; omega⟩
  case round =>
    obtain ⟨S, T, z, HR, hW, hkx, hkn⟩ := hrel
    have HW3 := Lib.hid hW
    clear hW HI HS3
    rcases List.eq_nil_or_concat T with rfl | ⟨T0, y, rfl⟩
    · obtain ⟨oa, oc, hov, -, -, -⟩ := Owned.form (HW3.out.head : Owned .i64 3 wr _ [])
      subst hov
      go_wp2_with fail
      go_ret
      exact ⟨false, rfl, by simpa using HR.out.none, HW3.out.bel⟩
    · rw [List.concat_eq_append] at HR HW3 hkx hkn
      have HP := Lib.hid HR.out.pop
      have hz := HP.out.sub y HP.out.zin
      have hB := HB.out wr HW3.out.bel
      have c0 := hB.top0
      have hly := hB.look_in hz
      have c1 := hB.node1 hz
      have hrow := hB.rows y hz
      have hshort := HG.out.short y hz
      obtain ⟨ra, rc, hrv, hr1, hr2, hr3⟩ := hrow.form
      rw [hrv] at c1 hrow
      have hrw0 : ∀ (W : World), Below w.heap.size w W → Owned .i64 3 W (.slice ra (s.on y).length rc) (s.on y) := fun W hb => hrv ▸ (HB.out W hb).rows y hz
      have HRW := Lib.hid hrw0
      clear hrw0
      obtain ⟨oa, oc, hov, ho1, ho2, ho3⟩ := Owned.form (HW3.out.head : Owned .i64 3 wr _ (T0 ++ [y]))
      subst hov
      cases oa with
      | none => have := (ho2 rfl).1; simp at this
      | some go_ =>
      obtain ⟨hga, hmx⟩ := ho3 go_ rfl
      obtain ⟨gt, gto, gts⟩ := go_
      simp only [Addr.mk.injEq, true_and] at hga
      obtain ⟨rfl, rfl⟩ := hga
      have hcl := Owned.at_ (HW3.out.head : Owned .i64 3 wr _ (T0 ++ [y])) (i := T0.length) (by simp)
      have hcy : (T0 ++ [y]).getD T0.length 0 = y := by simp [List.getD_eq_getElem?_getD]
      rw [hcy] at hcl
      have hfr : Sep w wr [obRow .i64 3 (.slice (some ⟨gt, 0, none⟩) T0.length oc) T0, obSeen w.heap.size S] := HW3.out.step (A' := obRow .i64 3 (.slice (some ⟨gt, 0, none⟩) T0.length oc) T0) (Owned.front (HW3.out.head : Owned .i64 3 wr _ (T0 ++ [y])) rfl) (Mod.refl _ _) (fun g hg => .inl (by simpa [obRow, Value.ownBlock] using hg))
      have HFR := Lib.hid hfr
      have hln : (T0 ++ [y]).length = T0.length + 1 := by simp
      rw [hln] at ho1 hkx hkn ⊢
      obtain ⟨M, hMe⟩ : ∃ M : Nat, M = gk := ⟨_, rfl⟩
      rw [← hMe] at hkx
      unfold maxLen at hmx
      have hSl := HP.out.len
      have x1 : IntKind.i64.wrap (((T0.length + 1 : Nat) : Int) - 1) = T0.length := by rw [IntKind.wrap_i64]; omega
      have x2 : IntKind.i64.wrap ((T0.length : Int) + 1 - 1) = T0.length := by rw [IntKind.wrap_i64]; omega
      have p0 : (0 : Int) ≤ (T0.length : Int) := by omega
      have p1 : (T0.length : Int) < (T0.length : Int) + 1 := by omega
      have HR2 := Lib.hid hr2
      have HR3 := Lib.hid hr3
      have HOY := Lib.hid (HG.out.on y hz)
      generalize hLy : s.on y = L at *
      clear hfr HW3 hrow hr2 hr3 hrv hB ho2 ho3 hcy hln hz HR
      go_wp2_with fail
      go_loopg [8, 41] (L.length) (fun kx ov iv wr => ∃ (S' T : List Int) (k : Nat), iv = .int .i64 (k : Int) ∧ k ≤ L.length ∧ Hid (RI s a to S' T y k) ∧ Sep w wr [obRow .i64 3 ov T, obSeen w.heap.size S'] ∧ 2 * (s.ids.length - S'.length) + T.length + 1 ≤ M ∧ 2 * (s.ids.length - S'.length) + T.length ≤ 2 * s.ids.length ∧ L.length - k ≤ kx)
      case atStart => exact ⟨S, T0, 0, rfl, Nat.zero_le _, HP, HFR.out, by omega, by omega, by omega⟩
      case round =>
        obtain ⟨S', T, k, rfl, hk, HK, hWi, hm1, hm3, hm2⟩ := hrel
        have HWi := Lib.hid hWi
        clear hWi HFR HP
        obtain ⟨ta, tc, htv, ht1, ht2, ht3⟩ := Owned.form (HWi.out.head : Owned .i64 3 wr _ T)
        subst htv
        have HT2 := Lib.hid ht2
        have HT3 := Lib.hid ht3
        clear ht2 ht3
        have q0 : (0 : Int) ≤ (k : Int) := by omega
        by_cases hlt : k < L.length
        · have q1 : (k : Int) < (L.length : Int) := by omega
          cases ra with
          | none => have := (HR2.out rfl).1; omega
          | some ga =>
            obtain ⟨hga, -⟩ := HR3.out ga rfl
            obtain ⟨gb, go_, gs⟩ := ga
            simp only [Addr.mk.injEq, true_and] at hga
            obtain ⟨rfl, rfl⟩ := hga
            have hcx := (HRW.out wr HWi.out.bel).at_ hlt
            have hxid := HOY.out _ (get_mem hlt)
            have hold : ∀ x, L.getD k 0 = x → x ∈ S' → x ≠ to → RI s a to S' T y (k + 1) := by
              intro x hx h1 h2
              subst hx
              exact HK.out.old (by rw [hLy]; exact h1) (by rw [hLy]; exact h2)
            have hnew : ∀ x, L.getD k 0 = x → x ∉ S' → x ≠ to → RI s a to (S' ++ [x]) (T ++ [x]) y (k + 1) := by
              intro x hx h1 h2
              subst hx
              have := HK.out.put HG.out (by rw [hLy]; exact hlt) (by rw [hLy]; exact h1) (by rw [hLy]; exact h2)
              rw [hLy] at this
              exact this
            have hfnd : L.getD k 0 = to → Reach s a to := fun e => HK.out.found (by rw [hLy]; exact hlt) (by rw [hLy]; exact e)
            have hS'l := HK.out.len
            obtain ⟨x, hxd⟩ : ∃ x, L.getD k 0 = x := ⟨_, rfl⟩
            rw [hxd] at hcx hxid hfnd
            have hxw := HW.out x hxid
            have HOLD := Lib.hid (hold x hxd)
            have HNEW := Lib.hid (hnew x hxd)
            clear hold hnew hxd c0 hly c1 hcl x1 x2 p0 p1
            by_cases hto : x = to
            · subst hto
              have HFD := Lib.hid (hfnd rfl)
              clear hfnd
              go_wp2_with fail
              go_ret
              exact ⟨true, rfl, by simpa using HFD.out, HWi.out.bel⟩
            · have hne : (x == to) = false := by simpa using hto
              have hlook := (HWi.out.second : SeenAt wr w.heap.size S').look hxw
              clear hfnd
              by_cases hin : x ∈ S'
              · rw [if_pos hin] at hlook
                have HN := Lib.hid (HOLD.out hin hto)
                clear HOLD HNEW hto hin
                go_wp2_with fail
                go_roundg (L.length - (k + 1))
                case rel => exact ⟨S', T, k + 1, by go_num, by omega, HN, HWi.out, hm1, hm3, by omega⟩
                case measure => omega
              · rw [if_neg hin] at hlook
                have HN := Lib.hid (HNEW.out hin hto)
                obtain ⟨w4, hput, hse4, hg4⟩ := SeenAt.put (HWi.out.second : SeenAt wr w.heap.size S') hxw (by omega)
                have H4 := Lib.hid (HWi.out.swap.step (A' := obSeen w.heap.size (S' ++ [x])) hse4 (Mod.of_grown hg4 (fun k hk => .inl (by simpa [obSeen] using hk.symm))) (Grows.refl _ _)).swap
                have hTl : T.length ≤ 1000000 := by omega
                have hSl2 := HN.out.len
                have HR := Lib.hid (H4.out.head : Owned .i64 3 w4 _ T)
                have hrl : T.length + 1 ≤ 1099511627776 := by omega
                simp only [List.length_append, List.length_singleton] at hSl2
                clear HOLD HNEW hto hin hse4 hg4
                go_wp2_with (at_builtin; refine walk_append (zero := .int .i64 0) (base := 0) (n := T.length) (m := 1) (xs := T.map (Value.int .i64)) (ys := [.int .i64 x]) rfl (.tmp 54) (.tmp 56) rfl Try.underlying25 info_int rfl Nat.zero_lt_one (Nat.le_of_ble_eq_true rfl) rfl (World.ownsRow.alloc HR.out _) rfl (SrcAt.one (blk_at (by simp))) (ints_one .i64 [_]) hrl (Nat.zero_le _) ?_)
                intro v' w5 hA
                have hS5 := H4.out.append (ys := [x]) ((Mod.refl _ _).alloc _) hA rfl rfl
                have HS5 := Lib.hid hS5
                clear hA hS5 HR
                go_wp2_with fail
                go_roundg (L.length - (k + 1))
                case rel => exact ⟨S' ++ [x], T ++ [x], k + 1, by go_num, by omega, HN, HS5.out, by simp only [List.length_append, List.length_singleton]; omega, by simp only [List.length_append, List.length_singleton]; omega, by omega⟩
                case measure => omega
        · obtain rfl : k = L.length := by omega
          have HE := HK
          clear hlt hm2 HK c0 hly c1 hcl x1 x2 p0 p1
          go_wp2_with fail
          go_roundg (2 * (s.ids.length - S'.length) + T.length)
          case rel => exact ⟨S', T, y, by rw [hLy]; exact HE, HWi.out, by omega, hm3⟩
          case measure => omega
end Go.Proofs.Ytbihfjehlbaahaa
