/- PoolPlays holds: slots are taken and given back as the document says. No condition. -/
import Derived.Test.YtfjoghbkfkbbdaaU5
import Derived.Test.YtfjoghbkfkbbdaaF2
import Derived.Deep.CutRange
import Derived.Deep.CutBlock
import Derived.Deep.DeepCutAuto
import Derived.Deep.LoopGhost
import Derived.Deep.DrawnRows
namespace Go.Proofs.Ytfjoghbkfkbbdaa
open Go.RowKit Go.ChangeShapes

open Go.Proofs.Ytfjoghbkfkbbdaa.Ref
set_option maxRecDepth 100000 in
theorem bad_new (x y : Int) (w : World) (h : x < 1 ∨ 4096 < x ∨ y < 0 ∨ 65535 < y) :
    Calls Try.prog 34 #[.int .i64 x, .int .i64 y] w fun e w' => e = .returned (.tuple #[.pointer none, .int .i64 1]) ∧ w = w' := by
  have hd : decide (x < 1) = true ∨ (decide (x < 1) = false ∧ decide (4096 < x) = true) ∨ (decide (x < 1) = false ∧ decide (4096 < x) = false ∧ decide (y < 0) = true) ∨ (decide (x < 1) = false ∧ decide (4096 < x) = false ∧ decide (y < 0) = false ∧ decide (65535 < y) = true) := by simp; omega
  clear h
  rcases hd with hd | ⟨hd, hd2⟩ | ⟨hd, hd2, hd3⟩ | ⟨hd, hd2, hd3, hd4⟩
  all_goals
    go_enter Try.func34, Try.ntmps34
    go_wp2_with fail
    all_goals
      go_ret2
      exact ⟨rfl, rfl⟩
set_option maxRecDepth 100000 in
theorem bad_ref (x y : Int) (w : World) (h : x < 1 ∨ 4096 < x ∨ y < 0 ∨ 65535 < y) :
    Calls Try.prog 43 #[.int .i64 x, .int .i64 y] w fun e w' => e = .returned (.pointer none) ∧ w = w' := by
  have hd : decide (x < 1) = true ∨ (decide (x < 1) = false ∧ decide (4096 < x) = true) ∨ (decide (x < 1) = false ∧ decide (4096 < x) = false ∧ decide (y < 0) = true) ∨ (decide (x < 1) = false ∧ decide (4096 < x) = false ∧ decide (y < 0) = false ∧ decide (65535 < y) = true) := by simp; omega
  clear h
  rcases hd with hd | ⟨hd, hd2⟩ | ⟨hd, hd2, hd3⟩ | ⟨hd, hd2, hd3, hd4⟩
  all_goals
    go_enter Try.func43, Try.ntmps43
    go_wp2_with fail
    all_goals
      go_ret
      exact ⟨rfl, rfl⟩
section
variable {w0 W : World} {ov : Value} {told : List Int} {b c : Nat} {s u : PS}
theorem q_free (h : St w0 W ov told b c s u) (hu : s.listed = u) {fr : Nat} (hf : u.free.length = fr) :
    Calls Try.prog 39 #[.pointer (some ⟨b, 0, none⟩)] W fun e w' => e = .returned (.int .i64 fr) ∧ St w0 w' ov told b c u u :=
  (p_free h).mono fun e w' r => by rw [hu, hf] at r; exact r
theorem q_rfree (h : St w0 W ov told b c u u) {fr : Nat} (hf : u.free.length = fr) :
    Calls Try.prog 48 #[.pointer (some ⟨c, 0, none⟩)] W fun e w' => e = .returned (.int .i64 fr) ∧ St w0 w' ov told b c u u :=
  (r_free h).mono fun e w' r => by rw [hf] at r; exact r
theorem q_used (h : St w0 W ov told b c u u) (hu : u.listed = u) {N : Nat} (hn : cnt u.sl = N) :
    Calls Try.prog 38 #[.pointer (some ⟨b, 0, none⟩)] W fun e w' => e = .returned (.int .i64 N) ∧ St w0 w' ov told b c u u :=
  (p_used h).mono fun e w' r => by rw [hu, hn] at r; exact r
theorem q_rall (h : St w0 W ov told b c u u) {N : Nat} (hn : cnt u.sl = N) {wo : Int} (hw : u.worn = wo) :
    Calls Try.prog 49 #[.pointer (some ⟨c, 0, none⟩)] W fun e w' => ∃ a cap, e = .returned (.slice a N cap) ∧ Owned .u64 39 w' (.slice a N cap) u.all' ∧ St w0 w' ov told b c u u ∧ Below W.heap.size W w' ∧ w'.cell? ⟨c, 5, none⟩ = some (.int .i64 wo) :=
  (r_all h).mono fun e w' r => by
    obtain ⟨a, cap, r1, r2, r3, r4⟩ := r
    rw [hn] at r1 r2
    exact ⟨a, cap, r1, r2, r3, r4, by rw [← hw]; exact r3.worn⟩
theorem q_worn (h : St w0 W ov told b c u u) {wo : Int} (hw : u.worn = wo) :
    Calls Try.prog 41 #[.pointer (some ⟨b, 0, none⟩)] W fun e w' => e = .returned (.int .i64 wo) ∧ W = w' :=
  (p_worn h).mono fun e w' r => by rw [hw] at r; exact r
theorem q_all (h : St w0 W ov told b c u u) {N : Nat} (hn : cnt u.sl = N) :
    Calls Try.prog 51 #[.pointer (some ⟨b, 0, none⟩)] W fun e w' => ∃ a cap, e = .returned (.slice a N cap) ∧ Owned .u64 39 w' (.slice a N cap) u.all' ∧ St w0 w' ov told b c u u :=
  (p_all h).mono fun e w' r => by
    obtain ⟨a, cap, r1, r2, r3⟩ := r
    rw [hn] at r1 r2
    exact ⟨a, cap, r1, r2, r3⟩
end
theorem told_in {told : List Int} (h : ∀ x ∈ told, 0 ≤ x ∧ x ≤ 18446744073709551615) {q : Nat} (hq : q < told.length) : 0 ≤ told.getD q 0 ∧ told.getD q 0 ≤ 18446744073709551615 := by
  refine h _ ?_
  simp [List.getD_eq_getElem?_getD, hq]

/-- What a round of the switch leaves: what was told, and both pools, alike. -/
def Turn (w : World) (b c k : Nat) (ov : Value) (W : World) : Prop :=
  ∃ (told : List Int) (s u : PS), s.listed = u ∧ told.length ≤ k + 1 ∧ (∀ x ∈ told, 0 ≤ x ∧ x ≤ 18446744073709551615) ∧ St w W ov told b c s u
attribute [local go_sem ↓] Go.wp_at_zero Go.wp_at_succ
set_option maxRecDepth 100000 in
set_option maxHeartbeats 6400000 in
theorem poolPlays_walk {a0 a1 : Int} {av : Option Addr} {len cap : Nat} {l : List Op3} {w : World} (_w0 : (Lit.int .i64 a0).wf = true) (_w1 : (Lit.int .i64 a1).wf = true) (hlen : l.length = len) (hr : OpAt w (.slice av len cap) l) (hwf : ∀ i, (l.getD i op0).wf) :
    Calls Try.prog 11 #[.int .i64 a0, .int .i64 a1, .slice av len cap] w fun e w' => e = .returned (.bool true) ∧ Below w.heap.size w w' := by
  obtain ⟨x, hx⟩ : ∃ x, x = if 30 < a0 ∧ a0 ≤ 4096 then a0 % 30 + 1 else a0 := ⟨_, rfl⟩
  by_cases hbad : x < 1 ∨ 4096 < x ∨ a1 < 0 ∨ 65535 < a1
  · have HB1 := Lib.hid (bad_new x a1 w hbad)
    have HB2 := Lib.hid (bad_ref x a1 w hbad)
    clear hbad hr hwf
    have hc : (decide (30 < a0) = true ∧ decide (a0 ≤ 4096) = true ∧ x = a0 % 30 + 1) ∨ (decide (30 < a0) = false ∧ x = a0) ∨ (decide (30 < a0) = true ∧ decide (a0 ≤ 4096) = false ∧ x = a0) := by
      simp only [decide_eq_true_eq, decide_eq_false_iff_not]
      split at hx <;> omega
    rcases hc with ⟨d1, d2, hxe⟩ | ⟨d1, hxe⟩ | ⟨d1, d2, hxe⟩
    all_goals
      clear hx
      have hp : 30 < a0 ∨ True := .inr trivial
      clear hp
      try (have hp0 : (0 : Int) ≤ a0 := by have := of_decide_eq_true d1; omega)
      subst hxe
      go_enter Try.func11, Try.ntmps11
      go_wp2_with fail
      refine HB1.out.mono ?_
      rintro e w1 ⟨rfl, rfl⟩
      go_wp2_with fail
      refine HB2.out.mono ?_
      rintro e w1 ⟨rfl, rfl⟩
      go_wp2_with fail
      refine (awake3_any w).mono ?_
      rintro e w1 ⟨rfl, b1⟩
      go_wp2_with fail
      go_ret
      exact ⟨rfl, b1⟩
  · obtain ⟨n, rfl⟩ : ∃ n : Nat, x = n := ⟨x.toNat, by omega⟩
    have n1 : 1 ≤ n := by omega
    have n2 : n ≤ 4096 := by omega
    have y0 : 0 ≤ a1 := by omega
    have y1 : a1 ≤ 65535 := by omega
    have HN := Lib.hid (pool_new n a1 w n1 n2 y0 y1)
    have HR := Lib.hid (fun W => ref_new n a1 W n1 n2 y0 y1)
    clear hbad
    have hc : (decide (30 < a0) = true ∧ decide (a0 ≤ 4096) = true ∧ (n : Int) = a0 % 30 + 1) ∨ (decide (30 < a0) = false ∧ (n : Int) = a0) := by
      simp only [decide_eq_true_eq, decide_eq_false_iff_not]
      split at hx <;> omega
    clear hx
    rcases hc with ⟨d1, d2, hn⟩ | ⟨d1, hn⟩
    all_goals
      try (have hp0 : (0 : Int) ≤ a0 := by have := of_decide_eq_true d1; omega)
      have HR' := Lib.hid hr
      have HWF := Lib.hid hwf
      clear hr hwf
      go_enter Try.func11, Try.ntmps11
      go_wp2_with fail
      rw [← hn]
      refine HN.out.mono ?_
      rintro e w1 ⟨b, F1, rfl, p1, B1, f1⟩
      have S1 : Hid (Sep w w1 [obPool b F1 (PS.new n a1)]) := Lib.hid ((Sep.nil w).new (A := obPool b F1 (PS.new n a1)) B1 p1 f1)
      clear p1 B1 f1 HN
      go_wp2_with fail
      rw [← hn]
      refine (HR.out w1).mono ?_
      rintro e w2 ⟨c, G1, rfl, p2, B2, f2⟩
      have S2 : Hid (St w w2 (.slice none 0 0) [] b c (PS.new n a1) (PS.new n a1).listed) := Lib.hid ⟨F1, G1, ((S1.out.new (A := obRef c G1 (PS.new n a1).listed) B2 p2 f2).swap.row_nil _ _)⟩
      clear p2 B2 f2 HR S1
      go_wp2_with fail
      go_loopg [10, 11] 100 (fun kx ov i wr => ∃ (k : Nat) (told : List Int) (s : PS), 100 - k ≤ kx ∧ k ≤ len ∧ k ≤ 100 ∧ i = .int .i64 k ∧ told.length ≤ k ∧ (∀ x ∈ told, 0 ≤ x ∧ x ≤ 18446744073709551615) ∧ St w wr ov told b c s s.listed)
      case atStart => exact ⟨0, [], _, by omega, Nat.zero_le _, Nat.zero_le _, rfl, Nat.le_refl _, fun x h => by simp at h, S2.out⟩
      case round =>
        obtain ⟨k, told, s, hkx, hk, hk2, rfl, htl, htr, hS⟩ := hrel
        have HS := Lib.hid hS
        clear hS S2
        obtain ⟨ra, rc, hov, hrcap⟩ : ∃ a cap, u10 = .slice a told.length cap ∧ told.length ≤ cap := by
          obtain ⟨a, cap, h, h2, _⟩ := Owned.form (HS.out.row : Owned .u64 _ _ u10 told)
          exact ⟨a, cap, h, h2⟩
        subst hov
        by_cases hlt : k < len ∧ k < 100
        · obtain ⟨hlt1, hlt2⟩ := hlt
          rcases HR'.out with ⟨h0, _⟩ | ⟨b', off, cap', hv, _, hbl, hc⟩
          · rw [hlen] at h0
            omega
          obtain ⟨q0, q1, q2⟩ := hc k (by rw [hlen]; exact hlt1)
          have c0 := (HS.out.bel.cell (p := ⟨b', off + k * 3, none⟩) hbl).trans q0
          have c1 := (HS.out.bel.cell (p := ⟨b', off + k * 3 + 1, none⟩) hbl).trans q1
          have c2 := (HS.out.bel.cell (p := ⟨b', off + k * 3 + 2, none⟩) hbl).trans q2
          rw [hlen] at hv
          simp only [Value.slice.injEq] at hv
          obtain ⟨rfl, _, rfl⟩ := hv
          have hw := HWF.out k
          clear hc q0 q1 q2
          generalize l.getD k op0 = o at *
          obtain ⟨kd, on, ol⟩ := o
          obtain ⟨wf0, wf1, wf2⟩ := hw
          have bl2 := bounds_u64 wf2
          simp only at c0 c1 c2 wf0 wf1 wf2 bl2
          clear wf0 wf1 wf2
          have mn := i64_and65535 on
          obtain ⟨nn, hnn, hnn2⟩ : ∃ nn : Nat, on % 65536 = nn ∧ nn < 65536 := ⟨(on % 65536).toNat, by omega, by omega⟩
          rw [hnn] at mn
          clear hnn
          -- which link is meant
          obtain ⟨x, hx⟩ : ∃ x : Int, x = if 0 < told.length ∧ ¬ kd = 2 then told.getD (nn % told.length) 0 else ol := ⟨_, rfl⟩
          have hxr : 0 ≤ x ∧ x ≤ 18446744073709551615 := by
            rw [hx]
            split
            · rename_i h
              exact told_in htr (Nat.mod_lt _ h.1)
            · omega
          have hwhich : (told.length = 0 ∧ x = ol) ∨ (0 < told.length ∧ kd = 2 ∧ x = ol) ∨ (0 < told.length ∧ ¬ kd = 2 ∧ x = told.getD (nn % told.length) 0) := by
            by_cases h1 : 0 < told.length
            · by_cases h2 : kd = 2
              · exact .inr (.inl ⟨h1, h2, by rw [hx, if_neg (fun h => h.2 h2)]⟩)
              · exact .inr (.inr ⟨h1, h2, by rw [hx, if_pos ⟨h1, h2⟩]⟩)
            · exact .inl ⟨by omega, by rw [hx, if_neg (fun h => h1 h.1)]⟩
          clear hx
          have hrow : 0 < told.length → ∃ g, ra = some ⟨g, 0, none⟩ ∧ wr.cell? ⟨g, nn % told.length, none⟩ = some (.int .u64 (told.getD (nn % told.length) 0)) := fun h => by
            obtain ⟨g, rfl⟩ := Ref.some_of (HS.out.row : Owned .u64 _ _ _ told) h
            exact ⟨g, rfl, Owned.at_ (HS.out.row : Owned .u64 _ _ _ told) (Nat.mod_lt _ h)⟩
          have HTR := Lib.hid htr
          have htl2 : told.length ≤ 100 := by omega
          clear htr
          have hkind : kd = 0 ∨ (kd = 1 ∨ kd = 2) ∨ (¬ kd = 0 ∧ ¬ kd = 1 ∧ ¬ kd = 2) := by omega
          obtain ⟨W0, hW0⟩ : ∃ W0, wr.alloc (.cells #[.int .i64 kd, .int .i64 on, .int .u64 ol] 61) = W0 := ⟨_, rfl⟩
          have HW0 := Lib.hid hW0
          have HS0 : Hid (St w W0 (.slice ra told.length rc) told b c s s.listed) := Lib.hid (by rw [← hW0]; exact HS.out.below ((Below.refl _ _).alloc (Nat.le_refl _) _))
          have hbx : W0.heap[wr.heap.size]? = some (.cells #[.int .i64 kd, .int .i64 on, .int .u64 ol] 61 (0, 0)) := by rw [← hW0]; exact blk_new _ _
          have f0 := blk_cell hbx 0
          have f1 := blk_cell hbx 1
          have f2 := blk_cell hbx 2
          simp at f0 f1 f2
          have HBX := Lib.hid hbx
          clear hW0 hbx
          have hrow2 : 0 < told.length → ∃ g, ra = some ⟨g, 0, none⟩ ∧ W0.cell? ⟨g, nn % told.length, none⟩ = some (.int .u64 (told.getD (nn % told.length) 0)) := fun h => by
            obtain ⟨g, rfl⟩ := Ref.some_of (HS0.out.row : Owned .u64 _ _ _ told) h
            exact ⟨g, rfl, Owned.at_ (HS0.out.row : Owned .u64 _ _ _ told) (Nat.mod_lt _ h)⟩
          clear hrow
          go_upto_region 15 with fail
          go_cut [76] (fun s76 wx => s76 = .bool (decide (0 < told.length ∧ ¬ kd = 2)) ∧ wx = W0)
          case first =>
            as_aux_lemma =>
              rw [HW0.out]
              have hk3 : (kd != 2) = !decide (kd = 2) := by by_cases h : kd = 2 <;> simp [h]
              by_cases h1 : 0 < told.length
              · have hd1 : decide (0 < told.length) = true := decide_eq_true h1
                go_wp2_with fail
                all_goals
                  go_meet
                  case rel => exact ⟨by simp [*], rfl⟩
              · have hd1 : decide (0 < told.length) = false := decide_eq_false h1
                go_wp2_with fail
                all_goals
                  go_meet
                  case rel => exact ⟨by simp [*], rfl⟩
          case rest =>
            as_aux_lemma =>
              obtain ⟨rfl, rfl⟩ := hcut
              go_upto_if 76 with fail
              go_cut [13] (fun s13 wx => s13 = .int .u64 x ∧ wx = wc)
              case first =>
                as_aux_lemma =>
                  rcases hwhich with ⟨h1, hxe⟩ | ⟨h1, hk3, hxe⟩ | ⟨h1, hk3, hxe⟩
                  · have hd : decide (0 < told.length ∧ ¬ kd = 2) = false := decide_eq_false (fun h => by omega)
                    go_wp2_with fail
                    all_goals
                      go_meet
                      case rel => exact ⟨by rw [hxe], rfl⟩
                  · have hd : decide (0 < told.length ∧ ¬ kd = 2) = false := decide_eq_false (fun h => h.2 hk3)
                    go_wp2_with fail
                    all_goals
                      go_meet
                      case rel => exact ⟨by rw [hxe], rfl⟩
                  · have hd : decide (0 < told.length ∧ ¬ kd = 2) = true := decide_eq_true ⟨h1, hk3⟩
                    obtain ⟨g, rfl, cx⟩ := hrow2 h1
                    rw [← hxe] at cx
                    have hgl : g < wc.heap.size := (HS0.out.row : Owned .u64 _ _ _ told).lt g rfl
                    have hq : (nn : Int) % told.length = ((nn % told.length : Nat) : Int) := by simp
                    have hqlt : nn % told.length < told.length := Nat.mod_lt _ h1
                    generalize nn % told.length = q at *
                    clear hrow2 hxe
                    go_wp2_with fail
                    all_goals
                      go_meet
                      case rel => exact ⟨rfl, rfl⟩
              case rest =>
                as_aux_lemma =>
                  obtain ⟨rfl, rfl⟩ := hcut
                  clear hwhich hrow2 HW0 HS c0 c1 c2 hbl HR'
                  go_upto_block 2 with fail
                  go_cut [10] (fun s10 wx => Turn w b c k s10 wx)
                  case first =>
                    as_aux_lemma =>
                      rcases hkind with rfl | hk12 | ⟨g0, g1, g2⟩
                      · go_wp2_with fail
                        rcases List.eq_nil_or_concat s.listed.free with hf | ⟨fl, z, hf⟩
                        · refine (p_full HS0.out hf).mono ?_
                          rintro e w2 ⟨rfl, h2⟩
                          have HR := Lib.hid (r_full h2 hf)
                          clear h2 hf HS0
                          go_wp2_with fail
                          refine HR.out.mono ?_
                          rintro e w3 ⟨rfl, hs0⟩
                          have HS9 := Lib.hid hs0
                          clear hs0 HR
                          go_wp2_with fail
                          all_goals
                            go_meet
                            case rel => exact ⟨told, s.listed, s.listed, listed_listed _, by omega, HTR.out, HS9.out⟩
                        · rw [List.concat_eq_append] at hf
                          obtain ⟨i, rfl⟩ : ∃ i : Nat, z = i := by
                            have := ((listed_ok HS0.out.good).free z (by rw [hf]; simp)).1
                            exact ⟨z.toNat, by omega⟩
                          have hil : i < s.listed.sl.length := by
                            have := ((listed_ok HS0.out.good).free i (by rw [hf]; simp)).2.1
                            omega
                          have hzr := link_range (listed_ok HS0.out.good) hil
                          have htk : (s.listed.take fl i).listed = s.listed.take fl i := listed_yes (listed_init s)
                          refine (p_take HS0.out hf).mono ?_
                          rintro e w2 ⟨rfl, h2⟩
                          have HRT := Lib.hid (r_take h2 hf)
                          clear h2 hf HS0 hil
                          have hz0 : 1 ≤ s.listed.link i ∧ s.listed.link i ≤ 8589934591 := ⟨hzr.1, hzr.2.1⟩
                          clear hzr
                          have HTK := Lib.hid htk
                          clear htk
                          generalize s.listed.link i = z at *
                          go_wp2_with fail
                          refine HRT.out.mono ?_
                          rintro e w3 ⟨rfl, h3⟩
                          have H3 := Lib.hid h3
                          clear h3 HRT
                          have htl3 : told.length + 1 ≤ 1099511627776 := by omega
                          go_wp2_with (at_builtin; refine walk_append (zero := .int .u64 0) (base := 0) (n := told.length) (m := 1) (xs := told.map (Value.int .u64)) (ys := [.int .u64 z]) rfl _ _ rfl Try.underlying48 info_u64 rfl Nat.zero_lt_one (Nat.le_of_ble_eq_true rfl) rfl (World.ownsRow.alloc H3.out.row _) rfl (SrcAt.one (blk_at (by simp))) (ints_one .u64 [_]) (by omega) (Nat.zero_le _) ?_)
                          intro v' w5 hA
                          have HS9 := Lib.hid (H3.out.app (x := z) ((Mod.refl _ _).alloc _) hA rfl rfl)
                          clear hA H3
                          go_wp2_with fail
                          all_goals
                            go_meet
                            case rel =>
                              refine ⟨told ++ [z], _, _, HTK.out, by simp; omega, fun x hx => ?_, HS9.out⟩
                              rcases List.mem_append.1 hx with hx | hx
                              · exact HTR.out x hx
                              · simp at hx
                                subst hx
                                omega
                      · rcases hk12 with rfl | rfl
                        all_goals
                          go_wp2_with fail
                          have hlv := listed_live s x
                          rcases Bool.eq_false_or_eq_true (s.live x) with hl | hl
                          rotate_left
                          · rw [hl] at hlv
                            have HP := Lib.hid (p_give HS0.out hxr.1 hxr.2)
                            rw [hl] at HP
                            simp only [Bool.false_eq_true, if_false] at HP
                            have HLV := Lib.hid hlv
                            clear hl hlv HS0
                            refine HP.out.mono ?_
                            rintro e w2 ⟨rfl, h2⟩
                            have HR2 := Lib.hid (r_give h2 hxr.1 hxr.2)
                            rw [HLV.out] at HR2
                            simp only [Bool.false_eq_true, if_false] at HR2
                            clear h2 HP HLV
                            go_wp2_with fail
                            refine HR2.out.mono ?_
                            rintro e w3 ⟨rfl, hs0⟩
                            have HS9 := Lib.hid hs0
                            clear HR2 hs0
                            go_wp2_with fail
                            all_goals
                              go_meet
                              case rel => exact ⟨told, s, s.listed, rfl, by omega, HTR.out, HS9.out⟩
                          · rw [hl] at hlv
                            have hsl := live_listed HS0.out.good hl
                            have HP := Lib.hid (p_give HS0.out hxr.1 hxr.2)
                            rw [hl] at HP
                            simp only [if_true] at HP
                            have HLV := Lib.hid hlv
                            obtain ⟨sl, hsli, _, hst, _⟩ := live_yes hl
                            have hini := live_init HS0.out.good hsli hst
                            clear hl hlv HS0
                            refine HP.out.mono ?_
                            rintro e w2 ⟨rfl, h2⟩
                            have HR2 := Lib.hid (r_give h2 hxr.1 hxr.2)
                            rw [HLV.out] at HR2
                            simp only [if_true] at HR2
                            rw [hsl] at HR2
                            have hgi := @give_init s (x % 131072 - 1).toNat
                            rw [hini] at hgi
                            have HGI := Lib.hid hgi
                            clear h2 HP HLV hsl hini hgi hst hsli
                            go_wp2_with fail
                            refine HR2.out.mono ?_
                            rintro e w3 ⟨rfl, hs0⟩
                            have HS9 := Lib.hid hs0
                            clear HR2 hs0
                            go_wp2_with fail
                            all_goals
                              go_meet
                              case rel => exact ⟨told, _, _, listed_yes HGI.out, by omega, HTR.out, HS9.out⟩
                      · have e0 : (kd == 0) = false := by simpa using g0
                        have e1 : (kd == 1) = false := by simpa using g1
                        have e2 : (kd == 2) = false := by simpa using g2
                        go_wp2_with fail
                        have hlv := listed_live s x
                        have HR2 := Lib.hid (r_live HS0.out hxr.1 hxr.2)
                        rw [hlv] at HR2
                        have HMK := or_mark x
                        have HML := Lib.hid (p_live HS0.out (x := bits .or .u64 x 1099511627776) (by omega) HMK.2)
                        rw [high_dead HS0.out.good HMK.1] at HML
                        have HPL := Lib.hid (p_live HS0.out hxr.1 hxr.2)
                        have HWM := Lib.hid (fun W => word_mark x W)
                        clear hlv HMK
                        generalize s.live x = lv at *
                        generalize bits .or .u64 x 1099511627776 = mk at *
                        refine HPL.out.mono ?_
                        rintro e w2 ⟨rfl, rfl⟩
                        go_wp2_with fail
                        refine HR2.out.mono ?_
                        rintro e w3 ⟨rfl, rfl⟩
                        go_wp2_with fail
                        refine (HWM.out _).mono ?_
                        rintro e w3 ⟨rfl, rfl⟩
                        go_wp2_with fail
                        refine HML.out.mono ?_
                        rintro e w3 ⟨rfl, rfl⟩
                        go_wp2_with fail
                        all_goals
                          go_meet
                          case rel => exact ⟨told, s, s.listed, rfl, by omega, HTR.out, HS0.out⟩
                  case rest =>
                    as_aux_lemma =>
                      clear HS0 f0 f1 f2 HBX HTR bl2 hxr hkind mn
                      obtain ⟨told', s', u, hu, htl', htr', hs0⟩ := hcut
                      have hidem : u.listed = u := by rw [← hu]; exact listed_listed _
                      have HU := Lib.hid hu
                      have HID := Lib.hid hidem
                      have hcn : u.all'.length ≤ 1000000 := by
                        rw [all_cnt]
                        have h1 := hs0.good
                        have h2 := h1.n2
                        have h3 : cnt u.sl ≤ u.sl.length := List.countP_le_length
                        have h4 : u.sl.length = s'.sl.length := by rw [← hu, listed_sl]
                        omega
                      have HCN := Lib.hid hcn
                      have HTL := Lib.hid htl'
                      have HTR2 := Lib.hid htr'
                      obtain ⟨N, hN⟩ : ∃ N, cnt u.sl = N := ⟨_, rfl⟩
                      obtain ⟨fr, hfr⟩ : ∃ n, u.free.length = n := ⟨_, rfl⟩
                      obtain ⟨wo, hwo⟩ : ∃ n, u.worn = n := ⟨_, rfl⟩
                      have HN9 := Lib.hid hN
                      have HFR := Lib.hid hfr
                      have HWO := Lib.hid hwo
                      clear hu hidem hcn htl' htr' hN hfr hwo
                      go_upto_region 31 with fail
                      refine wp_region_any (by kernel_rfl) ?_
                      change wpAny _ _ _ _ _ _ _ (World.drew _)
                      refine wpAny_take (i := 0) (v := ?_) rfl (by kernel_rfl) (by kernel_rfl) (by kernel_rfl) (fun _ _ _ h => h) (Or.inl ⟨by rfl, ?_⟩) ?_
                      rotate_left
                      · intro w; go_simp; try with_reducible rfl
                      go_simp
                      refine wpAny_take (i := 2) (v := ?_) rfl (by kernel_rfl) (by kernel_rfl) (by kernel_rfl) (fun _ _ _ h => h) (Or.inl ⟨by rfl, ?_⟩) ?_
                      rotate_left
                      · intro w; go_simp; try with_reducible rfl
                      go_simp
                      refine wpAny_ready (rs := [1]) (by kernel_rfl) (by simp) ?_
                      refine AllReady.cons rfl (fun K hK => ?_) AllReady.nil
                      go_simp
                      go_wp2_with (go_at_call 39; refine (q_free (s := s') (u := u) (by first | assumption | exact St.drew ‹_›) HU.out HFR.out).mono ?_; rintro e w11 ⟨rfl, hs1⟩)
                      refine wpAny_ready (rs := [3]) (by kernel_rfl) (by simp) ?_
                      refine AllReady.cons rfl (fun K hK => ?_) AllReady.nil
                      go_simp
                      go_wp2_with (go_at_call 48; refine (q_rfree hs1 HFR.out).mono ?_; rintro e w12 ⟨rfl, hs2⟩)
                      refine wpAny_take (i := 4) (v := ?_) rfl (by kernel_rfl) (by kernel_rfl) (by kernel_rfl) (fun _ _ _ h => h) (Or.inl ⟨by rfl, ?_⟩) ?_
                      rotate_left
                      · intro w; go_simp; try with_reducible rfl
                      go_simp
                      refine wpAny_take (i := 5) (v := ?_) rfl (by kernel_rfl) (by kernel_rfl) (by kernel_rfl) (fun _ _ _ h => h) (Or.inl ⟨by rfl, ?_⟩) ?_
                      rotate_left
                      · intro w; go_simp; try with_reducible rfl
                      go_simp
                      refine wpAny_take (i := 6) (v := ?_) rfl (by kernel_rfl) (by kernel_rfl) (by kernel_rfl) (fun _ _ _ h => h) (Or.inl ⟨by rfl, ?_⟩) ?_
                      rotate_left
                      · intro w; go_simp; try with_reducible rfl
                      go_simp
                      refine wpAny_take (i := 8) (v := ?_) rfl (by kernel_rfl) (by kernel_rfl) (by kernel_rfl) (fun _ _ _ h => h) (Or.inl ⟨by rfl, ?_⟩) ?_
                      rotate_left
                      · intro w; go_simp; try with_reducible rfl
                      go_simp
                      refine wpAny_ready (rs := [7]) (by kernel_rfl) (by simp) ?_
                      refine AllReady.cons rfl (fun K hK => ?_) AllReady.nil
                      go_simp
                      go_wp2_with (go_at_call 38; refine (q_used hs2 HID.out HN9.out).mono ?_; rintro e w13 ⟨rfl, hs3⟩)
                      refine wpAny_ready (rs := [9]) (by kernel_rfl) (by simp) ?_
                      refine AllReady.cons rfl (fun K hK => ?_) AllReady.nil
                      go_simp
                      go_wp2_with (go_at_call 49; first | (refine (q_rall hs5 HN9.out HWO.out).mono ?_; rintro e w18 ⟨a18, c18, rfl, o18, hs8, b18, cw8⟩) | (refine (q_rall hs3 HN9.out HWO.out).mono ?_; rintro e w14 ⟨a14, c14, rfl, o14, hs4, b14, cw⟩))
                      refine wpAny_take (i := 10) (v := ?_) rfl (by kernel_rfl) (by kernel_rfl) (by kernel_rfl) (fun _ _ _ h => h) (Or.inl ⟨by rfl, ?_⟩) ?_
                      rotate_left
                      · intro w; go_simp; try with_reducible rfl
                      go_simp
                      refine wpAny_take (i := 11) (v := ?_) rfl (by kernel_rfl) (by kernel_rfl) (by kernel_rfl) (fun _ _ _ h => h) (Or.inl ⟨by rfl, ?_⟩) ?_
                      rotate_left
                      · intro w; go_simp; try with_reducible rfl
                      go_simp
                      refine wpAny_take (i := 12) (v := ?_) rfl (by kernel_rfl) (by kernel_rfl) (by kernel_rfl) (fun _ _ _ h => h) (Or.inl ⟨by rfl, ?_⟩) ?_
                      rotate_left
                      · intro w; go_simp; try with_reducible rfl
                      go_simp
                      refine wpAny_take (i := 13) (v := ?_) rfl (by kernel_rfl) (by kernel_rfl) (by kernel_rfl) (fun _ _ _ h => h) (Or.inl ⟨by rfl, ?_⟩) ?_
                      rotate_left
                      · intro w; go_simp; try with_reducible rfl
                      go_simp
                      refine wpAny_take (i := 14) (v := ?_) rfl (by kernel_rfl) (by kernel_rfl) (by kernel_rfl) (fun _ _ _ h => h) (Or.inl ⟨by rfl, ?_⟩) ?_
                      rotate_left
                      · intro w; go_simp; try with_reducible rfl
                      go_simp
                      refine wpAny_take (i := 16) (v := ?_) rfl (by kernel_rfl) (by kernel_rfl) (by kernel_rfl) (fun _ _ _ h => h) (Or.inl ⟨by rfl, ?_⟩) ?_
                      rotate_left
                      · intro w; go_simp; try with_reducible rfl
                      go_simp
                      refine wpAny_take (i := 17) (v := ?_) rfl (by kernel_rfl) (by kernel_rfl) (by kernel_rfl) (fun _ _ _ h => h) (Or.inl ⟨by rfl, ?_⟩) ?_
                      rotate_left
                      · intro w; go_simp; try with_reducible rfl
                      go_simp
                      refine wpAny_take (i := 18) (v := ?_) rfl (by kernel_rfl) (by kernel_rfl) (by kernel_rfl) (fun _ _ _ h => h) (Or.inl ⟨by rfl, ?_⟩) ?_
                      rotate_left
                      · intro w; go_simp; try with_reducible rfl
                      go_simp
                      refine wpAny_ready (rs := [15, 19]) (by kernel_rfl) (by simp) ?_
                      refine AllReady.cons rfl (fun K hK => ?_) (AllReady.cons rfl (fun K hK => ?_) AllReady.nil)
                      · skip
                        go_simp
                        go_wp2_with (go_at_call 41; refine (q_worn hs4 HWO.out).mono ?_; rintro e w15 ⟨rfl, rfl⟩)
                        refine wpAny_ready (rs := [19]) (by kernel_rfl) (by simp) ?_
                        refine AllReady.cons rfl (fun K hK => ?_) AllReady.nil
                        go_simp
                        refine hK _ _ ?_
                        clear hK K
                        refine wpAny_take (i := 20) (v := ?_) rfl (by kernel_rfl) (by kernel_rfl) (by kernel_rfl) (fun _ _ _ h => h) (Or.inl ⟨by rfl, ?_⟩) ?_
                        rotate_left
                        · intro w; go_simp; try with_reducible rfl
                        go_simp
                        refine wpAny_take (i := 21) (v := ?_) rfl (by kernel_rfl) (by kernel_rfl) (by kernel_rfl) (fun _ _ _ h => h) (Or.inl ⟨by rfl, ?_⟩) ?_
                        rotate_left
                        · intro w; go_simp; try with_reducible rfl
                        go_simp
                        refine wpAny_take (i := 22) (v := ?_) rfl (by kernel_rfl) (by kernel_rfl) (by kernel_rfl) (fun _ _ _ h => h) (Or.inl ⟨by rfl, ?_⟩) ?_
                        rotate_left
                        · intro w; go_simp; try with_reducible rfl
                        go_simp
                        refine wpAny_take (i := 23) (v := ?_) rfl (by kernel_rfl) (by kernel_rfl) (by kernel_rfl) (fun _ _ _ h => h) (Or.inl ⟨by rfl, ?_⟩) ?_
                        rotate_left
                        · intro w; go_simp; try with_reducible rfl
                        go_simp
                        refine wpAny_take (i := 25) (v := ?_) rfl (by kernel_rfl) (by kernel_rfl) (by kernel_rfl) (fun _ _ _ h => h) (Or.inl ⟨by rfl, ?_⟩) ?_
                        rotate_left
                        · intro w; go_simp; try with_reducible rfl
                        go_simp
                        refine wpAny_ready (rs := [24]) (by kernel_rfl) (by simp) ?_
                        refine AllReady.cons rfl (fun K hK => ?_) AllReady.nil
                        go_simp
                        go_wp2_with (go_at_call 51; refine (q_all hs4 HN9.out).mono ?_; rintro e w16 ⟨a16, c16, rfl, o16, hs5⟩)
                        refine wpAny_ready (rs := [26]) (by kernel_rfl) (by simp) ?_
                        refine AllReady.cons rfl (fun K hK => ?_) AllReady.nil
                        go_simp
                        go_wp2_with (go_at_call 49; first | (refine (q_rall hs5 HN9.out HWO.out).mono ?_; rintro e w18 ⟨a18, c18, rfl, o18, hs8, b18, cw8⟩) | (refine (q_rall hs3 HN9.out HWO.out).mono ?_; rintro e w14 ⟨a14, c14, rfl, o14, hs4, b14, cw⟩))
                        refine wpAny_ready (rs := [27]) (by kernel_rfl) (by simp) ?_
                        refine AllReady.cons rfl (fun K hK => ?_) AllReady.nil
                        go_simp
                        go_wp2_with (go_at_call 50; refine (same_yes _ _ u.all' _ (o16.mod (Mod.of_below (F := fun _ => False) b18) (fun _ _ h => h)) o18 HCN.out).mono ?_; rintro e w17 ⟨rfl, b17⟩)
                        refine wpAny_take (i := 28) (v := ?_) rfl (by kernel_rfl) (by kernel_rfl) (by kernel_rfl) (fun _ _ _ h => h) (Or.inl ⟨by rfl, ?_⟩) ?_
                        rotate_left
                        · intro w; go_simp; try with_reducible rfl
                        go_simp
                        refine wpAny_take (i := 29) (v := ?_) rfl (by kernel_rfl) (by kernel_rfl) (by kernel_rfl) (fun _ _ _ h => h) (Or.inl ⟨by rfl, ?_⟩) ?_
                        rotate_left
                        · intro w; go_simp; try with_reducible rfl
                        go_simp
                        refine wpAny_done (by kernel_rfl) ?_ _
                        have HS9 := Lib.hid (hs8.below b17)
                        go_wp2_with fail
                        go_roundg (100 - (k + 1))
                        case rel => exact ⟨k + 1, _, u, by omega, by omega, by omega, by go_num, HTL.out, HTR2.out, by rw [HID.out]; exact HS9.out⟩
                        case measure => omega
                      · skip
                        go_simp
                        refine hK _ _ ?_
                        clear hK K
                        refine wpAny_ready (rs := [15]) (by kernel_rfl) (by simp) ?_
                        refine AllReady.cons rfl (fun K hK => ?_) AllReady.nil
                        go_simp
                        go_wp2_with (go_at_call 41; refine (q_worn hs4 HWO.out).mono ?_; rintro e w15 ⟨rfl, rfl⟩)
                        refine wpAny_take (i := 20) (v := ?_) rfl (by kernel_rfl) (by kernel_rfl) (by kernel_rfl) (fun _ _ _ h => h) (Or.inl ⟨by rfl, ?_⟩) ?_
                        rotate_left
                        · intro w; go_simp; try with_reducible rfl
                        go_simp
                        refine wpAny_take (i := 21) (v := ?_) rfl (by kernel_rfl) (by kernel_rfl) (by kernel_rfl) (fun _ _ _ h => h) (Or.inl ⟨by rfl, ?_⟩) ?_
                        rotate_left
                        · intro w; go_simp; try with_reducible rfl
                        go_simp
                        refine wpAny_take (i := 22) (v := ?_) rfl (by kernel_rfl) (by kernel_rfl) (by kernel_rfl) (fun _ _ _ h => h) (Or.inl ⟨by rfl, ?_⟩) ?_
                        rotate_left
                        · intro w; go_simp; try with_reducible rfl
                        go_simp
                        refine wpAny_take (i := 23) (v := ?_) rfl (by kernel_rfl) (by kernel_rfl) (by kernel_rfl) (fun _ _ _ h => h) (Or.inl ⟨by rfl, ?_⟩) ?_
                        rotate_left
                        · intro w; go_simp; try with_reducible rfl
                        go_simp
                        refine wpAny_take (i := 25) (v := ?_) rfl (by kernel_rfl) (by kernel_rfl) (by kernel_rfl) (fun _ _ _ h => h) (Or.inl ⟨by rfl, ?_⟩) ?_
                        rotate_left
                        · intro w; go_simp; try with_reducible rfl
                        go_simp
                        refine wpAny_ready (rs := [24]) (by kernel_rfl) (by simp) ?_
                        refine AllReady.cons rfl (fun K hK => ?_) AllReady.nil
                        go_simp
                        go_wp2_with (go_at_call 51; refine (q_all hs4 HN9.out).mono ?_; rintro e w16 ⟨a16, c16, rfl, o16, hs5⟩)
                        refine wpAny_ready (rs := [26]) (by kernel_rfl) (by simp) ?_
                        refine AllReady.cons rfl (fun K hK => ?_) AllReady.nil
                        go_simp
                        go_wp2_with (go_at_call 49; first | (refine (q_rall hs5 HN9.out HWO.out).mono ?_; rintro e w18 ⟨a18, c18, rfl, o18, hs8, b18, cw8⟩) | (refine (q_rall hs3 HN9.out HWO.out).mono ?_; rintro e w14 ⟨a14, c14, rfl, o14, hs4, b14, cw⟩))
                        refine wpAny_ready (rs := [27]) (by kernel_rfl) (by simp) ?_
                        refine AllReady.cons rfl (fun K hK => ?_) AllReady.nil
                        go_simp
                        go_wp2_with (go_at_call 50; refine (same_yes _ _ u.all' _ (o16.mod (Mod.of_below (F := fun _ => False) b18) (fun _ _ h => h)) o18 HCN.out).mono ?_; rintro e w17 ⟨rfl, b17⟩)
                        refine wpAny_take (i := 28) (v := ?_) rfl (by kernel_rfl) (by kernel_rfl) (by kernel_rfl) (fun _ _ _ h => h) (Or.inl ⟨by rfl, ?_⟩) ?_
                        rotate_left
                        · intro w; go_simp; try with_reducible rfl
                        go_simp
                        refine wpAny_take (i := 29) (v := ?_) rfl (by kernel_rfl) (by kernel_rfl) (by kernel_rfl) (fun _ _ _ h => h) (Or.inl ⟨by rfl, ?_⟩) ?_
                        rotate_left
                        · intro w; go_simp; try with_reducible rfl
                        go_simp
                        refine wpAny_done (by kernel_rfl) ?_ _
                        have HS9 := Lib.hid (hs8.below b17)
                        go_wp2_with fail
                        go_roundg (100 - (k + 1))
                        case rel => exact ⟨k + 1, _, u, by omega, by omega, by omega, by go_num, HTL.out, HTR2.out, by rw [HID.out]; exact HS9.out⟩
                        case measure => omega
        · have hd : decide (k < len) = false ∨ (decide (k < len) = true ∧ decide ((k : Int) < 100) = false) := by simp; omega
          clear hlt
          rcases hd with hd | ⟨hd, hd2⟩
          all_goals
            go_wp2_with fail
            refine (awake3_any _).mono ?_
            rintro e w6 ⟨rfl, b6⟩
            go_wp2_with fail
            go_ret
            exact ⟨rfl, bl_next HS.out.bel b6⟩

end Go.Proofs.Ytfjoghbkfkbbdaa
