import Derived.Test.YtjojbfgppgnmjaaZ1
import Derived.Test.YtjojbfgppgnmjaaF4
import Derived.Deep.CutRange
import Derived.Deep.CutBlock
import Derived.Deep.DeepCutAuto
namespace Go.Proofs.Ytjojbfgppgnmjaa
open Go.RowKit Go.ChangeShapes

/-- What a round of the switch leaves. -/
def Turn9 (w : World) (cb sb ab k : Nat) (wv tv fv : Value) (W : World) : Prop :=
  ∃ (T told live gone : List Int) (V : Int → Ver), told.length ≤ k ∧ gone.length ≤ k ∧ (∀ a, a ∈ told ↔ a ∈ live ∨ a ∈ gone) ∧ CW w cb sb ab 30 k T live gone V [obRow .u64 28 wv T, obRow .u64 28 tv told, obRow .u64 28 fv gone] W
theorem CW.perm {w0 W : World} {cb sb ab n : Nat} {k : Int} {L live gone : List Int} {V : Int → Ver} {M M' : List Ob} (h : CW w0 cb sb ab n k L live gone V M W) (hp : M.Perm M') : CW w0 cb sb ab n k L live gone V M' W := by
  obtain ⟨Fs, Fa, s, ws, h, hc⟩ := h
  exact ⟨Fs, Fa, s, ws, h.perm (((hp.cons _).cons _).cons _), hc⟩
theorem told_range {w W : World} {cb sb ab k : Nat} {T told live gone : List Int} {V : Int → Ver} {M : List Ob} (h : CW w cb sb ab 30 k T live gone V M W) (hk : k ≤ 60) (hm : ∀ a, a ∈ told ↔ a ∈ live ∨ a ∈ gone) : ∀ a ∈ told, 1 ≤ a ∧ a ≤ 8589934591 := by
  intro a ha
  rcases (hm a).1 ha with h1 | h1
  · exact h.len.2.2.2.2.2 a h1
  · exact h.gone_range (by omega) (by omega) a h1
theorem both_app {told live gone : List Int} (h : ∀ a, a ∈ told ↔ a ∈ live ∨ a ∈ gone) (z : Int) : ∀ a, a ∈ told ++ [z] ↔ a ∈ live ++ [z] ∨ a ∈ gone := by
  intro a
  simp only [List.mem_append, List.mem_singleton, h a]
  constructor
  · rintro ((h | h) | h)
    · exact .inl (.inl h)
    · exact .inr h
    · exact .inl (.inr h)
  · rintro ((h | h) | h)
    · exact .inl (.inl h)
    · exact .inr h
    · exact .inl (.inr h)
theorem both_free {told live gone : List Int} (h : ∀ a, a ∈ told ↔ a ∈ live ∨ a ∈ gone) (hn : live.Nodup) {z : Int} (hz : z ∈ live) : ∀ a, a ∈ told ↔ a ∈ live.erase z ∨ a ∈ gone ++ [z] := by
  intro a
  simp only [List.mem_append, List.mem_singleton, h a, hn.mem_erase_iff]
  by_cases e : a = z
  · subst e
    simp [hz]
  · simp [e]

set_option maxRecDepth 100000 in
set_option maxHeartbeats 40000000 in
theorem chainPlays_walk {av : Option Addr} {len cap : Nat} {l : List Op3} {w : World} (hlen : l.length = len) (hr : OpAt w (.slice av len cap) l) (hwf : ∀ i, (l.getD i op0).wf) :
    Calls Try.prog 10 #[.slice av len cap] w fun e w' => e = .returned (.bool true) ∧ Below w.heap.size w w' := by
  have HM := Lib.hid (cw_made (Sep.nil w) 30 (by decide) (by decide) (fun _ => ver0))
  have HR' := Lib.hid hr
  have HWF := Lib.hid hwf
  clear hr hwf
  go_enter Try.func10, Try.ntmps10
  go_wp2_with fail
  refine HM.out.mono ?_
  rintro e w1 ⟨cb, sb, ab, rfl, hW⟩
  have H1 := Lib.hid hW
  clear hW HM
  go_wp2_with fail
  refine (awake9_any _).mono ?_
  rintro e w2 ⟨rfl, b2⟩
  have H2 := Lib.hid ((((H1.out.later b2).row_nil .u64 28).row_nil .u64 28).row_nil .u64 28)
  clear b2 H1
  go_wp2_with fail
  go_loopg [5, 6, 7, 8] 60 (fun kx wv tv fv i wr => ∃ (k : Nat), 60 - k ≤ kx ∧ k ≤ len ∧ k ≤ 60 ∧ i = .int .i64 k ∧ Turn9 w cb sb ab k wv tv fv wr)
  case atStart => exact ⟨0, by omega, Nat.zero_le _, Nat.zero_le _, rfl, [], [], [], [], _, Nat.le_refl _, Nat.le_refl _, by simp, H2.out⟩
  case round =>
    obtain ⟨k, hkx, hk, hk2, rfl, T, told, live, gone, V, htl, hgl, hmem, hW⟩ := hrel
    have HW := Lib.hid hW
    have HMM := Lib.hid hmem
    have HTR := Lib.hid (fun a (ha : a ∈ told) => told_range hW hk2 hmem a ha)
    clear hW H2 hmem
    obtain ⟨ra, rc, hov, hrcap⟩ : ∃ a cap, u6 = .slice a told.length cap ∧ told.length ≤ cap := by
      obtain ⟨a, cap, h, h2, _⟩ := Owned.form (HW.out.swap.first : Owned .u64 _ _ u6 told)
      exact ⟨a, cap, h, h2⟩
    subst hov
    by_cases hlt : k < len ∧ k < 60
    · obtain ⟨hlt1, hlt2⟩ := hlt
      rcases HR'.out with ⟨h0, _⟩ | ⟨b', off, cap', hv, _, hbl, hc⟩
      · rw [hlen] at h0
        omega
      obtain ⟨q0, q1, q2⟩ := hc k (by rw [hlen]; exact hlt1)
      have c0 := (HW.out.bel.cell (p := ⟨b', off + k * 3, none⟩) hbl).trans q0
      have c1 := (HW.out.bel.cell (p := ⟨b', off + k * 3 + 1, none⟩) hbl).trans q1
      have c2 := (HW.out.bel.cell (p := ⟨b', off + k * 3 + 2, none⟩) hbl).trans q2
      rw [hlen] at hv
      simp only [Value.slice.injEq] at hv
      obtain ⟨rfl, _, rfl⟩ := hv
      have hw := HWF.out k
      clear hc q0 q1 q2
      generalize l.getD k op0 = o at *
      obtain ⟨kd, on, ol⟩ := o
      obtain ⟨wf0, wf1, wf2⟩ := hw
      have bl2 := bounds_u64 wf2
      simp only at c0 c1 c2 wf0 wf1 wf2 bl2
      clear wf0 wf1 wf2
      have mn := i64_and65535 on
      obtain ⟨nn, hnn, hnn2⟩ : ∃ nn : Nat, on % 65536 = nn ∧ nn < 65536 := ⟨(on % 65536).toNat, by omega, by omega⟩
      rw [hnn] at mn
      clear hnn
      obtain ⟨x, hx⟩ : ∃ x : Int, x = if 0 < told.length ∧ ¬ kd = 4 then told.getD (nn % told.length) 0 else ol := ⟨_, rfl⟩
      have hxr : 0 ≤ x ∧ x ≤ 18446744073709551615 := by
        rw [hx]
        split
        · rename_i h
          have := HTR.out _ (getD_mem (Nat.mod_lt nn h.1))
          omega
        · omega
      have hwhich : (told.length = 0 ∧ x = ol) ∨ (0 < told.length ∧ kd = 4 ∧ x = ol) ∨ (0 < told.length ∧ ¬ kd = 4 ∧ x = told.getD (nn % told.length) 0) := by
        by_cases h1 : 0 < told.length
        · by_cases h2 : kd = 4
          · exact .inr (.inl ⟨h1, h2, by rw [hx, if_neg (fun h => h.2 h2)]⟩)
          · exact .inr (.inr ⟨h1, h2, by rw [hx, if_pos ⟨h1, h2⟩]⟩)
        · exact .inl ⟨by omega, by rw [hx, if_neg (fun h => h1 h.1)]⟩
      clear hx
      have htl2 : told.length ≤ 60 := by omega
      obtain ⟨W0, hW0⟩ : ∃ W0, wr.alloc (.cells #[.int .i64 kd, .int .i64 on, .int .u64 ol] 64) = W0 := ⟨_, rfl⟩
      have HW0 := Lib.hid hW0
      have HS0 : Hid (CW w cb sb ab 30 k T live gone V [obRow .u64 28 u5 T, obRow .u64 28 (.slice ra told.length rc) told, obRow .u64 28 u7 gone] W0) := Lib.hid (by rw [← hW0]; exact HW.out.later ((Below.refl _ _).alloc (Nat.le_refl _) _))
      have HSB : Hid (CW w cb sb ab 30 k T live gone V [obBlk wr.heap.size #[.int .i64 kd, .int .i64 on, .int .u64 ol] 64, obRow .u64 28 u5 T, obRow .u64 28 (.slice ra told.length rc) told, obRow .u64 28 u7 gone] W0) := Lib.hid (by rw [← hW0]; exact HW.out.add (A := obBlk wr.heap.size #[.int .i64 kd, .int .i64 on, .int .u64 ol] 64) (fun K hS => hS.new ((Below.refl _ _).alloc (Nat.le_refl _) _) (blk_new _ _) (fun j hj => by have : j = wr.heap.size := hj; omega)))
      have hbx : W0.heap[wr.heap.size]? = some (.cells #[.int .i64 kd, .int .i64 on, .int .u64 ol] 64 (0, 0)) := by rw [← hW0]; exact blk_new _ _
      have f0 := blk_cell hbx 0
      have f1 := blk_cell hbx 1
      have f2 := blk_cell hbx 2
      simp at f0 f1 f2
      clear hW0
      have hrow2 : 0 < told.length → ∃ g, ra = some ⟨g, 0, none⟩ ∧ W0.cell? ⟨g, nn % told.length, none⟩ = some (.int .u64 (told.getD (nn % told.length) 0)) ∧ g < W0.heap.size := fun h => by
        obtain ⟨g, rfl⟩ : ∃ g, ra = some ⟨g, 0, none⟩ := by
          obtain ⟨a, cap, h1, _, h2, h3⟩ := Owned.form (HS0.out.swap.first : Owned .u64 _ _ _ told)
          simp only [Value.slice.injEq] at h1
          obtain ⟨rfl, _, rfl⟩ := h1
          cases ra with
          | none => have := (h2 rfl).1; omega
          | some g => exact ⟨g.block, by rw [← (h3 g rfl).1]⟩
        exact ⟨g, rfl, Owned.at_ (HS0.out.swap.first : Owned .u64 _ _ _ told) (Nat.mod_lt _ h), (HS0.out.swap.first : Owned .u64 _ _ _ told).lt g rfl⟩
      clear hbx
      go_upto_region 10 with fail
      go_cut [49] (fun s49 wx => s49 = .bool (decide (0 < told.length ∧ ¬ kd = 4)) ∧ wx = W0)
      case first =>
        as_aux_lemma =>
          rw [HW0.out]
          have hk3 : (kd != 4) = !decide (kd = 4) := by by_cases h : kd = 4 <;> simp [h]
          by_cases h1 : 0 < told.length
          · have hd1 : decide (0 < told.length) = true := decide_eq_true h1
            go_wp2_with fail
            all_goals
              go_meet
              case rel => exact ⟨by simp [*], rfl⟩
          · have hd1 : decide (0 < told.length) = false := decide_eq_false h1
            go_wp2_with fail
            all_goals
              go_meet
              case rel => exact ⟨by simp [*], rfl⟩
      case rest =>
        as_aux_lemma =>
          obtain ⟨rfl, rfl⟩ := hcut
          go_upto_if 49 with fail
          go_cut [10] (fun s10 wx => s10 = .int .u64 x ∧ wx = wc)
          case first =>
            as_aux_lemma =>
              rcases hwhich with ⟨h1, hxe⟩ | ⟨h1, hk3, hxe⟩ | ⟨h1, hk3, hxe⟩
              · have hd : decide (0 < told.length ∧ ¬ kd = 4) = false := decide_eq_false (fun h => by omega)
                go_wp2_with fail
                all_goals
                  go_meet
                  case rel => exact ⟨by rw [hxe], rfl⟩
              · have hd : decide (0 < told.length ∧ ¬ kd = 4) = false := decide_eq_false (fun h => h.2 hk3)
                go_wp2_with fail
                all_goals
                  go_meet
                  case rel => exact ⟨by rw [hxe], rfl⟩
              · have hd : decide (0 < told.length ∧ ¬ kd = 4) = true := decide_eq_true ⟨h1, hk3⟩
                obtain ⟨g, rfl, cx, hgl⟩ := hrow2 h1
                rw [← hxe] at cx
                have hq : (nn : Int) % told.length = ((nn % told.length : Nat) : Int) := by simp
                have hqlt : nn % told.length < told.length := Nat.mod_lt _ h1
                generalize nn % told.length = q at *
                clear hrow2 hxe
                go_wp2_with fail
                all_goals
                  go_meet
                  case rel => exact ⟨rfl, rfl⟩
          case rest =>
            as_aux_lemma =>
              obtain ⟨rfl, rfl⟩ := hcut
              clear hrow2 HW0 HW c0 c1 c2 hbl HR' hwhich
              go_wp2_with fail
              refine (row_at _ T x _ HS0.out.first (by have := HS0.out.len.1; omega)).mono ?_
              rintro e w3 ⟨rfl, rfl⟩
              obtain ⟨aw, haw⟩ : ∃ a, atOf T x = a := ⟨_, rfl⟩
              rw [haw]
              have HAW := Lib.hid haw
              have HS := HS0
              clear HS0 haw
              go_upto_block 2 with fail
              go_cut [5, 6, 7] (fun s5 s6 s7 wx => Turn9 w cb sb ab (k + 1) s5 s6 s7 wx)
              case first =>
                as_aux_lemma =>
                  have hkd : kd = 0 ∨ (kd = 1 ∨ kd = 4) ∨ kd = 2 ∨ kd = 3 ∨ (¬ kd = 0 ∧ ¬ kd = 1 ∧ ¬ kd = 2 ∧ ¬ kd = 3 ∧ ¬ kd = 4) := by omega
                  rcases hkd with rfl | hkd | rfl | rfl | ⟨g0, g1, g2, g3, g4⟩
                  · as_aux_lemma =>
                      have hTb : 1 + T.length ≤ 1099511627776 := by have := HS.out.len.1; omega
                      have htb : told.length + 1 ≤ 1099511627776 := by omega
                      by_cases hfull : live.length = 30
                      · have HF := Lib.hid (cw_full HS.out hfull (key := 5) (v := k) (x := 1) (y := 2) (by decide) (by decide) (by omega) (by omega))
                        clear hfull
                        go_wp2_with fail
                        refine HF.out.mono ?_
                        rintro e w4 ⟨rfl, hW⟩
                        have H4 := Lib.hid hW
                        clear hW HF
                        go_wp2_with fail
                        go_roundg (60 - (k + 1))
                        case rel => exact ⟨k + 1, by omega, by omega, by omega, by go_num, T, told, live, gone, V, by omega, by omega, HMM.out, H4.out.mono (by omega)⟩
                        case measure => omega
                      · have HF := Lib.hid (cw_make HS.out (key := 5) (v := k) (x := 1) (y := 2) (by have := HS.out.len.2.1; omega) (by decide) (by decide) (by omega) (by omega))
                        have HSUB := Lib.hid HS.out.len.2.2.2.2.1
                        clear hfull
                        go_wp2_with fail
                        refine HF.out.mono ?_
                        rintro e w4 ⟨z, rfl, hz, hzg, z0, z1, hW⟩
                        have H4 := Lib.hid hW
                        have HZ := Lib.hid hz
                        clear hW HF hz hzg HS
                        go_wp2_with (at_builtin; refine walk_append (zero := .int .u64 0) (base := 0) (n := told.length) (m := 1) (xs := told.map (Value.int .u64)) (ys := [.int .u64 z]) rfl _ _ rfl Try.underlying22 info_u64 rfl Nat.zero_lt_one (Nat.le_of_ble_eq_true rfl) rfl (World.ownsRow.alloc H4.out.swap.first _) rfl (SrcAt.one (blk_at (by simp))) (ints_one .u64 [_]) htb (Nat.zero_le _) ?_)
                        intro v' w5 hA
                        have H5 := Lib.hid ((H4.out.swap.turn (A' := obRow .u64 28 v' (told ++ [z])) (fun K hS => hS.append (ys := [z]) ((Mod.refl _ _).alloc _) hA rfl rfl)).swap)
                        clear hA H4
                        go_wp2_with fail
                        refine (cw_push H5.out (z := z) (by simp) (fun h => HZ.out (HSUB.out z h))).mono ?_
                        rintro e w6 ⟨rfl, hW⟩
                        have H6 := Lib.hid hW
                        clear hW H5
                        have HSR := Lib.hid (fun o => src_owned (Owned.mod (H6.out.first : Owned .u64 _ _ u5 T) ((Mod.refl (fun _ => False) _).alloc o) (fun _ _ h => h)))
                        go_wp2_with (at_builtin; refine walk_append (zero := .int .u64 0) (base := 0) (n := 1) (m := T.length) (xs := [.int .u64 z]) (ys := T.map (Value.int .u64)) rfl _ _ rfl Try.underlying22 info_u64 rfl Nat.zero_lt_one (Nat.le_of_ble_eq_true rfl) rfl (box_own (blk_at rfl)) rfl (HSR.out _) (ints_one .u64 _) hTb (Nat.zero_le _) ?_)
                        intro v9 w9 hA9
                        have H7 := Lib.hid (H6.out.prepend hA9)
                        clear hA9 H6 HSR
                        go_wp2_with fail
                        all_goals
                          go_meet
                          case rel => exact ⟨z :: T, told ++ [z], live ++ [z], gone, _, by simp; omega, by omega, both_app HMM.out z, H7.out.mono (by omega)⟩
                  · as_aux_lemma =>
                      have HND := Lib.hid HS.out.len.2.2.2.1
                      have HSUB := Lib.hid HS.out.len.2.2.2.2.1
                      have hTl := HS.out.len.1
                      by_cases hx : x ∈ T
                      · obtain ⟨j, hj, hjl, hje⟩ := atOf_mem hx
                        obtain rfl : aw = j := by rw [← HAW.out, hj]
                        obtain ⟨m, hm, _, _⟩ := atOf_mem ((HMM.out x).2 (.inl (HSUB.out x hx)))
                        have HM := Lib.hid hm
                        have HX := Lib.hid hx
                        have her : T.erase x = T.take j ++ T.drop (j + 1) := by rw [← erase_at HND.out hjl hje, List.eraseIdx_eq_take_drop_succ]
                        obtain ⟨R, hR⟩ : ∃ R, R = T.take j ++ T.drop (j + 1) := ⟨_, rfl⟩
                        rw [← hR] at her
                        have HER := Lib.hid her
                        have HR := Lib.hid hR
                        obtain ⟨g, tc, hu5, htc⟩ : ∃ g cap, u5 = .slice (some ⟨g, 0, none⟩) T.length cap ∧ T.length ≤ cap := by
                          obtain ⟨a, cap, h, hle, h2, h3⟩ := Owned.form (HS.out.first : Owned .u64 _ _ u5 T)
                          cases a with
                          | none => have := (h2 rfl).1; omega
                          | some g => exact ⟨g.block, cap, by rw [h, ← (h3 g rfl).1], hle⟩
                        subst hu5
                        have q0 : (0 : Int) ≤ (j : Int) := by omega
                        have q1 : (j : Int) + 1 ≤ T.length := by omega
                        have q2 : (j : Int) ≤ tc := by omega
                        have q3 : (j : Int) + 1 ≤ tc := by omega
                        have x3 : IntKind.i64.wrap ((j : Int) + 1) = (j : Int) + 1 := IntWalk.i64_in _ (by omega)
                        have x4 : ((j : Int) + 1).toNat = j + 1 := by omega
                        have x5 : (0 : Int) ≤ (j : Int) + 1 := by omega
                        have dq : decide ((0 : Int) ≤ (j : Int)) = true := decide_eq_true q0
                        have dm : decide ((m : Int) < 0) = false := decide_eq_false (by omega)
                        clear hm hx hj hje her hR
                        rcases hkd with rfl | rfl
                        all_goals
                          as_aux_lemma =>
                            go_wp2_with fail
                            refine (cw_cut HSB.out HX.out).mono ?_
                            rintro e w4 ⟨rfl, hW⟩
                            rw [HER.out] at hW
                            have H4 := Lib.hid hW
                            have hgl : g < w4.heap.size := (hW.swap.first : Owned .u64 _ _ _ T).lt g rfl
                            have hkeep := Lib.hid (fun W (hW2 : Below w4.heap.size w4 W) => Owned.mod (hW.swap.first : Owned .u64 _ _ (.slice (some ⟨g, 0, none⟩) T.length tc) T) (Mod.of_below (F := fun _ => False) hW2) (fun _ _ h => h))
                            clear hW
                            go_wp2_with fail
                            go_region_law (first | (refine step_append (zero := .int .u64 0) (base := 0) (n := 0) (xs := []) (m := j) (ys := (T.take j).map (Value.int .u64)) rfl (.tmp 97) (.tmp 100) rfl Try.underlying22 info_u64 rfl Nat.zero_lt_one (Nat.le_of_ble_eq_true rfl) rfl ?_ rfl ?_ (ints_one _ _) ?_ (Nat.zero_le _) ?_; exact owns_made (by first | exact blk_at (by simp) | exact blk_drew (blk_at (by simp))); exact cut_front (hkeep.out _ (by repeat (first | exact Below.refl _ _ | refine Below.drew ?_ | refine bl_al ?_ _))) (by omega); omega; intro v5 w5 h5; obtain ⟨B5, f5⟩ := app_new (w := w4) (by repeat (first | exact Below.refl _ _ | refine Below.drew ?_ | refine bl_al ?_ _)) (fun i hi => by have hi2 : _ = i := Option.some.inj hi; (try simp at hi2); omega) h5) | (refine step_append (zero := .int .u64 0) (base := 0) (n := 0 + j) (xs := [] ++ (T.take j).map (Value.int .u64)) (m := T.length - (j + 1)) (ys := (T.drop (j + 1)).map (Value.int .u64)) rfl (.tmp 101) (.tmp 105) rfl Try.underlying22 info_u64 rfl Nat.zero_lt_one (Nat.le_of_ble_eq_true rfl) rfl ?_ rfl ?_ (ints_one _ _) ?_ (Nat.zero_le _) ?_; (first | exact h5.own | exact World.ownsRow.alloc h5.own _); exact cut_back (hkeep.out _ (by repeat (first | exact B5 | refine Below.drew ?_ | refine bl_al ?_ _))) (by omega) rfl; omega; intro v6 w6 h6; obtain ⟨B6, f6⟩ := app_new (w := w4) (by repeat (first | exact B5 | refine Below.drew ?_ | refine bl_al ?_ _)) f5 h6; have O6 : Owned .u64 28 w6 v6 R := HR.out ▸ owned_two (l1 := T.take j) (l2 := T.drop (j + 1)) h6.own (by simp; omega)))
                            all_goals
                              as_aux_lemma =>
                                have H6 := Lib.hid (((H4.out.add (A := obRow .u64 28 v6 R) (fun K hS => hS.new B6 O6 f6)).perm (((List.Perm.swap _ _ _).cons _).trans (List.Perm.swap _ _ _))).drop)
                                have hbk := H6.out.swap.first
                                have k0 := (blk_cell hbk 0).trans rfl
                                clear hbk
                                clear B5 f5 B6 f6 O6 h5 h6 x3 x4 x5 hkeep H4
                                go_wp2_with fail
                                all_goals
                                  first
                                  | (go_meet; exact ⟨R, told, live, gone, V, by omega, by omega, HMM.out, H6.out.swap.drop.mono (by omega)⟩)
                                  | (refine (row_at _ told x _ H6.out.drop.drop.first (by omega)).mono ?_
                                     rintro e w7 ⟨rfl, rfl⟩
                                     rw [HM.out]
                                     go_wp2_with fail
                                     all_goals
                                       go_meet
                                       exact ⟨R, told, live, gone, V, by omega, by omega, HMM.out, H6.out.swap.drop.mono (by omega)⟩)
                      · obtain rfl : aw = -1 := by rw [← HAW.out, atOf_not hx]
                        have HX := Lib.hid hx
                        clear hx
                        rcases hkd with rfl | rfl
                        · as_aux_lemma =>
                            go_wp2_with fail
                            refine (cw_cut_no HSB.out HX.out).mono ?_
                            rintro e w4 ⟨rfl, hW⟩
                            have H4 := Lib.hid hW
                            have k0 := (blk_cell hW.first 0).trans rfl
                            clear hW
                            go_wp2_with fail
                            all_goals
                              go_meet
                              case rel => exact ⟨T, told, live, gone, V, by omega, by omega, HMM.out, H4.out.drop.mono (by omega)⟩
                        · as_aux_lemma =>
                            go_wp2_with fail
                            refine (cw_cut_no HSB.out HX.out).mono ?_
                            rintro e w4 ⟨rfl, hW⟩
                            have H4 := Lib.hid hW
                            have k0 := (blk_cell hW.first 0).trans rfl
                            clear hW
                            go_wp2_with fail
                            refine (row_at _ told x _ H4.out.drop.swap.first (by omega)).mono ?_
                            rintro e w7 ⟨rfl, rfl⟩
                            by_cases ht : x ∈ told
                            · obtain ⟨m, hm, _, _⟩ := atOf_mem ht
                              have dm : decide ((m : Int) < 0) = false := decide_eq_false (by omega)
                              rw [hm]
                              clear hm ht
                              go_wp2_with fail
                              all_goals
                                go_meet
                                case rel => exact ⟨T, told, live, gone, V, by omega, by omega, HMM.out, H4.out.drop.mono (by omega)⟩
                            · rw [atOf_not ht]
                              have HP := Lib.hid (cw_push_no H4.out hxr.1 hxr.2 (.inr (fun h => ht ((HMM.out x).2 (.inl h)))))
                              clear ht
                              go_wp2_with fail
                              refine HP.out.mono ?_
                              rintro e w8 ⟨rfl, hW⟩
                              have H8 := Lib.hid hW
                              clear hW HP
                              go_wp2_with fail
                              all_goals
                                go_meet
                                case rel => exact ⟨T, told, live, gone, V, by omega, by omega, HMM.out, H8.out.drop.mono (by omega)⟩
                  · as_aux_lemma =>
                      have hTl := HS.out.len.1
                      by_cases hx : x ∈ T
                      · obtain ⟨j, hj, _, _⟩ := atOf_mem hx
                        obtain rfl : aw = j := by rw [← HAW.out, hj]
                        have dj : decide ((j : Int) < 0) = false := decide_eq_false (by omega)
                        clear hx hj
                        go_wp2_with fail
                        all_goals
                          go_meet
                          case rel => exact ⟨T, told, live, gone, V, by omega, by omega, HMM.out, HS.out.mono (by omega)⟩
                      · obtain rfl : aw = -1 := by rw [← HAW.out, atOf_not hx]
                        have HX := Lib.hid hx
                        clear hx
                        go_wp2_with fail
                        refine (row_at _ told x _ HS.out.swap.first (by omega)).mono ?_
                        rintro e w4 ⟨rfl, rfl⟩
                        by_cases ht : x ∈ told
                        · obtain ⟨m, hm, _, _⟩ := atOf_mem ht
                          have dm : decide ((0 : Int) ≤ (m : Int)) = true := decide_eq_true (by omega)
                          rw [hm]
                          have HT := Lib.hid ht
                          clear hm ht
                          go_wp2_with fail
                          refine (row_at _ gone x _ HS.out.drop.swap.first (by omega)).mono ?_
                          rintro e w5 ⟨rfl, rfl⟩
                          by_cases hg : x ∈ gone
                          · obtain ⟨i, hi, _, _⟩ := atOf_mem hg
                            have di : decide ((i : Int) < 0) = false := decide_eq_false (by omega)
                            rw [hi]
                            clear hi hg
                            go_wp2_with fail
                            all_goals
                              go_meet
                              case rel => exact ⟨T, told, live, gone, V, by omega, by omega, HMM.out, HS.out.mono (by omega)⟩
                          · rw [atOf_not hg]
                            have hl : x ∈ live := ((HMM.out x).1 HT.out).resolve_right hg
                            have HF := Lib.hid (cw_free HS.out (by omega) hl HX.out)
                            have HB := Lib.hid (both_free HMM.out HS.out.len.2.2.1 hl)
                            have HNL := Lib.hid (HS.out.len.2.2.1.not_mem_erase (a := x))
                            have hgb : gone.length + 1 ≤ 1099511627776 := by omega
                            clear hg hl
                            go_wp2_with fail
                            refine HF.out.mono ?_
                            rintro e w6 ⟨rfl, hW⟩
                            have H6 := Lib.hid hW
                            clear hW HF
                            go_wp2_with fail
                            refine (cw_push_no H6.out hxr.1 hxr.2 (.inr HNL.out)).mono ?_
                            rintro e w7 ⟨rfl, hW⟩
                            have H7 := Lib.hid (hW.perm ((List.Perm.cons _ (List.Perm.swap _ _ [])).trans (List.Perm.swap _ _ _)))
                            clear hW H6
                            go_wp2_with (at_builtin; refine walk_append (zero := .int .u64 0) (base := 0) (n := gone.length) (m := 1) (xs := gone.map (Value.int .u64)) (ys := [.int .u64 x]) rfl _ _ rfl Try.underlying22 info_u64 rfl Nat.zero_lt_one (Nat.le_of_ble_eq_true rfl) rfl (World.ownsRow.alloc H7.out.first _) rfl (SrcAt.one (blk_at (by simp))) (ints_one .u64 [_]) hgb (Nat.zero_le _) ?_)
                            intro v' w8 hA
                            have H8 := Lib.hid ((H7.out.turn (A' := obRow .u64 28 v' (gone ++ [x])) (fun K hS => hS.append (ys := [x]) ((Mod.refl _ _).alloc _) hA rfl rfl)).perm ((List.Perm.swap _ _ _).trans (List.Perm.cons _ (List.Perm.swap _ _ []))))
                            clear hA H7
                            go_wp2_with fail
                            all_goals
                              go_meet
                              case rel => exact ⟨T, told, live.erase x, gone ++ [x], V, by omega, by simp; omega, HB.out, H8.out⟩
                        · rw [atOf_not ht]
                          clear ht
                          go_wp2_with fail
                          all_goals
                            go_meet
                            case rel => exact ⟨T, told, live, gone, V, by omega, by omega, HMM.out, HS.out.mono (by omega)⟩
                  · as_aux_lemma =>
                      have hTl := HS.out.len.1
                      have hTb : 1 + T.length ≤ 1099511627776 := by omega
                      go_wp2_with fail
                      refine (row_at _ told x _ HS.out.swap.first (by omega)).mono ?_
                      rintro e w4 ⟨rfl, rfl⟩
                      by_cases ht : x ∈ told
                      · obtain ⟨m, hm, _, _⟩ := atOf_mem ht
                        have dm : decide ((0 : Int) ≤ (m : Int)) = true := decide_eq_true (by omega)
                        rw [hm]
                        have HT := Lib.hid ht
                        clear hm ht
                        by_cases hx : x ∈ T
                        · obtain ⟨j, hj, _, _⟩ := atOf_mem hx
                          obtain rfl : aw = j := by rw [← HAW.out, hj]
                          have dj : decide ((j : Int) < 0) = false := decide_eq_false (by omega)
                          have HP := Lib.hid (cw_push_no HS.out hxr.1 hxr.2 (.inl hx))
                          clear hx hj
                          go_wp2_with fail
                          refine HP.out.mono ?_
                          rintro e w5 ⟨rfl, hW⟩
                          have H5 := Lib.hid hW
                          clear hW HP
                          go_wp2_with fail
                          all_goals
                            go_meet
                            case rel => exact ⟨T, told, live, gone, V, by omega, by omega, HMM.out, H5.out.mono (by omega)⟩
                        · obtain rfl : aw = -1 := by rw [← HAW.out, atOf_not hx]
                          have HX := Lib.hid hx
                          clear hx
                          go_wp2_with fail
                          refine (row_at _ gone x _ HS.out.drop.swap.first (by omega)).mono ?_
                          rintro e w5 ⟨rfl, rfl⟩
                          by_cases hg : x ∈ gone
                          · obtain ⟨i, hi, _, _⟩ := atOf_mem hg
                            have di : decide ((i : Int) < 0) = false := decide_eq_false (by omega)
                            have HP := Lib.hid (cw_push_no HS.out hxr.1 hxr.2 (.inr (HS.out.apart (by omega) x hg)))
                            rw [hi]
                            clear hi hg
                            go_wp2_with fail
                            refine HP.out.mono ?_
                            rintro e w6 ⟨rfl, hW⟩
                            have H6 := Lib.hid hW
                            clear hW HP
                            go_wp2_with fail
                            all_goals
                              go_meet
                              case rel => exact ⟨T, told, live, gone, V, by omega, by omega, HMM.out, H6.out.mono (by omega)⟩
                          · rw [atOf_not hg]
                            have hl : x ∈ live := ((HMM.out x).1 HT.out).resolve_right hg
                            have HP := Lib.hid (cw_push HS.out hl HX.out)
                            clear hg hl
                            go_wp2_with fail
                            refine HP.out.mono ?_
                            rintro e w6 ⟨rfl, hW⟩
                            have H6 := Lib.hid hW
                            clear hW HP
                            have HSR := Lib.hid (fun o => src_owned (Owned.mod (H6.out.first : Owned .u64 _ _ u5 T) ((Mod.refl (fun _ => False) _).alloc o) (fun _ _ h => h)))
                            go_wp2_with (at_builtin; refine walk_append (zero := .int .u64 0) (base := 0) (n := 1) (m := T.length) (xs := [.int .u64 x]) (ys := T.map (Value.int .u64)) rfl _ _ rfl Try.underlying22 info_u64 rfl Nat.zero_lt_one (Nat.le_of_ble_eq_true rfl) rfl (box_own (blk_at rfl)) rfl (HSR.out _) (ints_one .u64 _) hTb (Nat.zero_le _) ?_)
                            intro v9 w9 hA9
                            have H7 := Lib.hid (H6.out.prepend hA9)
                            clear hA9 H6 HSR
                            go_wp2_with fail
                            all_goals
                              go_meet
                              case rel => exact ⟨x :: T, told, live, gone, V, by omega, by omega, HMM.out, H7.out.mono (by omega)⟩
                      · have HP := Lib.hid (cw_push_no HS.out hxr.1 hxr.2 (.inr (fun h => ht ((HMM.out x).2 (.inl h)))))
                        rw [atOf_not ht]
                        clear ht
                        go_wp2_with fail
                        refine HP.out.mono ?_
                        rintro e w5 ⟨rfl, hW⟩
                        have H5 := Lib.hid hW
                        clear hW HP
                        go_wp2_with fail
                        all_goals
                          go_meet
                          case rel => exact ⟨T, told, live, gone, V, by omega, by omega, HMM.out, H5.out.mono (by omega)⟩
                  · have e0 : (kd == 0) = false := by simpa using g0
                    have e1 : (kd == 1) = false := by simpa using g1
                    have e2 : (kd == 2) = false := by simpa using g2
                    have e3 : (kd == 3) = false := by simpa using g3
                    have e4 : (kd == 4) = false := by simpa using g4
                    go_wp2_with fail
                    all_goals
                      go_meet
                      case rel => exact ⟨T, told, live, gone, V, by omega, by omega, HMM.out, HS.out.mono (by omega)⟩
              case rest =>
                as_aux_lemma =>
                  clear f0 f1 f2 mn HMM HTR HS HAW
                  obtain ⟨T', told', live', gone', V', htl', hgl', hmem', hW⟩ := hcut
                  have HMM := Lib.hid hmem'
                  obtain ⟨wa, wcap, hwv, hwn, hwm⟩ : ∃ a cap, u5 = .slice a T'.length cap ∧ (a = none → T'.length = 0) ∧ (∀ g, a = some g → g = ⟨g.block, 0, none⟩) := by
                    obtain ⟨a, cap, h, _, h2, h3⟩ := Owned.form (hW.first : Owned .u64 _ _ u5 T')
                    exact ⟨a, cap, h, fun e => (h2 e).1, fun g e => (h3 g e).1⟩
                  subst hwv
                  have H := Lib.hid hW
                  have hTl : T'.length ≤ 30 := hW.len.1
                  clear hW hmem'
                  have hhead : (T'.length = 0 ∧ T'.getD 0 0 = 0) ∨ (0 < T'.length ∧ ∃ g, wa = some ⟨g, 0, none⟩) := by
                    by_cases h0 : T'.length = 0
                    · exact .inl ⟨h0, by rw [List.length_eq_zero_iff.1 h0]; rfl⟩
                    · refine .inr ⟨by omega, ?_⟩
                      cases wa with
                      | none => exact absurd (hwn rfl) h0
                      | some g => exact ⟨g.block, by rw [← hwm g rfl]⟩
                  clear hwn hwm
                  go_upto_if 178 with fail
                  go_cut [15] (fun s15 wx => s15 = .int .u64 (T'.getD 0 0) ∧ wx = wc)
                  case first =>
                    as_aux_lemma =>
                      rcases hhead with ⟨h0, h1⟩ | ⟨h0, g, rfl⟩
                      · have hd : decide (0 < T'.length) = false := decide_eq_false (by omega)
                        go_wp2_with fail
                        all_goals
                          go_meet
                          case rel => exact ⟨by rw [h1], rfl⟩
                      · have hd : decide (0 < T'.length) = true := decide_eq_true h0
                        have cz := Owned.at_ (H.out.first : Owned .u64 _ _ _ T') h0
                        have hgl := (H.out.first : Owned .u64 _ _ _ T').lt g rfl
                        generalize T'.getD 0 0 = z0 at *
                        go_wp2_with fail
                        all_goals
                          go_meet
                          case rel => exact ⟨rfl, rfl⟩
                  case rest =>
                    as_aux_lemma =>
                      obtain ⟨rfl, rfl⟩ := hcut
                      clear hhead
                      go_wp2_with fail
                      refine (cw_links H.out).mono ?_
                      rintro e w8 ⟨a8, c8, rfl, hW⟩
                      have HSM := Lib.hid (rows_same _ _ _ w8 hW.first hW.swap.first (by omega))
                      have H8 := Lib.hid hW.drop
                      clear hW H
                      go_wp2_with fail
                      refine HSM.out.mono ?_
                      rintro e w9 ⟨rfl, b9⟩
                      have H9 := Lib.hid (H8.out.later b9)
                      clear b9 H8 HSM
                      go_wp2_with fail
                      refine (cw_len H9.out).mono ?_
                      rintro e w10 ⟨rfl, hW⟩
                      have H10 := Lib.hid hW
                      clear hW H9
                      go_wp2_with fail
                      refine (cw_head H10.out).mono ?_
                      rintro e w11 ⟨rfl, hW⟩
                      have H11 := Lib.hid hW
                      clear hW H10
                      go_wp2_with fail
                      go_roundg (60 - (k + 1))
                      case rel => exact ⟨k + 1, by omega, by omega, by omega, by go_num, T', told', live', gone', V', htl', hgl', HMM.out, H11.out⟩
                      case measure => omega
    · have hd : decide (k < len) = false ∨ (decide (k < len) = true ∧ decide ((k : Int) < 60) = false) := by simp; omega
      clear hlt
      rcases hd with hd | ⟨hd, hd2⟩
      all_goals
        go_wp2_with fail
        go_ret
        exact ⟨rfl, HW.out.bel⟩

end Go.Proofs.Ytjojbfgppgnmjaa
