/- BondPlays holds: who waits for whom, who ends well and who badly, is as the document says. No condition. -/
import Derived.Test.YtbihfjehlbaahaaJZ
import Derived.Deep.CutRange
import Derived.Deep.CutBlock
import Derived.Deep.DeepCutAuto
import Derived.Deep.RegionHeld3
namespace Go.Proofs.Ytbihfjehlbaahaa
open Go.RowKit Go.ChangeShapes

section
variable {w0 w w' : World} {b c k g : Nat} {L M : List Ob} {s : Bs} {r : RS} {A B : Value} {T : TypeId}
theorem Sep.any {o : Ob} (h : Sep w0 w M) (ho : o ∈ M) : o.P w := (h.each o ho).1
/-- The cells of what is played. -/
def Fld (g : Nat) (A B : Value) (w : World) : Prop := w.cell? ⟨g, 1, none⟩ = some A ∧ w.cell? ⟨g, 2, none⟩ = some B
theorem fld_of {K : Value} (h : w.heap[g]? = some (.cells #[K, A, B] T (0, 0))) : Fld g A B w := ⟨by rw [blk_cell h]; simp, by rw [blk_cell h]; simp⟩
variable {K : Value}
theorem Duo.fld (h : Duo w0 b c [obAt g (.cells #[K, A, B] T (0, 0))] s r w) : Fld g A B w := by
  obtain ⟨F, G, h⟩ := h
  exact fld_of (h.any (o := obAt g (.cells #[K, A, B] T (0, 0))) (by simp))
theorem Duo1.fld {v : Value} {l : List Int} (h : Duo1 w0 b c [obAt g (.cells #[K, A, B] T (0, 0))] s r v l w) : Fld g A B w := by
  obtain ⟨F, G, h⟩ := h
  exact fld_of (h.any (o := obAt g (.cells #[K, A, B] T (0, 0))) (by simp))
theorem Duo2.fld {v v2 : Value} {l m : List Int} (h : Duo2 w0 b c [obAt g (.cells #[K, A, B] T (0, 0))] s r v l v2 m w) : Fld g A B w := by
  obtain ⟨F, G, h⟩ := h
  exact fld_of (h.any (o := obAt g (.cells #[K, A, B] T (0, 0))) (by simp))
theorem Pair.fld (h : Pair w0 b c [obAt g (.cells #[K, A, B] T (0, 0))] k w) : Fld g A B w := by
  obtain ⟨s, r, _, _, h⟩ := h
  exact h.fld
theorem Pair2.fld {v v2 : Value} (h : Pair2 w0 b c [obAt g (.cells #[K, A, B] T (0, 0))] k v v2 w) : Fld g A B w := by
  obtain ⟨s, r, l, _, _, h⟩ := h
  exact h.fld
theorem Pair.drop {o : Ob} (h : Pair w0 b c [o] k w) : Pair w0 b c [] k w := by
  obtain ⟨s, r, ha, hk, F, G, h⟩ := h
  exact ⟨s, r, ha, hk, F, G, h.bring3.tail⟩
theorem Pair.below (h : Pair w0 b c L k w) (hb : Below w.heap.size w w') : Pair w0 b c L k w' := by
  obtain ⟨s, r, ha, hk, h⟩ := h
  exact ⟨s, r, ha, hk, h.below hb⟩
theorem Pair.more (h : Pair w0 b c L k w) : Pair w0 b c L (k + 1) w := by
  obtain ⟨s, r, ha, hk, h⟩ := h
  exact ⟨s, r, ha, by omega, h⟩
theorem Pair.box (h : Pair w0 b c [] k w) (o : Obj) : Pair w0 b c [obAt w.heap.size o] k (w.alloc o) := by
  obtain ⟨s, r, ha, hk, F, G, h⟩ := h
  have h2 := h.new (A := obAt w.heap.size o) ((Below.refl _ _).alloc (Nat.le_refl _) _) (blk_new _ _) (fun _ hk => Nat.le_of_eq hk.symm)
  exact ⟨s, r, ha, hk, F, G, h2.perm ((List.Perm.swap _ _ _).trans ((List.Perm.swap _ _ _).cons _))⟩
theorem pair_new {F : Nat → Prop} (h : Sep w0 w [obBonds b F Bs.new]) : Pair w0 b w.heap.size [] 0 (w.alloc (.cells #[.slice none 0 0, .slice none 0 0, .slice none 0 0, .slice none 0 0] 48 (0, 0))) := by
  refine ⟨Bs.new, ⟨[], [], [], []⟩, Alike.new, by simp, F, RM.F w.heap.size (.slice none 0 0) (.slice none 0 0) (.slice none 0 0) (.slice none 0 0), ?_⟩
  have h2 := h.new (A := obRef w.heap.size (RM.F w.heap.size (.slice none 0 0) (.slice none 0 0) (.slice none 0 0) (.slice none 0 0)) ⟨[], [], [], []⟩) (w' := w.alloc (.cells #[.slice none 0 0, .slice none 0 0, .slice none 0 0, .slice none 0 0] 48 (0, 0))) ((Below.refl _ _).alloc (Nat.le_refl _) _) ?_ ?_
  · exact h2.swap
  · refine ⟨_, _, _, _, fun _ => Iff.rfl, { top := blk_new _ _, oi := Owned.nil _ _ _, os := Owned.nil _ _ _, of := Owned.nil _ _ _, ot := Owned.nil _ _ _, ok := new_rok, ci := ?_, cs := ?_, cf := ?_, ct := ?_, si := ?_, fi := ?_, ti := ?_, fs := ?_, ts := ?_, tf := ?_ }⟩ <;> simp [Value.ownBlock]
  · intro g hg
    rcases hg with rfl | e | e | e | e
    · exact Nat.le_refl _
    all_goals simp [Value.ownBlock] at e
end

/-- The document's bonds, their rows by name. -/
def obRV (c : Nat) (iv sv fv tv : Value) (r : RS) : Ob := ⟨RM.F c iv sv fv tv, fun w => RM w c iv sv fv tv r, fun _ h => RefAt.within (F := RM.F c iv sv fv tv) (r := r) ⟨iv, sv, fv, tv, fun _ => Iff.rfl, h⟩, fun _ _ _ h hm ha => h.mod hm (fun g hg => ha g hg)⟩
section
variable {w0 w w' : World} {b c : Nat} {L : List Ob} {F : Nat → Prop} {s : Bs} {r : RS} {iv sv fv tv : Value}
theorem Duo.named (h : Duo w0 b c L s r w) : ∃ F iv sv fv tv, Sep w0 w (obBonds b F s :: obRV c iv sv fv tv r :: L) := by
  obtain ⟨F, G, h⟩ := h
  obtain ⟨iv, sv, fv, tv, hG, hR⟩ := (h.second : RefAt w c G r)
  exact ⟨F, iv, sv, fv, tv, (h.swap.step (A' := obRV c iv sv fv tv r) hR (Mod.refl _ _) (fun g hg => .inl ((hG g).2 hg))).swap⟩
theorem rv_pstate (h : Sep w0 w (obBonds b F s :: L)) (ha : Alike s r) {x : Int} (hw : (Lit.int .i64 x).wf = true) : Calls Try.prog 24 #[.pointer (some ⟨b, 0, none⟩), .int .i64 x] w fun e w' => e = .returned (.int .i64 (r.stOf x)) ∧ Sep w0 w' (obBonds b F s :: L) :=
  (bs_state h hw).mono fun _ _ ⟨he, hw⟩ => ⟨by rw [he, ha.stOf], hw ▸ h⟩
theorem rv_rfor {v : Value} {l : List Int} (h : Sep w0 w (obRead v l :: obBonds b F s :: obRV c iv sv fv tv r :: L)) (ha : Alike s r) (hs : s.ok) (x : Int) (hl : l = s.forOf x) : Calls Try.prog 30 #[.pointer (some ⟨c, 0, none⟩), .int .i64 x] w fun e w' => ∃ v2, e = .returned v2 ∧ Sep w0 w' (obRow .i64 3 v2 l :: obRead v l :: obBonds b F s :: obRV c iv sv fv tv r :: L) := by
  refine (rb_for (h.third : RM w c iv sv fv tv r) x).mono fun _ _ ⟨v2, m, he, hO, hri, hb, hn⟩ => ?_
  have e : l = m := hl.trans ((ha.forOf hs x).eq hri (fun _ => Iff.rfl))
  exact ⟨v2, he, h.new (A := obRow .i64 3 v2 l) hb (e ▸ hO) hn⟩
theorem rv_same {v1 v2 : Value} {l : List Int} (h : Sep w0 w (obRow .i64 3 v2 l :: obRead v1 l :: L)) : Calls Try.prog 21 #[v1, v2] w fun e w' => e = .returned (.bool true) ∧ Sep w0 w' L :=
  (same_ints h.second (Owned.row h.head)).mono fun _ _ ⟨he, hb⟩ => ⟨by rw [he, decide_eq_true rfl], (h.below hb).tail.tail⟩
end

set_option maxRecDepth 100000 in
set_option maxHeartbeats 12800000 in
theorem bondPlays_walk {av : Option Addr} {len cap : Nat} {l : List Op3} {w : World} (hlen : l.length = len) (hr : OpAt w (.slice av len cap) l) (hwf : ∀ i, (l.getD i op0).wf) :
    Calls Try.prog 8 #[.slice av len cap] w fun e w' => e = .returned (.bool true) ∧ Below w.heap.size w w' := by
  have HM := Lib.hid (bs_new (Sep.nil w))
  have HR' := Lib.hid hr
  have HWF := Lib.hid hwf
  clear hr hwf
  go_enter Try.func8, Try.ntmps8
  go_wp2_with fail
  refine HM.out.mono ?_
  rintro e w1 ⟨b, F, rfl, hW⟩
  have H1 := Lib.hid (pair_new hW)
  clear hW HM
  go_wp2_with fail
  refine (awake16_any _).mono ?_
  rintro e w2 ⟨rfl, b2⟩
  have H2 := Lib.hid (H1.out.below b2)
  clear b2 H1
  obtain ⟨c, hc⟩ : ∃ c, w1.heap.size = c := ⟨_, rfl⟩
  rw [hc] at H2 ⊢
  clear hc
  go_wp2_with fail
  go_loopg [5] 60 (fun kx iv wr => ∃ (i : Nat), iv = .int .i64 (i : Int) ∧ i ≤ len ∧ i ≤ 60 ∧ 60 - i ≤ kx ∧ Hid (Pair w b c [] i wr))
  case atStart => exact ⟨0, rfl, Nat.zero_le _, Nat.zero_le _, by omega, H2⟩
  case round =>
    obtain ⟨i, rfl, hi, hi2, hix, HW⟩ := hrel
    clear H2
    have q0 : (0 : Int) ≤ (i : Int) := by omega
    by_cases hlt : i < len ∧ i < 60
    · obtain ⟨hlt1, hlt2⟩ := hlt
      have q1 : (i : Int) < (len : Int) := by omega
      have q2 : (i : Int) < 60 := by omega
      rcases HR'.out with ⟨h0, _⟩ | ⟨b', off, cap', hv, _, hbl, hc⟩
      · rw [hlen] at h0
        omega
      obtain ⟨z0, z1, z2⟩ := hc i (by rw [hlen]; exact hlt1)
      obtain ⟨sx, rx, _, _, Fx, Gx, hsx⟩ := HW.out
      have c0 := (hsx.bel.cell (p := ⟨b', off + i * 3, none⟩) hbl).trans z0
      have c1 := (hsx.bel.cell (p := ⟨b', off + i * 3 + 1, none⟩) hbl).trans z1
      have c2 := (hsx.bel.cell (p := ⟨b', off + i * 3 + 2, none⟩) hbl).trans z2
      rw [hlen] at hv
      simp only [Value.slice.injEq] at hv
      obtain ⟨rfl, _, rfl⟩ := hv
      have hw := HWF.out i
      clear hc z0 z1 z2 hsx
      generalize l.getD i op0 = o at *
      obtain ⟨kd, A, B⟩ := o
      obtain ⟨wf0, wfA, wfB⟩ := hw
      simp only at c0 c1 c2 wfA wfB
      clear wf0
      have HWA := Lib.hid wfA
      have HWB := Lib.hid wfB
      clear wfA wfB
      have HP := Lib.hid (HW.out.box (.cells #[.int .i64 kd, .int .i64 A, .int .i64 B] 50 (0, 0)))
      clear HW
      go_upto_block 2 with fail
      generalize hW0 : wr.alloc (.cells #[.int .i64 kd, .int .i64 A, .int .i64 B] 50 (0, 0)) = W0 at *
      generalize hgg : wr.heap.size = g at *
      have f0 : W0.cell? ⟨g, 0, none⟩ = some (.int .i64 kd) := by rw [← hW0, ← hgg, blk_cell (blk_new _ _)]; simp
      clear hW0 hgg c0 c1 c2
      go_cut [] (fun wx => Pair w b c [obAt g (.cells #[.int .i64 kd, .int .i64 A, .int .i64 B] 50 (0, 0))] (i + 1) wx)
      case first =>
        obtain ⟨s, r, ha, hk, hD⟩ := HP.out
        have HD := Lib.hid hD
        have HF := Lib.hid hD.fld
        have HA := Lib.hid ha
        have hs := hD.ok.1
        have HS := Lib.hid hs
        have hk2 : i < 100000 := by omega
        by_cases k0 : kd = 0
        · have e0 : (kd == 0) = true := by simp [k0]
          have HC1 := Lib.hid (fun W (h : Duo w b c [obAt g (.cells #[.int .i64 kd, .int .i64 A, .int .i64 B] 50 (0, 0))] s r W) => duo_popen h HWA.out)
          have HC2 := Lib.hid (fun W (h : Duo w b c [obAt g (.cells #[.int .i64 kd, .int .i64 A, .int .i64 B] 50 (0, 0))] (if s.openE A = 0 then s.open_ A else s) r W) => duo_ropen h ha hs rfl hk)
          clear hD hs ha k0 hk f0
          go_upto_region 11 with fail
          go_region_held3 (fun W => W.cell? ⟨g, 1, none⟩ = some (.int .i64 A) ∧ W.cell? ⟨g, 2, none⟩ = some (.int .i64 B))
            (first | exact Duo.fld (by assumption) | exact Pair.fld (by assumption) | exact Duo.fld (Duo.drew HD.out))
            (first | ((with_reducible refine (HC1.out _ ?_).mono ?_); (first | assumption | exact Duo.drew HD.out | exact HD.out); rintro e w2 ⟨rfl, hg2⟩) | ((with_reducible refine (HC2.out _ ?_).mono ?_); (first | assumption); rintro e w2 ⟨rfl, hg2⟩))
          all_goals
            have HG2 := Lib.hid hg2
            clear hg2
            go_wp2_with fail
            go_meet
            exact HG2.out
        · have e0 : (kd == 0) = false := by simpa using k0
          by_cases k1 : kd = 1
          · have e1 : (kd == 1) = true := by simp [k1]
            have HC1 := Lib.hid (fun W (h : Duo w b c [obAt g (.cells #[.int .i64 kd, .int .i64 A, .int .i64 B] 50 (0, 0))] s r W) => duo_pbind h HWA.out HWB.out)
            have HC2 := Lib.hid (fun W n s2 (h : Duo w b c [obAt g (.cells #[.int .i64 kd, .int .i64 A, .int .i64 B] 50 (0, 0))] s2 r W) (hb : BindTo s A B n s2) => duo_rbind h ha hs hb hk hk2)
            clear hD hs ha k1 hk k0
            go_upto_region 14 with fail
            go_region_held3 (fun W => W.cell? ⟨g, 1, none⟩ = some (.int .i64 A) ∧ W.cell? ⟨g, 2, none⟩ = some (.int .i64 B))
              (first | exact Duo.fld (by assumption) | exact Pair.fld (by assumption) | exact Duo.fld (Duo.drew HD.out))
              (first | ((with_reducible refine (HC1.out _ ?_).mono ?_); (first | assumption | exact Duo.drew HD.out | exact HD.out); rintro e w2 ⟨n, s2, rfl, hbt, hg2⟩) | ((with_reducible refine (HC2.out _ _ _ ?_ hbt).mono ?_); (first | assumption); rintro e w2 ⟨rfl, hg3⟩))
            all_goals
              have HG3 := Lib.hid hg3
              clear hg3 hg2 hbt
              go_wp2_with fail
              go_meet
              exact HG3.out
          · have e1 : (kd == 1) = false := by simpa using k1
            by_cases k2 : kd = 2
            · have e2 : (kd == 2) = true := by simp [k2]
              have HC1 := Lib.hid (duo_pgood HD.out HWA.out)
              have HC2 := Lib.hid (fun W n v l s2 (h : Duo1 w b c [obAt g (.cells #[.int .i64 kd, .int .i64 A, .int .i64 B] 50 (0, 0))] s2 r v l W) (hb : GoodTo s A n l s2) => duo1_rgood h ha hs hb hk)
              obtain ⟨d1, d2⟩ := HF.out
              clear hD hs ha k2 hk
              go_wp2_with fail
              clear d1 d2
              refine HC1.out.mono ?_
              rintro e w2 ⟨v, n, l1, s2, rfl, hgt, hg2⟩
              have HC3 := Lib.hid (HC2.out _ _ _ _ _ hg2 hgt)
              obtain ⟨d1, d2⟩ := hg2.fld
              clear hg2 hgt HC1 HC2
              go_wp2_with fail
              refine HC3.out.mono ?_
              rintro e w3 ⟨v2, rfl, hg3⟩
              have HC4 := Lib.hid (pair2_same hg3)
              clear hg3 HC3 d1 d2
              go_wp2_with fail
              refine HC4.out.mono ?_
              rintro e w4 ⟨rfl, hg4⟩
              have HG4 := Lib.hid hg4.more
              clear hg4 HC4
              go_wp2_with fail
              go_meet
              exact HG4.out
            · have e2 : (kd == 2) = false := by simpa using k2
              by_cases k3 : kd = 3
              · have e3 : (kd == 3) = true := by simp [k3]
                have HC1 := Lib.hid (duo_pbad HD.out HWA.out)
                have HC2 := Lib.hid (fun W n v l s2 (h : Duo1 w b c [obAt g (.cells #[.int .i64 kd, .int .i64 A, .int .i64 B] 50 (0, 0))] s2 r v l W) (hb : BadTo s A n l s2) => duo1_rbad h ha hs hb hk)
                obtain ⟨d1, d2⟩ := HF.out
                clear hD hs ha k3 hk
                go_wp2_with fail
                clear d1 d2
                refine HC1.out.mono ?_
                rintro e w2 ⟨v, n, l1, s2, rfl, hgt, hg2⟩
                have HC3 := Lib.hid (HC2.out _ _ _ _ _ hg2 hgt)
                obtain ⟨d1, d2⟩ := hg2.fld
                clear hg2 hgt HC1 HC2
                go_wp2_with fail
                refine HC3.out.mono ?_
                rintro e w3 ⟨v2, rfl, hg3⟩
                have HC4 := Lib.hid (pair2_same hg3)
                clear hg3 HC3 d1 d2
                go_wp2_with fail
                refine HC4.out.mono ?_
                rintro e w4 ⟨rfl, hg4⟩
                have HG4 := Lib.hid hg4.more
                clear hg4 HC4
                go_wp2_with fail
                go_meet
                exact HG4.out
              · have e3 : (kd == 3) = false := by simpa using k3
                have HG4 := Lib.hid HP.out.more
                clear hD hs ha k0 k1 k2 k3 hk HD HF HA HS
                go_wp2_with fail
                go_meet
                exact HG4.out
      case rest =>
        obtain ⟨s, r, ha, hk, hD⟩ := hcut
        have HD := Lib.hid hD
        have C1 := Lib.hid (fun W (h : Duo w b c [obAt g (.cells #[.int .i64 kd, .int .i64 A, .int .i64 B] 50 (0, 0))] s r W) => duo_pstate h ha HWA.out)
        have C2 := Lib.hid (fun W (h : Duo w b c [obAt g (.cells #[.int .i64 kd, .int .i64 A, .int .i64 B] 50 (0, 0))] s r W) => duo_rstate h A)
        have C3 := Lib.hid (fun W (h : Duo w b c [obAt g (.cells #[.int .i64 kd, .int .i64 A, .int .i64 B] 50 (0, 0))] s r W) => duo_pstate h ha HWB.out)
        have C4 := Lib.hid (fun W (h : Duo w b c [obAt g (.cells #[.int .i64 kd, .int .i64 A, .int .i64 B] 50 (0, 0))] s r W) => duo_rstate h B)
        have C5 := Lib.hid (fun W (h : Duo w b c [obAt g (.cells #[.int .i64 kd, .int .i64 A, .int .i64 B] 50 (0, 0))] s r W) => duo_pwaits h HWA.out)
        have C6 := Lib.hid (fun W (h : Duo w b c [obAt g (.cells #[.int .i64 kd, .int .i64 A, .int .i64 B] 50 (0, 0))] s r W) => duo_rlen h ha A)
        have C7 := Lib.hid (fun W (h : Duo w b c [obAt g (.cells #[.int .i64 kd, .int .i64 A, .int .i64 B] 50 (0, 0))] s r W) => duo_pfor h HWA.out)
        have C8 := Lib.hid (fun W v (h : Duo1 w b c [obAt g (.cells #[.int .i64 kd, .int .i64 A, .int .i64 B] 50 (0, 0))] s r v (s.forOf A) W) => duo1_rfor h ha A rfl)
        have C9 := Lib.hid (fun W v1 v2 (h : Duo2 w b c [obAt g (.cells #[.int .i64 kd, .int .i64 A, .int .i64 B] 50 (0, 0))] s r v1 (s.forOf A) v2 (s.forOf A) W) => duo2_same h)
        have HEND := Lib.hid (fun W (h : Duo w b c [obAt g (.cells #[.int .i64 kd, .int .i64 A, .int .i64 B] 50 (0, 0))] s r W) => (show Pair w b c [] (i + 1) W from Pair.drop ⟨s, r, ha, hk, h⟩))
        clear hD ha hk HP f0
        go_upto_region 26 with fail
        go_region_held3 (fun W => W.cell? ⟨g, 1, none⟩ = some (.int .i64 A) ∧ W.cell? ⟨g, 2, none⟩ = some (.int .i64 B))
          (first | exact Duo.fld (by assumption) | exact Duo1.fld (by assumption) | exact Duo2.fld (by assumption) | exact Duo.fld (Duo.drew HD.out))
          (first
            | ((with_reducible refine (C1.out _ ?_).mono ?_); (first | assumption | exact Duo.drew HD.out | exact HD.out); rintro e w2 ⟨rfl, hg2⟩)
            | ((with_reducible refine (C2.out _ ?_).mono ?_); (first | assumption | exact Duo.drew HD.out | exact HD.out); rintro e w2 ⟨rfl, hg2⟩)
            | ((with_reducible refine (C3.out _ ?_).mono ?_); (first | assumption | exact Duo.drew HD.out | exact HD.out); rintro e w2 ⟨rfl, hg2⟩)
            | ((with_reducible refine (C4.out _ ?_).mono ?_); (first | assumption | exact Duo.drew HD.out | exact HD.out); rintro e w2 ⟨rfl, hg2⟩)
            | ((with_reducible refine (C5.out _ ?_).mono ?_); (first | assumption | exact Duo.drew HD.out | exact HD.out); rintro e w2 ⟨rfl, hg2⟩)
            | ((with_reducible refine (C6.out _ ?_).mono ?_); (first | assumption); rintro e w2 ⟨ra, rc, rfl, hg2⟩)
            | ((with_reducible refine (C7.out _ ?_).mono ?_); (first | assumption); rintro e w2 ⟨v1, rfl, hg3⟩)
            | ((with_reducible refine (C8.out _ _ hg3).mono ?_); rintro e w2 ⟨v2, rfl, hg4⟩)
            | ((with_reducible refine (C9.out _ _ _ hg4).mono ?_); rintro e w2 ⟨rfl, hg5⟩))
        all_goals
          have HG5 := Lib.hid (HEND.out _ hg5)
          clear hg5 hg4 hg3 hg2
          go_wp2_with fail
          go_roundg (60 - (i + 1))
          case rel => exact ⟨i + 1, by go_num, by omega, by omega, by omega, HG5⟩
          case measure => omega
    · have HNL := Lib.hid hlt
      obtain ⟨s, r, ha, hk, hD⟩ := HW.out
      have hs := hD.ok.1
      obtain ⟨F2, iv, sv, fv, tv, hS⟩ := hD.named
      have hR := (hS.second : RM wr c iv sv fv tv r)
      obtain ⟨ia, ic, hiv, i1, -, -⟩ := hR.oi.form
      obtain ⟨sa, sc, hsv, s1, -, -⟩ := hR.os.form
      subst hiv hsv
      have HI := Lib.hid (own_some hR.oi)
      have HSS := Lib.hid (own_some hR.os)
      have HSL := Lib.hid hR.ok.slen
      have HND := Lib.hid hR.ok.nodup
      have hfew := hR.ok.few
      have HA := Lib.hid ha
      have HOK := Lib.hid hs
      have HS := Lib.hid hS
      have hcase : (i : Int) < (len : Int) ∧ ¬ (i : Int) < 60 ∨ ¬ (i : Int) < (len : Int) := by omega
      clear hR hS hD ha hs hk HW hlt
      rcases hcase with ⟨q1, q2⟩ | q1
      · go_wp2_with fail
        go_loopg [15, 16] r.ids.length (fun kx jv _ wx => ∃ (j : Nat), jv = .int .i64 (j : Int) ∧ j ≤ r.ids.length ∧ r.ids.length - j ≤ kx ∧ Hid (Sep w wx [obBonds b F2 s, obRV c (.slice ia r.ids.length ic) (.slice sa r.st.length sc) fv tv r]))
        case atStart => exact ⟨0, rfl, Nat.zero_le _, by omega, HS⟩
        case round =>
          obtain ⟨j, rfl, hj, hjx, HJ⟩ := hrel
          clear HS q1 q2
          have hR := (HJ.out.second : RM wr c (.slice ia r.ids.length ic) (.slice sa r.st.length sc) fv tv r)
          obtain ⟨c0, c1, -, -⟩ := hR.cells
          have q3 : (0 : Int) ≤ (j : Int) := by omega
          by_cases hjl : j < r.ids.length
          · have q4 : (j : Int) < (r.ids.length : Int) := by omega
            have hjs : j < r.st.length := by rw [HSL.out]; exact hjl
            have q5 : (j : Int) < (r.st.length : Int) := by omega
            obtain ⟨gi, rfl⟩ := HI.out j hjl
            obtain ⟨sg, rfl⟩ := HSS.out j hjs
            have d0 := hR.oi.at_ hjl
            have hls : r.stOf (r.ids.getD j 0) = r.st.getD j 0 := lookS_at HND.out HSL.out hjl rfl
            have HCE := Lib.hid (fun W (h : Sep w W [obBonds b F2 s, obRV c (.slice (some ⟨gi, 0, none⟩) r.ids.length ic) (.slice (some ⟨sg, 0, none⟩) r.st.length sc) fv tv r]) => (show W.cell? ⟨c, 1, none⟩ = some (.slice (some ⟨sg, 0, none⟩) r.st.length sc) ∧ W.cell? ⟨sg, j, none⟩ = some (.int .i64 (r.stOf (r.ids.getD j 0))) from
              ⟨((h.second : RM W c _ _ _ _ r).cells).2.1, by rw [hls]; exact (h.second : RM W c _ _ _ _ r).os.at_ hjs⟩))
            have hwf : (Lit.int .i64 (r.ids.getD j 0)).wf = true := by
              have hin : r.ids.getD j 0 ∈ s.ids := by rw [HA.out.ids]; exact get_mem hjl
              have := HOK.out.pos _ hin
              exact wf_int (by omega) (by omega)
            have HWX := Lib.hid hwf
            clear hls hwf hR
            generalize r.ids.getD j 0 = x at *
            have C1 := Lib.hid (fun W (h : Sep w W [obBonds b F2 s, obRV c (.slice (some ⟨gi, 0, none⟩) r.ids.length ic) (.slice (some ⟨sg, 0, none⟩) r.st.length sc) fv tv r]) => rv_pstate h HA.out HWX.out)
            have C2 := Lib.hid (fun W (h : Sep w W [obBonds b F2 s, obRV c (.slice (some ⟨gi, 0, none⟩) r.ids.length ic) (.slice (some ⟨sg, 0, none⟩) r.st.length sc) fv tv r]) => bs_for h HWX.out)
            have C3 := Lib.hid (fun W v (h : Sep w W [obRead v (s.forOf x), obBonds b F2 s, obRV c (.slice (some ⟨gi, 0, none⟩) r.ids.length ic) (.slice (some ⟨sg, 0, none⟩) r.st.length sc) fv tv r]) => rv_rfor h HA.out HOK.out x rfl)
            have C4 := Lib.hid (fun W v1 v2 (h : Sep w W [obRow .i64 3 v2 (s.forOf x), obRead v1 (s.forOf x), obBonds b F2 s, obRV c (.slice (some ⟨gi, 0, none⟩) r.ids.length ic) (.slice (some ⟨sg, 0, none⟩) r.st.length sc) fv tv r]) => rv_same h)
            go_upto_region 32 with fail
            clear c0 c1 d0
            go_region_held3 (fun W => W.cell? ⟨c, 1, none⟩ = some (.slice (some ⟨sg, 0, none⟩) r.st.length sc) ∧ W.cell? ⟨sg, j, none⟩ = some (.int .i64 (r.stOf x)))
              (first | exact HCE.out _ (HJ.out.below (Below.refl _ _).drew) | exact HCE.out _ (by assumption) | exact HCE.out _ (Sep.tail (by assumption)) | exact HCE.out _ (Sep.tail (Sep.tail (by assumption))))
              (first
                | ((with_reducible refine (C1.out _ ?_).mono ?_); (first | assumption | exact HJ.out.below (Below.refl _ _).drew | exact HJ.out); rintro e w2 ⟨rfl, hg2⟩)
                | ((with_reducible refine (C2.out _ ?_).mono ?_); (first | assumption); rintro e w2 ⟨v1, rfl, hg3⟩)
                | ((with_reducible refine (C3.out _ _ hg3).mono ?_); rintro e w2 ⟨v2, rfl, hg4⟩)
                | ((with_reducible refine (C4.out _ _ _ hg4).mono ?_); rintro e w2 ⟨rfl, hg5⟩))
            all_goals
              have HG5 := Lib.hid hg5
              clear hg5 hg4 hg3 hg2
              go_wp2_with fail
              go_roundg (r.ids.length - (j + 1))
              case rel => exact ⟨j + 1, by go_num, by omega, by omega, HG5⟩
              case measure => omega
          · have hbel := HJ.out.bel
            have HBL := Lib.hid hbel
            clear hbel hR
            go_wp2_with fail
            go_ret
            exact ⟨rfl, HBL.out⟩
      · go_wp2_with fail
        go_loopg [15, 16] r.ids.length (fun kx jv _ wx => ∃ (j : Nat), jv = .int .i64 (j : Int) ∧ j ≤ r.ids.length ∧ r.ids.length - j ≤ kx ∧ Hid (Sep w wx [obBonds b F2 s, obRV c (.slice ia r.ids.length ic) (.slice sa r.st.length sc) fv tv r]))
        case atStart => exact ⟨0, rfl, Nat.zero_le _, by omega, HS⟩
        case round =>
          obtain ⟨j, rfl, hj, hjx, HJ⟩ := hrel
          clear HS q1
          have hR := (HJ.out.second : RM wr c (.slice ia r.ids.length ic) (.slice sa r.st.length sc) fv tv r)
          obtain ⟨c0, c1, -, -⟩ := hR.cells
          have q3 : (0 : Int) ≤ (j : Int) := by omega
          by_cases hjl : j < r.ids.length
          · have q4 : (j : Int) < (r.ids.length : Int) := by omega
            have hjs : j < r.st.length := by rw [HSL.out]; exact hjl
            have q5 : (j : Int) < (r.st.length : Int) := by omega
            obtain ⟨gi, rfl⟩ := HI.out j hjl
            obtain ⟨sg, rfl⟩ := HSS.out j hjs
            have d0 := hR.oi.at_ hjl
            have hls : r.stOf (r.ids.getD j 0) = r.st.getD j 0 := lookS_at HND.out HSL.out hjl rfl
            have HCE := Lib.hid (fun W (h : Sep w W [obBonds b F2 s, obRV c (.slice (some ⟨gi, 0, none⟩) r.ids.length ic) (.slice (some ⟨sg, 0, none⟩) r.st.length sc) fv tv r]) => (show W.cell? ⟨c, 1, none⟩ = some (.slice (some ⟨sg, 0, none⟩) r.st.length sc) ∧ W.cell? ⟨sg, j, none⟩ = some (.int .i64 (r.stOf (r.ids.getD j 0))) from
              ⟨((h.second : RM W c _ _ _ _ r).cells).2.1, by rw [hls]; exact (h.second : RM W c _ _ _ _ r).os.at_ hjs⟩))
            have hwf : (Lit.int .i64 (r.ids.getD j 0)).wf = true := by
              have hin : r.ids.getD j 0 ∈ s.ids := by rw [HA.out.ids]; exact get_mem hjl
              have := HOK.out.pos _ hin
              exact wf_int (by omega) (by omega)
            have HWX := Lib.hid hwf
            clear hls hwf hR
            generalize r.ids.getD j 0 = x at *
            have C1 := Lib.hid (fun W (h : Sep w W [obBonds b F2 s, obRV c (.slice (some ⟨gi, 0, none⟩) r.ids.length ic) (.slice (some ⟨sg, 0, none⟩) r.st.length sc) fv tv r]) => rv_pstate h HA.out HWX.out)
            have C2 := Lib.hid (fun W (h : Sep w W [obBonds b F2 s, obRV c (.slice (some ⟨gi, 0, none⟩) r.ids.length ic) (.slice (some ⟨sg, 0, none⟩) r.st.length sc) fv tv r]) => bs_for h HWX.out)
            have C3 := Lib.hid (fun W v (h : Sep w W [obRead v (s.forOf x), obBonds b F2 s, obRV c (.slice (some ⟨gi, 0, none⟩) r.ids.length ic) (.slice (some ⟨sg, 0, none⟩) r.st.length sc) fv tv r]) => rv_rfor h HA.out HOK.out x rfl)
            have C4 := Lib.hid (fun W v1 v2 (h : Sep w W [obRow .i64 3 v2 (s.forOf x), obRead v1 (s.forOf x), obBonds b F2 s, obRV c (.slice (some ⟨gi, 0, none⟩) r.ids.length ic) (.slice (some ⟨sg, 0, none⟩) r.st.length sc) fv tv r]) => rv_same h)
            go_upto_region 32 with fail
            clear c0 c1 d0
            go_region_held3 (fun W => W.cell? ⟨c, 1, none⟩ = some (.slice (some ⟨sg, 0, none⟩) r.st.length sc) ∧ W.cell? ⟨sg, j, none⟩ = some (.int .i64 (r.stOf x)))
              (first | exact HCE.out _ (HJ.out.below (Below.refl _ _).drew) | exact HCE.out _ (by assumption) | exact HCE.out _ (Sep.tail (by assumption)) | exact HCE.out _ (Sep.tail (Sep.tail (by assumption))))
              (first
                | ((with_reducible refine (C1.out _ ?_).mono ?_); (first | assumption | exact HJ.out.below (Below.refl _ _).drew | exact HJ.out); rintro e w2 ⟨rfl, hg2⟩)
                | ((with_reducible refine (C2.out _ ?_).mono ?_); (first | assumption); rintro e w2 ⟨v1, rfl, hg3⟩)
                | ((with_reducible refine (C3.out _ _ hg3).mono ?_); rintro e w2 ⟨v2, rfl, hg4⟩)
                | ((with_reducible refine (C4.out _ _ _ hg4).mono ?_); rintro e w2 ⟨rfl, hg5⟩))
            all_goals
              have HG5 := Lib.hid hg5
              clear hg5 hg4 hg3 hg2
              go_wp2_with fail
              go_roundg (r.ids.length - (j + 1))
              case rel => exact ⟨j + 1, by go_num, by omega, by omega, HG5⟩
              case measure => omega
          · have hbel := HJ.out.bel
            have HBL := Lib.hid hbel
            clear hbel hR
            go_wp2_with fail
            go_ret
            exact ⟨rfl, HBL.out⟩
end Go.Proofs.Ytbihfjehlbaahaa
