/- HashPlays holds: keys lead to chains of their own, in the buckets that the document says; a key whose chain has a version is not dropped. No condition. -/
import Derived.Test.YtoidmakaijkglaaGreatHY
import Derived.Test.YtoidmakaijkglaaGreatF9
import Derived.Deep.CutRange
import Derived.Deep.CutBlock
import Derived.Deep.DeepCutAuto
namespace Go.Proofs.YtoidmakaijkglaaGreat
open Go.RowKit Go.ChangeShapes
def obOp (g : Nat) (kd x : Int) : Ob := obBlk g #[.int .i64 kd, .int .i64 x] 49
/-- What a turn leaves. -/
def PSO (wi : World) (xb sb ab n g1 g2 i : Nat) (pv : Value) (P : List Ob) (wr : World) : Prop :=
  ∃ (K : List Nat) (C : Nat → Nat) (L : Nat → List Int) (live : List Int), live.length ≤ i ∧ HW wi xb sb ab 100 n live K C L (P ++ [obInts g2 (lenI L) 47, obBools g1 (thereB K) 46, obRow .i64 3 pv (asI K)]) wr
def PS10 (wi : World) (xb sb ab n g1 g2 i : Nat) (pv : Value) (wr : World) : Prop := PSO wi xb sb ab n g1 g2 i pv [] wr
def Way10 (K : List Nat) (C : Nat → Nat) (x : Int) (inb isb : Bool) (cv : Value) : Prop :=
  ((x < 0 ∨ 63 < x) ∧ inb = false ∧ isb = false ∧ cv = .pointer none ∧ (∀ k ∈ K, (k : Int) ≠ x)) ∨
  (∃ k : Nat, x = (k : Int) ∧ k < 64 ∧ inb = true ∧ ((k ∉ K ∧ isb = false ∧ cv = .pointer none) ∨ (k ∈ K ∧ isb = true ∧ cv = .pointer (some ⟨C k, 0, none⟩))))
theorem way_of {K : List Nat} (C : Nat → Nat) (hl : ∀ k ∈ K, k < 64) (x : Int) : Way10 K C x (decide (0 ≤ x ∧ x ≤ 63)) (decide (x ∈ asI K)) (cOf C K x) := by
  by_cases hx : 0 ≤ x ∧ x ≤ 63
  · obtain ⟨k, rfl⟩ : ∃ k : Nat, x = (k : Int) := ⟨x.toNat, by omega⟩
    refine .inr ⟨k, rfl, by omega, decide_eq_true hx, ?_⟩
    unfold cOf
    by_cases hk : k ∈ K
    · rw [decide_eq_true (mem_asI_nat.2 hk), if_pos (mem_asI_nat.2 hk)]
      exact .inr ⟨hk, rfl, rfl⟩
    · rw [decide_eq_false (fun h => hk (mem_asI_nat.1 h)), if_neg (fun h => hk (mem_asI_nat.1 h))]
      exact .inl ⟨hk, rfl, rfl⟩
  · have hno : x ∉ asI K := fun h => by
      obtain ⟨k, hk, rfl⟩ := mem_asI.1 h
      have := hl k hk
      omega
    refine .inl ⟨by omega, decide_eq_false hx, decide_eq_false hno, ?_, fun k hk e => hno (mem_asI.2 ⟨k, hk, e⟩)⟩
    unfold cOf
    rw [if_neg hno]
theorem below_drewN2 {B : Nat} {a w : World} (h : Below B a w) (n : Nat) : Below B a (w.drewN n) := ⟨h.os, h.tape, h.output, h.size, h.block⟩
section
variable {w0 W : World} {xb sb ab N n g g2 : Nat} {live : List Int} {K : List Nat} {C : Nat → Nat} {L : Nat → List Int} {M : List Ob} {kd x : Int}
theorem HW.op_cells (h : HW w0 xb sb ab N n live K C L (obOp g kd x :: M) W) : W.cell? ⟨g, 0, none⟩ = some (.int .i64 kd) ∧ W.cell? ⟨g, 1, none⟩ = some (.int .i64 x) := by
  have h1 : W.heap[g]? = some (.cells #[.int .i64 kd, .int .i64 x] 49 (0, 0)) := h.first
  exact ⟨(blk_cell h1 0).trans rfl, (blk_cell h1 1).trans rfl⟩
theorem HW.len_cell {L' : Nat → List Int} {k : Nat} (h : HW w0 xb sb ab N n live K C L' (obOp g kd x :: obInts g2 (lenI L) 47 :: M) W) (hk : k < 64) : W.cell? ⟨g2, k, none⟩ = some (.int .i64 (L k).length) := by
  have h1 : W.heap[g2]? = some (.cells (intCells (lenI L)) 47 (0, 0)) := h.drop.first
  have h2 := blk_cell h1 k
  rw [ic_at (by rw [lenI_len]; exact hk), lenI_at hk] at h2
  exact h2
theorem HW.fld {k : Nat} (hk : k < 64) (h : HW w0 xb sb ab N n live K C L (obOp g kd (k : Int) :: obInts g2 (lenI L) 47 :: M) W) : W.cell? ⟨g, 1, none⟩ = some (.int .i64 k) ∧ W.cell? ⟨g2, k, none⟩ = some (.int .i64 (L k).length) := ⟨h.op_cells.2, h.len_cell hk⟩
theorem HW.row_nil (h : HW w0 xb sb ab N n live K C L M W) (kd : IntKind) (E : TypeId) : HW w0 xb sb ab N n live K C L (obRow kd E (.slice none 0 0) [] :: M) W := h.add (fun _ h => h.row_nil kd E)
end
theorem updC_self {α : Type} (C : Nat → α) (k : Nat) : updC C k (C k) = C := by
  funext x
  unfold updC
  split
  · rename_i e; rw [e]
  · rfl
theorem updC_updC {α : Type} (C : Nat → α) (k : Nat) (a b : α) : updC (updC C k a) k b = updC C k b := by
  funext x
  unfold updC
  split <;> rfl
theorem p2 {a b c d e f : Ob} : [a, b, c, d, e, f].Perm [c, d, a, b, e, f] := (List.perm_append_comm (l₁ := [a, b]) (l₂ := [c, d])).append_right [e, f]
theorem p5 {a b c d e : Ob} : [a, b, c, d, e].Perm [e, a, b, c, d] := List.perm_append_comm (l₁ := [a, b, c, d]) (l₂ := [e])
theorem p4 {a b c d : Ob} : [a, b, c, d].Perm [b, c, d, a] := List.perm_append_comm (l₁ := [a]) (l₂ := [b, c, d])
theorem pf {a b c d : Ob} : [a, b, c, d].Perm [c, a, b, d] := (List.perm_append_comm (l₁ := [a, b]) (l₂ := [c])).append_right [d]
theorem pr {a b c d : Ob} : [a, b, c, d].Perm [d, a, b, c] := List.perm_append_comm (l₁ := [a, b, c]) (l₂ := [d])
set_option maxRecDepth 100000 in
set_option maxHeartbeats 16000000 in
theorem hashPlays_walk {a0 : Int} {av : Option Addr} {len cap : Nat} {l : List Op2} {w : World} (_w0 : (Lit.int .i64 a0).wf = true) (hlen : l.length = len) (hr : OpAt w (.slice av len cap) l) (_hwf : ∀ i, (l.getD i op0).wf) :
    Calls Tryz.prog 4 #[.int .i64 a0, .slice av len cap] w fun e w' => e = .returned (.bool true) ∧ Below w.heap.size w w' := by
  subst hlen
  have HST := Lib.hid (store_new 100 w (by decide) (by decide))
  have HR := Lib.hid hr
  have HAW := Lib.hid awake10_any
  clear hr _w0
  by_cases hb : a0 < 1 ∨ 64 < a0
  · have HNO := Lib.hid (fun s W => hx_new_no s a0 W (.inr hb))
    go_enter Tryz.func4, Tryz.ntmps4
    go_wp2_with fail
    refine HST.out.mono ?_
    rintro e w1 ⟨sb, Fs, rfl, p1, B1, f1⟩
    have HB1 := Lib.hid B1
    clear p1 B1 f1 HST
    go_wp2_with fail
    refine (HNO.out _ _).mono ?_
    rintro e w2 ⟨rfl, rfl⟩
    rcases hb with hb | hb
    · go_wp2_with fail
      refine (HAW.out w1).mono ?_
      rintro e w3 ⟨rfl, h3⟩
      have HB2 := Lib.hid (bl_next HB1 h3)
      clear h3
      go_wp2_with fail
      go_ret
      exact ⟨rfl, HB2.out⟩
    · have hb1 : ¬ a0 < 1 := by omega
      go_wp2_with fail
      refine (HAW.out w1).mono ?_
      rintro e w3 ⟨rfl, h3⟩
      have HB2 := Lib.hid (bl_next HB1 h3)
      clear h3
      go_wp2_with fail
      go_ret
      exact ⟨rfl, HB2.out⟩
  · obtain ⟨n, rfl⟩ : ∃ n : Nat, a0 = (n : Int) := ⟨a0.toNat, by omega⟩
    have n1 : 1 ≤ n := by omega
    have n2 : n ≤ 64 := by omega
    have hb1 : ¬ (n : Int) < 1 := by omega
    have hb2 : ¬ (64 : Int) < (n : Int) := by omega
    go_enter Tryz.func4, Tryz.ntmps4
    go_wp2_with fail
    refine HST.out.mono ?_
    rintro e w1 ⟨sb, Fs, rfl, p1, B1, f1⟩
    have S1 := Lib.hid ((Sep.nil w).new (A := obStore sb Fs (RS.new 100)) B1 p1 f1)
    clear p1 B1 f1 HST
    have HNX := Lib.hid (hx_new S1.out sb (n := n) n1 n2)
    clear S1
    go_wp2_with fail
    refine HNX.out.mono ?_
    rintro e w2 ⟨xb, ab, Fa, rfl, h2, -⟩
    have H2 := Lib.hid (hw_new h2 (by decide) (by decide) (fun _ => 0))
    clear h2 HNX hb
    go_wp2_with fail
    refine (HAW.out w2).mono ?_
    rintro e w3 ⟨rfl, b3⟩
    have h3 := (((H2.out.later b3).add (fun Q hS => hS.row_nil .i64 3)).add (fun Q hS => hS.bools 64 46)).add (fun Q hS => hS.ints 64 47)
    have h4 : PS10 w xb sb ab n w3.heap.size (w3.heap.size + 1) 0 (.slice none 0 0) ((w3.alloc (.cells (boolCells (List.replicate 64 false)) 46)).alloc (.cells (intCells (List.replicate 64 0)) 47)) := ⟨[], fun _ => 0, fun _ => [], [], Nat.le_refl _, by
      rw [thereB_nil, lenI_nil]
      have e : (w3.alloc (.cells (boolCells (List.replicate 64 false)) 46)).heap.size = w3.heap.size + 1 := by simp
      rw [e] at h3
      exact h3⟩
    have H4 := Lib.hid h4
    clear b3 H2 h3 h4
    generalize hg : w3.heap.size = g1 at H4
    go_wp2_with fail
    clear hg
    go_loopg [11, 12] 80 (fun kx pv iv wx => ∃ i : Nat, iv = .int .i64 i ∧ i ≤ 80 ∧ 80 - i ≤ kx ∧ Hid (PS10 w xb sb ab n g1 (g1 + 1) i pv wx))
    case atStart => exact ⟨0, rfl, Nat.zero_le _, Nat.le_refl _, H4⟩
    case round =>
      obtain ⟨i, rfl, hi, hix, HP⟩ := hrel
      clear H4
      obtain ⟨K, C, L, live, hlv, hW⟩ := HP.out
      have HLV := Lib.hid hlv
      have HBL := Lib.hid hW.bel
      have i0 : (0 : Int) ≤ (i : Int) := by omega
      clear hlv
      obtain ⟨ra, rc, rfl, hr1, hr2, hr3⟩ := (hW.swap.drop.swap.first : Owned .i64 3 wr _ _).form
      clear hr1 hr2 hr3
      by_cases hin : i < l.length ∧ i < 80
      · obtain ⟨hin1, hin2⟩ := hin
        have i1 : (i : Int) < (l.length : Int) := by omega
        have i2 : (i : Int) < 80 := by omega
        have iw : IntKind.i64.wrap ((i : Int) + 1) = (i : Int) + 1 := IntWalk.i64_in _ (by omega)
        rcases HR.out with ⟨h0, _⟩ | ⟨b', off, cap', hv, _, hbl, hc⟩
        · omega
        obtain ⟨z0, z1⟩ := hc i hin1
        have c0 := (hW.bel.cell (p := ⟨b', off + i * 2, none⟩) hbl).trans z0
        have c1 := (hW.bel.cell (p := ⟨b', off + i * 2 + 1, none⟩) hbl).trans z1
        simp only [Value.slice.injEq] at hv
        obtain ⟨rfl, _, rfl⟩ := hv
        clear hc z0 z1
        generalize (l.getD i op0).kind = kd at *
        generalize (l.getD i op0).at_ = x at *
        have hs := hW.add (fun Q hS => hS.new (A := obOp wr.heap.size kd x) (bl_alloc2 (Below.refl _ _) (.cells #[.int .i64 kd, .int .i64 x] 49 (0, 0))) (blk_new _ _) (fun k hk => Nat.le_of_eq hk.symm))
        have HS := Lib.hid hs
        clear hs hW
        go_upto_region 16 with fail
        generalize hW0 : wr.alloc (.cells #[.int .i64 kd, .int .i64 x] 49 (0, 0)) = W0 at *
        generalize hgg : wr.heap.size = g at *
        have f0 : W0.cell? ⟨g, 0, none⟩ = some (.int .i64 kd) := by rw [← hW0, ← hgg, blk_cell (blk_new _ _)]; simp
        have f1 : W0.cell? ⟨g, 1, none⟩ = some (.int .i64 x) := by rw [← hW0, ← hgg, blk_cell (blk_new _ _)]; simp
        clear hW0 hgg c0 c1
        go_cut [14] from 85 to 93 (fun s14 wx => ∃ inb : Bool, s14 = .bool inb ∧ Hid (inb = decide (0 ≤ x ∧ x ≤ 63)) ∧ wx = W0)
        case first =>
          as_aux_lemma =>
            by_cases x0 : 0 ≤ x
            · by_cases x1 : x ≤ 63
              · have hd : decide (0 ≤ x ∧ x ≤ 63) = true := by simp [x0, x1]
                go_wp2_with fail
                go_meet
                case rel => exact ⟨_, rfl, Lib.hid hd.symm, rfl⟩
              · have hd : decide (0 ≤ x ∧ x ≤ 63) = false := by simp [x1]
                go_wp2_with fail
                go_meet
                case rel => exact ⟨_, rfl, Lib.hid hd.symm, rfl⟩
            · have hd : decide (0 ≤ x ∧ x ≤ 63) = false := by simp [x0]
              go_wp2_with fail
              go_meet
              case rel => exact ⟨_, rfl, Lib.hid hd.symm, rfl⟩
        case rest =>
        obtain ⟨inb, rfl, HIN, rfl⟩ := hcut
        obtain ⟨W0, rfl⟩ : ∃ x, x = wc := ⟨_, rfl⟩
        go_upto_region 17 with fail
        go_cut [15] from 93 to 100 (fun s15 wx => ∃ isb : Bool, s15 = .bool isb ∧ Hid (isb = decide (x ∈ asI K)) ∧ wx = W0)
        case first =>
          as_aux_lemma =>
            have hB : W0.heap[g1]? = some (.cells (boolCells (thereB K)) 46 (0, 0)) := HS.out.drop.swap.first
            rcases way_of C HS.out.facts.2.1 x with ⟨_, e1, e2, _, _⟩ | ⟨k, rfl, hk, e1, _⟩
            · obtain rfl : inb = false := by rw [HIN.out, e1]
              go_wp2_with fail
              go_meet
              case rel => exact ⟨_, rfl, Lib.hid e2.symm, rfl⟩
            · have hc := blk_cell hB k
              rw [bc_at (by rw [thereB_len]; exact hk), thereB_at hk] at hc
              have hd : decide ((k : Int) ∈ asI K) = decide (k ∈ K) := by simp only [mem_asI_nat]
              have k0 : (0 : Int) ≤ (k : Int) := by omega
              have k1 : (k : Int) < 64 := by omega
              obtain rfl : inb = true := by rw [HIN.out, e1]
              generalize decide (k ∈ K) = q at *
              have HD := Lib.hid hd
              clear hB e1 hd
              go_wp2_with fail
              go_meet
              case rel => exact ⟨_, rfl, Lib.hid HD.out.symm, rfl⟩
        case rest =>
        obtain ⟨isb, rfl, HIS, rfl⟩ := hcut
        obtain ⟨W0, rfl⟩ : ∃ x, x = wc := ⟨_, rfl⟩
        have hfi := hw_find_any HS.out n1 n2 x
        rw [← HIS.out] at hfi
        have HFI := Lib.hid hfi
        clear HS hfi
        go_wp2_with fail
        refine HFI.out.mono ?_
        rintro e w5 ⟨rfl, h5⟩
        have HWAY := Lib.hid (way_of C h5.facts.2.1 x)
        have H5 := Lib.hid h5
        clear h5 HFI f0 f1
        rw [← HIN.out, ← HIS.out] at HWAY
        clear HIN HIS
        generalize cOf C K x = cv at *
        obtain ⟨f0, f1⟩ := H5.out.op_cells
        go_upto_region 19 with fail
        go_cut [127] from 107 to 128 (fun s127 wx => s127 = .bool false ∧ Hid (HW w xb sb ab 100 n live K C L [obOp g kd x, obInts (g1 + 1) (lenI L) 47, obBools g1 (thereB K) 46, obRow .i64 3 (.slice ra (asI K).length rc) (asI K)] wx))
        case first =>
          as_aux_lemma =>
            rcases HWAY.out with ⟨_, rfl, rfl, rfl, _⟩ | ⟨k, rfl, hk, rfl, ⟨hkK, rfl, rfl⟩ | ⟨hkK, rfl, rfl⟩⟩
            · go_wp2_with fail
              go_quiet (fail)
              have HB2 := Lib.hid (H5.out.later (below_drewN2 (Below.refl _ _) nq))
              generalize w5.drewN nq = wq at *
              go_wp2_with fail
              go_meet
              case rel => exact ⟨rfl, HB2⟩
            · go_wp2_with fail
              go_quiet (fail)
              have HB2 := Lib.hid (H5.out.later (below_drewN2 (Below.refl _ _) nq))
              generalize w5.drewN nq = wq at *
              go_wp2_with fail
              go_meet
              case rel => exact ⟨rfl, HB2⟩
            · have HC := Lib.hid (fun W (h : HW w xb sb ab 100 n live K C L [obOp g kd k, obInts (g1 + 1) (lenI L) 47, obBools g1 (thereB K) 46, obRow .i64 3 (.slice ra (asI K).length rc) (asI K)] W) => hw_len h hkK)
              have hnn : (((L k).length : Int) != ((L k).length : Int)) = false := by simp
              have k0 : (0 : Int) ≤ (k : Int) := by omega
              have k1 : (k : Int) < 64 := by omega
              have hD := H5.out
              clear f0 f1
              go_region_held3 (fun W => W.cell? ⟨g, 1, none⟩ = some (.int .i64 k) ∧ W.cell? ⟨g1 + 1, k, none⟩ = some (.int .i64 (L k).length))
                (first | exact HW.fld hk (by assumption) | exact HW.fld hk (HW.drew hD))
                (((with_reducible refine (HC.out _ ?_).mono ?_); (first | assumption | exact HW.drew hD); rintro e w6 ⟨rfl, hg2⟩))
              all_goals
                have HG2 := Lib.hid hg2
                clear hg2
                go_wp2_with fail
                go_meet
                case rel => exact ⟨rfl, HG2⟩
        case rest =>
        obtain ⟨rfl, H6⟩ := hcut
        obtain ⟨w6, rfl⟩ : ∃ x, x = wc := ⟨_, rfl⟩
        obtain ⟨f0, f1⟩ := H6.out.op_cells
        clear H5
        go_upto_block 2 with fail
        go_cut [11, 18, 19, 20, 21, 22, 23, 24] from 128 to 267 (fun s11 s18 s19 s20 s21 s22 s23 s24 wx => PSO w xb sb ab n g1 (g1 + 1) (i + 1) s11 [obOp g kd x] wx)
        case first =>
          as_aux_lemma =>
            by_cases k0 : kd = 0
            · as_aux_lemma =>
                have e0 : (kd == 0) = true := by simp [k0]
                clear k0
                rcases HWAY.out with ⟨hx, rfl, rfl, rfl, _⟩ | ⟨k, rfl, hk, rfl, ⟨hkK, rfl, rfl⟩ | ⟨hkK, rfl, rfl⟩⟩
                · as_aux_lemma =>
                    have HPB := Lib.hid (put_bad (w0 := w6) (w := w6) (xb := xb) x (by omega) rfl)
                    go_wp2_with fail
                    refine HPB.out.mono ?_
                    rintro e w7 ⟨rfl, rfl⟩
                    go_wp2_with fail
                    go_quiet (fail)
                    have HB2 := Lib.hid (H6.out.later (below_drewN2 (Below.refl _ _) nq))
                    generalize w6.drewN nq = wq at *
                    clear HPB
                    go_wp2_with fail
                    go_meet
                    case rel => exact ⟨K, C, L, live, Nat.le_succ_of_le HLV.out, HB2.out⟩
                · as_aux_lemma =>
                    have HPN := Lib.hid (hw_put H6.out n1 n2 hk hkK)
                    have q0 : (0 : Int) ≤ (k : Int) := by omega
                    have q1 : (k : Int) < 64 := by omega
                    go_wp2_with fail
                    refine HPN.out.mono ?_
                    rintro e w7 ⟨cb, rfl, h7⟩
                    have H7 := Lib.hid h7
                    have hcc : updC C k cb k = cb := updC_same _ _ _
                    clear h7 HPN H6
                    generalize updC C k cb = C2 at *
                    obtain ⟨f0, f1⟩ := H7.out.op_cells
                    subst hcc
                    have HC := Lib.hid (fun W (h : HW w xb sb ab 100 n live (K ++ [k]) C2 L [obOp g kd k, obInts (g1 + 1) (lenI L) 47, obBools g1 (thereB K) 46, obRow .i64 3 (.slice ra (asI K).length rc) (asI K)] W) => hw_len (k := k) h (by simp))
                    have hnn : (((L k).length : Int) != ((L k).length : Int)) = false := by simp
                    have hD := H7.out
                    go_upto_region 24 with fail
                    go_cut [168] from 139 to 169 (fun s168 wx => s168 = .bool false ∧ Hid (HW w xb sb ab 100 n live (K ++ [k]) C2 L [obOp g kd k, obInts (g1 + 1) (lenI L) 47, obBools g1 (thereB K) 46, obRow .i64 3 (.slice ra (asI K).length rc) (asI K)] wx))
                    case first =>
                      refine wp_region_held_drew (S := fun W => W.cell? ⟨g, 1, none⟩ = some (.int .i64 k) ∧ W.cell? ⟨g1 + 1, k, none⟩ = some (.int .i64 (L k).length)) (by kernel_rfl) ?_ (fun hHeld => ?_)
                      · exact HW.fld hk (HW.drew hD)
                      refine wpAnyH_take (i := 0) (v := ?_) rfl (by kernel_rfl) (by kernel_rfl) (by kernel_rfl) (fun _ _ _ h => h) (Or.inl ⟨by rfl, ?_⟩) hHeld ?_
                      rotate_left
                      · (intro w hSw; (try dsimp only at hSw); go_simp; try with_reducible rfl)
                      go_simp
                      refine wpAnyH_take (i := 1) (v := ?_) rfl (by kernel_rfl) (by kernel_rfl) (by kernel_rfl) (fun _ _ _ h => h) (Or.inl ⟨by rfl, ?_⟩) hHeld ?_
                      rotate_left
                      · (intro w hSw; (try dsimp only at hSw); go_simp; try with_reducible rfl)
                      go_simp
                      refine wpAnyH_take (i := 2) (v := ?_) rfl (by kernel_rfl) (by kernel_rfl) (by kernel_rfl) (fun _ _ _ h => h) (Or.inl ⟨by rfl, ?_⟩) hHeld ?_
                      rotate_left
                      · (intro w hSw; (try dsimp only at hSw); go_simp; try with_reducible rfl)
                      go_simp
                      refine wpAnyH_take (i := 3) (v := ?_) rfl (by kernel_rfl) (by kernel_rfl) (by kernel_rfl) (fun _ _ _ h => h) (Or.inl ⟨by rfl, ?_⟩) hHeld ?_
                      rotate_left
                      · (intro w hSw; (try dsimp only at hSw); go_simp; try with_reducible rfl)
                      go_simp
                      refine wpAnyH_take (i := 4) (v := ?_) rfl (by kernel_rfl) (by kernel_rfl) (by kernel_rfl) (fun _ _ _ h => h) (Or.inl ⟨by rfl, ?_⟩) hHeld ?_
                      rotate_left
                      · (intro w hSw; (try dsimp only at hSw); go_simp; try with_reducible rfl)
                      go_simp
                      refine wpAnyH_take (i := 5) (v := ?_) rfl (by kernel_rfl) (by kernel_rfl) (by kernel_rfl) (fun _ _ _ h => h) (Or.inl ⟨by rfl, ?_⟩) hHeld ?_
                      rotate_left
                      · (intro w hSw; (try dsimp only at hSw); go_simp; try with_reducible rfl)
                      go_simp
                      refine wpAnyH_take (i := 6) (v := ?_) rfl (by kernel_rfl) (by kernel_rfl) (by kernel_rfl) (fun _ _ _ h => h) (Or.inl ⟨by rfl, ?_⟩) hHeld ?_
                      rotate_left
                      · (intro w hSw; (try dsimp only at hSw); go_simp; try with_reducible rfl)
                      go_simp
                      refine wpAnyH_take (i := 7) (v := ?_) rfl (by kernel_rfl) (by kernel_rfl) (by kernel_rfl) (fun _ _ _ h => h) (Or.inl ⟨by rfl, ?_⟩) hHeld ?_
                      rotate_left
                      · (intro w hSw; (try dsimp only at hSw); go_simp; try with_reducible rfl)
                      go_simp
                      refine wpAnyH_take (i := 8) (v := ?_) rfl (by kernel_rfl) (by kernel_rfl) (by kernel_rfl) (fun _ _ _ h => h) (Or.inl ⟨by rfl, ?_⟩) hHeld ?_
                      rotate_left
                      · (intro w hSw; (try dsimp only at hSw); go_simp; try with_reducible rfl)
                      go_simp
                      refine wpAnyH_take (i := 9) (v := ?_) rfl (by kernel_rfl) (by kernel_rfl) (by kernel_rfl) (fun _ _ _ h => h) (Or.inl ⟨by rfl, ?_⟩) hHeld ?_
                      rotate_left
                      · (intro w hSw; (try dsimp only at hSw); go_simp; try with_reducible rfl)
                      go_simp
                      refine wpAnyH_take (i := 10) (v := ?_) rfl (by kernel_rfl) (by kernel_rfl) (by kernel_rfl) (fun _ _ _ h => h) (Or.inl ⟨by rfl, ?_⟩) hHeld ?_
                      rotate_left
                      · (intro w hSw; (try dsimp only at hSw); go_simp; try with_reducible rfl)
                      go_simp
                      refine wpAnyH_take (i := 11) (v := ?_) rfl (by kernel_rfl) (by kernel_rfl) (by kernel_rfl) (fun _ _ _ h => h) (Or.inl ⟨by rfl, ?_⟩) hHeld ?_
                      rotate_left
                      · (intro w hSw; (try dsimp only at hSw); go_simp; try with_reducible rfl)
                      go_simp
                      refine wpAnyH_take (i := 12) (v := ?_) rfl (by kernel_rfl) (by kernel_rfl) (by kernel_rfl) (fun _ _ _ h => h) (Or.inl ⟨by rfl, ?_⟩) hHeld ?_
                      rotate_left
                      · (intro w hSw; (try dsimp only at hSw); go_simp; try with_reducible rfl)
                      go_simp
                      refine wpAnyH_take (i := 13) (v := ?_) rfl (by kernel_rfl) (by kernel_rfl) (by kernel_rfl) (fun _ _ _ h => h) (Or.inl ⟨by rfl, ?_⟩) hHeld ?_
                      rotate_left
                      · (intro w hSw; (try dsimp only at hSw); go_simp; try with_reducible rfl)
                      go_simp
                      refine wpAnyH_take (i := 14) (v := undef) rfl (by kernel_rfl) (by kernel_rfl) (by kernel_rfl) (fun _ _ _ h => h) (Or.inr ⟨by rfl, rfl⟩) hHeld ?_
                      go_simp
                      refine wpAnyH_take (i := 15) (v := undef) rfl (by kernel_rfl) (by kernel_rfl) (by kernel_rfl) (fun _ _ _ h => h) (Or.inr ⟨by rfl, rfl⟩) hHeld ?_
                      go_simp
                      refine wpAnyH_take (i := 16) (v := ?_) rfl (by kernel_rfl) (by kernel_rfl) (by kernel_rfl) (fun _ _ _ h => h) (Or.inl ⟨by rfl, ?_⟩) hHeld ?_
                      rotate_left
                      · (intro w hSw; (try dsimp only at hSw); go_simp; try with_reducible rfl)
                      go_simp
                      refine wpAnyH_take (i := 17) (v := ?_) rfl (by kernel_rfl) (by kernel_rfl) (by kernel_rfl) (fun _ _ _ h => h) (Or.inl ⟨by rfl, ?_⟩) hHeld ?_
                      rotate_left
                      · (intro w hSw; (try dsimp only at hSw); go_simp; try with_reducible rfl)
                      go_simp
                      refine wpAnyH_take (i := 18) (v := ?_) rfl (by kernel_rfl) (by kernel_rfl) (by kernel_rfl) (fun _ _ _ h => h) (Or.inl ⟨by rfl, ?_⟩) hHeld ?_
                      rotate_left
                      · (intro w hSw; (try dsimp only at hSw); go_simp; try with_reducible rfl)
                      go_simp
                      refine wpAnyH_take (i := 19) (v := ?_) rfl (by kernel_rfl) (by kernel_rfl) (by kernel_rfl) (fun _ _ _ h => h) (Or.inl ⟨by rfl, ?_⟩) hHeld ?_
                      rotate_left
                      · (intro w hSw; (try dsimp only at hSw); go_simp; try with_reducible rfl)
                      go_simp
                      refine wpAnyH_take (i := 20) (v := ?_) rfl (by kernel_rfl) (by kernel_rfl) (by kernel_rfl) (fun _ _ _ h => h) (Or.inl ⟨by rfl, ?_⟩) hHeld ?_
                      rotate_left
                      · (intro w hSw; (try dsimp only at hSw); go_simp; try with_reducible rfl)
                      go_simp
                      refine wpAnyH_take (i := 21) (v := ?_) rfl (by kernel_rfl) (by kernel_rfl) (by kernel_rfl) (fun _ _ _ h => h) (Or.inl ⟨by rfl, ?_⟩) hHeld ?_
                      rotate_left
                      · (intro w hSw; (try dsimp only at hSw); go_simp; try with_reducible rfl)
                      go_simp
                      refine wpAnyH_take (i := 23) (v := ?_) rfl (by kernel_rfl) (by kernel_rfl) (by kernel_rfl) (fun _ _ _ h => h) (Or.inl ⟨by rfl, ?_⟩) hHeld ?_
                      rotate_left
                      · (intro w hSw; (try dsimp only at hSw); go_simp; try with_reducible rfl)
                      go_simp
                      refine wpAnyH_take (i := 24) (v := ?_) rfl (by kernel_rfl) (by kernel_rfl) (by kernel_rfl) (fun _ _ _ h => h) (Or.inl ⟨by rfl, ?_⟩) hHeld ?_
                      rotate_left
                      · (intro w hSw; (try dsimp only at hSw); go_simp; try with_reducible rfl)
                      go_simp
                      refine wpAnyH_take (i := 25) (v := ?_) rfl (by kernel_rfl) (by kernel_rfl) (by kernel_rfl) (fun _ _ _ h => h) (Or.inl ⟨by rfl, ?_⟩) hHeld ?_
                      rotate_left
                      · (intro w hSw; (try dsimp only at hSw); go_simp; try with_reducible rfl)
                      go_simp
                      refine wpAnyH_take (i := 26) (v := ?_) rfl (by kernel_rfl) (by kernel_rfl) (by kernel_rfl) (fun _ _ _ h => h) (Or.inl ⟨by rfl, ?_⟩) hHeld ?_
                      rotate_left
                      · (intro w hSw; (try dsimp only at hSw); go_simp; try with_reducible rfl)
                      go_simp
                      refine wpAnyH_ready (rs := [22]) (by kernel_rfl) (by simp) ?_
                      refine AllReadyH.cons rfl (fun K hK => ?_) AllReadyH.nil
                      go_simp
                      refine (HC.out _ (HW.drew hD)).mono ?_
                      rintro e w8 ⟨rfl, hg2⟩
                      go_wp2_with fail
                      refine hK.out _ _ ?_ (fun hHeld2 => ?_)
                      · exact HW.fld hk hg2
                      clear hK K
                      go_simp
                      refine wpAnyH_take (i := 27) (v := ?_) rfl (by kernel_rfl) (by kernel_rfl) (by kernel_rfl) (fun _ _ _ h => h) (Or.inl ⟨by rfl, ?_⟩) hHeld2 ?_
                      rotate_left
                      · (intro w hSw; (try dsimp only at hSw); go_simp; try with_reducible rfl)
                      go_simp
                      refine wpAnyH_take (i := 28) (v := ?_) rfl (by kernel_rfl) (by kernel_rfl) (by kernel_rfl) (fun _ _ _ h => h) (Or.inl ⟨by rfl, ?_⟩) hHeld2 ?_
                      rotate_left
                      · (intro w hSw; (try dsimp only at hSw); go_simp; try with_reducible rfl)
                      go_simp
                      refine wpAnyH_take (i := 29) (v := ?_) rfl (by kernel_rfl) (by kernel_rfl) (by kernel_rfl) (fun _ _ _ h => h) (Or.inl ⟨by rfl, ?_⟩) hHeld2 ?_
                      rotate_left
                      · (intro w hSw; (try dsimp only at hSw); go_simp; try with_reducible rfl)
                      go_simp
                      refine wpAnyH_done (by kernel_rfl) ?_ _
                      have HG2 := Lib.hid hg2
                      clear hg2
                      go_wp2_with fail
                      go_meet
                      case rel => exact ⟨rfl, HG2⟩
                    case rest =>
                    obtain ⟨rfl, H8⟩ := hcut
                    obtain ⟨w8, rfl⟩ : ∃ x, x = wc := ⟨_, rfl⟩
                    clear H7 HC hD f0 f1
                    have hb := (H8.out.perm pf).turn (fun Q hS => hS.bools_set k true)
                    rw [thereB_put] at hb
                    have h9 := hb.perm pf.symm
                    have f9 := h9.op_cells.2
                    have fB := blk_free (H8.out.drop.drop.first : w8.heap[g1]? = some (.cells (boolCells (thereB K)) 46 (0, 0))) k
                    have cB := blk_cell (H8.out.drop.drop.first : w8.heap[g1]? = some (.cells (boolCells (thereB K)) 46 (0, 0))) k
                    rw [bc_at (by rw [thereB_len]; exact hk)] at cB
                    generalize (thereB K).getD k false = bb at cB
                    obtain ⟨f0, f1⟩ := H8.out.op_cells
                    have H9 := Lib.hid (h9.perm pr)
                    have HLN := Lib.hid (show (asI K).length + 1 ≤ 1099511627776 by
                      have := nodup_small h9.facts.1 (fun j hj => h9.facts.2.1 j hj)
                      simp only [List.length_append, List.length_singleton] at this
                      rw [asI_len]
                      omega)
                    clear hb h9 H8
                    go_wp2_with (at_builtin; refine walk_append (zero := .int .i64 0) (base := 0) (n := (asI K).length) (m := 1) (xs := (asI K).map (Value.int .i64)) (ys := [.int .i64 (k : Int)]) rfl (.tmp 177) (.tmp 180) rfl Tryz.underlying41 info_int' rfl Nat.zero_lt_one (Nat.le_of_ble_eq_true rfl) rfl (World.ownsRow.alloc H9.out.first _) rfl (SrcAt.one (blk_at (by simp))) (ints_one .i64 [_]) HLN.out (Nat.zero_le _) ?_)
                    intro v' w10 hA
                    have h10 := (H9.out.turn (A' := obRow .i64 3 v' (asI K ++ [(k : Int)])) (fun Q hS => hS.append (ys := [(k : Int)]) ((Mod.refl _ _).alloc _) hA rfl rfl)).perm pr.symm
                    rw [← asI_app] at h10
                    have H10 := Lib.hid h10
                    clear hA h10 H9
                    go_wp2_with fail
                    go_meet
                    case rel => exact ⟨K ++ [k], C2, L, live, Nat.le_succ_of_le HLV.out, H10.out⟩
                · as_aux_lemma =>
                    have HPO := Lib.hid (hw_put_old H6.out n1 n2 hkK)
                    have q0 : (0 : Int) ≤ (k : Int) := by omega
                    have q1 : (k : Int) < 64 := by omega
                    go_wp2_with fail
                    refine HPO.out.mono ?_
                    rintro e w7 ⟨rfl, h7⟩
                    have H7 := Lib.hid h7
                    clear h7 HPO H6
                    obtain ⟨f0, f1⟩ := H7.out.op_cells
                    have HC := Lib.hid (fun W (h : HW w xb sb ab 100 n live K C L [obOp g kd k, obInts (g1 + 1) (lenI L) 47, obBools g1 (thereB K) 46, obRow .i64 3 (.slice ra (asI K).length rc) (asI K)] W) => hw_len (k := k) h hkK)
                    have hnn : (((L k).length : Int) != ((L k).length : Int)) = false := by simp
                    have hD := H7.out
                    go_upto_region 24 with fail
                    go_cut [168] from 139 to 169 (fun s168 wx => s168 = .bool false ∧ Hid (HW w xb sb ab 100 n live K C L [obOp g kd k, obInts (g1 + 1) (lenI L) 47, obBools g1 (thereB K) 46, obRow .i64 3 (.slice ra (asI K).length rc) (asI K)] wx))
                    case first =>
                      refine wp_region_held_drew (S := fun W => W.cell? ⟨g, 1, none⟩ = some (.int .i64 k) ∧ W.cell? ⟨g1 + 1, k, none⟩ = some (.int .i64 (L k).length)) (by kernel_rfl) ?_ (fun hHeld => ?_)
                      · exact HW.fld hk (HW.drew hD)
                      refine wpAnyH_take (i := 0) (v := ?_) rfl (by kernel_rfl) (by kernel_rfl) (by kernel_rfl) (fun _ _ _ h => h) (Or.inl ⟨by rfl, ?_⟩) hHeld ?_
                      rotate_left
                      · (intro w hSw; (try dsimp only at hSw); go_simp; try with_reducible rfl)
                      go_simp
                      refine wpAnyH_take (i := 1) (v := ?_) rfl (by kernel_rfl) (by kernel_rfl) (by kernel_rfl) (fun _ _ _ h => h) (Or.inl ⟨by rfl, ?_⟩) hHeld ?_
                      rotate_left
                      · (intro w hSw; (try dsimp only at hSw); go_simp; try with_reducible rfl)
                      go_simp
                      refine wpAnyH_take (i := 2) (v := ?_) rfl (by kernel_rfl) (by kernel_rfl) (by kernel_rfl) (fun _ _ _ h => h) (Or.inl ⟨by rfl, ?_⟩) hHeld ?_
                      rotate_left
                      · (intro w hSw; (try dsimp only at hSw); go_simp; try with_reducible rfl)
                      go_simp
                      refine wpAnyH_take (i := 3) (v := ?_) rfl (by kernel_rfl) (by kernel_rfl) (by kernel_rfl) (fun _ _ _ h => h) (Or.inl ⟨by rfl, ?_⟩) hHeld ?_
                      rotate_left
                      · (intro w hSw; (try dsimp only at hSw); go_simp; try with_reducible rfl)
                      go_simp
                      refine wpAnyH_take (i := 4) (v := ?_) rfl (by kernel_rfl) (by kernel_rfl) (by kernel_rfl) (fun _ _ _ h => h) (Or.inl ⟨by rfl, ?_⟩) hHeld ?_
                      rotate_left
                      · (intro w hSw; (try dsimp only at hSw); go_simp; try with_reducible rfl)
                      go_simp
                      refine wpAnyH_take (i := 5) (v := ?_) rfl (by kernel_rfl) (by kernel_rfl) (by kernel_rfl) (fun _ _ _ h => h) (Or.inl ⟨by rfl, ?_⟩) hHeld ?_
                      rotate_left
                      · (intro w hSw; (try dsimp only at hSw); go_simp; try with_reducible rfl)
                      go_simp
                      refine wpAnyH_take (i := 6) (v := ?_) rfl (by kernel_rfl) (by kernel_rfl) (by kernel_rfl) (fun _ _ _ h => h) (Or.inl ⟨by rfl, ?_⟩) hHeld ?_
                      rotate_left
                      · (intro w hSw; (try dsimp only at hSw); go_simp; try with_reducible rfl)
                      go_simp
                      refine wpAnyH_take (i := 7) (v := ?_) rfl (by kernel_rfl) (by kernel_rfl) (by kernel_rfl) (fun _ _ _ h => h) (Or.inl ⟨by rfl, ?_⟩) hHeld ?_
                      rotate_left
                      · (intro w hSw; (try dsimp only at hSw); go_simp; try with_reducible rfl)
                      go_simp
                      refine wpAnyH_take (i := 8) (v := ?_) rfl (by kernel_rfl) (by kernel_rfl) (by kernel_rfl) (fun _ _ _ h => h) (Or.inl ⟨by rfl, ?_⟩) hHeld ?_
                      rotate_left
                      · (intro w hSw; (try dsimp only at hSw); go_simp; try with_reducible rfl)
                      go_simp
                      refine wpAnyH_take (i := 9) (v := ?_) rfl (by kernel_rfl) (by kernel_rfl) (by kernel_rfl) (fun _ _ _ h => h) (Or.inl ⟨by rfl, ?_⟩) hHeld ?_
                      rotate_left
                      · (intro w hSw; (try dsimp only at hSw); go_simp; try with_reducible rfl)
                      go_simp
                      refine wpAnyH_take (i := 10) (v := ?_) rfl (by kernel_rfl) (by kernel_rfl) (by kernel_rfl) (fun _ _ _ h => h) (Or.inl ⟨by rfl, ?_⟩) hHeld ?_
                      rotate_left
                      · (intro w hSw; (try dsimp only at hSw); go_simp; try with_reducible rfl)
                      go_simp
                      refine wpAnyH_take (i := 11) (v := ?_) rfl (by kernel_rfl) (by kernel_rfl) (by kernel_rfl) (fun _ _ _ h => h) (Or.inl ⟨by rfl, ?_⟩) hHeld ?_
                      rotate_left
                      · (intro w hSw; (try dsimp only at hSw); go_simp; try with_reducible rfl)
                      go_simp
                      refine wpAnyH_take (i := 12) (v := ?_) rfl (by kernel_rfl) (by kernel_rfl) (by kernel_rfl) (fun _ _ _ h => h) (Or.inl ⟨by rfl, ?_⟩) hHeld ?_
                      rotate_left
                      · (intro w hSw; (try dsimp only at hSw); go_simp; try with_reducible rfl)
                      go_simp
                      refine wpAnyH_take (i := 13) (v := ?_) rfl (by kernel_rfl) (by kernel_rfl) (by kernel_rfl) (fun _ _ _ h => h) (Or.inl ⟨by rfl, ?_⟩) hHeld ?_
                      rotate_left
                      · (intro w hSw; (try dsimp only at hSw); go_simp; try with_reducible rfl)
                      go_simp
                      refine wpAnyH_take (i := 14) (v := undef) rfl (by kernel_rfl) (by kernel_rfl) (by kernel_rfl) (fun _ _ _ h => h) (Or.inr ⟨by rfl, rfl⟩) hHeld ?_
                      go_simp
                      refine wpAnyH_take (i := 15) (v := undef) rfl (by kernel_rfl) (by kernel_rfl) (by kernel_rfl) (fun _ _ _ h => h) (Or.inr ⟨by rfl, rfl⟩) hHeld ?_
                      go_simp
                      refine wpAnyH_take (i := 16) (v := ?_) rfl (by kernel_rfl) (by kernel_rfl) (by kernel_rfl) (fun _ _ _ h => h) (Or.inl ⟨by rfl, ?_⟩) hHeld ?_
                      rotate_left
                      · (intro w hSw; (try dsimp only at hSw); go_simp; try with_reducible rfl)
                      go_simp
                      refine wpAnyH_take (i := 17) (v := ?_) rfl (by kernel_rfl) (by kernel_rfl) (by kernel_rfl) (fun _ _ _ h => h) (Or.inl ⟨by rfl, ?_⟩) hHeld ?_
                      rotate_left
                      · (intro w hSw; (try dsimp only at hSw); go_simp; try with_reducible rfl)
                      go_simp
                      refine wpAnyH_take (i := 18) (v := ?_) rfl (by kernel_rfl) (by kernel_rfl) (by kernel_rfl) (fun _ _ _ h => h) (Or.inl ⟨by rfl, ?_⟩) hHeld ?_
                      rotate_left
                      · (intro w hSw; (try dsimp only at hSw); go_simp; try with_reducible rfl)
                      go_simp
                      refine wpAnyH_take (i := 19) (v := ?_) rfl (by kernel_rfl) (by kernel_rfl) (by kernel_rfl) (fun _ _ _ h => h) (Or.inl ⟨by rfl, ?_⟩) hHeld ?_
                      rotate_left
                      · (intro w hSw; (try dsimp only at hSw); go_simp; try with_reducible rfl)
                      go_simp
                      refine wpAnyH_take (i := 20) (v := ?_) rfl (by kernel_rfl) (by kernel_rfl) (by kernel_rfl) (fun _ _ _ h => h) (Or.inl ⟨by rfl, ?_⟩) hHeld ?_
                      rotate_left
                      · (intro w hSw; (try dsimp only at hSw); go_simp; try with_reducible rfl)
                      go_simp
                      refine wpAnyH_take (i := 21) (v := ?_) rfl (by kernel_rfl) (by kernel_rfl) (by kernel_rfl) (fun _ _ _ h => h) (Or.inl ⟨by rfl, ?_⟩) hHeld ?_
                      rotate_left
                      · (intro w hSw; (try dsimp only at hSw); go_simp; try with_reducible rfl)
                      go_simp
                      refine wpAnyH_take (i := 23) (v := ?_) rfl (by kernel_rfl) (by kernel_rfl) (by kernel_rfl) (fun _ _ _ h => h) (Or.inl ⟨by rfl, ?_⟩) hHeld ?_
                      rotate_left
                      · (intro w hSw; (try dsimp only at hSw); go_simp; try with_reducible rfl)
                      go_simp
                      refine wpAnyH_take (i := 24) (v := ?_) rfl (by kernel_rfl) (by kernel_rfl) (by kernel_rfl) (fun _ _ _ h => h) (Or.inl ⟨by rfl, ?_⟩) hHeld ?_
                      rotate_left
                      · (intro w hSw; (try dsimp only at hSw); go_simp; try with_reducible rfl)
                      go_simp
                      refine wpAnyH_take (i := 25) (v := ?_) rfl (by kernel_rfl) (by kernel_rfl) (by kernel_rfl) (fun _ _ _ h => h) (Or.inl ⟨by rfl, ?_⟩) hHeld ?_
                      rotate_left
                      · (intro w hSw; (try dsimp only at hSw); go_simp; try with_reducible rfl)
                      go_simp
                      refine wpAnyH_take (i := 26) (v := ?_) rfl (by kernel_rfl) (by kernel_rfl) (by kernel_rfl) (fun _ _ _ h => h) (Or.inl ⟨by rfl, ?_⟩) hHeld ?_
                      rotate_left
                      · (intro w hSw; (try dsimp only at hSw); go_simp; try with_reducible rfl)
                      go_simp
                      refine wpAnyH_ready (rs := [22]) (by kernel_rfl) (by simp) ?_
                      refine AllReadyH.cons rfl (fun K hK => ?_) AllReadyH.nil
                      go_simp
                      refine (HC.out _ (HW.drew hD)).mono ?_
                      rintro e w8 ⟨rfl, hg2⟩
                      go_wp2_with fail
                      refine hK.out _ _ ?_ (fun hHeld2 => ?_)
                      · exact HW.fld hk hg2
                      clear hK K
                      go_simp
                      refine wpAnyH_take (i := 27) (v := ?_) rfl (by kernel_rfl) (by kernel_rfl) (by kernel_rfl) (fun _ _ _ h => h) (Or.inl ⟨by rfl, ?_⟩) hHeld2 ?_
                      rotate_left
                      · (intro w hSw; (try dsimp only at hSw); go_simp; try with_reducible rfl)
                      go_simp
                      refine wpAnyH_take (i := 28) (v := ?_) rfl (by kernel_rfl) (by kernel_rfl) (by kernel_rfl) (fun _ _ _ h => h) (Or.inl ⟨by rfl, ?_⟩) hHeld2 ?_
                      rotate_left
                      · (intro w hSw; (try dsimp only at hSw); go_simp; try with_reducible rfl)
                      go_simp
                      refine wpAnyH_take (i := 29) (v := ?_) rfl (by kernel_rfl) (by kernel_rfl) (by kernel_rfl) (fun _ _ _ h => h) (Or.inl ⟨by rfl, ?_⟩) hHeld2 ?_
                      rotate_left
                      · (intro w hSw; (try dsimp only at hSw); go_simp; try with_reducible rfl)
                      go_simp
                      refine wpAnyH_done (by kernel_rfl) ?_ _
                      have HG2 := Lib.hid hg2
                      clear hg2
                      go_wp2_with fail
                      go_meet
                      case rel => exact ⟨rfl, HG2⟩
                    case rest =>
                    obtain ⟨rfl, H8⟩ := hcut
                    obtain ⟨w8, rfl⟩ : ∃ x, x = wc := ⟨_, rfl⟩
                    clear H7 HC hD f0 f1
                    go_wp2_with fail
                    go_meet
                    case rel => exact ⟨K, C, L, live, Nat.le_succ_of_le HLV.out, H8.out⟩
            · have e0 : (kd == 0) = false := by simpa using k0
              clear k0
              by_cases k2 : kd = 2
              · as_aux_lemma =>
                  have e2 : (kd == 2) = true := by simp [k2]
                  clear k2
                  rcases HWAY.out with ⟨hx, rfl, rfl, rfl, _⟩ | ⟨k, rfl, hk, rfl, ⟨hkK, rfl, rfl⟩ | ⟨hkK, rfl, rfl⟩⟩
                  · go_wp2_with fail
                    go_roundg (80 - (i + 1))
                    case rel => exact ⟨i + 1, by go_num, by omega, by omega, Lib.hid ⟨K, C, L, live, Nat.le_succ_of_le HLV.out, H6.out.drop⟩⟩
                    case measure => omega
                  · go_wp2_with fail
                    go_roundg (80 - (i + 1))
                    case rel => exact ⟨i + 1, by go_num, by omega, by omega, Lib.hid ⟨K, C, L, live, Nat.le_succ_of_le HLV.out, H6.out.drop⟩⟩
                    case measure => omega
                  · have HSUB := Lib.hid H6.out.facts.2.2.2.1
                    have q0 : (0 : Int) ≤ (k : Int) := by omega
                    have q1 : (k : Int) < 64 := by omega
                    have HMK := Lib.hid (hw_make H6.out (by have := HLV.out; omega) (key := k) (v := 1) (x := 1) (y := 2) (by omega) (by omega) (by omega) (by omega))
                    clear H6
                    go_wp2_with fail
                    refine HMK.out.mono ?_
                    rintro e w7 ⟨z, rfl, hz, h7⟩
                    have HPU := Lib.hid (hw_push h7 hkK (z := z) (by simp) (fun j hj hm => hz (HSUB.out j hj z hm)))
                    clear hz h7 HMK HSUB
                    go_wp2_with fail
                    refine HPU.out.mono ?_
                    rintro e w8 ⟨rfl, h8⟩
                    obtain ⟨f0, f1⟩ := h8.op_cells
                    have cI := h8.len_cell hk
                    have fI := blk_free (h8.drop.first : w8.heap[g1 + 1]? = some (.cells (intCells (lenI L)) 47 (0, 0))) k
                    have hw1 : IntKind.i64.wrap (((L k).length : Int) + 1) = ((L k).length : Int) + 1 := IntWalk.i64_in _ (by
                      have h1 := h8.facts.2.2.2.2.2 k hk
                      rw [updC_same, List.length_cons] at h1
                      omega)
                    have h9 := ((h8.swap.turn (fun Q hS => hS.ints_set k (((z :: L k).length : Nat) : Int))).swap)
                    rw [lenI_set, List.length_cons, Int.natCast_add, Int.natCast_one] at h9
                    have H9 := Lib.hid h9
                    clear h8 h9 HPU
                    generalize (L k).length = len at *
                    go_wp2_with fail
                    go_meet
                    case rel => exact ⟨K, C, updC L k (z :: L k), live ++ [z], by have := HLV.out; simp; omega, H9.out⟩
              · have e2 : (kd == 2) = false := by simpa using k2
                clear k2
                by_cases k3 : kd = 3
                · as_aux_lemma =>
                    have e3 : (kd == 3) = true := by simp [k3]
                    clear k3
                    rcases HWAY.out with ⟨hx, rfl, rfl, rfl, _⟩ | ⟨k, rfl, hk, rfl, ⟨hkK, rfl, rfl⟩ | ⟨hkK, rfl, rfl⟩⟩
                    · go_wp2_with fail
                      go_loopg [] 0 (fun kx wx => Hid (wx = w6))
                      case atStart => exact Lib.hid rfl
                      case round =>
                        obtain rfl := hrel.out
                        go_wp2_with fail
                        go_meet
                        case rel => exact ⟨K, C, L, live, Nat.le_succ_of_le HLV.out, H6.out⟩
                    · go_wp2_with fail
                      go_loopg [] 0 (fun kx wx => Hid (wx = w6))
                      case atStart => exact Lib.hid rfl
                      case round =>
                        obtain rfl := hrel.out
                        go_wp2_with fail
                        go_meet
                        case rel => exact ⟨K, C, L, live, Nat.le_succ_of_le HLV.out, H6.out⟩
                    · have q0 : (0 : Int) ≤ (k : Int) := by omega
                      have q1 : (k : Int) < 64 := by omega
                      go_wp2_with fail
                      go_loopg [] (L k).length (fun kx wx => ∃ r : List Int, r.length ≤ kx ∧ Hid (HW w xb sb ab 100 n live K C (updC L k r) [obOp g kd k, obInts (g1 + 1) (lenI (updC L k r)) 47, obBools g1 (thereB K) 46, obRow .i64 3 (.slice ra (asI K).length rc) (asI K)] wx))
                      case atStart => exact ⟨L k, Nat.le_refl _, by rw [updC_self]; exact H6⟩
                      case round =>
                        obtain ⟨r, hrk, HP⟩ := hrel
                        clear H6 f0 f1
                        obtain ⟨f0, f1⟩ := HP.out.op_cells
                        have cI := HP.out.len_cell hk
                        rw [updC_same] at cI
                        cases r with
                        | nil =>
                          simp only [List.length_nil, Int.natCast_zero] at cI
                          go_wp2_with fail
                          go_meet
                          case rel => exact ⟨K, C, updC L k [], live, Nat.le_succ_of_le HLV.out, HP.out⟩
                        | cons z r =>
                          have hh := hw_head HP.out hkK
                          rw [updC_same, List.getD_cons_zero] at hh
                          have HH := Lib.hid hh
                          have hpos : (0 : Int) < (((z :: r).length : Nat) : Int) := by rw [List.length_cons]; omega
                          clear hh
                          go_wp2_with fail
                          refine HH.out.mono ?_
                          rintro e w7 ⟨rfl, h7⟩
                          have hc := hw_cut h7 hkK (z := z) (r := r) (updC_same _ _ _)
                          rw [updC_updC] at hc
                          have HC := Lib.hid hc
                          clear h7 hc HH
                          go_wp2_with fail
                          refine HC.out.mono ?_
                          rintro e w8 ⟨rfl, h8⟩
                          obtain ⟨f2, f3⟩ := h8.op_cells
                          have cI2 := h8.len_cell hk
                          rw [updC_same] at cI2
                          have fI := blk_free (h8.drop.first : w8.heap[g1 + 1]? = some (.cells (intCells (lenI (updC L k (z :: r)))) 47 (0, 0))) k
                          have h9 := ((h8.swap.turn (fun Q hS => hS.ints_set k ((r.length : Nat) : Int))).swap)
                          rw [lenI_set, updC_updC] at h9
                          have H9 := Lib.hid h9
                          have hle := h8.facts.2.2.2.2.2 k hk
                          rw [updC_same] at hle
                          have hw1 : IntKind.i64.wrap ((((z :: r).length : Nat) : Int) - 1) = ((r.length : Nat) : Int) := by
                            rw [List.length_cons, Int.natCast_add, Int.natCast_one, Int.add_sub_cancel]
                            exact IntWalk.i64_in _ (by omega)
                          clear h8 h9 HC HP hle cI f0 f1
                          have hrk2 : r.length + 1 ≤ gk := hrk
                          clear hrk hpos
                          generalize hzl : (z :: r).length = zl at *
                          clear hzl
                          go_wp2_with fail
                          go_roundg r.length
                          case rel => exact ⟨r, Nat.le_refl _, H9⟩
                          case measure => omega
                · have e3 : (kd == 3) = false := by simpa using k3
                  clear k3
                  by_cases k4 : kd = 4
                  · as_aux_lemma =>
                      have e4 : (kd == 4) = true := by simp [k4]
                      clear k4
                      rcases HWAY.out with ⟨hx, rfl, rfl, rfl, hno⟩ | ⟨k, rfl, hk, rfl, ⟨hkK, rfl, rfl⟩ | ⟨hkK, rfl, rfl⟩⟩
                      · have HD := Lib.hid (hw_drop_no H6.out n1 n2 hno)
                        clear hno H6
                        go_wp2_with fail
                        refine HD.out.mono ?_
                        rintro e w7 ⟨rfl, h7⟩
                        have H7 := Lib.hid h7
                        clear h7 HD
                        go_wp2_with fail
                        go_meet
                        case rel => exact ⟨K, C, L, live, Nat.le_succ_of_le HLV.out, H7.out⟩
                      · have HD := Lib.hid (hw_drop_no H6.out n1 n2 (x := (k : Int)) (fun j hj e => hkK (Int.ofNat.inj e ▸ hj)))
                        clear H6
                        go_wp2_with fail
                        refine HD.out.mono ?_
                        rintro e w7 ⟨rfl, h7⟩
                        have H7 := Lib.hid h7
                        clear h7 HD
                        go_wp2_with fail
                        go_meet
                        case rel => exact ⟨K, C, L, live, Nat.le_succ_of_le HLV.out, H7.out⟩
                      · have q0 : (0 : Int) ≤ (k : Int) := by omega
                        have q1 : (k : Int) < 64 := by omega
                        have cI := H6.out.len_cell hk
                        by_cases hlk : L k = []
                        · as_aux_lemma =>
                            obtain ⟨gr, rfl⟩ := some_of (H6.out.drop.drop.drop.first : Owned .i64 3 w6 (.slice ra (asI K).length rc) (asI K)) (by rw [asI_len]; exact List.length_pos_of_mem hkK)
                            have hKn := nodup_small H6.out.facts.1 H6.out.facts.2.1
                            have hAL := asI_len K
                            have HD := Lib.hid (hw_drop H6.out n1 n2 hkK hlk)
                            rw [hlk] at cI
                            simp only [List.length_nil, Int.natCast_zero] at cI
                            clear H6 hlk
                            have HAL := Lib.hid (And.intro hAL hKn)
                            clear hAL hKn
                            go_wp2_with fail
                            refine HD.out.mono ?_
                            rintro e w7 ⟨rfl, h7⟩
                            obtain ⟨f2, f3⟩ := h7.op_cells
                            have fB := blk_free (h7.drop.drop.first : w7.heap[g1]? = some (.cells (boolCells (thereB K)) 46 (0, 0))) k
                            have cB := blk_cell (h7.drop.drop.first : w7.heap[g1]? = some (.cells (boolCells (thereB K)) 46 (0, 0))) k
                            rw [bc_at (by rw [thereB_len]; exact hk)] at cB
                            generalize (thereB K).getD k false = bb at cB
                            have hb := (h7.perm pf).turn (fun Q hS => hS.bools_set k false)
                            rw [thereB_drop] at hb
                            have h9 := (hb.perm pf.symm).row_nil .i64 3
                            have H9 := Lib.hid h9
                            clear hb h9 h7 HD f0 f1 cI
                            go_wp2_with fail
                            go_loopg [23, 24] K.length (fun kx lv jv wx => ∃ j : Nat, jv = .int .i64 j ∧ j ≤ K.length ∧ K.length - j ≤ kx ∧ Hid (HW w xb sb ab 100 n live (dropK K k) C L [obRow .i64 3 lv (asI (dropK (K.take j) k)), obOp g kd k, obInts (g1 + 1) (lenI L) 47, obBools g1 (thereB (dropK K k)) 46, obRow .i64 3 (.slice (some ⟨gr, 0, none⟩) (asI K).length rc) (asI K)] wx))
                            case atStart => exact ⟨0, rfl, Nat.zero_le _, Nat.le_refl _, H9⟩
                            case round =>
                              obtain ⟨j, rfl, hj, hjx, HP⟩ := hrel
                              clear H9 fB cB f2 f3
                              have j0 : (0 : Int) ≤ (j : Int) := by omega
                              by_cases hlt : j < K.length
                              · have j1 : (j : Int) < ((asI K).length : Int) := by have := HAL.out.1; omega
                                have jw : IntKind.i64.wrap ((j : Int) + 1) = (j : Int) + 1 := IntWalk.i64_in _ (by have := HAL.out.2; omega)
                                obtain ⟨f0, f1⟩ := HP.out.swap.op_cells
                                have cp := Owned.at_ (HP.out.drop.drop.drop.drop.first : Owned .i64 3 wr (.slice (some ⟨gr, 0, none⟩) (asI K).length rc) (asI K)) (i := j) (by rw [HAL.out.1]; exact hlt)
                                rw [asI_at hlt] at cp
                                have HNX := Lib.hid (dropK_take K k j hlt)
                                by_cases hyk : K[j] = k
                                · have hcmp : (((K[j] : Nat) : Int) != (k : Int)) = false := by rw [hyk]; simp
                                  have HN2 := Lib.hid (show dropK (K.take (j + 1)) k = dropK (K.take j) k by rw [HNX.out, if_pos hyk, List.append_nil])
                                  clear HNX hyk
                                  generalize K[j] = y at *
                                  go_wp2_with fail
                                  go_quiet (fail)
                                  have HB2 := Lib.hid (HP.out.later (below_drewN2 (Below.refl _ _) nq))
                                  generalize wr.drewN nq = wq at *
                                  clear HP
                                  go_wp2_with fail
                                  go_roundg (K.length - (j + 1))
                                  case rel => exact ⟨j + 1, by go_num, by omega, by omega, by rw [HN2.out]; exact HB2⟩
                                  case measure => omega
                                · have hcmp : (((K[j] : Nat) : Int) != (k : Int)) = true := by simp; omega
                                  have HN2 := Lib.hid (show asI (dropK (K.take (j + 1)) k) = asI (dropK (K.take j) k) ++ [((K[j] : Nat) : Int)] by rw [HNX.out, if_neg hyk, asI_app])
                                  have HLN := Lib.hid (show (asI (dropK (K.take j) k)).length + 1 ≤ 1099511627776 by
                                    have h1 := List.length_filter_le (fun x => decide (x ≠ k)) (K.take j)
                                    have h2 := HAL.out.2
                                    rw [List.length_take] at h1
                                    rw [asI_len]
                                    unfold dropK
                                    omega)
                                  clear HNX hyk
                                  generalize K[j] = y at *
                                  generalize asI (dropK (K.take j) k) = LL at *
                                  go_wp2_with fail
                                  go_quiet (fail)
                                  have HB2 := Lib.hid (HP.out.later (below_drewN2 (Below.refl _ _) nq))
                                  have cp2 : (wr.drewN nq).cell? ⟨gr, j, none⟩ = some (.int .i64 (y : Int)) := cp
                                  generalize wr.drewN nq = wq at *
                                  clear HP cp f0 f1
                                  go_wp2_with (at_builtin; refine walk_append (zero := .int .i64 0) (base := 0) (n := LL.length) (m := 1) (xs := LL.map (Value.int .i64)) (ys := [.int .i64 (y : Int)]) rfl (.tmp 259) (.tmp 264) rfl Tryz.underlying41 info_int' rfl Nat.zero_lt_one (Nat.le_of_ble_eq_true rfl) rfl (World.ownsRow.alloc HB2.out.first _) rfl (SrcAt.one (blk_at (by simp))) (ints_one .i64 [_]) HLN.out (Nat.zero_le _) ?_)
                                  intro v' w10 hA
                                  have h10 := HB2.out.turn (A' := obRow .i64 3 v' (LL ++ [(y : Int)])) (fun Q hS => hS.append (ys := [(y : Int)]) ((Mod.refl _ _).alloc _) hA rfl rfl)
                                  have H10 := Lib.hid h10
                                  clear hA h10 HB2
                                  go_wp2_with fail
                                  go_roundg (K.length - (j + 1))
                                  case rel => exact ⟨j + 1, by go_num, by omega, by omega, by rw [HN2.out]; exact H10⟩
                                  case measure => omega
                              · have j1 : ¬ (j : Int) < ((asI K).length : Int) := by have := HAL.out.1; omega
                                have hjK : j = K.length := by omega
                                have HE := Lib.hid (show dropK (K.take j) k = dropK K k by rw [hjK, List.take_length])
                                clear hjK
                                go_wp2_with fail
                                go_meet
                                case rel => exact ⟨dropK K k, C, L, live, Nat.le_succ_of_le HLV.out, by rw [← HE.out]; rw [HE.out]; have h := HP.out; rw [HE.out] at h; exact ((h.perm p5).drop).perm p4⟩
                        · have hlp : 0 < (L k).length := List.length_pos_iff.2 hlk
                          have HD := Lib.hid (hw_drop_full H6.out n1 n2 hkK hlp)
                          have hne : (((L k).length : Int) == 0) = false := by simp; omega
                          clear H6 hlk hlp
                          generalize (L k).length = len at *
                          go_wp2_with fail
                          refine HD.out.mono ?_
                          rintro e w7 ⟨rfl, h7⟩
                          have H7 := Lib.hid h7
                          clear h7 HD
                          go_wp2_with fail
                          go_meet
                          case rel => exact ⟨K, C, L, live, Nat.le_succ_of_le HLV.out, H7.out⟩
                  · have e4 : (kd == 4) = false := by simpa using k4
                    clear k4
                    go_wp2_with fail
                    go_meet
                    case rel => exact ⟨K, C, L, live, Nat.le_succ_of_le HLV.out, H6.out⟩
        case rest =>
        as_aux_lemma =>
          obtain ⟨K2, C2, L2, live2, hlv2, hw2⟩ := hcut
          clear H6 HWAY HLV f0 f1 HP
          obtain ⟨w7, rfl⟩ : ∃ x, x = wc := ⟨_, rfl⟩
          obtain ⟨ra2, rc2, hpv, -, -, -⟩ := (hw2.drop.drop.drop.first : Owned .i64 3 w7 _ (asI K2)).form
          subst hpv
          have HK2 := Lib.hid (show K2.length ≤ 64 ∧ (asI K2).length = K2.length ∧ ∀ k ∈ K2, k < 64 from ⟨nodup_small hw2.facts.1 hw2.facts.2.1, asI_len K2, hw2.facts.2.1⟩)
          have HLV2 := Lib.hid hlv2
          have HRF := Lib.hid (fun w q => ref_bucket q n w (by omega) (by omega))
          obtain ⟨f0, f1⟩ := hw2.op_cells
          have H7 := Lib.hid (hw2.row_nil .i64 3)
          clear hlv2 hw2
          go_wp2_with fail
          refine (HRF.out _ _).mono ?_
          rintro e w8 ⟨rfl, rfl⟩
          obtain ⟨b, hb⟩ : ∃ b, b = bktD x n := ⟨_, rfl⟩
          rw [← hb]
          have HB := Lib.hid hb
          clear hb
          go_wp2_with fail
          go_loopg [25, 28] 64 (fun kx kv jv wx => ∃ j : Nat, jv = .int .i64 j ∧ j ≤ 64 ∧ 64 - j ≤ kx ∧ Hid (HW w xb sb ab 100 n live2 K2 C2 L2 [obRow .i64 3 kv (upTo K2 j), obOp g kd x, obInts (g1 + 1) (lenI L2) 47, obBools g1 (thereB K2) 46, obRow .i64 3 (.slice ra2 (asI K2).length rc2) (asI K2)] wx))
          case atStart => exact ⟨0, rfl, Nat.zero_le _, Nat.le_refl _, H7⟩
          case round =>
            obtain ⟨j, rfl, hj, hjx, HP⟩ := hrel
            clear H7 f0 f1
            have j0 : (0 : Int) ≤ (j : Int) := by omega
            by_cases hlt : j < 64
            · as_aux_lemma =>
                have j1 : (j : Int) < 64 := by omega
                have jw : IntKind.i64.wrap ((j : Int) + 1) = (j : Int) + 1 := IntWalk.i64_in _ (by omega)
                have cB := blk_cell (HP.out.drop.drop.drop.first : wr.heap[g1]? = some (.cells (boolCells (thereB K2)) 46 (0, 0))) j
                rw [bc_at (by rw [thereB_len]; exact hlt), thereB_at hlt] at cB
                have HNX := Lib.hid (upTo_next K2 j)
                by_cases hjK : j ∈ K2
                · rw [decide_eq_true hjK] at cB
                  have HN2 := Lib.hid (show upTo K2 (j + 1) = upTo K2 j ++ [(j : Int)] by rw [HNX.out, if_pos hjK])
                  have HLN := Lib.hid (show (upTo K2 j).length + 1 ≤ 1099511627776 by have := upTo_len K2 j; omega)
                  clear HNX hjK
                  generalize upTo K2 j = LL at *
                  go_wp2_with (at_builtin; refine walk_append (zero := .int .i64 0) (base := 0) (n := LL.length) (m := 1) (xs := LL.map (Value.int .i64)) (ys := [.int .i64 (j : Int)]) rfl (.tmp 278) (.tmp 280) rfl Tryz.underlying41 info_int' rfl Nat.zero_lt_one (Nat.le_of_ble_eq_true rfl) rfl (World.ownsRow.alloc HP.out.first _) rfl (SrcAt.one (blk_at (by simp))) (ints_one .i64 [_]) HLN.out (Nat.zero_le _) ?_)
                  intro v' w10 hA
                  have h10 := HP.out.turn (A' := obRow .i64 3 v' (LL ++ [(j : Int)])) (fun Q hS => hS.append (ys := [(j : Int)]) ((Mod.refl _ _).alloc _) hA rfl rfl)
                  have H10 := Lib.hid h10
                  clear hA h10 HP cB
                  go_wp2_with fail
                  go_roundg (64 - (j + 1))
                  case rel => exact ⟨j + 1, by go_num, by omega, by omega, by rw [HN2.out]; exact H10⟩
                  case measure => omega
                · rw [decide_eq_false hjK] at cB
                  have HN2 := Lib.hid (show upTo K2 (j + 1) = upTo K2 j by rw [HNX.out, if_neg hjK, List.append_nil])
                  clear HNX hjK
                  go_wp2_with fail
                  go_roundg (64 - (j + 1))
                  case rel => exact ⟨j + 1, by go_num, by omega, by omega, by rw [HN2.out]; exact HP⟩
                  case measure => omega
            · obtain rfl : j = 64 := by omega
              obtain ⟨mi, hmi⟩ : ∃ mi : Int, mi = ((asI K2).length : Int) - 1 := ⟨_, rfl⟩
              have hmw : IntKind.i64.wrap (((asI K2).length : Int) - 1) = mi := by rw [hmi]; exact IntWalk.i64_in _ (by have := HK2.out; omega)
              have HMI := Lib.hid hmi
              have H9 := Lib.hid (HP.out.row_nil .i64 3)
              clear hmi HP hlt hjx hj j0
              go_wp2_with fail
              clear hmw
              go_loopg [26, 29] K2.length (fun kx nv mv wx => ∃ (m : Nat) (mi : Int), mv = .int .i64 mi ∧ Hid (mi = (m : Int) - 1) ∧ m ≤ K2.length ∧ m ≤ kx ∧ Hid (HW w xb sb ab 100 n live2 K2 C2 L2 [obRow .i64 3 nv (inFrom n K2 b m), obRow .i64 3 u25 (upTo K2 64), obOp g kd x, obInts (g1 + 1) (lenI L2) 47, obBools g1 (thereB K2) 46, obRow .i64 3 (.slice ra2 (asI K2).length rc2) (asI K2)] wx))
              case atStart => exact ⟨K2.length, mi, rfl, Lib.hid (by rw [HMI.out, HK2.out.2.1]), Nat.le_refl _, Nat.le_refl _, by rw [inFrom_end]; exact H9⟩
              case round =>
                obtain ⟨m, mi2, rfl, HM, hm, hmx, HP⟩ := hrel
                clear H9 HMI
                cases m with
                | zero =>
                  as_aux_lemma =>
                    have hmn : ¬ (0 : Int) ≤ mi2 := by have := HM.out; omega
                    have HBU := Lib.hid (bucket_any x n wr (by omega))
                    rw [← HB.out] at HBU
                    have hbb : (b != b) = false := by simp
                    obtain ⟨f0, f1⟩ := (HP.out.perm p2).op_cells
                    clear HM hmx hm
                    go_wp2_with fail
                    refine HBU.out.mono ?_
                    rintro e w9 ⟨rfl, rfl⟩
                    have HKS := Lib.hid (hw_keys HP.out n1 n2)
                    clear HBU HP f0 f1
                    go_wp2_with fail
                    refine HKS.out.mono ?_
                    rintro e w10 ⟨sv, rfl, h10⟩
                    have hsm := same_ints (w := w10) (h10.first : RowAt .i64 w10 sv (upK K2)) (Owned.row (h10.drop.drop.first : Owned .i64 3 w10 _ (upTo K2 64)))
                    rw [decide_eq_true (upTo_all K2).symm] at hsm
                    have HSM := Lib.hid hsm
                    have H10 := Lib.hid h10.drop
                    clear h10 hsm HKS
                    go_wp2_with fail
                    refine HSM.out.mono ?_
                    rintro e w11 ⟨rfl, b11⟩
                    have H11 := Lib.hid (H10.out.later b11)
                    clear b11 H10 HSM
                    by_cases hx : 0 ≤ x ∧ x ≤ 63
                    · have hbe : b = ((bucketOf n x : Nat) : Int) := by
                        rw [HB.out, bucketOf_int n1]
                        unfold bktD
                        rw [if_pos ⟨hx.1, hx.2, by omega, by omega⟩]
                      have hbl2 := bucketOf_lt (key := x) n1
                      have b0 : (0 : Int) ≤ b := by omega
                      have hin := hw_in H11.out n1 n2 hbl2
                      rw [← hbe] at hin
                      have HIN := Lib.hid hin
                      have HBE := Lib.hid hbe
                      clear hin hbe hbl2 H11
                      go_wp2_with fail
                      refine HIN.out.mono ?_
                      rintro e w12 ⟨sv2, rfl, h12⟩
                      have hsm := same_ints (w := w12) (Owned.row (h12.first : Owned .i64 3 w12 sv2 (asI (inB n K2 (bucketOf n x))))) (Owned.row (h12.drop.first : Owned .i64 3 w12 _ (inFrom n K2 b 0)))
                      rw [decide_eq_true (by rw [HBE.out, inFrom_all n n1]; rfl)] at hsm
                      have HSM := Lib.hid hsm
                      have H12 := Lib.hid h12.drop.drop.drop.drop
                      clear h12 hsm HIN
                      go_wp2_with fail
                      refine HSM.out.mono ?_
                      rintro e w13 ⟨rfl, b13⟩
                      have H13 := Lib.hid (H12.out.later b13)
                      clear b13 H12 HSM
                      go_wp2_with fail
                      go_roundg (80 - (i + 1))
                      case rel => exact ⟨i + 1, by go_num, by omega, by omega, Lib.hid ⟨K2, C2, L2, live2, HLV2.out, H13.out⟩⟩
                      case measure => omega
                    · have hbe : b = -1 := by
                        rw [HB.out]
                        unfold bktD
                        rw [if_neg (fun h => hx ⟨h.1, h.2.1⟩)]
                      have b0 : ¬ (0 : Int) ≤ b := by omega
                      have H13 := Lib.hid H11.out.drop.drop.drop
                      clear hbe H11
                      go_wp2_with fail
                      go_roundg (80 - (i + 1))
                      case rel => exact ⟨i + 1, by go_num, by omega, by omega, Lib.hid ⟨K2, C2, L2, live2, HLV2.out, H13.out⟩⟩
                      case measure => omega
                | succ m =>
                  as_aux_lemma =>
                    have hmlt : m < K2.length := hm
                    obtain ⟨gr, rfl⟩ := some_of (HP.out.drop.drop.drop.drop.drop.first : Owned .i64 3 wr (.slice ra2 (asI K2).length rc2) (asI K2)) (by rw [asI_len]; omega)
                    have cp := Owned.at_ (HP.out.drop.drop.drop.drop.drop.first : Owned .i64 3 wr (.slice (some ⟨gr, 0, none⟩) (asI K2).length rc2) (asI K2)) (i := m) (by rw [HK2.out.2.1]; exact hmlt)
                    rw [asI_at hmlt] at cp
                    have hk64 := HK2.out.2.2 K2[m] (List.getElem_mem hmlt)
                    have HNX := Lib.hid (inFrom_next (n := n) (b := b) hmlt)
                    have hrf := HRF.out wr ((K2[m] : Nat) : Int)
                    rw [show bktD ((K2[m] : Nat) : Int) n = bkt ((K2[m] : Nat) : Int) n by unfold bktD; rw [if_pos (by omega)]] at hrf
                    have HRW := Lib.hid hrf
                    have hmi : mi2 = (m : Int) := by have := HM.out; omega
                    subst hmi
                    obtain ⟨mi3, hmi3⟩ : ∃ mi3 : Int, mi3 = (m : Int) - 1 := ⟨_, rfl⟩
                    have hmw : IntKind.i64.wrap ((m : Int) - 1) = mi3 := by rw [hmi3]; exact IntWalk.i64_in _ (by have := HK2.out.1; omega)
                    have HMI3 := Lib.hid hmi3
                    have m0 : (0 : Int) ≤ (m : Int) := by omega
                    have m1 : (m : Int) < ((asI K2).length : Int) := by have := HK2.out.2.1; omega
                    have HLN := Lib.hid (show (inFrom n K2 b (m + 1)).length + 1 ≤ 1099511627776 by have h1 := inFrom_len n K2 b (m + 1); have h2 := HK2.out.1; omega)
                    clear hrf HM hmi3 hk64
                    by_cases hbk : bkt ((K2[m] : Nat) : Int) n = b
                    · have HN2 := Lib.hid (show inFrom n K2 b m = inFrom n K2 b (m + 1) ++ [((K2[m] : Nat) : Int)] by rw [HNX.out, if_pos hbk])
                      rw [hbk] at HRW
                      have hbb : (b == b) = true := by simp
                      clear HNX hbk
                      generalize K2[m] = y at *
                      generalize inFrom n K2 b (m + 1) = LL at *
                      go_wp2_with fail
                      refine HRW.out.mono ?_
                      rintro e w9 ⟨rfl, rfl⟩
                      go_wp2_with (at_builtin; refine walk_append (zero := .int .i64 0) (base := 0) (n := LL.length) (m := 1) (xs := LL.map (Value.int .i64)) (ys := [.int .i64 (y : Int)]) rfl (.tmp 297) (.tmp 302) rfl Tryz.underlying41 info_int' rfl Nat.zero_lt_one (Nat.le_of_ble_eq_true rfl) rfl (World.ownsRow.alloc HP.out.first _) rfl (SrcAt.one (blk_at (by simp))) (ints_one .i64 [_]) HLN.out (Nat.zero_le _) ?_)
                      intro v' w10 hA
                      have h10 := HP.out.turn (A' := obRow .i64 3 v' (LL ++ [(y : Int)])) (fun Q hS => hS.append (ys := [(y : Int)]) ((Mod.refl _ _).alloc _) hA rfl rfl)
                      have H10 := Lib.hid h10
                      clear hA h10 HP cp HRW
                      go_wp2_with fail
                      go_roundg m
                      case rel => exact ⟨m, mi3, rfl, HMI3, by omega, Nat.le_refl _, by rw [HN2.out]; exact H10⟩
                      case measure => omega
                    · have HN2 := Lib.hid (show inFrom n K2 b m = inFrom n K2 b (m + 1) by rw [HNX.out, if_neg hbk, List.append_nil])
                      have hbb : (bkt ((K2[m] : Nat) : Int) n == b) = false := by simpa using hbk
                      clear HNX hbk
                      generalize bkt ((K2[m] : Nat) : Int) n = b2 at *
                      generalize K2[m] = y at *
                      go_wp2_with fail
                      refine HRW.out.mono ?_
                      rintro e w9 ⟨rfl, rfl⟩
                      clear HRW
                      go_wp2_with fail
                      go_roundg m
                      case rel => exact ⟨m, mi3, rfl, HMI3, by omega, Nat.le_refl _, by rw [HN2.out]; exact HP⟩
                      case measure => omega
      · as_aux_lemma =>
          have H6 := Lib.hid (HP.out)
          obtain ⟨K2, C2, L2, live2, -, hw2⟩ := HP.out
          have HA := Lib.hid (hw_in_out hw2 (-1) (.inl (by omega)))
          have HC := Lib.hid (hw_in_out hw2 (n : Int) (.inr (by omega)))
          clear hw2 H6
          by_cases hil : i < l.length
          · have i1 : (i : Int) < (l.length : Int) := by omega
            have i2 : ¬ (i : Int) < 80 := by omega
            go_wp2_with fail
            refine HA.out.mono ?_
            rintro e w9 ⟨rfl, rfl⟩
            go_wp2_with fail
            refine HC.out.mono ?_
            rintro e w10 ⟨rfl, rfl⟩
            go_wp2_with fail
            go_ret
            exact ⟨rfl, HBL.out⟩
          · have i1 : ¬ (i : Int) < (l.length : Int) := by omega
            go_wp2_with fail
            refine HA.out.mono ?_
            rintro e w9 ⟨rfl, rfl⟩
            go_wp2_with fail
            refine HC.out.mono ?_
            rintro e w10 ⟨rfl, rfl⟩
            go_wp2_with fail
            go_ret
            exact ⟨rfl, HBL.out⟩
end Go.Proofs.YtoidmakaijkglaaGreat
