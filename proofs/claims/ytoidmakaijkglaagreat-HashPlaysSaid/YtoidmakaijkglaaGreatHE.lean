/- slices.DeleteFunc of the entry with a key. -/
import Derived.Test.YtoidmakaijkglaaGreatHD
namespace Go.Proofs.YtoidmakaijkglaaGreat
open Go.RowKit
theorem ent_set : ∀ (l : List (Int × Nat)) (i : Nat) (y : Int × Nat), i < l.length → ((entCells l).set (i * 2) (.int .i64 y.1)).set (i * 2 + 1) (.pointer (some ⟨y.2, 0, none⟩)) = entCells (l.set i y)
  | [], i, _, h => absurd h (Nat.not_lt_zero i)
  | x :: r, 0, y, _ => rfl
  | x :: r, i + 1, y, h => by
    have := ent_set r i y (by simpa using h)
    unfold entCells at this ⊢
    rw [List.set_cons_succ, List.flatMap_cons, List.flatMap_cons, ← this, show (i + 1) * 2 = i * 2 + 1 + 1 by omega, show i * 2 + 1 + 1 + 1 = (i * 2 + 1) + 1 + 1 by omega]
    rfl
theorem EntRow.set {w : World} {g n cap i : Nat} {l : List (Int × Nat)} (h : EntRow w (.slice (some ⟨g, 0, none⟩) n cap) l) (hi : i < l.length) (y : Int × Nat) :
    EntRow ((w.setCell ⟨g, i * 2, none⟩ (.int .i64 y.1)).setCell ⟨g, i * 2 + 1, none⟩ (.pointer (some ⟨y.2, 0, none⟩))) (.slice (some ⟨g, 0, none⟩) n cap) (l.set i y) := by
  have hel := entCells_len l
  obtain ⟨hb, h⟩ := h
  rcases h with ⟨hv, -⟩ | ⟨g2, cap2, cur, hv, hg, hh, hnc, hcm, hcs, htk⟩
  · cases hv
  · simp only [Value.slice.injEq, Option.some.injEq, Addr.mk.injEq, and_true] at hv
    obtain ⟨rfl, rfl, rfl⟩ := hv
    have h2 := blk_set (i := i * 2 + 1) (u := .pointer (some ⟨y.2, 0, none⟩)) (blk_set (i := i * 2) (u := .int .i64 y.1) hh)
    refine ⟨by rw [entCells_len], .inr ⟨g, cap, _, by rw [List.length_set], hg, h2, by rw [List.length_set]; exact hnc, hcm, by simpa using hcs, ?_⟩⟩
    rw [Array.toList_setIfInBounds, Array.toList_setIfInBounds, List.length_set, List.take_set, List.take_set, htk, ent_set l i y hi]
theorem EntRow.front {w : World} {g n cap : Nat} {l : List (Int × Nat)} {x : Int × Nat} {u v : Value} (h : EntRow w (.slice (some ⟨g, 0, none⟩) n cap) (l ++ [x])) :
    EntRow (w.setCells g (l.length * 2) [u, v]) (.slice (some ⟨g, 0, none⟩) l.length cap) l := by
  rcases h.form with ⟨hv, _⟩ | ⟨g2, cap2, cur, hv, hb, h2, h3, h4, h5⟩
  · cases hv
  · simp only [Value.slice.injEq, Option.some.injEq, Addr.mk.injEq, and_true] at hv
    obtain ⟨rfl, -, rfl⟩ := hv
    have hl : (l ++ [x]).length = l.length + 1 := by simp
    refine EntRow.of (blk_setCells [u, v] w g (l.length * 2) _ _ hb) (by omega) h3 (by rw [layA_size]; exact h4) (fun j hj => ?_)
    rw [layA_out _ _ _ _ (by omega), h5 _ (by omega)]
    unfold entCells
    rw [List.flatMap_append, List.getElem?_append_left (by have := entCells_len l; unfold entCells at this; omega)]
theorem zero_ent (w : World) : (zeroValue 84).run Tryz.prog w = .ok (.agg #[.int .i64 0, .pointer none]) w := by kernel_rfl
theorem clear_ent {W : World} {g o c : Nat} {cur : Array Value} {E : TypeId} (hb : W.heap[g]? = some (.cells cur E (0, 0))) (hin : o + 2 ≤ cur.size) (ty : TypeId) :
    (Builtin.clear_ #[81] ty #[.slice (some ⟨g, o, none⟩) 1 c]).run Tryz.prog W = .ok (.tuple #[]) (W.setCells g o [.int .i64 0, .pointer none]) := by
  have hzc : (Builtin.zeroCells (Value.agg #[.int .i64 0, .pointer none]).cells 1).toList = [.int .i64 0, .pointer none] := by kernel_rfl
  have hst := run_storeCells_cells (P := Tryz.prog) g o [.int .i64 0, .pointer none] 0 W (fun j hj => by
      simp at hj
      rw [Nat.add_zero, blk_cell hb, Array.getElem?_eq_getElem (by omega)]
      rfl) (fun j hj => blk_free hb _) (by
      intro v hv
      simp only [List.mem_cons, List.not_mem_nil, or_false] at hv
      rcases hv with rfl | rfl <;> rfl)
  simp only [Nat.add_zero] at hst
  simp [Builtin.clear_, run_underlying Tryz.underlying81, hzc, hst]
/-- Behind m steps. -/
def curD (A B : List (Int × Nat)) (x : Int × Nat) (m : Nat) : List (Int × Nat) := A ++ (B.take m ++ (x :: B).drop m)
theorem curD_len {A B : List (Int × Nat)} {x : Int × Nat} {m : Nat} (h : m ≤ B.length) : (curD A B x m).length = A.length + 1 + B.length := by
  unfold curD
  simp
  omega
theorem curD_next {A B : List (Int × Nat)} {x : Int × Nat} {m : Nat} (h : m < B.length) : (curD A B x m).getD (A.length + 1 + m) (0, 0) = B.getD m (0, 0) ∧ (curD A B x m).set (A.length + m) (B.getD m (0, 0)) = curD A B x (m + 1) := by
  have e : (x :: B).drop m = (x :: B)[m]'(by simp; omega) :: B.drop m := by
    rw [List.drop_eq_getElem_cons (by simp; omega), List.drop_succ_cons]
  have e2 : B.drop m = B[m] :: B.drop (m + 1) := List.drop_eq_getElem_cons h
  have g : B.getD m (0, 0) = B[m] := by simp [List.getD_eq_getElem?_getD, h]
  have tl : (B.take m).length = m := by rw [List.length_take]; omega
  constructor
  · unfold curD
    rw [e, e2, g, List.getD_eq_getElem?_getD, List.getElem?_append_right (by omega), List.getElem?_append_right (by omega), tl, show A.length + 1 + m - A.length - m = 1 by omega]
    rfl
  · unfold curD
    rw [g, List.set_append_right _ _ (by omega), show A.length + m - A.length = m by omega, List.set_append_right _ _ (by omega), tl, Nat.sub_self, e, List.set_cons_zero, List.drop_succ_cons, List.take_succ_eq_append_getElem h, List.append_assoc, List.singleton_append]

set_option maxRecDepth 100000 in
set_option maxHeartbeats 3200000 in
theorem delete_at {w : World} {g n cap : Nat} {A B : List (Int × Nat)} {key : Int} {c kb : Nat} (h : EntRow w (.slice (some ⟨g, 0, none⟩) n cap) (A ++ (key, c) :: B)) (hA : ∀ e ∈ A, e.1 ≠ key) (hB : ∀ e ∈ B, e.1 ≠ key) (hl : n ≤ 100000) (hn : n = (A ++ (key, c) :: B).length) (hk : w.cell? ⟨kb, 0, none⟩ = some (.int .i64 key)) (hne : kb ≠ g) :
    Calls Tryz.prog 35 #[.slice (some ⟨g, 0, none⟩) n cap, .func (.func 36) #[] #[.pointer (some ⟨kb, 0, none⟩)]] w fun e w' => e = .returned (.slice (some ⟨g, 0, none⟩) (A ++ B).length cap) ∧ EntRow w' (.slice (some ⟨g, 0, none⟩) (A ++ B).length cap) (A ++ B) ∧ Mod (fun k => k = g) w w' := by
  have hkb := cell_lt hk
  have hnl : n = A.length + 1 + B.length := by rw [hn]; simp <;> omega
  have HIX := Lib.hid (index_at h hA hl hn hk)
  have hcap : n ≤ cap ∧ cap ≤ maxLen := by
    rcases h.form with ⟨hv, _⟩ | ⟨g2, cap2, cur, hv, hb, h2, h3, h4, h5⟩
    · cases hv
    · simp only [Value.slice.injEq, Option.some.injEq, Addr.mk.injEq, and_true] at hv
      obtain ⟨rfl, -, rfl⟩ := hv
      exact ⟨by rw [hn]; exact h2, h3⟩
  have HO := Lib.hid h
  have HBB := Lib.hid hB
  have HK := Lib.hid hk
  have HCAP := Lib.hid hcap
  have hal : (A.length : Int) ≤ 100000 := by omega
  have w1 : IntKind.i64.wrap ((A.length : Int) + 1) = (A.length : Int) + 1 := IntWalk.i64_in _ (by omega)
  have w2 : ((A.length : Int) == -1) = false := by simp <;> omega
  have HNL := Lib.hid hnl
  clear h hA hB hk hn hcap hnl
  go_enter Tryz.func35, Tryz.ntmps35
  go_wp2_with fail
  refine HIX.out.mono ?_
  rintro e w1' ⟨rfl, hb1⟩
  have HM1 := Lib.hid (Mod.of_below (F := fun k => k = g) hb1)
  have HO1 := Lib.hid (HO.out.later hb1)
  clear HIX hb1
  go_wp2_with fail
  go_loopg [5, 6] B.length (fun kx iv jv wr => ∃ m i j : Nat, iv = .int .i64 i ∧ jv = .int .i64 j ∧ Hid (i = A.length + m) ∧ Hid (j = A.length + 1 + m) ∧ Hid (m ≤ B.length) ∧ B.length - m ≤ kx ∧ Hid (EntRow wr (.slice (some ⟨g, 0, none⟩) n cap) (curD A B (key, c) m)) ∧ Hid (Mod (fun k => k = g) w wr))
  case atStart => exact ⟨0, A.length, A.length + 1, rfl, by go_num, Lib.hid rfl, Lib.hid rfl, Lib.hid (Nat.zero_le _), Nat.le_refl _, HO1, HM1⟩
  case round =>
    obtain ⟨m, i, j, rfl, rfl, HI, HJ, HMB, hmk, HE, HM⟩ := hrel
    clear HO1 HM1 hal w1 w2
    have i0 : (0 : Int) ≤ (i : Int) := by omega
    have j0 : (0 : Int) ≤ (j : Int) := by omega
    have i1 : (i : Int) < (n : Int) := by have h1 := HI.out; have h2 := HNL.out; have h3 := HMB.out; omega
    have iw : IntKind.i64.wrap ((i : Int) + 1) = (i : Int) + 1 := IntWalk.i64_in _ (by omega)
    have hkk := (HM.out.block kb hkb hne)
    have hcl := curD_len (A := A) (B := B) (x := (key, c)) HMB.out
    by_cases hmb : m < B.length
    · have hjn : (j : Int) < (n : Int) := by have h1 := HJ.out; have h2 := HNL.out; omega
      have jw : IntKind.i64.wrap ((j : Int) + 1) = (j : Int) + 1 := IntWalk.i64_in _ (by omega)
      have hnx := curD_next (A := A) (x := (key, c)) hmb
      have hat := HE.out.at_ (i := j) (by have h1 := HJ.out; omega)
      rw [HJ.out, hnx.1, ← HJ.out] at hat
      have c0 := hat.1
      have c1 := hat.2.1
      have hti := HE.out.at_ (i := i) (by have h1 := HI.out; omega)
      have f0 := hti.2.2.1
      have f1 := hti.2.2.2
      have p0 := hti.1
      have p1 := hti.2.1
      have hbk := HBB.out _ (ent_mem hmb)
      have HNX := Lib.hid hnx.2
      clear hat hti hnx
      generalize B.getD m (0, 0) = y at *
      obtain ⟨yk, yc⟩ := y
      dsimp only at c0 c1 hbk
      have hkw : wr.cell? ⟨kb, 0, none⟩ = some (.int .i64 key) := by
        have := HK.out
        unfold World.cell? at this ⊢
        rw [hkk]
        exact this
      have hkv : (wr.alloc (.cells #[.int .i64 yk, .pointer (some ⟨yc, 0, none⟩)] 84 (0, 0))).cell? ⟨kb, 0, none⟩ = some (.int .i64 key) := (World.cell?_alloc_lt wr _ _ (cell_lt hkw)).trans hkw
      have hd := drop_gives key yk yc kb _ hkv
      rw [show (yk == key) = false by simpa using hbk] at hd
      have HD := Lib.hid hd
      have HBN := Lib.hid (blk_new wr (.cells #[.int .i64 yk, .pointer (some ⟨yc, 0, none⟩)] 84 (0, 0)))
      have HBA := Lib.hid (bl_alloc2 (Below.refl wr.heap.size wr) (.cells #[.int .i64 yk, .pointer (some ⟨yc, 0, none⟩)] 84 (0, 0)))
      have HCL := Lib.hid hcl
      clear hd hkv hkw hkk hbk f0 f1 p0 p1 hcl
      go_wp2_with fail
      refine HD.out.mono ?_
      rintro e w5 ⟨rfl, hb5⟩
      have hbk := below_keep hb5 HBN.out
      have v0 := blk_cell hbk 0
      have v1 := blk_cell hbk 1
      simp only [List.getElem?_toArray, List.getElem?_cons_zero, List.getElem?_cons_succ] at v0 v1
      have hb6 := bl_next HBA.out hb5
      have HE5 := Lib.hid (HE.out.later hb6)
      have HM5 := Lib.hid (HM.out.trans (Mod.of_below hb6))
      have hti := HE5.out.at_ (i := i) (by have h1 := HI.out; have h2 := HCL.out; omega)
      have f0 := hti.2.2.1
      have f1 := hti.2.2.2
      have p0 := hti.1
      have p1 := hti.2.1
      have HS := Lib.hid (HE5.out.set (i := i) (by have h1 := HI.out; have h2 := HCL.out; omega) (yk, yc))
      generalize wr.heap.size = gv at *
      clear hti hbk hb5 hb6 HD HBN HBA c0 c1
      go_wp2_with fail
      go_roundg (B.length - (m + 1))
      case rel => exact ⟨m + 1, i + 1, j + 1, by go_num, by go_num, Lib.hid (by rw [HI.out]; omega), Lib.hid (by rw [HJ.out]; omega), Lib.hid hmb, by omega, Lib.hid (by rw [← HNX.out, ← HI.out]; exact HS.out), Lib.hid (((HM5.out.setCell (p := ⟨g, i * 2, none⟩) (.inl rfl) _).setCell (p := ⟨g, i * 2 + 1, none⟩) (.inl rfl) _))⟩
      case measure => omega
    · have hme : m = B.length := by have := HMB.out; omega
      have hin : n = i + 1 := by have h1 := HI.out; have h2 := HNL.out; omega
      have hjn : ¬ (j : Int) < (n : Int) := by have h1 := HJ.out; have h2 := HNL.out; omega
      have hlast : curD A B (key, c) m = (A ++ B) ++ [(((key, c) :: B).getD m (0, 0))] := by
        unfold curD
        rw [hme, List.take_length, List.drop_eq_getElem_cons (by simp), List.append_assoc]
        congr 2
        simp [List.getD_eq_getElem?_getD]
      have hil : i = (A ++ B).length := by have h1 := HI.out; simp; omega
      have hE := HE.out
      rw [hlast] at hE
      have hclr : ∀ ty cc, (Builtin.clear_ #[81] ty #[.slice (some ⟨g, i * 2, none⟩) 1 cc]).run Tryz.prog wr = .ok (.tuple #[]) (wr.setCells g (i * 2) [.int .i64 0, .pointer none]) := fun ty cc => by
        rcases hE.form with ⟨hv, _⟩ | ⟨g2, cap2, cur, hv, hb, h2, h3, h4, h5⟩
        · cases hv
        · simp only [Value.slice.injEq, Option.some.injEq, Addr.mk.injEq, and_true] at hv
          obtain ⟨rfl, -, rfl⟩ := hv
          exact clear_ent hb (by have := HCAP.out; omega) ty
      have hfr := hE.front (u := .int .i64 0) (v := .pointer none)
      rw [← hil] at hfr
      have HIL := Lib.hid hil
      have HFR := Lib.hid hfr
      have HMF := Lib.hid (HM.out.trans (mod_setCells [.int .i64 0, .pointer none] wr g (i * 2)))
      have z1 : ¬ cap = i := by have := HCAP.out; omega
      have z2 : n - i = 1 := by omega
      have z3 : (i : Int) ≤ (n : Int) := by omega
      have z4 : (i : Int) ≤ (cap : Int) := by have := HCAP.out; omega
      have z5 : i ≤ cap := by have := HCAP.out; omega
      have z6 : i ≤ n := by omega
      clear hlast hil hE hfr hin hme hmb hkk hcl
      go_wp2_with (simp only [hclr])
      go_ret
      rw [show A.length + B.length = i by have h1 := HIL.out; simp only [List.length_append] at h1; omega]
      exact ⟨rfl, HFR.out, HMF.out⟩
end Go.Proofs.YtoidmakaijkglaaGreat
