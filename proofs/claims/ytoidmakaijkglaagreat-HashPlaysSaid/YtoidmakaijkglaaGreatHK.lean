/- In. -/
import Derived.Test.YtoidmakaijkglaaGreatHJ
namespace Go.Proofs.YtoidmakaijkglaaGreat
open Go.RowKit
/-- A row of integers of the call's own, all of it new since there were B blocks. -/
def NewRow (B : Nat) (w : World) (v : Value) (l : List Int) : Prop := w.ownsRow B 3 1 v l.length (l.map (Value.int .i64))
theorem NewRow.nil (B : Nat) (w : World) : NewRow B w (.slice none 0 0) [] := World.ownsRow_nil _ _ _ _
theorem NewRow.owned {B : Nat} {w : World} {v : Value} {l : List Int} (h : NewRow B w v l) : Owned .i64 3 w v l := by
  refine ⟨h.1, ?_⟩
  rcases h.2 with h | ⟨g, cap, cur, h1, _, r⟩
  · exact .inl h
  · exact .inr ⟨g, cap, cur, h1, Nat.zero_le _, r⟩
theorem NewRow.ge {B : Nat} {w : World} {v : Value} {l : List Int} (h : NewRow B w v l) : ∀ g, v.ownBlock = some g → B ≤ g := fun g hg => (World.ownsRow.lt h g hg).1
theorem NewRow.mod {B : Nat} {w w1 : World} {F : Nat → Prop} {v : Value} {l : List Int} (h : NewRow B w v l) (hm : Mod F w w1) (hF : ∀ g, v.ownBlock = some g → ¬ F g) : NewRow B w1 v l := ownsRow_mod h hm hF
theorem NewRow.later {B : Nat} {w w1 : World} {v : Value} {l : List Int} (h : NewRow B w v l) (hb : Below w.heap.size w w1) : NewRow B w1 v l := h.mod (Mod.of_below (F := fun _ => False) hb) (fun _ _ h => h)
theorem NewRow.app {B : Nat} {W w' : World} {v v' : Value} {l : List Int} {x : Int} {m : Nat} {zs : List Value} (hA : Appended W w' B 3 1 v v' m zs) (hm : m = l.length + 1) (hz : zs = l.map (Value.int .i64) ++ [.int .i64 x]) : NewRow B w' v' (l ++ [x]) := by
  have := hA.own
  unfold NewRow
  rw [List.length_append, List.map_append]
  subst hm hz
  exact this
theorem app_below {B : Nat} {W w' : World} {v v' : Value} {l : List Int} {m : Nat} {zs : List Value} {w1 : World} (h : NewRow B W v l) (hA : Appended W w' B 3 1 v v' m zs) (hb : Below B w1 W) (hBW : B ≤ W.heap.size) : Below B w1 w' :=
  hb.trans ((hA.mod (F := fun i => B ≤ i) (fun k hk => h.ge k hk)).below (fun _ hk => hk) hBW)

theorem info_int' : (Tryz.prog.info? 3).map (fun i => (i.zero, i.size, i.bytes)) = some (some (.int .i64 0), 1, 8) := by kernel_rfl
def keysOf (bs : List (List (Int × Nat))) (i : Nat) : List Int := (bs.getD i []).map (·.1)
theorem keys_next {l : List (Int × Nat)} {j : Nat} (hj : j < l.length) : (l.take (j + 1)).map (·.1) = (l.take j).map (·.1) ++ [(l.getD j (0, 0)).1] := by
  rw [List.take_succ_eq_append_getElem hj, List.map_append]
  simp [List.getD_eq_getElem?_getD, hj]
set_option maxRecDepth 100000 in
set_option maxHeartbeats 1600000 in
theorem ix_in {xb sb ab n i : Nat} {F : Nat → Prop} {bs : List (List (Int × Nat))} (w : World) (h : IxAt w xb F sb ab n bs) (hn : n ≤ 64) (hi : i < n) (hsz : (bs.getD i []).length ≤ 100000) :
    Calls Tryz.prog 20 #[.pointer (some ⟨xb, 0, none⟩), .int .i64 i] w fun e w' => ∃ sv, e = .returned sv ∧ ∃ w1, LeftX w xb F sb ab n bs w1 ∧ Below w1.heap.size w1 w' ∧ NewRow w1.heap.size w' sv (keysOf bs i) := by
  have c2 := h.n_cell.2.2
  have HL := Lib.hid (ix_list (i := i) w h hn hi)
  have HSZ := Lib.hid hsz
  have i0 : (0 : Int) ≤ (i : Int) := by omega
  have i1 : (i : Int) < (n : Int) := by omega
  have i2 : ¬ (n : Int) ≤ (i : Int) := by omega
  obtain ⟨R, hR⟩ : ∃ R, keysOf bs i = R := ⟨_, rfl⟩
  rw [hR]
  have HR := Lib.hid hR
  clear h hsz hR
  go_enter Tryz.func20, Tryz.ntmps20
  go_wp2_with fail
  refine HL.out.mono ?_
  rintro e w1 ⟨g, vs, rfl, hM, hm, hg⟩
  have HM := Lib.hid hM
  have HMD := Lib.hid hm
  have HGR := Lib.hid hg
  have c3 := (hM.slot hi).1
  have hE := hM.ents i hi
  have HEN := Lib.hid hE
  have HS0 := Lib.hid hm.size
  clear hM hm hg HL c2
  unfold keysOf at HR
  generalize bs.getD i [] = l at *
  generalize vAt vs i = v at *
  rcases hE.form with ⟨rfl, rfl⟩ | ⟨gr, cap, cur, rfl, -, -, -, -, -⟩
  · clear hE
    go_wp2_with fail
    go_loopg [5, 24] 0 (fun kx ov jv wr => ov = .slice none 0 0 ∧ jv = .int .i64 0 ∧ Hid (wr = w1))
    case atStart => exact ⟨rfl, rfl, Lib.hid rfl⟩
    case round =>
      obtain ⟨rfl, rfl, HW⟩ := hrel
      obtain rfl := HW.out
      go_wp2_with fail
      go_ret
      refine ⟨_, rfl, wr, ⟨_, HM.out.at_, HMD.out, HGR.out⟩, Below.refl _ _, ?_⟩
      rw [← HR.out]
      exact NewRow.nil _ _
  · clear hE
    go_wp2_with fail
    go_loopg [5, 24] l.length (fun kx ov jv wr => ∃ j : Nat, jv = .int .i64 j ∧ j ≤ l.length ∧ l.length - j ≤ kx ∧ Hid (NewRow w1.heap.size wr ov ((l.take j).map (·.1))) ∧ Hid (Below w1.heap.size w1 wr))
    case atStart => exact ⟨0, rfl, Nat.zero_le _, by omega, Lib.hid (NewRow.nil _ _), Lib.hid (Below.refl _ _)⟩
    case round =>
      obtain ⟨j, rfl, hj, hjk, HO, HX⟩ := hrel
      have j0 : (0 : Int) ≤ (j : Int) := by omega
      by_cases hlt : j < l.length
      · have j1 : (j : Int) < (l.length : Int) := by omega
        have jw : IntKind.i64.wrap ((j : Int) + 1) = (j : Int) + 1 := IntWalk.i64_in _ (by have := HSZ.out; omega)
        have HNX := Lib.hid (keys_next hlt)
        have hat := (HEN.out.later HX.out).at_ hlt
        have c0 := hat.1
        have c1 := hat.2.1
        clear hat
        generalize l.getD j (0, 0) = y at *
        obtain ⟨yk, yc⟩ := y
        dsimp only at c0 c1 HNX
        have hln : ((l.take j).map (·.1)).length + 1 ≤ 1099511627776 := by have := HSZ.out; simp; omega
        generalize (l.take j).map (·.1) = K at *
        have HLN := Lib.hid hln
        clear hln
        go_wp2_with (at_builtin; refine walk_append (zero := .int .i64 0) (base := w1.heap.size) (n := K.length) (m := 1) (xs := K.map (Value.int .i64)) (ys := [.int .i64 yk]) rfl (.tmp 28) (.tmp 31) rfl Tryz.underlying41 info_int' rfl Nat.zero_lt_one (Nat.le_of_ble_eq_true rfl) rfl (World.ownsRow.alloc (World.ownsRow.alloc HO.out _) _) rfl (SrcAt.one (blk_at (by simp))) (ints_one .i64 [_]) HLN.out (Nat.le_trans HX.out.size (by simp <;> omega)) ?_)
        intro v' w5 hA5
        have ho5 := NewRow.app (l := K) (x := yk) hA5 rfl rfl
        have hb5 := app_below (w1 := w1) (l := K) (World.ownsRow.alloc (World.ownsRow.alloc HO.out _) _) hA5 (bl_alloc2 (bl_alloc2 HX.out _) _) (Nat.le_trans HX.out.size (by simp <;> omega))
        have HO5 := Lib.hid ho5
        have HB5 := Lib.hid hb5
        clear hA5 ho5 hb5
        go_wp2_with fail
        go_roundg (l.length - (j + 1))
        case rel => exact ⟨j + 1, by go_num, by omega, by omega, Lib.hid (by rw [HNX.out]; exact HO5.out), HB5⟩
        case measure => omega
      · have j1 : ¬ (j : Int) < (l.length : Int) := by omega
        have hje : j = l.length := by omega
        have HJE := Lib.hid hje
        clear hje
        go_wp2_with fail
        go_ret
        refine ⟨_, rfl, w1, ⟨_, HM.out.at_, HMD.out, HGR.out⟩, HX.out, ?_⟩
        have h := HO.out
        rw [HJE.out, List.take_length, HR.out] at h
        exact h
set_option maxHeartbeats 800000 in
theorem ix_in_out {xb sb ab n : Nat} {F : Nat → Prop} {bs : List (List (Int × Nat))} (w : World) (h : IxAt w xb F sb ab n bs) (i : Int) (hi : i < 0 ∨ (n : Int) ≤ i) :
    Calls Tryz.prog 20 #[.pointer (some ⟨xb, 0, none⟩), .int .i64 i] w fun e w' => e = .returned (.slice none 0 0) ∧ w = w' := by
  have c2 := h.n_cell.2.2
  clear h
  rcases Int.lt_or_le i 0 with h0 | h0
  · go_enter Tryz.func20, Tryz.ntmps20
    go_wp2_with fail
    go_ret
    exact ⟨rfl, rfl⟩
  · have h1 : (n : Int) ≤ i := by omega
    have h2 : ¬ i < 0 := by omega
    go_enter Tryz.func20, Tryz.ntmps20
    go_wp2_with fail
    go_ret
    exact ⟨rfl, rfl⟩

/-! ### Beside other things -/
section
variable {w0 w w' : World} {xb sb ab n : Nat} {F : Nat → Prop} {bs bs' : List (List (Int × Nat))} {L : List Ob}
theorem Sep.ix (h : Sep w0 w (obIx xb F sb ab n bs :: L)) (hl : LeftX w xb F sb ab n bs' w') : ∃ F', Sep w0 w' (obIx xb F' sb ab n bs' :: L) := by
  obtain ⟨F', h1, m, g⟩ := hl
  exact ⟨F', h.step (A' := obIx xb F' sb ab n bs') h1 m g⟩
theorem sx_find (h : Sep w0 w (obIx xb F sb ab n bs :: L)) (hn1 : 1 ≤ n) (hn : n ≤ 64) (hsz : ∀ i, (bs.getD i []).length ≤ 100000) (key : Int) :
    Calls Tryz.prog 13 #[.pointer (some ⟨xb, 0, none⟩), .int .i64 key] w fun e w' => e = .returned (foundV (findK n bs key)) ∧ ∃ F', Sep w0 w' (obIx xb F' sb ab n bs :: L) :=
  (ix_find w h.head hn1 hn hsz key).mono fun _ _ r => ⟨r.1, h.ix r.2⟩
theorem sx_in (h : Sep w0 w (obIx xb F sb ab n bs :: L)) (hn : n ≤ 64) {i : Nat} (hi : i < n) (hsz : (bs.getD i []).length ≤ 100000) :
    Calls Tryz.prog 20 #[.pointer (some ⟨xb, 0, none⟩), .int .i64 i] w fun e w' => ∃ sv, e = .returned sv ∧ ∃ F', Sep w0 w' (obRow .i64 3 sv (keysOf bs i) :: obIx xb F' sb ab n bs :: L) := by
  refine (ix_in w h.head hn hi hsz).mono ?_
  rintro e w' ⟨sv, rfl, w1, hl, hb, hr⟩
  obtain ⟨F', h1⟩ := h.ix hl
  exact ⟨sv, rfl, F', h1.new (A := obRow .i64 3 sv (keysOf bs i)) hb hr.owned (fun k hk => hr.ge k hk)⟩
end
end Go.Proofs.YtoidmakaijkglaaGreat
