/- Versions: Make, Set, Next, Begin, End. -/
import Derived.Test.YtoidmakaijkglaaGreatT2
namespace Go.Proofs.YtoidmakaijkglaaGreat
open Go.RowKit

set_option maxRecDepth 100000 in
set_option maxHeartbeats 800000 in
theorem make_bad (b : Nat) (key v x y : Int) (w : World) (h : key < 0 ∨ 63 < key ∨ v < 0 ∨ 65535 < v) :
    Calls Tryz.prog 8 #[.pointer (some ⟨b, 0, none⟩), .int .i64 key, .int .i64 v, .int .u64 x, .int .u64 y] w fun e w' => e = .returned (.tuple #[.int .u64 0, .int .i64 1]) ∧ w = w' := by
  have HV := Lib.hid (rec_value v w)
  by_cases hv : 0 ≤ v ∧ v ≤ 65535
  · have hd : decide (key < 0) = true ∨ (decide (key < 0) = false ∧ decide (63 < key) = true) := by simp; omega
    clear h hv
    rcases hd with hd | ⟨hd, hd2⟩
    all_goals
      go_enter Tryz.func8, Tryz.ntmps8
      go_wp2_with fail
      go_ret2
      exact ⟨rfl, rfl⟩
  · have HD := Lib.hid (show decide (0 ≤ v ∧ v ≤ 65535) = false from decide_eq_false hv)
    have hd : decide (key < 0) = true ∨ (decide (key < 0) = false ∧ decide (63 < key) = true) ∨ (decide (key < 0) = false ∧ decide (63 < key) = false) := by simp; omega
    clear h hv
    rcases hd with hd | ⟨hd, hd2⟩ | ⟨hd, hd2⟩
    · go_enter Tryz.func8, Tryz.ntmps8
      go_wp2_with fail
      go_ret2
      exact ⟨rfl, rfl⟩
    · go_enter Tryz.func8, Tryz.ntmps8
      go_wp2_with fail
      go_ret2
      exact ⟨rfl, rfl⟩
    · go_enter Tryz.func8, Tryz.ntmps8
      go_wp2_with fail
      refine HV.out.mono ?_
      rw [HD.out]
      rintro e w1 ⟨rfl, rfl⟩
      go_wp2_with fail
      go_ret2
      exact ⟨rfl, rfl⟩

set_option maxRecDepth 100000 in
set_option maxHeartbeats 800000 in
theorem make_full (b : Nat) (F : Nat → Prop) (s : RS) (key v x y : Int) (w : World) (h : StoreAt w b F s) (k0 : 0 ≤ key) (k1 : key ≤ 63) (v0 : 0 ≤ v) (v1 : v ≤ 65535) (hl : s.p.listed.free = []) :
    Calls Tryz.prog 8 #[.pointer (some ⟨b, 0, none⟩), .int .i64 key, .int .i64 v, .int .u64 x, .int .u64 y] w fun e w' => e = .returned (.tuple #[.int .u64 0, .int .i64 15]) ∧ LeftS w b F s.listed w' := by
  obtain ⟨pb, ab, db, Fp, Fa, h⟩ := h
  have HV := Lib.hid (rec_value v w)
  have HD := Lib.hid (show decide (0 ≤ v ∧ v ≤ 65535) = true from decide_eq_true ⟨v0, v1⟩)
  have HT := Lib.hid (take_full pb Fp s.p w (SP.pool h) hl)
  have c0 := blk_cell (SP.head h) 0
  simp [storeCells] at c0
  have HS := Lib.hid h
  clear h hl
  go_enter Tryz.func8, Tryz.ntmps8
  go_wp2_with fail
  refine HV.out.mono ?_
  rw [HD.out]
  rintro e w1 ⟨rfl, rfl⟩
  go_wp2_with fail
  refine HT.out.mono ?_
  rintro e w1 ⟨rfl, hL⟩
  obtain ⟨F', Fp', h1, m1, g1⟩ := SP.step_pool HS.out hL (by rw [listed_sl])
  have HF := Lib.hid (show LeftS w b F s.listed w1 from ⟨F', h1.at_, m1, g1⟩)
  clear hL h1 m1 g1
  go_wp2_with fail
  go_ret2
  exact ⟨rfl, HF.out⟩

/-- The store, one version made: it lies in slot i. -/
def RS.make (s : RS) (l : List Int) (i : Nat) (key v x y : Int) : RS := ⟨s.p.listed.take l i, ((s.ws.set (i * 3) x).set (i * 3 + 1) y).set (i * 3 + 2) 0, s.d.set i (key, v)⟩
theorem take_len (p : PS) (l : List Int) (i : Nat) : (p.listed.take l i).sl.length = p.sl.length := by
  simp [PS.take, listed_sl]
set_option maxRecDepth 100000 in
set_option maxHeartbeats 3200000 in
theorem make_ok (b : Nat) (F : Nat → Prop) (s : RS) (l : List Int) (i : Nat) (key v x y : Int) (w : World) (h : StoreAt w b F s) (k0 : 0 ≤ key) (k1 : key ≤ 63) (v0 : 0 ≤ v) (v1 : v ≤ 65535) (hl : s.p.listed.free = l ++ [(i : Int)]) :
    Calls Tryz.prog 8 #[.pointer (some ⟨b, 0, none⟩), .int .i64 key, .int .i64 v, .int .u64 x, .int .u64 y] w fun e w' => e = .returned (.tuple #[.int .u64 (s.p.listed.link i), .int .i64 0]) ∧ LeftS w b F (s.make l i key v x y) w' := by
  obtain ⟨pb, ab, db, Fp, Fa, h⟩ := h
  have HV := Lib.hid (rec_value v w)
  have HD := Lib.hid (show decide (0 ≤ v ∧ v ≤ 65535) = true from decide_eq_true ⟨v0, v1⟩)
  have HT := Lib.hid (take_some pb Fp s.p l i w (SP.pool h) hl)
  have hok := listed_ok (SP.pool h).good
  have hi : i < s.p.sl.length := by
    have := (hok.free i (by rw [hl]; simp)).2.1
    rw [listed_sl] at this
    omega
  have hlk := link_range hok (i := i) (by rw [listed_sl]; exact hi)
  have hn := (SP.pool h).good.n2
  obtain ⟨l0, l1, l2, l3⟩ := hlk
  have HLK := Lib.hid (show s.p.listed.link i % 131072 - 1 = i by omega)
  have hd : i < s.d.length := by rw [h.2.d]; exact hi
  have hws := h.2.ws
  have hw0 : i * 3 < s.ws.length := by omega
  have hw1 : i * 3 + 1 < s.ws.length := by omega
  have hw2 : i * 3 + 2 < s.ws.length := by omega
  have hlen : s.d.length ≤ 4096 := by rw [h.2.d]; exact hn
  have hin : i < s.p.sl.length := hi
  have hb2 := h.2.d
  have c0 := blk_cell (SP.head h) 0
  simp [storeCells] at c0
  have HS := Lib.hid h
  have HB2 := Lib.hid hb2
  clear h hl hok hb2 l2 l3 hws
  generalize s.p.listed.link i = z at *
  go_enter Tryz.func8, Tryz.ntmps8
  go_wp2_with fail
  refine HV.out.mono ?_
  rw [HD.out]
  rintro e w1 ⟨rfl, rfl⟩
  go_wp2_with fail
  refine HT.out.mono ?_
  rintro e w1 ⟨rfl, hL⟩
  obtain ⟨F1, Fp1, h1, m1, g1⟩ := SP.step_pool HS.out hL (take_len _ _ _)
  have H1 := Lib.hid h1
  have M1 := Lib.hid (And.intro m1 g1)
  have hS := rec_slot z w1 h1 (by omega) (by omega)
  rw [HLK.out] at hS
  have HSL := Lib.hid hS
  clear hL h1 m1 g1 hS HS HT c0
  generalize PS.live _ z = tl at HSL
  go_wp2_with fail
  refine HSL.out.mono ?_
  rintro e w2 ⟨rfl, b2⟩
  have H2 := Lib.hid (H1.out.below b2)
  have M2 := Lib.hid (And.intro (M1.out.1.next (Mod.of_below (F := fun _ => False) b2) (fun _ h => h.elim)) M1.out.2)
  clear b2 H1 M1 HSL
  have c1 := blk_cell H2.out.head 1
  have c2 := blk_cell H2.out.head 2
  simp [storeCells, take_len] at c1 c2
  have d0 := blk_cell H2.out.data (i * 2)
  have d1 := blk_cell H2.out.data (i * 2 + 1)
  have e0 := blk_free H2.out.data (i * 2)
  have e1 := blk_free H2.out.data (i * 2 + 1)
  have ne := H2.out.ne
  simp [dataCells_key _ _ hd, dataCells_val _ _ hd] at d0 d1
  go_wp2_with fail
  have q1 := blk_set (i := i * 2 + 1) (u := .int .i64 v) (blk_set (i := i * 2) (u := .int .i64 key) H2.out.data)
  rw [List.setIfInBounds_toArray, List.setIfInBounds_toArray, dataCells_set _ _ hd] at q1
  obtain ⟨F3, h3, m3, g3⟩ := H2.out.step_data q1 (((Mod.refl (fun k => k = db) _).setCell (p := ⟨db, i * 2, none⟩) (.inl rfl) _).setCell (p := ⟨db, i * 2 + 1, none⟩) (.inl rfl) _) (by simp)
  have H3 := Lib.hid h3
  have M3 := Lib.hid (And.intro (M2.out.1.next m3 M2.out.2) (M2.out.2.trans g3 M2.out.1.size))
  clear q1 h3 m3 g3 H2 M2 c1 c2 d0 d1 e0 e1 ne
  have ha := arena_store ab Fa s.ws (i * 3) x _ H3.out.arena hw0
  rw [show ((i * 3 : Nat) : Int) = (i : Int) * 3 by omega] at ha
  refine ha.mono ?_
  rintro e w4 ⟨rfl, hL⟩
  obtain ⟨F4, h4, m4, g4⟩ := H3.out.step_arena hL (by simp)
  have H4 := Lib.hid h4
  have M4 := Lib.hid (And.intro (M3.out.1.next m4 M3.out.2) (M3.out.2.trans g4 M3.out.1.size))
  clear ha hL h4 m4 g4 H3 M3
  have c1 := blk_cell H4.out.head 1
  simp [storeCells] at c1
  go_wp2_with fail
  have ha := arena_store ab Fa _ (i * 3 + 1) y _ H4.out.arena (by simpa using hw1)
  rw [show ((i * 3 + 1 : Nat) : Int) = (i : Int) * 3 + 1 by omega] at ha
  refine ha.mono ?_
  rintro e w5 ⟨rfl, hL⟩
  obtain ⟨F5, h5, m5, g5⟩ := H4.out.step_arena hL (by simp)
  have H5 := Lib.hid h5
  have M5 := Lib.hid (And.intro (M4.out.1.next m5 M4.out.2) (M4.out.2.trans g5 M4.out.1.size))
  clear ha hL h5 m5 g5 H4 M4 c1
  have c1 := blk_cell H5.out.head 1
  simp [storeCells] at c1
  go_wp2_with fail
  have ha := arena_store ab Fa _ (i * 3 + 2) 0 _ H5.out.arena (by simpa using hw2)
  rw [show ((i * 3 + 2 : Nat) : Int) = (i : Int) * 3 + 2 by omega] at ha
  refine ha.mono ?_
  rintro e w6 ⟨rfl, hL⟩
  obtain ⟨F6, h6, m6, g6⟩ := H5.out.step_arena hL (by simp)
  have HF := Lib.hid (show LeftS w b F (s.make l i key v x y) w6 from ⟨F6, h6.at_, M5.out.1.next m6 M5.out.2, M5.out.2.trans g6 M5.out.1.size⟩)
  clear ha hL h6 m6 g6 H5 M5 c1
  go_wp2_with fail
  go_ret2
  exact ⟨rfl, HF.out⟩

/-- A version, as it stands. -/
structure Ver where
  key : Int
  val : Int
  beg : Int
  en : Int
  nx : Int
def Ver.value (v : Ver) : Value := .agg #[.int .i64 v.key, .int .i64 v.val, .int .u64 v.beg, .int .u64 v.en, .int .u64 v.nx]
def ver0 : Ver := ⟨0, 0, 0, 0, 0⟩
def RS.ver (s : RS) (i : Nat) : Ver := ⟨(s.d.getD i (0, 0)).1, (s.d.getD i (0, 0)).2, s.ws.getD (i * 3) 0, s.ws.getD (i * 3 + 1) 0, s.ws.getD (i * 3 + 2) 0⟩
/-- Which slot a link names. -/
def slotOf (x : Int) : Nat := (x % 131072 - 1).toNat
theorem slot_live {p : PS} {x : Int} (h : p.live x = true) : slotOf x < p.sl.length ∧ x % 131072 - 1 = (slotOf x : Int) ∧ p.link (slotOf x) = x ∧ (p.sl.getD (slotOf x) slot0).taken = true := by
  obtain ⟨i, h1, h2, h3, h4⟩ := live_yes h
  have e : slotOf x = i := by unfold slotOf; omega
  rw [e]
  exact ⟨h1, by omega, h4, h3⟩


set_option maxRecDepth 100000 in
set_option maxHeartbeats 800000 in
theorem next_stale (b : Nat) (F : Nat → Prop) (s : RS) (x y : Int) (w : World) (h : StoreAt w b F s) (h0 : 0 ≤ x) (h1 : x ≤ 18446744073709551615) (hl : s.p.live x = false) :
    Calls Tryz.prog 33 #[.pointer (some ⟨b, 0, none⟩), .int .u64 x, .int .u64 y] w fun e w' => e = .returned (.int .i64 8) ∧ Below w.heap.size w w' := by
  obtain ⟨pb, ab, db, Fp, Fa, h⟩ := h
  have hS := rec_slot x w h h0 h1
  rw [hl] at hS
  have HS := Lib.hid hS
  clear h hl hS
  go_enter Tryz.func33, Tryz.ntmps33
  go_wp2_with fail
  refine HS.out.mono ?_
  rintro e w1 ⟨rfl, b1⟩
  go_wp2_with fail
  go_ret
  exact ⟨rfl, b1⟩
/-- A word of a version turned. -/
def RS.setw (s : RS) (j : Nat) (y : Int) : RS := ⟨s.p, s.ws.set j y, s.d⟩
set_option maxRecDepth 100000 in
set_option maxHeartbeats 1600000 in
theorem next_ok (b : Nat) (F : Nat → Prop) (s : RS) (x y : Int) (w : World) (h : StoreAt w b F s) (h0 : 0 ≤ x) (h1 : x ≤ 18446744073709551615) (hl : s.p.live x = true) :
    Calls Tryz.prog 33 #[.pointer (some ⟨b, 0, none⟩), .int .u64 x, .int .u64 y] w fun e w' => e = .returned (.int .i64 0) ∧ LeftS w b F (s.setw (slotOf x * 3 + 2) y) w' := by
  obtain ⟨pb, ab, db, Fp, Fa, h⟩ := h
  have hS := rec_slot x w h h0 h1
  obtain ⟨hi, hx, _, _⟩ := slot_live hl
  rw [hl, hx] at hS
  have HS := Lib.hid hS
  have hn := (SP.pool h).good.n2
  have hws := h.2.ws
  have hw2 : slotOf x * 3 + 2 < s.ws.length := by omega
  have HP : Hid (SP w b F s pb ab db Fp Fa) := Lib.hid h
  clear h hl hS hx hws
  generalize slotOf x = i at *
  go_enter Tryz.func33, Tryz.ntmps33
  go_wp2_with fail
  refine HS.out.mono ?_
  rintro e w1 ⟨rfl, b1⟩
  have H1 := Lib.hid (HP.out.below b1)
  have B1 := Lib.hid (Mod.of_below (F := F) b1)
  clear HP b1
  have c1 := blk_cell H1.out.head 1
  simp [storeCells] at c1
  go_wp2_with fail
  have ha := arena_store ab Fa s.ws (i * 3 + 2) y _ H1.out.arena hw2
  rw [show ((i * 3 + 2 : Nat) : Int) = (i : Int) * 3 + 2 by omega] at ha
  refine ha.mono ?_
  rintro e w2 ⟨rfl, hL⟩
  obtain ⟨F3, h3, m3, g3⟩ := H1.out.step_arena hL (by simp)
  have HF := Lib.hid (show LeftS w b F (s.setw (i * 3 + 2) y) w2 from ⟨F3, h3.at_, B1.out.trans m3, fun k hk => by
    rcases g3 k hk with h | h
    · exact .inl h
    · exact .inr (Nat.le_trans B1.out.size h)⟩)
  clear ha hL h3 m3 g3 H1 B1 c1
  go_wp2_with fail
  go_ret
  exact ⟨rfl, HF.out⟩
end Go.Proofs.YtoidmakaijkglaaGreat
