/- OutcomeLazy holds: what is made when it is first asked is made once, however often it is asked; of any type. No condition. -/
import Derived.Test.YtfjoghbkfkbbdaaS4
import Derived.Deep.RegionWith
import Derived.ChangeMaps5
namespace Go.Proofs.Ytfjoghbkfkbbdaa
open Go.RowKit Go.ChangeShapes

set_option maxRecDepth 100000 in
set_option maxHeartbeats 800000 in
theorem lazyNil (b p0 : Nat) (x : Value) (w : World) (h : LazyAt w b 107 .nilFunc 0 1 x 0) (h0 : w.heap[p0]? = some (.cells #[.pointer (some ⟨b, 0, none⟩)] 37 (0, 0))) :
    Calls Try.prog 69 #[.pointer (some ⟨p0, 0, none⟩)] w fun e w2 => e = .returned (.tuple #[]) ∧ w = w2 := by
  have hrun : ∀ w : World, (binOp .neq 40 .nilFunc .nilFunc).run Try.prog w = .ok (.bool false) w := fun w => by kernel_rfl
  have c0 := blk_cell h0 0
  have cb0 := blk_cell h 0
  simp at c0 cb0
  clear h h0
  go_enter Try.func69, Try.ntmps69
  go_wp2_with fail
  go_end0
  exact ⟨rfl, rfl⟩

theorem blk_drew' {w : World} {g : Nat} {o : Obj} (h : w.heap[g]? = some o) : w.drew.heap[g]? = some o := h
set_option maxRecDepth 100000 in
set_option maxHeartbeats 1600000 in
theorem get_nil (b : Nat) (y : Int) (w : World) (h : LazyAt w b 107 .nilFunc 0 0 (.int .u64 y) 0) :
    Calls Try.prog 30 #[.pointer (some ⟨b, 0, none⟩)] w fun e w' => e = .returned (.int .u64 y) ∧ LazyAt w' b 107 .nilFunc 1 0 (.int .u64 y) 0 ∧ Only b w w' := by
  have hlt := blk_lt h
  have hb := Lib.hid h
  clear h
  go_enter Try.func30, Try.ntmps30
  go_wp2_with fail
  have k1 := blk_alloc (p := .cells #[.pointer (some ⟨b, 0, none⟩)] 37 (0, 0)) hb.out
  have k2 := blk_new w (.cells #[.pointer (some ⟨b, 0, none⟩)] 37 (0, 0))
  have m1 := blk_set (i := 2) (u := .int .i32 1) k1
  have m2 := blk_other (p := ⟨b, 2, none⟩) (u := .int .i32 1) k2 (by show w.heap.size ≠ b; omega)
  have o1 := ((Only.refl b w).alloc (.cells #[.pointer (some ⟨b, 0, none⟩)] 37 (0, 0))).setCell (p := ⟨b, 2, none⟩) (.inl rfl) (.int .i32 1)
  have hclo := (lazyNil b w.heap.size (.int .u64 y) _ m1 m2).mono (fun e w2 h => (show e = Ending.returned (.tuple #[]) ∧ (fun W => _ = W) w2 from h))
  refine (once_first b 1 _ _ (fun W => _ = W) _ lazyClo_uint64_enters ((blk_cell k1 1).trans rfl) ((blk_cell k1 2).trans rfl) (blk_free k1 2) hclo ?_).mono ?_
  · rintro w2 rfl
    exact ⟨(blk_cell m1 1).trans rfl, (blk_cell m1 2).trans rfl, blk_free m1 1, blk_free m1 2⟩
  rintro e w2 ⟨rfl, w3, rfl, rfl⟩
  have q1 := blk_set (i := 2) (u := .int .i32 0) (blk_set (i := 1) (u := .int .u32 1) (blk_drew' m1))
  have q2 := blk_other (p := ⟨b, 2, none⟩) (u := .int .i32 0) (blk_other (p := ⟨b, 1, none⟩) (u := .int .u32 1) (blk_drew' m2) (by show w.heap.size ≠ b; omega)) (by show w.heap.size ≠ b; omega)
  have cp := (blk_cell q2 0).trans (by rfl : _ = some (Value.pointer (some ⟨b, 0, none⟩)))
  have cv := (blk_cell q1 4).trans (by rfl : _ = some (Value.int .u64 y))
  have kk := Lib.hid (And.intro q1 ((o1.drew.setCell (p := ⟨b, 1, none⟩) (.inl rfl) (.int .u32 1)).setCell (p := ⟨b, 2, none⟩) (.inl rfl) (.int .i32 0)))
  clear q1 q2 k1 k2 m1 m2 o1 hclo
  generalize World.setCell (World.setCell (World.drew _) ⟨b, 1, none⟩ (.int .u32 1)) ⟨b, 2, none⟩ (.int .i32 0) = X at *
  go_wp2_with fail
  go_ret
  exact ⟨rfl, kk.out.1, kk.out.2⟩

def oneCall (p : Nat) (W : World) : World := W.setCell ⟨p, 0, none⟩ (.int .i64 1)
theorem wrap_back {n : Int} (h0 : -9223372036854775808 ≤ n) (h1 : n ≤ 9223372036854775807) : wrap64 (wrap64 (n + 1) - 1) = n := by
  unfold wrap64
  omega
set_option maxRecDepth 100000 in
set_option maxHeartbeats 800000 in
theorem lawClo1 (p q : Nat) (n : Int) (hn : -9223372036854775808 ≤ n) (hn1 : n ≤ 9223372036854775807) (hpq : q ≠ p) (w : World) (h0 : w.heap[p]? = some (.cells #[.int .i64 0] 3 (0, 0))) (h1 : w.heap[q]? = some (.cells #[.int .i64 n] 3 (0, 0))) :
    Calls Try.prog 21 #[.pointer (some ⟨p, 0, none⟩), .pointer (some ⟨q, 0, none⟩)] w fun e w' => e = .returned (.int .i64 n) ∧ w' = oneCall p w := by
  have c0 := blk_cell h0 0
  have z0 := blk_free h0 0
  have c1 := blk_cell h1 0
  simp at c0 c1
  have hb := Lib.hid (wrap_back hn hn1)
  clear h0 h1 hn hn1
  go_enter Try.func21, Try.ntmps21
  go_wp2_with fail
  go_ret
  exact ⟨ret_int hb.out, rfl⟩
set_option maxRecDepth 100000 in
set_option maxHeartbeats 800000 in
theorem lawClo2 (q : Nat) (s : ByteArray) (w : World) (h1 : w.heap[q]? = some (.cells #[.string s] 9 (0, 0))) :
    Calls Try.prog 23 #[.pointer (some ⟨q, 0, none⟩)] w fun e w' => e = .returned (.string s) ∧ w' = id w := by
  have c1 := blk_cell h1 0
  simp at c1
  clear h1
  go_enter Try.func23, Try.ntmps23
  go_wp2_with fail
  go_ret
  exact ⟨rfl, rfl⟩
theorem lawClo1_enters (args : Array Value) (w : World) : (callFunc 21 args).run Try.prog w = .ok (.enter 21 args) w :=
  enters_body Try.func21 (by kernel_rfl) rfl args w
theorem lawClo2_enters (args : Array Value) (w : World) : (callFunc 23 args).run Try.prog w = .ok (.enter 23 args) w :=
  enters_body Try.func23 (by kernel_rfl) rfl args w

/-- What the law holds in memory: p the count's variable, q the number's, r the text's; A, B, C. -/
structure LZ (w : World) (p q r A B C : Nat) (n : Int) (s : ByteArray) (d : Int) (x y : Value) : Prop where
  hp : w.heap[p]? = some (.cells #[.int .i64 d] 3 (0, 0))
  hq : w.heap[q]? = some (.cells #[.int .i64 n] 3 (0, 0))
  hr : w.heap[r]? = some (.cells #[.string s] 9 (0, 0))
  hA : LazyAt w A 103 (.func (.func 21) #[] #[.pointer (some ⟨p, 0, none⟩), .pointer (some ⟨q, 0, none⟩)]) d 0 x d
  hB : LazyAt w B 105 (.func (.func 23) #[] #[.pointer (some ⟨r, 0, none⟩)]) d 0 y d
  hC : LazyAt w C 107 .nilFunc d 0 (.int .u64 0) 0
theorem LZ.below {w w' : World} {p q r A B C : Nat} {n : Int} {s : ByteArray} {d : Int} {x y : Value} (h : LZ w p q r A B C n s d x y) (hb : Below w.heap.size w w') : LZ w' p q r A B C n s d x y :=
  ⟨below_keep hb h.hp, below_keep hb h.hq, below_keep hb h.hr, below_keep hb h.hA, below_keep hb h.hB, below_keep hb h.hC⟩
/-- The three are asked for the first time, one behind the other. -/
structure LZ1 (w : World) (p q r A B C : Nat) (n : Int) (s : ByteArray) (dA dB dC : Int) (x y : Value) : Prop where
  hp : w.heap[p]? = some (.cells #[.int .i64 dA] 3 (0, 0))
  hq : w.heap[q]? = some (.cells #[.int .i64 n] 3 (0, 0))
  hr : w.heap[r]? = some (.cells #[.string s] 9 (0, 0))
  hA : LazyAt w A 103 (.func (.func 21) #[] #[.pointer (some ⟨p, 0, none⟩), .pointer (some ⟨q, 0, none⟩)]) dA 0 x dA
  hB : LazyAt w B 105 (.func (.func 23) #[] #[.pointer (some ⟨r, 0, none⟩)]) dB 0 y dB
  hC : LazyAt w C 107 .nilFunc dC 0 (.int .u64 0) 0
theorem LZ1.drew {w : World} {p q r A B C : Nat} {n : Int} {s : ByteArray} {dA dB dC : Int} {x y : Value} (h : LZ1 w p q r A B C n s dA dB dC x y) : LZ1 w.drew p q r A B C n s dA dB dC x y := ⟨h.hp, h.hq, h.hr, h.hA, h.hB, h.hC⟩
theorem LZ1.below {w w' : World} {p q r A B C : Nat} {n : Int} {s : ByteArray} {dA dB dC : Int} {x y : Value} (h : LZ1 w p q r A B C n s dA dB dC x y) (hb : Below w.heap.size w w') : LZ1 w' p q r A B C n s dA dB dC x y :=
  ⟨below_keep hb h.hp, below_keep hb h.hq, below_keep hb h.hr, below_keep hb h.hA, below_keep hb h.hB, below_keep hb h.hC⟩
theorem LZ1.cells {w : World} {p q r A B C : Nat} {n : Int} {s : ByteArray} {dA dB dC : Int} {x y : Value} (h : LZ1 w p q r A B C n s dA dB dC x y) : w.cell? ⟨p, 0, none⟩ = some (.int .i64 dA) ∧ w.cell? ⟨q, 0, none⟩ = some (.int .i64 n) ∧ w.cell? ⟨r, 0, none⟩ = some (.string s) :=
  ⟨(blk_cell h.hp 0).trans rfl, (blk_cell h.hq 0).trans rfl, (blk_cell h.hr 0).trans rfl⟩
/-- The blocks' order. -/
def Six (p q r A B C : Nat) : Prop := q < r ∧ r < p ∧ p < A ∧ A < B ∧ B < C
theorem step_A {w : World} {p q r A B C : Nat} {n : Int} {s : ByteArray} {x y : Value} (hs : Six p q r A B C) {B0 : Nat} (hB0 : B0 ≤ q) (hBw : B0 ≤ w.heap.size) (hn : -9223372036854775808 ≤ n ∧ n ≤ 9223372036854775807) (h : LZ1 w p q r A B C n s 0 0 0 x y) :
    Calls Try.prog 28 #[.pointer (some ⟨A, 0, none⟩)] w fun e w' => e = .returned (.int .i64 n) ∧ LZ1 w' p q r A B C n s 1 0 0 (.int .i64 n) y ∧ Below B0 w w' := by
  obtain ⟨s1, s2, s3, s4, s5⟩ := hs
  have hpl := blk_lt h.hp
  refine (get_first_int A _ _ _ n (oneCall p) w lawClo1_enters h.hA (fun W hW => lawClo1 p q n hn.1 hn.2 (by omega) W (hW.keep h.hp (by omega)) (hW.keep h.hq (by omega))) (fun W k o hk hW => ?_)).mono ?_
  · exact blk_other (p := ⟨p, 0, none⟩) hW (by show k ≠ p; omega)
  · rintro e w' ⟨rfl, l1, W, n1, k1⟩
    have kp : ∀ {g : Nat} {o : Obj}, w.heap[g]? = some o → g ≠ A → g ≠ p → w'.heap[g]? = some o := fun hg h1 h2 => k1.keep (blk_other (p := ⟨p, 0, none⟩) (n1.keep hg h1) h2) h1
    refine ⟨rfl, ⟨k1.keep (blk_set (i := 0) (n1.keep h.hp (by omega))) (by omega), kp h.hq (by omega) (by omega), kp h.hr (by omega) (by omega), l1, kp h.hB (by omega) (by omega), kp h.hC (by omega) (by omega)⟩, ?_⟩
    have b1 := (n1.below (B := B0) (by omega) hBw).setCell (p := ⟨p, 0, none⟩) (by show B0 ≤ p; omega) (.int .i64 1)
    exact b1.trans (k1.below (by omega) (Nat.le_trans hBw b1.size))
theorem step_B {w : World} {p q r A B C : Nat} {n : Int} {s : ByteArray} {x y : Value} (hs : Six p q r A B C) {B0 : Nat} (hB0 : B0 ≤ q) (hBw : B0 ≤ w.heap.size) (h : LZ1 w p q r A B C n s 1 0 0 x y) :
    Calls Try.prog 29 #[.pointer (some ⟨B, 0, none⟩)] w fun e w' => e = .returned (.string s) ∧ LZ1 w' p q r A B C n s 1 1 0 x (.string s) ∧ Below B0 w w' := by
  obtain ⟨s1, s2, s3, s4, s5⟩ := hs
  refine (get_first_string B _ _ _ s id w lawClo2_enters h.hB (fun W hW => lawClo2 r s W (hW.keep h.hr (by omega))) (fun W k o hk hW => hW)).mono ?_
  rintro e w' ⟨rfl, l1, W, n1, k1⟩
  have o1 := n1.trans k1
  exact ⟨rfl, ⟨o1.keep h.hp (by omega), o1.keep h.hq (by omega), o1.keep h.hr (by omega), o1.keep h.hA (by omega), l1, o1.keep h.hC (by omega)⟩, o1.below (by omega) hBw⟩
theorem step_C {w : World} {p q r A B C : Nat} {n : Int} {s : ByteArray} {x y : Value} (hs : Six p q r A B C) {B0 : Nat} (hB0 : B0 ≤ q) (hBw : B0 ≤ w.heap.size) (h : LZ1 w p q r A B C n s 1 1 0 x y) :
    Calls Try.prog 30 #[.pointer (some ⟨C, 0, none⟩)] w fun e w' => e = .returned (.int .u64 0) ∧ LZ1 w' p q r A B C n s 1 1 1 x y ∧ Below B0 w w' := by
  obtain ⟨s1, s2, s3, s4, s5⟩ := hs
  refine (get_nil C 0 w h.hC).mono ?_
  rintro e w' ⟨rfl, l1, o1⟩
  exact ⟨rfl, ⟨o1.keep h.hp (by omega), o1.keep h.hq (by omega), o1.keep h.hr (by omega), o1.keep h.hA (by omega), o1.keep h.hB (by omega), l1⟩, o1.below (by omega) hBw⟩

set_option maxRecDepth 100000 in
set_option maxHeartbeats 6400000 in
theorem outcomeLazy_walk {n a2 : Int} {s : ByteArray} {w : World} (_w0 : (Lit.int .i64 n).wf = true) (_w1 : s.size ≤ maxLen) (_w2 : (Lit.int .i64 a2).wf = true) :
    Calls Try.prog 5 #[.int .i64 n, .string s, .int .i64 a2] w fun e w' => e = .returned (.bool true) ∧ Below w.heap.size w w' := by
  have m1 := i64_and15 a2
  have bd := bounds_i64 _w0
  obtain ⟨T, hT, hT2⟩ : ∃ x : Nat, a2 % 16 = x ∧ x ≤ 15 := ⟨(a2 % 16).toNat, by omega, by omega⟩
  rw [hT] at m1
  clear hT _w0 _w1 _w2
  have BD := Lib.hid bd
  clear bd
  go_enter Try.func5, Try.ntmps5
  go_wp2_with fail
  refine (make_int _ (.inr ⟨_, _, rfl⟩) _).mono ?_
  rintro e w1 ⟨rfl, l1, B1, z1⟩
  have e0 := blk_alloc (p := .cells #[.int .i64 0] 3 (0, 0)) (blk_alloc (p := .cells #[.string s] 9 (0, 0)) (blk_new w (.cells #[.int .i64 n] 3 (0, 0))))
  have e1 := blk_alloc (p := .cells #[.int .i64 0] 3 (0, 0)) (blk_new (w.alloc (.cells #[.int .i64 n] 3 (0, 0))) (.cells #[.string s] 9 (0, 0)))
  have e2 := blk_new ((w.alloc (.cells #[.int .i64 n] 3 (0, 0))).alloc (.cells #[.string s] 9 (0, 0))) (.cells #[.int .i64 0] 3 (0, 0))
  have K1 := Lib.hid (And.intro (below_keep B1 e0) (And.intro (below_keep B1 e1) (And.intro (below_keep B1 e2) (And.intro l1 ((((Below.refl w.heap.size w).alloc (Nat.le_refl _) _).alloc (by simp) _).alloc (by simp only [World.size_alloc]; omega) _ |>.trans (B1.mono (by simp only [World.size_alloc]; omega)))))))
  clear e0 e1 e2 l1 B1
  simp only [World.size_alloc] at K1 z1
  go_wp2_with fail
  refine (make_string _ (.inr ⟨_, _, rfl⟩) w1).mono ?_
  rintro e w2 ⟨rfl, l2, B2, z2⟩
  have L2 := Lib.hid l2
  have BB2 := Lib.hid B2
  clear l2 B2
  go_wp2_with fail
  refine (make_uint64 _ (.inl rfl) w2).mono ?_
  rintro e w3 ⟨rfl, l3, B3, z3⟩
  have hB3 : Below w.heap.size w w3 := bl_next (bl_next K1.out.2.2.2.2 BB2.out) B3
  have hZ3 : LZ1 w3 (w.heap.size + 1 + 1) w.heap.size (w.heap.size + 1) (w.heap.size + 1 + 1 + 1) w1.heap.size w2.heap.size n s 0 0 0 (.int .i64 0) (.string ByteArray.empty) :=
    ⟨below_keep B3 (below_keep BB2.out K1.out.2.2.1), below_keep B3 (below_keep BB2.out K1.out.1), below_keep B3 (below_keep BB2.out K1.out.2.1), below_keep B3 (below_keep BB2.out K1.out.2.2.2.1), below_keep B3 L2.out, l3⟩
  have hsix : Six (w.heap.size + 1 + 1) w.heap.size (w.heap.size + 1) (w.heap.size + 1 + 1 + 1) w1.heap.size w2.heap.size := ⟨by omega, by omega, by omega, by omega, by omega⟩
  have HZ := Lib.hid hZ3
  have HB := Lib.hid hB3
  have H6 := Lib.hid hsix
  clear l3 B3 hZ3 hB3 hsix L2 BB2 K1
  obtain ⟨p, hp⟩ : ∃ p, w.heap.size + 1 + 1 = p := ⟨_, rfl⟩
  obtain ⟨q, hq⟩ : ∃ q, w.heap.size = q := ⟨_, rfl⟩
  obtain ⟨r, hr⟩ : ∃ r, w.heap.size + 1 = r := ⟨_, rfl⟩
  obtain ⟨A, hA⟩ : ∃ A, w.heap.size + 1 + 1 + 1 = A := ⟨_, rfl⟩
  obtain ⟨B, hB⟩ : ∃ B, w1.heap.size = B := ⟨_, rfl⟩
  obtain ⟨C, hC⟩ : ∃ C, w2.heap.size = C := ⟨_, rfl⟩
  rw [hA, hB, hC, hp, hr] at HZ H6
  rw [hA, hB, hC, hp, hr]
  rw [hq] at HZ H6 HB
  rw [hq]
  have HQ := Lib.hid hq
  clear hp hr hA hB hC z1 z2 z3 hq
  have cp := blk_cell HZ.out.hp 0
  simp at cp
  have HDA := Lib.hid (done_int A _ _ 0 0 0 false (by decide) w3 HZ.out.hA)
  have HDB := Lib.hid (done_string B _ _ 0 0 0 false (by decide) w3 HZ.out.hB)
  have HDC := Lib.hid (done_uint64 C _ _ 0 0 0 false (by decide) w3 HZ.out.hC)
  go_wp2_with fail
  refine HDA.out.mono ?_
  rintro e w4 ⟨rfl, rfl⟩
  go_wp2_with fail
  refine HDB.out.mono ?_
  rintro e w4 ⟨rfl, rfl⟩
  go_wp2_with fail
  refine HDC.out.mono ?_
  rintro e w4 ⟨rfl, rfl⟩
  clear HDA HDB HDC
  go_wp2_with fail
  go_loopw [11] (fun i wr => ∃ (k : Nat), k ≤ T + 1 ∧ i = .int .i64 k ∧ Below q w wr ∧ ((k = 0 ∧ LZ1 wr p q r A B C n s 0 0 0 (.int .i64 0) (.string ByteArray.empty)) ∨ (0 < k ∧ LZ1 wr p q r A B C n s 1 1 1 (.int .i64 n) (.string s)))) (fun i _ => T + 1 - (intOf i).toNat)
  case atStart => exact ⟨0, by omega, rfl, HB.out, .inl ⟨rfl, HZ.out⟩⟩
  case round =>
    obtain ⟨k, hk, rfl, hBw, hst⟩ := hrel
    have HBW := Lib.hid hBw
    clear hBw HB HZ cp
    by_cases hlt : k ≤ T
    · rcases hst with ⟨rfl, hz⟩ | ⟨hk0, hz⟩
      · have hqs : q ≤ wr.heap.size := by have := HBW.out.size; have := HQ.out; omega
        obtain ⟨c0, c1, c2⟩ := hz.cells
        have HZ := Lib.hid hz
        have HA1 := Lib.hid (fun W (hW : W = wr ∨ W = wr.drew) => step_A (w := W) (B0 := q) H6.out (Nat.le_refl _) (by rcases hW with rfl | rfl; exact hqs; exact hqs) BD.out (by rcases hW with rfl | rfl; exact hz; exact hz.drew))
        have HB1 := Lib.hid (fun W (h : LZ1 W p q r A B C n s 1 0 0 (.int .i64 n) (.string ByteArray.empty)) (hW : q ≤ W.heap.size) => step_B (w := W) (B0 := q) H6.out (Nat.le_refl _) hW h)
        have HC1 := Lib.hid (fun W (h : LZ1 W p q r A B C n s 1 1 0 (.int .i64 n) (.string s)) (hW : q ≤ W.heap.size) => step_C (w := W) (B0 := q) H6.out (Nat.le_refl _) hW h)
        clear hz
        go_wp2_with fail
        go_region_with (first | (go_at_call 28; refine (HA1.out _ (by first | exact .inl rfl | exact .inr rfl)).mono ?_; rintro e wA ⟨rfl, zA, bA⟩; obtain ⟨e0, e1, e2⟩ := zA.cells) | (go_at_call 29; refine (HB1.out _ zA (Nat.le_trans hqs bA.size)).mono ?_; rintro e wB ⟨rfl, zB, bB⟩; obtain ⟨b0, b1, b2⟩ := zB.cells) | (go_at_call 30; refine (HC1.out _ zB (Nat.le_trans hqs (Nat.le_trans bA.size bB.size))).mono ?_; rintro e wC ⟨rfl, zC, bC⟩; obtain ⟨d0, d1, d2⟩ := zC.cells))
        all_goals
          have HZC := Lib.hid zC
          have hA0 : Below q wr wA := by first | exact bA | exact (Below.drew (Below.refl _ _)).trans bA
          have HBC := Lib.hid (HBW.out.trans (hA0.trans (bB.trans bC)))
          clear hA0
          clear zA zB zC bA bB bC HZ
          go_wp2_with fail
          go_roundw
          case rel => exact ⟨0 + 1, by omega, by go_num, HBC.out, .inr ⟨by omega, HZC.out⟩⟩
          case measure => simp [intOf]
      · have hqs : q ≤ wr.heap.size := by have := HBW.out.size; have := HQ.out; omega
        obtain ⟨c0, c1, c2⟩ := hz.cells
        have HZ := Lib.hid hz
        have HA1 := Lib.hid (fun W (hW : W = wr ∨ W = wr.drew) => (get_again_int A _ n 1 W (by rcases hW with rfl | rfl; exact hz.hA; exact hz.drew.hA)).mono (fun (e : Ending) (w' : World) ⟨he, hb⟩ => (show e = Ending.returned (.int .i64 n) ∧ LZ1 w' p q r A B C n s 1 1 1 (.int .i64 n) (.string s) ∧ Below W.heap.size W w' from ⟨he, (by rcases hW with rfl | rfl; exact hz.below hb; exact hz.drew.below hb), hb⟩)))
        have HB1 := Lib.hid (fun W (h : LZ1 W p q r A B C n s 1 1 1 (.int .i64 n) (.string s)) => (get_again_string B _ s 1 W h.hB).mono (fun (e : Ending) (w' : World) ⟨he, hb⟩ => (show e = Ending.returned (.string s) ∧ LZ1 w' p q r A B C n s 1 1 1 (.int .i64 n) (.string s) ∧ Below W.heap.size W w' from ⟨he, h.below hb, hb⟩)))
        have HC1 := Lib.hid (fun W (h : LZ1 W p q r A B C n s 1 1 1 (.int .i64 n) (.string s)) => (get_again_uint64 C _ 0 0 W h.hC).mono (fun (e : Ending) (w' : World) ⟨he, hb⟩ => (show e = Ending.returned (.int .u64 0) ∧ LZ1 w' p q r A B C n s 1 1 1 (.int .i64 n) (.string s) ∧ Below W.heap.size W w' from ⟨he, h.below hb, hb⟩)))
        clear hz
        go_wp2_with fail
        go_region_with (first | (go_at_call 28; refine (HA1.out _ (by first | exact .inl rfl | exact .inr rfl)).mono ?_; rintro e wA ⟨rfl, zA, bA⟩; obtain ⟨e0, e1, e2⟩ := zA.cells) | (go_at_call 29; refine (HB1.out _ zA).mono ?_; rintro e wB ⟨rfl, zB, bB⟩; obtain ⟨b0, b1, b2⟩ := zB.cells) | (go_at_call 30; refine (HC1.out _ zB).mono ?_; rintro e wC ⟨rfl, zC, bC⟩; obtain ⟨d0, d1, d2⟩ := zC.cells))
        all_goals
          have HZC := Lib.hid zC
          have hb0 : Below q wr wA := by first | exact bA.mono hqs | exact (Below.drew (Below.refl _ _)).trans (bA.mono hqs)
          have HBC := Lib.hid (HBW.out.trans (hb0.trans ((bB.mono (Nat.le_trans hqs hb0.size)).trans (bC.mono (Nat.le_trans hqs (Nat.le_trans hb0.size bB.size))))))
          clear zA zB zC bA bB bC hb0 HZ
          go_wp2_with fail
          go_roundw
          case rel => exact ⟨k + 1, by omega, by go_num, HBC.out, .inr ⟨by omega, HZC.out⟩⟩
          case measure => simp [intOf]; omega
    · have hz : LZ1 wr p q r A B C n s 1 1 1 (.int .i64 n) (.string s) := by
        rcases hst with ⟨h, _⟩ | ⟨_, h⟩
        · omega
        · exact h
      clear hst
      have HDA := Lib.hid (done_int A _ _ 1 0 1 true (by decide) wr hz.hA)
      have HDB := Lib.hid (done_string B _ _ 1 0 1 true (by decide) wr hz.hB)
      clear hz
      go_wp2_with fail
      refine HDA.out.mono ?_
      rintro e w4 ⟨rfl, rfl⟩
      go_wp2_with fail
      refine HDB.out.mono ?_
      rintro e w4 ⟨rfl, rfl⟩
      go_wp2_with fail
      refine (awake18_any _).mono ?_
      rintro e w5 ⟨rfl, b5⟩
      go_wp2_with fail
      go_ret
      refine ⟨rfl, ?_⟩
      rw [HQ.out]
      exact HBW.out.trans (b5.mono (by have := HBW.out.size; have := HQ.out; omega))

end Go.Proofs.Ytfjoghbkfkbbdaa
