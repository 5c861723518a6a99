/- outcome: Get and Count; Lazy at its types; Gate. -/
import Derived.Test.YtfjoghbkfkbbdaaS2
import Derived.Deep.RegionWith
namespace Go.Proofs.Ytfjoghbkfkbbdaa
open Go.RowKit

set_option maxHeartbeats 400000 in
theorem out_get (b : Nat) (d n s r : Int) (t : Bool) (ht : (s != 0) = t) (w : World) (h : OutAt w b d n s r) :
    Calls Try.prog 17 #[.pointer (some ⟨b, 0, none⟩)] w fun e w' => e = .returned (.tuple #[.int .i64 s, .int .i64 r, .bool t]) ∧ Below w.heap.size w w' := by
  have c4 := blk_cell h 4
  have c5 := blk_cell h 5
  simp at c4 c5
  clear h
  go_enter Try.func17, Try.ntmps17
  go_wp2_with fail
  go_quiet (fail)
  go_wp2_with fail
  exact bodyPost_ret (v := .tuple #[.int .i64 s, .int .i64 r, .bool t]) (by simp [results, Try.results17, go_sem]) rfl ⟨rfl, below_drewN (Below.refl _ _) _⟩

set_option maxHeartbeats 400000 in
theorem out_count (b : Nat) (d n s r : Int) (w : World) (h : OutAt w b d n s r) :
    Calls Try.prog 18 #[.pointer (some ⟨b, 0, none⟩)] w fun e w' => e = .returned (.int .i64 n) ∧ w = w' := by
  have H := Lib.hid (i64_load b 3 n w ((blk_cell h 3).trans rfl))
  clear h
  go_enter Try.func18, Try.ntmps18
  go_wp2_with fail
  refine H.out.mono ?_
  rintro e w1 ⟨rfl, rfl⟩
  go_wp2_with fail
  go_ret
  exact ⟨rfl, rfl⟩

set_option maxHeartbeats 400000 in
theorem flag_store (b off : Nat) (d : Int) (w : World) (hc : w.cell? ⟨b, off, none⟩ = some (.int .u32 d)) (hz : w.frozen? ⟨b, off, none⟩ = false) :
    Calls Try.prog 67 #[.pointer (some ⟨b, off, none⟩), .bool true] w fun e w' => e = .returned (.tuple #[]) ∧ w.drew.setCell ⟨b, off, none⟩ (.int .u32 1) = w' := by
  have hc' : w.drew.cell? ⟨b, off, none⟩ = some (.int .u32 d) := by go_simp
  have hz' : w.drew.frozen? ⟨b, off, none⟩ = false := by go_simp
  have hst := run_call_store (P := Try.prog) Try.func83 (by kernel_rfl) (by kernel_rfl) (by kernel_rfl) (by kernel_rfl) (k := .u32) (y := 1) hc' hz'
  go_enter Try.func67, Try.ntmps67
  go_wp2
  go_region_calls
  all_goals (go_end0; exact ⟨rfl, rfl⟩)

set_option maxHeartbeats 400000 in
theorem flag_load (b off : Nat) (d : Int) (t : Bool) (ht : (d != 0) = t) (w : World) (hc : w.cell? ⟨b, off, none⟩ = some (.int .u32 d)) :
    Calls Try.prog 65 #[.pointer (some ⟨b, off, none⟩)] w fun e w' => e = .returned (.bool t) ∧ w = w' := by
  have hl := run_call_load (P := Try.prog) Try.func82 (by kernel_rfl) (by kernel_rfl) (by kernel_rfl) .u32 (by kernel_rfl) hc
  go_enter Try.func65, Try.ntmps65
  go_wp2
  exact bodyPost_ret (v := .bool t) (by simp [results, Try.results65, go_sem]) rfl ⟨rfl, rfl⟩

/-- A lazy value in memory. -/
def LazyAt (w : World) (b : Nat) (T : TypeId) (f : Value) (d m : Int) (x : Value) (n : Int) : Prop := w.heap[b]? = some (.cells #[f, .int .u32 d, .int .i32 m, .int .u32 0, x, .int .u32 n] T (0, 0))
def lazyEnd (w : World) (b : Nat) (v : Value) : World := ((w.setCell ⟨b, 4, none⟩ v).setCell ⟨b, 5, none⟩ (.int .u32 1)).drew

theorem lazyEnd_at {w : World} {b : Nat} {T : TypeId} {f x v : Value} {d m : Int} (h : LazyAt w b T f d m x 0) : LazyAt (lazyEnd w b v) b T f d m v 1 := blk_set (i := 5) (blk_set (i := 4) h)
theorem lazyEnd_keep {w : World} {b k : Nat} {v : Value} {o : Obj} (hk : k ≠ b) (h : w.heap[k]? = some o) : (lazyEnd w b v).heap[k]? = some o := blk_other (p := ⟨b, 5, none⟩) (blk_other (p := ⟨b, 4, none⟩) h hk) hk
theorem lazyEnd_only (w : World) (b : Nat) (v : Value) : Only b w (lazyEnd w b v) := (((Only.refl b w).setCell (p := ⟨b, 4, none⟩) (.inl rfl) _).setCell (p := ⟨b, 5, none⟩) (.inl rfl) _).drew
/-- What a first Get leaves. -/
def LazyGot (w : World) (b : Nat) (T : TypeId) (f v : Value) (n : Int) (U : World → World) (e : Ending) (w' : World) : Prop := e = .returned v ∧ LazyAt w' b T f 1 0 v n ∧ ∃ W, Only b w W ∧ Only b (U W) w'


set_option maxHeartbeats 400000 in
theorem make_int (f : Value) (hf : f = .nilFunc ∨ ∃ g caps, f = .func (.func g) #[] caps) (w : World) : Calls Try.prog 20 #[f] w fun e w' => e = .returned (.pointer (some ⟨w.heap.size, 0, none⟩)) ∧ LazyAt w' w.heap.size 103 f 0 0 (.int .i64 0) 0 ∧ Below w.heap.size w w' ∧ w.heap.size < w'.heap.size := by
  rcases hf with rfl | ⟨g, caps, rfl⟩
  all_goals
    go_enter Try.func20, Try.ntmps20
    go_wp2
    go_ret
    exact ⟨rfl, blk_new _ _, (Below.refl _ _).alloc (Nat.le_refl _) _, by simp⟩

set_option maxHeartbeats 400000 in
theorem done_int (b : Nat) (f x : Value) (d m n : Int) (t : Bool) (ht : (n != 0) = t) (w : World) (h : LazyAt w b 103 f d m x n) :
    Calls Try.prog 25 #[.pointer (some ⟨b, 0, none⟩)] w fun e w' => e = .returned (.bool t) ∧ w = w' := by
  have H := Lib.hid (flag_load b 5 n t ht w ((blk_cell h 5).trans rfl))
  clear h ht
  go_enter Try.func25, Try.ntmps25
  go_wp2_with fail
  refine H.out.mono ?_
  rintro e w1 ⟨rfl, rfl⟩
  go_wp2_with fail
  go_ret
  exact ⟨rfl, rfl⟩

set_option maxRecDepth 100000 in
set_option maxHeartbeats 800000 in
theorem lazyClo_int (b p0 : Nat) (g : FuncId) (caps : Array Value) (x : Value) (y : Int) (w w1 : World) (hcf : ∀ args w, (callFunc g args).run Try.prog w = .ok (.enter g args) w) (h : LazyAt w b 103 (.func (.func g) #[] caps) 0 1 x 0)
    (h0 : w.heap[p0]? = some (.cells #[.pointer (some ⟨b, 0, none⟩)] 32 (0, 0))) (hg : Calls Try.prog g caps w.drew fun e w' => e = .returned (.int .i64 y) ∧ w' = w1)
    (h' : LazyAt w1 b 103 (.func (.func g) #[] caps) 0 1 x 0) (h0' : w1.heap[p0]? = some (.cells #[.pointer (some ⟨b, 0, none⟩)] 32 (0, 0))) :
    Calls Try.prog 66 #[.pointer (some ⟨p0, 0, none⟩)] w fun e w2 => e = .returned (.tuple #[]) ∧ lazyEnd w1 b (.int .i64 y) = w2 := by
  have hrun : ∀ w : World, (binOp .neq 27 (.func (.func g) #[] caps) .nilFunc).run Try.prog w = .ok (.bool true) w := fun w => by kernel_rfl
  have c0 := blk_cell h0 0
  have c0' := blk_cell h0' 0
  have cb0 := blk_cell h 0
  have cb4 := blk_cell h' 4
  have zb4 := blk_free h' 4
  simp at c0 c0' cb0 cb4
  have hb := Lib.hid h'
  have HG := Lib.hid hg
  clear h h0 h' h0' hg
  go_enter Try.func66, Try.ntmps66
  go_wp2_with fail
  go_region_with (refine HG.out.mono ?_; rintro e w' ⟨rfl, rfl⟩)
  all_goals
    have HS := flag_store b 5 0 (World.setCell w' ⟨b, 4, none⟩ (.int .i64 y)) ((blk_cell (blk_set hb.out) 5).trans rfl) (blk_free (blk_set hb.out) 5)
    go_wp2_with fail
    refine HS.mono ?_
    rintro e w2 ⟨rfl, rfl⟩
    go_wp2_with fail
    go_end0
    exact ⟨rfl, rfl⟩

theorem lazyClo_int_enters (args : Array Value) (w : World) : (callFunc 66 args).run Try.prog w = .ok (.enter 66 args) w :=
  enters_body Try.func66 (by kernel_rfl) rfl args w

set_option maxRecDepth 100000 in
set_option maxHeartbeats 1600000 in
theorem get_first_int (b : Nat) (g : FuncId) (caps : Array Value) (x : Value) (y : Int) (U : World → World) (w : World) (hcf : ∀ args w, (callFunc g args).run Try.prog w = .ok (.enter g args) w) (h : LazyAt w b 103 (.func (.func g) #[] caps) 0 0 x 0)
    (hg : ∀ W, Only b w W → Calls Try.prog g caps W fun e w' => e = .returned (.int .i64 y) ∧ w' = U W) (hU : ∀ W k o, (k = b ∨ w.heap.size ≤ k) → W.heap[k]? = some o → (U W).heap[k]? = some o) :
    Calls Try.prog 28 #[.pointer (some ⟨b, 0, none⟩)] w (LazyGot w b 103 (.func (.func g) #[] caps) (.int .i64 y) 1 U) := by
  have hlt := blk_lt h
  have hb := Lib.hid h
  have HG := Lib.hid hg
  have HU := Lib.hid (fun (W : World) k o hk (hW : W.heap[k]? = some o) => hU W.drew k o hk hW)
  have HC := Lib.hid hcf
  clear h hg hU hcf
  go_enter Try.func28, Try.ntmps28
  go_wp2_with fail
  have k1 := blk_alloc (p := .cells #[.pointer (some ⟨b, 0, none⟩)] 32 (0, 0)) hb.out
  have k2 := blk_new w (.cells #[.pointer (some ⟨b, 0, none⟩)] 32 (0, 0))
  have m1 := blk_set (i := 2) (u := .int .i32 1) k1
  have m2 := blk_other (p := ⟨b, 2, none⟩) (u := .int .i32 1) k2 (by show w.heap.size ≠ b; omega)
  have o1 := ((Only.refl b w).alloc (.cells #[.pointer (some ⟨b, 0, none⟩)] 32 (0, 0))).setCell (p := ⟨b, 2, none⟩) (.inl rfl) (.int .i32 1)
  have n1 := HU.out _ b _ (.inl rfl) m1
  have n2 := HU.out _ w.heap.size _ (.inr (Nat.le_refl _)) m2
  have hclo := lazyClo_int b w.heap.size g caps x y _ _ HC.out m1 m2 (HG.out _ o1.drew) n1 n2
  refine (once_first b 1 _ _ _ _ lazyClo_int_enters ((blk_cell k1 1).trans rfl) ((blk_cell k1 2).trans rfl) (blk_free k1 2) hclo ?_).mono ?_
  · rintro w2 rfl
    have q := lazyEnd_at (v := .int .i64 y) (show LazyAt _ b _ _ 0 1 x 0 from n1)
    exact ⟨(blk_cell q 1).trans rfl, (blk_cell q 2).trans rfl, blk_free q 1, blk_free q 2⟩
  rintro e w2 ⟨rfl, w3, hw3, rfl⟩
  have q1 := lazyEnd_at (v := .int .i64 y) (show LazyAt _ b _ _ 0 1 x 0 from n1)
  have q2 := lazyEnd_keep (b := b) (v := .int .i64 y) (by omega) n2
  have q3 := lazyEnd_only (U (World.drew (World.setCell (World.alloc w (.cells #[.pointer (some ⟨b, 0, none⟩)] 32 (0, 0))) ⟨b, 2, none⟩ (.int .i32 1)))) b (.int .i64 y)
  have o2 := o1.drew
  rw [hw3] at q1 q2 q3
  clear hw3 k1 k2 m1 m2 n1 n2 o1 hclo
  have cp := (blk_cell q2 0).trans (by rfl : _ = some (Value.pointer (some ⟨b, 0, none⟩)))
  have cv := (blk_cell q1 4).trans (by rfl : _ = some (.int .i64 y))
  have kk := Lib.hid (And.intro q1 (And.intro o2 q3))
  clear q1 q2 q3 o2
  go_wp2_with fail
  go_ret
  refine ⟨rfl, ?_, _, kk.out.2.1, ?_⟩
  · exact blk_set (i := 2) (blk_set (i := 1) kk.out.1)
  · exact ((kk.out.2.2.setCell (p := ⟨b, 1, none⟩) (.inl rfl) _).setCell (p := ⟨b, 2, none⟩) (.inl rfl) _).drew

set_option maxHeartbeats 800000 in
theorem get_again_int (b : Nat) (f : Value) (y : Int) (n : Int) (w : World) (h : LazyAt w b 103 f 1 0 (.int .i64 y) n) :
    Calls Try.prog 28 #[.pointer (some ⟨b, 0, none⟩)] w fun e w' => e = .returned (.int .i64 y) ∧ Below w.heap.size w w' := by
  have hlt := blk_lt h
  have hb := Lib.hid h
  clear h
  go_enter Try.func28, Try.ntmps28
  go_wp2_with fail
  have k1 := blk_alloc (p := .cells #[.pointer (some ⟨b, 0, none⟩)] 32 (0, 0)) hb.out
  have k2 := blk_new w (.cells #[.pointer (some ⟨b, 0, none⟩)] 32 (0, 0))
  refine (once_done b 1 1 (by decide) _ _ ((blk_cell k1 1).trans rfl)).mono ?_
  rintro e w2 ⟨rfl, rfl⟩
  have cp := (blk_cell k2 0).trans (by rfl : _ = some (Value.pointer (some ⟨b, 0, none⟩)))
  have cv := (blk_cell k1 4).trans (by rfl : _ = some (.int .i64 y))
  clear k1 k2
  go_wp2_with fail
  go_ret
  exact ⟨rfl, (Below.refl _ _).alloc (Nat.le_refl _) _⟩


set_option maxHeartbeats 400000 in
theorem make_string (f : Value) (hf : f = .nilFunc ∨ ∃ g caps, f = .func (.func g) #[] caps) (w : World) : Calls Try.prog 22 #[f] w fun e w' => e = .returned (.pointer (some ⟨w.heap.size, 0, none⟩)) ∧ LazyAt w' w.heap.size 105 f 0 0 (.string ByteArray.empty) 0 ∧ Below w.heap.size w w' ∧ w.heap.size < w'.heap.size := by
  rcases hf with rfl | ⟨g, caps, rfl⟩
  all_goals
    go_enter Try.func22, Try.ntmps22
    go_wp2
    go_ret
    exact ⟨rfl, blk_new _ _, (Below.refl _ _).alloc (Nat.le_refl _) _, by simp⟩

set_option maxHeartbeats 400000 in
theorem done_string (b : Nat) (f x : Value) (d m n : Int) (t : Bool) (ht : (n != 0) = t) (w : World) (h : LazyAt w b 105 f d m x n) :
    Calls Try.prog 26 #[.pointer (some ⟨b, 0, none⟩)] w fun e w' => e = .returned (.bool t) ∧ w = w' := by
  have H := Lib.hid (flag_load b 5 n t ht w ((blk_cell h 5).trans rfl))
  clear h ht
  go_enter Try.func26, Try.ntmps26
  go_wp2_with fail
  refine H.out.mono ?_
  rintro e w1 ⟨rfl, rfl⟩
  go_wp2_with fail
  go_ret
  exact ⟨rfl, rfl⟩

set_option maxRecDepth 100000 in
set_option maxHeartbeats 800000 in
theorem lazyClo_string (b p0 : Nat) (g : FuncId) (caps : Array Value) (x : Value) (y : ByteArray) (w w1 : World) (hcf : ∀ args w, (callFunc g args).run Try.prog w = .ok (.enter g args) w) (h : LazyAt w b 105 (.func (.func g) #[] caps) 0 1 x 0)
    (h0 : w.heap[p0]? = some (.cells #[.pointer (some ⟨b, 0, none⟩)] 34 (0, 0))) (hg : Calls Try.prog g caps w.drew fun e w' => e = .returned (.string y) ∧ w' = w1)
    (h' : LazyAt w1 b 105 (.func (.func g) #[] caps) 0 1 x 0) (h0' : w1.heap[p0]? = some (.cells #[.pointer (some ⟨b, 0, none⟩)] 34 (0, 0))) :
    Calls Try.prog 68 #[.pointer (some ⟨p0, 0, none⟩)] w fun e w2 => e = .returned (.tuple #[]) ∧ lazyEnd w1 b (.string y) = w2 := by
  have hrun : ∀ w : World, (binOp .neq 36 (.func (.func g) #[] caps) .nilFunc).run Try.prog w = .ok (.bool true) w := fun w => by kernel_rfl
  have c0 := blk_cell h0 0
  have c0' := blk_cell h0' 0
  have cb0 := blk_cell h 0
  have cb4 := blk_cell h' 4
  have zb4 := blk_free h' 4
  simp at c0 c0' cb0 cb4
  have hb := Lib.hid h'
  have HG := Lib.hid hg
  clear h h0 h' h0' hg
  go_enter Try.func68, Try.ntmps68
  go_wp2_with fail
  go_region_with (refine HG.out.mono ?_; rintro e w' ⟨rfl, rfl⟩)
  all_goals
    have HS := flag_store b 5 0 (World.setCell w' ⟨b, 4, none⟩ (.string y)) ((blk_cell (blk_set hb.out) 5).trans rfl) (blk_free (blk_set hb.out) 5)
    go_wp2_with fail
    refine HS.mono ?_
    rintro e w2 ⟨rfl, rfl⟩
    go_wp2_with fail
    go_end0
    exact ⟨rfl, rfl⟩

theorem lazyClo_string_enters (args : Array Value) (w : World) : (callFunc 68 args).run Try.prog w = .ok (.enter 68 args) w :=
  enters_body Try.func68 (by kernel_rfl) rfl args w

set_option maxRecDepth 100000 in
set_option maxHeartbeats 1600000 in
theorem get_first_string (b : Nat) (g : FuncId) (caps : Array Value) (x : Value) (y : ByteArray) (U : World → World) (w : World) (hcf : ∀ args w, (callFunc g args).run Try.prog w = .ok (.enter g args) w) (h : LazyAt w b 105 (.func (.func g) #[] caps) 0 0 x 0)
    (hg : ∀ W, Only b w W → Calls Try.prog g caps W fun e w' => e = .returned (.string y) ∧ w' = U W) (hU : ∀ W k o, (k = b ∨ w.heap.size ≤ k) → W.heap[k]? = some o → (U W).heap[k]? = some o) :
    Calls Try.prog 29 #[.pointer (some ⟨b, 0, none⟩)] w (LazyGot w b 105 (.func (.func g) #[] caps) (.string y) 1 U) := by
  have hlt := blk_lt h
  have hb := Lib.hid h
  have HG := Lib.hid hg
  have HU := Lib.hid (fun (W : World) k o hk (hW : W.heap[k]? = some o) => hU W.drew k o hk hW)
  have HC := Lib.hid hcf
  clear h hg hU hcf
  go_enter Try.func29, Try.ntmps29
  go_wp2_with fail
  have k1 := blk_alloc (p := .cells #[.pointer (some ⟨b, 0, none⟩)] 34 (0, 0)) hb.out
  have k2 := blk_new w (.cells #[.pointer (some ⟨b, 0, none⟩)] 34 (0, 0))
  have m1 := blk_set (i := 2) (u := .int .i32 1) k1
  have m2 := blk_other (p := ⟨b, 2, none⟩) (u := .int .i32 1) k2 (by show w.heap.size ≠ b; omega)
  have o1 := ((Only.refl b w).alloc (.cells #[.pointer (some ⟨b, 0, none⟩)] 34 (0, 0))).setCell (p := ⟨b, 2, none⟩) (.inl rfl) (.int .i32 1)
  have n1 := HU.out _ b _ (.inl rfl) m1
  have n2 := HU.out _ w.heap.size _ (.inr (Nat.le_refl _)) m2
  have hclo := lazyClo_string b w.heap.size g caps x y _ _ HC.out m1 m2 (HG.out _ o1.drew) n1 n2
  refine (once_first b 1 _ _ _ _ lazyClo_string_enters ((blk_cell k1 1).trans rfl) ((blk_cell k1 2).trans rfl) (blk_free k1 2) hclo ?_).mono ?_
  · rintro w2 rfl
    have q := lazyEnd_at (v := .string y) (show LazyAt _ b _ _ 0 1 x 0 from n1)
    exact ⟨(blk_cell q 1).trans rfl, (blk_cell q 2).trans rfl, blk_free q 1, blk_free q 2⟩
  rintro e w2 ⟨rfl, w3, hw3, rfl⟩
  have q1 := lazyEnd_at (v := .string y) (show LazyAt _ b _ _ 0 1 x 0 from n1)
  have q2 := lazyEnd_keep (b := b) (v := .string y) (by omega) n2
  have q3 := lazyEnd_only (U (World.drew (World.setCell (World.alloc w (.cells #[.pointer (some ⟨b, 0, none⟩)] 34 (0, 0))) ⟨b, 2, none⟩ (.int .i32 1)))) b (.string y)
  have o2 := o1.drew
  rw [hw3] at q1 q2 q3
  clear hw3 k1 k2 m1 m2 n1 n2 o1 hclo
  have cp := (blk_cell q2 0).trans (by rfl : _ = some (Value.pointer (some ⟨b, 0, none⟩)))
  have cv := (blk_cell q1 4).trans (by rfl : _ = some (.string y))
  have kk := Lib.hid (And.intro q1 (And.intro o2 q3))
  clear q1 q2 q3 o2
  go_wp2_with fail
  go_ret
  refine ⟨rfl, ?_, _, kk.out.2.1, ?_⟩
  · exact blk_set (i := 2) (blk_set (i := 1) kk.out.1)
  · exact ((kk.out.2.2.setCell (p := ⟨b, 1, none⟩) (.inl rfl) _).setCell (p := ⟨b, 2, none⟩) (.inl rfl) _).drew

set_option maxHeartbeats 800000 in
theorem get_again_string (b : Nat) (f : Value) (y : ByteArray) (n : Int) (w : World) (h : LazyAt w b 105 f 1 0 (.string y) n) :
    Calls Try.prog 29 #[.pointer (some ⟨b, 0, none⟩)] w fun e w' => e = .returned (.string y) ∧ Below w.heap.size w w' := by
  have hlt := blk_lt h
  have hb := Lib.hid h
  clear h
  go_enter Try.func29, Try.ntmps29
  go_wp2_with fail
  have k1 := blk_alloc (p := .cells #[.pointer (some ⟨b, 0, none⟩)] 34 (0, 0)) hb.out
  have k2 := blk_new w (.cells #[.pointer (some ⟨b, 0, none⟩)] 34 (0, 0))
  refine (once_done b 1 1 (by decide) _ _ ((blk_cell k1 1).trans rfl)).mono ?_
  rintro e w2 ⟨rfl, rfl⟩
  have cp := (blk_cell k2 0).trans (by rfl : _ = some (Value.pointer (some ⟨b, 0, none⟩)))
  have cv := (blk_cell k1 4).trans (by rfl : _ = some (.string y))
  clear k1 k2
  go_wp2_with fail
  go_ret
  exact ⟨rfl, (Below.refl _ _).alloc (Nat.le_refl _) _⟩


set_option maxHeartbeats 400000 in
theorem make_uint64 (f : Value) (hf : f = .nilFunc ∨ ∃ g caps, f = .func (.func g) #[] caps) (w : World) : Calls Try.prog 24 #[f] w fun e w' => e = .returned (.pointer (some ⟨w.heap.size, 0, none⟩)) ∧ LazyAt w' w.heap.size 107 f 0 0 (.int .u64 0) 0 ∧ Below w.heap.size w w' ∧ w.heap.size < w'.heap.size := by
  rcases hf with rfl | ⟨g, caps, rfl⟩
  all_goals
    go_enter Try.func24, Try.ntmps24
    go_wp2
    go_ret
    exact ⟨rfl, blk_new _ _, (Below.refl _ _).alloc (Nat.le_refl _) _, by simp⟩

set_option maxHeartbeats 400000 in
theorem done_uint64 (b : Nat) (f x : Value) (d m n : Int) (t : Bool) (ht : (n != 0) = t) (w : World) (h : LazyAt w b 107 f d m x n) :
    Calls Try.prog 27 #[.pointer (some ⟨b, 0, none⟩)] w fun e w' => e = .returned (.bool t) ∧ w = w' := by
  have H := Lib.hid (flag_load b 5 n t ht w ((blk_cell h 5).trans rfl))
  clear h ht
  go_enter Try.func27, Try.ntmps27
  go_wp2_with fail
  refine H.out.mono ?_
  rintro e w1 ⟨rfl, rfl⟩
  go_wp2_with fail
  go_ret
  exact ⟨rfl, rfl⟩

set_option maxRecDepth 100000 in
set_option maxHeartbeats 800000 in
theorem lazyClo_uint64 (b p0 : Nat) (g : FuncId) (caps : Array Value) (x : Value) (y : Int) (w w1 : World) (hcf : ∀ args w, (callFunc g args).run Try.prog w = .ok (.enter g args) w) (h : LazyAt w b 107 (.func (.func g) #[] caps) 0 1 x 0)
    (h0 : w.heap[p0]? = some (.cells #[.pointer (some ⟨b, 0, none⟩)] 37 (0, 0))) (hg : Calls Try.prog g caps w.drew fun e w' => e = .returned (.int .u64 y) ∧ w' = w1)
    (h' : LazyAt w1 b 107 (.func (.func g) #[] caps) 0 1 x 0) (h0' : w1.heap[p0]? = some (.cells #[.pointer (some ⟨b, 0, none⟩)] 37 (0, 0))) :
    Calls Try.prog 69 #[.pointer (some ⟨p0, 0, none⟩)] w fun e w2 => e = .returned (.tuple #[]) ∧ lazyEnd w1 b (.int .u64 y) = w2 := by
  have hrun : ∀ w : World, (binOp .neq 40 (.func (.func g) #[] caps) .nilFunc).run Try.prog w = .ok (.bool true) w := fun w => by kernel_rfl
  have c0 := blk_cell h0 0
  have c0' := blk_cell h0' 0
  have cb0 := blk_cell h 0
  have cb4 := blk_cell h' 4
  have zb4 := blk_free h' 4
  simp at c0 c0' cb0 cb4
  have hb := Lib.hid h'
  have HG := Lib.hid hg
  clear h h0 h' h0' hg
  go_enter Try.func69, Try.ntmps69
  go_wp2_with fail
  go_region_with (refine HG.out.mono ?_; rintro e w' ⟨rfl, rfl⟩)
  all_goals
    have HS := flag_store b 5 0 (World.setCell w' ⟨b, 4, none⟩ (.int .u64 y)) ((blk_cell (blk_set hb.out) 5).trans rfl) (blk_free (blk_set hb.out) 5)
    go_wp2_with fail
    refine HS.mono ?_
    rintro e w2 ⟨rfl, rfl⟩
    go_wp2_with fail
    go_end0
    exact ⟨rfl, rfl⟩

theorem lazyClo_uint64_enters (args : Array Value) (w : World) : (callFunc 69 args).run Try.prog w = .ok (.enter 69 args) w :=
  enters_body Try.func69 (by kernel_rfl) rfl args w

set_option maxRecDepth 100000 in
set_option maxHeartbeats 1600000 in
theorem get_first_uint64 (b : Nat) (g : FuncId) (caps : Array Value) (x : Value) (y : Int) (U : World → World) (w : World) (hcf : ∀ args w, (callFunc g args).run Try.prog w = .ok (.enter g args) w) (h : LazyAt w b 107 (.func (.func g) #[] caps) 0 0 x 0)
    (hg : ∀ W, Only b w W → Calls Try.prog g caps W fun e w' => e = .returned (.int .u64 y) ∧ w' = U W) (hU : ∀ W k o, (k = b ∨ w.heap.size ≤ k) → W.heap[k]? = some o → (U W).heap[k]? = some o) :
    Calls Try.prog 30 #[.pointer (some ⟨b, 0, none⟩)] w (LazyGot w b 107 (.func (.func g) #[] caps) (.int .u64 y) 1 U) := by
  have hlt := blk_lt h
  have hb := Lib.hid h
  have HG := Lib.hid hg
  have HU := Lib.hid (fun (W : World) k o hk (hW : W.heap[k]? = some o) => hU W.drew k o hk hW)
  have HC := Lib.hid hcf
  clear h hg hU hcf
  go_enter Try.func30, Try.ntmps30
  go_wp2_with fail
  have k1 := blk_alloc (p := .cells #[.pointer (some ⟨b, 0, none⟩)] 37 (0, 0)) hb.out
  have k2 := blk_new w (.cells #[.pointer (some ⟨b, 0, none⟩)] 37 (0, 0))
  have m1 := blk_set (i := 2) (u := .int .i32 1) k1
  have m2 := blk_other (p := ⟨b, 2, none⟩) (u := .int .i32 1) k2 (by show w.heap.size ≠ b; omega)
  have o1 := ((Only.refl b w).alloc (.cells #[.pointer (some ⟨b, 0, none⟩)] 37 (0, 0))).setCell (p := ⟨b, 2, none⟩) (.inl rfl) (.int .i32 1)
  have n1 := HU.out _ b _ (.inl rfl) m1
  have n2 := HU.out _ w.heap.size _ (.inr (Nat.le_refl _)) m2
  have hclo := lazyClo_uint64 b w.heap.size g caps x y _ _ HC.out m1 m2 (HG.out _ o1.drew) n1 n2
  refine (once_first b 1 _ _ _ _ lazyClo_uint64_enters ((blk_cell k1 1).trans rfl) ((blk_cell k1 2).trans rfl) (blk_free k1 2) hclo ?_).mono ?_
  · rintro w2 rfl
    have q := lazyEnd_at (v := .int .u64 y) (show LazyAt _ b _ _ 0 1 x 0 from n1)
    exact ⟨(blk_cell q 1).trans rfl, (blk_cell q 2).trans rfl, blk_free q 1, blk_free q 2⟩
  rintro e w2 ⟨rfl, w3, hw3, rfl⟩
  have q1 := lazyEnd_at (v := .int .u64 y) (show LazyAt _ b _ _ 0 1 x 0 from n1)
  have q2 := lazyEnd_keep (b := b) (v := .int .u64 y) (by omega) n2
  have q3 := lazyEnd_only (U (World.drew (World.setCell (World.alloc w (.cells #[.pointer (some ⟨b, 0, none⟩)] 37 (0, 0))) ⟨b, 2, none⟩ (.int .i32 1)))) b (.int .u64 y)
  have o2 := o1.drew
  rw [hw3] at q1 q2 q3
  clear hw3 k1 k2 m1 m2 n1 n2 o1 hclo
  have cp := (blk_cell q2 0).trans (by rfl : _ = some (Value.pointer (some ⟨b, 0, none⟩)))
  have cv := (blk_cell q1 4).trans (by rfl : _ = some (.int .u64 y))
  have kk := Lib.hid (And.intro q1 (And.intro o2 q3))
  clear q1 q2 q3 o2
  go_wp2_with fail
  go_ret
  refine ⟨rfl, ?_, _, kk.out.2.1, ?_⟩
  · exact blk_set (i := 2) (blk_set (i := 1) kk.out.1)
  · exact ((kk.out.2.2.setCell (p := ⟨b, 1, none⟩) (.inl rfl) _).setCell (p := ⟨b, 2, none⟩) (.inl rfl) _).drew

set_option maxHeartbeats 800000 in
theorem get_again_uint64 (b : Nat) (f : Value) (y : Int) (n : Int) (w : World) (h : LazyAt w b 107 f 1 0 (.int .u64 y) n) :
    Calls Try.prog 30 #[.pointer (some ⟨b, 0, none⟩)] w fun e w' => e = .returned (.int .u64 y) ∧ Below w.heap.size w w' := by
  have hlt := blk_lt h
  have hb := Lib.hid h
  clear h
  go_enter Try.func30, Try.ntmps30
  go_wp2_with fail
  have k1 := blk_alloc (p := .cells #[.pointer (some ⟨b, 0, none⟩)] 37 (0, 0)) hb.out
  have k2 := blk_new w (.cells #[.pointer (some ⟨b, 0, none⟩)] 37 (0, 0))
  refine (once_done b 1 1 (by decide) _ _ ((blk_cell k1 1).trans rfl)).mono ?_
  rintro e w2 ⟨rfl, rfl⟩
  have cp := (blk_cell k2 0).trans (by rfl : _ = some (Value.pointer (some ⟨b, 0, none⟩)))
  have cv := (blk_cell k1 4).trans (by rfl : _ = some (.int .u64 y))
  clear k1 k2
  go_wp2_with fail
  go_ret
  exact ⟨rfl, (Below.refl _ _).alloc (Nat.le_refl _) _⟩
end Go.Proofs.Ytfjoghbkfkbbdaa
