/- An outcome: New, Tell, Get, Count. -/
import Derived.Test.YtfjoghbkfkbbdaaS1
import Derived.Deep.QuietTactic
import Derived.BigQuiet
namespace Go.Proofs.Ytfjoghbkfkbbdaa
open Go.RowKit

/-- An outcome in memory: told or not (d), how many Tells (n), state and reason. -/
def OutAt (w : World) (b : Nat) (d n s r : Int) : Prop := w.heap[b]? = some (.cells #[.int .u32 d, .int .i32 0, .int .u32 0, .int .i64 n, .int .i64 s, .int .i64 r] 98 (0, 0))

def OutNew (w : World) (e : Ending) (w' : World) : Prop := e = .returned (.pointer (some ⟨w.heap.size, 0, none⟩)) ∧ OutAt w' w.heap.size 0 0 0 0 ∧ Below w.heap.size w w' ∧ w.heap.size < w'.heap.size

set_option maxHeartbeats 400000 in
theorem out_new (w : World) : Calls Try.prog 15 #[] w (OutNew w) := by
  go_enter Try.func15, Try.ntmps15
  go_wp2
  go_ret
  exact ⟨rfl, blk_new _ _, (Below.refl _ _).alloc (Nat.le_refl _) _, by simp⟩


theorem enters_body {f : FuncId} {fn : Func} {c : Code} (hf : Try.prog.funcs[f]? = some fn) (hname : (fn.name == "runtime.NumGoroutine") = false) (hb : fn.body = some c) (args : Array Value) (w : World) :
    (callFunc f args).run Try.prog w = .ok (.enter f args) w := by
  have h1 : fn.name ≠ "runtime.NumGoroutine" := by simpa using hname
  simp [callFunc, hf, h1, hb]

def tellEnd (w : World) (b q : Nat) (s r : Int) : World := (((w.setCell ⟨b, 4, none⟩ (.int .i64 s)).setCell ⟨b, 5, none⟩ (.int .i64 r)).setCell ⟨q, 0, none⟩ (.bool true)).drew

set_option maxRecDepth 100000 in
set_option maxHeartbeats 800000 in
theorem tellClo_any (b p0 p1 p2 p3 : Nat) (s r s0 r0 n d m : Int) (w : World) (hb : w.heap[b]? = some (.cells #[.int .u32 d, .int .i32 m, .int .u32 0, .int .i64 n, .int .i64 s0, .int .i64 r0] 98 (0, 0)))
    (h0 : w.heap[p0]? = some (.cells #[.int .i64 s] 3 (0, 0))) (h1 : w.heap[p1]? = some (.cells #[.int .i64 r] 3 (0, 0))) (h2 : w.heap[p2]? = some (.cells #[.pointer (some ⟨b, 0, none⟩)] 22 (0, 0))) (h3 : w.heap[p3]? = some (.cells #[.bool false] 4 (0, 0))) :
    Calls Try.prog 62 #[.pointer (some ⟨p0, 0, none⟩), .pointer (some ⟨p1, 0, none⟩), .pointer (some ⟨p2, 0, none⟩), .pointer (some ⟨p3, 0, none⟩)] w fun e w2 => e = .returned (.tuple #[]) ∧
      w2 = tellEnd w b p3 s r := by
  have c0 := blk_cell h0 0
  have c1 := blk_cell h1 0
  have c2 := blk_cell h2 0
  have c3 := blk_cell h3 0
  have z3 := blk_free h3 0
  have cb4 := blk_cell hb 4
  have cb5 := blk_cell hb 5
  have zb4 := blk_free hb 4
  have zb5 := blk_free hb 5
  simp at c0 c1 c2 c3 cb4 cb5
  clear hb h0 h1 h2 h3
  go_enter Try.func62, Try.ntmps62
  go_wp2
  go_region
  all_goals
    go_end0
    exact ⟨rfl, rfl⟩

theorem tellClo_enters (args : Array Value) (w : World) : (callFunc 62 args).run Try.prog w = .ok (.enter 62 args) w :=
  enters_body Try.func62 (by kernel_rfl) rfl args w

theorem tellEnd_facts {W : World} {b q : Nat} {s r : Int} {cs : Array Value} {T U : TypeId} {ds : Array Value} (hne : q ≠ b) (hb : W.heap[b]? = some (.cells cs T (0, 0))) (hq : W.heap[q]? = some (.cells ds U (0, 0))) :
    (tellEnd W b q s r).heap[b]? = some (.cells ((cs.setIfInBounds 4 (.int .i64 s)).setIfInBounds 5 (.int .i64 r)) T (0, 0)) ∧ (tellEnd W b q s r).heap[q]? = some (.cells (ds.setIfInBounds 0 (.bool true)) U (0, 0)) :=
  ⟨blk_other (p := ⟨q, 0, none⟩) (blk_set (i := 5) (blk_set (i := 4) hb)) (fun h => hne h.symm), blk_set (i := 0) (blk_other (p := ⟨b, 5, none⟩) (blk_other (p := ⟨b, 4, none⟩) hq hne) hne)⟩

theorem tellEnd_only {w W : World} {b q : Nat} {s r : Int} (h : Only b w W) (hq : w.heap.size ≤ q) : Only b w (tellEnd W b q s r) :=
  (((h.setCell (p := ⟨b, 4, none⟩) (.inl rfl) _).setCell (p := ⟨b, 5, none⟩) (.inl rfl) _).setCell (p := ⟨q, 0, none⟩) (.inr hq) _).drew

def TellPost (b : Nat) (w : World) (n d' s' r' : Int) (t : Bool) (e : Ending) (w' : World) : Prop := e = .returned (.bool t) ∧ OutAt w' b d' n s' r' ∧ Only b w w'

set_option maxRecDepth 100000 in
set_option maxHeartbeats 800000 in
theorem tell_bad (b : Nat) (d n s0 r0 s r : Int) (w : World) (h : OutAt w b d n s0 r0) (hn : 0 ≤ n) (hn2 : n ≤ 1000000) (hs3 : (s != 3) = true) (hs4 : (s != 4) = true) :
    Calls Try.prog 16 #[.pointer (some ⟨b, 0, none⟩), .int .i64 s, .int .i64 r] w (TellPost b w (n + 1) d s0 r0 false) := by
  have hlt := blk_lt h
  have hb := Lib.hid h
  have c3 := blk_cell h 3
  have z3 := blk_free h 3
  simp at c3
  clear h
  go_enter Try.func16, Try.ntmps16
  go_wp2_with fail
  refine (i64_add b 3 n 1 _ ((blk_cell (blk_alloc (blk_alloc (blk_alloc hb.out))) 3).trans rfl) (blk_free (blk_alloc (blk_alloc (blk_alloc hb.out))) 3) (by omega) (by omega)).mono ?_
  rintro e w1 ⟨rfl, rfl⟩
  go_wp2_with fail
  go_ret
  refine ⟨rfl, ?_, ?_⟩
  · exact blk_set (i := 3) (blk_alloc (blk_alloc (blk_alloc hb.out)))
  · exact Only.setCell (p := ⟨b, 3, none⟩) ((((Only.refl b w).alloc _).alloc _).alloc _) (.inl rfl) _

theorem tell_world {w : World} {b i : Nat} {cs : Array Value} {T : TypeId} {A B C D : Obj} {v : Value} (h : w.heap[b]? = some (.cells cs T (0, 0))) :
    ∀ W, W = ((((w.alloc A).alloc B).alloc C).setCell ⟨b, i, none⟩ v).alloc D → W.heap[b]? = some (.cells (cs.setIfInBounds i v) T (0, 0)) ∧ W.heap[w.heap.size]? = some A ∧ W.heap[w.heap.size + 1]? = some B ∧ W.heap[w.heap.size + 1 + 1]? = some C ∧ W.heap[w.heap.size + 1 + 1 + 1]? = some D ∧ Only b w W := by
  rintro W rfl
  have hlt := blk_lt h
  have e1 : (w.alloc A).heap.size = w.heap.size + 1 := by simp
  have e2 : ((w.alloc A).alloc B).heap.size = w.heap.size + 1 + 1 := by simp
  have e3 : (((w.alloc A).alloc B).alloc C).heap.size = w.heap.size + 1 + 1 + 1 := by simp
  have e4 : ((((w.alloc A).alloc B).alloc C).setCell ⟨b, i, none⟩ v).heap.size = w.heap.size + 1 + 1 + 1 := by simp [World.setCell]
  refine ⟨blk_alloc (blk_set (blk_alloc (blk_alloc (blk_alloc h)))), ?_, ?_, ?_, ?_, ?_⟩
  · exact blk_alloc (blk_other (blk_alloc (blk_alloc (blk_new _ _))) (by show w.heap.size ≠ b; omega))
  · have := blk_new (w.alloc A) B
    rw [e1] at this
    exact blk_alloc (blk_other (blk_alloc this) (by show w.heap.size + 1 ≠ b; omega))
  · have := blk_new ((w.alloc A).alloc B) C
    rw [e2] at this
    exact blk_alloc (blk_other this (by show w.heap.size + 1 + 1 ≠ b; omega))
  · have := blk_new ((((w.alloc A).alloc B).alloc C).setCell ⟨b, i, none⟩ v) D
    rw [e4] at this
    exact this
  · exact (Only.setCell (p := ⟨b, i, none⟩) ((((Only.refl b w).alloc _).alloc _).alloc _) (.inl rfl) _).alloc _

set_option maxRecDepth 100000 in
set_option maxHeartbeats 1600000 in
theorem tell_late3 (b : Nat) (n s0 r0 r : Int) (w : World) (h : OutAt w b 1 n s0 r0) (hn : 0 ≤ n) (hn2 : n ≤ 1000000) :
    Calls Try.prog 16 #[.pointer (some ⟨b, 0, none⟩), .int .i64 3, .int .i64 r] w (TellPost b w (n + 1) 1 s0 r0 false) := by
  have hlt := blk_lt h
  have hb := Lib.hid h
  clear h
  go_enter Try.func16, Try.ntmps16
  go_wp2_with fail
  refine (i64_add b 3 n 1 _ ((blk_cell (blk_alloc (blk_alloc (blk_alloc hb.out))) 3).trans rfl) (blk_free (blk_alloc (blk_alloc (blk_alloc hb.out))) 3) (by omega) (by omega)).mono ?_
  rintro e w1 ⟨rfl, rfl⟩
  go_wp2_with fail
  have HW := tell_world (i := 3) (v := .int .i64 (n + 1)) (A := .cells #[.pointer (some ⟨b, 0, none⟩)] 22 (0, 0)) (B := .cells #[.int .i64 3] 3 (0, 0)) (C := .cells #[.int .i64 r] 3 (0, 0)) (D := .cells #[.bool false] 4 (0, 0)) hb.out _ rfl
  refine (once_done b 0 1 (by decide) _ _ ((blk_cell HW.1 0).trans rfl)).mono ?_
  rintro e w2 ⟨rfl, rfl⟩
  have cp := (blk_cell HW.2.2.2.2.1 0).trans (by rfl : _ = some (Value.bool false))
  have HH := Lib.hid HW
  clear HW
  go_wp2_with fail
  go_ret
  exact ⟨rfl, HH.out.1, HH.out.2.2.2.2.2⟩

set_option maxRecDepth 100000 in
set_option maxHeartbeats 1600000 in
theorem tell_late4 (b : Nat) (n s0 r0 r : Int) (w : World) (h : OutAt w b 1 n s0 r0) (hn : 0 ≤ n) (hn2 : n ≤ 1000000) :
    Calls Try.prog 16 #[.pointer (some ⟨b, 0, none⟩), .int .i64 4, .int .i64 r] w (TellPost b w (n + 1) 1 s0 r0 false) := by
  have hlt := blk_lt h
  have hb := Lib.hid h
  clear h
  go_enter Try.func16, Try.ntmps16
  go_wp2_with fail
  refine (i64_add b 3 n 1 _ ((blk_cell (blk_alloc (blk_alloc (blk_alloc hb.out))) 3).trans rfl) (blk_free (blk_alloc (blk_alloc (blk_alloc hb.out))) 3) (by omega) (by omega)).mono ?_
  rintro e w1 ⟨rfl, rfl⟩
  go_wp2_with fail
  have HW := tell_world (i := 3) (v := .int .i64 (n + 1)) (A := .cells #[.pointer (some ⟨b, 0, none⟩)] 22 (0, 0)) (B := .cells #[.int .i64 4] 3 (0, 0)) (C := .cells #[.int .i64 r] 3 (0, 0)) (D := .cells #[.bool false] 4 (0, 0)) hb.out _ rfl
  refine (once_done b 0 1 (by decide) _ _ ((blk_cell HW.1 0).trans rfl)).mono ?_
  rintro e w2 ⟨rfl, rfl⟩
  have cp := (blk_cell HW.2.2.2.2.1 0).trans (by rfl : _ = some (Value.bool false))
  have HH := Lib.hid HW
  clear HW
  go_wp2_with fail
  go_ret
  exact ⟨rfl, HH.out.1, HH.out.2.2.2.2.2⟩

set_option maxRecDepth 100000 in
set_option maxHeartbeats 1600000 in
theorem tell_first3 (b : Nat) (n s0 r0 r : Int) (w : World) (h : OutAt w b 0 n s0 r0) (hn : 0 ≤ n) (hn2 : n ≤ 1000000) :
    Calls Try.prog 16 #[.pointer (some ⟨b, 0, none⟩), .int .i64 3, .int .i64 r] w (TellPost b w (n + 1) 1 3 r true) := by
  have hlt := blk_lt h
  have hb := Lib.hid h
  clear h
  go_enter Try.func16, Try.ntmps16
  go_wp2_with fail
  refine (i64_add b 3 n 1 _ ((blk_cell (blk_alloc (blk_alloc (blk_alloc hb.out))) 3).trans rfl) (blk_free (blk_alloc (blk_alloc (blk_alloc hb.out))) 3) (by omega) (by omega)).mono ?_
  rintro e w1 ⟨rfl, rfl⟩
  go_wp2_with fail
  have HW := tell_world (i := 3) (v := .int .i64 (n + 1)) (A := .cells #[.pointer (some ⟨b, 0, none⟩)] 22 (0, 0)) (B := .cells #[.int .i64 3] 3 (0, 0)) (C := .cells #[.int .i64 r] 3 (0, 0)) (D := .cells #[.bool false] 4 (0, 0)) hb.out _ rfl
  have hcl := tellClo_any b (w.heap.size + 1) (w.heap.size + 1 + 1) w.heap.size (w.heap.size + 1 + 1 + 1) 3 r s0 r0 (n + 1) 0 1 (World.setCell _ ⟨b, 1, none⟩ (.int .i32 1)) (blk_set HW.1) (blk_other HW.2.2.1 (by show w.heap.size + 1 ≠ b; omega)) (blk_other HW.2.2.2.1 (by show w.heap.size + 1 + 1 ≠ b; omega)) (blk_other HW.2.1 (by show w.heap.size ≠ b; omega)) (blk_other HW.2.2.2.2.1 (by show w.heap.size + 1 + 1 + 1 ≠ b; omega))
  have hF := tellEnd_facts (b := b) (q := w.heap.size + 1 + 1 + 1) (s := 3) (r := r) (by omega) (blk_set (i := 1) (u := .int .i32 1) HW.1) (blk_other (p := ⟨b, 1, none⟩) (u := .int .i32 1) HW.2.2.2.2.1 (by show w.heap.size + 1 + 1 + 1 ≠ b; omega))
  have ko := tellEnd_only (q := w.heap.size + 1 + 1 + 1) (s := 3) (r := r) (HW.2.2.2.2.2.setCell (p := ⟨b, 1, none⟩) (.inl rfl) (.int .i32 1)) (by omega)
  generalize tellEnd _ b (w.heap.size + 1 + 1 + 1) 3 r = X at hcl hF ko
  obtain ⟨kb, kp⟩ := hF
  refine (once_first b 0 _ _ (fun w2 => w2 = X) _ tellClo_enters ((blk_cell HW.1 0).trans rfl) ((blk_cell HW.1 1).trans rfl) (blk_free HW.1 1) hcl ?_).mono ?_
  · rintro w2 rfl
    exact ⟨(blk_cell kb 0).trans rfl, (blk_cell kb 1).trans rfl, blk_free kb 0, blk_free kb 1⟩
  rintro e w2 ⟨rfl, w3, hw3, rfl⟩
  cases hw3
  clear HW hcl
  have cp := (blk_cell kp 0).trans (by rfl : _ = some (Value.bool true))
  have kk := Lib.hid (And.intro kb (And.intro kp ko))
  clear kb kp ko
  go_wp2_with fail
  go_ret
  refine ⟨rfl, ?_, ?_⟩
  · exact blk_set (i := 1) (blk_set (i := 0) kk.out.1)
  · exact ((kk.out.2.2.setCell (p := ⟨b, 0, none⟩) (.inl rfl) _).setCell (p := ⟨b, 1, none⟩) (.inl rfl) _).drew

set_option maxRecDepth 100000 in
set_option maxHeartbeats 1600000 in
theorem tell_first4 (b : Nat) (n s0 r0 r : Int) (w : World) (h : OutAt w b 0 n s0 r0) (hn : 0 ≤ n) (hn2 : n ≤ 1000000) :
    Calls Try.prog 16 #[.pointer (some ⟨b, 0, none⟩), .int .i64 4, .int .i64 r] w (TellPost b w (n + 1) 1 4 r true) := by
  have hlt := blk_lt h
  have hb := Lib.hid h
  clear h
  go_enter Try.func16, Try.ntmps16
  go_wp2_with fail
  refine (i64_add b 3 n 1 _ ((blk_cell (blk_alloc (blk_alloc (blk_alloc hb.out))) 3).trans rfl) (blk_free (blk_alloc (blk_alloc (blk_alloc hb.out))) 3) (by omega) (by omega)).mono ?_
  rintro e w1 ⟨rfl, rfl⟩
  go_wp2_with fail
  have HW := tell_world (i := 3) (v := .int .i64 (n + 1)) (A := .cells #[.pointer (some ⟨b, 0, none⟩)] 22 (0, 0)) (B := .cells #[.int .i64 4] 3 (0, 0)) (C := .cells #[.int .i64 r] 3 (0, 0)) (D := .cells #[.bool false] 4 (0, 0)) hb.out _ rfl
  have hcl := tellClo_any b (w.heap.size + 1) (w.heap.size + 1 + 1) w.heap.size (w.heap.size + 1 + 1 + 1) 4 r s0 r0 (n + 1) 0 1 (World.setCell _ ⟨b, 1, none⟩ (.int .i32 1)) (blk_set HW.1) (blk_other HW.2.2.1 (by show w.heap.size + 1 ≠ b; omega)) (blk_other HW.2.2.2.1 (by show w.heap.size + 1 + 1 ≠ b; omega)) (blk_other HW.2.1 (by show w.heap.size ≠ b; omega)) (blk_other HW.2.2.2.2.1 (by show w.heap.size + 1 + 1 + 1 ≠ b; omega))
  have hF := tellEnd_facts (b := b) (q := w.heap.size + 1 + 1 + 1) (s := 4) (r := r) (by omega) (blk_set (i := 1) (u := .int .i32 1) HW.1) (blk_other (p := ⟨b, 1, none⟩) (u := .int .i32 1) HW.2.2.2.2.1 (by show w.heap.size + 1 + 1 + 1 ≠ b; omega))
  have ko := tellEnd_only (q := w.heap.size + 1 + 1 + 1) (s := 4) (r := r) (HW.2.2.2.2.2.setCell (p := ⟨b, 1, none⟩) (.inl rfl) (.int .i32 1)) (by omega)
  generalize tellEnd _ b (w.heap.size + 1 + 1 + 1) 4 r = X at hcl hF ko
  obtain ⟨kb, kp⟩ := hF
  refine (once_first b 0 _ _ (fun w2 => w2 = X) _ tellClo_enters ((blk_cell HW.1 0).trans rfl) ((blk_cell HW.1 1).trans rfl) (blk_free HW.1 1) hcl ?_).mono ?_
  · rintro w2 rfl
    exact ⟨(blk_cell kb 0).trans rfl, (blk_cell kb 1).trans rfl, blk_free kb 0, blk_free kb 1⟩
  rintro e w2 ⟨rfl, w3, hw3, rfl⟩
  cases hw3
  clear HW hcl
  have cp := (blk_cell kp 0).trans (by rfl : _ = some (Value.bool true))
  have kk := Lib.hid (And.intro kb (And.intro kp ko))
  clear kb kp ko
  go_wp2_with fail
  go_ret
  refine ⟨rfl, ?_, ?_⟩
  · exact blk_set (i := 1) (blk_set (i := 0) kk.out.1)
  · exact ((kk.out.2.2.setCell (p := ⟨b, 0, none⟩) (.inl rfl) _).setCell (p := ⟨b, 1, none⟩) (.inl rfl) _).drew

theorem tell_late (b : Nat) (n s0 r0 s r : Int) (w : World) (h : OutAt w b 1 n s0 r0) (hn : 0 ≤ n) (hn2 : n ≤ 1000000) (hs : s = 3 ∨ s = 4) :
    Calls Try.prog 16 #[.pointer (some ⟨b, 0, none⟩), .int .i64 s, .int .i64 r] w (TellPost b w (n + 1) 1 s0 r0 false) := by
  rcases hs with rfl | rfl
  · exact tell_late3 b n s0 r0 r w h hn hn2
  · exact tell_late4 b n s0 r0 r w h hn hn2

theorem tell_first (b : Nat) (n s0 r0 s r : Int) (w : World) (h : OutAt w b 0 n s0 r0) (hn : 0 ≤ n) (hn2 : n ≤ 1000000) (hs : s = 3 ∨ s = 4) :
    Calls Try.prog 16 #[.pointer (some ⟨b, 0, none⟩), .int .i64 s, .int .i64 r] w (TellPost b w (n + 1) 1 s r true) := by
  rcases hs with rfl | rfl
  · exact tell_first3 b n s0 r0 r w h hn hn2
  · exact tell_first4 b n s0 r0 r w h hn hn2
end Go.Proofs.Ytfjoghbkfkbbdaa
