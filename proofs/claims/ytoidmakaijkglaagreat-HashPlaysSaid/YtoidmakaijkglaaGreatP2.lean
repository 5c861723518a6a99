/- The pool's functions: list. -/
import Derived.Test.YtoidmakaijkglaaGreatR0
import Derived.Outline
namespace Go.Proofs.YtoidmakaijkglaaGreat
open Go.RowKit

def dn (n : Nat) : Nat → List Int
  | 0 => []
  | j + 1 => dn n j ++ [(n : Int) - 1 - j]
theorem dn_len (n j : Nat) : (dn n j).length = j := by
  induction j with
  | zero => rfl
  | succ j ih => simp [dn, ih]
theorem dn_mem {n j : Nat} (h : j ≤ n) {x : Int} (hx : x ∈ dn n j) : 0 ≤ x ∧ x < n := by
  induction j with
  | zero => simp [dn] at hx
  | succ j ih =>
    simp only [dn, List.mem_append, List.mem_singleton] at hx
    rcases hx with hx | rfl
    · exact ih (by omega) hx
    · omega
/-- While the list is made: the lock is held. -/
structure Mid (w : World) (b sb : Nat) (n : Nat) (most worn : Int) (fv : Value) (l : List Int) : Prop where
  head : w.heap[b]? = some (.cells #[.slice (some ⟨sb, 0, none⟩) n n, .int .i64 most, fv, .int .i64 worn, .int .u32 0, .int .i32 1, .int .u32 0] 110 (0, 0))
  free : Owned .i64 3 w fv l
  ne : fv.ownBlock ≠ some b
  ne2 : fv.ownBlock ≠ some sb
theorem mid_app {w wr X w' : World} {b sb n : Nat} {most worn x : Int} {fv : Value} {l : List Int} {a : Option Addr} {m cap : Nat} (hM : Mid wr b sb n most worn fv l) (hX : Mod (fun _ => False) wr X)
    (hA : Appended X w' 0 3 1 fv (.slice a m cap) (l.length + 1) (l.map (Value.int .i64) ++ [.int .i64 x])) (hm : Mod (· = b) w wr) (hfv : ∀ k, fv.ownBlock = some k → w.heap.size ≤ k) (hsb : sb < w.heap.size) :
    Mid (w'.setCell ⟨b, 2, none⟩ (.slice a m cap)) b sb n most worn (.slice a m cap) (l ++ [x]) ∧ Mod (· = b) w (w'.setCell ⟨b, 2, none⟩ (.slice a m cap)) ∧ ∀ k, (Value.slice a m cap).ownBlock = some k → w.heap.size ≤ k := by
  have hsz := hm.size
  have hsx := hX.size
  have hbx := blk_lt (hX.keep hM.head id)
  have hbr := blk_lt hM.head
  have hl : (Value.slice a m cap).ownBlock ≠ some b ∧ (Value.slice a m cap).ownBlock ≠ some sb ∧ ∀ k, (Value.slice a m cap).ownBlock = some k → w.heap.size ≤ k := by
    rcases hA.lies with h | h
    · rw [h]
      exact ⟨hM.ne, hM.ne2, hfv⟩
    · rw [h]
      refine ⟨fun e => ?_, fun e => ?_, fun k e => ?_⟩ <;> (have e' := Option.some.inj e; omega)
  have hb : w'.heap[b]? = _ := hA.keep (hX.keep hM.head id) hM.ne
  have hF : Owned .i64 3 w' (.slice a m cap) (l ++ [x]) := Owned.app (ys := [x]) hA
  refine ⟨⟨blk_set (i := 2) hb, hF.mod (F := (· = b)) ((Mod.refl (fun x => x = b) _).setCell (p := ⟨b, 2, none⟩) (.inl rfl) _) (fun g hg e => hl.1 (by rw [hg]; exact congrArg some e)), hl.1, hl.2.1⟩, ?_, hl.2.2⟩
  refine hm.next (G := fun k => k = b ∨ fv.ownBlock = some k) ?_ ?_
  · exact ((hX.mono (fun _ h => h.elim)).trans (hA.mod (fun k hk => .inr hk))).setCell (p := ⟨b, 2, none⟩) (.inl (.inl rfl)) _
  · rintro k (rfl | hk)
    · exact .inl rfl
    · exact .inr (hfv k hk)

set_option maxRecDepth 100000 in
set_option maxHeartbeats 800000 in
theorem listClo (b sb p0 n : Nat) (most worn : Int) (w : World) (hm : Mid w b sb n most worn (.slice none 0 0) []) (h0 : w.heap[p0]? = some (.cells #[.pointer (some ⟨b, 0, none⟩)] 54 (0, 0))) (hp : p0 ≠ b) (hn : n ≤ 4096) (hsb : sb < w.heap.size) :
    Calls Tryz.prog 63 #[.pointer (some ⟨p0, 0, none⟩)] w fun e w' => e = .returned (.tuple #[]) ∧ ∃ fv, Mid w' b sb n most worn fv (dn n n) ∧ Mod (· = b) w w' ∧ ∀ k, fv.ownBlock = some k → w.heap.size ≤ k := by
  have c0 := blk_cell h0 0
  have cb := blk_cell hm.head 0
  simp at c0 cb
  have HM := Lib.hid hm
  have H0 := Lib.hid h0
  have hb := blk_lt hm.head
  have hp' := blk_lt h0
  clear hm h0
  go_enter Tryz.func63, Tryz.ntmps63
  go_wp2_with fail
  go_loopw [1] (fun i wr => ∃ (j : Nat) (fv : Value), j ≤ n ∧ i = .int .i64 ((n : Int) - 1 - j) ∧ Mid wr b sb n most worn fv (dn n j) ∧ Mod (· = b) w wr ∧ ∀ k, fv.ownBlock = some k → w.heap.size ≤ k) (fun i _ => (intOf i + 1).toNat)
  case atStart => exact ⟨0, .slice none 0 0, Nat.zero_le _, by simp, HM.out, Mod.refl _ _, fun k hk => by simp [Value.ownBlock] at hk⟩
  case round =>
    obtain ⟨j, fv, hj, rfl, hM, hmod, hfv⟩ := hrel
    have c0' := (blk_cell (hmod.keep H0.out hp) 0)
    have c2 := blk_cell hM.head 2
    have z2 := blk_free hM.head 2
    have hbr := blk_lt hM.head
    have hpr := blk_lt (hmod.keep H0.out hp)
    simp at c0' c2
    have HP := Lib.hid (hmod.keep H0.out hp)
    have hq : fv.ownBlock ≠ some p0 := fun e => by have := hfv p0 e; omega
    have HN := Lib.hid hM
    have HD := Lib.hid hmod
    have HL := Lib.hid (dn_len n j)
    clear hM hmod c0 cb
    by_cases hlt : j < n
    · go_wp2_with fail
      go_region_law (refine step_append (zero := .int .i64 0) (base := 0) (n := (dn n j).length) (m := 1) (xs := (dn n j).map (Value.int .i64)) (ys := [.int .i64 ((n : Int) - 1 - j)]) rfl (.tmp 16) (.tmp 18) rfl Tryz.underlying41 info_int rfl Nat.zero_lt_one (Nat.le_of_ble_eq_true rfl) rfl ?_ rfl ?_ (ints_one .i64 [_]) ?_ ?_ ?_; exact HN.out.free.alloc _; exact SrcAt.one (blk_new _ _); (rw [HL.out]; omega); exact Nat.zero_le _; intro v' w' hA; obtain ⟨a', cap', rfl⟩ := hA.val; have c3 := (blk_cell (hA.keep (blk_alloc HN.out.head) HN.out.ne) 2).trans rfl; have c4 := (blk_cell (hA.keep (blk_alloc HP.out) hq) 0).trans rfl; have z3 := blk_free (hA.keep (blk_alloc HN.out.head) HN.out.ne) 2)
      all_goals
        have hr := mid_app (x := (n : Int) - 1 - j) HN.out (by first | exact ((Mod.refl _ _).alloc _).drew | exact (Mod.refl _ _).drew.alloc _) hA HD.out hfv hsb
        have HR := Lib.hid hr
        clear hr hA c3 c4 z3
        go_wp2_with fail
        go_roundw
        case rel => exact ⟨j + 1, _, by omega, by congr 1; omega, HR.out⟩
        case measure => simp [intOf]; omega
    · go_wp2_with fail
      go_end0
      obtain rfl : j = n := by omega
      exact ⟨rfl, fv, HN.out, HD.out, hfv⟩

theorem listClo_enters (args : Array Value) (w : World) : (callFunc 63 args).run Tryz.prog w = .ok (.enter 63 args) w :=
  enters_body Tryz.func63 (by kernel_rfl) rfl args w

/-- What a call leaves: the pool, and of what was there nothing else turned. -/
def Left (w : World) (b : Nat) (F : Nat → Prop) (s : PS) (w' : World) : Prop := ∃ F', PoolAt w' b F' s ∧ Mod F w w' ∧ Grows w F F'
def PS.listed (s : PS) : PS := if s.init then s else { s with free := dn s.sl.length s.sl.length, init := true }
theorem listed_yes {s : PS} (h : s.init = true) : s.listed = s := by unfold PS.listed; rw [h]; rfl
theorem listed_init (s : PS) : s.listed.init = true := by
  unfold PS.listed
  cases h : s.init
  · rfl
  · exact h
theorem dn_nodup (n j : Nat) (h : j ≤ n) : (dn n j).Nodup ∧ ∀ x ∈ dn n j, (n : Int) - j ≤ x := by
  induction j with
  | zero => simp [dn]
  | succ j ih =>
    obtain ⟨h1, h2⟩ := ih (by omega)
    refine ⟨?_, ?_⟩
    · rw [dn, List.nodup_append]
      refine ⟨h1, by simp, ?_⟩
      intro a ha b hb e
      simp at hb
      have := h2 a ha
      omega
    · intro x hx
      simp only [dn, List.mem_append, List.mem_singleton] at hx
      rcases hx with hx | rfl
      · have := h2 x hx; omega
      · omega
theorem cnt_zero {l : List Slot} (h : cnt l = 0) {i : Nat} (hi : i < l.length) : (l.getD i slot0).taken = false := by
  unfold cnt at h
  rw [List.countP_eq_zero] at h
  have := h l[i] (List.getElem_mem hi)
  simp [List.getD_eq_getElem?_getD, hi]
  simpa using this
theorem listed_ok {s : PS} (h : s.ok) : s.listed.ok := by
  unfold PS.listed
  cases hi : s.init
  · obtain ⟨f1, f2, f3⟩ := h.fresh hi
    refine ⟨h.n1, h.n2, h.m0, h.m1, (dn_nodup _ _ (Nat.le_refl _)).1, ?_, h.tags, h.w0, (fun h => by cases h), fun _ => ?_⟩
    · intro x hx
      have := dn_mem (Nat.le_refl _) (show x ∈ dn s.sl.length s.sl.length from hx)
      exact ⟨this.1, this.2, cnt_zero f3 (by have := this.2; show x.toNat < s.sl.length; omega)⟩
    · simp [dn_len, f2, f3]
  · exact h

set_option maxRecDepth 100000 in
set_option maxHeartbeats 1600000 in
theorem pool_list (b : Nat) (F : Nat → Prop) (s : PS) (w : World) (h : PoolAt w b F s) :
    Calls Tryz.prog 47 #[.pointer (some ⟨b, 0, none⟩)] w fun e w' => e = .returned (.tuple #[]) ∧ Left w b F s.listed w' := by
  cases hi : s.init
  · obtain ⟨sb, fv, n1, n2, n3, rfl, hb, hs, hf, hk, hnil⟩ := h
    have hlo := Lib.hid (listed_ok hk)
    obtain rfl := hnil hi
    have hn := hk.n2
    have hlt := blk_lt hb
    have hls := blk_lt hs
    simp only [poolCells, hi] at hb
    have HI := Lib.hid hi
    have HB := Lib.hid hb
    have HS := Lib.hid hs
    have HF := Lib.hid hf
    have HK := Lib.hid hk
    clear hb hs hf hk hnil hi
    go_enter Tryz.func47, Tryz.ntmps47
    go_wp2_with fail
    have k1 := blk_alloc (p := .cells #[.pointer (some ⟨b, 0, none⟩)] 54 (0, 0)) HB.out
    have k2 := blk_new w (.cells #[.pointer (some ⟨b, 0, none⟩)] 54 (0, 0))
    have hM : Mid ((w.alloc (.cells #[.pointer (some ⟨b, 0, none⟩)] 54 (0, 0))).setCell ⟨b, 5, none⟩ (.int .i32 1)) b sb s.sl.length s.most s.worn (.slice none 0 0) [] :=
      ⟨blk_set (i := 5) k1, Owned.nil _ _ _, by simp [Value.ownBlock], by simp [Value.ownBlock]⟩
    have hc := listClo b sb w.heap.size s.sl.length s.most s.worn _ hM (blk_other (p := ⟨b, 5, none⟩) k2 (by show w.heap.size ≠ b; omega)) (by omega) hn (by simp [World.setCell]; omega)
    refine (once_first b 4 _ _ (fun w2 => ∃ fv, Mid w2 b sb s.sl.length s.most s.worn fv (dn s.sl.length s.sl.length) ∧ Mod (· = b) _ w2 ∧ ∀ k, fv.ownBlock = some k → _ ≤ k) _ listClo_enters ((blk_cell k1 4).trans rfl) ((blk_cell k1 5).trans rfl) (blk_free k1 5) hc ?_).mono ?_
    · rintro w2 ⟨fv, hM2, _⟩
      exact ⟨(blk_cell hM2.head 4).trans rfl, (blk_cell hM2.head 5).trans rfl, blk_free hM2.head 4, blk_free hM2.head 5⟩
    rintro e w' ⟨rfl, w2, ⟨fv, hM2, hmod, hfresh⟩, rfl⟩
    have e1 : Mod (· = b) w ((w2.drew.setCell ⟨b, 4, none⟩ (.int .u32 1)).setCell ⟨b, 5, none⟩ (.int .i32 0)) :=
      (((((Mod.refl (fun x => x = b) w).alloc _).setCell (p := ⟨b, 5, none⟩) (.inl rfl) _).trans hmod).drew.setCell (p := ⟨b, 4, none⟩) (.inl rfl) _).setCell (p := ⟨b, 5, none⟩) (.inl rfl) _
    have e2 := blk_set (i := 5) (u := .int .i32 0) (blk_set (i := 4) (u := .int .u32 1) (show w2.drew.heap[b]? = _ from hM2.head))
    have e3 : Mod (· = b) w2 ((w2.drew.setCell ⟨b, 4, none⟩ (.int .u32 1)).setCell ⟨b, 5, none⟩ (.int .i32 0)) := ((Mod.refl (fun x => x = b) w2).drew.setCell (p := ⟨b, 4, none⟩) (.inl rfl) _).setCell (p := ⟨b, 5, none⟩) (.inl rfl) _
    have e4 := hM2.free.mod e3 (fun g hg e => hM2.ne (by rw [hg]; exact congrArg some e))
    have e5 := e1.keep HS.out n1
    have hsl : s.listed = { s with free := dn s.sl.length s.sl.length, init := true } := by unfold PS.listed; rw [HI.out]; rfl
    have hfin : Left w b (fun k => k = b ∨ k = sb ∨ Value.ownBlock (.slice none 0 0) = some k) s.listed ((w2.drew.setCell ⟨b, 4, none⟩ (.int .u32 1)).setCell ⟨b, 5, none⟩ (.int .i32 0)) := by
      rw [hsl] at hlo ⊢
      have hfv2 : ∀ k, fv.ownBlock = some k → w.heap.size ≤ k := fun k hk => by
        have := hfresh k hk
        simp [World.setCell] at this
        omega
      refine ⟨_, ⟨sb, fv, n1, hM2.ne, hM2.ne2, rfl, e2, e5, ?_, hlo.out, fun h => by cases h⟩, e1.mono (fun k hk => .inl (.inl hk)), ?_⟩
      · have := e4
        unfold Owned at this
        exact this
      · rintro k (rfl | rfl | hk)
        · exact .inl (.inl rfl)
        · exact .inl (.inr (.inl rfl))
        · exact .inr (hfv2 k hk)
    have HH := Lib.hid hfin
    clear e1 e2 e3 e4 e5 hfin hc hM k1 k2 hM2 hmod hfresh hsl
    go_wp2_with fail
    go_end0
    exact ⟨rfl, HH.out⟩
  · rw [listed_yes hi]
    have hP := Lib.hid h
    obtain ⟨sb, fv, n1, n2, n3, rfl, hb, hs, hf, hk, hnil⟩ := h
    have hlt := blk_lt hb
    simp only [poolCells, hi] at hb
    have HB := Lib.hid hb
    clear hb hs hf hk hnil hi
    go_enter Tryz.func47, Tryz.ntmps47
    go_wp2_with fail
    have k1 := blk_alloc (p := .cells #[.pointer (some ⟨b, 0, none⟩)] 54 (0, 0)) HB.out
    refine (once_done b 4 1 (by decide) _ _ ((blk_cell k1 4).trans rfl)).mono ?_
    rintro e w2 ⟨rfl, rfl⟩
    clear k1
    go_wp2_with fail
    go_end0
    exact ⟨rfl, _, hP.out.below ((Below.refl _ _).alloc (Nat.le_refl _) _), (Mod.refl _ _).alloc _, Grows.refl _ _⟩
end Go.Proofs.YtoidmakaijkglaaGreat
