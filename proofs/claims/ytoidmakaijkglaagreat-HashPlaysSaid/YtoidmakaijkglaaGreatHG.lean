/- The index in memory: its buckets, made when one is first asked. -/
import Derived.Test.YtoidmakaijkglaaGreatHF
import Derived.Test.YtoidmakaijkglaaGreatF3
import Derived.Test.YtoidmakaijkglaaGreatT1
namespace Go.Proofs.YtoidmakaijkglaaGreat
open Go.RowKit
def ixCells (sb ab n : Nat) (d : Int) (bv : Value) : Array Value := #[.pointer (some ⟨sb, 0, none⟩), .pointer (some ⟨ab, 0, none⟩), .int .i64 n, .int .u32 d, .int .i32 0, .int .u32 0, bv]
def vAt (vs : List Value) (i : Nat) : Value := vs.getD i (.slice none 0 0)
/-- The index once its buckets are made. -/
structure IxM (w : World) (xb g sb ab n : Nat) (vs : List Value) (bs : List (List (Int × Nat))) : Prop where
  head : w.heap[xb]? = some (.cells (ixCells sb ab n 1 (.slice (some ⟨g, 0, none⟩) n n)) 77 (0, 0))
  row : w.heap[g]? = some (.cells vs.toArray 81 (0, 0))
  vlen : vs.length = n
  blen : bs.length = n
  ents : ∀ i, i < n → EntRow w (vAt vs i) (bs.getD i [])
  ne : xb ≠ g
  nex : ∀ i, i < n → (vAt vs i).ownBlock ≠ some xb
  neg : ∀ i, i < n → (vAt vs i).ownBlock ≠ some g
  apart : ∀ i j k, i < n → j < n → (vAt vs i).ownBlock = some k → (vAt vs j).ownBlock = some k → i = j
def IxF (xb g n : Nat) (vs : List Value) : Nat → Prop := fun k => k = xb ∨ k = g ∨ ∃ i, i < n ∧ (vAt vs i).ownBlock = some k
def IxAt (w : World) (xb : Nat) (F : Nat → Prop) (sb ab n : Nat) (bs : List (List (Int × Nat))) : Prop :=
  (F = (fun k => k = xb) ∧ bs = List.replicate n [] ∧ w.heap[xb]? = some (.cells (ixCells sb ab n 0 (.slice none 0 0)) 77 (0, 0))) ∨
  ∃ g vs, F = IxF xb g n vs ∧ IxM w xb g sb ab n vs bs
section
variable {w w1 : World} {xb g sb ab n : Nat} {vs : List Value} {bs : List (List (Int × Nat))} {F G : Nat → Prop}
theorem IxM.within (h : IxM w xb g sb ab n vs bs) : Within w (IxF xb g n vs) := by
  rintro k (rfl | rfl | ⟨i, hi, hk⟩)
  · exact blk_lt h.head
  · exact blk_lt h.row
  · exact (h.ents i hi).lt k hk
theorem IxM.mod (h : IxM w xb g sb ab n vs bs) (hm : Mod G w w1) (hG : Apart (IxF xb g n vs) G) : IxM w1 xb g sb ab n vs bs :=
  ⟨hm.keep h.head (hG xb (.inl rfl)), hm.keep h.row (hG g (.inr (.inl rfl))), h.vlen, h.blen, fun i hi => (h.ents i hi).mod hm (fun k hk => hG k (.inr (.inr ⟨i, hi, hk⟩))), h.ne, h.nex, h.neg, h.apart⟩
theorem IxAt.within (h : IxAt w xb F sb ab n bs) : Within w F := by
  rcases h with ⟨rfl, _, h⟩ | ⟨g, vs, rfl, h⟩
  · rintro k rfl
    exact blk_lt h
  · exact h.within
theorem IxAt.mod (h : IxAt w xb F sb ab n bs) (hm : Mod G w w1) (hG : Apart F G) : IxAt w1 xb F sb ab n bs := by
  rcases h with ⟨rfl, h1, h⟩ | ⟨g, vs, rfl, h⟩
  · exact .inl ⟨rfl, h1, hm.keep h (hG xb rfl)⟩
  · exact .inr ⟨g, vs, rfl, h.mod hm hG⟩
theorem IxM.later (h : IxM w xb g sb ab n vs bs) (hb : Below w.heap.size w w1) : IxM w1 xb g sb ab n vs bs := h.mod (Mod.of_below (F := fun _ => False) hb) (fun _ _ h => h)
theorem IxM.len (h : IxM w xb g sb ab n vs bs) : bs.length = n := h.blen
theorem IxAt.len (h : IxAt w xb F sb ab n bs) : bs.length = n := by
  rcases h with ⟨_, rfl, _⟩ | ⟨g, vs, _, h⟩
  · simp
  · exact h.blen
end
def obIx (xb : Nat) (F : Nat → Prop) (sb ab n : Nat) (bs : List (List (Int × Nat))) : Ob := ⟨F, fun w => IxAt w xb F sb ab n bs, fun _ h => h.within, fun _ _ _ h hm ha => h.mod hm ha⟩
theorem info_row : (Tryz.prog.info? 81).map (fun i => (i.zero, i.size, i.bytes)) = some (some (.slice none 0 0), 1, 24) := by kernel_rfl

def ixMid (sb ab n : Nat) (bv : Value) : Array Value := #[.pointer (some ⟨sb, 0, none⟩), .pointer (some ⟨ab, 0, none⟩), .int .i64 n, .int .u32 0, .int .i32 1, .int .u32 0, bv]
/-- What the closure leaves. -/
def MadeIx (w : World) (xb sb ab n : Nat) (w2 : World) : Prop := ∃ g, w.heap.size ≤ g ∧ w2.heap[xb]? = some (.cells (ixMid sb ab n (.slice (some ⟨g, 0, none⟩) n n)) 77 (0, 0)) ∧ w2.heap[g]? = some (.cells (List.replicate n (.slice none 0 0)).toArray 81 (0, 0)) ∧ Mod (fun k => k = xb) w w2
set_option maxHeartbeats 800000 in
/-- All buckets are made: the closure. -/
theorem ixClo (xb p0 sb ab n : Nat) (w : World) (hn : n ≤ 64) (h0 : w.cell? ⟨p0, 0, none⟩ = some (.pointer (some ⟨xb, 0, none⟩))) (hx : w.heap[xb]? = some (.cells (ixMid sb ab n (.slice none 0 0)) 77 (0, 0))) :
    Calls Tryz.prog 44 #[.pointer (some ⟨p0, 0, none⟩)] w fun e w' => e = .returned (.tuple #[]) ∧ MadeIx w xb sb ab n w' := by
  have hmk := fun W => make_row (t := 75) (v := .slice none 0 0) Tryz.underlying75 info_row rfl (Nat.le_of_ble_eq_true rfl) n (by omega) W
  have c2 : w.cell? ⟨xb, 2, none⟩ = some (.int .i64 n) := (blk_cell hx 2).trans rfl
  have c6 : w.cell? ⟨xb, 6, none⟩ = some (.slice none 0 0) := (blk_cell hx 6).trans rfl
  have f6 := blk_free hx 6
  have hxa : ∀ o, (w.alloc o).cell? ⟨xb, 6, none⟩ = some (.slice none 0 0) := fun o => (World.cell?_alloc_lt w o _ (cell_lt c6)).trans c6
  have hfa : ∀ o, (w.alloc o).frozen? ⟨xb, 6, none⟩ = false := fun o => blk_free (blk_alloc hx) 6
  have hpa : ∀ o, (w.alloc o).cell? ⟨p0, 0, none⟩ = some (.pointer (some ⟨xb, 0, none⟩)) := fun o => (World.cell?_alloc_lt w o _ (cell_lt h0)).trans h0
  have HX := Lib.hid hx
  clear hx
  go_enter Tryz.func44, Tryz.ntmps44
  go_region
  all_goals
    go_end0
    have hlt := blk_lt HX.out
    have k1 := blk_alloc (p := .cells (Array.replicate n (.slice none 0 0)) 81 (0, 0)) HX.out
    have k2 := blk_new w (.cells (Array.replicate n (.slice none 0 0)) 81 (0, 0))
    refine ⟨rfl, w.heap.size, Nat.le_refl _, (blk_set (i := 6) k1).trans rfl, ?_, (((Mod.refl (fun k => k = xb) w).alloc _).setCell (p := ⟨xb, 6, none⟩) (.inl rfl) _).drew⟩
    have := blk_other (p := ⟨xb, 6, none⟩) (u := .slice (some ⟨w.heap.size, 0, none⟩) n n) k2 (by show w.heap.size ≠ xb; omega)
    rw [show (List.replicate n (Value.slice none 0 0)).toArray = Array.replicate n (.slice none 0 0) by simp]
    exact this
theorem ixClo_enters (args : Array Value) (w : World) : (callFunc 44 args).run Tryz.prog w = .ok (.enter 44 args) w :=
  enters_body Tryz.func44 (by kernel_rfl) rfl args w

set_option maxRecDepth 100000 in
set_option maxHeartbeats 1600000 in
theorem ix_list {xb sb ab n i : Nat} {F : Nat → Prop} {bs : List (List (Int × Nat))} (w : World) (h : IxAt w xb F sb ab n bs) (hn : n ≤ 64) (hi : i < n) :
    Calls Tryz.prog 25 #[.pointer (some ⟨xb, 0, none⟩), .int .i64 i] w fun e w' => ∃ g vs, e = .returned (.pointer (some ⟨g, i, none⟩)) ∧ IxM w' xb g sb ab n vs bs ∧ Mod F w w' ∧ Grows w F (IxF xb g n vs) := by
  have i0 : (0 : Int) ≤ (i : Int) := by omega
  have i1 : (i : Int) < (n : Int) := by omega
  rcases h with ⟨rfl, rfl, hx⟩ | ⟨g, vs, rfl, hM⟩
  · have hlt := blk_lt hx
    have HX := Lib.hid hx
    clear hx
    go_enter Tryz.func25, Tryz.ntmps25
    go_wp2_with fail
    have k1 := blk_alloc (p := .cells #[.pointer (some ⟨xb, 0, none⟩)] 26 (0, 0)) HX.out
    have k2 := blk_new w (.cells #[.pointer (some ⟨xb, 0, none⟩)] 26 (0, 0))
    have kx : ((w.alloc (.cells #[.pointer (some ⟨xb, 0, none⟩)] 26 (0, 0))).setCell ⟨xb, 4, none⟩ (.int .i32 1)).heap[xb]? = some (.cells (ixMid sb ab n (.slice none 0 0)) 77 (0, 0)) := (blk_set (i := 4) k1).trans rfl
    have kp := blk_other (p := ⟨xb, 4, none⟩) (u := .int .i32 1) k2 (by show w.heap.size ≠ xb; omega)
    have hc := ixClo xb w.heap.size sb ab n _ hn ((blk_cell kp 0).trans rfl) kx
    refine (once_first xb 3 _ _ (MadeIx _ xb sb ab n) _ ixClo_enters ((blk_cell k1 3).trans rfl) ((blk_cell k1 4).trans rfl) (blk_free k1 4) hc ?_).mono ?_
    · rintro w2 ⟨g, _, hM2, _⟩
      exact ⟨(blk_cell hM2 3).trans rfl, (blk_cell hM2 4).trans rfl, blk_free hM2 3, blk_free hM2 4⟩
    rintro e w' ⟨rfl, w2, ⟨g, hg, hx2, hg2, hm2⟩, rfl⟩
    have hgx : xb ≠ g := by
      have hs : w.heap.size + 1 ≤ g := by simpa [World.setCell] using hg
      omega
    have e1 : Mod (fun k => k = xb) w ((w2.drew.setCell ⟨xb, 3, none⟩ (.int .u32 1)).setCell ⟨xb, 4, none⟩ (.int .i32 0)) :=
      (((((Mod.refl (fun x => x = xb) w).alloc _).setCell (p := ⟨xb, 4, none⟩) (.inl rfl) _).trans hm2).drew.setCell (p := ⟨xb, 3, none⟩) (.inl rfl) _).setCell (p := ⟨xb, 4, none⟩) (.inl rfl) _
    have e2 := blk_set (i := 4) (u := .int .i32 0) (blk_set (i := 3) (u := .int .u32 1) (show w2.drew.heap[xb]? = _ from hx2))
    have e3 : Mod (fun k => k = xb) w2 ((w2.drew.setCell ⟨xb, 3, none⟩ (.int .u32 1)).setCell ⟨xb, 4, none⟩ (.int .i32 0)) := ((Mod.refl (fun x => x = xb) w2).drew.setCell (p := ⟨xb, 3, none⟩) (.inl rfl) _).setCell (p := ⟨xb, 4, none⟩) (.inl rfl) _
    have e4 := e3.keep hg2 (fun e => hgx e.symm)
    have e5 := hm2.keep kp (by omega)
    have e6 := e3.keep e5 (by omega)
    have hvn : ∀ i, i < n → vAt (List.replicate n (.slice none 0 0)) i = .slice none 0 0 := fun i hi => by simp [vAt, List.getD_eq_getElem?_getD, hi]
    have hIM : IxM ((w2.drew.setCell ⟨xb, 3, none⟩ (.int .u32 1)).setCell ⟨xb, 4, none⟩ (.int .i32 0)) xb g sb ab n (List.replicate n (.slice none 0 0)) (List.replicate n []) := by
      refine ⟨e2.trans rfl, e4, by simp, by simp, fun i hi => ?_, hgx, fun i hi => ?_, fun i hi => ?_, fun i j k hi hj h1 h2 => ?_⟩
      · rw [hvn i hi]
        have : (List.replicate n ([] : List (Int × Nat))).getD i [] = [] := by simp [List.getD_eq_getElem?_getD, hi]
        rw [this]
        exact EntRow.nil _
      · rw [hvn i hi]; simp [Value.ownBlock]
      · rw [hvn i hi]; simp [Value.ownBlock]
      · rw [hvn i hi] at h1; simp [Value.ownBlock] at h1
    have hgr : Grows w (fun k => k = xb) (IxF xb g n (List.replicate n (.slice none 0 0))) := by
      rintro k (rfl | rfl | ⟨i, hi, hk⟩)
      · exact .inl rfl
      · exact .inr (by have hs : w.heap.size + 1 ≤ k := by simpa [World.setCell] using hg
                       omega)
      · rw [hvn i hi] at hk; simp [Value.ownBlock] at hk
    have c5 : World.cell? _ ⟨w.heap.size, 0, none⟩ = some (.pointer (some ⟨xb, 0, none⟩)) := (blk_cell e6 0).trans rfl
    have c6 : World.cell? _ ⟨xb, 6, none⟩ = some (.slice (some ⟨g, 0, none⟩) n n) := (blk_cell hIM.head 6).trans rfl
    have HH := Lib.hid (show ∃ vs, IxM ((w2.drew.setCell ⟨xb, 3, none⟩ (.int .u32 1)).setCell ⟨xb, 4, none⟩ (.int .i32 0)) xb g sb ab n vs (List.replicate n []) ∧ Mod (fun k => k = xb) w ((w2.drew.setCell ⟨xb, 3, none⟩ (.int .u32 1)).setCell ⟨xb, 4, none⟩ (.int .i32 0)) ∧ Grows w (fun k => k = xb) (IxF xb g n vs) from ⟨_, hIM, e1, hgr⟩)
    clear e1 e2 e3 e4 e5 e6 hIM hgr hc k1 k2 kx kp hx2 hg2 hm2 hg hvn
    generalize (w2.drew.setCell ⟨xb, 3, none⟩ (.int .u32 1)).setCell ⟨xb, 4, none⟩ (.int .i32 0) = w3 at *
    go_wp2_with fail
    go_ret
    obtain ⟨vs, r1, r2, r3⟩ := HH.out
    exact ⟨g, vs, rfl, r1, r2, r3⟩
  · have k1 := blk_alloc (p := .cells #[.pointer (some ⟨xb, 0, none⟩)] 26 (0, 0)) hM.head
    have k2 := blk_new w (.cells #[.pointer (some ⟨xb, 0, none⟩)] 26 (0, 0))
    have hon := once_done xb 3 1 (by decide) (.func (.func 44) #[] #[.pointer (some ⟨w.heap.size, 0, none⟩)]) (w.alloc (.cells #[.pointer (some ⟨xb, 0, none⟩)] 26 (0, 0))) ((blk_cell k1 3).trans rfl)
    have HON := Lib.hid hon
    have hbl : Below w.heap.size w (w.alloc (.cells #[.pointer (some ⟨xb, 0, none⟩)] 26 (0, 0))) := bl_alloc2 (Below.refl _ _) _
    have HL := Lib.hid (hM.later hbl)
    have HB := Lib.hid (Mod.of_below (F := IxF xb g n vs) hbl)
    have c6 : (w.alloc (.cells #[.pointer (some ⟨xb, 0, none⟩)] 26 (0, 0))).cell? ⟨xb, 6, none⟩ = some (.slice (some ⟨g, 0, none⟩) n n) := (blk_cell k1 6).trans rfl
    clear k1 k2 hon hbl hM
    go_enter Tryz.func25, Tryz.ntmps25
    go_wp2_with fail
    refine HON.out.mono ?_
    rintro e w' ⟨rfl, rfl⟩
    go_wp2_with fail
    go_ret
    exact ⟨g, vs, rfl, HL.out, HB.out, Grows.refl _ _⟩
end Go.Proofs.YtoidmakaijkglaaGreat
