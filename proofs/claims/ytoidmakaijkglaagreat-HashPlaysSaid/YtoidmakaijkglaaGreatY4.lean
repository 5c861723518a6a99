/- A region that draws its order, within a round of a range over a function. -/
import Derived.Test.YtoidmakaijkglaaGreatY3
import Derived.Deep.RegionHeld3
namespace Go.Proofs.YtoidmakaijkglaaGreat
open Go.RowKit
attribute [local go_sem] Oper.semAt_some

def noDefer : Op → Bool
  | .defer _ => false
  | _ => true
theorem not_defer {o : Op} (h : noDefer o = true) : ∀ c, o ≠ .defer c := fun c e => by subst e; cases h
theorem rowsIn_of {l n : Nat} {P : Program} {row : String} {args : Array Value} {w : World} {R : Value → World → Prop} (h : Rows P row args w R) : RowsIn (Fence.wide.inRound l) n P row args w R := fun c cs _ => by
  obtain ⟨v, w', hR, hs⟩ := h c cs
  exact ⟨v, w', hR, stepsIn_wide.2 hs⟩
theorem oper_inRound {l n : Nat} {P : Program} {o : Oper} {a : Act} {w : World} {K K' : Act → World → Prop} {Q : Exit → Act → World → Prop} (hd : noDefer o.op = true) (hK : ∀ a w, K a w → K' a w) (h : o.wp P a w K Q) : o.wpIn (Fence.wide.inRound l) n P a w K' Q := by
  unfold Oper.wp at h
  refine ⟨fun _ _ => trivial, ?_⟩
  rw [show (Fence.wide.inRound l).round = some l from rfl, Oper.semAt_some l _ o (not_defer hd)]
  generalize (execOp a.eval o).run P w = r at *
  cases r with
  | ok x w' =>
    cases x with
    | value v => exact hK _ _ h
    | skip => exact hK _ _ h
    | defer d => exact hK _ _ h
    | enter f args =>
      refine ⟨fun h => (by cases h), CallsIn.inRound l (callsIn_wide.2 (Calls.mono h fun e w'' he => ?_))⟩
      cases e with
      | returned v => exact hK _ _ he
      | panicked c => exact he
      | outgrown => exact he
    | row r args => exact ⟨fun h => (by cases h), rowsIn_of (fun c cs => by
        obtain ⟨v, w'', hR, hs⟩ := h c cs
        exact ⟨v, w'', hK _ _ hR, hs⟩)⟩
    | _ => exact h.elim
  | halt x w' => cases x <;> exact h
theorem wpOps_inRound {l n : Nat} {P : Program} {ops : Array Oper} {Q : Exit → Act → World → Prop} (hd : ∀ (i : Nat) (o : Oper), ops[i]? = some o → noDefer o.op = true) (hQ : ¬ LetsOut Q) : ∀ (is : List Nat) (a : Act) (w : World), wpOps P ops Q is a w → wpOpsIn (Fence.wide.inRound l) n P ops Q is a w
  | [], _, _, h => h
  | i :: is, a, w, h => by
    simp only [wpOps, wpOpsIn] at h ⊢
    cases ho : ops[i]? with
    | none =>
      simp only [ho] at h ⊢
      exact wpOps_inRound hd hQ is _ _ h
    | some o =>
      simp only [ho] at h ⊢
      split
      · rename_i hw
        rw [if_pos hw] at h
        rcases h with h | h
        · exact oper_inRound (hd i o ho) (wpOps_inRound hd hQ is) h
        · exact absurd h.2 hQ
      · rename_i hw
        rw [if_neg hw] at h
        exact ⟨fun _ _ => trivial, wpOps_inRound hd hQ is _ _ h⟩
theorem hd_of {ops : List Oper} (h : (ops.all fun o => noDefer o.op) = true) : ∀ (i : Nat) (o : Oper), ops.toArray[i]? = some o → noDefer o.op = true := fun i o ho => by
  rw [List.all_eq_true] at h
  simp at ho
  exact h o (List.mem_of_getElem? ho)
/-- Q, but False at a panic, and where memory ends. -/
def NoPO (Q : Exit → Act → World → Prop) : Exit → Act → World → Prop
  | .panic _, _, _ => False
  | .outgrown, _, _ => False
  | e, a, w => Q e a w
theorem NoPO.imp {Q : Exit → Act → World → Prop} (e : Exit) (a : Act) (w : World) (h : NoPO Q e a w) : Q e a w := by
  cases e <;> first | exact h | exact (h : False).elim
theorem NoPO.normal {Q : Exit → Act → World → Prop} {a : Act} {w : World} (h : Q .normal a w) : NoPO Q .normal a w := h
theorem region_round {l n id : Nat} {ops : List Oper} (S : World → Prop) {Q : Exit → Act → World → Prop} {a : Act} {w : World} (hd : (ops.all fun o => noDefer o.op) = true) (hS : S w.drew)
    (h : S w.drew → wpAnyH Tryz.prog .any ops.toArray (NoPO Q) S ops.toArray.size (Array.replicate ops.toArray.size false) a w.drew) : (Code.region id ops.toArray true).wpIn (Fence.wide.inRound l) n Tryz.prog Q a w :=
  wpIn_mono (Q := NoPO Q) (wpIn_region_draw fun t => by
    have hm : Tryz.prog.follows .mixedOrders = true := by kernel_rfl
    simp only [Region.schedule, hm, Bool.true_or, if_true]
    exact wpOps_inRound (hd_of hd) (fun ⟨_, _, h⟩ => h) _ _ _ (wpAny_sound _ t _ a _ (wpAny_of_held _ _ _ _ (h hS)))) NoPO.imp
theorem SP.step_arena' {w w' : World} {b pb ab db : Nat} {F Fp Fa : Nat → Prop} {s : RS} (h : SP w b F s pb ab db Fp Fa) {l : List Int} (hl : LeftA w ab Fa l w') (hn : l.length = s.ws.length) : SP w' b F ⟨s.p, l, s.d⟩ pb ab db Fp Fa ∧ Mod F w w' := by
  obtain ⟨p, m⟩ := hl
  have hin := h.1.inside (A := obArena ab Fa s.ws) (by simp [storeObs])
  obtain ⟨w0, h0, hs, hF⟩ := h.1
  have h1 := (hs.perm (perm4 _ _ _ _ _)).step (A' := obArena ab Fa l) p m (Grows.refl _ _)
  refine ⟨⟨⟨w0, h0, h1.perm (perm4 _ _ _ _ _).symm, ?_⟩, ⟨by rw [hn]; exact h.2.ws, h.2.d⟩⟩, m.mono (fun k hk => .inl (hin k hk))⟩
  rw [hF]
  funext k
  simp [U, storeObs, obArena]

set_option maxRecDepth 100000 in
set_option maxHeartbeats 1600000 in
theorem next_same (b : Nat) (F : Nat → Prop) (s : RS) (x y : Int) (w : World) (h : StoreAt w b F s) (h0 : 0 ≤ x) (h1 : x ≤ 18446744073709551615) (hl : s.p.live x = true) :
    Calls Tryz.prog 33 #[.pointer (some ⟨b, 0, none⟩), .int .u64 x, .int .u64 y] w fun e w' => e = .returned (.int .i64 0) ∧ StoreAt w' b F (s.setw (slotOf x * 3 + 2) y) ∧ Mod F w w' := by
  obtain ⟨pb, ab, db, Fp, Fa, h⟩ := h
  have hS := rec_slot x w h h0 h1
  obtain ⟨hi, hx, _, _⟩ := slot_live hl
  rw [hl, hx] at hS
  have HS := Lib.hid hS
  have hn := (SP.pool h).good.n2
  have hws := h.2.ws
  have hw2 : slotOf x * 3 + 2 < s.ws.length := by omega
  have HP : Hid (SP w b F s pb ab db Fp Fa) := Lib.hid h
  clear h hl hS hx hws
  generalize slotOf x = i at *
  go_enter Tryz.func33, Tryz.ntmps33
  go_wp2_with fail
  refine HS.out.mono ?_
  rintro e w1 ⟨rfl, b1⟩
  have H1 := Lib.hid (HP.out.below b1)
  have B1 := Lib.hid (Mod.of_below (F := F) b1)
  clear HP b1
  have c1 := blk_cell H1.out.head 1
  simp [storeCells] at c1
  go_wp2_with fail
  have ha := arena_store ab Fa s.ws (i * 3 + 2) y _ H1.out.arena hw2
  rw [show ((i * 3 + 2 : Nat) : Int) = (i : Int) * 3 + 2 by omega] at ha
  refine ha.mono ?_
  rintro e w2 ⟨rfl, hL⟩
  obtain ⟨h3, m3⟩ := H1.out.step_arena' hL (by simp)
  have HF := Lib.hid (show StoreAt w2 b F (s.setw (i * 3 + 2) y) ∧ Mod F w w2 from ⟨h3.at_, B1.out.trans m3⟩)
  clear ha hL h3 m3 H1 B1 c1
  go_wp2_with fail
  go_ret
  exact ⟨rfl, HF.out⟩
end Go.Proofs.YtoidmakaijkglaaGreat
