/- hash.Drop. -/
import Derived.Test.YtoidmakaijkglaaGreatHR
import Derived.Test.YtoidmakaijkglaaGreatY8
namespace Go.Proofs.YtoidmakaijkglaaGreat
open Go.RowKit
/-- A key in a box of the call's own. -/
def obKey (kb : Nat) (key : Int) : Ob := ⟨fun k => k = kb, fun w => w.heap[kb]? = some (.cells #[.int .i64 key] 3 (0, 0)), fun w h k hk => by rw [hk]; exact blk_lt h, fun w1 w2 G h hm ha => hm.keep h (ha _ rfl)⟩
section
variable {w0 w : World} {xb sb ab n : Nat} {F Fa : Nat → Prop} {bs : List (List (Int × Nat))} {ws : List Int} {L : List Ob}
theorem Sep.key (h : Sep w0 w L) (key : Int) : Sep w0 (w.alloc (.cells #[.int .i64 key] 3 (0, 0))) (obKey w.heap.size key :: L) :=
  h.new (A := obKey w.heap.size key) ((Below.refl _ _).alloc (Nat.le_refl _) _) (blk_new _ _) (fun _ hk => Nat.le_of_eq hk.symm)
set_option maxRecDepth 100000 in
set_option maxHeartbeats 800000 in
theorem sx_drop_none (h : Sep w0 w (obIx xb F sb ab n bs :: L)) (hn1 : 1 ≤ n) (hn : n ≤ 64) (hsz : ∀ i, (bs.getD i []).length ≤ 100000) {key : Int} (hf : findK n bs key = none) :
    Calls Tryz.prog 10 #[.pointer (some ⟨xb, 0, none⟩), .int .i64 key] w fun e w' => e = .returned (.bool false) ∧ ∃ F', Sep w0 w' (obIx xb F' sb ab n bs :: L) := by
  have hfi := sx_find (h.key key).swap hn1 hn hsz key
  rw [hf] at hfi
  have HFI := Lib.hid hfi
  clear hfi h
  go_enter Tryz.func10, Tryz.ntmps10
  go_wp2_with fail
  refine HFI.out.mono ?_
  rintro e w1 ⟨rfl, F', h1⟩
  have HS1 := Lib.hid h1.swap.tail
  have hk : w1.cell? ⟨w.heap.size, 0, none⟩ = some (.int .i64 key) := (blk_cell h1.second 0).trans rfl
  clear h1
  simp only [foundV]
  go_wp2_with fail
  go_ret
  exact ⟨rfl, F', HS1.out⟩
theorem Sep.chL_front {cb at' : Nat} {Fs : Nat → Prop} {s : RS} {M P : List Ob} (h : Sep w0 w (P ++ chL cb sb ab at' Fs Fa s ws M)) : Sep w0 w (chL cb sb ab at' Fs Fa s ws (P ++ M)) :=
  h.perm (List.perm_append_comm_assoc P [obChain cb sb ab at', obStore sb Fs s, obArena ab Fa ws] M)
theorem Sep.chL_back {cb at' : Nat} {Fs : Nat → Prop} {s : RS} {M P : List Ob} (h : Sep w0 w (chL cb sb ab at' Fs Fa s ws (P ++ M))) : Sep w0 w (P ++ chL cb sb ab at' Fs Fa s ws M) :=
  h.perm (List.perm_append_comm_assoc P [obChain cb sb ab at', obStore sb Fs s, obArena ab Fa ws] M).symm
set_option maxRecDepth 100000 in
set_option maxHeartbeats 800000 in
theorem sx_drop_full {cb key : Nat} {Fs : Nat → Prop} {s : RS} {M : List Ob} {K : List Int} (hC : Chn s ws key K) (h : Sep w0 w (obIx xb F sb ab n bs :: chL cb sb ab key Fs Fa s ws M)) (hn1 : 1 ≤ n) (hn : n ≤ 64) (hsz : ∀ i, (bs.getD i []).length ≤ 100000) (hf : findK n bs key = some cb) (hK : 0 < K.length) :
    Calls Tryz.prog 10 #[.pointer (some ⟨xb, 0, none⟩), .int .i64 key] w fun e w' => e = .returned (.bool false) ∧ ∃ F', Sep w0 w' (obIx xb F' sb ab n bs :: chL cb sb ab key Fs Fa s ws M) := by
  have hfi := sx_find (h.key key).swap hn1 hn hsz key
  rw [hf] at hfi
  have HFI := Lib.hid hfi
  have HC := Lib.hid hC
  clear hfi h hC
  go_enter Tryz.func10, Tryz.ntmps10
  go_wp2_with fail
  refine HFI.out.mono ?_
  rintro e w1 ⟨rfl, F', h1⟩
  have HL := Lib.hid (chain_len HC.out w1 (h1.chL_front (P := [_, _])))
  have k0 : (0 : Int) < (K.length : Int) := by omega
  clear h1
  simp only [foundV]
  go_wp2_with fail
  refine HL.out.mono ?_
  rintro e w2 ⟨rfl, h2, -⟩
  have HS2 := Lib.hid (h2.chL_back (P := [_, _])).swap.tail
  clear h2
  go_wp2_with fail
  go_ret
  exact ⟨rfl, F', HS2.out⟩
end
end Go.Proofs.YtoidmakaijkglaaGreat
