/- Versions: the store's parts; slot, Live, Free, Used, Links. -/
import Derived.Test.YtoidmakaijkglaaGreatT1
namespace Go.Proofs.YtoidmakaijkglaaGreat
open Go.RowKit

def SP (w : World) (b : Nat) (F : Nat → Prop) (s : RS) (pb ab db : Nat) (Fp Fa : Nat → Prop) : Prop := Bun w F (storeObs b pb ab db s.p.sl.length Fp Fa s) ∧ s.ok
section
variable {w w' : World} {b pb ab db : Nat} {F Fp Fa : Nat → Prop} {s : RS}
theorem SP.at_ (h : SP w b F s pb ab db Fp Fa) : StoreAt w b F s := ⟨pb, ab, db, Fp, Fa, h⟩
theorem SP.head (h : SP w b F s pb ab db Fp Fa) : w.heap[b]? = some (.cells (storeCells pb ab db s.p.sl.length) 62 (0, 0)) := h.1.mem (A := obBlk b _ _) (by simp [storeObs])
theorem SP.data (h : SP w b F s pb ab db Fp Fa) : w.heap[db]? = some (.cells (dataCells s.d).toArray 89 (0, 0)) := h.1.mem (A := obBlk db _ _) (by simp [storeObs])
theorem SP.pool (h : SP w b F s pb ab db Fp Fa) : PoolAt w pb Fp s.p := h.1.mem (A := obPool pb Fp s.p) (by simp [storeObs])
theorem SP.arena (h : SP w b F s pb ab db Fp Fa) : ArenaAt w ab Fa s.ws := h.1.mem (A := obArena ab Fa s.ws) (by simp [storeObs])
theorem SP.ne (h : SP w b F s pb ab db Fp Fa) : b ≠ db := fun e => h.1.apart b rfl e
theorem SP.below (h : SP w b F s pb ab db Fp Fa) (hm : Below w.heap.size w w') : SP w' b F s pb ab db Fp Fa := ⟨h.1.mod (G := fun _ => False) (Mod.of_below hm) (fun _ _ h => h), h.2⟩
theorem SP.step_pool (h : SP w b F s pb ab db Fp Fa) {p' : PS} (hl : Left w pb Fp p' w') (hn : p'.sl.length = s.p.sl.length) : ∃ F' Fp', SP w' b F' ⟨p', s.ws, s.d⟩ pb ab db Fp' Fa ∧ Mod F w w' ∧ Grows w F F' := by
  obtain ⟨Fp', p, m, g⟩ := hl
  obtain ⟨F', hB, hm, hg⟩ := (h.1.perm (perm3 _ _ _ _)).step (A' := obPool pb Fp' p') p m g
  refine ⟨F', Fp', ⟨?_, ⟨by rw [hn]; exact h.2.ws, by rw [hn]; exact h.2.d⟩⟩, hm, hg⟩
  have := hB.perm (perm3 _ _ _ _).symm
  unfold storeObs
  rw [hn]
  exact this
theorem SP.step_arena (h : SP w b F s pb ab db Fp Fa) {l : List Int} (hl : LeftA w ab Fa l w') (hn : l.length = s.ws.length) : ∃ F', SP w' b F' ⟨s.p, l, s.d⟩ pb ab db Fp Fa ∧ Mod F w w' ∧ Grows w F F' := by
  obtain ⟨p, m⟩ := hl
  obtain ⟨F', hB, hm, hg⟩ := (h.1.perm (perm4 _ _ _ _ _)).step (A' := obArena ab Fa l) p m (Grows.refl _ _)
  exact ⟨F', ⟨hB.perm (perm4 _ _ _ _ _).symm, ⟨by rw [hn]; exact h.2.ws, h.2.d⟩⟩, hm, hg⟩
theorem SP.step_data (h : SP w b F s pb ab db Fp Fa) {l : List (Int × Int)} (hd : w'.heap[db]? = some (.cells (dataCells l).toArray 89 (0, 0))) (hm : Mod (fun k => k = db) w w') (hn : l.length = s.d.length) : ∃ F', SP w' b F' ⟨s.p, s.ws, l⟩ pb ab db Fp Fa ∧ Mod F w w' ∧ Grows w F F' := by
  obtain ⟨F', hB, hm, hg⟩ := (h.1.perm (perm2 _ _ _)).step (A' := obBlk db (dataCells l).toArray 89) hd hm (Grows.refl _ _)
  exact ⟨F', ⟨hB.perm (perm2 _ _ _), ⟨h.2.ws, by rw [hn]; exact h.2.d⟩⟩, hm, hg⟩
end
theorem LeftS.of {w w' : World} {b pb ab db : Nat} {F F' Fp Fa : Nat → Prop} {s : RS} (h : SP w' b F' s pb ab db Fp Fa) (m : Mod F w w') (g : Grows w F F') : LeftS w b F s w' := ⟨F', h.at_, m, g⟩

set_option maxRecDepth 100000 in
set_option maxHeartbeats 800000 in
theorem rec_value (n : Int) (w : World) : Calls Tryz.prog 27 #[.int .i64 n] w fun e w' => e = .returned (.bool (decide (0 ≤ n ∧ n ≤ 65535))) ∧ w = w' := by
  by_cases h : 0 ≤ n ∧ n ≤ 65535
  · have hd : decide (0 ≤ n ∧ n ≤ 65535) = true := decide_eq_true h
    rw [hd]
    obtain ⟨h0, h1⟩ := h
    clear hd
    go_enter Tryz.func27, Tryz.ntmps27
    go_wp2_with fail
    go_ret
    exact ⟨ret_bool (by simp), rfl⟩
  · have hd : decide (0 ≤ n ∧ n ≤ 65535) = false := decide_eq_false h
    rw [hd]
    have h2 : decide (0 ≤ n) = false ∨ (decide (0 ≤ n) = true ∧ decide (n ≤ 65535) = false) := by simp; omega
    clear hd h
    rcases h2 with h2 | ⟨h2, h3⟩
    all_goals
      go_enter Tryz.func27, Tryz.ntmps27
      go_wp2_with fail
      go_ret
      exact ⟨ret_bool (by simp at *; try omega), rfl⟩

set_option maxRecDepth 100000 in
set_option maxHeartbeats 800000 in
theorem rec_slot {b pb ab db : Nat} {F Fp Fa : Nat → Prop} {s : RS} (x : Int) (w : World) (h : SP w b F s pb ab db Fp Fa) (h0 : 0 ≤ x) (h1 : x ≤ 18446744073709551615) :
    Calls Tryz.prog 29 #[.pointer (some ⟨b, 0, none⟩), .int .u64 x] w fun e w' => e = .returned (.tuple #[.int .i64 (x % 131072 - 1), .bool (s.p.live x)]) ∧ Below w.heap.size w w' := by
  have hL := fun w' (hw : Below w.heap.size w w') => pool_live pb Fp s.p x w' (h.pool.below hw) h0 h1
  have HL := Lib.hid hL
  have HU := Lib.hid (fun w' => word_unlink x w' h0 h1)
  have c0 := blk_cell h.head 0
  simp [storeCells] at c0
  clear h hL
  generalize s.p.live x = t at *
  generalize x % 131072 - 1 = i at *
  go_enter Tryz.func29, Tryz.ntmps29
  go_wp2_with fail
  refine (HU.out _).mono ?_
  rintro e w1 ⟨rfl, rfl⟩
  go_wp2_with fail
  refine (HL.out _ (Below.refl _ _)).mono ?_
  rintro e w1 ⟨rfl, rfl⟩
  go_wp2_with fail
  go_ret2
  exact ⟨rfl, Below.refl _ _⟩

set_option maxRecDepth 100000 in
set_option maxHeartbeats 800000 in
theorem rec_live {b : Nat} {F : Nat → Prop} {s : RS} (x : Int) (w : World) (h : StoreAt w b F s) (h0 : 0 ≤ x) (h1 : x ≤ 18446744073709551615) :
    Calls Tryz.prog 31 #[.pointer (some ⟨b, 0, none⟩), .int .u64 x] w fun e w' => e = .returned (.bool (s.p.live x)) ∧ w = w' := by
  obtain ⟨pb, ab, db, Fp, Fa, h⟩ := h
  have HL := Lib.hid (pool_live pb Fp s.p x w (SP.pool h) h0 h1)
  have c0 := blk_cell (SP.head h) 0
  simp [storeCells] at c0
  clear h
  go_enter Tryz.func31, Tryz.ntmps31
  go_wp2_with fail
  refine HL.out.mono ?_
  rintro e w1 ⟨rfl, rfl⟩
  go_wp2_with fail
  go_ret
  exact ⟨rfl, rfl⟩

def RS.free (s : RS) (x : Int) : RS := ⟨s.p.give (x % 131072 - 1).toNat, s.ws, s.d⟩
theorem give_len (p : PS) (i : Nat) : (p.give i).sl.length = p.sl.length := by
  unfold PS.give
  split <;> simp
theorem listed_sl (p : PS) : p.listed.sl = p.sl := by
  unfold PS.listed
  cases p.init <;> rfl
def RS.listed (s : RS) : RS := ⟨s.p.listed, s.ws, s.d⟩
end Go.Proofs.YtoidmakaijkglaaGreat
