/- find: the place of the first committed Deal of an ID. -/
import Derived.Test.YtpohehialkgigaaAD
namespace Go.Proofs.Ytpohehialkgigaa
open Go.RowKit
def isDeal (id : Int) (d : Dl) : Bool := decide (d.id = id) && decide (d.state = 3)
set_option maxRecDepth 100000 in
set_option maxHeartbeats 800000 in
theorem find_clos {w : World} {v : Value} {d : Dl} {B : Nat} {id : Int} (h : DealIs w v d) (hB : B < w.heap.size) (hc : w.cell? ⟨B, 0, none⟩ = some (.int .i64 id)) :
    Calls Try.prog 42 #[v, .pointer (some ⟨B, 0, none⟩)] w fun e w' => e = .returned (.bool (isDeal id d)) ∧ Below w.heap.size w w' := by
  obtain ⟨ov, rfl, _⟩ := h
  obtain ⟨did, lv, st, bg, en, ops⟩ := d
  unfold isDeal
  simp only [Dl.cells]
  have hne := World.new_ne w ⟨B, 0, none⟩ hc
  by_cases h0 : did = id
  · have e0 := bq_t h0
    by_cases h3 : st = 3
    · have e3 := bq_t h3
      rw [dec_t h0, dec_t h3]
      clear h0 h3
      go_enter Try.func42, Try.ntmps42
      go_wp2_with fail
      go_ret
      exact ⟨rfl, bl_alloc (Below.refl _ _) _⟩
    · have e3 := bq_f h3
      rw [dec_t h0, dec_f h3]
      clear h0 h3
      go_enter Try.func42, Try.ntmps42
      go_wp2_with fail
      go_ret
      exact ⟨rfl, bl_alloc (Below.refl _ _) _⟩
  · have e0 := bq_f h0
    rw [dec_f h0]
    clear h0
    go_enter Try.func42, Try.ntmps42
    go_wp2_with fail
    go_ret
    exact ⟨rfl, bl_alloc (Below.refl _ _) _⟩
def findI (l : List Dl) (id : Int) : Int := match findD l id with | none => -1 | some i => i
theorem findI_none {l : List Dl} {id : Int} (h : ∀ j, j < l.length → isDeal id (l.getD j dl0) = false) : findI l id = -1 := by
  have : findD l id = none := by
    unfold findD
    rw [List.findIdx?_eq_none_iff]
    intro d hd
    obtain ⟨j, hj, rfl⟩ := List.getElem_of_mem hd
    have := h j hj
    simpa [isDeal, List.getD_eq_getElem?_getD, hj] using this
  unfold findI
  rw [this]
theorem findI_some {l : List Dl} {id : Int} {k : Nat} (hk : k < l.length) (h : ∀ j, j < k → isDeal id (l.getD j dl0) = false) (hd : isDeal id (l.getD k dl0) = true) : findI l id = k := by
  have : findD l id = some k := by
    unfold findD
    rw [List.findIdx?_eq_some_iff_getElem]
    refine ⟨hk, ?_, fun j hj => ?_⟩
    · simpa [isDeal, List.getD_eq_getElem?_getD, hk] using hd
    · have := h j hj
      have hj' : j < l.length := by omega
      simpa [isDeal, List.getD_eq_getElem?_getD, hj'] using this
  unfold findI
  rw [this]
set_option maxRecDepth 100000 in
set_option maxHeartbeats 1600000 in
theorem index_any {w : World} {v : Value} {l : List Dl} {B : Nat} {id : Int} (h : DealsAt w v l) (hl : l.length ≤ 1000) (hB : B < w.heap.size) (hc : w.cell? ⟨B, 0, none⟩ = some (.int .i64 id)) :
    Calls Try.prog 41 #[v, .func (.func 42) #[] #[.pointer (some ⟨B, 0, none⟩)]] w fun e w' => e = .returned (.int .i64 (findI l id)) ∧ Below w.heap.size w w' := by
  obtain ⟨a, cap, rfl, hcap⟩ := h.form
  have HD := Lib.hid h
  have HC := Lib.hid hc
  have HL := Lib.hid hB
  clear h hc hB
  go_enter Try.func41, Try.ntmps41
  go_wp2_with fail
  go_loopg [5, 8] l.length (fun kx _ kv wr => ∃ k : Nat, kv = .int .i64 k ∧ k ≤ l.length ∧ l.length - k ≤ kx ∧ Hid (∀ j, j < k → isDeal id (l.getD j dl0) = false) ∧ Hid (Below w.heap.size w wr))
  case atStart => exact ⟨0, rfl, Nat.zero_le _, by omega, Lib.hid (fun j hj => absurd hj (Nat.not_lt_zero j)), Lib.hid (Below.refl _ _)⟩
  case round =>
    obtain ⟨k, rfl, hk, hkx, HN, HB⟩ := hrel
    have q0 : (0 : Int) ≤ (k : Int) := by omega
    by_cases hlt : k < l.length
    · have q1 : (k : Int) < (l.length : Int) := by omega
      obtain ⟨b, off, cap', ov, hv, hb, hcs, hops⟩ := (HD.out.later HB.out).at_ hlt
      simp only [Value.slice.injEq, true_and] at hv
      obtain ⟨rfl, rfl⟩ := hv
      have hcl := find_clos (d := l.getD k dl0) (B := B) (id := id) ⟨ov, rfl, hops⟩ (Nat.lt_of_lt_of_le HL.out HB.out.size) ((HB.out.cell (p := ⟨B, 0, none⟩) HL.out).trans HC.out)
      obtain ⟨p, hp⟩ : ∃ p, isDeal id (l.getD k dl0) = p := ⟨_, rfl⟩
      rw [hp] at hcl
      have HP := Lib.hid hp
      clear hp
      obtain ⟨d, hd⟩ : ∃ d, l.getD k dl0 = d := ⟨_, rfl⟩
      rw [hd] at hcs hcl
      clear hd hops
      obtain ⟨did, dlv, dst, dbg, den, dops⟩ := d
      have c0 := hcs 0 (by decide)
      have c1 := hcs 1 (by decide)
      have c2 := hcs 2 (by decide)
      have c3 := hcs 3 (by decide)
      have c4 := hcs 4 (by decide)
      have c5 := hcs 5 (by decide)
      clear hcs
      simp [Dl.cells] at c0 c1 c2 c3 c4 c5 hcl
      have HCL := Lib.hid hcl
      clear hcl
      cases p
      · go_wp2_with fail
        refine HCL.out.mono ?_
        rintro e w1 ⟨rfl, b1⟩
        go_wp2_with fail
        go_roundg (l.length - (k + 1))
        case rel => exact ⟨k + 1, by go_num, by omega, by omega, Lib.hid (fun j hj => if e : j = k then e ▸ HP.out else HN.out j (by omega)), Lib.hid (bl_next HB.out b1)⟩
        case measure => omega
      · have HF := Lib.hid (findI_some hlt HN.out HP.out)
        go_wp2_with fail
        refine HCL.out.mono ?_
        rintro e w1 ⟨rfl, b1⟩
        go_wp2_with fail
        go_ret
        exact ⟨by rw [HF.out]; rfl, bl_next HB.out b1⟩
    · have he : k = l.length := by omega
      have hd : decide (k < l.length) = false := dec_f hlt
      have HF := Lib.hid (findI_none (l := l) (id := id) (fun j hj => HN.out j (by omega)))
      clear hlt
      go_wp2_with fail
      go_ret
      exact ⟨by rw [HF.out]; rfl, HB.out⟩
set_option maxRecDepth 100000 in
set_option maxHeartbeats 800000 in
theorem find_any {w : World} {v : Value} {l : List Dl} {id : Int} (h : DealsAt w v l) (hl : l.length ≤ 1000) :
    Calls Try.prog 29 #[v, .int .i64 id] w fun e w' => e = .returned (.int .i64 (findI l id)) ∧ Below w.heap.size w w' := by
  have HI := Lib.hid (index_any (B := w.heap.size) (id := id) (h.later (bl_alloc (Below.refl _ _) (.cells #[.int .i64 id] 3 (0, 0)))) hl (by simp) (by rw [blk_cell (blk_new _ _)]; rfl))
  clear h
  go_enter Try.func29, Try.ntmps29
  go_wp2_with fail
  refine HI.out.mono ?_
  rintro e w1 ⟨rfl, b1⟩
  go_wp2_with fail
  go_ret
  exact ⟨rfl, bl_next (bl_alloc (Below.refl _ _) _) b1⟩
end Go.Proofs.Ytpohehialkgigaa
