/- What of the memory has turned: 'Mod'; a pool in memory. -/
import Derived.Test.YtoidmakaijkglaaGreatP0
import Derived.Deep.RegionLaw
namespace Go.Proofs.YtoidmakaijkglaaGreat
open Go.RowKit

/-- Of what was there only the blocks of F may have turned. -/
structure Mod (F : Nat → Prop) (w w' : World) : Prop where
  os : w'.os = w.os
  tape : w'.tape = w.tape
  output : w'.output = w.output
  size : w.heap.size ≤ w'.heap.size
  block : ∀ k, k < w.heap.size → ¬ F k → w'.heap[k]? = w.heap[k]?
section
variable {F G : Nat → Prop} {w w1 w2 : World}
theorem Mod.refl (F : Nat → Prop) (w : World) : Mod F w w := ⟨rfl, rfl, rfl, Nat.le_refl _, fun _ _ _ => rfl⟩
theorem Mod.trans (h : Mod F w w1) (k : Mod F w1 w2) : Mod F w w2 :=
  ⟨k.os.trans h.os, k.tape.trans h.tape, k.output.trans h.output, Nat.le_trans h.size k.size, fun i hi hb => (k.block i (Nat.lt_of_lt_of_le hi h.size) hb).trans (h.block i hi hb)⟩
/-- The second step may also turn what is new. -/
theorem Mod.next (h : Mod F w w1) (k : Mod G w1 w2) (hg : ∀ i, G i → F i ∨ w.heap.size ≤ i) : Mod F w w2 :=
  ⟨k.os.trans h.os, k.tape.trans h.tape, k.output.trans h.output, Nat.le_trans h.size k.size, fun i hi hb => (k.block i (Nat.lt_of_lt_of_le hi h.size) (fun hgi => by rcases hg i hgi with h1 | h1; exact hb h1; omega)).trans (h.block i hi hb)⟩
theorem Mod.mono (h : Mod F w w1) (hg : ∀ i, F i → G i ∨ w.heap.size ≤ i) : Mod G w w1 :=
  ⟨h.os, h.tape, h.output, h.size, fun i hi hb => h.block i hi (fun hf => by rcases hg i hf with h1 | h1; exact hb h1; omega)⟩
theorem Mod.of_below (h : Below w.heap.size w w1) : Mod F w w1 := ⟨h.os, h.tape, h.output, h.size, fun k hk _ => h.block k hk⟩
theorem Mod.of_only {b : Nat} (h : Only b w w1) (hb : F b) : Mod F w w1 := ⟨h.os, h.tape, h.output, h.size, fun k hk hn => h.block k hk (fun e => hn (e ▸ hb))⟩
theorem Mod.of_grown {r : Option Nat} (h : w.grownBy w1 r) (hr : ∀ k, r = some k → F k ∨ w.heap.size ≤ k) : Mod F w w1 :=
  ⟨h.os, h.tape, h.output, h.size, fun k hk hn => h.block k hk (fun e => by rcases hr k e.symm with h1 | h1; exact hn h1; omega)⟩
theorem Mod.drew (h : Mod F w w1) : Mod F w w1.drew := h.trans ⟨rfl, rfl, rfl, Nat.le_refl _, fun _ _ _ => rfl⟩
theorem Mod.drewN (h : Mod F w w1) (n : Nat) : Mod F w (w1.drewN n) := h.trans ⟨rfl, rfl, rfl, Nat.le_refl _, fun _ _ _ => rfl⟩
theorem Mod.alloc (h : Mod F w w1) (o : Obj) : Mod F w (w1.alloc o) := h.trans ⟨rfl, rfl, rfl, by simp, fun k hk _ => Below.heap_alloc _ _ _ hk⟩
theorem Mod.setCell (h : Mod F w w1) {p : Addr} (hp : F p.block ∨ w.heap.size ≤ p.block) (u : Value) : Mod F w (w1.setCell p u) :=
  ⟨h.os, h.tape, h.output, by have := h.size; simpa [World.setCell] using this, fun k hk hb => by
    rw [Below.heap_setCell _ _ _ _ (by rcases hp with hp | hp; (intro e; exact hb (e ▸ hp)); omega)]
    exact h.block k hk hb⟩
theorem Mod.below {B : Nat} (h : Mod F w w1) (hf : ∀ k, F k → B ≤ k) (hB : B ≤ w.heap.size) : Below B w w1 := ⟨h.os, h.tape, h.output, h.size, fun k hk => h.block k (by omega) (fun hb => by have := hf k hb; omega)⟩
theorem Mod.keep (h : Mod F w w1) {c : Nat} {o : Obj} (hc : w.heap[c]? = some o) (hne : ¬ F c) : w1.heap[c]? = some o := by
  rw [h.block c (blk_lt hc) hne]
  exact hc
end
/-- Two sets of blocks that share none. -/
def Apart (F G : Nat → Prop) : Prop := ∀ k, F k → ¬ G k
/-- What has come to a set of blocks is new. -/
def Grows (w : World) (F F' : Nat → Prop) : Prop := ∀ k, F' k → F k ∨ w.heap.size ≤ k
def Within (w : World) (F : Nat → Prop) : Prop := ∀ k, F k → k < w.heap.size
theorem Apart.symm {F G : Nat → Prop} (h : Apart F G) : Apart G F := fun k hg hf => h k hf hg
theorem Apart.grows {w : World} {F G F' : Nat → Prop} (h : Apart F G) (hg : Grows w F F') (hw : Within w G) : Apart F' G := fun k hf hgk => by
  rcases hg k hf with h1 | h1
  · exact h k h1 hgk
  · have := hw k hgk
    omega
theorem Grows.refl (w : World) (F : Nat → Prop) : Grows w F F := fun _ h => .inl h
theorem Grows.trans {w w1 : World} {F G H : Nat → Prop} (h : Grows w F G) (k : Grows w1 G H) (hs : w.heap.size ≤ w1.heap.size) : Grows w F H := fun i hi => by
  rcases k i hi with h1 | h1
  · exact h i h1
  · exact .inr (by omega)
theorem Grows.from_ {w : World} {B : Nat} {F F' : Nat → Prop} (h : Grows w F F') (hF : ∀ k, F k → B ≤ k) (hB : B ≤ w.heap.size) : ∀ k, F' k → B ≤ k := fun k hk => by
  rcases h k hk with h1 | h1
  · exact hF k h1
  · omega

/-- A slot: its tag, and whether it is taken. -/
structure Slot where
  tag : Int
  taken : Bool
def slot0 : Slot := ⟨0, false⟩
def slotCells (l : List Slot) : List Value := l.flatMap fun s => [.int .i64 s.tag, .bool s.taken]
theorem slotCells_length (l : List Slot) : (slotCells l).length = 2 * l.length := by
  induction l with
  | nil => rfl
  | cons a l ih => simp [slotCells] at ih ⊢; omega
theorem slotCells_tag (l : List Slot) (i : Nat) (h : i < l.length) : (slotCells l)[i * 2]? = some (.int .i64 (l.getD i slot0).tag) := by
  induction l generalizing i with
  | nil => simp at h
  | cons a l ih =>
    match i with
    | 0 => rfl
    | i + 1 =>
      have := ih i (by simpa using h)
      simp only [slotCells, List.flatMap_cons] at this ⊢
      rw [show (i + 1) * 2 = i * 2 + 1 + 1 by omega]
      simpa using this
theorem slotCells_taken (l : List Slot) (i : Nat) (h : i < l.length) : (slotCells l)[i * 2 + 1]? = some (.bool (l.getD i slot0).taken) := by
  induction l generalizing i with
  | nil => simp at h
  | cons a l ih =>
    match i with
    | 0 => rfl
    | i + 1 =>
      have := ih i (by simpa using h)
      simp only [slotCells, List.flatMap_cons] at this ⊢
      rw [show (i + 1) * 2 + 1 = i * 2 + 1 + 1 + 1 by omega]
      simpa using this
theorem slotCells_set_tag (l : List Slot) (i : Nat) (h : i < l.length) (t : Int) : (slotCells l).set (i * 2) (.int .i64 t) = slotCells (l.set i ⟨t, (l.getD i slot0).taken⟩) := by
  induction l generalizing i with
  | nil => simp at h
  | cons a l ih =>
    match i with
    | 0 => rfl
    | i + 1 =>
      have := ih i (by simpa using h)
      simp only [slotCells, List.flatMap_cons, List.set_cons_succ] at this ⊢
      rw [show (i + 1) * 2 = i * 2 + 1 + 1 by omega]
      simpa using this
theorem slotCells_set_taken (l : List Slot) (i : Nat) (h : i < l.length) (t : Bool) : (slotCells l).set (i * 2 + 1) (.bool t) = slotCells (l.set i ⟨(l.getD i slot0).tag, t⟩) := by
  induction l generalizing i with
  | nil => simp at h
  | cons a l ih =>
    match i with
    | 0 => rfl
    | i + 1 =>
      have := ih i (by simpa using h)
      simp only [slotCells, List.flatMap_cons, List.set_cons_succ] at this ⊢
      rw [show (i + 1) * 2 + 1 = i * 2 + 1 + 1 + 1 by omega]
      simpa using this
theorem slotCells_new (n : Nat) : slotCells (List.replicate n slot0) = (List.replicate n [Value.int .i64 0, Value.bool false]).flatten := by
  induction n with
  | zero => rfl
  | succ n ih => simp [slotCells, List.replicate_succ, slot0] at ih ⊢; exact ih

/-- A pool. -/
structure PS where
  most : Int
  sl : List Slot
  free : List Int
  init : Bool
  worn : Int
/-- How many are taken. -/
def cnt (l : List Slot) : Nat := l.countP (·.taken)
structure PS.ok (s : PS) : Prop where
  n1 : 1 ≤ s.sl.length
  n2 : s.sl.length ≤ 4096
  m0 : 0 ≤ s.most
  m1 : s.most ≤ 65535
  nodup : s.free.Nodup
  free : ∀ x ∈ s.free, 0 ≤ x ∧ x < s.sl.length ∧ (s.sl.getD x.toNat slot0).taken = false
  tags : ∀ x ∈ s.sl, 0 ≤ x.tag ∧ x.tag ≤ s.most
  w0 : 0 ≤ s.worn
  fresh : s.init = false → s.free = [] ∧ s.worn = 0 ∧ cnt s.sl = 0
  all : s.init = true → (s.free.length : Int) + cnt s.sl + s.worn = s.sl.length
theorem PS.ok.len {s : PS} (h : s.ok) : s.free.length ≤ s.sl.length := by
  cases hi : s.init
  · rw [(h.fresh hi).1]; simp
  · have := h.all hi
    have := h.w0
    omega
theorem PS.ok.worn {s : PS} (h : s.ok) : s.worn ≤ s.sl.length := by
  cases hi : s.init
  · rw [(h.fresh hi).2.1]; omega
  · have := h.all hi
    omega
theorem PS.ok.tag {s : PS} (h : s.ok) {i : Nat} (hi : i < s.sl.length) : 0 ≤ (s.sl.getD i slot0).tag ∧ (s.sl.getD i slot0).tag ≤ s.most := by
  refine h.tags _ ?_
  simp [List.getD_eq_getElem?_getD, hi]
def poolCells (s : PS) (sb : Nat) (fv : Value) : Array Value := #[.slice (some ⟨sb, 0, none⟩) s.sl.length s.sl.length, .int .i64 s.most, fv, .int .i64 s.worn, .int .u32 (if s.init then 1 else 0), .int .i32 0, .int .u32 0]
/-- A pool in memory: its blocks are F. -/
def PoolAt (w : World) (b : Nat) (F : Nat → Prop) (s : PS) : Prop :=
  ∃ (sb : Nat) (fv : Value), sb ≠ b ∧ fv.ownBlock ≠ some b ∧ fv.ownBlock ≠ some sb ∧ (F = fun k => k = b ∨ k = sb ∨ fv.ownBlock = some k) ∧
    w.heap[b]? = some (.cells (poolCells s sb fv) 110 (0, 0)) ∧ w.heap[sb]? = some (.cells (slotCells s.sl).toArray 121 (0, 0)) ∧ w.ownsRow 0 3 1 fv s.free.length (s.free.map (Value.int .i64)) ∧ s.ok ∧ (s.init = false → fv = .slice none 0 0)
theorem PoolAt.within {w : World} {b : Nat} {F : Nat → Prop} {s : PS} (h : PoolAt w b F s) : Within w F := by
  obtain ⟨sb, fv, h1, h2, h3, rfl, hb, hs, hf, hk⟩ := h
  rintro k (rfl | rfl | hk)
  · exact blk_lt hb
  · exact blk_lt hs
  · exact (hf.lt k hk).2
theorem ownsRow_mod {w w1 : World} {F : Nat → Prop} {base : Nat} {e : TypeId} {size : Nat} {v : Value} {n : Nat} {xs : List Value} (h : w.ownsRow base e size v n xs) (hm : Mod F w w1) (hF : ∀ k, v.ownBlock = some k → ¬ F k) : w1.ownsRow base e size v n xs := by
  refine ⟨h.1, ?_⟩
  rcases h.2 with h2 | ⟨g, cap, cur, hv, hg, hh, r⟩
  · exact .inl h2
  · refine .inr ⟨g, cap, cur, hv, hg, ?_, r⟩
    exact hm.keep hh (hF g (by rw [hv]; rfl))
theorem PoolAt.mod {w w1 : World} {b : Nat} {F G : Nat → Prop} {s : PS} (h : PoolAt w b F s) (hm : Mod G w w1) (hG : Apart F G) : PoolAt w1 b F s := by
  obtain ⟨sb, fv, h1, h2, h3, rfl, hb, hs, hf, hk⟩ := h
  exact ⟨sb, fv, h1, h2, h3, rfl, hm.keep hb (hG b (.inl rfl)), hm.keep hs (hG sb (.inr (.inl rfl))), ownsRow_mod hf hm (fun k hk => hG k (.inr (.inr hk))), hk⟩
theorem PoolAt.below {w w1 : World} {b : Nat} {F : Nat → Prop} {s : PS} (h : PoolAt w b F s) (hm : Below w.heap.size w w1) : PoolAt w1 b F s :=
  h.mod (G := fun _ => False) (Mod.of_below hm) (fun _ _ h => h)
theorem PoolAt.self {w : World} {b : Nat} {F : Nat → Prop} {s : PS} (h : PoolAt w b F s) : F b := by
  obtain ⟨sb, fv, h1, h2, h3, rfl, _⟩ := h
  exact .inl rfl
theorem PoolAt.good {w : World} {b : Nat} {F : Nat → Prop} {s : PS} (h : PoolAt w b F s) : s.ok := by
  obtain ⟨sb, fv, h1, h2, h3, rfl, hb, hs, hf, hk, _⟩ := h
  exact hk

theorem info_slot : (Tryz.prog.info? 121).map (fun i => (i.zero, i.size, i.bytes)) = some (some (.agg #[.int .i64 0, .bool false]), 2, 16) := by kernel_rfl
theorem made_slots (n : Nat) : (madeCells #[.int .i64 0, .bool false] (n * 2)).toList = slotCells (List.replicate n slot0) := by
  apply List.ext_getElem?
  intro j
  by_cases hj : j < n * 2
  · have h0 : (madeCells #[.int .i64 0, .bool false] (n * 2)).toList[j]? = some (#[Value.int .i64 0, .bool false][j % 2]!) := by
      simp [madeCells, hj]
    rw [h0]
    rcases Nat.mod_two_eq_zero_or_one j with h | h
    · have e := slotCells_tag (List.replicate n slot0) (j / 2) (by simp; omega)
      rw [show j / 2 * 2 = j by omega] at e
      rw [h, e]
      simp [slot0, show j / 2 < n by omega]
    · have e := slotCells_taken (List.replicate n slot0) (j / 2) (by simp; omega)
      rw [show j / 2 * 2 + 1 = j by omega] at e
      rw [h, e]
      simp [slot0, show j / 2 < n by omega]
  · rw [List.getElem?_eq_none (by simp [madeCells]; omega), List.getElem?_eq_none (by rw [slotCells_length]; simp; omega)]

def PS.new (n : Nat) (most : Int) : PS := ⟨most, List.replicate n slot0, [], false, 0⟩
theorem new_ok {n : Nat} {most : Int} (h0 : 1 ≤ n) (h1 : n ≤ 4096) (g0 : 0 ≤ most) (g1 : most ≤ 65535) : (PS.new n most).ok where
  n1 := by simp [PS.new]; omega
  n2 := by simp [PS.new]; omega
  m0 := g0
  m1 := g1
  nodup := by simp [PS.new]
  free := by simp [PS.new]
  tags := by
    intro x hx
    have := List.eq_of_mem_replicate hx
    subst this
    exact ⟨Int.le_refl _, g0⟩
  w0 := by simp [PS.new]
  fresh := fun _ => ⟨rfl, rfl, by simp [PS.new, cnt, slot0, List.countP_replicate]⟩
  all := fun h => by cases h
def NewPool (w : World) (n : Nat) (most : Int) (e : Ending) (w' : World) : Prop := ∃ b F, e = .returned (.tuple #[.pointer (some ⟨b, 0, none⟩), .int .i64 0]) ∧ PoolAt w' b F (PS.new n most) ∧ Below w.heap.size w w' ∧ ∀ k, F k → w.heap.size ≤ k

set_option maxRecDepth 100000 in
set_option maxHeartbeats 800000 in
theorem pool_new (n : Nat) (most : Int) (w : World) (h0 : 1 ≤ n) (h1 : n ≤ 4096) (g0 : 0 ≤ most) (g1 : most ≤ 65535) :
    Calls Tryz.prog 21 #[.int .i64 n, .int .i64 most] w (NewPool w n most) := by
  have a0 : (1 : Int) ≤ n := by omega
  have a1 : (n : Int) ≤ 4096 := by omega
  have HK := Lib.hid (new_ok h0 h1 g0 g1)
  obtain ⟨i0, hi, hz0, hz1, hz2⟩ := info_parts info_slot
  have hby : i0.bytes * n ≤ 281474976710656 := by rw [hz2]; omega
  have hmx : n ≤ maxLen := by unfold maxLen; omega
  go_enter Tryz.func21, Tryz.ntmps21
  go_wp2_with (at_make; refine wpList_make_full _ rfl _ _ 108 rfl w.heap.size 121 i0 (.agg #[.int .i64 0, .bool false]) 2 Tryz.underlying108 hi hz0 hz1 .i64 .i64 _ _ n rfl rfl rfl rfl hby hmx (Nat.le_refl _) ?_)
  intro w1 hown hgrow
  have hz : w.heap.size < w1.heap.size := by
    rcases hown.2 with ⟨h, _⟩ | ⟨g, cap, cur, hv, _, hh, _⟩
    · cases h
    · simp only [Value.slice.injEq, Option.some.injEq, Addr.mk.injEq] at hv
      obtain ⟨⟨rfl, _⟩, _⟩ := hv
      exact blk_lt hh
  have HO : w1.heap[w.heap.size]? = some (.cells (slotCells (List.replicate n slot0)).toArray 121 (0, 0)) := by
    rcases hown.2 with ⟨h, _⟩ | ⟨g, cap, cur, hv, _, hh, _, _, hsz, htk⟩
    · cases h
    · simp only [Value.slice.injEq, Option.some.injEq, Addr.mk.injEq] at hv
      obtain ⟨⟨rfl, _⟩, _, rfl⟩ := hv
      rw [hh]
      have : cur.toList = slotCells (List.replicate n slot0) := by
        rw [List.take_of_length_le (by simp; omega)] at htk
        rw [htk]
        exact made_slots n
      rw [← this]
  have hO := Lib.hid HO
  have hB := Lib.hid ((Below.refl w.heap.size w).grown hgrow (Nat.le_refl _) (by simp))
  clear HO hown hgrow
  go_wp2_with fail
  go_ret2
  refine ⟨w1.heap.size, _, rfl, ⟨w.heap.size, .slice none 0 0, by omega, by simp [Value.ownBlock], by simp [Value.ownBlock], rfl, ?_, blk_alloc hO.out, World.ownsRow_nil _ _ _ _, HK.out, fun _ => rfl⟩, hB.out.alloc hB.out.size _, ?_⟩
  · have := blk_new w1 (.cells (poolCells (PS.new n most) w.heap.size (.slice none 0 0)) 110 (0, 0))
    simp [poolCells, PS.new] at this ⊢
    exact this
  · intro k hk
    simp [Value.ownBlock] at hk
    omega
end Go.Proofs.YtoidmakaijkglaaGreat
