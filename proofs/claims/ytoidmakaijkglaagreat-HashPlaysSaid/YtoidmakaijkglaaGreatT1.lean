/- Things that are made of others: 'Bun'; versions: the store in memory; its functions. -/
import Derived.Test.YtoidmakaijkglaaGreatT0
import Derived.Deep.RegionHeld3
namespace Go.Proofs.YtoidmakaijkglaaGreat
open Go.RowKit

/-- All blocks of a list of things. -/
def U (L : List Ob) : Nat → Prop := fun k => ∃ o ∈ L, o.F k
theorem U_perm {L M : List Ob} (h : L.Perm M) : U L = U M := by
  funext k
  exact propext ⟨fun ⟨o, ho, hk⟩ => ⟨o, h.mem_iff.1 ho, hk⟩, fun ⟨o, ho, hk⟩ => ⟨o, h.mem_iff.2 ho, hk⟩⟩
def Bun (w : World) (F : Nat → Prop) (L : List Ob) : Prop := ∃ w0 : World, w0.heap.size = 0 ∧ Sep w0 w L ∧ F = U L
section
variable {w w' : World} {F G : Nat → Prop} {L M : List Ob} {A A' B C D : Ob}
theorem Bun.perm (h : Bun w F L) (hp : L.Perm M) : Bun w F M := by
  obtain ⟨w0, h0, hs, rfl⟩ := h
  exact ⟨w0, h0, hs.perm hp, U_perm hp⟩
theorem Bun.within (h : Bun w F L) : Within w F := by
  obtain ⟨w0, h0, hs, rfl⟩ := h
  rintro k ⟨o, ho, hk⟩
  exact o.within w (hs.each o ho).1 k hk
theorem Bun.mod (h : Bun w F L) (hm : Mod G w w') (hG : Apart F G) : Bun w' F L := by
  obtain ⟨w0, h0, hs, rfl⟩ := h
  refine ⟨w0, h0, ⟨⟨hm.os.trans hs.bel.os, hm.tape.trans hs.bel.tape, hm.output.trans hs.bel.output, by omega, fun k hk => by omega⟩, fun o ho => ⟨o.keep w w' G (hs.each o ho).1 hm (fun k hk => hG k ⟨o, ho, hk⟩), (hs.each o ho).2⟩, hs.apart⟩, rfl⟩
theorem Bun.head (h : Bun w F (A :: L)) : A.P w := by
  obtain ⟨w0, h0, hs, rfl⟩ := h
  exact hs.head
theorem Bun.mem (h : Bun w F L) (hA : A ∈ L) : A.P w := by
  obtain ⟨w0, h0, hs, rfl⟩ := h
  exact (hs.each A hA).1
theorem Bun.step (h : Bun w F (A :: L)) (hp : A'.P w') (hm : Mod A.F w w') (hg : Grows w A.F A'.F) : ∃ F', Bun w' F' (A' :: L) ∧ Mod F w w' ∧ Grows w F F' := by
  obtain ⟨w0, h0, hs, rfl⟩ := h
  refine ⟨_, ⟨w0, h0, hs.step hp hm hg, rfl⟩, hm.mono (fun i hi => .inl ⟨A, by simp, hi⟩), ?_⟩
  rintro k ⟨o, ho, hk⟩
  rcases List.mem_cons.1 ho with rfl | ho
  · rcases hg k hk with h1 | h1
    · exact .inl ⟨A, by simp, h1⟩
    · exact .inr h1
  · exact .inl ⟨o, by simp [ho], hk⟩
theorem Bun.inside (h : Bun w F L) (hA : A ∈ L) : ∀ k, A.F k → F k := by
  obtain ⟨w0, h0, hs, rfl⟩ := h
  exact fun k hk => ⟨A, hA, hk⟩
theorem Bun.apart (h : Bun w F (A :: B :: L)) : Apart A.F B.F := by
  obtain ⟨w0, h0, hs, rfl⟩ := h
  exact (List.pairwise_cons.1 hs.apart).1 B (by simp)
theorem Bun.of_sep {w0 : World} (h : Sep w0 w L) : Bun w (U L) L := by
  refine ⟨{ w with heap := #[] }, rfl, ⟨⟨rfl, rfl, rfl, Nat.zero_le _, fun k hk => by simp at hk⟩, fun o ho => ⟨(h.each o ho).1, fun k _ => Nat.zero_le _⟩, h.apart⟩, rfl⟩
end
theorem perm2 {α : Type _} (A B : α) (L : List α) : (A :: B :: L).Perm (B :: A :: L) := List.Perm.swap B A L
theorem perm3 {α : Type _} (A B C : α) (L : List α) : (A :: B :: C :: L).Perm (C :: A :: B :: L) := ((List.Perm.swap C B L).cons A).trans (List.Perm.swap C A (B :: L))
theorem perm4 {α : Type _} (A B C D : α) (L : List α) : (A :: B :: C :: D :: L).Perm (D :: A :: B :: C :: L) := ((perm3 B C D L).cons A).trans (List.Perm.swap D A (B :: C :: L))
theorem perm5 {α : Type _} (A B C D E : α) (L : List α) : (A :: B :: C :: D :: E :: L).Perm (E :: A :: B :: C :: D :: L) := ((perm4 B C D E L).cons A).trans (List.Perm.swap E A (B :: C :: D :: L))

def obBlk (g : Nat) (cs : Array Value) (T : TypeId) : Ob := ⟨fun k => k = g, fun w => w.heap[g]? = some (.cells cs T (0, 0)), fun w h k hk => by rw [hk]; exact blk_lt h, fun w w' G h hm ha => hm.keep h (ha g rfl)⟩
theorem Bun.blk_set {w : World} {F : Nat → Prop} {L : List Ob} {g i : Nat} {cs : Array Value} {T : TypeId} (h : Bun w F (obBlk g cs T :: L)) (u : Value) :
    ∃ F', Bun (w.setCell ⟨g, i, none⟩ u) F' (obBlk g (cs.setIfInBounds i u) T :: L) ∧ Mod F w (w.setCell ⟨g, i, none⟩ u) ∧ Grows w F F' :=
  h.step (A' := obBlk g (cs.setIfInBounds i u) T) (Go.Proofs.YtoidmakaijkglaaGreat.blk_set h.head) ((Mod.refl (fun k => k = g) _).setCell (p := ⟨g, i, none⟩) (.inl rfl) _) (Grows.refl _ _)

/-- Keys and values. -/
def dataCells (l : List (Int × Int)) : List Value := l.flatMap fun s => [.int .i64 s.1, .int .i64 s.2]
theorem dataCells_length (l : List (Int × Int)) : (dataCells l).length = 2 * l.length := by
  induction l with
  | nil => rfl
  | cons a l ih => simp [dataCells] at ih ⊢; omega
theorem dataCells_key (l : List (Int × Int)) (i : Nat) (h : i < l.length) : (dataCells l)[i * 2]? = some (.int .i64 (l.getD i (0, 0)).1) := by
  induction l generalizing i with
  | nil => simp at h
  | cons a l ih =>
    match i with
    | 0 => rfl
    | i + 1 =>
      have := ih i (by simpa using h)
      simp only [dataCells, List.flatMap_cons] at this ⊢
      rw [show (i + 1) * 2 = i * 2 + 1 + 1 by omega]
      simpa using this
theorem dataCells_val (l : List (Int × Int)) (i : Nat) (h : i < l.length) : (dataCells l)[i * 2 + 1]? = some (.int .i64 (l.getD i (0, 0)).2) := by
  induction l generalizing i with
  | nil => simp at h
  | cons a l ih =>
    match i with
    | 0 => rfl
    | i + 1 =>
      have := ih i (by simpa using h)
      simp only [dataCells, List.flatMap_cons] at this ⊢
      rw [show (i + 1) * 2 + 1 = i * 2 + 1 + 1 + 1 by omega]
      simpa using this
theorem dataCells_set (l : List (Int × Int)) (i : Nat) (h : i < l.length) (a b : Int) : ((dataCells l).set (i * 2) (.int .i64 a)).set (i * 2 + 1) (.int .i64 b) = dataCells (l.set i (a, b)) := by
  induction l generalizing i with
  | nil => simp at h
  | cons c l ih =>
    match i with
    | 0 => rfl
    | i + 1 =>
      have := ih i (by simpa using h)
      simp only [dataCells, List.flatMap_cons, List.set_cons_succ] at this ⊢
      rw [show (i + 1) * 2 = i * 2 + 1 + 1 by omega]
      simpa using this
theorem dataCells_setv (l : List (Int × Int)) (i : Nat) (h : i < l.length) (b : Int) : (dataCells l).set (i * 2 + 1) (.int .i64 b) = dataCells (l.set i ((l.getD i (0, 0)).1, b)) := by
  induction l generalizing i with
  | nil => simp at h
  | cons c l ih =>
    match i with
    | 0 => rfl
    | i + 1 =>
      have := ih i (by simpa using h)
      simp only [dataCells, List.flatMap_cons, List.set_cons_succ] at this ⊢
      rw [show (i + 1) * 2 + 1 = i * 2 + 1 + 1 + 1 by omega]
      simpa using this
theorem dataCells_new (n : Nat) : (madeCells #[.int .i64 0, .int .i64 0] (n * 2)).toList = dataCells (List.replicate n (0, 0)) := by
  apply List.ext_getElem?
  intro j
  by_cases hj : j < n * 2
  · have h0 : (madeCells #[.int .i64 0, .int .i64 0] (n * 2)).toList[j]? = some (#[Value.int .i64 0, .int .i64 0][j % 2]!) := by
      simp [madeCells, hj]
    rw [h0]
    rcases Nat.mod_two_eq_zero_or_one j with h | h
    · have e := dataCells_key (List.replicate n (0, 0)) (j / 2) (by simp; omega)
      rw [show j / 2 * 2 = j by omega] at e
      rw [h, e]
      simp [show j / 2 < n by omega]
    · have e := dataCells_val (List.replicate n (0, 0)) (j / 2) (by simp; omega)
      rw [show j / 2 * 2 + 1 = j by omega] at e
      rw [h, e]
      simp [show j / 2 < n by omega]
  · rw [List.getElem?_eq_none (by simp [madeCells]; omega), List.getElem?_eq_none (by rw [dataCells_length]; simp; omega)]

/-- A store: its pool, its words, keys and values. -/
structure RS where
  p : PS
  ws : List Int
  d : List (Int × Int)
structure RS.ok (s : RS) : Prop where
  ws : s.ws.length = s.p.sl.length * 3
  d : s.d.length = s.p.sl.length
def storeCells (pb ab db n : Nat) : Array Value := #[.pointer (some ⟨pb, 0, none⟩), .pointer (some ⟨ab, 0, none⟩), .slice (some ⟨db, 0, none⟩) n n]
def storeObs (b pb ab db n : Nat) (Fp Fa : Nat → Prop) (s : RS) : List Ob := [obBlk b (storeCells pb ab db n) 62, obBlk db (dataCells s.d).toArray 89, obPool pb Fp s.p, obArena ab Fa s.ws]
def StoreAt (w : World) (b : Nat) (F : Nat → Prop) (s : RS) : Prop := ∃ (pb ab db : Nat) (Fp Fa : Nat → Prop), Bun w F (storeObs b pb ab db s.p.sl.length Fp Fa s) ∧ s.ok
def LeftS (w : World) (b : Nat) (F : Nat → Prop) (s : RS) (w' : World) : Prop := ∃ F', StoreAt w' b F' s ∧ Mod F w w' ∧ Grows w F F'
theorem StoreAt.within {w : World} {b : Nat} {F : Nat → Prop} {s : RS} (h : StoreAt w b F s) : Within w F := by
  obtain ⟨pb, ab, db, Fp, Fa, hB, _⟩ := h
  exact hB.within
theorem StoreAt.mod {w w' : World} {b : Nat} {F G : Nat → Prop} {s : RS} (h : StoreAt w b F s) (hm : Mod G w w') (hG : Apart F G) : StoreAt w' b F s := by
  obtain ⟨pb, ab, db, Fp, Fa, hB, hk⟩ := h
  exact ⟨pb, ab, db, Fp, Fa, hB.mod hm hG, hk⟩
theorem StoreAt.below {w w' : World} {b : Nat} {F : Nat → Prop} {s : RS} (h : StoreAt w b F s) (hm : Below w.heap.size w w') : StoreAt w' b F s :=
  h.mod (G := fun _ => False) (Mod.of_below hm) (fun _ _ h => h)
def obStore (b : Nat) (F : Nat → Prop) (s : RS) : Ob := ⟨F, fun w => StoreAt w b F s, fun _ h => h.within, fun _ _ _ h hm ha => h.mod hm ha⟩
theorem Sep.store {w0 w w' : World} {b : Nat} {F : Nat → Prop} {s s' : RS} {L : List Ob} (h : Sep w0 w (obStore b F s :: L)) (hl : LeftS w b F s' w') : ∃ F', Sep w0 w' (obStore b F' s' :: L) := by
  obtain ⟨F', p, m, g⟩ := hl
  exact ⟨F', h.step (A' := obStore b F' s') p m g⟩
theorem bcell' {W w1 : World} {B : Nat} (hb : Below B W w1) : (∀ b o, b < B → w1.cell? ⟨b, o, none⟩ = W.cell? ⟨b, o, none⟩) ∧ (∀ b o, b < B → w1.frozen? ⟨b, o, none⟩ = W.frozen? ⟨b, o, none⟩) :=
  ⟨fun b o h => hb.cell (p := ⟨b, o, none⟩) h, fun b o h => hb.frozen (p := ⟨b, o, none⟩) h⟩
theorem StoreAt.pool {w : World} {b : Nat} {F : Nat → Prop} {s : RS} (h : StoreAt w b F s) : s.p.ok ∧ s.ok := by
  obtain ⟨pb, ab, db, Fp, Fa, hB, hk⟩ := h
  exact ⟨PoolAt.good (hB.mem (A := obPool pb Fp s.p) (by simp [storeObs])), hk⟩

theorem info_data : (Tryz.prog.info? 89).map (fun i => (i.zero, i.size, i.bytes)) = some (some (.agg #[.int .i64 0, .int .i64 0]), 2, 16) := by kernel_rfl
def RS.new (n : Nat) : RS := ⟨PS.new n 65535, List.replicate (n * 3) 0, List.replicate n (0, 0)⟩
def NewStore (w : World) (n : Nat) (e : Ending) (w' : World) : Prop := ∃ b F, e = .returned (.tuple #[.pointer (some ⟨b, 0, none⟩), .int .i64 0]) ∧ StoreAt w' b F (RS.new n) ∧ Below w.heap.size w w' ∧ ∀ k, F k → w.heap.size ≤ k

set_option maxRecDepth 100000 in
set_option maxHeartbeats 1600000 in
theorem store_new (n : Nat) (w : World) (h0 : 1 ≤ n) (h1 : n ≤ 4096) :
    Calls Tryz.prog 5 #[.int .i64 n] w (NewStore w n) := by
  have a0 : (1 : Int) ≤ n := by omega
  have a1 : (n : Int) ≤ 4096 := by omega
  have HP := Lib.hid (fun w => pool_new n 65535 w h0 h1 (by decide) (by decide))
  have HA := Lib.hid (fun w => arena_new (n * 3) w (by omega) (by omega))
  have x3 : ((n * 3 : Nat) : Int) = (n : Int) * 3 := by omega
  have X3 := Lib.hid x3
  clear x3
  obtain ⟨i0, hi, hz0, hz1, hz2⟩ := info_parts info_data
  have hby : i0.bytes * n ≤ 281474976710656 := by rw [hz2]; omega
  have hmx : n ≤ maxLen := by unfold maxLen; omega
  go_enter Tryz.func5, Tryz.ntmps5
  go_wp2_with fail
  refine (HP.out _).mono ?_
  rintro e w1 ⟨pb, Fp, rfl, p1, B1, f1⟩
  have S1 := Lib.hid ((Sep.nil w).new (A := obPool pb Fp (PS.new n 65535)) B1 p1 f1)
  clear p1 B1 f1 HP
  go_wp2_with fail
  have ha := HA.out w1
  rw [X3.out] at ha
  refine ha.mono ?_
  rintro e w2 ⟨ab, Fa, rfl, p2, B2, f2⟩
  have S2 := Lib.hid (S1.out.new (A := obArena ab Fa (List.replicate (n * 3) 0)) B2 p2 f2)
  clear p2 B2 f2 HA ha S1
  go_wp2_with (at_make; refine wpList_make_full _ rfl _ _ 60 rfl w2.heap.size 89 i0 (.agg #[.int .i64 0, .int .i64 0]) 2 Tryz.underlying60 hi hz0 hz1 .i64 .i64 _ _ n rfl rfl rfl rfl hby hmx (Nat.le_refl _) ?_)
  intro w3 hown hgrow
  have HO : w3.heap[w2.heap.size]? = some (.cells (dataCells (List.replicate n (0, 0))).toArray 89 (0, 0)) := by
    rcases hown.2 with ⟨h, _⟩ | ⟨g, cap, cur, hv, _, hh, _, _, hsz, htk⟩
    · cases h
    · simp only [Value.slice.injEq, Option.some.injEq, Addr.mk.injEq] at hv
      obtain ⟨⟨rfl, _⟩, _, rfl⟩ := hv
      rw [hh]
      have : cur.toList = dataCells (List.replicate n (0, 0)) := by
        rw [List.take_of_length_le (by simp; omega)] at htk
        rw [htk]
        exact dataCells_new n
      rw [← this]
  have hz := blk_lt HO
  have S3 := Lib.hid (S2.out.new (A := obBlk w2.heap.size (dataCells (List.replicate n (0, 0))).toArray 89) ((Below.refl w2.heap.size w2).grown hgrow (Nat.le_refl _) (by simp)) HO (fun k hk => by have : k = w2.heap.size := hk; omega))
  clear HO hown hgrow S2
  go_wp2_with fail
  go_ret2
  have hnew := blk_new w3 (.cells (storeCells pb ab w2.heap.size n) 62 (0, 0))
  have S4 := S3.out.new (A := obBlk w3.heap.size (storeCells pb ab w2.heap.size n) 62) ((Below.refl _ _).alloc (Nat.le_refl _) _) hnew (fun k hk => by have : k = w3.heap.size := hk; omega)
  have S5 := S4.perm (((perm2 _ _ _).cons _).cons _)
  have hln : (RS.new n).p.sl.length = n := by simp [RS.new, PS.new]
  have hbun := Bun.of_sep S5
  refine ⟨w3.heap.size, _, rfl, ⟨pb, ab, w2.heap.size, Fp, Fa, by rw [hln]; exact hbun, ⟨by rw [hln]; simp [RS.new], by rw [hln]; simp [RS.new]⟩⟩, S5.bel, ?_⟩
  rintro k ⟨o, ho, hk⟩
  exact (S5.each o ho).2 k hk
end Go.Proofs.YtoidmakaijkglaaGreat
