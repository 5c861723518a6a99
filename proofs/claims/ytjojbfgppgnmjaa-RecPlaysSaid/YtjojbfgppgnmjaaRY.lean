/- RecPlays: the store, the document's pool, the rows of what was told: what each call leaves. -/
import Derived.Test.YtjojbfgppgnmjaaRX
import Derived.Test.YtjojbfgppgnmjaaU5
namespace Go.Proofs.Ytjojbfgppgnmjaa
open Go.RowKit
def RQ (w0 : World) (b c : Nat) (L : List Ob) (ov : Value) (told : List Int) (vv : Value) (vs : List Ver) (s : RS) (t : PS) (W : World) : Prop := ∃ F G, Sep w0 W (obRow .u64 28 ov told :: obVers vv vs :: obStore b F s :: obRef c G t :: L)
section
variable {w0 W w' : World} {b c n : Nat} {k : Int} {L : List Ob} {ov vv : Value} {told : List Int} {vs : List Ver} {s s' : RS} {t t' : PS} {F G : Nat → Prop} {x : Int}
theorem rq_store (h : Sep w0 W (obRow .u64 28 ov told :: obVers vv vs :: obStore b F s :: obRef c G t :: L)) (hl : LeftS W b F s' w') : RQ w0 b c L ov told vv vs s' t w' := by
  obtain ⟨F', h'⟩ := h.bring3.store hl
  exact ⟨F', G, h'.back3⟩
theorem rq_ref (h : Sep w0 W (obRow .u64 28 ov told :: obVers vv vs :: obStore b F s :: obRef c G t :: L)) (hl : LeftR W c G t' w') : RQ w0 b c L ov told vv vs s t' w' := by
  obtain ⟨G', h'⟩ := h.bring4.ref hl
  exact ⟨F, G', h'.back4⟩
theorem RQ.below (h : RQ w0 b c L ov told vv vs s t W) (hb : Below W.heap.size W w') : RQ w0 b c L ov told vv vs s t w' := by
  obtain ⟨F, G, h⟩ := h
  exact ⟨F, G, h.below hb⟩
theorem RQ.drew (h : RQ w0 b c L ov told vv vs s t W) : RQ w0 b c L ov told vv vs s t W.drew := h.below (Below.drew (Below.refl _ _))
theorem RQ.bel (h : RQ w0 b c L ov told vv vs s t W) : Below w0.heap.size w0 W := by
  obtain ⟨F, G, h⟩ := h
  exact h.bel
theorem RQ.row (h : RQ w0 b c L ov told vv vs s t W) : Owned .u64 28 W ov told := by
  obtain ⟨F, G, h⟩ := h
  exact h.head
theorem RQ.vers (h : RQ w0 b c L ov told vv vs s t W) : OwnedV W vv vs := by
  obtain ⟨F, G, h⟩ := h
  exact h.second
/-- The store's. -/
theorem rq_make_bad (h : RQ w0 b c L ov told vv vs s t W) (key v y z : Int) (hb : key < 0 ∨ 63 < key ∨ v < 0 ∨ 65535 < v) :
    Calls Try.prog 18 #[.pointer (some ⟨b, 0, none⟩), .int .i64 key, .int .i64 v, .int .u64 y, .int .u64 z] W fun e w' => e = .returned (.tuple #[.int .u64 0, .int .i64 1]) ∧ RQ w0 b c L ov told vv vs s t w' :=
  (make_bad b key v y z W hb).mono fun _ _ ⟨he, hw⟩ => ⟨he, hw ▸ h⟩
theorem rq_make_full (h : RQ w0 b c L ov told vv vs s t W) (key v y z : Int) (k0 : 0 ≤ key) (k1 : key ≤ 63) (v0 : 0 ≤ v) (v1 : v ≤ 65535) (hl : s.p.listed.free = []) :
    Calls Try.prog 18 #[.pointer (some ⟨b, 0, none⟩), .int .i64 key, .int .i64 v, .int .u64 y, .int .u64 z] W fun e w' => e = .returned (.tuple #[.int .u64 0, .int .i64 15]) ∧ RQ w0 b c L ov told vv vs s.listed t w' := by
  obtain ⟨F, G, h⟩ := h
  exact (make_full b F s key v y z W h.third k0 k1 v0 v1 hl).mono fun _ _ ⟨he, hl⟩ => ⟨he, rq_store h hl⟩
theorem rq_make (h : RQ w0 b c L ov told vv vs s t W) {l : List Int} {i : Nat} (key v y z : Int) (k0 : 0 ≤ key) (k1 : key ≤ 63) (v0 : 0 ≤ v) (v1 : v ≤ 65535) (hl : s.p.listed.free = l ++ [(i : Int)]) :
    Calls Try.prog 18 #[.pointer (some ⟨b, 0, none⟩), .int .i64 key, .int .i64 v, .int .u64 y, .int .u64 z] W fun e w' => e = .returned (.tuple #[.int .u64 (s.p.listed.link i), .int .i64 0]) ∧ RQ w0 b c L ov told vv vs (s.make l i key v y z) t w' := by
  obtain ⟨F, G, h⟩ := h
  exact (make_ok b F s l i key v y z W h.third k0 k1 v0 v1 hl).mono fun _ _ ⟨he, hl⟩ => ⟨he, rq_store h hl⟩
theorem rq_free (h : RQ w0 b c L ov told vv vs s t W) (h0 : 0 ≤ x) (h1 : x ≤ 18446744073709551615) :
    Calls Try.prog 23 #[.pointer (some ⟨b, 0, none⟩), .int .u64 x] W fun e w' => e = .returned (.int .i64 (if s.p.live x then 0 else 8)) ∧ RQ w0 b c L ov told vv vs (if s.p.live x then s.free x else s) t w' := by
  obtain ⟨F, G, h⟩ := h
  refine (rec_free x W h.third h0 h1).mono fun e w' r => ?_
  rcases r with ⟨e1, e2, rfl⟩ | ⟨e1, e2, e3⟩
  · rw [e1]
    exact ⟨e2, F, G, h⟩
  · rw [e1]
    exact ⟨e2, rq_store h e3⟩
theorem rq_set_no (h : RQ w0 b c L ov told vv vs s t W) (h0 : 0 ≤ x) (h1 : x ≤ 18446744073709551615) (v : Int) (hl : s.p.live x = false) :
    Calls Try.prog 26 #[.pointer (some ⟨b, 0, none⟩), .int .u64 x, .int .i64 v] W fun e w' => e = .returned (.int .i64 8) ∧ RQ w0 b c L ov told vv vs s t w' := by
  obtain ⟨F, G, h⟩ := h
  exact (set_stale b F s x v W h.third h0 h1 hl).mono fun _ _ ⟨he, hb⟩ => ⟨he, F, G, h.below hb⟩
theorem rq_set_bad (h : RQ w0 b c L ov told vv vs s t W) (h0 : 0 ≤ x) (h1 : x ≤ 18446744073709551615) (v : Int) (hl : s.p.live x = true) (hv : ¬ (0 ≤ v ∧ v ≤ 65535)) :
    Calls Try.prog 26 #[.pointer (some ⟨b, 0, none⟩), .int .u64 x, .int .i64 v] W fun e w' => e = .returned (.int .i64 1) ∧ RQ w0 b c L ov told vv vs s t w' := by
  obtain ⟨F, G, h⟩ := h
  exact (set_bad b F s x v W h.third h0 h1 hl hv).mono fun _ _ ⟨he, hb⟩ => ⟨he, F, G, h.below hb⟩
theorem rq_set (h : RQ w0 b c L ov told vv vs s t W) (h0 : 0 ≤ x) (h1 : x ≤ 18446744073709551615) (v : Int) (hl : s.p.live x = true) (v0 : 0 ≤ v) (v1 : v ≤ 65535) :
    Calls Try.prog 26 #[.pointer (some ⟨b, 0, none⟩), .int .u64 x, .int .i64 v] W fun e w' => e = .returned (.int .i64 0) ∧ RQ w0 b c L ov told vv vs (s.setv (slotOf x) v) t w' := by
  obtain ⟨F, G, h⟩ := h
  exact (set_ok b F s x v W h.third h0 h1 hl v0 v1).mono fun _ _ ⟨he, hl⟩ => ⟨he, rq_store h hl⟩
theorem rq_next (h : RQ w0 b c L ov told vv vs s t W) (h0 : 0 ≤ x) (h1 : x ≤ 18446744073709551615) (y : Int) :
    Calls Try.prog 22 #[.pointer (some ⟨b, 0, none⟩), .int .u64 x, .int .u64 y] W fun e w' => e = .returned (.int .i64 (if s.p.live x then 0 else 8)) ∧ RQ w0 b c L ov told vv vs (if s.p.live x then s.setw (slotOf x * 3 + 2) y else s) t w' := by
  obtain ⟨F, G, h⟩ := h
  cases hl : s.p.live x with
  | false => exact (next_stale b F s x y W h.third h0 h1 hl).mono fun _ _ ⟨he, hb⟩ => ⟨he, F, G, h.below hb⟩
  | true => exact (next_ok b F s x y W h.third h0 h1 hl).mono fun _ _ ⟨he, hl⟩ => ⟨he, rq_store h hl⟩
/-- What Begin and End leave. -/
def RQTurned (w0 : World) (b c : Nat) (L : List Ob) (ov : Value) (told : List Int) (vv : Value) (vs : List Ver) (s : RS) (t : PS) (x : Int) (j : Nat) (o y : Int) (e : Ending) (w' : World) : Prop :=
  e = .returned (.bool (decide (s.p.live x = true ∧ s.ws.getD (slotOf x * 3 + j) 0 = o))) ∧ RQ w0 b c L ov told vv vs (if s.p.live x = true ∧ s.ws.getD (slotOf x * 3 + j) 0 = o then s.setw (slotOf x * 3 + j) y else s) t w'
theorem rq_turned {j : Nat} {o y : Int} {e : Ending} (h : Sep w0 W (obRow .u64 28 ov told :: obVers vv vs :: obStore b F s :: obRef c G t :: L)) (ht : Turned W b F s x j o y e w') : RQTurned w0 b c L ov told vv vs s t x j o y e w' := by
  unfold RQTurned
  rcases ht with ⟨h1, h2, he, hl⟩ | ⟨hn, he, hl⟩
  · rw [if_pos ⟨h1, h2⟩, decide_eq_true (And.intro h1 h2)]
    exact ⟨he, rq_store h hl⟩
  · rw [if_neg hn, decide_eq_false hn]
    exact ⟨he, rq_store h hl⟩
theorem rq_begin (h : RQ w0 b c L ov told vv vs s t W) (h0 : 0 ≤ x) (h1 : x ≤ 18446744073709551615) (o y : Int) :
    Calls Try.prog 21 #[.pointer (some ⟨b, 0, none⟩), .int .u64 x, .int .u64 o, .int .u64 y] W (RQTurned w0 b c L ov told vv vs s t x 0 o y) := by
  obtain ⟨F, G, h⟩ := h
  exact (rec_begin b F s x o y W h.third h0 h1).mono fun _ _ ht => rq_turned h ht
theorem rq_end (h : RQ w0 b c L ov told vv vs s t W) (h0 : 0 ≤ x) (h1 : x ≤ 18446744073709551615) (o y : Int) :
    Calls Try.prog 19 #[.pointer (some ⟨b, 0, none⟩), .int .u64 x, .int .u64 o, .int .u64 y] W (RQTurned w0 b c L ov told vv vs s t x 1 o y) := by
  obtain ⟨F, G, h⟩ := h
  exact (rec_end b F s x o y W h.third h0 h1).mono fun _ _ ht => rq_turned h ht
theorem rq_get_no (h : RQ w0 b c L ov told vv vs s t W) (h0 : 0 ≤ x) (h1 : x ≤ 18446744073709551615) (hl : s.p.live x = false) :
    Calls Try.prog 20 #[.pointer (some ⟨b, 0, none⟩), .int .u64 x] W fun e w' => e = .returned (.tuple #[ver0.value, .bool false]) ∧ RQ w0 b c L ov told vv vs s t w' := by
  obtain ⟨F, G, h⟩ := h
  exact (get_stale b F s x W h.third h0 h1 hl).mono fun _ _ ⟨he, hb⟩ => ⟨he, F, G, h.below hb⟩
theorem rq_get (h : RQ w0 b c L ov told vv vs s t W) (h0 : 0 ≤ x) (h1 : x ≤ 18446744073709551615) (hl : s.p.live x = true) :
    Calls Try.prog 20 #[.pointer (some ⟨b, 0, none⟩), .int .u64 x] W fun e w' => e = .returned (.tuple #[(s.ver (slotOf x)).value, .bool true]) ∧ RQ w0 b c L ov told vv vs s t w' := by
  obtain ⟨F, G, h⟩ := h
  exact (get_live b F s x W h.third h0 h1 hl).mono fun _ _ ⟨he, hl⟩ => ⟨he, rq_store h hl⟩
theorem rq_used (h : RQ w0 b c L ov told vv vs s t W) :
    Calls Try.prog 24 #[.pointer (some ⟨b, 0, none⟩)] W fun e w' => e = .returned (.int .i64 (cnt s.p.sl)) ∧ RQ w0 b c L ov told vv vs s.listed t w' := by
  obtain ⟨F, G, h⟩ := h
  exact (rec_used W h.third).mono fun _ _ ⟨he, hl⟩ => ⟨he, rq_store h hl⟩
/-- The document's pool's. -/
theorem rq_take_full (h : RQ w0 b c L ov told vv vs s t W) (hl : t.free = []) :
    Calls Try.prog 29 #[.pointer (some ⟨c, 0, none⟩)] W fun e w' => e = .returned (.tuple #[.int .u64 0, .int .i64 15]) ∧ RQ w0 b c L ov told vv vs s t w' := by
  obtain ⟨F, G, h⟩ := h
  exact (Ref.take_full c G t W h.bring4.head hl).mono fun e w' r => ⟨r.1, rq_ref h r.2⟩
theorem rq_take (h : RQ w0 b c L ov told vv vs s t W) {l : List Int} {i : Nat} (hl : t.free = l ++ [(i : Int)]) :
    Calls Try.prog 29 #[.pointer (some ⟨c, 0, none⟩)] W fun e w' => e = .returned (.tuple #[.int .u64 (t.link i), .int .i64 0]) ∧ RQ w0 b c L ov told vv vs s (t.take l i) w' := by
  obtain ⟨F, G, h⟩ := h
  exact (Ref.take_some c G t l i W h.bring4.head hl).mono fun e w' r => ⟨r.1, rq_ref h r.2⟩
theorem rq_give (h : RQ w0 b c L ov told vv vs s t W) (h0 : 0 ≤ x) (h1 : x ≤ 18446744073709551615) (hl : t.live x = true) :
    Calls Try.prog 30 #[.pointer (some ⟨c, 0, none⟩), .int .u64 x] W fun e w' => e = .returned (.int .i64 0) ∧ RQ w0 b c L ov told vv vs s (t.give (x % 131072 - 1).toNat) w' := by
  obtain ⟨F, G, h⟩ := h
  refine (Ref.ref_give c G t x W h.bring4.head h0 h1).mono fun e w' r => ?_
  rcases r with ⟨e1, _⟩ | ⟨_, e2, e3⟩
  · rw [hl] at e1; cases e1
  · exact ⟨e2, rq_ref h e3⟩
theorem rq_live (h : RQ w0 b c L ov told vv vs s t W) (h0 : 0 ≤ x) (h1 : x ≤ 18446744073709551615) :
    Calls Try.prog 28 #[.pointer (some ⟨c, 0, none⟩), .int .u64 x] W fun e w' => e = .returned (.bool (t.live x)) ∧ W = w' := by
  obtain ⟨F, G, h⟩ := h
  exact Ref.ref_live c G t x W h.bring4.head h0 h1
theorem rq_all (h : RQ w0 b c L ov told vv vs s t W) :
    Calls Try.prog 31 #[.pointer (some ⟨c, 0, none⟩)] W fun e w' => ∃ a cap, e = .returned (.slice a (cnt t.sl) cap) ∧ Owned .u64 28 w' (.slice a (cnt t.sl) cap) t.all' ∧ RQ w0 b c L ov told vv vs s t w' ∧ Below W.heap.size W w' := by
  have h' := h
  obtain ⟨F, G, h⟩ := h
  refine (Ref.ref_all c G t W h.bring4.head).mono fun e w' r => ?_
  obtain ⟨sv, e1, e2, e3, e4⟩ := r
  obtain ⟨a, cap, rfl, _⟩ := e2.form
  rw [all_cnt] at *
  exact ⟨a, cap, e1, e2, h'.below e3, e3⟩
/-- The two pools go together. -/
theorem free_listed (hs : s.p.ok) (hl : s.p.live x = true) : (s.free x).p.listed = s.p.listed.give (x % 131072 - 1).toNat := by
  have h1 := Ref.live_listed hs hl
  have h2 : s.p.init = true := by rw [← h1]; exact listed_init s.p
  show (s.p.give _).listed = _
  rw [h1, listed_yes (by rw [Ref.give_init]; exact h2)]
theorem make_listed {l : List Int} {i : Nat} {key v y z : Int} : (s.make l i key v y z).p.listed = s.p.listed.take l i := by
  show (s.p.listed.take l i).listed = _
  exact listed_yes (listed_init s.p)
end
end Go.Proofs.Ytjojbfgppgnmjaa
