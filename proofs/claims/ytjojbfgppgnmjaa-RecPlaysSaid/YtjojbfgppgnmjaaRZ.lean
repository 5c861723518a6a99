/- RecPlays: what is told is added to and turned; which link is met; what a round of the switch leaves. -/
import Derived.Test.YtjojbfgppgnmjaaRY
namespace Go.Proofs.Ytjojbfgppgnmjaa
open Go.RowKit
section
variable {w0 W w' X : World} {b c n : Nat} {k : Int} {L : List Ob} {ov vv v' : Value} {told : List Int} {vs : List Ver} {s s' : RS} {t t' : PS} {x : Int}
theorem RQ.blk {g : Nat} {cs : Array Value} {T : TypeId} (h : RQ w0 b c [obBlk g cs T] ov told vv vs s t W) : W.heap[g]? = some (.cells cs T (0, 0)) := by
  obtain ⟨F, G, h⟩ := h
  exact h.tail.tail.tail.tail.head
theorem RQ.app (h : RQ w0 b c L ov told vv vs s t W) (hX : Mod (fun _ => False) W X) {m : Nat} {zs : List Value} (hA : Appended X w' 0 28 1 ov v' m zs) {x : Int} (hn : m = told.length + 1) (hz : zs = told.map (Value.int .u64) ++ [.int .u64 x]) : RQ w0 b c L v' (told ++ [x]) vv vs s t w' := by
  obtain ⟨F, G, h⟩ := h
  exact ⟨F, G, h.append hX hA (ys := [x]) (by simpa using hn) hz⟩
theorem RQ.appV (h : RQ w0 b c L ov told vv vs s t W) (hX : Mod (fun _ => False) W X) {m : Nat} {zs : List Value} {y : Ver} (hA : Appended X w' 0 34 5 vv v' m zs) (hn : m = vs.length + 1) (hz : zs = verCells vs ++ y.cells) : RQ w0 b c L ov told v' (vs ++ [y]) s t w' := by
  obtain ⟨F, G, h⟩ := h
  exact ⟨F, G, (h.swap.appendV hX hA hn hz).swap⟩
theorem RQ.setV {g m cap i q : Nat} (h : RQ w0 b c L ov told (.slice (some ⟨g, 0, none⟩) m cap) vs s t W) (hi : i < vs.length) (hq : q < 5) (x : Int) : RQ w0 b c L ov told (.slice (some ⟨g, 0, none⟩) m cap) (vs.set i ((vs.getD i ver0).put q x)) s t (W.setCell ⟨g, i * 5 + q, none⟩ (.int (Ver.kind q) x)) := by
  obtain ⟨F, G, h⟩ := h
  exact ⟨F, G, (h.swap.step (A' := obVers (.slice (some ⟨g, 0, none⟩) m cap) (vs.set i ((vs.getD i ver0).put q x))) (ownedV_set h.second hi hq x) ((Mod.refl (obVers (.slice (some ⟨g, 0, none⟩) m cap) vs).F W).setCell (p := ⟨g, i * 5 + q, none⟩) (.inl (show (Value.slice (some ⟨g, 0, none⟩) m cap).ownBlock = some g from rfl)) _) (Grows.refl _ _)).swap⟩
theorem rq_links (h : RQ w0 b c L ov told vv vs s t W) :
    Calls Try.prog 25 #[.pointer (some ⟨b, 0, none⟩)] W fun e w' => ∃ a cap, e = .returned (.slice a (cnt s.p.sl) cap) ∧ Owned .u64 28 w' (.slice a (cnt s.p.sl) cap) s.p.all' ∧ RQ w0 b c L ov told vv vs s t w' := by
  have h' := h
  obtain ⟨F, G, h⟩ := h
  refine (rec_links W h.third).mono fun e w' r => ?_
  obtain ⟨sv, e1, e2, e3, e4⟩ := r
  obtain ⟨a, cap, rfl, _⟩ := e2.form
  rw [all_cnt] at *
  exact ⟨a, cap, e1, e2, h'.below e3⟩
/-- Which of the links that are told is meant, of the first i. -/
def AtRel (told : List Int) (x : Int) (i : Nat) (v : Value) : Prop := (v = .int .i64 (-1) ∧ ∀ j, j < i → told.getD j 0 ≠ x) ∨ ∃ j : Nat, j < told.length ∧ v = .int .i64 j ∧ told.getD j 0 = x
theorem AtRel.start (told : List Int) (x : Int) : AtRel told x 0 (.int .i64 (-1)) := .inl ⟨rfl, fun j h => absurd h (Nat.not_lt_zero j)⟩
theorem AtRel.miss {i : Nat} {v : Value} (h : AtRel told x i v) (hx : told.getD i 0 ≠ x) : AtRel told x (i + 1) v := by
  rcases h with ⟨h1, h2⟩ | h
  · refine .inl ⟨h1, fun j hj => ?_⟩
    by_cases e : j = i
    · exact e ▸ hx
    · exact h2 j (by omega)
  · exact .inr h
theorem AtRel.hit {i : Nat} (hi : i < told.length) (hx : told.getD i 0 = x) : AtRel told x (i + 1) (.int .i64 i) := .inr ⟨i, hi, rfl, hx⟩
theorem AtRel.back {i : Nat} {v : Value} (h : AtRel told x i v) : AtRel told x 0 v := by
  rcases h with ⟨h1, h2⟩ | h
  · exact .inl ⟨h1, fun j h => absurd h (Nat.not_lt_zero j)⟩
  · exact .inr h
theorem AtRel.grow {v : Value} (h : AtRel told x 0 v) (z : Int) : AtRel (told ++ [z]) x 0 v := by
  rcases h with ⟨h1, _⟩ | ⟨j, h1, h2, h3⟩
  · exact .inl ⟨h1, fun j h => absurd h (Nat.not_lt_zero j)⟩
  · refine .inr ⟨j, by simp; omega, h2, ?_⟩
    rw [List.getD_eq_getElem?_getD, List.getElem?_append_left h1, ← List.getD_eq_getElem?_getD]
    exact h3
theorem AtRel.none {v : Value} (h : AtRel told x told.length v) : (v = .int .i64 (-1) ∧ x ∉ told) ∨ ∃ j : Nat, j < told.length ∧ v = .int .i64 j ∧ told.getD j 0 = x := by
  rcases h with ⟨h1, h2⟩ | h
  · refine .inl ⟨h1, fun hm => ?_⟩
    obtain ⟨j, hj, e⟩ := List.getElem_of_mem hm
    exact h2 j hj (by simp [List.getD_eq_getElem?_getD, hj, e])
  · exact .inr h
/-- Behind the switch. -/
def Turn6 (w0 : World) (b c n g : Nat) (cs : Array Value) (T : TypeId) (k : Nat) (x : Int) (at' ov vv : Value) (W : World) : Prop :=
  ∃ told vs s, Told n (k + 1) s told vs ∧ told.length ≤ k + 1 ∧ AtRel told x 0 at' ∧ RQ w0 b c [obBlk g cs T] ov told vv vs s s.p.listed W
theorem RQ.shut {w0 W : World} {b c : Nat} {ov vv : Value} {told : List Int} {vs : List Ver} {s : RS} {t : PS} {A : Ob} (h : RQ w0 b c [A] ov told vv vs s t W) : RQ w0 b c [] ov told vv vs s t W := by
  obtain ⟨F, G, h⟩ := h
  exact ⟨F, G, h.bel, fun o ho => h.each o (by simp at ho ⊢; rcases ho with h | h | h | h <;> simp [h]), by
    have h2 : [obRow .u64 28 ov told, obVers vv vs, obStore b F s, obRef c G t] ++ [A] = [obRow .u64 28 ov told, obVers vv vs, obStore b F s, obRef c G t, A] := rfl
    have h3 := h.apart
    rw [← h2] at h3
    exact (List.pairwise_append.1 h3).1⟩
theorem RQ.drewN (h : RQ w0 b c L ov told vv vs s t W) (m : Nat) : RQ w0 b c L ov told vv vs s t (W.drewN m) := h.below (below_drewN (Below.refl _ _) m)
theorem RQ.ok (h : RQ w0 b c L ov told vv vs s t W) : s.p.ok ∧ s.ok := by
  obtain ⟨F, G, h⟩ := h
  exact (h.third : StoreAt W b F s).pool
theorem RQ.someV {a : Option Addr} {m cap : Nat} (h : RQ w0 b c L ov told (.slice a m cap) vs s t W) (hl : 0 < vs.length) : ∃ g, a = some ⟨g, 0, none⟩ := by
  rcases (h.vers).2 with ⟨hv, hn⟩ | ⟨g, cap', cur, hv, _⟩
  · omega
  · simp only [Value.slice.injEq] at hv
    exact ⟨g, hv.1⟩
theorem RQ.verAt {g m cap i q : Nat} (h : RQ w0 b c L ov told (.slice (some ⟨g, 0, none⟩) m cap) vs s t W) (hi : i < vs.length) (hq : q < 5) : W.cell? ⟨g, i * 5 + q, none⟩ = (vs.getD i ver0).cells[q]? ∧ W.frozen? ⟨g, i * 5 + q, none⟩ = false := by
  have hv := h.vers
  have h2 := (OwnedV.at_ hv)
  obtain ⟨a', cap', hv', _⟩ := h2
  have h3 : VersAt W (.slice (some ⟨g, 0, none⟩) vs.length cap) vs := by
    have := OwnedV.at_ hv
    simp only [Value.slice.injEq] at hv'
    obtain ⟨rfl, rfl, rfl⟩ := hv'
    exact this
  refine ⟨h3.cell hi hq, ?_⟩
  rcases hv.2 with ⟨hv, _⟩ | ⟨g', cap', cur, hv, hg, hh, _⟩
  · cases hv
  · simp only [Value.slice.injEq, Option.some.injEq, Addr.mk.injEq, and_true] at hv
    obtain ⟨rfl, rfl, rfl⟩ := hv
    exact blk_free hh _
theorem RQTurned.no {j : Nat} {o y : Int} {e : Ending} (h : RQTurned w0 b c L ov told vv vs s t x j o y e W) (hn : ¬ (s.p.live x = true ∧ s.ws.getD (slotOf x * 3 + j) 0 = o)) : e = .returned (.bool false) ∧ RQ w0 b c L ov told vv vs s t W := by
  unfold RQTurned at h
  rw [if_neg hn, decide_eq_false hn] at h
  exact h
theorem RQTurned.yes {j : Nat} {o y : Int} {e : Ending} (h : RQTurned w0 b c L ov told vv vs s t x j o y e W) (hn : s.p.live x = true ∧ s.ws.getD (slotOf x * 3 + j) 0 = o) : e = .returned (.bool true) ∧ RQ w0 b c L ov told vv vs (s.setw (slotOf x * 3 + j) y) t W := by
  unfold RQTurned at h
  rw [if_pos hn, decide_eq_true hn] at h
  exact h
theorem rq_get_any (h : RQ w0 b c L ov told vv vs s t W) (h0 : 0 ≤ x) (h1 : x ≤ 18446744073709551615) {v : Ver} (hv : v = if s.p.live x = true then s.ver (slotOf x) else ver0) :
    Calls Try.prog 20 #[.pointer (some ⟨b, 0, none⟩), .int .u64 x] W fun e w' => e = .returned (.tuple #[v.value, .bool (s.p.live x)]) ∧ RQ w0 b c L ov told vv vs s t w' := by
  cases hl : s.p.live x with
  | true =>
    rw [hl, if_pos rfl] at hv
    rw [hv]
    exact rq_get h h0 h1 hl
  | false =>
    rw [hl, if_neg (by decide)] at hv
    rw [hv]
    exact rq_get_no h h0 h1 hl
theorem rq_used' (h : RQ w0 b c L ov told vv vs s s.p.listed W) {N : Nat} (hN : cnt s.p.sl = N) :
    Calls Try.prog 24 #[.pointer (some ⟨b, 0, none⟩)] W fun e w' => e = .returned (.int .i64 N) ∧ RQ w0 b c L ov told vv vs s.listed s.p.listed w' :=
  (rq_used h).mono fun e w' r => by rw [hN] at r; exact r
theorem rq_all' (h : RQ w0 b c L ov told vv vs s.listed s.p.listed W) {N : Nat} (hN : cnt s.p.sl = N) :
    Calls Try.prog 31 #[.pointer (some ⟨c, 0, none⟩)] W fun e w' => ∃ a cap, e = .returned (.slice a N cap) ∧ Owned .u64 28 w' (.slice a N cap) s.p.listed.all' ∧ RQ w0 b c L ov told vv vs s.listed s.p.listed w' ∧ Below W.heap.size W w' := by
  have e : cnt s.p.listed.sl = N := by rw [listed_sl]; exact hN
  refine (rq_all h).mono fun e w' r => ?_
  rw [‹cnt s.p.listed.sl = N›] at r
  exact r
theorem rq_links' (h : RQ w0 b c L ov told vv vs s.listed s.p.listed W) {N : Nat} (hN : cnt s.p.sl = N) :
    Calls Try.prog 25 #[.pointer (some ⟨b, 0, none⟩)] W fun e w' => ∃ a cap, e = .returned (.slice a N cap) ∧ Owned .u64 28 w' (.slice a N cap) s.p.listed.all' ∧ RQ w0 b c L ov told vv vs s.listed s.p.listed w' := by
  have e : cnt s.p.listed.sl = N := by rw [listed_sl]; exact hN
  refine (rq_links h).mono fun e w' r => ?_
  have e2 : cnt s.listed.p.sl = N := ‹cnt s.p.listed.sl = N›
  rw [e2] at r
  exact r
theorem RQ.all_len (h : RQ w0 b c L ov told vv vs s t W) : s.p.listed.all'.length ≤ 1000000 := by
  rw [all_cnt]
  have h1 := (h.ok.1).n2
  have h3 : cnt s.p.listed.sl ≤ s.p.listed.sl.length := List.countP_le_length
  rw [listed_sl] at h3 ⊢
  omega
end
end Go.Proofs.Ytjojbfgppgnmjaa
