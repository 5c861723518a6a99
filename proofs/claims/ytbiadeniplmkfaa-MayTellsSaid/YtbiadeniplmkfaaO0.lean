/- Rows of integers that the call itself makes by append: 'Owned'. -/
import Derived.Test.YtbiadeniplmkfaaB1
import Derived.Test.YtbiadeniplmkfaaC1
import Derived.Deep.RegionLaw
import Derived.Deep.QuietTactic
import Derived.BigQuiet
namespace Go.Proofs.Ytbiadeniplmkfaa
open Go.RowKit

def Owned (k : IntKind) (E : TypeId) (base : Nat) (w : World) (v : Value) (l : List Int) : Prop := w.ownsRow base E 1 v l.length (l.map (Value.int k))

theorem ownsRow_below {w w1 : World} {base : Nat} {e : TypeId} {size : Nat} {v : Value} {n : Nat} {xs : List Value} (h : w.ownsRow base e size v n xs) (hb : Below w.heap.size w w1) : w1.ownsRow base e size v n xs := by
  refine ⟨h.1, ?_⟩
  rcases h.2 with h2 | ⟨g, cap, cur, hv, hg, hh, r⟩
  · exact .inl h2
  · refine .inr ⟨g, cap, cur, hv, hg, ?_, r⟩
    have hlt : g < w.heap.size := (Array.getElem?_eq_some_iff.1 hh).1
    rw [hb.block g hlt]
    exact hh
theorem Owned.later {k : IntKind} {E : TypeId} {base : Nat} {w w1 : World} {v : Value} {l : List Int} (h : Owned k E base w v l) (hb : Below w.heap.size w w1) : Owned k E base w1 v l := ownsRow_below h hb
theorem Owned.nil (k : IntKind) (E : TypeId) (base : Nat) (w : World) : Owned k E base w (.slice none 0 0) [] := World.ownsRow_nil _ _ _ _

theorem Owned.row {k : IntKind} {E : TypeId} {base : Nat} {w : World} {v : Value} {l : List Int} (h : Owned k E base w v l) : RowAt k w v l := by
  rcases h.2 with ⟨hv, hn⟩ | ⟨g, cap, cur, hv, hg, hh, hnc, hcm, r⟩
  · have : l = [] := List.length_eq_zero_iff.1 hn
    subst this
    exact .inl ⟨rfl, none, 0, hv⟩
  · refine .inr ⟨g, 0, cap, hv, by omega, (Array.getElem?_eq_some_iff.1 hh).1, fun i hi => ?_⟩
    unfold Owned at h
    rw [hv] at h
    rw [Nat.zero_add, h.cellAt i (by omega)]
    simp [List.getD_eq_getElem?_getD, List.getElem?_eq_getElem hi]

theorem append_one {k : IntKind} {T E : TypeId} {bytes : Nat} {ops : Array Oper} {rest : List Oper} {o : Oper} {a : Act} {Q : Exit → Act → World → Prop} (hgd : o.guard = none) (s x : Operand)
    (ho : o.op = .call { callee := .builtin .append, args := #[s, x], argTypes := #[T, T] }) (ht : Try.prog.underlying T = some (.slice E))
    (hinfo : (Try.prog.info? E).map (fun i => (i.zero, i.size, i.bytes)) = some (some (.int k 0), 1, bytes)) (hby : bytes ≤ 8)
    {base : Nat} {w : World} {v : Value} {l : List Int} {y : Int} (hs : a.eval s = v) (hown : Owned k E base w v l) (hx : a.eval x = .slice (some ⟨w.heap.size, 0, none⟩) 1 1)
    (hlen : l.length ≤ 1099511627776) (hb : base ≤ w.heap.size)
    (h : ∀ v' w', Owned k E base w' v' (l ++ [y]) → (∀ B w0, B ≤ base → Below B w0 w → Below B w0 w') → wpList Try.prog ops Q rest (a.put o.dst v') w') :
    wpList Try.prog ops Q (o :: rest) a (w.alloc (.cells #[.int k y] E)) := by
  obtain ⟨i0, hi, hz0, hz1, hz2⟩ := info_parts hinfo
  refine wpList_append_own _ hgd s x T ho base E i0 (.int k 0) 1 bytes ht hi hz0 hz1 hz2 rfl (by decide) v l.length (l.map (Value.int k)) hs (World.ownsRow.alloc hown _) ⟨w.heap.size, 0, none⟩ 1 1 [.int k y] hx rfl ?_ ?_ ?_ ?_ ?_ ?_
  · intro j u hj
    match j, hj with
    | 0, hj => simp at hj; subst hj; simp [Addr.add]
  · intro u hu
    simp at hu
    subst hu
    rfl
  · unfold maxLen; omega
  · have : (l.length + 1) * bytes ≤ (l.length + 1) * 8 := Nat.mul_le_mul_left _ hby
    omega
  · simp; omega
  · intro v' w' h1 h2 _
    refine h v' w' ?_ ?_
    · unfold Owned
      simpa using h1
    · intro B w0 hB hb0
      have hbw : B ≤ w.heap.size := by omega
      refine (hb0.alloc hbw _).grown h2 (by simp; omega) ?_
      intro kk hk
      rcases hown.2 with ⟨hv, _⟩ | ⟨g, cap, cur, hv, hg, _⟩
      · rw [hv] at hk; simp [Value.ownBlock] at hk
      · rw [hv] at hk; simp [Value.ownBlock] at hk; omega

theorem step_append_one {k : IntKind} {T E : TypeId} {bytes : Nat} {ops : Array Oper} {o : Oper} {a : Act} {K : Act → World → Prop} {Q : Exit → Act → World → Prop} {F : Prop} (hgd : o.guard = none) (s x : Operand)
    (ho : o.op = .call { callee := .builtin .append, args := #[s, x], argTypes := #[T, T] }) (ht : Try.prog.underlying T = some (.slice E))
    (hinfo : (Try.prog.info? E).map (fun i => (i.zero, i.size, i.bytes)) = some (some (.int k 0), 1, bytes)) (hby : bytes ≤ 8)
    {base : Nat} {w : World} {v : Value} {l : List Int} {y : Int} {ad : Addr} (hs : a.eval s = v) (hown : Owned k E base w v l) (hx : a.eval x = .slice (some ad) 1 1) (hc : w.cell? (ad.add 0) = some (.int k y))
    (hlen : l.length ≤ 1099511627776) (hb : base ≤ w.heap.size)
    (h : ∀ v' w', Owned k E base w' v' (l ++ [y]) → (∀ B w0, B ≤ base → Below B w0 w → Below B w0 w') → K (a.put o.dst v') w') :
    if Region.wanted o (yielded ops a.tmps) = true then Oper.wp Try.prog o a w K Q else F := by
  have hw : Region.wanted o (yielded ops a.tmps) = true := by simp [Region.wanted, hgd]
  rw [if_pos hw]
  obtain ⟨i0, hi, hz0, hz1, hz2⟩ := info_parts hinfo
  refine wp_append_own _ s x T ho base E i0 (.int k 0) 1 bytes ht hi hz0 hz1 hz2 rfl (by decide) v l.length (l.map (Value.int k)) hs hown ad 1 1 [.int k y] hx rfl ?_ ?_ ?_ ?_ ?_ ?_
  · intro j u hj
    match j, hj with
    | 0, hj => simp at hj; subst hj; exact hc
  · intro u hu
    simp at hu
    subst hu
    rfl
  · unfold maxLen; omega
  · have : (l.length + 1) * bytes ≤ (l.length + 1) * 8 := Nat.mul_le_mul_left _ hby
    omega
  · exact hb
  · intro v' w' h1 h2 _
    refine h v' w' ?_ ?_
    · unfold Owned
      simpa using h1
    · intro B w0 hB hb0
      have hbw : B ≤ w.heap.size := by omega
      refine hb0.grown h2 hbw ?_
      intro kk hk
      rcases hown.2 with ⟨hv, _⟩ | ⟨g, cap, cur, hv, hg, _⟩
      · rw [hv] at hk; simp [Value.ownBlock] at hk
      · rw [hv] at hk; simp [Value.ownBlock] at hk; omega

/-- A region that draws its order, whose operations read and whose callees leave what was there alone: one walk, in the order of the text. -/
theorem wp_region_below {id : Nat} {Q : Exit → Act → World → Prop} {a : Act} {w : World} {l : List Oper} (hm : Try.prog.follows .mixedOrders = true) (hB : Region.lexB .any l.toArray = true)
    (h : wpQuiet Try.prog l.toArray (fun w' => Below w.heap.size w w') (fun a' => ∀ w', Below w.heap.size w w' → Q .normal a' w') l a) : (Code.region id l.toArray true).wp Try.prog Q a w :=
  wp_region_quiet (C := fun w' => Below w.heap.size w w') hm hB (Below.drew (Below.refl _ _)) (by simpa using h)

theorem info_u64 : (Try.prog.info? 22).map (fun i => (i.zero, i.size, i.bytes)) = some (some (.int .u64 0), 1, 8) := by kernel_rfl
theorem info_int : (Try.prog.info? 3).map (fun i => (i.zero, i.size, i.bytes)) = some (some (.int .i64 0), 1, 8) := by kernel_rfl
end Go.Proofs.Ytbiadeniplmkfaa
