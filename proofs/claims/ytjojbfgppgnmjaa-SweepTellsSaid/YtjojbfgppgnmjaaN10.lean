/- A chain as the row of its versions, newest first: 'CR'; what each call leaves; two chains beside one another. -/
import Derived.Test.YtjojbfgppgnmjaaN8
namespace Go.Proofs.Ytjojbfgppgnmjaa
open Go.RowKit

/-- A chain over a store of n slots, made by vinculumlaw9.Made, that tells the versions R, the newest first; u slots are taken. -/
def CR (w0 : World) (cb sb ab n : Nat) (k : Int) (R : List Ver) (u : Nat) (M : List Ob) (W : World) : Prop :=
  ∃ (L live gone : List Int) (V : Int → Ver), R = L.map V ∧ live.length = u ∧ CW w0 cb sb ab n k L live gone V M W
/-- .. and z is the link of a version that lives: v. -/
def CRz (w0 : World) (cb sb ab n : Nat) (k : Int) (R : List Ver) (u : Nat) (z : Int) (v : Ver) (M : List Ob) (W : World) : Prop :=
  ∃ (L live gone : List Int) (V : Int → Ver), R = L.map V ∧ live.length = u ∧ z ∈ live ∧ V z = v ∧ CW w0 cb sb ab n k L live gone V M W
/-- .. that does not stand in the chain. -/
def CRn (w0 : World) (cb sb ab n : Nat) (k : Int) (R : List Ver) (u : Nat) (z : Int) (v : Ver) (M : List Ob) (W : World) : Prop :=
  ∃ (L live gone : List Int) (V : Int → Ver), R = L.map V ∧ live.length = u ∧ z ∈ live ∧ ¬ z ∈ L ∧ V z = v ∧ CW w0 cb sb ab n k L live gone V M W
def SameAll (l R : List Ver) : Prop := l.length = R.length ∧ ∀ i, i < R.length → SameVer (l.getD i ver0) (R.getD i ver0)
section
variable {w0 W W' : World} {cb sb ab n u : Nat} {k z : Int} {R : List Ver} {v : Ver} {M M' : List Ob} {A A' B : Ob}
theorem CR.bel (h : CR w0 cb sb ab n k R u M W) : Below w0.heap.size w0 W := by
  obtain ⟨L, live, gone, V, _, _, h⟩ := h
  exact h.bel
theorem CR.later (h : CR w0 cb sb ab n k R u M W) (hb : Below W.heap.size W W') : CR w0 cb sb ab n k R u M W' := by
  obtain ⟨L, live, gone, V, h1, h2, h⟩ := h
  exact ⟨L, live, gone, V, h1, h2, h.later hb⟩
theorem CRz.later (h : CRz w0 cb sb ab n k R u z v M W) (hb : Below W.heap.size W W') : CRz w0 cb sb ab n k R u z v M W' := by
  obtain ⟨L, live, gone, V, h1, h2, h3, h4, h⟩ := h
  exact ⟨L, live, gone, V, h1, h2, h3, h4, h.later hb⟩
theorem CRn.later (h : CRn w0 cb sb ab n k R u z v M W) (hb : Below W.heap.size W W') : CRn w0 cb sb ab n k R u z v M W' := by
  obtain ⟨L, live, gone, V, h1, h2, h3, h4, h5, h⟩ := h
  exact ⟨L, live, gone, V, h1, h2, h3, h4, h5, h.later hb⟩
theorem CRz.forget (h : CRz w0 cb sb ab n k R u z v M W) : CR w0 cb sb ab n k R u M W := by
  obtain ⟨L, live, gone, V, h1, h2, _, _, h⟩ := h
  exact ⟨L, live, gone, V, h1, h2, h⟩
theorem CR.mono (h : CR w0 cb sb ab n k R u M W) {k' : Int} (hk : k ≤ k') : CR w0 cb sb ab n k' R u M W := by
  obtain ⟨L, live, gone, V, h1, h2, h⟩ := h
  exact ⟨L, live, gone, V, h1, h2, h.mono hk⟩
theorem CR.len (h : CR w0 cb sb ab n k R u M W) : R.length ≤ n ∧ u ≤ n := by
  obtain ⟨L, live, gone, V, rfl, rfl, h⟩ := h
  have := h.len
  exact ⟨by rw [List.length_map]; exact this.1, this.2.1⟩
theorem CR.front (h : CR w0 cb sb ab n k R u (A :: M) W) : A.P W := by
  obtain ⟨L, live, gone, V, h1, h2, h⟩ := h
  exact h.first
theorem CR.turn (h : CR w0 cb sb ab n k R u (A :: M) W) (hf : ∀ K, Sep w0 W (A :: K) → Sep w0 W' (A' :: K)) : CR w0 cb sb ab n k R u (A' :: M) W' := by
  obtain ⟨L, live, gone, V, h1, h2, h⟩ := h
  exact ⟨L, live, gone, V, h1, h2, h.turn hf⟩
theorem CRz.turn (h : CRz w0 cb sb ab n k R u z v (A :: M) W) (hf : ∀ K, Sep w0 W (A :: K) → Sep w0 W' (A' :: K)) : CRz w0 cb sb ab n k R u z v (A' :: M) W' := by
  obtain ⟨L, live, gone, V, h1, h2, h3, h4, h⟩ := h
  exact ⟨L, live, gone, V, h1, h2, h3, h4, h.turn hf⟩
theorem CR.add (h : CR w0 cb sb ab n k R u M W) (hf : ∀ K, Sep w0 W K → Sep w0 W' (A :: K)) : CR w0 cb sb ab n k R u (A :: M) W' := by
  obtain ⟨L, live, gone, V, h1, h2, h⟩ := h
  exact ⟨L, live, gone, V, h1, h2, h.add hf⟩
theorem CR.drop (h : CR w0 cb sb ab n k R u (A :: M) W) : CR w0 cb sb ab n k R u M W := by
  obtain ⟨L, live, gone, V, h1, h2, h⟩ := h
  exact ⟨L, live, gone, V, h1, h2, h.drop⟩
theorem CR.swap (h : CR w0 cb sb ab n k R u (A :: B :: M) W) : CR w0 cb sb ab n k R u (B :: A :: M) W := by
  obtain ⟨L, live, gone, V, h1, h2, h⟩ := h
  exact ⟨L, live, gone, V, h1, h2, h.swap⟩
theorem CR.row_nil (h : CR w0 cb sb ab n k R u M W) (kd : IntKind) (E : TypeId) : CR w0 cb sb ab n k R u (obRow kd E (.slice none 0 0) [] :: M) W := h.add (fun _ h => h.row_nil kd E)

theorem cr_made (h : Sep w0 W M) (n : Nat) (h0 : 1 ≤ n) (h1 : n ≤ 4096) :
    Calls Try.prog 33 #[.int .i64 n] W fun e w' => ∃ cb sb ab, e = .returned (.tuple #[.pointer (some ⟨sb, 0, none⟩), .pointer (some ⟨cb, 0, none⟩)]) ∧ CR w0 cb sb ab n 0 [] 0 M w' := by
  refine (cw_made h n h0 h1 (fun _ => ver0)).mono fun e w' r => ?_
  obtain ⟨cb, sb, ab, r1, r2⟩ := r
  exact ⟨cb, sb, ab, r1, [], [], [], _, rfl, rfl, r2⟩
theorem cr_make (h : CR w0 cb sb ab n k R u M W) (hlt : u < n) {key v x y : Int} (k0 : 0 ≤ key) (k1 : key ≤ 63) (v0 : 0 ≤ v) (v1 : v ≤ 65535) :
    Calls Try.prog 18 #[.pointer (some ⟨sb, 0, none⟩), .int .i64 key, .int .i64 v, .int .u64 x, .int .u64 y] W fun e w' => ∃ z, e = .returned (.tuple #[.int .u64 z, .int .i64 0]) ∧ 1 ≤ z ∧ z ≤ 8589934591 ∧
      CRn w0 cb sb ab n k R (u + 1) z ⟨key, v, x, y, 0⟩ M w' := by
  obtain ⟨L, live, gone, V, rfl, rfl, h⟩ := h
  refine (cw_make h hlt k0 k1 v0 v1 (x := x) (y := y)).mono fun e w' r => ?_
  obtain ⟨z, r1, r2, r3, r4, r5, r6⟩ := r
  have hzL : ¬ z ∈ L := fun hm => r2 (h.len.2.2.2.2.1 z hm)
  refine ⟨z, r1, r4, r5, L, live ++ [z], gone, _, ?_, by simp, by simp, hzL, by simp, r6⟩
  apply List.map_congr_left
  intro a ha
  have : a ≠ z := fun e => hzL (e ▸ ha)
  simp [this]
theorem cr_push (h : CRn w0 cb sb ab n k R u z v M W) :
    Calls Try.prog 34 #[.pointer (some ⟨cb, 0, none⟩), .int .u64 z] W fun e w' => e = .returned (.bool true) ∧ CRz w0 cb sb ab n k (v :: R) u z v M w' := by
  obtain ⟨L, live, gone, V, rfl, rfl, h3, h4, rfl, h⟩ := h
  refine (cw_push h h3 h4).mono fun e w' r => ?_
  exact ⟨r.1, z :: L, live, gone, V, rfl, rfl, h3, rfl, r.2⟩
theorem cr_get (h : CRz w0 cb sb ab n k R u z v M W) :
    Calls Try.prog 20 #[.pointer (some ⟨sb, 0, none⟩), .int .u64 z] W fun e w' => ∃ v' : Ver, SameVer v' v ∧ e = .returned (.tuple #[v'.value, .bool true]) ∧ CRz w0 cb sb ab n k R u z v M w' := by
  obtain ⟨L, live, gone, V, rfl, rfl, h3, rfl, h⟩ := h
  refine (cw_get h h3).mono fun e w' r => ?_
  obtain ⟨v', r1, r2, r3⟩ := r
  exact ⟨v', r1, r2, L, live, gone, V, rfl, rfl, h3, rfl, r3⟩
theorem cr_used (h : CR w0 cb sb ab n k R u M W) :
    Calls Try.prog 24 #[.pointer (some ⟨sb, 0, none⟩)] W fun e w' => e = .returned (.int .i64 u) ∧ CR w0 cb sb ab n k R u M w' := by
  obtain ⟨L, live, gone, V, rfl, rfl, h⟩ := h
  exact (cw_used h).mono fun e w' r => ⟨r.1, L, live, gone, V, rfl, rfl, r.2⟩
/-- What is garbage is cut and freed. -/
theorem cr_chain (h : CR w0 cb sb ab n k R u M W) (low : Int) (lk : Value) (Lk : Int → Tx × Bool) (hwf : ∀ v ∈ R, v.wf) (ht : ∀ W' k' R' u', CR w0 cb sb ab n k' R' u' M W' → Tells W' lk Lk) (hk0 : 0 ≤ k) (hk : k + R.length ≤ 100) :
    Calls Try.prog 41 #[.pointer (some ⟨cb, 0, none⟩), .pointer (some ⟨sb, 0, none⟩), .int .u64 low, lk] W fun e w' => ∃ u', u' + (R.filter fun v => deadB Lk low v.beg v.en).length = u ∧
      e = .returned (.tuple #[.int .i64 (R.filter fun v => deadB Lk low v.beg v.en).length, .int .i64 0]) ∧ CR w0 cb sb ab n (k + R.length) (R.filter fun v => !(deadB Lk low v.beg v.en)) u' M w' := by
  obtain ⟨L, live, gone, V, rfl, rfl, h⟩ := h
  have hk' : k + L.length ≤ 100 := by rw [List.length_map] at hk; exact hk
  have hD := deadIs (w0 := w0) (cb := cb) (sb := sb) (ab := ab) (n := n) (Lz := L) (V := V) (M := M) (lk := lk) (Lk := Lk) low (fun z hz => hwf _ (List.mem_map_of_mem hz)) (fun W' k' L' live' gone' hC => ht W' k' (L'.map V) live'.length ⟨L', live', gone', V, rfl, rfl, hC⟩)
  have e1 : ((L.map V).filter fun v => deadB Lk low v.beg v.en) = (L.filter fun z => deadB Lk low (V z).beg (V z).en).map V := List.filter_map ..
  have e2 : ((L.map V).filter fun v => !(deadB Lk low v.beg v.en)) = (L.filter fun z => !(deadB Lk low (V z).beg (V z).en)).map V := List.filter_map ..
  refine (sweep_chain h low lk _ hD hk0 hk').mono fun e w' r => ?_
  obtain ⟨live', gone', r1, r2, r3, r4⟩ := r
  rw [e1, e2]
  refine ⟨live'.length, ?_, ?_, _, live', gone', V, rfl, rfl, ?_⟩
  · rw [List.length_map]; exact r3
  · rw [List.length_map]; exact r1
  · rw [List.length_map]; exact r2
theorem cr_kept (h : CR w0 cb sb ab n k R u M W) (hn : n ≤ 4096) :
    Calls Try.prog 42 #[.pointer (some ⟨cb, 0, none⟩), .pointer (some ⟨sb, 0, none⟩)] W fun e w' => ∃ a c l, e = .returned (.slice a R.length c) ∧ SameAll l R ∧ CR w0 cb sb ab n k R u (obVerR (.slice a R.length c) l :: M) w' := by
  obtain ⟨L, live, gone, V, rfl, rfl, h⟩ := h
  refine (sweep_kept h hn).mono fun e w' r => ?_
  obtain ⟨a, c, l, r1, r2, r3, r4⟩ := r
  rw [List.length_map]
  refine ⟨a, c, l, r1, ⟨by rw [List.length_map]; exact r2, fun i hi => ?_⟩, L, live, gone, V, rfl, rfl, r4⟩
  rw [List.length_map] at hi
  have := r3.2 i (by omega)
  rwa [show (L.map V).getD i ver0 = V (L.getD i 0) by simp [List.getD_eq_getElem?_getD, hi]]
end
theorem u64_and127 (n : Int) : bits .and .u64 n 127 = n % 128 := by
  have hm : (BitVec.ofInt 64 127).toNat = 2 ^ 7 - 1 := by decide
  have key : (BitVec.ofInt 64 n &&& BitVec.ofInt 64 127).toNat = (n % ((2 ^ 64 : Nat) : Int)).toNat % 2 ^ 7 := by
    rw [BitVec.toNat_and, BitVec.toNat_ofInt, hm, Nat.and_two_pow_sub_one_eq_mod]
  show IntKind.u64.wrap ((BitVec.ofInt 64 n &&& BitVec.ofInt 64 127).toNat : Nat) = n % 128
  rw [key, IntKind.wrap_u64]
  omega
/-- The words of versions whose makers are times are all that garbage asks of. -/
theorem dead_time {L : Int → Tx × Bool} {low b e : Int} (hb : b ≤ 1099511627776) : deadB L low b e = garb e low := by
  have h : rdK b = 1 := by
    have := rd_cases b
    omega
  unfold deadB
  rw [h]
  simp
end Go.Proofs.Ytjojbfgppgnmjaa
