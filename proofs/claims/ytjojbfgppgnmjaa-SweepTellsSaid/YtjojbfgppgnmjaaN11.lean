/- Two chains beside one another. -/
import Derived.Test.YtjojbfgppgnmjaaN10
namespace Go.Proofs.Ytjojbfgppgnmjaa
open Go.RowKit

/-- A chain in memory of which P holds. -/
def CG (w0 : World) (cb sb ab : Nat) (P : RS → List Int → Prop) (M : List Ob) (W : World) : Prop :=
  ∃ (Fs Fa : Nat → Prop) (s : RS) (ws : List Int), Sep w0 W (chL cb sb ab 1 Fs Fa s ws M) ∧ P s ws
def CJ (n : Nat) (k : Int) (R : List Ver) (u : Nat) (s : RS) (ws : List Int) : Prop := ∃ (L live gone : List Int) (V : Int → Ver), R = L.map V ∧ live.length = u ∧ CI n k s ws L live gone V
def CJz (n : Nat) (k : Int) (R : List Ver) (u : Nat) (z : Int) (v : Ver) (s : RS) (ws : List Int) : Prop := ∃ (L live gone : List Int) (V : Int → Ver), R = L.map V ∧ live.length = u ∧ z ∈ live ∧ V z = v ∧ CI n k s ws L live gone V
def CJn (n : Nat) (k : Int) (R : List Ver) (u : Nat) (z : Int) (v : Ver) (s : RS) (ws : List Int) : Prop := ∃ (L live gone : List Int) (V : Int → Ver), R = L.map V ∧ live.length = u ∧ z ∈ live ∧ ¬ z ∈ L ∧ V z = v ∧ CI n k s ws L live gone V
section
variable {w0 W : World} {cb sb ab n u cb' sb' ab' : Nat} {k z : Int} {R : List Ver} {v : Ver} {M M' : List Ob} {P P' : RS → List Int → Prop} {Fs Fa Fs' Fa' : Nat → Prop} {s s' : RS} {ws ws' : List Int}
theorem CR.toG (h : CR w0 cb sb ab n k R u M W) : CG w0 cb sb ab (CJ n k R u) M W := by
  obtain ⟨L, live, gone, V, h1, h2, Fs, Fa, s, ws, h3, h4⟩ := h
  exact ⟨Fs, Fa, s, ws, h3, L, live, gone, V, h1, h2, h4⟩
theorem CG.toR (h : CG w0 cb sb ab (CJ n k R u) M W) : CR w0 cb sb ab n k R u M W := by
  obtain ⟨Fs, Fa, s, ws, h3, L, live, gone, V, h1, h2, h4⟩ := h
  exact ⟨L, live, gone, V, h1, h2, Fs, Fa, s, ws, h3, h4⟩
theorem CRn.toG (h : CRn w0 cb sb ab n k R u z v M W) : CG w0 cb sb ab (CJn n k R u z v) M W := by
  obtain ⟨L, live, gone, V, h1, h2, h5, h6, h7, Fs, Fa, s, ws, h3, h4⟩ := h
  exact ⟨Fs, Fa, s, ws, h3, L, live, gone, V, h1, h2, h5, h6, h7, h4⟩
theorem CG.toN (h : CG w0 cb sb ab (CJn n k R u z v) M W) : CRn w0 cb sb ab n k R u z v M W := by
  obtain ⟨Fs, Fa, s, ws, h3, L, live, gone, V, h1, h2, h5, h6, h7, h4⟩ := h
  exact ⟨L, live, gone, V, h1, h2, h5, h6, h7, Fs, Fa, s, ws, h3, h4⟩
theorem CG.perm (h : CG w0 cb sb ab P M W) (hp : M.Perm M') : CG w0 cb sb ab P M' W := by
  obtain ⟨Fs, Fa, s, ws, h, hc⟩ := h
  exact ⟨Fs, Fa, s, ws, h.perm (((hp.cons _).cons _).cons _), hc⟩
theorem CR.perm (h : CR w0 cb sb ab n k R u M W) (hp : M.Perm M') : CR w0 cb sb ab n k R u M' W := (h.toG.perm hp).toR
/-- The other chain to the front. -/
theorem CG.two (h : CG w0 cb sb ab P (chL cb' sb' ab' 1 Fs' Fa' s' ws' M) W) (hP : P' s' ws') : ∃ (Fs Fa : Nat → Prop) (s : RS) (ws : List Int), P s ws ∧ CG w0 cb' sb' ab' P' (chL cb sb ab 1 Fs Fa s ws M) W := by
  obtain ⟨Fs, Fa, s, ws, h, hc⟩ := h
  refine ⟨Fs, Fa, s, ws, hc, Fs', Fa', s', ws', h.perm ?_, hP⟩
  exact List.perm_append_comm_assoc [obChain cb sb ab 1, obStore sb Fs s, obArena ab Fa ws] [obChain cb' sb' ab' 1, obStore sb' Fs' s', obArena ab' Fa' ws'] M
end
/-- Two chains, the first to be called. -/
def CR2 (w0 : World) (cb sb ab cb' sb' ab' : Nat) (P P' : RS → List Int → Prop) (M : List Ob) (W : World) : Prop :=
  ∃ (Fs' Fa' : Nat → Prop) (s' : RS) (ws' : List Int), P' s' ws' ∧ CG w0 cb sb ab P (chL cb' sb' ab' 1 Fs' Fa' s' ws' M) W
section
variable {w0 W : World} {cb sb ab u cb' sb' ab' : Nat} {P P' : RS → List Int → Prop} {M : List Ob}
theorem CR2.swap (h : CR2 w0 cb sb ab cb' sb' ab' P P' M W) : CR2 w0 cb' sb' ab' cb sb ab P' P M W := by
  obtain ⟨Fs', Fa', s', ws', hP, h⟩ := h
  exact h.two hP
/-- A call on the first of two. -/
theorem CR2.call (h : CR2 w0 cb sb ab cb' sb' ab' P P' M W) {f : FuncId} {args : Array Value} {β : Type} {Q : β → Ending → Prop} {P1 : β → RS → List Int → Prop} {N : β → List Ob}
    (hc : ∀ K, CG w0 cb sb ab P K W → Calls Try.prog f args W fun e w' => ∃ x, Q x e ∧ CG w0 cb sb ab (P1 x) (N x ++ K) w') :
    Calls Try.prog f args W fun e w' => ∃ x, Q x e ∧ CR2 w0 cb sb ab cb' sb' ab' (P1 x) P' (N x ++ M) w' := by
  obtain ⟨Fs', Fa', s', ws', hP, h⟩ := h
  refine (hc _ h).mono fun e w' r => ?_
  obtain ⟨x, hq, h'⟩ := r
  exact ⟨x, hq, Fs', Fa', s', ws', hP, h'.perm (List.perm_append_comm_assoc (N x) [obChain cb' sb' ab' 1, obStore sb' Fs' s', obArena ab' Fa' ws'] M)⟩
theorem CG.bel (h : CG w0 cb sb ab P M W) : Below w0.heap.size w0 W := by
  obtain ⟨Fs, Fa, s, ws, h, _⟩ := h
  exact h.bel
theorem CG.mem {A : Ob} (h : CG w0 cb sb ab P M W) (hA : A ∈ M) : A.P W := by
  obtain ⟨Fs, Fa, s, ws, h, _⟩ := h
  exact (h.each A (by simp [chL, hA])).1
theorem CR2.bel (h : CR2 w0 cb sb ab cb' sb' ab' P P' M W) : Below w0.heap.size w0 W := by
  obtain ⟨Fs', Fa', s', ws', hP, h⟩ := h
  exact h.bel
theorem CR2.mem {A : Ob} (h : CR2 w0 cb sb ab cb' sb' ab' P P' M W) (hA : A ∈ M) : A.P W := by
  obtain ⟨Fs', Fa', s', ws', hP, h⟩ := h
  exact h.mem (by simp [chL, hA])
theorem CG.later {W' : World} (h : CG w0 cb sb ab P M W) (hb : Below W.heap.size W W') : CG w0 cb sb ab P M W' := by
  obtain ⟨Fs, Fa, s, ws, h, hP⟩ := h
  exact ⟨Fs, Fa, s, ws, h.below hb, hP⟩
theorem CR2.later {W' : World} (h : CR2 w0 cb sb ab cb' sb' ab' P P' M W) (hb : Below W.heap.size W W') : CR2 w0 cb sb ab cb' sb' ab' P P' M W' := by
  obtain ⟨Fs', Fa', s', ws', hP, h⟩ := h
  exact ⟨Fs', Fa', s', ws', hP, h.later hb⟩
theorem CR2.weak {P1 : RS → List Int → Prop} (h : CR2 w0 cb sb ab cb' sb' ab' P P' M W) (hp : ∀ s ws, P s ws → P1 s ws) : CR2 w0 cb sb ab cb' sb' ab' P1 P' M W := by
  obtain ⟨Fs', Fa', s', ws', hP, Fs, Fa, s, ws, h, h2⟩ := h
  exact ⟨Fs', Fa', s', ws', hP, Fs, Fa, s, ws, h, hp _ _ h2⟩
theorem CR2.fst {k : Int} {R : List Ver} {m : Nat} (h : CR2 w0 cb sb ab cb' sb' ab' (CJ m k R u) P' M W) : ∃ K, CR w0 cb sb ab m k R u K W := by
  obtain ⟨Fs', Fa', s', ws', hP, h⟩ := h
  exact ⟨_, h.toR⟩
end
section
variable {w0 W : World} {cb sb ab u cb' sb' ab' m : Nat} {P' : RS → List Int → Prop} {k z : Int} {R : List Ver} {v : Ver} {M : List Ob}
theorem two_made {P : RS → List Int → Prop} (h : CG w0 cb sb ab P [] W) (h0 : 1 ≤ m) (h1 : m ≤ 4096) :
    Calls Try.prog 33 #[.int .i64 m] W fun e w' => ∃ cb' sb' ab', e = .returned (.tuple #[.pointer (some ⟨sb', 0, none⟩), .pointer (some ⟨cb', 0, none⟩)]) ∧ CR2 w0 cb sb ab cb' sb' ab' P (CJ m 0 [] 0) [] w' := by
  obtain ⟨Fs, Fa, s, ws, h, hP⟩ := h
  refine (cr_made h m h0 h1).mono fun e w' r => ?_
  obtain ⟨cb', sb', ab', r1, r2⟩ := r
  exact ⟨cb', sb', ab', r1, CR2.swap ⟨Fs, Fa, s, ws, hP, r2.toG⟩⟩
theorem two_make (h : CR2 w0 cb sb ab cb' sb' ab' (CJ m k R u) P' M W) (hlt : u < m) {key v x y : Int} (k0 : 0 ≤ key) (k1 : key ≤ 63) (v0 : 0 ≤ v) (v1 : v ≤ 65535) :
    Calls Try.prog 18 #[.pointer (some ⟨sb, 0, none⟩), .int .i64 key, .int .i64 v, .int .u64 x, .int .u64 y] W fun e w' => ∃ z, (e = .returned (.tuple #[.int .u64 z, .int .i64 0]) ∧ 1 ≤ z ∧ z ≤ 8589934591) ∧
      CR2 w0 cb sb ab cb' sb' ab' (CJn m k R (u + 1) z ⟨key, v, x, y, 0⟩) P' M w' :=
  h.call (Q := fun z e => e = .returned (.tuple #[.int .u64 z, .int .i64 0]) ∧ 1 ≤ z ∧ z ≤ 8589934591) (P1 := fun z => CJn m k R (u + 1) z ⟨key, v, x, y, 0⟩) (N := fun _ => []) fun K hK => by
    refine (cr_make hK.toR hlt k0 k1 v0 v1 (x := x) (y := y)).mono fun e w' r => ?_
    obtain ⟨z, r1, r2, r3, r4⟩ := r
    exact ⟨z, ⟨r1, r2, r3⟩, r4.toG⟩
theorem two_push (h : CR2 w0 cb sb ab cb' sb' ab' (CJn m k R u z v) P' M W) :
    Calls Try.prog 34 #[.pointer (some ⟨cb, 0, none⟩), .int .u64 z] W fun e w' => ∃ _x : Unit, e = .returned (.bool true) ∧ CR2 w0 cb sb ab cb' sb' ab' (CJ m k (v :: R) u) P' M w' :=
  h.call (Q := fun _ e => e = .returned (.bool true)) (P1 := fun _ => CJ m k (v :: R) u) (N := fun _ => []) fun K hK => by
    refine (cr_push hK.toN).mono fun e w' r => ?_
    exact ⟨(), r.1, r.2.forget.toG⟩
theorem two_chain (h : CR2 w0 cb sb ab cb' sb' ab' (CJ m k R u) P' M W) (low : Int) (hwf : ∀ v ∈ R, v.wf) (hk0 : 0 ≤ k) (hk : k + R.length ≤ 100) :
    Calls Try.prog 41 #[.pointer (some ⟨cb, 0, none⟩), .pointer (some ⟨sb, 0, none⟩), .int .u64 low, .nilFunc] W fun e w' => ∃ u', (u' + (R.filter fun v => deadB noneL low v.beg v.en).length = u ∧
      e = .returned (.tuple #[.int .i64 (R.filter fun v => deadB noneL low v.beg v.en).length, .int .i64 0])) ∧ CR2 w0 cb sb ab cb' sb' ab' (CJ m (k + R.length) (R.filter fun v => !(deadB noneL low v.beg v.en)) u') P' M w' :=
  h.call (Q := fun u' e => u' + (R.filter fun v => deadB noneL low v.beg v.en).length = u ∧ e = .returned (.tuple #[.int .i64 (R.filter fun v => deadB noneL low v.beg v.en).length, .int .i64 0])) (P1 := fun u' => CJ m (k + R.length) (R.filter fun v => !(deadB noneL low v.beg v.en)) u') (N := fun _ => []) fun K hK => by
    refine (cr_chain hK.toR low .nilFunc noneL hwf (fun W' _ _ _ _ => tells_nil W') hk0 hk).mono fun e w' r => ?_
    obtain ⟨u', r1, r2, r3⟩ := r
    exact ⟨u', ⟨r1, r2⟩, r3.toG⟩
theorem two_kept (h : CR2 w0 cb sb ab cb' sb' ab' (CJ m k R u) P' M W) (hn : m ≤ 4096) :
    Calls Try.prog 42 #[.pointer (some ⟨cb, 0, none⟩), .pointer (some ⟨sb, 0, none⟩)] W fun e w' => ∃ x : Option Addr × Nat × List Ver, (e = .returned (.slice x.1 R.length x.2.1) ∧ SameAll x.2.2 R) ∧ CR2 w0 cb sb ab cb' sb' ab' (CJ m k R u) P' (obVerR (.slice x.1 R.length x.2.1) x.2.2 :: M) w' :=
  h.call (β := Option Addr × Nat × List Ver) (Q := fun x e => e = .returned (.slice x.1 R.length x.2.1) ∧ SameAll x.2.2 R) (P1 := fun _ => CJ m k R u) (N := fun x => [obVerR (.slice x.1 R.length x.2.1) x.2.2]) fun K hK => by
    refine (cr_kept hK.toR hn).mono fun e w' r => ?_
    obtain ⟨a, c, l, r1, r2, r3⟩ := r
    exact ⟨(a, c, l), ⟨r1, r2⟩, r3.toG⟩
theorem two_used (h : CR2 w0 cb sb ab cb' sb' ab' (CJ m k R u) P' M W) :
    Calls Try.prog 24 #[.pointer (some ⟨sb, 0, none⟩)] W fun e w' => ∃ _x : Unit, e = .returned (.int .i64 u) ∧ CR2 w0 cb sb ab cb' sb' ab' (CJ m k R u) P' M w' :=
  h.call (Q := fun _ e => e = .returned (.int .i64 u)) (P1 := fun _ => CJ m k R u) (N := fun _ => []) fun K hK => by
    refine (cr_used hK.toR).mono fun e w' r => ?_
    exact ⟨(), r.1, r.2.toG⟩
end
end Go.Proofs.Ytjojbfgppgnmjaa
