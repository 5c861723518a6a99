/- A range over an iterator that turns objects that lay ahead of the loop: the law. -/
import Derived.Test.YtoidmakaijkglaaGreatQ0
import Derived.RangeFuncNested
import Derived.RangeFuncBound
import Derived.RangeFuncCalls
import Derived.RangeFuncLeaves
import Derived.Shelf.Abstract
import Derived.Shelf.RegionOpen
import Derived.OwnWalkIn
import Derived.TacticsInMore
import Derived.LoopNIn
import Derived.LoopIn
namespace Go.Proofs.YtoidmakaijkglaaGreat
open Go.RowKit

/-- What the loop's own record may turn: blocks from B on that hold no cells. -/
def BookStep (B : Nat) (X Y : World) : Prop := ∃ G : Nat → Prop, Mod G X Y ∧ ∀ k, G k → B ≤ k ∧ ∃ o : Obj, X.heap[k]? = some o ∧ o.isCells = false
theorem BookStep.putObj {B : Nat} (W : World) {l : Nat} {o : Obj} (o' : Obj) (hB : B ≤ l) (hl : W.heap[l]? = some o) (ho : o.isCells = false) : BookStep B W (W.putObj l o') :=
  ⟨fun k => k = l, ⟨rfl, rfl, rfl, by simp, fun k _ hk => World.putObj_heap_other hk⟩, fun k hk => by rw [show k = l from hk]; exact ⟨hB, o, hl, ho⟩⟩
theorem BookStep.alloc {B : Nat} (W : World) (o : Obj) : BookStep B W (W.alloc o) := ⟨fun _ => False, (Mod.refl _ _).alloc o, fun _ h => h.elim⟩
/-- A thing in memory that abides the record's turns: its blocks lie ahead of B. -/
def Abide (B : Nat) (St : World → Prop) : Prop := ∀ X Y, St X → BookStep B X Y → St Y
theorem Ob.abide (A : Ob) {B : Nat} (hB : ∀ k, A.F k → k < B) : Abide B A.P := fun X Y h ⟨G, hm, hg⟩ => A.keep X Y G h hm (fun k hk hgk => by have := (hg k hgk).1; have := hB k hk; omega)
theorem Abide.and {B : Nat} {S T : World → Prop} (h : Abide B S) (k : Abide B T) : Abide B (fun W => S W ∧ T W) := fun X Y hs hb => ⟨h X Y hs.1 hb, k X Y hs.2 hb⟩
theorem Abide.pure {B : Nat} (p : Prop) : Abide B (fun _ => p) := fun _ _ h _ => h
theorem Abide.blk {B g : Nat} {cs : Array Value} {T : TypeId} : Abide B (fun W => W.heap[g]? = some (.cells cs T (0, 0))) := fun X Y h ⟨G, hm, hg⟩ => hm.keep h (fun hgk => by
  obtain ⟨_, o, ho, hc⟩ := hg g hgk
  rw [h] at ho
  cases ho
  cases hc)
theorem Abide.mod {B : Nat} {S : Nat → Prop} {w : World} (hw : w.heap.size ≤ B) : Abide B (fun W => Mod S w W) := fun X Y h ⟨G, hm, hg⟩ => h.next hm (fun k hk => .inr (by have := (hg k hk).1; omega))
theorem Abide.sep {B : Nat} {w0 : World} {L : List Ob} (hw : w0.heap.size ≤ B) (hL : ∀ o ∈ L, ∀ k, o.F k → k < B) : Abide B (fun W => Sep w0 W L) := fun X Y h ⟨G, hm, hg⟩ =>
  ⟨h.bel.trans (hm.below (fun k hk => by have := (hg k hk).1; omega) h.bel.size), fun o ho => ⟨o.keep X Y G (h.each o ho).1 hm (fun k hk hgk => by have := (hg k hgk).1; have := hL o ho k hk; omega), (h.each o ho).2⟩, h.apart⟩

/-- The contract of an iterator: it may turn S's blocks; St holds of its things ahead of each round and behind it; xs come. -/
def SeqMine {α : Type} (F : Fence) (n : Nat) (g : Nat) (lb : Array Value) (encs : α → Array Value) (S : Nat → Prop) (Kp : World → World → Prop) (St : World → Prop) (xs : List α) : Prop :=
  ∀ (l : Nat) (J Jx : List α → World → Prop) (W : World), (∀ s X Y, J s X → Mod S X Y → J s Y) →
    (∀ pre x W1, J pre W1 → St W1 → (pre ++ [x]) <+: xs → YieldAt F (n - 1) Tryz.prog l (encs x) W1 fun e W' =>
      (e = .returned (.bool true) ∧ J (pre ++ [x]) W' ∧ St W' ∧ Kp W1 W') ∨ (e = .returned (.bool false) ∧ Jx (pre ++ [x]) W')) →
    J [] W → St W →
    CallsIn F n Tryz.prog g (#[.func (.yield l) #[] #[]] ++ lb) W fun e W' => (∃ v, e = .returned v) ∧ ((J xs W' ∧ St W') ∨ (∃ pre, pre <+: xs ∧ Jx pre W'))

/-- How a round may be left. -/
def minePost {α : Type} (B : Nat) (Kp : World → World → Prop) (St : World → Prop) (I : List α → World → Prop) (Ix : Code → List α → World → Prop) (xs : List α) (W : World) : Exit → Act → World → Prop
  | .normal, _, W' => KeepsFrom B W W' ∧ Kp W W' ∧ St W' ∧ I xs W'
  | .ret, _, W' => KeepsFrom B W W' ∧ Ix .ret xs W'
  | .exit id, _, W' => KeepsFrom B W W' ∧ Ix (.exit id) xs W'
  | .goto t, _, W' => KeepsFrom B W W' ∧ Ix (.goto t) xs W'
  | .panic _, _, _ => False
  | .outgrown, _, _ => False

theorem range_mine {F : Fence} {n : Nat} {α : Type} {g : Operand} {ps : Array Tmp} {assign body : Code} {Q : Exit → Act → World → Prop} {a : Act} {w : World}
    (hro : F.round = none) (h1 : 1 ≤ n) {gf : Nat} {lb : Array Value} (hg : a.eval g = .func (.func gf) #[] lb) (hFg : F.fn gf) (eg : ∀ args w, (callFunc gf args).run Tryz.prog w = .ok (.enter gf args) w)
    {encs : α → Array Value} {S : Nat → Prop} {Kp : World → World → Prop} {St : World → Prop} {xs : List α} (hseq : SeqMine F (n - 1) gf lb encs S Kp St xs)
    (hKt : ∀ {A B C : World}, Kp A B → Kp B C → Kp A C) (hKb : ∀ (W : World) (l : Nat) (o o' : Obj), w.heap.size ≤ l → W.heap[l]? = some o → o.isCells = false → Kp W (W.putObj l o')) (hS : ∀ k, S k → k < w.heap.size) (hps : ∀ x, (encs x).size = ps.size) (hSt : Abide w.heap.size St) (hSt0 : St w)
    (I : List α → World → Prop) (Ix : Code → List α → World → Prop) (hI : ∀ s, Abide w.heap.size (I s)) (hIx : ∀ c s, Abide w.heap.size (Ix c s)) (hIS : ∀ s X Y, I s X → Mod S X Y → I s Y)
    (h0 : I [] w) (Ax : α → Act → World → Prop) (hAx : ∀ x a', Abide w.heap.size (Ax x a'))
    (hassign : ∀ (l : Nat) (pre : List α) (x : α) (W : World) (K : Act → World → Prop), I pre W → St W → (∀ a' W', KeepsFrom w.heap.size W W' → Kp W W' → St W' → I pre W' → Ax x a' W' → K a' W') →
      assign.wpIn (F.inRound l) (n - 1 - 1) Tryz.prog (Exit.then K (fun _ _ _ => False)) { tmps := (ps.zip (encs x)).foldl (fun t (p, v) => t.setIfInBounds p v) a.tmps, defers := [] } W)
    (hbody : ∀ (l : Nat) (pre : List α) (x : α) (a' : Act) (W : World), I pre W → St W → Ax x a' W → (pre ++ [x]) <+: xs → body.wpIn (F.inRound l) (n - 1 - 1) Tryz.prog (minePost w.heap.size Kp St I Ix (pre ++ [x]) W) a' W)
    (hdone : ∀ (D : Nat) (W : World), w.heap.size ≤ D → I xs W → St W → W.heap[D]? = some (.deferred (some [])) → Q .normal { a with defers := { target := .collected D, args := #[] } :: a.defers } W)
    (hstop : ∀ (D : Nat) (c : Code) (pre : List α) (W : World), w.heap.size ≤ D → pre <+: xs → Ix c pre W → W.heap[D]? = some (.deferred (some [])) → c.wpIn F n Tryz.prog Q { a with defers := { target := .collected D, args := #[] } :: a.defers } W) :
    (Code.rangeFunc g ps assign body).wpIn F n Tryz.prog Q a w := by
  refine wpIn_rangeFunc ?_
  intro fn hfn
  rw [hro]
  obtain ⟨rec, hrec⟩ : ∃ rec : LoopState → Option Code → Loop, rec = fun st pe => { state := st, pending := pe, fn, tmps := a.tmps, params := ps, assign, body, defers := w.heap.size } := ⟨_, rfl⟩
  obtain ⟨W1, hW1⟩ : ∃ W1, (w.alloc (.deferred (some []))).alloc (.loop (rec .ready none)) = W1 := ⟨_, rfl⟩
  have hL1 : W1.heap[w.heap.size + 1]? = some (.loop (rec .ready none)) := by
    rw [← hW1]; have := World.alloc_heap_new (w.alloc (.deferred (some []))) (.loop (rec .ready none)); rwa [World.size_alloc] at this
  have hK1 : W1.heap[w.heap.size]? = some (.deferred (some [])) := by
    rw [← hW1]; exact (Below.heap_alloc _ _ _ (by simp)).trans (World.alloc_heap_new w _)
  have hI1 : I [] W1 := by rw [← hW1]; exact hI _ _ _ (hI _ _ _ h0 (.alloc _ _)) (.alloc _ _)
  have hS1 : St W1 := by rw [← hW1]; exact hSt _ _ (hSt _ _ hSt0 (.alloc _ _)) (.alloc _ _)
  refine ⟨w.heap.size + 1, [{ target := .collected w.heap.size, args := #[] }], W1, { target := .fn (.func gf) lb, args := #[.func (.yield (w.heap.size + 1)) #[] #[]] }, W1, gf,
    #[.func (.yield (w.heap.size + 1)) #[] #[]] ++ lb, W1, ?_, ?_, ?_, ?_, fun _ => h1, ?_⟩
  · rw [← hW1, hrec]; exact run_enterLoop_outer _ _ _ _ _
  · simp only [resolve, hg]
    simp [go_sem]
  · intro f' hf'; simp [Target.leads] at hf'; subst hf'; exact hFg
  · simp [invoke, go_sem, eg]
  · have ne1 : ¬ S (w.heap.size + 1) := fun h => by have := hS _ h; omega
    have ne0 : ¬ S w.heap.size := fun h => by have := hS _ h; omega
    have kp : ∀ {X Y : World} {k : Nat} {o : Obj}, Mod S X Y → X.heap[k]? = some o → ¬ S k → Y.heap[k]? = some o := fun hm hk hn => hm.keep hk hn
    refine (hseq (w.heap.size + 1)
      (fun pre W => I pre W ∧ W.heap[w.heap.size + 1]? = some (.loop (rec .ready none)) ∧ W.heap[w.heap.size]? = some (.deferred (some [])))
      (fun pre W => ∃ c, Ix c pre W ∧ W.heap[w.heap.size + 1]? = some (.loop (rec .done (some c))) ∧ W.heap[w.heap.size]? = some (.deferred (some [])))
      W1
      (fun s X Y hs hm => ⟨hIS s X Y hs.1 hm, kp hm hs.2.1 ne1, kp hm hs.2.2 ne0⟩)
      ?_ ⟨hI1, hL1, hK1⟩ hS1).mono ?_
    · rintro pre x W ⟨hi, hl, hk⟩ hst hpre
      have hlt : w.heap.size + 1 < W.heap.size := (Array.getElem?_eq_some_iff.1 hl).1
      have hy := run_yield (P := Tryz.prog) (args := encs x) hl (by rw [hrec]; exact hps x)
      rw [hrec] at hy
      refine ⟨fn, _, assign, body, hy, roundIn_of_wpIn hfn (hassign _ pre x W _ hi hst ?_)⟩
      clear hy
      intro a' Wa hkfa hkpa hsta hia hax
      replace hl := hkfa.same _ _ (by omega) hl rfl
      replace hk := hkfa.same _ _ (Nat.le_refl _) hk rfl
      replace hlt : w.heap.size + 1 < Wa.heap.size := (Array.getElem?_eq_some_iff.1 hl).1
      clear hi hst hkfa
      refine ⟨_, run_beginRound hl (by rw [hrec]), ?_⟩
      have hl2 : (Wa.putObj (w.heap.size + 1) (.loop { rec .ready none with state := .busy })).heap[w.heap.size + 1]? = some (.loop { rec .ready none with state := .busy }) := World.putObj_heap_same hlt
      have hk2 : (Wa.putObj (w.heap.size + 1) (.loop { rec .ready none with state := .busy })).heap[w.heap.size]? = some (.deferred (some [])) := (World.putObj_heap_other (by omega)).trans hk
      have hw2 : Kp Wa (Wa.putObj (w.heap.size + 1) (.loop { rec .ready none with state := .busy })) := hKb _ _ _ _ (by omega) hl rfl
      have hb2 : BookStep w.heap.size Wa (Wa.putObj (w.heap.size + 1) (.loop { rec .ready none with state := .busy })) := BookStep.putObj _ _ (by omega) hl rfl
      refine wpIn_mono (hbody _ pre x a' _ (hI _ _ _ hia hb2) (hSt _ _ hsta hb2) (hAx _ _ _ _ hax hb2) hpre) ?_
      have fin : ∀ (jump : Option Code) (W3 : World), KeepsFrom w.heap.size (Wa.putObj (w.heap.size + 1) (.loop { rec .ready none with state := .busy })) W3 →
          (Instr.endRound (w.heap.size + 1) jump).run Tryz.prog W3 = .ok (.bool jump.isNone) (W3.putObj (w.heap.size + 1) (.loop (rec (if jump.isNone then .ready else .done) jump))) ∧
          W3.heap[w.heap.size + 1]? = some (.loop { rec .ready none with state := .busy }) ∧
          (W3.putObj (w.heap.size + 1) (.loop (rec (if jump.isNone then .ready else .done) jump))).heap[w.heap.size + 1]? = some (.loop (rec (if jump.isNone then .ready else .done) jump)) ∧
          (W3.putObj (w.heap.size + 1) (.loop (rec (if jump.isNone then .ready else .done) jump))).heap[w.heap.size]? = some (.deferred (some [])) := fun jump W3 hk3 => by
        have hl3 := hk3.same _ _ (by omega) hl2 rfl
        have := run_endRound (P := Tryz.prog) jump hl3
        rw [hrec] at this ⊢
        exact ⟨this, by rw [hrec] at hl3; exact hl3, World.putObj_heap_same (Array.getElem?_eq_some_iff.1 hl3).1, (World.putObj_heap_other (by omega)).trans (hk3.same _ _ (Nat.le_refl _) hk2 rfl)⟩
      rintro e a3 W3 hp
      cases e with
      | normal =>
        obtain ⟨hk3, hkp3, hst3, hi3⟩ := hp
        obtain ⟨hr, hl3, hl4, hk4⟩ := fin none W3 hk3
        exact ⟨_, _, hr, .inl ⟨rfl, ⟨hI _ _ _ hi3 (.putObj _ _ (by omega) hl3 rfl), hl4, hk4⟩, hSt _ _ hst3 (.putObj _ _ (by omega) hl3 rfl), hKt hkpa (hKt (hKt hw2 hkp3) (hKb _ _ _ _ (by omega) hl3 rfl))⟩⟩
      | ret =>
        obtain ⟨hk3, hi3⟩ := hp
        obtain ⟨hr, hl3, hl4, hk4⟩ := fin (some .ret) W3 hk3
        exact ⟨_, _, hr, .inr ⟨rfl, .ret, hIx _ _ _ _ hi3 (.putObj _ _ (by omega) hl3 rfl), hl4, hk4⟩⟩
      | exit id =>
        obtain ⟨hk3, hi3⟩ := hp
        obtain ⟨hr, hl3, hl4, hk4⟩ := fin (some (.exit id)) W3 hk3
        exact ⟨_, _, hr, .inr ⟨rfl, .exit id, hIx _ _ _ _ hi3 (.putObj _ _ (by omega) hl3 rfl), hl4, hk4⟩⟩
      | goto t =>
        obtain ⟨hk3, hi3⟩ := hp
        obtain ⟨hr, hl3, hl4, hk4⟩ := fin (some (.goto t)) W3 hk3
        exact ⟨_, _, hr, .inr ⟨rfl, .goto t, hIx _ _ _ _ hi3 (.putObj _ _ (by omega) hl3 rfl), hl4, hk4⟩⟩
      | panic ch => exact hp.elim
      | outgrown => exact hp.elim
    · rintro e W2 ⟨⟨v, rfl⟩, (⟨⟨hi, hl, hk⟩, hst⟩ | ⟨pre, hpre, c, hi, hl, hk⟩)⟩
      · exact ⟨none, _, by have := run_endLoop (P := Tryz.prog) hl (by rw [hrec]; simp); rw [hrec] at this; exact this, hdone _ _ (Nat.le_refl _) (hI _ _ _ hi (.putObj _ _ (by omega) hl rfl)) (hSt _ _ hst (.putObj _ _ (by omega) hl rfl)) ((World.putObj_heap_other (by omega)).trans hk)⟩
      · exact ⟨some c, _, by have := run_endLoop (P := Tryz.prog) hl (by rw [hrec]; simp); rw [hrec] at this; exact this, hstop _ c pre _ (Nat.le_refl _) hpre (hIx _ _ _ _ hi (.putObj _ _ (by omega) hl rfl)) ((World.putObj_heap_other (by omega)).trans hk)⟩
end Go.Proofs.YtoidmakaijkglaaGreat
