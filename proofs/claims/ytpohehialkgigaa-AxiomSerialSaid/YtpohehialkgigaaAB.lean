/- What each level promises, in plain words: calls, Deals, a state of keys, and what the axioms say of them. -/
import Derived.Test.YtpohehialkgigaaAA
namespace Go.Proofs.Ytpohehialkgigaa

/-- A call with its answer. -/
structure Cl where
  (kind key hi val e rv : Int)
  pairs : List (Int × Int)
  (over reason : Int)
/-- A transaction as it was. -/
structure Dl where
  (id level state beg en : Int)
  ops : List Cl
def cl0 : Cl := ⟨0, 0, 0, 0, 0, 0, [], 0, 0⟩
def dl0 : Dl := ⟨0, 0, 0, 0, 0, []⟩

/-- Keys in rising order, with their values. -/
abbrev St := List (Int × Int)
def St.ins (x : Int × Int) : St → St
  | [] => [x]
  | y :: r => if x.1 < y.1 then x :: y :: r else y :: St.ins x r
def St.del (s : St) (k : Int) : St := s.filter fun p => !decide (p.1 = k)
def St.put (s : St) (k v : Int) : St := St.ins (k, v) (St.del s k)
def St.get (s : St) (k : Int) : Option Int := (s.find? fun p => decide (p.1 = k)).map (·.2)
def Cl.wrote (c : Cl) : Bool := decide (c.e = 0) && (decide (c.kind = 2) || decide (c.kind = 3) || decide (c.kind = 4))
def St.step (s : St) (c : Cl) : St :=
  if c.e = 0 then (if c.kind = 2 ∨ c.kind = 3 then St.put s c.key c.val else if c.kind = 4 then St.del s c.key else s) else s
def St.steps (s : St) (l : List Cl) : St := l.foldl St.step s
def St.span (s : St) (lo hi : Int) : St := s.filter fun p => decide (lo ≤ p.1) && decide (p.1 ≤ hi)

/-- In the order of their ends. -/
def insD (x : Dl) : List Dl → List Dl
  | [] => [x]
  | y :: r => if x.en < y.en then x :: y :: r else y :: insD x r
def srt (l : List Dl) : List Dl := l.foldr insD []

/-- Those that count at a time, but for the i-th. -/
def pick (when without : Int) (i : Nat) (d : Dl) : Bool := !decide ((i : Int) = without) && decide (d.state = 3) && decide (d.en ≤ when)
def selI (l : List Dl) (when without : Int) : List Nat := (List.range l.length).filter fun i => pick when without i (l.getD i dl0)
def sel (l : List Dl) (when without : Int) : List Dl := (selI l when without).map fun i => l.getD i dl0
def atD (l : List Dl) (when without : Int) : St := (srt (sel l when without)).foldl (fun s d => St.steps s d.ops) []

/-- Whether a call answers as a state does. -/
def answersD (s : St) (c : Cl) : Bool :=
  if c.kind = 1 then (!decide (c.e = 0) && !decide (c.e = 11)) || ((s.get c.key).isSome == decide (c.e = 0) && (!(s.get c.key).isSome || decide (c.rv = (s.get c.key).getD 0)))
  else if c.kind = 5 then !decide (c.e = 0) || decide (c.pairs = s.span c.key c.hi)
  else if c.kind = 2 then (!decide (c.e = 0) && !decide (c.e = 12)) || (s.get c.key).isSome == decide (c.e = 12)
  else if c.kind = 3 ∨ c.kind = 4 then (!decide (c.e = 0) && !decide (c.e = 11)) || (s.get c.key).isSome == decide (c.e = 0)
  else true
def allAnswer (s : St) : List Cl → Bool
  | [] => true
  | c :: r => answersD s c && allAnswer (s.step c) r
def fromD (l : List Dl) (i : Nat) (when : Int) : Bool := allAnswer (atD l when i) (l.getD i dl0).ops
def lastD (d : Dl) : Int := (if d.en < 1 then 1 else d.en) - 1
def findD (l : List Dl) (id : Int) : Option Nat := l.findIdx? fun d => decide (d.id = id) && decide (d.state = 3)
def snapshotD (l : List Dl) (id : Int) : Bool := match findD l id with | none => false | some i => fromD l i (l.getD i dl0).beg
def serialD (l : List Dl) (id : Int) : Bool := match findD l id with | none => false | some i => fromD l i (lastD (l.getD i dl0))
/-- Whether what was read first is there still. -/
def stillThere (s : St) (mine : List Int) : List Cl → Bool
  | [] => true
  | c :: r => !(decide (c.kind = 1) && decide (c.e = 0) && !decide (c.key ∈ mine) && !answersD s c) && stillThere (s.step c) (if c.wrote then c.key :: mine else mine) r
def repeatableD (l : List Dl) (id : Int) : Bool := snapshotD l id && match findD l id with | none => false | some i => stillThere (atD l (lastD (l.getD i dl0)) i) [] (l.getD i dl0).ops
def holdD (l : List Dl) (d : Dl) : Bool := if d.level = 1 then snapshotD l d.id else if d.level = 2 then repeatableD l d.id else if d.level = 3 then serialD l d.id && snapshotD l d.id else false
def firstStep (p : Dl → Bool) (a : Bool × Int) (d : Dl) : Bool × Int := if decide (d.state = 3) && (a.1 || decide (d.id < a.2)) && !p d then (false, d.id) else a
def firstD (l : List Dl) (p : Dl → Bool) : Bool × Int := l.foldl (firstStep p) (true, 0)
def holdsD (l : List Dl) : Bool × Int := firstD l (holdD l)
def replayD (l : List Dl) : Bool × Int := firstD l fun d => serialD l d.id
def keysD (d : Dl) : List Int := (d.ops.filter Cl.wrote).map (·.key)
def overlapD (a b : Dl) : Bool := !(decide (a.en ≤ b.beg) || decide (b.en ≤ a.beg)) && (keysD b).any fun k => decide (k ∈ keysD a)
def clash (a b : Dl) : Bool := decide (a.state = 3) && decide (b.state = 3) && overlapD a b
def writersD (l : List Dl) : Bool := (List.range l.length).all fun i => (List.range i).all fun j => !clash (l.getD i dl0) (l.getD j dl0)

/-- Every number is one of its kind. -/
structure Cl.wf (c : Cl) : Prop where
  kind : (Lit.int .i64 c.kind).wf = true
  key : (Lit.int .i64 c.key).wf = true
  val : (Lit.int .i64 c.val).wf = true
structure Dl.wf (d : Dl) : Prop where
  beg : (Lit.int .u64 d.beg).wf = true
  en : (Lit.int .u64 d.en).wf = true
  ops : ∀ c ∈ d.ops, c.wf
  few : d.ops.length ≤ 1000

/-! ### States -/
def St.rising (s : St) : Prop := s.Pairwise fun p q => p.1 < q.1
theorem St.del_mem {s : St} {k : Int} {p : Int × Int} (h : p ∈ St.del s k) : p ∈ s ∧ p.1 ≠ k := by
  simpa [St.del] using h
theorem St.rising.del {s : St} (h : s.rising) (k : Int) : (St.del s k).rising := List.Pairwise.filter _ h
theorem St.ins_mem {x p : Int × Int} : ∀ {s : St}, p ∈ St.ins x s ↔ p = x ∨ p ∈ s
  | [] => by simp [St.ins]
  | y :: r => by
    unfold St.ins
    split
    · simp
    · simp only [List.mem_cons, St.ins_mem (s := r)]
      constructor
      · rintro (h | h | h)
        · exact .inr (.inl h)
        · exact .inl h
        · exact .inr (.inr h)
      · rintro (h | h | h)
        · exact .inr (.inl h)
        · exact .inl h
        · exact .inr (.inr h)
theorem St.rising.ins {x : Int × Int} : ∀ {s : St}, s.rising → (∀ p ∈ s, p.1 ≠ x.1) → (St.ins x s).rising
  | [], _, _ => by simp [St.ins, St.rising]
  | y :: r, h, hne => by
    unfold St.ins
    have h1 := List.pairwise_cons.1 h
    split
    · rename_i hlt
      refine List.pairwise_cons.2 ⟨fun p hp => ?_, h⟩
      rcases List.mem_cons.1 hp with rfl | hp
      · exact hlt
      · exact Int.lt_trans hlt (h1.1 p hp)
    · rename_i hlt
      have hne' := hne y (by simp)
      refine List.pairwise_cons.2 ⟨fun p hp => ?_, St.rising.ins h1.2 (fun p hp => hne p (by simp [hp]))⟩
      rcases St.ins_mem.1 hp with e | hp
      · rw [e]
        omega
      · exact h1.1 p hp
theorem St.rising.put {s : St} (h : s.rising) (k v : Int) : (St.put s k v).rising := (h.del k).ins fun _ hp => (St.del_mem hp).2
theorem St.ins_length (x : Int × Int) : ∀ s : St, (St.ins x s).length = s.length + 1
  | [] => rfl
  | y :: r => by
    unfold St.ins
    split
    · rfl
    · simp [St.ins_length x r]
theorem St.del_length (s : St) (k : Int) : (St.del s k).length ≤ s.length := List.length_filter_le _ _
theorem St.put_length (s : St) (k v : Int) : (St.put s k v).length ≤ s.length + 1 := by
  unfold St.put
  rw [St.ins_length]
  have := St.del_length s k
  omega
theorem St.step_length (s : St) (c : Cl) : (s.step c).length ≤ s.length + 1 := by
  unfold St.step
  split
  · split
    · exact St.put_length _ _ _
    · split
      · have := St.del_length s c.key
        omega
      · omega
  · omega
theorem St.rising.step {s : St} (h : s.rising) (c : Cl) : (s.step c).rising := by
  unfold St.step
  split
  · split
    · exact h.put _ _
    · split
      · exact h.del _
      · exact h
  · exact h
theorem St.rising.steps : ∀ {l : List Cl} {s : St}, s.rising → (St.steps s l).rising
  | [], _, h => h
  | c :: r, _, h => St.rising.steps (l := r) (h.step c)
theorem St.steps_length : ∀ (l : List Cl) (s : St), (St.steps s l).length ≤ s.length + l.length
  | [], s => Nat.le_refl _
  | c :: r, s => by
    have h1 := St.steps_length r (s.step c)
    have h2 := St.step_length s c
    simp only [St.steps, List.foldl_cons, List.length_cons] at h1 ⊢
    omega

/-! ### In the order of their ends -/
theorem insD_perm (x : Dl) : ∀ l : List Dl, (insD x l).Perm (x :: l)
  | [] => .refl _
  | y :: r => by
    unfold insD
    split
    · exact .refl _
    · exact ((insD_perm x r).cons y).trans (.swap _ _ _)
theorem srt_perm : ∀ l : List Dl, (srt l).Perm l
  | [] => .refl _
  | x :: r => (insD_perm x (srt r)).trans ((srt_perm r).cons x)
theorem insD_sorted (x : Dl) : ∀ l : List Dl, l.Pairwise (fun a b => a.en ≤ b.en) → (insD x l).Pairwise (fun a b => a.en ≤ b.en)
  | [], _ => by simp [insD]
  | y :: r, h => by
    have h1 := List.pairwise_cons.1 h
    unfold insD
    split
    · rename_i hlt
      refine List.pairwise_cons.2 ⟨fun p hp => ?_, h⟩
      rcases List.mem_cons.1 hp with rfl | hp
      · omega
      · have := h1.1 p hp
        omega
    · rename_i hlt
      refine List.pairwise_cons.2 ⟨fun p hp => ?_, insD_sorted x r h1.2⟩
      rcases List.mem_cons.1 ((insD_perm x r).mem_iff.1 hp) with rfl | hp
      · omega
      · exact h1.1 p hp
theorem srt_sorted : ∀ l : List Dl, (srt l).Pairwise (fun a b => a.en ≤ b.en)
  | [] => List.Pairwise.nil
  | x :: r => insD_sorted x (srt r) (srt_sorted r)
/-- Where ends are unlike whatever is sorted is sorted alike. -/
theorem srt_only {l m : List Dl} (hp : m.Perm l) (hs : m.Pairwise (fun a b => a.en ≤ b.en)) (hu : l.Pairwise (fun a b => a.en ≠ b.en)) : m = srt l := by
  have hu' : m.Pairwise (fun a b => a.en ≠ b.en) := (hp.pairwise_iff (fun h e => h e.symm)).2 hu
  have inj : ∀ a b, a ∈ m → b ∈ m → a.en = b.en → a = b := by
    intro a b ha hb he
    obtain ⟨i, hi, rfl⟩ := List.getElem_of_mem ha
    obtain ⟨j, hj, rfl⟩ := List.getElem_of_mem hb
    rcases Nat.lt_trichotomy i j with h | h | h
    · exact absurd he (List.pairwise_iff_getElem.1 hu' i j hi hj h)
    · subst h; rfl
    · exact absurd he.symm (List.pairwise_iff_getElem.1 hu' j i hj hi h)
  refine List.Perm.eq_of_pairwise (le := fun a b => a.en ≤ b.en) (fun a b ha hb h1 h2 => ?_) hs (srt_sorted l) (hp.trans (srt_perm l).symm)
  exact inj a b ha (((hp.trans (srt_perm l).symm).mem_iff).2 hb) (Int.le_antisymm h1 h2)
end Go.Proofs.Ytpohehialkgigaa
