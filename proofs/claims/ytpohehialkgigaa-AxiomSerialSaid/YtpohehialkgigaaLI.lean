/- Serially: the scan, and a Deal put behind the others, in memory. -/
import Derived.Test.YtpohehialkgigaaLH
namespace Go.Proofs.Ytpohehialkgigaa
open Go.RowKit
theorem St.get_cons (p : Int × Int) (r : St) (k : Int) : St.get (p :: r) k = if p.1 = k then some p.2 else St.get r k := by
  unfold St.get
  rw [List.find?_cons]
  by_cases h : p.1 = k
  · simp [h]
  · simp [h]
theorem St.get_above {s : St} {k : Int} (h : ∀ p ∈ s, k < p.1) : s.get k = none := by
  unfold St.get
  have : s.find? (fun p => decide (p.1 = k)) = none := by
    rw [List.find?_eq_none]
    intro p hp
    have := h p hp
    simp
    omega
  rw [this]
  rfl
theorem span_above {s : St} {lo hi : Int} (h : ∀ p ∈ s, hi < p.1) : s.span lo hi = [] := by
  unfold St.span
  rw [List.filter_eq_nil_iff]
  intro p hp
  have := h p hp
  simp
  omega
theorem span_cons (p : Int × Int) (r : St) (lo hi : Int) : St.span (p :: r) lo hi = (if lo ≤ p.1 ∧ p.1 ≤ hi then [p] else []) ++ St.span r lo hi := by
  unfold St.span
  rw [List.filter_cons]
  by_cases h : lo ≤ p.1 ∧ p.1 ≤ hi
  · simp [h]
  · rw [if_neg h]
    have : (decide (lo ≤ p.1) && decide (p.1 ≤ hi)) = false := by
      simp
      omega
    simp [this]
theorem span_next : ∀ {s : St}, s.rising → ∀ {lo j : Int}, lo ≤ j → s.span lo j = s.span lo (j - 1) ++ (match s.get j with | none => [] | some v => [(j, v)])
  | [], _, _, _, _ => rfl
  | p :: r, h, lo, j, hlo => by
    obtain ⟨h1, h2⟩ := List.pairwise_cons.1 h
    rw [span_cons, span_cons, St.get_cons]
    rcases Int.lt_trichotomy p.1 j with hj | hj | hj
    · rw [span_next (s := r) h2 hlo, if_neg (by omega : ¬ p.1 = j), List.append_assoc]
      congr 1
      by_cases e : lo ≤ p.1
      · rw [if_pos ⟨e, by omega⟩, if_pos ⟨e, by omega⟩]
      · rw [if_neg (fun x => e x.1), if_neg (fun x => e x.1)]
    · have ha : ∀ q ∈ r, j < q.1 := fun q hq => by have := h1 q hq; omega
      rw [span_above (s := r) (lo := lo) (hi := j) ha, span_above (s := r) (lo := lo) (hi := j - 1) (fun q hq => by have := ha q hq; omega), if_pos ⟨by omega, by omega⟩, if_neg (by omega), if_pos hj]
      subst hj
      simp
    · have ha : ∀ q ∈ r, j < q.1 := fun q hq => by have := h1 q hq; omega
      rw [span_above (s := r) (lo := lo) (hi := j) ha, span_above (s := r) (lo := lo) (hi := j - 1) (fun q hq => by have := ha q hq; omega), if_neg (by omega), if_neg (by omega), if_neg (by omega), St.get_above ha]
      rfl
theorem span_below {s : St} {lo hi : Int} (h : hi < lo) : s.span lo hi = [] := by
  unfold St.span
  rw [List.filter_eq_nil_iff]
  intro p _
  simp
  omega
theorem span_few {s : St} (h : s.rising) {lo : Int} : ∀ n : Nat, (s.span lo (lo - 1 + n)).length ≤ n
  | 0 => by rw [span_below (by omega)]; exact Nat.le_refl _
  | n + 1 => by
    rw [span_next h (by omega), List.length_append]
    have := span_few h (lo := lo) n
    have e : lo - 1 + ((n + 1 : Nat) : Int) - 1 = lo - 1 + (n : Int) := by omega
    rw [e]
    split <;> simp <;> omega
theorem NewPairs.lies {B : Nat} {w : World} {v : Value} {l : St} (h : NewPairs B w v l) : PairsAt w v l := by
  have h0 := h
  rcases h.2 with ⟨hv, hn⟩ | ⟨g, cap, cur, hv, hg, hh, hnc, hcm, hcs, htk⟩
  · have : l = [] := List.length_eq_zero_iff.1 hn
    subst this
    exact .inl ⟨rfl, _, _, hv, fun _ => rfl⟩
  · refine .inr ⟨g, 0, cap, hv, hnc, blk_lt hh, fun i hi => ?_⟩
    have h1 := pairCells_fst l i hi
    have h2 := pairCells_snd l i hi
    rw [← htk, List.getElem?_take_of_lt (by omega)] at h1 h2
    rw [Nat.zero_add, blk_cell hh, blk_cell hh]
    exact ⟨by simpa using h1, by simpa using h2⟩
/-- Within a scan. -/
structure ScanAt (wr wx : World) (key val : Int) (ps : St) (pv : Value) : Prop where
  opb : wx.heap[wr.heap.size]? = some (.cells #[.int .i64 5, .int .i64 key, .int .i64 9, .int .i64 val] 29 (0, 0))
  res : wx.heap[wr.heap.size + 1]? = some (.cells #[.int .i64 0, .int .i64 0, pv, .int .i64 0, .int .i64 0] 33 (0, 0))
  own : NewPairs (wr.heap.size + 2) wx pv ps
  below : Below wr.heap.size wr wx
  size : wr.heap.size + 2 ≤ wx.heap.size
theorem ScanAt.start (wr : World) (key val : Int) : ScanAt wr ((wr.alloc (.cells #[.int .i64 5, .int .i64 key, .int .i64 9, .int .i64 val] 29 (0, 0))).alloc (.cells #[.int .i64 0, .int .i64 0, .slice none 0 0, .int .i64 0, .int .i64 0] 33 (0, 0))) key val [] (.slice none 0 0) where
  opb := blk_alloc (blk_new _ _)
  res := blk_at (by simp)
  own := NewPairs.nil _ _
  below := bl_alloc (bl_alloc (Below.refl _ _) _) _
  size := by simp
theorem ScanAt.next {wr wx w3 w5 : World} {key val x y : Int} {ps : St} {pv v' : Value} (h : ScanAt wr wx key val ps pv) (hb : Below wx.heap.size wx w3)
    (hA : Appended w3 w5 (wr.heap.size + 2) 42 2 pv v' (ps.length + 1) (pairCells ps ++ [.int .i64 x, .int .i64 y])) : ScanAt wr (w5.setCell ⟨wr.heap.size + 1, 2, none⟩ v') key val (ps ++ [(x, y)]) v' := by
  have hl := World.ownsRow.lt h.own
  have hl5 := World.ownsRow.lt hA.own
  have ha : Mod (fun g => pv.ownBlock = some g) w3 w5 := hA.mod fun _ hk => hk
  have hs := hb.size
  have hs5 := ha.size
  have h5 : Mod (fun g => g = wr.heap.size + 1) w5 (w5.setCell ⟨wr.heap.size + 1, 2, none⟩ v') := Mod.one (F := fun g => g = wr.heap.size + 1) (p := ⟨wr.heap.size + 1, 2, none⟩) w5 rfl v'
  refine ⟨?_, ?_, ?_, ?_, ?_⟩
  · exact h5.keep (ha.keep (below_keep hb h.opb) (fun e => by have := (hl _ e).1; omega)) (by omega)
  · have h1 := ha.keep (below_keep hb h.res) (fun e => by have := (hl _ e).1; omega)
    have := blk_set (i := 2) (u := v') h1
    simpa using this
  · have := NewPairs.app (l := ps) (x := x) (y := y) hA rfl rfl
    exact ownsRow_mod this h5 (fun g e => by have := (hl5 g e).1; omega)
  · have h1 : Below wr.heap.size wr w5 := (h.below.trans (hb.mono (by have := h.size; omega))).trans (ha.below (fun g e => by have := (hl g e).1; omega) (by have := h.size; omega))
    exact h1.trans (h5.below (fun g e => by omega) (by have := h.size; omega))
  · have := h5.size
    have := h.size
    omega
theorem fold_rising : ∀ (l : List Dl) {s : St}, s.rising → (l.foldl (fun s d => St.steps s d.ops) s).rising
  | [], _, h => h
  | d :: r, _, h => fold_rising r (h.steps (l := d.ops))
theorem SerK.rising {k c : Nat} {l : List Dl} {s : St} (h : SerK k c l s) : s.rising := by
  rw [← h.st]
  exact fold_rising l List.Pairwise.nil
theorem InCall.scan {w wr wx : World} {s : St} {key val : Int} {pv : Value} (hr : s.rising) (h : ScanAt wr wx key val (s.span key 9) pv) (ht : ThereAt wr w.heap.size s) (hv : ValAt wr (w.heap.size + 1) s) (hk : 0 ≤ key ∧ key ≤ 7) (hw : (Lit.int .i64 key).wf = true ∧ (Lit.int .i64 val).wf = true) :
    InCall w wr wr.heap.size s ⟨5, key, 9, val, 0, 0, s.span key 9, 0, 0⟩ pv wx where
  ans := by simp [answersD]
  key := ⟨hk.1, hk.2, by
    have := span_few hr (lo := key) (9 - key + 1).toNat
    have e : key - 1 + (((9 - key + 1).toNat : Nat) : Int) = 9 := by omega
    rw [e] at this
    show (s.span key 9).length ≤ 10
    omega⟩
  wf := ⟨rfl, hw.1, hw.2⟩
  opb := h.opb
  res := h.res
  prs := ⟨h.own.lies, fun g e => ⟨by have := (World.ownsRow.lt h.own g e).1; omega, (World.ownsRow.lt h.own g e).2⟩⟩
  there := ht.mod (F := fun _ => False) (Mod.of_below h.below) (fun h => h)
  val := hv.mod (F := fun _ => False) (Mod.of_below h.below) (fun h => h)
  mod := Mod.of_below h.below
/-- A Deal put behind the others, in memory. -/
structure OutLoop (w : World) (k c : Nat) (ds : List (Dl × Value)) (s : St) (outv : Value) (wr : World) : Prop where
  ser : SerK k c (ds.map (·.1)) s
  row : NewDeals (w.heap.size + 2) wr outv ds
  calls : ∀ x ∈ ds, CallsIn (fun g => w.heap.size + 2 ≤ g ∧ outv.ownBlock ≠ some g) wr x.2 x.1.ops
  there : ThereAt wr w.heap.size s
  val : ValAt wr (w.heap.size + 1) s
  below : Below w.heap.size w wr
  size : w.heap.size + 2 ≤ wr.heap.size
theorem OutLoop.next {w wo wx w5 : World} {db k c c1 : Nat} {ds : List (Dl × Value)} {s s2 : St} {outv ov v' : Value} {lv : Int} {cs : List (Cl × Value)} {o : Obj}
    (h : OutLoop w k c ds s outv wo) (hdb : wo.heap.size = db) (hi : InLoop w wo db k lv (c + 1) (c1 + 1) s 8 cs s2 ov wx) (hlv : lv = 1 ∨ lv = 2 ∨ lv = 3) (h1 : c + 1 ≤ c1) (h2 : c1 ≤ c + 8) (hk : k < 10)
    (hA : Appended (wx.alloc o) w5 (w.heap.size + 2) 25 6 outv v' (ds.length + 1) ((ds.flatMap fun c => c.1.cells c.2) ++ (⟨k + 1, lv, 3, c + 1, c1 + 1, cs.map (·.1)⟩ : Dl).cells ov)) :
    OutLoop w (k + 1) (c1 + 1) (ds ++ [(⟨k + 1, lv, 3, c + 1, c1 + 1, cs.map (·.1)⟩, ov)]) s2 v' w5 := by
  subst hdb
  have hov := World.ownsRow.lt h.row
  have hv' := World.ownsRow.lt hA.own
  have hcv := World.ownsRow.lt hi.row
  have hsz := h.size
  have hzx := hi.size
  have hca : Mod (fun _ => False) wx (wx.alloc o) := (Mod.refl _ _).alloc o
  have ha5 : Mod (fun g => outv.ownBlock = some g) (wx.alloc o) w5 := hA.mod fun _ hk => hk
  have hcz : (wx.alloc o).heap.size = wx.heap.size + 1 := by simp
  have hc5 := ha5.size
  have hbk : ∀ g, v'.ownBlock = some g → outv.ownBlock = some g ∨ g = wx.heap.size + 1 := fun g hg => by
    rcases hA.lies with hl | hl
    · exact .inl (hl ▸ hg)
    · rw [hl] at hg
      simp only [Option.some.injEq] at hg
      omega
  have hck := h.ser.clock
  refine ⟨?_, NewDeals.app hA rfl rfl, ?_, ?_, ?_, ?_, ?_⟩
  · have := h.ser.snoc (d := ⟨k + 1, lv, 3, c + 1, c1 + 1, cs.map (·.1)⟩) (c' := c1 + 1) rfl (by show (c : Int) < c + 1; omega) (by show (c : Int) + 1 < c1 + 1; omega) (by show (c1 : Int) + 1 ≤ ((c1 + 1 : Nat) : Int); omega) rfl hlv ⟨WalkArith.wf_u64 (by dsimp only; omega), WalkArith.wf_u64 (by dsimp only; omega), hi.ink.wf, by have := hi.ink.few; show (cs.map (·.1)).length ≤ 1000; omega⟩ hi.ink.ans ⟨hi.ink.few, hi.ink.keys⟩ (by omega)
    rw [List.map_append]
    have e := hi.ink.st
    rw [← e]
    exact this
  · intro x hx
    have h3 : CallsIn (fun g => w.heap.size + 2 ≤ g ∧ outv.ownBlock ≠ some g ∧ g < wx.heap.size) wx x.2 x.1.ops := by
      rcases List.mem_append.1 hx with hx | hx
      · exact ((h.calls x hx).mod hi.mod (fun g hg _ => by omega)).mono fun g hg hl => ⟨hg.1, hg.2, hl⟩
      · simp only [List.mem_singleton] at hx
        subst hx
        refine (NewCalls.in_ (G := fun g => wo.heap.size + 1 ≤ g) hi.row (fun g e => (hcv g e).1) (fun x hx => (hi.prs x hx).mono fun g hg _ => hg.1)).mono fun g hg hl => ⟨by omega, fun e => by have := (hov g e).2; omega, hl⟩
    have h4 := (h3.mod hca (fun _ _ _ h => h)).mod ha5 (fun g hg _ => hg.2.1)
    refine h4.mono fun g hg _ => ⟨hg.1, fun e => ?_⟩
    rcases hbk g e with h | h
    · exact hg.2.1 h
    · omega
  · exact (hi.there.mod hca (fun h => h)).mod ha5 (fun e => by have := (hov _ e).1; omega)
  · exact (hi.val.mod hca (fun h => h)).mod ha5 (fun e => by have := (hov _ e).1; omega)
  · have hb1 : Below w.heap.size w wx := h.below.trans (hi.mod.below (fun g hg => by rcases hg with rfl | rfl <;> omega) (by omega))
    exact (hb1.alloc (by omega) o).trans (ha5.below (fun g e => by have := (hov g e).1; omega) (by omega))
  · omega
end Go.Proofs.Ytpohehialkgigaa
