/- Serially: the Ops that come in; rows of calls that lie in blocks of their own, while others are written. -/
import Derived.Test.YtpohehialkgigaaAY
namespace Go.Proofs.Ytpohehialkgigaa
open Go.RowKit
def OpR.cells (o : OpR) : List Value := [.int .i64 o.kind, .int .i64 o.key, .int .i64 o.hi, .int .i64 o.val]
def RowOps (w : World) (v : Value) (l : List OpR) : Prop :=
  (l = [] ∧ ∃ a cap, v = .slice a 0 cap ∧ (a = none → cap = 0)) ∨
  ∃ b off cap, v = .slice (some ⟨b, off, none⟩) l.length cap ∧ l.length ≤ cap ∧ b < w.heap.size ∧ ∀ i, i < l.length → ∀ q, q < 4 → w.cell? ⟨b, off + i * 4 + q, none⟩ = ((l.getD i opr0).cells)[q]?
def OpsAt (w : World) (v : Value) (L : List (List OpR)) : Prop :=
  (L = [] ∧ ∃ a cap, v = .slice a 0 cap ∧ (a = none → cap = 0)) ∨
  ∃ b off cap, v = .slice (some ⟨b, off, none⟩) L.length cap ∧ L.length ≤ cap ∧ b < w.heap.size ∧ ∀ i, i < L.length → ∃ rv, w.cell? ⟨b, off + i, none⟩ = some rv ∧ RowOps w rv (L.getD i [])
section
variable {w w1 : World} {v : Value}
theorem RowOps.later {l : List OpR} (h : RowOps w v l) (hb : Below w.heap.size w w1) : RowOps w1 v l := by
  rcases h with h | ⟨b, off, cap, hv, hlc, hl, hc⟩
  · exact .inl h
  · exact .inr ⟨b, off, cap, hv, hlc, Nat.lt_of_lt_of_le hl hb.size, fun i hi q hq => (hb.cell (p := ⟨b, off + i * 4 + q, none⟩) hl).trans (hc i hi q hq)⟩
theorem OpsAt.later {L : List (List OpR)} (h : OpsAt w v L) (hb : Below w.heap.size w w1) : OpsAt w1 v L := by
  rcases h with h | ⟨b, off, cap, hv, hlc, hl, hc⟩
  · exact .inl h
  · refine .inr ⟨b, off, cap, hv, hlc, Nat.lt_of_lt_of_le hl hb.size, fun i hi => ?_⟩
    obtain ⟨rv, h1, h2⟩ := hc i hi
    exact ⟨rv, (hb.cell (p := ⟨b, off + i, none⟩) hl).trans h1, h2.later hb⟩
theorem RowOps.form {l : List OpR} (h : RowOps w v l) : ∃ a cap, v = .slice a l.length cap ∧ l.length ≤ cap := by
  rcases h with ⟨rfl, a, cap, rfl, _⟩ | ⟨b, off, cap, rfl, h, _⟩
  · exact ⟨a, cap, rfl, Nat.zero_le _⟩
  · exact ⟨_, cap, rfl, h⟩
theorem OpsAt.form {L : List (List OpR)} (h : OpsAt w v L) : ∃ a cap, v = .slice a L.length cap ∧ L.length ≤ cap := by
  rcases h with ⟨rfl, a, cap, rfl, _⟩ | ⟨b, off, cap, rfl, h, _⟩
  · exact ⟨a, cap, rfl, Nat.zero_le _⟩
  · exact ⟨_, cap, rfl, h⟩
end

/-- Pairs, calls, Deals that lie in blocks of G. -/
def PairsIn (G : Nat → Prop) (w : World) (v : Value) (l : St) : Prop := PairsAt w v l ∧ ∀ g, v.ownBlock = some g → G g ∧ g < w.heap.size
def CallsIn (G : Nat → Prop) (w : World) (v : Value) (l : List Cl) : Prop :=
  (l = [] ∧ ∃ a cap, v = .slice a 0 cap ∧ (a = none → cap = 0)) ∨
  ∃ b off cap, v = .slice (some ⟨b, off, none⟩) l.length cap ∧ l.length ≤ cap ∧ G b ∧ b < w.heap.size ∧ ∀ i, i < l.length → ∃ pv, (∀ q, q < 9 → w.cell? ⟨b, off + i * 9 + q, none⟩ = ((l.getD i cl0).cells pv)[q]?) ∧ PairsIn G w pv (l.getD i cl0).pairs
section
variable {G H : Nat → Prop} {w w1 : World} {v : Value} {F : Nat → Prop}
theorem PairsIn.mod {l : St} (h : PairsIn G w v l) (hm : Mod F w w1) (hF : ∀ g, G g → g < w.heap.size → ¬ F g) : PairsIn G w1 v l := by
  obtain ⟨h, hg⟩ := h
  refine ⟨?_, fun g hv => ⟨(hg g hv).1, Nat.lt_of_lt_of_le (hg g hv).2 hm.size⟩⟩
  rcases h with h | ⟨b, off, cap, hv, hlc, hl, hc⟩
  · exact .inl h
  · have hne := hF b (hg b (by rw [hv]; rfl)).1 hl
    have hbk : w1.heap[b]? = w.heap[b]? := hm.block b hl hne
    refine .inr ⟨b, off, cap, hv, hlc, Nat.lt_of_lt_of_le hl hm.size, fun i hi => ?_⟩
    obtain ⟨x, y⟩ := hc i hi
    refine ⟨?_, ?_⟩
    · rw [← x]; unfold World.cell?; rw [hbk]
    · rw [← y]; unfold World.cell?; rw [hbk]
theorem PairsIn.mono {l : St} (h : PairsIn G w v l) (hG : ∀ g, G g → g < w.heap.size → H g) : PairsIn H w v l :=
  ⟨h.1, fun g hv => ⟨hG g (h.2 g hv).1 (h.2 g hv).2, (h.2 g hv).2⟩⟩
theorem CallsIn.mod {l : List Cl} (h : CallsIn G w v l) (hm : Mod F w w1) (hF : ∀ g, G g → g < w.heap.size → ¬ F g) : CallsIn G w1 v l := by
  rcases h with h | ⟨b, off, cap, hv, hlc, hB, hl, hc⟩
  · exact .inl h
  · have hbk : w1.heap[b]? = w.heap[b]? := hm.block b hl (hF b hB hl)
    refine .inr ⟨b, off, cap, hv, hlc, hB, Nat.lt_of_lt_of_le hl hm.size, fun i hi => ?_⟩
    obtain ⟨pv, x, y⟩ := hc i hi
    refine ⟨pv, fun q hq => ?_, y.mod hm hF⟩
    rw [← x q hq]
    unfold World.cell?
    rw [hbk]
theorem CallsIn.mono {l : List Cl} (h : CallsIn G w v l) (hG : ∀ g, G g → g < w.heap.size → H g) : CallsIn H w v l := by
  rcases h with h | ⟨b, off, cap, hv, hlc, hB, hl, hc⟩
  · exact .inl h
  · refine .inr ⟨b, off, cap, hv, hlc, hG b hB hl, hl, fun i hi => ?_⟩
    obtain ⟨pv, x, y⟩ := hc i hi
    exact ⟨pv, x, y.mono hG⟩
theorem CallsIn.at_ {l : List Cl} (h : CallsIn G w v l) : CallsAt w v l := by
  rcases h with h | ⟨b, off, cap, hv, hlc, _, hl, hc⟩
  · exact .inl h
  · exact .inr ⟨b, off, cap, hv, hlc, hl, fun i hi => by
      obtain ⟨pv, x, y⟩ := hc i hi
      exact ⟨pv, x, y.1⟩⟩
end
/-- A row of calls that has grown is one that lies behind the bound. -/
theorem NewCalls.in_ {B : Nat} {G : Nat → Prop} {w : World} {v : Value} {l : List (Cl × Value)} (h : NewCalls B w v l) (hG : ∀ g, v.ownBlock = some g → G g) (hp : ∀ c ∈ l, PairsIn G w c.2 c.1.pairs) : CallsIn G w v (l.map (·.1)) := by
  rcases h.2 with ⟨hv, hn⟩ | ⟨g, cap, cur, hv, hg, hh, hnc, hcm, hcs, htk⟩
  · have : l = [] := List.length_eq_zero_iff.1 hn
    subst this
    exact .inl ⟨rfl, _, _, hv, fun _ => rfl⟩
  · refine .inr ⟨g, 0, cap, by rw [hv, List.length_map], by rw [List.length_map]; exact hnc, hG g (by rw [hv]; rfl), blk_lt hh, fun i hi => ?_⟩
    have hi' : i < l.length := by simpa using hi
    have e : (l.map (·.1)).getD i cl0 = (l.getD i (cl0, undef)).1 := by simp [List.getD_eq_getElem?_getD, hi']
    rw [e]
    refine ⟨(l.getD i (cl0, undef)).2, fun q hq => ?_, hp _ (by rw [List.getD_eq_getElem?_getD]; simp [hi'])⟩
    rw [Nat.zero_add, blk_cell hh]
    have h1 : (cur.toList.take (l.length * 9))[i * 9 + q]? = (l.flatMap fun c => c.1.cells c.2)[i * 9 + q]? := by rw [htk]
    rw [List.getElem?_take_of_lt (by omega), flat_get Cl.cells_len (cl0, undef) l i q hi' hq] at h1
    simpa using h1
end Go.Proofs.Ytpohehialkgigaa
