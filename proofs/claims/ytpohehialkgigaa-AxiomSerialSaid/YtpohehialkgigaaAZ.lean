/- What those make who ended by a time; one that is told as aborted. -/
import Derived.Test.YtpohehialkgigaaAX
namespace Go.Proofs.Ytpohehialkgigaa
open Go.RowKit
theorem sel_neg (l : List Dl) (when : Int) : sel l when (-1) = l.filter fun d => decide (d.state = 3) && decide (d.en ≤ when) := by
  have h1 : (List.range l.length).map (fun i => l.getD i dl0) = l := by
    apply List.ext_getElem (by simp)
    intro i h1 h2
    simp only [List.getElem_map, List.getElem_range]
    simp [List.getD_eq_getElem?_getD, h2]
  have h2 : l.filter (fun d => decide (d.state = 3) && decide (d.en ≤ when)) = ((List.range l.length).map (fun i => l.getD i dl0)).filter (fun d => decide (d.state = 3) && decide (d.en ≤ when)) := by rw [h1]
  rw [h2, List.filter_map]
  unfold sel selI
  congr 1
theorem prefix_state {l : List Dl} {at' big : Int} (hs : ∀ d ∈ l, d.state = 3 ∧ d.en ≤ big) : atD l at' (-1) = atD (l.filter fun d => decide (d.en ≤ at')) big (-1) := by
  unfold atD
  rw [sel_neg, sel_neg, List.filter_filter]
  have : (l.filter fun d => decide (d.state = 3) && decide (d.en ≤ at')) = l.filter fun d => (decide (d.state = 3) && decide (d.en ≤ big)) && decide (d.en ≤ at') := by
    apply List.filter_congr
    intro d hd
    obtain ⟨a, b⟩ := hs d hd
    simp [a, b]
  rw [this]
/-- The k-th told as aborted. -/
def Dl.gone (d : Dl) : Dl := ⟨d.id, d.level, 4, d.beg, d.en, d.ops⟩
theorem gone_state {l m : List Dl} {d : Dl} (when : Int) : atD (l ++ d.gone :: m) when (-1) = atD (l ++ m) when (-1) := by
  unfold atD
  rw [sel_neg, sel_neg, List.filter_append, List.filter_append, List.filter_cons_of_neg (by simp [Dl.gone])]
theorem gone_snap {l m : List Dl} {d : Dl} (h : ∀ x ∈ l ++ m, x.id ≠ d.id) : snapshotD (l ++ d.gone :: m) d.id = false := by
  have : findD (l ++ d.gone :: m) d.id = none := by
    unfold findD
    rw [List.findIdx?_eq_none_iff]
    intro x hx
    rcases List.mem_append.1 hx with hx | hx
    · simp [h x (by simp [hx])]
    · rcases List.mem_cons.1 hx with rfl | hx
      · simp [Dl.gone]
      · simp [h x (by simp [hx])]
  unfold snapshotD
  rw [this]
end Go.Proofs.Ytpohehialkgigaa
