/- Bonds in memory: one's state is turned. -/
import Derived.Test.YtbihfjehlbaahaaJ7
namespace Go.Proofs.Ytbihfjehlbaahaa
open Go.RowKit

def Bs.turn (s : Bs) (x v : Int) : Bs := ⟨s.ids, fun y => if y = x then v else s.st y, s.on⟩
theorem turn_good {s : Bs} (h : s.ok) {x v : Int} (hv : v = 1 ∨ v = 2 ∨ v = 3 ∨ v = 4) : (s.turn x v).ok where
  nodup := h.nodup
  pos := h.pos
  state y hy := by
    simp only [Bs.turn]
    by_cases e : y = x
    · rw [if_pos e]; exact hv
    · rw [if_neg e]; exact h.state y hy
  on := h.on
  short := h.short
  few := h.few
  ond := h.ond
theorem BA.turn {w : World} {b mb : Nat} {blk : Int → Nat} {row : Int → Value} {role : Nat → Role} {D : DataW Unit} {s : Bs} (h : BA w b mb blk row role D s) {x v : Int} (hx : x ∈ s.ids) (hv : v = 1 ∨ v = 2 ∨ v = 3 ∨ v = 4) :
    BA (w.setCell ⟨blk x, 0, none⟩ (.int .i64 v)) b mb blk row role D (s.turn x v) := by
  have hm : Mod (fun g => g = blk x) w (w.setCell ⟨blk x, 0, none⟩ (.int .i64 v)) := Mod.setCell (F := fun g => g = blk x) (Mod.refl _ w) (p := ⟨blk x, 0, none⟩) (.inl rfl) _
  have hr := h.rn x hx
  refine ⟨hm.keep h.top (by rintro rfl; rw [h.rb] at hr; cases hr), ownsMap_mod h.map hm (by rintro rfl; rw [h.rm] at hr; cases hr), h.is, h.size, fun y hy => ?_, fun y hy => (h.rows y hy).mod hm (by rintro g hg rfl; rw [h.rr y hy _ hg] at hr; cases hr), h.rb, h.rm, h.rn, h.rr, fun g hg => Nat.lt_of_lt_of_le (h.lt g hg) hm.size, turn_good h.good hv⟩
  by_cases e : y = x
  · subst e
    rw [blk_set (i := 0) (h.node y hy)]
    simp [Bs.turn]
  · have hne : blk y ≠ blk x := fun e2 => by
      have := h.rn y hy
      rw [e2, hr] at this
      exact e (by injection this with h1; exact h1.symm)
    simp only [Bs.turn, if_neg e]
    exact blk_other (p := ⟨blk x, 0, none⟩) (h.node y hy) hne
end Go.Proofs.Ytbihfjehlbaahaa
