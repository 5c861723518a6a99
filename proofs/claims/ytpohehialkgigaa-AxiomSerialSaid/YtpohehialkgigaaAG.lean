/- Places of Deals are sorted by their ends. -/
import Derived.Test.YtpohehialkgigaaAF
import Derived.Shelf.SlSortCmp.Insertion
import Derived.Ground.SlsfProg
import Derived.Sort.OwnSortedInts
import Derived.Sort.LotA
namespace Go.Proofs.Ytpohehialkgigaa
open Go.RowKit Go.Sort Go.Shelf

def laysIns_ren : Go.Shelf.Ren := ⟨fun | 20 => 54 | n => n, fun | 24 => 3 | 22 => 51 | 3 => 3 | 25 => 83 | 4 => 4 | 0 => 0 | n => n, fun | n => n⟩
theorem laysIns : Go.Proofs.SlLaysF.n20 Try.prog laysIns_ren := {
  mixed := by kernel_rfl
  f20 := ⟨Try.f54.name, by decide, Try.func54.trans (congrArg some (by kernel_rfl))⟩
  t0 := Try.underlying0
  a0 := Try.isAgg0
  z0 := Try.sizeOf0
  v0 := Try.zeroValue0
  t3 := Try.underlying3
  a3 := Try.isAgg3
  z3 := Try.sizeOf3
  v3 := Try.zeroValue3
  t4 := Try.underlying4
  a4 := Try.isAgg4
  z4 := Try.sizeOf4
  v4 := Try.zeroValue4
  t22 := Try.underlying51
  a22 := Try.isAgg51
  z22 := Try.sizeOf51
  v22 := Try.zeroValue51
  a24 := Try.isAgg3
  z24 := Try.sizeOf3
  t25 := Try.underlying83
  a25 := Try.isAgg83
  z25 := Try.sizeOf83
  v25 := Try.zeroValue83 }

def cmpI (a b : Int) : Int := if a < b then -1 else if b < a then 1 else 0
set_option maxRecDepth 100000 in
set_option maxHeartbeats 800000 in
theorem at_clos {w : World} {v : Value} {l : List Dl} {B i j : Nat} (h : DealsAt w v l) (hc : w.cell? ⟨B, 0, none⟩ = some v) (hi : i < l.length) (hj : j < l.length) :
    Calls Try.prog 44 #[.int .i64 i, .int .i64 j, .pointer (some ⟨B, 0, none⟩)] w fun e w' => e = .returned (.int .i64 (cmpI (l.getD i dl0).en (l.getD j dl0).en)) ∧ ∃ q, w' = w.drewN q := by
  obtain ⟨b, off, cap, ov, rfl, hb, hci, _⟩ := h.at_ hi
  obtain ⟨b2, off2, cap2, ov2, hv, _, hcj, _⟩ := h.at_ hj
  simp only [Value.slice.injEq, Option.some.injEq, Addr.mk.injEq, true_and, and_true] at hv
  obtain ⟨⟨rfl, rfl⟩, rfl⟩ := hv
  have c4 := hci 4 (by decide)
  have d4 := hcj 4 (by decide)
  clear hci hcj h
  generalize l.getD i dl0 = x at *
  generalize l.getD j dl0 = y at *
  obtain ⟨x1, x2, x3, x4, x5, x6⟩ := x
  obtain ⟨y1, y2, y3, y4, y5, y6⟩ := y
  simp [Dl.cells] at c4 d4
  have p0 : (0 : Int) ≤ (i : Int) := by omega
  have p1 : (i : Int) < (l.length : Int) := by omega
  have p2 : (0 : Int) ≤ (j : Int) := by omega
  have p3 : (j : Int) < (l.length : Int) := by omega
  unfold cmpI
  by_cases hlt : x5 < y5
  · have e1 := dec_t hlt
    rw [if_pos hlt]
    clear hlt
    go_enter Try.func44, Try.ntmps44
    go_wp2_with fail
    go_quiet (fail)
    go_wp2_with fail
    go_ret
    exact ⟨rfl, nq, rfl⟩
  · have e1 := dec_f hlt
    rw [if_neg hlt]
    by_cases hgt : y5 < x5
    · have e2 := dec_t hgt
      rw [if_pos hgt]
      clear hlt hgt
      go_enter Try.func44, Try.ntmps44
      go_wp2_with fail
      go_quiet (fail)
      go_wp2_with fail
      go_ret
      exact ⟨rfl, nq, rfl⟩
    · have e2 := dec_f hgt
      rw [if_neg hgt]
      clear hlt hgt
      go_enter Try.func44, Try.ntmps44
      go_wp2_with fail
      go_quiet (fail)
      go_wp2_with fail
      go_ret
      exact ⟨rfl, nq, rfl⟩

def encF (n : Nat) (i : Fin n) : Value := .int .i64 (i.val : Int)
theorem encF_one (n : Nat) : OneCell (encF n) := fun _ => rfl
theorem putRow_val {n : Nat} [Inhabited (Fin n)] (w : World) (g : Nat) (d : Array (Fin n)) : putRow (encF n) w g 0 d = putRow (Value.int .i64) w g 0 (d.map fun i => (i.val : Int)) := by
  unfold putRow
  congr 1
  funext c
  unfold putCells
  congr 1
  funext k x
  simp only [Nat.zero_le, true_and, Nat.zero_add, Array.size_map, Nat.sub_zero]
  split
  · rename_i h
    rw [getElem!_pos d k h, getElem!_pos (d.map _) k (by simpa using h)]
    simp [encF]
  · rfl
theorem sortWorld_val {n : Nat} [Inhabited (Fin n)] (w : World) (g m : Nat) (d : Array (Fin n)) (os : Array Obj) : sortWorld (encF n) w g 0 m d os = grow (putRow (Value.int .i64) (Sort.ahead w m) g 0 (d.map fun i => (i.val : Int))) os := by
  unfold sortWorld
  rw [putRow_val]
def cfD (l : List Dl) (i j : Fin l.length) : Int := cmpI (l.getD i.val dl0).en (l.getD j.val dl0).en
theorem cmp_reads {w0 w : World} {v : Value} {l : List Dl} {B g n : Nat} [Inhabited (Fin l.length)] (h : DealsAt w0 v l) (hb : Below w0.heap.size w0 w) (hg : w0.heap.size ≤ g) (hB : B < w.heap.size) (hne : B ≠ g) (hc : w.cell? ⟨B, 0, none⟩ = some v) :
    CmpReads Try.prog 44 #[.pointer (some ⟨B, 0, none⟩)] (encF l.length) (cfD l) g 0 n w := by
  intro m os dk _ x y
  have hgr : w.grownBy (sortWorld (encF l.length) w g 0 m dk os) (some g) := by rw [sortWorld_val]; exact grownBy_sortedI _
  have hm : Mod (fun i => i = g) w (sortWorld (encF l.length) w g 0 m dk os) := Mod.of_grown hgr fun k hk => .inl (by simpa using hk.symm)
  have hd := h.later (hb.trans (hm.below (fun k hk => by omega) hb.size))
  refine at_clos hd ?_ x.isLt y.isLt
  rw [← hc]
  unfold World.cell?
  rw [show (sortWorld (encF l.length) w g 0 m dk os).heap[B]? = w.heap[B]? from hm.block B hB hne]

theorem cmpI_neg (a b : Int) : cmpI a b < 0 ↔ a < b := by
  unfold cmpI
  by_cases h : a < b
  · rw [if_pos h]
    exact ⟨fun _ => h, fun _ => by decide⟩
  · rw [if_neg h]
    by_cases h2 : b < a
    · rw [if_pos h2]
      exact ⟨fun h3 => absurd h3 (by decide), fun h3 => absurd h3 h⟩
    · rw [if_neg h2]
      exact ⟨fun h3 => absurd h3 (by decide), fun h3 => absurd h3 h⟩
theorem lt_iff (l : List Dl) (x y : Fin l.length) : ltOf (cfD l) x y = true ↔ (l.getD x.val dl0).en < (l.getD y.val dl0).en := by
  unfold ltOf cfD
  rw [decide_eq_true_eq, cmpI_neg]
theorem lt_not (l : List Dl) (x y : Fin l.length) : ltOf (cfD l) x y = false ↔ ¬ (l.getD x.val dl0).en < (l.getD y.val dl0).en := by
  rw [← lt_iff, Bool.not_eq_true]
theorem swoD (l : List Dl) : SWO (ltOf (cfD l)) where
  irrefl x := (lt_not l x x).2 (Int.lt_irrefl _)
  trans x y z h1 h2 := (lt_iff l x z).2 (Int.lt_trans ((lt_iff l x y).1 h1) ((lt_iff l y z).1 h2))
  ntrans x y z h1 h2 := by
    rw [lt_not] at *
    omega

/-- What a row of places holds behind the sort. -/
theorem ins_ints {w0 w : World} {v : Value} {l : List Dl} {B g cap : Nat} {is : List (Fin l.length)} [Inhabited (Fin l.length)] (h : DealsAt w0 v l) (hb : Below w0.heap.size w0 w) (hg : w0.heap.size ≤ g) (hB : B < w.heap.size) (hne : B ≠ g) (hc : w.cell? ⟨B, 0, none⟩ = some v)
    (ho : Owned .i64 3 w (.slice (some ⟨g, 0, none⟩) is.length cap) (is.map fun i => (i.val : Int))) (hl : is.length ≤ 1000) :
    Calls Try.prog 54 #[.slice (some ⟨g, 0, none⟩) is.length cap, .int .i64 0, .int .i64 is.length, .func (.func 44) #[] #[.pointer (some ⟨B, 0, none⟩)]] w fun e w' =>
      e = .returned (.tuple #[]) ∧ ∃ js : List (Fin l.length), js.Perm is ∧ js.Pairwise (fun a b => (l.getD a.val dl0).en ≤ (l.getD b.val dl0).en) ∧
        Owned .i64 3 w' (.slice (some ⟨g, 0, none⟩) is.length cap) (js.map fun i => (i.val : Int)) ∧ Mod (fun i => i = g) w w' := by
  rcases ho.2 with ⟨hv, _⟩ | ⟨g', cap', cur, hv, _, hh, h1, h2, h3, h4⟩
  · cases hv
  simp only [Value.slice.injEq, Option.some.injEq, Addr.mk.injEq, and_true] at hv
  obtain ⟨rfl, hlen, rfl⟩ := hv
  have hH : Holds (encF l.length) w g 0 is.toArray := by
    intro j hj
    have hj' : j < is.length := by simpa using hj
    rw [Nat.zero_add]
    refine ⟨?_, blk_free hh j⟩
    have hl' : is.length = (is.map fun i => ((i.val : Nat) : Int)).length := by simp
    have ho' := ho
    rw [Owned.at_ (i := j) ho' (by simpa using hj')]
    rw [getElem!_pos is.toArray j hj]
    simp [encF, List.getD_eq_getElem?_getD, hj']
  have hcon := Any.insertionSortCmpFunc_one laysIns (encF l.length) (encF_one _) (cfD l) 44 #[.pointer (some ⟨B, 0, none⟩)] g 0 cap 0 is.length is.toArray w (enters_of Try.func44 (by kernel_rfl) rfl)
    (cmp_reads h hb hg hB hne hc) hH (Nat.zero_le _) (by simp) (by simp; omega)
  change Calls Try.prog 54 _ _ _ at hcon
  refine hcon.mono ?_
  rintro e w' ⟨rfl, m, rfl⟩
  obtain ⟨hp, hs⟩ := insertionSort_holds (lt := ltOf (cfD l)) (swoD l) is.toArray 0 is.length (Nat.zero_le _) (by simp)
  generalize Sort.insertionSort (ltOf (cfD l)) is.toArray 0 is.length = d at *
  obtain ⟨hsz, _, hperm⟩ := hp
  have hsz' : d.size = is.length := by simpa using hsz
  have e1 : (d.extract 0 is.length).toList = d.toList := by rw [← hsz']; simp
  have e2 : (is.toArray.extract 0 is.length).toList = is := by simp
  rw [e1, e2] at hperm
  refine ⟨rfl, d.toList, hperm, ?_, ?_, ?_⟩
  · refine List.pairwise_iff_getElem.2 fun i j hi hj hij => ?_
    have := hs i j (Nat.zero_le _) hij (by simpa [hsz'] using hj)
    rw [lt_not] at this
    rw [getElem!_pos d i (by simpa using hi), getElem!_pos d j (by simpa using hj)] at this
    simp only [Array.getElem_toList]
    omega
  · have := ownsRow_sortedI (w := w) (base := 0) (g := g) (cap := cap) (n := m) (os := #[]) (cur := cur) (ss := is.map fun i => ((i.val : Nat) : Int)) (ts := d.toList.map fun i => ((i.val : Nat) : Int)) (e := 3) (by simp [hsz']) (Nat.zero_le _) hh (by simpa using h1) h2 h3
    rw [show (putRow (encF l.length) w g 0 d).drewN m = sortWorld (encF l.length) w g 0 m d #[] from (sortWorld_none _ _ _ _ _ _).symm, sortWorld_val]
    unfold Owned
    rw [List.length_map] at this ⊢
    have hll : d.toList.length = is.length := by simp [hsz']
    rw [hll]
    have ha : (d.map fun i => ((i.val : Nat) : Int)) = (d.toList.map fun i => ((i.val : Nat) : Int)).toArray := by
      apply Array.ext'
      simp
    rw [ha]
    exact this
  · rw [show (putRow (encF l.length) w g 0 d).drewN m = sortWorld (encF l.length) w g 0 m d #[] from (sortWorld_none _ _ _ _ _ _).symm, sortWorld_val]
    exact Mod.of_grown (grownBy_sortedI _) fun k hk => .inl (by simpa using hk.symm)
end Go.Proofs.Ytpohehialkgigaa
