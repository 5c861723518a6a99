/- PoolStale holds: a link that was given back is live never again, however often its slot is taken anew; the links that are taken at one time are all unlike. No condition. -/
import Derived.Test.YtfjoghbkfkbbdaaQ0
import Derived.Deep.RegionLaw
namespace Go.Proofs.Ytfjoghbkfkbbdaa
open Go.RowKit Go.ChangeShapes

theorem cut_front {k : IntKind} {E : TypeId} {w : World} {a : Option Addr} {n cap : Nat} {l : List Int} (h : Owned k E w (.slice a n cap) l) {q : Nat} (hq : q ≤ l.length) : SrcAt w (.slice a q cap) q 1 ((l.take q).map (Value.int k)) := by
  rcases h.2 with ⟨hv, hn⟩ | ⟨g, cap', cur, hv, hg, hh, hnc, hcm, hcs, htk⟩
  · simp only [Value.slice.injEq] at hv
    obtain ⟨rfl, _, rfl⟩ := hv
    obtain rfl : q = 0 := by omega
    exact .inl ⟨rfl, by simp, none, 0, rfl, fun _ => rfl⟩
  · simp only [Value.slice.injEq] at hv
    obtain ⟨rfl, rfl, rfl⟩ := hv
    refine .inr ⟨g, 0, cap, rfl, by simp; omega, fun j y hj => ?_⟩
    have hjq : j < q ∧ j < l.length := by
      have := (List.getElem?_eq_some_iff.1 hj).1
      simp at this
      omega
    have := Owned.at_ h (i := j) hjq.2
    rw [Nat.zero_add, this, ← hj]
    simp [List.getElem?_take_of_lt hjq.1, List.getD_eq_getElem?_getD, hjq.2]
theorem cut_back {k : IntKind} {E : TypeId} {w : World} {g n cap : Nat} {l : List Int} (h : Owned k E w (.slice (some ⟨g, 0, none⟩) n cap) l) {q : Nat} (hq : q ≤ l.length) (hn : n = l.length) :
    SrcAt w (.slice (if cap = q then some ⟨g, 0, none⟩ else some ⟨g, q, none⟩) (n - q) (cap - q)) (n - q) 1 ((l.drop q).map (Value.int k)) := by
  subst hn
  by_cases hc : cap = q
  · rw [if_pos hc]
    obtain ⟨a', cap', h1, h2, _⟩ := h.form
    simp only [Value.slice.injEq] at h1
    obtain ⟨_, _, rfl⟩ := h1
    have : l.length - q = 0 := by omega
    rw [this]
    refine .inl ⟨rfl, ?_, _, _, rfl, fun h => by cases h⟩
    rw [List.drop_eq_nil_of_le (by omega)]
    rfl
  · rw [if_neg hc]
    refine .inr ⟨g, q, cap - q, rfl, by simp, fun j y hj => ?_⟩
    have hjq : q + j < l.length := by
      have := (List.getElem?_eq_some_iff.1 hj).1
      simp at this
      omega
    rw [Owned.at_ h hjq, ← hj]
    simp [List.getD_eq_getElem?_getD, hjq]

theorem some_of {k : IntKind} {E : TypeId} {w : World} {a : Option Addr} {n cap : Nat} {l : List Int} (h : Owned k E w (.slice a n cap) l) (hl : 0 < l.length) : ∃ g, a = some ⟨g, 0, none⟩ := by
  obtain ⟨a', cap', h1, _, h2, h3⟩ := h.form
  simp only [Value.slice.injEq] at h1
  obtain ⟨rfl, _, rfl⟩ := h1
  cases a with
  | none => have := (h2 rfl).1; omega
  | some g => exact ⟨g.block, by rw [← (h3 g rfl).1]⟩
theorem owns_made {w : World} {g : Nat} {E : TypeId} {size : Nat} (h : w.heap[g]? = some (.cells #[] E (0, 0))) : w.ownsRow 0 E size (.slice (some ⟨g, 0, none⟩) 0 0) 0 [] :=
  ⟨by simp, .inr ⟨g, 0, #[], rfl, Nat.zero_le _, h, Nat.le_refl _, Nat.zero_le _, by simp, by simp⟩⟩
theorem two_appends {w X w5 w6 : World} {E : TypeId} {g0 n5 n6 : Nat} {v5 v6 : Value} {xs5 xs6 : List Value} (hX : Below w.heap.size w X) (hg0 : w.heap.size ≤ g0) (h1 : Appended X w5 0 E 1 (.slice (some ⟨g0, 0, none⟩) 0 0) v5 n5 xs5) (h2 : Appended w5 w6 0 E 1 v5 v6 n6 xs6) :
    Below w.heap.size w w6 ∧ ∀ k, v6.ownBlock = some k → w.heap.size ≤ k := by
  have hXs := hX.size
  have hws := h1.grown.size
  have f5 : ∀ k, v5.ownBlock = some k → w.heap.size ≤ k := by
    intro k hk
    rcases h1.lies with e | e
    · rw [e] at hk
      have : g0 = k := Option.some.inj hk
      omega
    · rw [e] at hk
      have : X.heap.size = k := Option.some.inj hk
      omega
  have f6 : ∀ k, v6.ownBlock = some k → w.heap.size ≤ k := by
    intro k hk
    rcases h2.lies with e | e
    · exact f5 k (e ▸ hk)
    · rw [e] at hk
      have : w5.heap.size = k := Option.some.inj hk
      omega
  refine ⟨?_, f6⟩
  have m1 : Mod (fun k => w.heap.size ≤ k) X w5 := h1.mod (fun k hk => by have : g0 = k := Option.some.inj hk; omega)
  have m2 : Mod (fun k => w.heap.size ≤ k) w5 w6 := h2.mod (fun k hk => f5 k hk)
  exact hX.trans ((m1.trans m2).below (fun k hk => hk) hXs)
structure SI (n : Nat) (k : Int) (p : PS) (live gone : List Int) : Prop where
  ok : p.ok
  ini : p.init = true
  len : p.sl.length = n
  most : p.most = 65535
  worn : p.worn = 0
  tags : ∀ x ∈ p.sl, x.tag ≤ k
  cl : live.length = cnt p.sl
  lv : ∀ a ∈ live, p.live a = true
  nd : live.Nodup
  gn : ∀ g ∈ gone, ∃ (i : Nat) (t : Int), i < n ∧ 0 ≤ t ∧ g = t * 131072 + i + 1 ∧ t < (p.sl.getD i slot0).tag
section
variable {n : Nat} {k : Int} {p : PS} {live gone : List Int}
theorem SI.new (h0 : 1 ≤ n) (h1 : n ≤ 4096) : SI n 0 (PS.new n 65535).listed [] [] where
  ok := listed_ok (new_ok h0 h1 (by decide) (by decide))
  ini := listed_init _
  len := by simp [PS.listed, PS.new]
  most := by simp [PS.listed, PS.new]
  worn := by simp [PS.listed, PS.new]
  tags := by
    intro x hx
    have := List.eq_of_mem_replicate (show x ∈ List.replicate n slot0 from hx)
    subst this
    exact Int.le_refl _
  cl := by
    have : cnt (List.replicate n slot0) = 0 := by simp [cnt, slot0, List.countP_replicate]
    exact this.symm
  lv := fun a h => by simp at h
  nd := List.nodup_nil
  gn := fun a h => by simp at h
theorem SI.free (h : SI n k p live gone) : p.free.length + live.length = n := by
  have := h.ok.all h.ini
  rw [h.worn, h.len, ← h.cl] at this
  omega
theorem SI.mono (h : SI n k p live gone) {k' : Int} (hk : k ≤ k') : SI n k' p live gone := ⟨h.ok, h.ini, h.len, h.most, h.worn, fun x hx => by have := h.tags x hx; omega, h.cl, h.lv, h.nd, h.gn⟩
theorem SI.slot (h : SI n k p live gone) {a : Int} (ha : a ∈ live) : ∃ i : Nat, i < n ∧ a % 131072 = i + 1 ∧ (p.sl.getD i slot0).taken = true ∧ p.link i = a := by
  obtain ⟨i, h1, h2, h3, h4⟩ := live_yes (h.lv a ha)
  exact ⟨i, h.len ▸ h1, h2, h3, h4⟩
theorem SI.range (h : SI n k p live gone) {a : Int} (ha : a ∈ live) : 1 ≤ a ∧ a ≤ 8589934591 := by
  obtain ⟨i, h1, _, _, rfl⟩ := h.slot ha
  have := link_range h.ok (i := i) (by rw [h.len]; exact h1)
  omega
theorem SI.gone_range (h : SI n k p live gone) (hk : k ≤ 100) (hn : n ≤ 4096) {a : Int} (ha : a ∈ gone) : 1 ≤ a ∧ a ≤ 8589934591 := by
  obtain ⟨i, t, h1, h2, rfl, h3⟩ := h.gn a ha
  have h4 : (p.sl.getD i slot0).tag ≤ k := h.tags _ (by simp [List.getD_eq_getElem?_getD, h.len, h1])
  omega
theorem SI.gone_stale (h : SI n k p live gone) (hn : n ≤ 4096) {a : Int} (ha : a ∈ gone) : p.live a = false := by
  obtain ⟨i, t, h1, h2, rfl, h3⟩ := h.gn a ha
  have h5 : (p.sl.getD i slot0).tag ≤ p.most := (h.ok.tag (by rw [h.len]; exact h1)).2
  rw [live_in (i := i) (by omega) (by rw [h.len]; exact h1)]
  have : ¬ p.link i = t * 131072 + i + 1 := by
    unfold PS.link
    omega
  simp [this]
theorem SI.take (h : SI n k p live gone) {l : List Int} {i : Nat} (hl : p.free = l ++ [(i : Int)]) :
    (∀ x ∈ live, ¬ x = p.link i) ∧ (∀ x ∈ gone, ¬ x = p.link i) ∧ SI n k (p.take l i) (live ++ [p.link i]) gone := by
  have hf := h.ok.free i (by rw [hl]; simp)
  have hi : i < p.sl.length := by have := hf.2.1; omega
  have ht : (p.sl.getD i slot0).taken = false := by simpa using hf.2.2
  have hlk : ∀ j, (p.take l i).link j = p.link j := fun j => link_take hi
  have h1 : ∀ x ∈ live, ¬ x = p.link i := by
    intro x hx e
    obtain ⟨j, hj, h2, h3, _⟩ := h.slot hx
    have := (link_range h.ok hi).2.2.1
    have : j = i := by rw [e, this] at h2; omega
    subst this
    rw [ht] at h3
    cases h3
  have h2 : ∀ x ∈ gone, ¬ x = p.link i := by
    intro x hx e
    obtain ⟨j, t, hj, ht0, rfl, ht1⟩ := h.gn x hx
    have h3 := link_range h.ok hi
    have h4 := h.ok.n2
    rw [h.len] at h4
    have h5 : j = i := by rw [← e] at h3; omega
    subst h5
    unfold PS.link at e
    omega
  refine ⟨h1, h2, ⟨take_ok h.ok h.ini hl, h.ini, by simpa [PS.take] using h.len, h.most, h.worn, ?_, ?_, ?_, ?_, ?_⟩⟩
  · intro x hx
    rcases List.mem_or_eq_of_mem_set (show x ∈ p.sl.set i _ from hx) with hx | rfl
    · exact h.tags x hx
    · exact h.tags (p.sl.getD i slot0) (by simp [List.getD_eq_getElem?_getD, hi])
  · have := (take_ok h.ok h.ini hl).all h.ini
    have h3 := h.ok.all h.ini
    have h4 := h.cl
    rw [hl] at h3
    simp [PS.take] at this h3 ⊢
    omega
  · intro a ha
    rcases List.mem_append.1 ha with ha | ha
    · obtain ⟨j, hj, h3, h4, h5⟩ := h.slot ha
      have hne : ¬ i = j := by
        intro e
        subst e
        rw [ht] at h4
        cases h4
      rw [live_in (i := j) h3 (by simp [PS.take]; rw [h.len]; exact hj), hlk, h5]
      simp only [PS.take, List.getD_eq_getElem?_getD, List.getElem?_set_ne hne]
      simp only [List.getD_eq_getElem?_getD] at h4
      simp [h4]
    · simp at ha
      subst ha
      have h3 := (link_range h.ok hi).2.2.1
      rw [live_in (i := i) h3 (by simpa [PS.take] using hi), hlk]
      simp [PS.take, List.getD_eq_getElem?_getD, hi]
  · rw [List.nodup_append]
    refine ⟨h.nd, by simp, ?_⟩
    intro a ha b hb e
    simp at hb
    exact h1 a ha (by rw [e, hb])
  · intro g hg
    obtain ⟨j, t, hj, ht0, hge, ht1⟩ := h.gn g hg
    refine ⟨j, t, hj, ht0, hge, ?_⟩
    by_cases e : i = j
    · subst e
      simp only [PS.take, List.getD_eq_getElem?_getD] at ht1 ⊢
      simpa [hi] using ht1
    · simpa [PS.take, List.getD_eq_getElem?_getD, List.getElem?_set_ne e] using ht1
theorem SI.give (h : SI n k p live gone) (hk : k ≤ 100) {q : Nat} (hq : q < live.length) {i : Nat} (hi : i < n) (ht : (p.sl.getD i slot0).taken = true) (hlk : p.link i = live.getD q 0) :
    SI n (k + 1) (p.give i) (live.take q ++ live.drop (q + 1)) (gone ++ [live.getD q 0]) := by
  have hil : i < p.sl.length := by rw [h.len]; exact hi
  have hmem : live.getD q 0 ∈ live := by simp [List.getD_eq_getElem?_getD, hq]
  have htag : (p.sl.getD i slot0).tag ≤ k := h.tags _ (by simp [List.getD_eq_getElem?_getD, hil])
  have htag0 := (h.ok.tag hil).1
  have hg : p.give i = { p with sl := p.sl.set i ⟨(p.sl.getD i slot0).tag + 1, false⟩, free := p.free ++ [(i : Int)] } := by
    unfold PS.give
    rw [if_neg (by rw [h.most]; omega)]
  have hok := give_ok h.ok hil ht
  have hmem2 : ∀ a ∈ live.take q ++ live.drop (q + 1), a ∈ live ∧ ¬ a = live.getD q 0 := by
    intro a ha
    have hsub : a ∈ live := by
      rcases List.mem_append.1 ha with h1 | h1
      · exact List.mem_of_mem_take h1
      · exact List.mem_of_mem_drop h1
    refine ⟨hsub, fun e => ?_⟩
    have hnd := h.nd
    have hsp : live = live.take q ++ live.getD q 0 :: live.drop (q + 1) := by
      have : live.drop q = live.getD q 0 :: live.drop (q + 1) := by
        rw [List.drop_eq_getElem_cons hq]
        simp [List.getD_eq_getElem?_getD, hq]
      rw [← this, List.take_append_drop]
    rw [hsp] at hnd
    rw [List.nodup_append] at hnd
    obtain ⟨n1, n2, n3⟩ := hnd
    rw [List.nodup_cons] at n2
    rcases List.mem_append.1 ha with h1 | h1
    · exact n3 a h1 _ (by simp) e
    · rw [e] at h1
      exact n2.1 h1
  refine ⟨hok, ?_, ?_, ?_, ?_, ?_, ?_, ?_, ?_, ?_⟩
  · rw [hg]; exact h.ini
  · rw [hg]; simpa using h.len
  · rw [hg]; exact h.most
  · rw [hg]; exact h.worn
  · rw [hg]
    intro x hx
    rcases List.mem_or_eq_of_mem_set (show x ∈ p.sl.set i _ from hx) with hx | rfl
    · have := h.tags x hx
      omega
    · show (p.sl.getD i slot0).tag + 1 ≤ k + 1
      omega
  · have h1 := h.ok.all h.ini
    have h2 := hok.all (by rw [hg]; exact h.ini)
    have h3 := h.cl
    rw [hg] at h2
    rw [hg]
    simp at h1 h2 ⊢
    omega
  · intro a ha
    obtain ⟨h1, h2⟩ := hmem2 a ha
    obtain ⟨j, hj, h3, h4, h5⟩ := h.slot h1
    have hne : ¬ i = j := by
      intro e
      subst e
      exact h2 (h5.symm.trans hlk)
    rw [hg, live_in (i := j) h3 (by simp; rw [h.len]; exact hj)]
    have e1 : ((p.sl.set i ⟨(p.sl.getD i slot0).tag + 1, false⟩).getD j slot0) = p.sl.getD j slot0 := by
      simp only [List.getD_eq_getElem?_getD, List.getElem?_set_ne hne]
    simp only [PS.link, e1]
    simp only [PS.link] at h5
    rw [h4, h5]
    simp
  · exact List.Nodup.sublist (by
      have : live.take q ++ live.drop (q + 1) = live.eraseIdx q := (List.eraseIdx_eq_take_drop_succ live q).symm
      rw [this]
      exact List.eraseIdx_sublist live q) h.nd
  · intro g hgm
    rw [hg]
    rcases List.mem_append.1 hgm with hgm | hgm
    · obtain ⟨j, t, hj, ht0, hge, ht1⟩ := h.gn g hgm
      refine ⟨j, t, hj, ht0, hge, ?_⟩
      by_cases e : i = j
      · subst e
        simp only [List.getD_eq_getElem?_getD] at ht1 ⊢
        simp [hil] at ht1 ⊢
        omega
      · simpa [List.getD_eq_getElem?_getD, List.getElem?_set_ne e] using ht1
    · simp at hgm
      subst hgm
      refine ⟨i, (p.sl.getD i slot0).tag, hi, htag0, ?_, ?_⟩
      · have := hlk.symm
        rw [List.getD_eq_getElem?_getD] at this
        simpa [PS.link] using this
      · simp [List.getD_eq_getElem?_getD, hil]
        omega
end

set_option maxRecDepth 100000 in
set_option maxHeartbeats 6400000 in
theorem poolStale_walk {a0 : Int} {a1 : Option Addr} {len1 cap1 : Nat} {l1 : List Int} {w : World} (_w0 : (Lit.int .i64 a0).wf = true) (n1 : l1.length = len1) (r1 : RowAt .i64 w (.slice a1 len1 cap1) l1) (_w1 : ∀ x ∈ l1, (Lit.int .i64 x).wf = true) :
    Calls Try.prog 7 #[.int .i64 a0, .slice a1 len1 cap1] w fun e w' => e = .returned (.bool true) ∧ Below w.heap.size w w' := by
  have m0 := i64_and255 a0
  obtain ⟨x, hx, hx2⟩ : ∃ x : Nat, a0 % 256 = x ∧ x < 256 := ⟨(a0 % 256).toNat, by omega, by omega⟩
  rw [hx] at m0
  have H1 := Lib.hid r1
  have N1 := Lib.hid n1
  clear hx _w0 _w1 r1 n1
  have HN := Lib.hid (fun n w h0 h => pool_new n 65535 w h0 h (by decide) (by decide))
  go_enter Try.func7, Try.ntmps7
  go_wp2_with fail
  obtain ⟨n, hn, n1, n2⟩ : ∃ n : Nat, ((n : Int) = (x : Int) % 12 + 1) ∧ 1 ≤ n ∧ n ≤ 12 := ⟨x % 12 + 1, by omega, by omega, by omega⟩
  rw [← hn]
  refine (HN.out n w n1 (by omega)).mono ?_
  rintro e w1 ⟨b, F1, rfl, p1, B1, f1⟩
  have S1 : Hid (Sep w w1 [obRow .u64 39 (.slice none 0 0) [], obRow .u64 39 (.slice none 0 0) [], obPool b F1 (PS.new n 65535)]) := Lib.hid ((((Sep.nil w).new (A := obPool b F1 (PS.new n 65535)) B1 p1 f1).row_nil _ _).row_nil _ _)
  have I1 := Lib.hid (SI.new n1 (show n ≤ 4096 by omega))
  clear p1 B1 f1 HN hn m0
  go_wp2_with fail
  go_loopw [7, 8, 9] (fun lv gv i wr => ∃ (k : Nat) (F : Nat → Prop) (s : PS) (live gone : List Int), k ≤ 80 ∧ k ≤ len1 ∧ i = .int .i64 k ∧ SI n k s.listed live gone ∧ gone.length ≤ k ∧ Sep w wr [obRow .u64 39 lv live, obRow .u64 39 gv gone, obPool b F s]) (fun _ _ i _ => 80 - (intOf i).toNat)
  case atStart => exact ⟨0, F1, _, [], [], by omega, by omega, rfl, I1.out, Nat.le_refl _, S1.out⟩
  case round =>
    obtain ⟨k, F, s, live, gone, hk, hk2, rfl, hI, hg, hS⟩ := hrel
    have HS := Lib.hid hS
    have HI := Lib.hid hI
    have hfr := hI.free
    clear hS hI S1 I1
    obtain ⟨ra, rc, hrf⟩ : ∃ a cap, u7 = .slice a live.length cap := by
      obtain ⟨a, cap, h, _⟩ := Owned.form (HS.out.head : Owned .u64 _ _ u7 live)
      exact ⟨a, cap, h⟩
    obtain ⟨ga, gc, hgf⟩ : ∃ a cap, u8 = .slice a gone.length cap := by
      obtain ⟨a, cap, h, _⟩ := Owned.form (HS.out.second : Owned .u64 _ _ u8 gone)
      exact ⟨a, cap, h⟩
    subst hrf hgf
    by_cases hlt : k < len1 ∧ k < 80
    · obtain ⟨hlt1, hlt8⟩ := hlt
      rcases H1.out with ⟨h0, _⟩ | ⟨b', off, cap, hv, _, _, hbl, hc⟩
      · have := N1.out; rw [h0] at this; simp at this; omega
      have c1 := (HS.out.bel.cell (p := ⟨b', off + k, none⟩) hbl).trans (hc k (N1.out.symm ▸ hlt1))
      simp only [Value.slice.injEq] at hv
      obtain ⟨rfl, hnl, rfl⟩ := hv
      clear hnl hc
      generalize l1.getD k 0 = y at *
      have my := i64_and1 y
      rcases Int.emod_two_eq y with hy | hy
      · rw [hy] at my
        clear hy
        rcases List.eq_nil_or_concat s.listed.free with hf | ⟨l, z, hf⟩
        · have hfull : live.length = n := by rw [hf] at hfr; simpa using hfr
          have HT := Lib.hid (take_full b F s wr HS.out.third hf)
          clear hf hfr
          go_wp2_with fail
          refine HT.out.mono ?_
          rintro e w2 ⟨rfl, hl⟩
          obtain ⟨F2, hS2⟩ := HS.out.bring3.pool hl
          have S2 := Lib.hid hS2.back3
          clear hl hS2 HS HT
          have hd : decide (live.length < n) = false := by simp; omega
          clear hfull
          go_wp2_with fail
          go_roundw
          case rel => exact ⟨k + 1, F2, s.listed, live, gone, by omega, by omega, by go_num, by rw [listed_listed]; exact HI.out.mono (by omega), by omega, S2.out⟩
          case measure => simp [intOf]; omega
        · obtain ⟨i, rfl⟩ : ∃ i : Nat, z = i := by
            have := (HI.out.ok.free z (by rw [hf]; simp)).1
            exact ⟨z.toNat, by omega⟩
          simp only [List.concat_eq_append] at hf
          have HT := Lib.hid (take_some b F s l i wr HS.out.third hf)
          have HK := Lib.hid (HI.out.take hf)
          have hll : live.length < n := by rw [hf] at hfr; simp at hfr; omega
          clear hf hfr
          go_wp2_with fail
          refine HT.out.mono ?_
          generalize s.listed.link i = z at *
          rintro e w2 ⟨rfl, hl⟩
          obtain ⟨F2, hS2⟩ := HS.out.bring3.pool hl
          have S2 := Lib.hid hS2.back3
          clear hl hS2 HS HT
          have hd : decide (live.length < n) = true := by simp; omega
          have hz := HK.out.2.2.range (a := z) (by simp)
          have hzz : (z == 0) = false := by simp; omega
          clear hz hzz
          go_wp2_with fail
          go_loop [12] (fun j => ∃ jj : Nat, jj ≤ live.length ∧ j = .int .i64 jj) (fun j => live.length - (intOf j).toNat)
          case atStart => exact ⟨0, Nat.zero_le _, rfl⟩
          case round =>
            obtain ⟨jj, hjj, rfl⟩ := hrel
            by_cases hjk : jj < live.length
            · obtain ⟨g, rfl⟩ : ∃ g, ra = some ⟨g, 0, none⟩ := some_of (S2.out.head : Owned .u64 _ _ _ live) (by omega)
              have cj := Owned.at_ (S2.out.head : Owned .u64 _ _ _ live) hjk
              have hne : (live.getD jj 0 == z) = false := by
                have := HK.out.1 (live.getD jj 0) (by simp [List.getD_eq_getElem?_getD, hjk])
                simpa using this
              generalize live.getD jj 0 = q at *
              go_wp2_with fail
              go_round
              case rel => exact ⟨jj + 1, by omega, by go_num⟩
              case measure => simp [intOf]; omega
            · obtain rfl : jj = live.length := by omega
              go_wp2_with fail
              go_loop [13] (fun j => ∃ jj : Nat, jj ≤ gone.length ∧ j = .int .i64 jj) (fun j => gone.length - (intOf j).toNat)
              case atStart => exact ⟨0, Nat.zero_le _, rfl⟩
              case round =>
                obtain ⟨jj, hjj, rfl⟩ := hrel
                by_cases hjk : jj < gone.length
                · obtain ⟨g, rfl⟩ : ∃ g, ga = some ⟨g, 0, none⟩ := some_of (S2.out.second : Owned .u64 _ _ _ gone) (by omega)
                  have cj := Owned.at_ (S2.out.second : Owned .u64 _ _ _ gone) hjk
                  have hne : (gone.getD jj 0 == z) = false := by
                    have := HK.out.2.1 (gone.getD jj 0) (by simp [List.getD_eq_getElem?_getD, hjk])
                    simpa using this
                  generalize gone.getD jj 0 = q at *
                  go_wp2_with fail
                  go_round
                  case rel => exact ⟨jj + 1, by omega, by go_num⟩
                  case measure => simp [intOf]; omega
                · go_wp2_with (at_builtin; refine walk_append (zero := .int .u64 0) (base := 0) (n := live.length) (m := 1) (xs := live.map (Value.int .u64)) (ys := [.int .u64 z]) rfl _ _ rfl Try.underlying48 info_u64 rfl Nat.zero_lt_one (Nat.le_of_ble_eq_true rfl) rfl ?c1 rfl ?c2 (ints_one .u64 [_]) ?c3 (Nat.zero_le _) ?_)
                  case c1 => exact World.ownsRow.alloc S2.out.head _
                  case c2 => exact SrcAt.one (blk_at (by simp))
                  case c3 => omega
                  intro v' w4 hA
                  have S4 := Lib.hid (S2.out.append (ys := [z]) ((Mod.refl _ _).alloc _) hA rfl rfl)
                  clear hA S2
                  go_wp2_with fail
                  go_roundw
                  case rel => exact ⟨k + 1, F2, s.listed.take l i, live ++ [z], gone, by omega, by omega, by go_num, by rw [listed_yes (show (s.listed.take l i).init = true from listed_init s)]; exact HK.out.2.2.mono (by omega), by omega, S4.out⟩
                  case measure => simp [intOf]; omega
      · rw [hy] at my
        clear hy
        by_cases hL0 : live.length = 0
        · have he : live = [] := List.length_eq_zero_iff.1 hL0
          subst he
          go_wp2_with fail
          go_roundw
          case rel => exact ⟨k + 1, F, s, [], gone, by omega, by omega, by go_num, HI.out.mono (by omega), by omega, HS.out⟩
          case measure => simp [intOf]; omega
        · obtain ⟨g, rfl⟩ : ∃ g, ra = some ⟨g, 0, none⟩ := some_of (HS.out.head : Owned .u64 _ _ _ live) (by omega)
          obtain ⟨L, hL⟩ : ∃ L, live.length = L := ⟨_, rfl⟩
          rw [hL] at hfr HS hL0 ⊢
          have HLL := Lib.hid hL
          clear hL
          have hLL : (L == 0) = false := by simpa using hL0
          have hLi : ((L : Int) == 0) = false := by simp; omega
          have hL1 : (0 : Int) < L := by omega
          have mz := i64_and255 (y / 2)
          obtain ⟨q, hq, hqL⟩ : ∃ q : Nat, y / 2 % 256 % (L : Int) = q ∧ q < L := ⟨(y / 2 % 256 % (L : Int)).toNat, by have := Int.emod_nonneg (y / 2 % 256) (show (L : Int) ≠ 0 by omega); omega, by have := Int.emod_lt_of_pos (y / 2 % 256) hL1; have := Int.emod_nonneg (y / 2 % 256) (show (L : Int) ≠ 0 by omega); omega⟩
          have cq := Owned.at_ (HS.out.head : Owned .u64 _ _ _ live) (i := q) (by rw [HLL.out]; exact hqL)
          have hqm : live.getD q 0 ∈ live := by simp [List.getD_eq_getElem?_getD, HLL.out, hqL]
          have hqr := HI.out.range hqm
          obtain ⟨i, hi, hi1, hi2, hi3⟩ := HI.out.slot hqm
          have HG := Lib.hid (HI.out.give (by omega) (by rw [HLL.out]; exact hqL) hi hi2 hi3)
          have HGV := Lib.hid (pool_give b F s (live.getD q 0) wr HS.out.third (by omega) (by omega))
          have hini : s.init = true := by
            cases hin : s.init
            · have e : s.listed.sl = s.sl := by unfold PS.listed; rw [hin]; rfl
              have h1 := (PoolAt.good (HS.out.third : PoolAt wr b F s)).fresh hin
              have h2 := cnt_zero h1.2.2 (i := i) (by rw [← e, HI.out.len]; exact hi)
              rw [e, h2] at hi2
              cases hi2
            · rfl
          have HLI := Lib.hid (listed_yes hini)
          have HLV := Lib.hid (HI.out.lv _ hqm)
          have HII := Lib.hid (show (live.getD q 0 % 131072 - 1).toNat = i by omega)
          have HQ := Lib.hid (rfl : live.getD q 0 = live.getD q 0)
          clear hqm hi hi1 hi2 hi3 hini
          generalize hz : live.getD q 0 = z at *
          have HZ := Lib.hid hz
          clear hz HQ
          go_wp2_with fail
          refine HGV.out.mono ?_
          rw [HII.out]
          rintro e w2 (⟨h, _⟩ | ⟨_, rfl, hl⟩)
          · rw [← HLI.out, HLV.out] at h
            cases h
          obtain ⟨F2, hS2⟩ := HS.out.bring3.pool hl
          have S2 := Lib.hid hS2.back3
          clear hl hS2 HGV cq
          have cq2 := Owned.at_ (S2.out.head : Owned .u64 _ _ _ live) (i := q) (by rw [HLL.out]; exact hqL)
          rw [HZ.out] at cq2
          go_wp2_with (at_builtin; refine walk_append (zero := .int .u64 0) (base := 0) (n := gone.length) (m := 1) (xs := gone.map (Value.int .u64)) (ys := [.int .u64 z]) rfl _ _ rfl Try.underlying48 info_u64 rfl Nat.zero_lt_one (Nat.le_of_ble_eq_true rfl) rfl ?c1 rfl ?c2 (ints_one .u64 [_]) ?c3 (Nat.zero_le _) ?_)
          case c1 => exact World.ownsRow.alloc S2.out.second _
          case c2 => exact SrcAt.one (blk_at (by simp))
          case c3 => omega
          intro v' w4 hA
          obtain ⟨a4, c4, rfl⟩ := hA.val
          have S4 := Lib.hid ((S2.out.swap.append (ys := [z]) ((Mod.refl _ _).alloc _) hA rfl rfl).swap)
          clear hA S2 cq2
          have hrc : L ≤ rc := by
            obtain ⟨a', cap', h1, h2, _⟩ := Owned.form (S4.out.head : Owned .u64 _ _ _ live)
            simp only [Value.slice.injEq] at h1
            obtain ⟨_, _, rfl⟩ := h1
            rw [← HLL.out]
            exact h2
          have q0 : (0 : Int) ≤ (q : Int) := by omega
          have q1 : (q : Int) + 1 ≤ L := by omega
          have q2 : (q : Int) ≤ rc := by omega
          have q3 : (q : Int) + 1 ≤ rc := by omega
          have hgl : g < w4.heap.size := (S4.out.head : Owned .u64 _ _ _ live).lt g rfl
          have hkeep := Lib.hid (fun W (hW : Mod (fun k => w4.heap.size ≤ k) w4 W) => (show Owned .u64 39 W (.slice (some ⟨g, 0, none⟩) L rc) live from (S4.out.head : Owned .u64 _ _ _ live).mod hW (fun k hk => by have : g = k := Option.some.inj hk; omega)))
          have x3 : IntKind.i64.wrap ((q : Int) + 1) = (q : Int) + 1 := IntWalk.i64_in _ (by omega)
          have x4 : ((q : Int) + 1).toNat = q + 1 := by omega
          have x5 : (0 : Int) ≤ (q : Int) + 1 := by omega
          go_wp2_with fail
          go_region_law (first | (refine step_append (zero := .int .u64 0) (base := 0) (n := 0) (xs := []) (m := q) (ys := (live.take q).map (Value.int .u64)) rfl (.tmp 116) (.tmp 119) rfl Try.underlying48 info_u64 rfl Nat.zero_lt_one (Nat.le_of_ble_eq_true rfl) rfl ?_ rfl ?_ (ints_one _ _) ?_ (Nat.zero_le _) ?_; (first | exact owns_made (blk_new _ _) | exact owns_made (blk_drew (blk_new _ _)) | exact owns_made (blk_at rfl)); exact cut_front (hkeep.out _ (by first | exact ((Mod.refl _ _).alloc _).drew | exact (Mod.refl _ _).drew.alloc _)) (by rw [HLL.out]; omega); omega; intro v5 w5 h5) | (refine step_append (zero := .int .u64 0) (base := 0) (n := 0 + q) (xs := [] ++ (live.take q).map (Value.int .u64)) (m := L - (q + 1)) (ys := (live.drop (q + 1)).map (Value.int .u64)) rfl (.tmp 120) (.tmp 124) rfl Try.underlying48 info_u64 rfl Nat.zero_lt_one (Nat.le_of_ble_eq_true rfl) rfl h5.own rfl ?_ (ints_one _ _) ?_ (Nat.zero_le _) ?_; exact cut_back (hkeep.out _ (by first | exact (((Mod.refl _ _).alloc _).drew).trans (h5.mod (fun k hk => by have hk2 : w4.heap.size = k := Option.some.inj hk; omega)) | exact ((Mod.refl _ _).drew.alloc _).trans (h5.mod (fun k hk => by have hk2 : w4.heap.size = k := Option.some.inj hk; omega)))) (by rw [HLL.out]; omega) HLL.out.symm; omega; intro v6 w6 h6))
          all_goals
            have hb := two_appends (g0 := w4.heap.size) (by first | exact Below.drew ((Below.refl _ _).alloc (Nat.le_refl _) _) | exact (Below.drew (Below.refl _ _)).alloc (Nat.le_refl _) _) (Nat.le_refl _) h5 h6
            have hO : Owned .u64 39 w6 v6 (live.take q ++ live.drop (q + 1)) := by
              have h := h6.own
              have e1 : 0 + q + (L - (q + 1)) = (live.take q ++ live.drop (q + 1)).length := by
                have := HLL.out
                clear x3 x4 x5
                simp [this]
                omega
              rw [e1, List.nil_append, ← List.map_append] at h
              exact h
            have S6 := Lib.hid ((S4.out.tail.new (A := obRow .u64 39 v6 (live.take q ++ live.drop (q + 1))) hb.1 hO hb.2))
            clear x3 x4 x5 hb hO h5 h6 S4
            go_wp2_with fail
            go_roundw
            case rel =>
              refine ⟨k + 1, F2, s.give i, live.take q ++ live.drop (q + 1), gone ++ [z], by omega, by omega, by go_num, ?_, by simp; omega, S6.out⟩
              have h := HG.out
              rw [HLI.out] at h
              rw [listed_yes h.ini]
              exact h.mono (by omega)
            case measure => simp [intOf]; omega
    · have hd : decide (k < len1) = false ∨ (decide (k < len1) = true ∧ decide ((k : Int) < 80) = false) := by simp; omega
      clear hlt hfr
      have HP := Lib.hid (PoolAt.good (HS.out.third : PoolAt wr b F s))
      have HGS := Lib.hid (fun (x : Int) (hx : x ∈ gone) => And.intro (HI.out.gone_range (by omega) (by omega) hx) (HI.out.gone_stale (by omega) hx))
      have HLS := Lib.hid (fun (x : Int) (hx : x ∈ live) => And.intro (HI.out.range hx) (HI.out.lv x hx))
      have hlive : ∀ x, s.listed.live x = s.live x := fun x => by
        unfold PS.live PS.link PS.listed
        cases s.init <;> rfl
      have HLI := Lib.hid hlive
      have HCU := Lib.hid (show cnt s.sl = live.length from by
        have e : s.listed.sl = s.sl := by unfold PS.listed; cases s.init <;> rfl
        rw [← e, HI.out.cl])
      have HFR := Lib.hid HI.out.free
      have hlb : live.length ≤ 12 := by have := HFR.out; omega
      clear hlive
      rcases hd with hd | ⟨hd, hd2⟩
      all_goals
        go_wp2_with fail
        go_loop [15] (fun j => ∃ jj : Nat, jj ≤ gone.length ∧ j = .int .i64 jj) (fun j => gone.length - (intOf j).toNat)
        case atStart => exact ⟨0, Nat.zero_le _, rfl⟩
        case round =>
          obtain ⟨jj, hjj, rfl⟩ := hrel
          by_cases hjk : jj < gone.length
          · obtain ⟨g, rfl⟩ : ∃ g, ga = some ⟨g, 0, none⟩ := some_of (HS.out.second : Owned .u64 _ _ _ gone) (by omega)
            have cj := Owned.at_ (HS.out.second : Owned .u64 _ _ _ gone) hjk
            obtain ⟨⟨r0, r1⟩, hst⟩ := HGS.out (gone.getD jj 0) (by simp [List.getD_eq_getElem?_getD, hjk])
            rw [HLI.out] at hst
            generalize gone.getD jj 0 = q at *
            have HST := Lib.hid hst
            clear hst
            go_wp2_with fail
            refine (pool_live b F s q wr HS.out.third (by omega) (by omega)).mono ?_
            rw [HST.out]
            rintro e w2 ⟨rfl, rfl⟩
            go_wp2_with fail
            refine (give_stale b F s q wr HS.out.third (by omega) (by omega) HST.out).mono ?_
            rintro e w2 ⟨rfl, rfl⟩
            go_wp2_with fail
            go_round
            case rel => exact ⟨jj + 1, by omega, by go_num⟩
            case measure => simp [intOf]; omega
          · go_wp2_with fail
            go_loop [16] (fun j => ∃ jj : Nat, jj ≤ live.length ∧ j = .int .i64 jj) (fun j => live.length - (intOf j).toNat)
            case atStart => exact ⟨0, Nat.zero_le _, rfl⟩
            case round =>
              obtain ⟨jj, hjj, rfl⟩ := hrel
              by_cases hjk : jj < live.length
              · obtain ⟨g, rfl⟩ : ∃ g, ra = some ⟨g, 0, none⟩ := some_of (HS.out.head : Owned .u64 _ _ _ live) (by omega)
                have cj := Owned.at_ (HS.out.head : Owned .u64 _ _ _ live) hjk
                obtain ⟨⟨r0, r1⟩, hst⟩ := HLS.out (live.getD jj 0) (by simp [List.getD_eq_getElem?_getD, hjk])
                rw [HLI.out] at hst
                generalize live.getD jj 0 = q at *
                have HST := Lib.hid hst
                clear hst
                go_wp2_with fail
                refine (pool_live b F s q wr HS.out.third (by omega) (by omega)).mono ?_
                rw [HST.out]
                rintro e w2 ⟨rfl, rfl⟩
                go_wp2_with fail
                go_round
                case rel => exact ⟨jj + 1, by omega, by go_num⟩
                case measure => simp [intOf]; omega
              · obtain rfl : jj = live.length := by omega
                go_wp2_with fail
                refine (pool_used b F s wr HS.out.third).mono ?_
                rw [HCU.out]
                rintro e w2 ⟨rfl, hl⟩
                obtain ⟨F2, hS2⟩ := HS.out.bring3.pool hl
                have S2 := Lib.hid hS2
                clear hl hS2
                go_wp2_with fail
                have hfe : (s.listed.listed.free.length : Int) = (n : Int) - live.length := by
                  rw [listed_listed]
                  have := HFR.out
                  omega
                have HFE := Lib.hid hfe
                have hwr : IntKind.i64.wrap ((n : Int) - live.length) = (n : Int) - live.length := IntWalk.i64_in _ (by have := HFR.out; omega)
                have hle : (live.length : Int) ≤ n := by have := HFR.out; omega
                clear hfe
                refine (pool_free b F2 _ w2 S2.out.head).mono ?_
                rw [HFE.out]
                rintro e w3 ⟨rfl, hl⟩
                obtain ⟨F3, hS3⟩ := S2.out.pool hl
                have B3 := hS3.bel
                clear hl hS3 S2
                go_wp2_with fail
                refine (awake3_any w3).mono ?_
                rintro e w7 ⟨rfl, b7⟩
                go_wp2_with fail
                go_ret
                exact ⟨rfl, bl_next B3 b7⟩

end Go.Proofs.Ytfjoghbkfkbbdaa
