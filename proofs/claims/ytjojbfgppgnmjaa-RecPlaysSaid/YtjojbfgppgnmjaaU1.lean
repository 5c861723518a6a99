/- The document's pool: Take. -/
import Derived.Test.YtjojbfgppgnmjaaU0
namespace Go.Proofs.Ytjojbfgppgnmjaa.Ref
open Go.RowKit Go.Proofs.Ytjojbfgppgnmjaa

theorem cut_front {k : IntKind} {E : TypeId} {w : World} {a : Option Addr} {n cap : Nat} {l : List Int} (h : Owned k E w (.slice a n cap) l) {q : Nat} (hq : q ≤ l.length) : SrcAt w (.slice a q cap) q 1 ((l.take q).map (Value.int k)) := by
  rcases h.2 with ⟨hv, hn⟩ | ⟨g, cap', cur, hv, hg, hh, hnc, hcm, hcs, htk⟩
  · simp only [Value.slice.injEq] at hv
    obtain ⟨rfl, _, rfl⟩ := hv
    obtain rfl : q = 0 := by omega
    exact .inl ⟨rfl, by simp, none, 0, rfl, fun _ => rfl⟩
  · simp only [Value.slice.injEq] at hv
    obtain ⟨rfl, rfl, rfl⟩ := hv
    refine .inr ⟨g, 0, cap, rfl, by simp; omega, fun j y hj => ?_⟩
    have hjq : j < q ∧ j < l.length := by
      have := (List.getElem?_eq_some_iff.1 hj).1
      simp at this
      omega
    have := Owned.at_ h (i := j) hjq.2
    rw [Nat.zero_add, this, ← hj]
    simp [List.getElem?_take_of_lt hjq.1, List.getD_eq_getElem?_getD, hjq.2]
theorem cut_back {k : IntKind} {E : TypeId} {w : World} {g n cap : Nat} {l : List Int} (h : Owned k E w (.slice (some ⟨g, 0, none⟩) n cap) l) {q : Nat} (hq : q ≤ l.length) (hn : n = l.length) :
    SrcAt w (.slice (if cap = q then some ⟨g, 0, none⟩ else some ⟨g, q, none⟩) (n - q) (cap - q)) (n - q) 1 ((l.drop q).map (Value.int k)) := by
  subst hn
  by_cases hc : cap = q
  · rw [if_pos hc]
    obtain ⟨a', cap', h1, h2, _⟩ := h.form
    simp only [Value.slice.injEq] at h1
    obtain ⟨_, _, rfl⟩ := h1
    have : l.length - q = 0 := by omega
    rw [this]
    refine .inl ⟨rfl, ?_, _, _, rfl, fun h => by cases h⟩
    rw [List.drop_eq_nil_of_le (by omega)]
    rfl
  · rw [if_neg hc]
    refine .inr ⟨g, q, cap - q, rfl, by simp, fun j y hj => ?_⟩
    have hjq : q + j < l.length := by
      have := (List.getElem?_eq_some_iff.1 hj).1
      simp at this
      omega
    rw [Owned.at_ h hjq, ← hj]
    simp [List.getD_eq_getElem?_getD, hjq]

theorem some_of {k : IntKind} {E : TypeId} {w : World} {a : Option Addr} {n cap : Nat} {l : List Int} (h : Owned k E w (.slice a n cap) l) (hl : 0 < l.length) : ∃ g, a = some ⟨g, 0, none⟩ := by
  obtain ⟨a', cap', h1, _, h2, h3⟩ := h.form
  simp only [Value.slice.injEq] at h1
  obtain ⟨rfl, _, rfl⟩ := h1
  cases a with
  | none => have := (h2 rfl).1; omega
  | some g => exact ⟨g.block, by rw [← (h3 g rfl).1]⟩
theorem owns_made {w : World} {g : Nat} {E : TypeId} {size : Nat} (h : w.heap[g]? = some (.cells #[] E (0, 0))) : w.ownsRow 0 E size (.slice (some ⟨g, 0, none⟩) 0 0) 0 [] :=
  ⟨by simp, .inr ⟨g, 0, #[], rfl, Nat.zero_le _, h, Nat.le_refl _, Nat.zero_le _, by simp, by simp⟩⟩
theorem two_appends {w X w5 w6 : World} {E : TypeId} {g0 n5 n6 : Nat} {v5 v6 : Value} {xs5 xs6 : List Value} (hX : Below w.heap.size w X) (hg0 : w.heap.size ≤ g0) (h1 : Appended X w5 0 E 1 (.slice (some ⟨g0, 0, none⟩) 0 0) v5 n5 xs5) (h2 : Appended w5 w6 0 E 1 v5 v6 n6 xs6) :
    Below w.heap.size w w6 ∧ ∀ k, v6.ownBlock = some k → w.heap.size ≤ k := by
  have hXs := hX.size
  have hws := h1.grown.size
  have f5 : ∀ k, v5.ownBlock = some k → w.heap.size ≤ k := by
    intro k hk
    rcases h1.lies with e | e
    · rw [e] at hk
      have : g0 = k := Option.some.inj hk
      omega
    · rw [e] at hk
      have : X.heap.size = k := Option.some.inj hk
      omega
  have f6 : ∀ k, v6.ownBlock = some k → w.heap.size ≤ k := by
    intro k hk
    rcases h2.lies with e | e
    · exact f5 k (e ▸ hk)
    · rw [e] at hk
      have : w5.heap.size = k := Option.some.inj hk
      omega
  refine ⟨?_, f6⟩
  have m1 : Mod (fun k => w.heap.size ≤ k) X w5 := h1.mod (fun k hk => by have : g0 = k := Option.some.inj hk; omega)
  have m2 : Mod (fun k => w.heap.size ≤ k) w5 w6 := h2.mod (fun k hk => f5 k hk)
  exact hX.trans ((m1.trans m2).below (fun k hk => hk) hXs)
structure SI (n : Nat) (k : Int) (p : PS) (live gone : List Int) : Prop where
  ok : p.ok
  ini : p.init = true
  len : p.sl.length = n
  most : p.most = 65535
  worn : p.worn = 0
  tags : ∀ x ∈ p.sl, x.tag ≤ k
  cl : live.length = cnt p.sl
  lv : ∀ a ∈ live, p.live a = true
  nd : live.Nodup
  gn : ∀ g ∈ gone, ∃ (i : Nat) (t : Int), i < n ∧ 0 ≤ t ∧ g = t * 131072 + i + 1 ∧ t < (p.sl.getD i slot0).tag
theorem LeftR.still {w w' : World} {b : Nat} {F : Nat → Prop} {s : PS} (h : RefAt w b F s) (hm : Mod (fun _ => False) w w') : LeftR w b F s w' := ⟨F, h.mod hm (fun _ _ h => h), hm.mono (fun _ h => h.elim), Grows.refl _ _⟩

set_option maxRecDepth 100000 in
set_option maxHeartbeats 800000 in
theorem take_full (b : Nat) (F : Nat → Prop) (s : PS) (w : World) (h : RefAt w b F s) (hl : s.free = []) :
    Calls Try.prog 29 #[.pointer (some ⟨b, 0, none⟩)] w fun e w' => e = .returned (.tuple #[.int .u64 0, .int .i64 15]) ∧ LeftR w b F s w' := by
  have HP := Lib.hid h
  obtain ⟨tb, kb, gv, g, fr, n1, n2, n3, n4, n5, n6, rfl, hb, ht, hk, hg, ho, hz, hf, hs⟩ := h
  rw [hl] at hs
  have hs2 := List.append_eq_nil_iff.1 hs.symm
  have hfr : s.sl.length - fr = 0 := by rw [← dn_len s.sl.length (s.sl.length - fr), hs2.1]; rfl
  obtain ⟨a, cap, rfl, hcap, _, _⟩ := hg.form
  rw [hs2.2] at *
  have c0 := blk_cell hb 1
  have c3 := blk_cell hb 3
  have c4 := blk_cell hb 4
  have hn := ho.n2
  have hfe : fr = s.sl.length := by omega
  subst hfe
  simp only [refCells] at c0 c3 c4
  simp at c0 c3 c4
  clear hb ht hk hg ho hz hs hs2
  go_enter Try.func29, Try.ntmps29
  go_wp2_with fail
  go_quiet (fail)
  go_wp2
  go_ret2
  exact ⟨rfl, LeftR.still HP.out ((Mod.refl _ _).drewN _)⟩

/-- The document's pool behind a Take of slot i: l is what is left. -/
theorem taken {w w' : World} {b tb kb : Nat} {gv gv' : Value} {g' : List Int} {fr' i : Nat} {s : PS} {l : List Int} (n1 : tb ≠ b) (n2 : kb ≠ b) (n3 : tb ≠ kb) (n4 : gv'.ownBlock ≠ some b) (n5 : gv'.ownBlock ≠ some tb) (n6 : gv'.ownBlock ≠ some kb)
    (ho : s.ok) (hz : s.init = true) (hl : s.free = l ++ [(i : Int)]) (hi : i < s.sl.length) (hb : w'.heap[b]? = some (.cells (refCells s tb kb gv' fr') 107 (0, 0))) (ht : w'.heap[tb]? = some (.cells (tagCells s.sl).toArray 3 (0, 0)))
    (hk : w'.heap[kb]? = some (.cells ((takenCells s.sl).set i (.bool true)).toArray 4 (0, 0))) (hg : Owned .i64 3 w' gv' g') (hf : fr' ≤ s.sl.length) (hs : l = dn s.sl.length (s.sl.length - fr') ++ g')
    (hm : Mod (fun k => k = b ∨ k = tb ∨ k = kb ∨ gv.ownBlock = some k) w w') (hn : ∀ k, gv'.ownBlock = some k → gv.ownBlock = some k ∨ w.heap.size ≤ k) : LeftR w b (fun k => k = b ∨ k = tb ∨ k = kb ∨ gv.ownBlock = some k) (s.take l i) w' := by
  have hlen : (s.take l i).sl.length = s.sl.length := by simp [PS.take]
  refine ⟨_, ⟨tb, kb, gv', g', fr', n1, n2, n3, n4, n5, n6, rfl, ?_, ?_, ?_, hg, take_ok ho hz hl, hz, ?_, ?_⟩, hm, ?_⟩
  · rw [hb]
    simp [refCells, PS.take]
  · rw [ht]
    show _ = some (Obj.cells (tagCells (s.sl.set i ⟨(s.sl.getD i slot0).tag, true⟩)).toArray _ _)
    rw [tagCells_same _ _ hi]
  · rw [hk]
    show _ = some (Obj.cells (takenCells (s.sl.set i ⟨(s.sl.getD i slot0).tag, true⟩)).toArray _ _)
    rw [takenCells_set _ _ hi]
  · rw [hlen]; exact hf
  · rw [hlen]; exact hs
  · rintro k (h | h | h | h)
    · exact .inl (.inl h)
    · exact .inl (.inr (.inl h))
    · exact .inl (.inr (.inr (.inl h)))
    · rcases hn k h with h | h
      · exact .inl (.inr (.inr (.inr h)))
      · exact .inr h
theorem dn_step {n fr : Nat} (h : fr < n) : dn n (n - fr) = dn n (n - fr - 1) ++ [(fr : Int)] := by
  have e : dn n (n - fr) = dn n (n - fr - 1) ++ [(n : Int) - 1 - ((n - fr - 1 : Nat) : Int)] := by
    rw [show n - fr = (n - fr - 1) + 1 by omega]
    rfl
  rw [e, show (n : Int) - 1 - ((n - fr - 1 : Nat) : Int) = fr by omega]
theorem link_same {s : PS} {l : List Int} {i : Nat} (hi : i < s.sl.length) : (s.take l i).link i = s.link i := by simp [PS.link, PS.take, List.getD_eq_getElem?_getD, hi]

theorem link_taken {w W : World} {b : Nat} {F : Nat → Prop} {s : PS} {l : List Int} {i : Nat} (hi : i < s.sl.length) (h : LeftR w b F (s.take l i) W) :
    Calls Try.prog 63 #[.pointer (some ⟨b, 0, none⟩), .int .i64 i] W fun e w' => e = .returned (.int .u64 (s.link i)) ∧ W = w' := by
  obtain ⟨F', h, _⟩ := h
  have hc := ref_link b F' _ i W h (by simpa [PS.take] using hi)
  rw [link_same hi] at hc
  exact hc

set_option maxRecDepth 100000 in
set_option maxHeartbeats 1600000 in
theorem take_new (b tb kb : Nat) (gv : Value) (fr : Nat) (s : PS) (w : World) (n1 : tb ≠ b) (n2 : kb ≠ b) (n3 : tb ≠ kb) (n4 : gv.ownBlock ≠ some b) (n5 : gv.ownBlock ≠ some tb) (n6 : gv.ownBlock ≠ some kb)
    (hb : w.heap[b]? = some (.cells (refCells s tb kb gv fr) 107 (0, 0))) (ht : w.heap[tb]? = some (.cells (tagCells s.sl).toArray 3 (0, 0))) (hk : w.heap[kb]? = some (.cells (takenCells s.sl).toArray 4 (0, 0)))
    (hg : Owned .i64 3 w gv []) (ho : s.ok) (hz : s.init = true) (hf : fr < s.sl.length) (hs : s.free = dn s.sl.length (s.sl.length - fr)) :
    Calls Try.prog 29 #[.pointer (some ⟨b, 0, none⟩)] w fun e w' => e = .returned (.tuple #[.int .u64 (s.link fr), .int .i64 0]) ∧ LeftR w b (fun k => k = b ∨ k = tb ∨ k = kb ∨ gv.ownBlock = some k) (s.take (dn s.sl.length (s.sl.length - fr - 1)) fr) w' := by
  rw [dn_step hf] at hs
  obtain ⟨a, cap, rfl, hcap, _, _⟩ := hg.form
  simp only [List.length_nil] at *
  have hfin := Lib.hid (fun (q : Nat) => taken (w := w) (w' := ((w.drewN q).setCell ⟨b, 4, none⟩ (.int .i64 (fr + 1))).setCell ⟨kb, fr, none⟩ (.bool true)) (gv := .slice a 0 cap) (gv' := .slice a 0 cap) (g' := []) (fr' := fr + 1) (i := fr) n1 n2 n3 n4 n5 n6 ho hz hs hf
    (by rw [blk_other (blk_set (blk_drewN hb q)) (fun e => n2 e.symm)]; simp [refCells])
    (by exact blk_other (blk_other (blk_drewN ht q) n1) n3)
    (by rw [blk_set (blk_other (blk_drewN hk q) n2)]; simp)
    (hg.mod (F := fun k => k = b ∨ k = kb) (((((Mod.refl _ _).drewN q)).setCell (.inl (.inl rfl)) _).setCell (.inl (.inr rfl)) _) (by rintro k hx (rfl | rfl); exact n4 hx; exact n6 hx))
    hf (by rw [List.append_nil]; congr 1) (((((Mod.refl _ _).drewN q)).setCell (.inl (.inl rfl)) _).setCell (.inl (.inr (.inr (.inl rfl)))) _) (fun k hk => .inl hk))
  have c1 := blk_cell hb 1
  have c2 := blk_cell hb 2
  have c3 := blk_cell hb 3
  have c4 := blk_cell hb 4
  have z4 := blk_free hb 4
  have ck := blk_cell hk fr
  have zk := blk_free hk fr
  have hk2 := takenCells_at hf
  simp only [refCells] at c1 c2 c3 c4
  simp at c1 c2 c3 c4 ck hk2
  rw [hk2] at ck
  have hn := ho.n2
  have HL := Lib.hid (fun (q : Nat) => link_taken hf (hfin.out q))
  clear hb ht hk hg ho hz hs
  have hd : decide (fr = s.sl.length) = false := by simp; omega
  have hd2 : decide ((fr : Int) = s.sl.length) = false := by simp; omega
  clear hk2
  generalize (s.sl[fr]?.getD slot0).taken = tk at *
  go_enter Try.func29, Try.ntmps29
  go_wp2_with fail
  go_quiet (fail)
  go_wp2_with fail
  refine (HL.out _).mono ?_
  rintro e w' ⟨rfl, rfl⟩
  go_wp2_with fail
  go_ret2
  exact ⟨rfl, hfin.out _⟩

theorem app_new {w X w5 : World} {E : TypeId} {g0 n : Nat} {v5 : Value} {xs : List Value} (hX : Mod (fun _ => False) w X) (hg0 : w.heap.size ≤ g0) (h5 : Appended X w5 0 E 1 (.slice (some ⟨g0, 0, none⟩) 0 0) v5 n xs) :
    Mod (fun _ => False) w w5 ∧ ∀ k, v5.ownBlock = some k → w.heap.size ≤ k := by
  have hs := hX.size
  refine ⟨hX.next (h5.mod (F := fun k => k = g0) (fun k hk => (Option.some.inj hk).symm)) (fun i hi => .inr (by rw [hi]; exact hg0)), fun k hk => ?_⟩
  rcases h5.lies with e | e
  · rw [e] at hk
    have : g0 = k := Option.some.inj hk
    omega
  · rw [e] at hk
    have : X.heap.size = k := Option.some.inj hk
    omega
theorem taken_old {w X w5 : World} {b tb kb g0 fr i : Nat} {gv v5 : Value} {g' l : List Int} {s : PS} (n1 : tb ≠ b) (n2 : kb ≠ b) (n3 : tb ≠ kb) (ho : s.ok) (hz : s.init = true) (hl : s.free = l ++ [(i : Int)]) (hi : i < s.sl.length)
    (hb : w.heap[b]? = some (.cells (refCells s tb kb gv fr) 107 (0, 0))) (ht : w.heap[tb]? = some (.cells (tagCells s.sl).toArray 3 (0, 0))) (hk : w.heap[kb]? = some (.cells (takenCells s.sl).toArray 4 (0, 0)))
    (hf : fr ≤ s.sl.length) (hs : l = dn s.sl.length (s.sl.length - fr) ++ g') (hX : Mod (fun _ => False) w X) (hg0 : w.heap.size ≤ g0) (h5 : Appended X w5 0 3 1 (.slice (some ⟨g0, 0, none⟩) 0 0) v5 (0 + g'.length) ([] ++ g'.map (Value.int .i64))) :
    LeftR w b (fun k => k = b ∨ k = tb ∨ k = kb ∨ gv.ownBlock = some k) (s.take l i) ((w5.setCell ⟨b, 3, none⟩ v5).setCell ⟨kb, i, none⟩ (.bool true)) ∧ w5.frozen? ⟨b, 3, none⟩ = false ∧ (∃ u, w5.cell? ⟨b, 3, none⟩ = some u) ∧ (∃ u, w5.cell? ⟨kb, i, none⟩ = some (.bool u)) ∧ w5.frozen? ⟨kb, i, none⟩ = false ∧
      w5.cell? ⟨b, 2, none⟩ = some (.slice (some ⟨kb, 0, none⟩) s.sl.length s.sl.length) := by
  obtain ⟨hm, hnew⟩ := app_new hX hg0 h5
  have hb5 := hm.keep hb (fun h => h)
  have ht5 := hm.keep ht (fun h => h)
  have hk5 := hm.keep hk (fun h => h)
  have lb := blk_lt hb
  have lt := blk_lt ht
  have lk := blk_lt hk
  have m4 : v5.ownBlock ≠ some b := fun e => by have := hnew b e; omega
  have m5 : v5.ownBlock ≠ some tb := fun e => by have := hnew tb e; omega
  have m6 : v5.ownBlock ≠ some kb := fun e => by have := hnew kb e; omega
  have hO : Owned .i64 3 w5 v5 g' := by
    have h := h5.own
    rw [Nat.zero_add, List.nil_append] at h
    exact h
  refine ⟨?_, blk_free hb5 3, ⟨_, (blk_cell hb5 3).trans rfl⟩, ⟨(s.sl.getD i slot0).taken, (blk_cell hk5 i).trans ?_⟩, blk_free hk5 i, (blk_cell hb5 2).trans rfl⟩
  · refine taken (gv := gv) (gv' := v5) (g' := g') (fr' := fr) n1 n2 n3 m4 m5 m6 ho hz hl hi
      (by rw [blk_other (blk_set hb5) (fun e => n2 e.symm)]; simp [refCells])
      (by exact blk_other (blk_other ht5 n1) n3)
      (by rw [blk_set (blk_other hk5 n2)]; simp)
      (hO.mod (F := fun k => k = b ∨ k = kb) (((Mod.refl _ _).setCell (.inl (.inl rfl)) _).setCell (.inl (.inr rfl)) _) (by rintro k hx (rfl | rfl); exact m4 hx; exact m6 hx))
      hf hs (((hm.mono (fun _ h => h.elim)).setCell (.inl (.inl rfl)) _).setCell (.inl (.inr (.inr (.inl rfl)))) _) (fun k hk => .inr (hnew k hk))
  · have := takenCells_at hi
    simpa using this

set_option maxRecDepth 100000 in
set_option maxHeartbeats 1600000 in
theorem take_old (b tb kb gb cap : Nat) (g' : List Int) (fr i : Nat) (s : PS) (w : World) (n1 : tb ≠ b) (n2 : kb ≠ b) (n3 : tb ≠ kb)
    (hb : w.heap[b]? = some (.cells (refCells s tb kb (.slice (some ⟨gb, 0, none⟩) (g'.length + 1) cap) fr) 107 (0, 0))) (ht : w.heap[tb]? = some (.cells (tagCells s.sl).toArray 3 (0, 0))) (hk : w.heap[kb]? = some (.cells (takenCells s.sl).toArray 4 (0, 0)))
    (hg : Owned .i64 3 w (.slice (some ⟨gb, 0, none⟩) (g'.length + 1) cap) (g' ++ [(i : Int)])) (ho : s.ok) (hz : s.init = true) (hf : fr ≤ s.sl.length) (hs : s.free = dn s.sl.length (s.sl.length - fr) ++ (g' ++ [(i : Int)])) :
    Calls Try.prog 29 #[.pointer (some ⟨b, 0, none⟩)] w fun e w' => e = .returned (.tuple #[.int .u64 (s.link i), .int .i64 0]) ∧
      LeftR w b (fun k => k = b ∨ k = tb ∨ k = kb ∨ (Value.slice (some ⟨gb, 0, none⟩) (g'.length + 1) cap).ownBlock = some k) (s.take (dn s.sl.length (s.sl.length - fr) ++ g') i) w' := by
  rw [← List.append_assoc] at hs
  have hi : i < s.sl.length := by
    have := (ho.free i (by rw [hs]; simp)).2.1
    omega
  have hgl : g'.length + 1 ≤ s.sl.length := by
    have := ho.len
    rw [hs] at this
    simp at this
    omega
  have hcap : g'.length + 1 ≤ cap := by
    obtain ⟨a, cap', h, hle, _⟩ := hg.form
    simp only [Value.slice.injEq] at h
    obtain ⟨_, _, rfl⟩ := h
    simpa using hle
  have hgt := hg.lt gb rfl
  have cA : ∀ (n : Nat) (o : Obj), ((w.drewN n).alloc o).cell? ⟨b, 3, none⟩ = some (.slice (some ⟨gb, 0, none⟩) (g'.length + 1) cap) := fun n o => (blk_cell (blk_alloc (p := o) (blk_drewN hb n)) 3).trans rfl
  have hfin := Lib.hid (fun X w5 v5 g0 hX hg0 h5 => taken_old (w := w) (X := X) (w5 := w5) (v5 := v5) (g0 := g0) n1 n2 n3 ho hz hs hi hb ht hk hf rfl hX hg0 h5)
  have hsrc := Lib.hid (fun W (hW : Mod (fun _ => False) w W) => (show SrcAt W (.slice (some ⟨gb, 0, none⟩) g'.length cap) g'.length 1 (g'.map (Value.int .i64)) from by
    have h := cut_front (hg.mod hW (fun k _ h => h)) (q := g'.length) (by simp)
    rw [List.take_left'] at h
    · exact h
    · rfl))
  have cg := hg.at_ (i := g'.length) (by simp)
  have cx : (g' ++ [(i : Int)]).getD g'.length 0 = i := by simp
  rw [cx] at cg
  have c3 := blk_cell hb 3
  have c4 := blk_cell hb 4
  simp only [refCells] at c3 c4
  simp at c3 c4
  have hn := ho.n2
  have HL := Lib.hid (fun W F (h : LeftR w b F (s.take (dn s.sl.length (s.sl.length - fr) ++ g') i) W) => link_taken hi h)
  clear hb ht hk hg ho hz hs cx
  generalize hm : g'.length = m at *
  have x1 : IntKind.i64.wrap (m : Int) = (m : Int) := IntWalk.i64_in _ (by omega)
  have x2 : (m : Int) ≤ cap := by omega
  have x3 : (0 : Int) ≤ (m : Int) := by omega
  go_enter Try.func29, Try.ntmps29
  go_wp2_with fail
  go_quiet (fail)
  go_wp2_with fail
  go_region_law (first | (refine step_append (zero := .int .i64 0) (base := 0) (n := 0) (xs := []) (m := m) (ys := g'.map (Value.int .i64)) rfl (.tmp 36) (.tmp 47) rfl Try.underlying67 info_int rfl Nat.zero_lt_one (Nat.le_of_ble_eq_true rfl) rfl ?_ rfl ?_ (ints_one _ _) ?_ (Nat.zero_le _) ?_; (first | exact owns_made (blk_new _ _) | exact owns_made (blk_drew (blk_new _ _)) | exact owns_made (blk_at rfl)); exact hsrc.out _ (by first | exact ((Mod.refl _ _).drewN _).alloc _ | exact (((Mod.refl _ _).drewN _).alloc _).drew | exact ((Mod.refl _ _).drewN _).drew.alloc _); omega; intro v5 w5 h5; obtain ⟨a5, cap5, hv5⟩ := h5.val; rw [Nat.zero_add] at hv5; subst hv5; have hE := hfin.out _ w5 _ w.heap.size (by first | exact ((Mod.refl _ _).drewN _).alloc _ | exact (((Mod.refl _ _).drewN _).alloc _).drew | exact ((Mod.refl _ _).drewN _).drew.alloc _) (Nat.le_refl _) h5; have z3 := hE.2.1; obtain ⟨u3, d3⟩ := hE.2.2.1))
  all_goals
    obtain ⟨u2, d2⟩ := hE.2.2.2.1
    have z2 := hE.2.2.2.2.1
    have d5 := hE.2.2.2.2.2
    have hR := Lib.hid hE.1
    clear hE h5
    go_wp2_with fail
    refine (HL.out _ _ hR.out).mono ?_
    rintro e w' ⟨rfl, rfl⟩
    go_wp2_with fail
    go_ret2
    exact ⟨rfl, hR.out⟩
end Go.Proofs.Ytjojbfgppgnmjaa.Ref
