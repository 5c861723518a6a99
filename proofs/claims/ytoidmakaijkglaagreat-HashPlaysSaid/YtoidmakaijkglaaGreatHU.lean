/- Keys in their buckets, told by the row of those that were put and by their chains; chains over one store and one row of words. -/
import Derived.Test.YtoidmakaijkglaaGreatHT
namespace Go.Proofs.YtoidmakaijkglaaGreat
open Go.RowKit
def inB (n : Nat) (K : List Nat) (i : Nat) : List Nat := K.reverse.filter fun k => decide (bucketOf n (k : Int) = i)
def bsOf (n : Nat) (K : List Nat) (C : Nat → Nat) : List (List (Int × Nat)) := (List.range n).map fun i => (inB n K i).map fun k : Nat => ((k : Int), C k)
def updC {α : Type} (C : Nat → α) (k : Nat) (c : α) : Nat → α := fun x => if x = k then c else C x
def dropK (K : List Nat) (k : Nat) : List Nat := K.filter fun x => decide (x ≠ k)
theorem updC_same {α : Type} (C : Nat → α) (k : Nat) (c : α) : updC C k c k = c := if_pos rfl
theorem updC_ne {α : Type} {C : Nat → α} {k : Nat} {c : α} {x : Nat} (h : x ≠ k) : updC C k c x = C x := if_neg h
section
variable {n : Nat} {K : List Nat} {C : Nat → Nat}
theorem bsOf_len : (bsOf n K C).length = n := by simp [bsOf]
theorem bsOf_at {i : Nat} (h : i < n) : (bsOf n K C).getD i [] = (inB n K i).map fun k : Nat => ((k : Int), C k) := by
  simp [bsOf, List.getD_eq_getElem?_getD, h]
theorem bsOf_keys {i : Nat} (h : i < n) : keysOf (bsOf n K C) i = (inB n K i).map fun k : Nat => (k : Int) := by
  unfold keysOf
  rw [bsOf_at h, List.map_map]
  rfl
theorem bsOf_nil : bsOf n [] C = List.replicate n [] := by
  refine List.ext_getElem (by simp [bsOf]) fun i h1 h2 => ?_
  simp [bsOf, inB]
theorem mem_inB {i k : Nat} : k ∈ inB n K i ↔ k ∈ K ∧ bucketOf n (k : Int) = i := by simp [inB]
theorem inB_nd (h : K.Nodup) (i : Nat) : (inB n K i).Nodup := List.Nodup.sublist List.filter_sublist ((List.reverse_perm K).nodup_iff.2 h)
theorem bsOf_keyed (hn : 1 ≤ n) (hd : K.Nodup) (hl : ∀ k ∈ K, k < 64) : Keyed n (bsOf n K C) (fun x => ∃ k ∈ K, (k : Int) = x) where
  ok i hi x hx := by
    rw [bsOf_keys hi] at hx
    obtain ⟨k, hk, rfl⟩ := List.mem_map.1 hx
    have h1 := mem_inB.1 hk
    have := hl k h1.1
    exact ⟨by omega, by omega, h1.2, k, h1.1, rfl⟩
  nd i hi := by
    rw [bsOf_keys hi]
    exact nodup_map_on (fun a _ b _ e => by omega) (inB_nd hd i)
  all x hx := by
    obtain ⟨k, hk, rfl⟩ := hx
    have := hl k hk
    refine ⟨by omega, by omega, ?_⟩
    rw [bsOf_keys (bucketOf_lt hn)]
    exact List.mem_map.2 ⟨k, mem_inB.2 ⟨hk, rfl⟩, rfl⟩
  len := bsOf_len
theorem bsOf_some (hn : 1 ≤ n) (hd : K.Nodup) (hl : ∀ k ∈ K, k < 64) {k : Nat} (hk : k ∈ K) : findK n (bsOf n K C) k = some (C k) := by
  obtain ⟨c, h1, h2⟩ := (bsOf_keyed (C := C) hn hd hl).some ⟨k, hk, rfl⟩
  rw [bsOf_at (bucketOf_lt hn)] at h2
  obtain ⟨j, hj, e⟩ := List.mem_map.1 h2
  simp only [Prod.mk.injEq] at e
  obtain ⟨e1, rfl⟩ := e
  obtain rfl : j = k := by omega
  exact h1
theorem bsOf_none (hn : 1 ≤ n) (hd : K.Nodup) (hl : ∀ k ∈ K, k < 64) {x : Int} (hx : ∀ k ∈ K, (k : Int) ≠ x) : findK n (bsOf n K C) x = none :=
  (bsOf_keyed (C := C) hn hd hl).none (fun ⟨k, h1, h2⟩ => hx k h1 h2) hn
theorem bsOf_congr {C' : Nat → Nat} (h : ∀ k ∈ K, C k = C' k) : bsOf n K C = bsOf n K C' := by
  unfold bsOf
  refine List.map_congr_left fun i _ => List.map_congr_left fun k hk => ?_
  rw [h k (mem_inB.1 hk).1]
theorem inB_app (k i : Nat) : inB n (K ++ [k]) i = if bucketOf n (k : Int) = i then k :: inB n K i else inB n K i := by
  unfold inB
  rw [List.reverse_append, List.reverse_singleton, List.singleton_append, List.filter_cons]
  by_cases h : bucketOf n (k : Int) = i <;> simp [h]
theorem bsOf_put (hn : 1 ≤ n) {k c : Nat} (hk : k ∉ K) : putK n (bsOf n K C) k c = bsOf n (K ++ [k]) (updC C k c) := by
  have hb := bucketOf_lt (n := n) (key := (k : Int)) hn
  have hc : ∀ i, (inB n K i).map (fun j : Nat => ((j : Int), updC C k c j)) = (inB n K i).map fun j : Nat => ((j : Int), C j) := fun i =>
    List.map_congr_left fun j hj => by rw [updC_ne (C := C) (k := k) (c := c) (x := j) (fun e => hk (e ▸ (mem_inB.1 hj).1))]
  refine List.ext_getElem (by simp [putK, bsOf]) fun i h1 h2 => ?_
  have hi : i < n := by simpa [bsOf] using h2
  have e1 : (putK n (bsOf n K C) k c)[i] = (putK n (bsOf n K C) k c).getD i [] := by simp [List.getD_eq_getElem?_getD, h1]
  have e2 : (bsOf n (K ++ [k]) (updC C k c))[i] = (bsOf n (K ++ [k]) (updC C k c)).getD i [] := by simp [List.getD_eq_getElem?_getD, h2]
  rw [e1, e2, bsOf_at hi, inB_app]
  unfold putK
  rw [bs_set (by rw [bsOf_len]; exact hb)]
  by_cases h : i = bucketOf n (k : Int)
  · subst h
    rw [if_pos rfl, if_pos rfl, bsOf_at hb, List.map_cons, hc, updC_same]
  · rw [if_neg h, if_neg (fun e => h e.symm), bsOf_at hi, hc]
theorem inB_drop (k i : Nat) : inB n (dropK K k) i = (inB n K i).filter fun x => decide (x ≠ k) := by
  unfold inB dropK
  rw [List.filter_reverse, List.filter_reverse, List.filter_reverse, List.filter_filter, List.filter_filter]
  congr 1
  refine List.filter_congr fun x _ => ?_
  rw [Bool.and_comm]
theorem bsOf_drop (hn : 1 ≤ n) (hd : K.Nodup) {k : Nat} (hk : k ∈ K) : ∃ A B, (bsOf n K C).getD (bucketOf n (k : Int)) [] = A ++ ((k : Int), C k) :: B ∧ (∀ e ∈ A, e.1 ≠ (k : Int)) ∧ (∀ e ∈ B, e.1 ≠ (k : Int)) ∧
    (bsOf n K C).set (bucketOf n (k : Int)) (A ++ B) = bsOf n (dropK K k) C := by
  have hb := bucketOf_lt (n := n) (key := (k : Int)) hn
  obtain ⟨A, B, hAB⟩ := List.append_of_mem (mem_inB.2 ⟨hk, rfl⟩ : k ∈ inB n K (bucketOf n (k : Int)))
  have hnd := inB_nd (n := n) hd (bucketOf n (k : Int))
  rw [hAB, List.nodup_append] at hnd
  obtain ⟨_, n2, n3⟩ := hnd
  have hA : ∀ x ∈ A, x ≠ k := fun x hx => n3 x hx k (by simp)
  have hB : ∀ x ∈ B, x ≠ k := fun x hx e => (List.nodup_cons.1 n2).1 (e ▸ hx)
  refine ⟨A.map fun x : Nat => ((x : Int), C x), B.map fun x : Nat => ((x : Int), C x), ?_, ?_, ?_, ?_⟩
  · rw [bsOf_at hb, hAB, List.map_append, List.map_cons]
  · intro e he
    obtain ⟨x, hx, rfl⟩ := List.mem_map.1 he
    have := hA x hx
    show (x : Int) ≠ k
    omega
  · intro e he
    obtain ⟨x, hx, rfl⟩ := List.mem_map.1 he
    have := hB x hx
    show (x : Int) ≠ k
    omega
  · refine List.ext_getElem (by simp [bsOf]) fun i h1 h2 => ?_
    have hi : i < n := by simpa [bsOf] using h2
    have e2 : (bsOf n (dropK K k) C)[i] = (bsOf n (dropK K k) C).getD i [] := by simp [List.getD_eq_getElem?_getD, h2]
    have e1 : ∀ l : List (Int × Nat), ((bsOf n K C).set (bucketOf n (k : Int)) l).getD i [] = if i = bucketOf n (k : Int) then l else (bsOf n K C).getD i [] := fun l => bs_set (by rw [bsOf_len]; exact hb)
    rw [e2, bsOf_at hi, inB_drop]
    rw [show ((bsOf n K C).set (bucketOf n (k : Int)) ((A.map fun x : Nat => ((x : Int), C x)) ++ B.map fun x : Nat => ((x : Int), C x)))[i] = ((bsOf n K C).set (bucketOf n (k : Int)) ((A.map fun x : Nat => ((x : Int), C x)) ++ B.map fun x : Nat => ((x : Int), C x))).getD i [] by rw [List.getD_eq_getElem?_getD, List.getElem?_eq_getElem h1]; rfl, e1]
    by_cases h : i = bucketOf n (k : Int)
    · subst h
      rw [if_pos rfl, hAB, List.filter_append, List.filter_cons, if_neg (by simp), List.filter_eq_self.2 (fun x hx => by simpa using hA x hx), List.filter_eq_self.2 (fun x hx => by simpa using hB x hx), List.map_append]
    · rw [if_neg h, bsOf_at hi, List.filter_eq_self.2]
      intro x hx
      have := (mem_inB.1 hx).2
      simp only [decide_eq_true_eq]
      exact fun e => h (by rw [← this, e])
theorem dropK_perm (hd : K.Nodup) {k : Nat} (hk : k ∈ K) : K.Perm (k :: dropK K k) := by
  have := hd.erase_eq_filter k
  have e : dropK K k = K.erase k := by
    rw [this]
    refine List.filter_congr fun x _ => ?_
    by_cases h : x = k <;> simp [h]
  rw [e]
  exact List.perm_cons_erase hk
theorem mem_dropK {k x : Nat} : x ∈ dropK K k ↔ x ∈ K ∧ x ≠ k := by simp [dropK]
end
/-! ### Chains over one store and one row of words -/
theorem Chn.turn {s s' : RS} {ws ws' : List Int} {k : Nat} {L : List Int} (h : Chn s ws k L) (hl : ws'.length = ws.length) (hw : ws'.getD k 0 = ws.getD k 0) (hp : ∀ a ∈ L, s'.p.live a = true) (hv : ∀ a ∈ L, s'.ver (slotOf a) = s.ver (slotOf a)) : Chn s' ws' k L :=
  ⟨by rw [hl]; exact h.ix, by rw [hw]; exact h.head, hp, h.nd, fun j hj => by rw [hv _ (getD_mem hj)]; exact h.next j hj⟩
theorem pushS_out {s : RS} {L : List Int} {x : Int} {i : Nat} (h : slotOf x ≠ i) : (pushS s L x).ver i = s.ver i := setw_ver_ne (by decide) h
theorem rep0 (m k : Nat) : (List.replicate m (0 : Int)).getD k 0 = 0 := by
  rw [List.getD_eq_getElem?_getD, List.getElem?_replicate]
  split <;> rfl
structure HI (N : Nat) (s : RS) (ws live : List Int) (K : List Nat) (L : Nat → List Int) : Prop where
  si : SI N 0 s.p.listed live []
  ok : s.ok
  wl : ws.length = 64
  ch : ∀ k, k < 64 → Chn s ws k (L k)
  sub : ∀ k, k < 64 → ∀ a ∈ L k, a ∈ live
  dj : ∀ j k, j < 64 → k < 64 → j ≠ k → ∀ a ∈ L j, a ∉ L k
  nd : K.Nodup
  lt : ∀ k ∈ K, k < 64
  non : ∀ k, k < 64 → k ∉ K → L k = []
section
variable {N : Nat} {s : RS} {ws live : List Int} {K : List Nat} {L : Nat → List Int}
theorem HI.new (h0 : 1 ≤ N) (h1 : N ≤ 4096) : HI N (RS.new N) (List.replicate 64 0) [] [] (fun _ => []) where
  si := SI.new h0 h1
  ok := (CI.new h0 h1 (fun _ => ver0)).ok
  wl := List.length_replicate
  ch k hk := Chn.nil (by rw [List.length_replicate]; exact hk) (rep0 64 k)
  sub k _ a ha := by simp at ha
  dj j k _ _ _ a ha := by simp at ha
  nd := List.nodup_nil
  lt k hk := by simp at hk
  non k _ _ := rfl
theorem HI.lives (h : HI N s ws live K L) {a : Int} (ha : a ∈ live) : s.p.live a = true := by
  rw [← listed_live]
  exact h.si.lv a ha
theorem HI.range (h : HI N s ws live K L) {a : Int} (ha : a ∈ live) : 1 ≤ a ∧ a ≤ 8589934591 := h.si.range ha
theorem HI.room (h : HI N s ws live K L) (hl : live.length < N) : ∃ l i, s.p.listed.free = l ++ [((i : Nat) : Int)] := by
  have hf := h.si.free
  rcases List.eq_nil_or_concat s.p.listed.free with e | ⟨l, z, e⟩
  · rw [e] at hf
    simp at hf
    omega
  · rw [List.concat_eq_append] at e
    have hz := (h.si.ok.free z (by rw [e]; simp)).1
    exact ⟨l, z.toNat, by rw [e, show ((z.toNat : Nat) : Int) = z by omega]⟩
theorem HI.make (h : HI N s ws live K L) {l : List Int} {i : Nat} (hl : s.p.listed.free = l ++ [(i : Int)]) (key v x y : Int) :
    ¬ s.p.listed.link i ∈ live ∧ HI N (s.make l i key v x y) ws (live ++ [s.p.listed.link i]) K L := by
  obtain ⟨h1, h2, h3⟩ := h.si.take hl
  have hf := h.si.ok.free i (by rw [hl]; simp)
  have hi : i < s.p.sl.length := by have := hf.2.1; rw [listed_sl] at this; omega
  have hini : (s.p.listed.take l i).init = true := listed_init s.p
  have hnl : ¬ s.p.listed.link i ∈ live := fun hm => h1 _ hm rfl
  have hne : ∀ a ∈ live, i ≠ slotOf a := fun a ha e2 => by
    have h5 := slot_live (h.lives ha)
    have h6 : (s.p.sl.getD i slot0).taken = false := by
      have := hf.2.2
      rw [listed_sl] at this
      simpa using this
    rw [← e2] at h5
    rw [h5.2.2.2] at h6
    cases h6
  have hsi : SI N 0 (s.make l i key v x y).p.listed (live ++ [s.p.listed.link i]) [] := by
    show SI N 0 (s.p.listed.take l i).listed _ _
    rw [listed_yes hini]
    exact h3
  refine ⟨hnl, ⟨hsi, ⟨?_, ?_⟩, h.wl, fun k hk => (h.ch k hk).turn rfl rfl (fun a ha => ?_) (fun a ha => make_ver_ne (hne a (h.sub k hk a ha))), fun k hk a ha => List.mem_append_left _ (h.sub k hk a ha), h.dj, h.nd, h.lt, h.non⟩⟩
  · have := h.ok.ws
    simp [RS.make, take_len, this]
  · have := h.ok.d
    simp [RS.make, take_len, this]
  · rw [← listed_live]
    exact hsi.lv a (List.mem_append_left _ (h.sub k hk a ha))
theorem HI.push (h : HI N s ws live K L) {k : Nat} (hk : k ∈ K) {x : Int} (hx : x ∈ live) (hn : ∀ j, j < 64 → x ∉ L j) : HI N (pushS s (L k) x) (ws.set k x) live K (updC L k (x :: L k)) := by
  have hk64 := h.lt k hk
  have hsl : ∀ j, j < 64 → ∀ a ∈ L j, slotOf x ≠ slotOf a := fun j hj a ha e => hn j hj (live_inj (h.lives hx) (h.lives (h.sub j hj a ha)) e ▸ ha)
  refine ⟨h.si, setw_ok h.ok _ _, by simpa using h.wl, fun j hj => ?_, fun j hj a ha => ?_, fun i j hi hj hij a ha hb => ?_, h.nd, h.lt, fun j hj hjk => ?_⟩
  · by_cases e : j = k
    · subst e
      rw [updC_same]
      exact (h.ch j hj).push h.ok (h.lives hx) (hn j hj)
    · rw [updC_ne e]
      exact (h.ch j hj).turn (by simp) (getD_set_ne (fun e2 => e e2.symm)) (fun a ha => h.lives (h.sub j hj a ha)) (fun a ha => pushS_out (hsl j hj a ha))
  · by_cases e : j = k
    · subst e
      rw [updC_same] at ha
      rcases List.mem_cons.1 ha with rfl | ha
      · exact hx
      · exact h.sub j hj a ha
    · rw [updC_ne e] at ha
      exact h.sub j hj a ha
  · by_cases e : i = k
    · subst e
      rw [updC_same] at ha
      rw [updC_ne (fun e => hij e.symm)] at hb
      rcases List.mem_cons.1 ha with rfl | ha
      · exact hn j hj hb
      · exact h.dj i j hi hj hij a ha hb
    · rw [updC_ne e] at ha
      by_cases e2 : j = k
      · subst e2
        rw [updC_same] at hb
        rcases List.mem_cons.1 hb with rfl | hb
        · exact hn i hi ha
        · exact h.dj i j hi hj hij a ha hb
      · rw [updC_ne e2] at hb
        exact h.dj i j hi hj hij a ha hb
  · rw [updC_ne (x := j) (fun e => hjk (e ▸ hk))]
    exact h.non j hj hjk
theorem HI.cut (h : HI N s ws live K L) {k : Nat} (hk : k ∈ K) {j : Nat} (hj : j < (L k).length) : HI N (cutS s (L k) j) (cutW ws k (L k) j) live K (updC L k ((L k).eraseIdx j)) := by
  have hk64 := h.lt k hk
  have hsl : ∀ i, i < 64 → i ≠ k → ∀ a ∈ L i, ∀ b ∈ L k, slotOf b ≠ slotOf a := fun i hi hik a ha b hb e =>
    h.dj k i hk64 hi (fun e => hik e.symm) b hb (live_inj (h.lives (h.sub k hk64 b hb)) (h.lives (h.sub i hi a ha)) e ▸ ha)
  refine ⟨by rw [cutS_p]; exact h.si, cutS_ok h.ok j, by rw [cutW_len]; exact h.wl, fun i hi => ?_, fun i hi a ha => ?_, fun i i2 hi hi2 hii a ha hb => ?_, h.nd, h.lt, fun i hi hik => ?_⟩
  · by_cases e : i = k
    · subst e
      rw [updC_same]
      exact (h.ch i hi).cut h.ok hj
    · rw [updC_ne e]
      exact (h.ch i hi).turn (cutW_len j) (cutW_other j (fun e2 => e e2.symm)) (fun a ha => by rw [cutS_p]; exact h.lives (h.sub i hi a ha)) (fun a ha => cutS_out j hj (hsl i hi e a ha))
  · by_cases e : i = k
    · subst e
      rw [updC_same] at ha
      exact h.sub i hi a (List.mem_of_mem_eraseIdx ha)
    · rw [updC_ne e] at ha
      exact h.sub i hi a ha
  · refine h.dj i i2 hi hi2 hii a ?_ ?_
    · by_cases e : i = k
      · subst e
        rw [updC_same] at ha
        exact List.mem_of_mem_eraseIdx ha
      · rwa [updC_ne e] at ha
    · by_cases e : i2 = k
      · subst e
        rw [updC_same] at hb
        exact List.mem_of_mem_eraseIdx hb
      · rwa [updC_ne e] at hb
  · rw [updC_ne (x := i) (fun e => hik (e ▸ hk))]
    exact h.non i hi hik
theorem HI.put (h : HI N s ws live K L) {k : Nat} (hk : k < 64) (hn : k ∉ K) : HI N s ws live (K ++ [k]) L :=
  ⟨h.si, h.ok, h.wl, h.ch, h.sub, h.dj, by
    rw [List.nodup_append]
    exact ⟨h.nd, by simp, fun a ha b hb e => by simp at hb; exact hn (hb ▸ e ▸ ha)⟩, fun j hj => by
    rcases List.mem_append.1 hj with hj | hj
    · exact h.lt j hj
    · simp at hj
      omega, fun j hj hjk => h.non j hj (fun hm => hjk (List.mem_append_left _ hm))⟩
theorem HI.drop (h : HI N s ws live K L) {k : Nat} (hk : k ∈ K) (h0 : L k = []) : HI N s (ws.set k 0) live (dropK K k) L :=
  ⟨h.si, h.ok, by simpa using h.wl, fun j hj => by
    by_cases e : j = k
    · subst e
      rw [h0]
      exact Chn.nil (by rw [List.length_set, h.wl]; exact hj) (getD_set_same (by rw [h.wl]; exact hj))
    · exact (h.ch j hj).turn (by simp) (getD_set_ne (fun e2 => e e2.symm)) (fun a ha => h.lives (h.sub j hj a ha)) (fun _ _ => rfl), h.sub, h.dj, List.Nodup.sublist List.filter_sublist h.nd, fun j hj => h.lt j (mem_dropK.1 hj).1, fun j hj hjk => by
    by_cases e : j = k
    · rw [e, h0]
    · exact h.non j hj (fun hm => hjk (mem_dropK.2 ⟨hm, e⟩))⟩
end
end Go.Proofs.YtoidmakaijkglaaGreat
