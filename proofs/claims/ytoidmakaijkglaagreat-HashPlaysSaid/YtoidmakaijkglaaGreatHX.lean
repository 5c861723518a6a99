/- The index, its store and its chains over time: the calls. -/
import Derived.Test.YtoidmakaijkglaaGreatHU
namespace Go.Proofs.YtoidmakaijkglaaGreat
open Go.RowKit
def chObs (sb ab : Nat) (C : Nat → Nat) (K : List Nat) : List Ob := K.map fun k => obChain (C k) sb ab k
/-- An index over a store of N slots: the keys that were put (the last one last), their chains' blocks and links. -/
def HW (w0 : World) (xb sb ab N n : Nat) (live : List Int) (K : List Nat) (C : Nat → Nat) (L : Nat → List Int) (M : List Ob) (W : World) : Prop :=
  ∃ (F Fs Fa : Nat → Prop) (s : RS) (ws : List Int), Sep w0 W (obIx xb F sb ab n (bsOf n K C) :: obStore sb Fs s :: obArena ab Fa ws :: (M ++ chObs sb ab C K)) ∧ HI N s ws live K L
/-- The rising row of the keys. -/
def upK (K : List Nat) : List Int := ((List.range 64).filter fun k => decide (k ∈ K)).map fun k : Nat => (k : Int)
theorem up_eq : ∀ {l m : List Int}, l.Pairwise (fun x y => x < y) → m.Pairwise (fun x y => x < y) → (∀ x, x ∈ l ↔ x ∈ m) → l = m
  | [], [], _, _, _ => rfl
  | [], b :: m, _, _, h => by have := (h b).2 (by simp); simp at this
  | a :: l, [], _, _, h => by have := (h a).1 (by simp); simp at this
  | a :: l, b :: m, h1, h2, h => by
    have g1 := List.pairwise_cons.1 h1
    have g2 := List.pairwise_cons.1 h2
    have e : a = b := by
      have ha := (h a).1 (by simp)
      have hb := (h b).2 (by simp)
      rcases List.mem_cons.1 ha with e | ha
      · exact e
      · rcases List.mem_cons.1 hb with e | hb
        · exact e.symm
        · have := g1.1 b hb
          have := g2.1 a ha
          omega
    subst e
    rw [up_eq g1.2 g2.2 (fun x => ?_)]
    refine ⟨fun hx => ?_, fun hx => ?_⟩
    · rcases List.mem_cons.1 ((h x).1 (by simp [hx])) with e | hm
      · have := g1.1 x hx; omega
      · exact hm
    · rcases List.mem_cons.1 ((h x).2 (by simp [hx])) with e | hm
      · have := g2.1 x hx; omega
      · exact hm
theorem sortI_up {O : List Int} (hn : O.Nodup) : (sortI O).Pairwise (fun x y => x < y) ∧ ∀ x, x ∈ sortI O ↔ x ∈ O := by
  have hperm : (sortI O).Perm O := List.mergeSort_perm O _
  have hle : (sortI O).Pairwise fun x y => decide (x ≤ y) = true := List.pairwise_mergeSort (fun a b c h1 h2 => by simp at h1 h2 ⊢; omega) (fun a b => by simp; omega) O
  have hnd : (sortI O).Nodup := hperm.nodup_iff.2 hn
  refine ⟨?_, fun x => hperm.mem_iff⟩
  refine (hle.and hnd).imp ?_
  intro a b h
  have h1 : a ≤ b := by simpa using h.1
  have h2 : a ≠ b := h.2
  omega
theorem upK_up (K : List Nat) : (upK K).Pairwise (fun x y => x < y) := by
  unfold upK
  rw [List.pairwise_map]
  refine List.Pairwise.imp (R := fun a b => a < b) (fun h => by omega) (List.Pairwise.sublist List.filter_sublist List.pairwise_lt_range)
theorem mem_upK {K : List Nat} (hl : ∀ k ∈ K, k < 64) (x : Int) : x ∈ upK K ↔ ∃ k ∈ K, (k : Int) = x := by
  unfold upK
  simp only [List.mem_map, List.mem_filter, List.mem_range, decide_eq_true_eq]
  exact ⟨fun ⟨k, ⟨_, h2⟩, h3⟩ => ⟨k, h2, h3⟩, fun ⟨k, h2, h3⟩ => ⟨k, ⟨hl k h2, h2⟩, h3⟩⟩
theorem all_nd {n : Nat} {bs : List (List (Int × Nat))} {P : Int → Prop} (h : Keyed n bs P) : ∀ i, i ≤ n → (allKeys bs i).Nodup ∧ ∀ x, x ∈ allKeys bs i ↔ P x ∧ bucketOf n x < i
  | 0, _ => ⟨List.nodup_nil, fun x => by simp [allKeys]⟩
  | i + 1, hi => by
    obtain ⟨h1, h2⟩ := all_nd h i (by omega)
    have hk := h.ok i hi
    rw [allKeys_next]
    refine ⟨List.nodup_append.2 ⟨h1, h.nd i hi, fun a ha b hb e => ?_⟩, fun x => ?_⟩
    · have g1 := ((h2 a).1 ha).2
      have g2 := (hk b hb).2.2.1
      rw [e] at g1
      omega
    · rw [List.mem_append, h2]
      refine ⟨fun hx => ?_, fun hx => ?_⟩
      · rcases hx with hx | hx
        · exact ⟨hx.1, by have := hx.2; omega⟩
        · have g := hk x hx
          exact ⟨g.2.2.2, by omega⟩
      · by_cases e : bucketOf n x = i
        · right
          have := (h.all x hx.1).2.2
          rwa [e] at this
        · left
          exact ⟨hx.1, by have := hx.2; omega⟩
theorem keys_up {n : Nat} {K : List Nat} {C : Nat → Nat} (hn : 1 ≤ n) (hd : K.Nodup) (hl : ∀ k ∈ K, k < 64) : sortI (allKeys (bsOf n K C) n) = upK K := by
  obtain ⟨h1, h2⟩ := all_nd (bsOf_keyed (C := C) hn hd hl) n (Nat.le_refl _)
  obtain ⟨h3, h4⟩ := sortI_up h1
  refine up_eq h3 (upK_up K) fun x => ?_
  rw [h4, h2, mem_upK hl]
  exact ⟨fun h => h.1, fun h => ⟨h, bucketOf_lt hn⟩⟩
theorem upK_len {K : List Nat} (hd : K.Nodup) (hl : ∀ k ∈ K, k < 64) : (upK K).length = K.length := by
  have h1 : (sortI (K.map fun k : Nat => (k : Int))) = upK K := by
    obtain ⟨h3, h4⟩ := sortI_up (nodup_map_on (f := fun k : Nat => (k : Int)) (fun a _ b _ e => by omega) hd)
    refine up_eq h3 (upK_up K) fun x => ?_
    rw [h4, mem_upK hl, List.mem_map]
  rw [← h1, sortI_len, List.length_map]
section
variable {w0 W W' : World} {xb sb ab N n : Nat} {live : List Int} {K : List Nat} {C : Nat → Nat} {L : Nat → List Int} {M : List Ob} {A A' : Ob}
theorem HW.bel (h : HW w0 xb sb ab N n live K C L M W) : Below w0.heap.size w0 W := by
  obtain ⟨F, Fs, Fa, s, ws, h, _⟩ := h
  exact h.bel
theorem HW.later (h : HW w0 xb sb ab N n live K C L M W) (hb : Below W.heap.size W W') : HW w0 xb sb ab N n live K C L M W' := by
  obtain ⟨F, Fs, Fa, s, ws, h, hc⟩ := h
  exact ⟨F, Fs, Fa, s, ws, h.below hb, hc⟩
theorem HW.drew (h : HW w0 xb sb ab N n live K C L M W) : HW w0 xb sb ab N n live K C L M W.drew := h.later (Below.drew (Below.refl _ _))
theorem HW.front (h : HW w0 xb sb ab N n live K C L (A :: M) W) : ∃ (F Fs Fa : Nat → Prop) (s : RS) (ws : List Int), Sep w0 W (A :: obIx xb F sb ab n (bsOf n K C) :: obStore sb Fs s :: obArena ab Fa ws :: (M ++ chObs sb ab C K)) ∧ HI N s ws live K L := by
  obtain ⟨F, Fs, Fa, s, ws, h, hc⟩ := h
  exact ⟨F, Fs, Fa, s, ws, h.bring4, hc⟩
theorem HW.first (h : HW w0 xb sb ab N n live K C L (A :: M) W) : A.P W := by
  obtain ⟨F, Fs, Fa, s, ws, h, hc⟩ := h.front
  exact h.head
theorem HW.turn (h : HW w0 xb sb ab N n live K C L (A :: M) W) (hf : ∀ Q, Sep w0 W (A :: Q) → Sep w0 W' (A' :: Q)) : HW w0 xb sb ab N n live K C L (A' :: M) W' := by
  obtain ⟨F, Fs, Fa, s, ws, h, hc⟩ := h.front
  exact ⟨F, Fs, Fa, s, ws, (hf _ h).back4, hc⟩
theorem HW.add (h : HW w0 xb sb ab N n live K C L M W) (hf : ∀ Q, Sep w0 W Q → Sep w0 W' (A :: Q)) : HW w0 xb sb ab N n live K C L (A :: M) W' := by
  obtain ⟨F, Fs, Fa, s, ws, h, hc⟩ := h
  exact ⟨F, Fs, Fa, s, ws, (hf _ h).back4, hc⟩
theorem HW.drop (h : HW w0 xb sb ab N n live K C L (A :: M) W) : HW w0 xb sb ab N n live K C L M W := by
  obtain ⟨F, Fs, Fa, s, ws, h, hc⟩ := h.front
  exact ⟨F, Fs, Fa, s, ws, h.tail, hc⟩
theorem HW.perm {M' : List Ob} (h : HW w0 xb sb ab N n live K C L M W) (hp : M.Perm M') : HW w0 xb sb ab N n live K C L M' W := by
  obtain ⟨F, Fs, Fa, s, ws, h, hc⟩ := h
  exact ⟨F, Fs, Fa, s, ws, h.perm ((((hp.append_right _).cons _).cons _).cons _), hc⟩
theorem HW.swap {B : Ob} (h : HW w0 xb sb ab N n live K C L (A :: B :: M) W) : HW w0 xb sb ab N n live K C L (B :: A :: M) W := h.perm (List.Perm.swap _ _ _)
theorem HW.facts (h : HW w0 xb sb ab N n live K C L M W) : K.Nodup ∧ (∀ k ∈ K, k < 64) ∧ (∀ k, k < 64 → k ∉ K → L k = []) ∧ (∀ k, k < 64 → ∀ a ∈ L k, a ∈ live) ∧ (∀ a ∈ live, 1 ≤ a ∧ a ≤ 8589934591) ∧ ∀ k, k < 64 → (L k).length ≤ N := by
  obtain ⟨F, Fs, Fa, s, ws, h, hc⟩ := h
  refine ⟨hc.nd, hc.lt, hc.non, hc.sub, fun a ha => hc.range ha, fun k hk => ?_⟩
  have h1 := (hc.ch k hk).len
  have h2 := hc.si.len
  rw [listed_sl] at h2
  omega
theorem hw_new {F Fs Fa : Nat → Prop} (h : Sep w0 W (obIx xb F sb ab n (List.replicate n []) :: obArena ab Fa (List.replicate 64 0) :: obStore sb Fs (RS.new N) :: M)) (h0 : 1 ≤ N) (h1 : N ≤ 4096) (C : Nat → Nat) : HW w0 xb sb ab N n [] [] C (fun _ => []) M W :=
  ⟨F, Fs, Fa, _, _, by
    rw [bsOf_nil]
    simp only [chObs, List.map_nil, List.append_nil]
    exact h.perm ((List.Perm.swap _ _ _).cons _), HI.new h0 h1⟩
theorem chObs_perm (hd : K.Nodup) {k : Nat} (hk : k ∈ K) (M : List Ob) : (M ++ chObs sb ab C K).Perm (obChain (C k) sb ab k :: (M ++ chObs sb ab C (dropK K k))) :=
  (((dropK_perm hd hk).map fun k => obChain (C k) sb ab k).append_left M).trans List.perm_middle
/-- A key's chain to the front. -/
theorem ch_bring {F Fs Fa : Nat → Prop} {s : RS} {ws : List Int} {bs : List (List (Int × Nat))} (hd : K.Nodup) {k : Nat} (hk : k ∈ K) (h : Sep w0 W (obIx xb F sb ab n bs :: obStore sb Fs s :: obArena ab Fa ws :: (M ++ chObs sb ab C K))) :
    Sep w0 W (obIx xb F sb ab n bs :: chL (C k) sb ab k Fs Fa s ws (M ++ chObs sb ab C (dropK K k))) := by
  refine h.perm (List.Perm.cons _ ?_)
  exact (((chObs_perm hd hk M).cons _).cons _).trans (List.perm_middle (l₁ := [obStore sb Fs s, obArena ab Fa ws]))
theorem ch_back {F Fs Fa : Nat → Prop} {s : RS} {ws : List Int} {bs : List (List (Int × Nat))} (hd : K.Nodup) {k : Nat} (hk : k ∈ K) (h : Sep w0 W (obIx xb F sb ab n bs :: chL (C k) sb ab k Fs Fa s ws (M ++ chObs sb ab C (dropK K k)))) :
    Sep w0 W (obIx xb F sb ab n bs :: obStore sb Fs s :: obArena ab Fa ws :: (M ++ chObs sb ab C K)) := by
  refine h.perm (List.Perm.cons _ ?_)
  exact (List.perm_middle (l₁ := [obStore sb Fs s, obArena ab Fa ws])).symm.trans (((chObs_perm hd hk M).cons _).cons _).symm
theorem bsOf_small (hn : 1 ≤ n) (hd : K.Nodup) (hl : ∀ k ∈ K, k < 64) (i : Nat) : ((bsOf n K C).getD i []).length ≤ 100000 := (bsOf_keyed (C := C) hn hd hl).small i
theorem hw_find (h : HW w0 xb sb ab N n live K C L M W) (hn1 : 1 ≤ n) (hn : n ≤ 64) {k : Nat} (hk : k ∈ K) :
    Calls Tryz.prog 13 #[.pointer (some ⟨xb, 0, none⟩), .int .i64 k] W fun e w' => e = .returned (.tuple #[.pointer (some ⟨C k, 0, none⟩), .bool true]) ∧ HW w0 xb sb ab N n live K C L M w' := by
  obtain ⟨F, Fs, Fa, s, ws, h, hc⟩ := h
  refine (sx_find h hn1 hn (bsOf_small hn1 hc.nd hc.lt) k).mono fun e w' r => ?_
  rw [bsOf_some hn1 hc.nd hc.lt hk] at r
  obtain ⟨r1, F', r2⟩ := r
  exact ⟨r1, F', Fs, Fa, s, ws, r2, hc⟩
theorem hw_find_no (h : HW w0 xb sb ab N n live K C L M W) (hn1 : 1 ≤ n) (hn : n ≤ 64) {x : Int} (hx : ∀ k ∈ K, (k : Int) ≠ x) :
    Calls Tryz.prog 13 #[.pointer (some ⟨xb, 0, none⟩), .int .i64 x] W fun e w' => e = .returned (.tuple #[.pointer none, .bool false]) ∧ HW w0 xb sb ab N n live K C L M w' := by
  obtain ⟨F, Fs, Fa, s, ws, h, hc⟩ := h
  refine (sx_find h hn1 hn (bsOf_small hn1 hc.nd hc.lt) x).mono fun e w' r => ?_
  rw [bsOf_none hn1 hc.nd hc.lt hx] at r
  obtain ⟨r1, F', r2⟩ := r
  exact ⟨r1, F', Fs, Fa, s, ws, r2, hc⟩
theorem hw_put_old (h : HW w0 xb sb ab N n live K C L M W) (hn1 : 1 ≤ n) (hn : n ≤ 64) {k : Nat} (hk : k ∈ K) :
    Calls Tryz.prog 7 #[.pointer (some ⟨xb, 0, none⟩), .int .i64 k] W fun e w' => e = .returned (.tuple #[.pointer (some ⟨C k, 0, none⟩), .int .i64 0]) ∧ HW w0 xb sb ab N n live K C L M w' := by
  obtain ⟨F, Fs, Fa, s, ws, h, hc⟩ := h
  refine (sx_put_old h hn1 hn (bsOf_small hn1 hc.nd hc.lt) (by have := hc.lt k hk; omega) (bsOf_some hn1 hc.nd hc.lt hk)).mono fun e w' r => ?_
  obtain ⟨r1, F', r2⟩ := r
  exact ⟨r1, F', Fs, Fa, s, ws, r2, hc⟩
theorem hw_put (h : HW w0 xb sb ab N n live K C L M W) (hn1 : 1 ≤ n) (hn : n ≤ 64) {k : Nat} (hk64 : k < 64) (hk : k ∉ K) :
    Calls Tryz.prog 7 #[.pointer (some ⟨xb, 0, none⟩), .int .i64 k] W fun e w' => ∃ cb, e = .returned (.tuple #[.pointer (some ⟨cb, 0, none⟩), .int .i64 0]) ∧ HW w0 xb sb ab N n live (K ++ [k]) (updC C k cb) L M w' := by
  obtain ⟨F, Fs, Fa, s, ws, h, hc⟩ := h
  have h2 := h.perm ((List.Perm.swap (obArena ab Fa ws) (obStore sb Fs s) (M ++ chObs sb ab C K)).cons _)
  have hno : ∀ j ∈ K, (j : Int) ≠ (k : Int) := fun j hj e => hk (Int.ofNat.inj e ▸ hj)
  refine (sx_put_new h2 hn1 hn (bsOf_small hn1 hc.nd hc.lt) (show k ≤ 63 by omega) hc.wl (bsOf_none hn1 hc.nd hc.lt hno)).mono fun e w' r => ?_
  obtain ⟨cb, r1, F', r2⟩ := r
  refine ⟨cb, r1, F', Fs, Fa, s, ws, ?_, hc.put hk64 hk⟩
  rw [bsOf_put hn1 hk] at r2
  refine r2.perm (List.Perm.cons _ ?_)
  have e : chObs sb ab (updC C k cb) (K ++ [k]) = chObs sb ab C K ++ [obChain cb sb ab k] := by
    unfold chObs
    rw [List.map_append]
    congr 1
    · exact List.map_congr_left fun j hj => by rw [updC_ne (C := C) (k := k) (c := cb) (x := j) (fun e => hk (e ▸ hj))]
    · simp [updC_same]
  rw [e, ← List.append_assoc]
  refine (List.Perm.cons _ (List.Perm.swap _ _ _)).trans ((List.Perm.swap _ _ _).trans (List.Perm.cons _ (List.Perm.cons _ ?_)))
  exact (List.perm_append_comm (l₁ := [obChain cb sb ab k]))
theorem hw_make (h : HW w0 xb sb ab N n live K C L M W) (hlt : live.length < N) {key v x y : Int} (k0 : 0 ≤ key) (k1 : key ≤ 63) (v0 : 0 ≤ v) (v1 : v ≤ 65535) :
    Calls Tryz.prog 8 #[.pointer (some ⟨sb, 0, none⟩), .int .i64 key, .int .i64 v, .int .u64 x, .int .u64 y] W fun e w' => ∃ z, e = .returned (.tuple #[.int .u64 z, .int .i64 0]) ∧ z ∉ live ∧ HW w0 xb sb ab N n (live ++ [z]) K C L M w' := by
  obtain ⟨F, Fs, Fa, s, ws, h, hc⟩ := h
  obtain ⟨l, i, hl⟩ := hc.room hlt
  refine (make_ok sb Fs s l i key v x y W h.second k0 k1 v0 v1 hl).mono fun e w' r => ?_
  obtain ⟨Fs', hs⟩ := h.swap.store r.2
  obtain ⟨m1, m3⟩ := hc.make hl key v x y
  exact ⟨_, r.1, m1, F, Fs', Fa, _, ws, hs.swap, m3⟩
theorem hw_push (h : HW w0 xb sb ab N n live K C L M W) {k : Nat} (hk : k ∈ K) {z : Int} (hz : z ∈ live) (hn : ∀ j, j < 64 → z ∉ L j) :
    Calls Tryz.prog 9 #[.pointer (some ⟨C k, 0, none⟩), .int .u64 z] W fun e w' => e = .returned (.bool true) ∧ HW w0 xb sb ab N n live K C (updC L k (z :: L k)) M w' := by
  obtain ⟨F, Fs, Fa, s, ws, h, hc⟩ := h
  have hr := hc.range hz
  have hk64 := hc.lt k hk
  refine (chain_push (hc.ch k hk64) z (by omega) (by omega) W ((ch_bring hc.nd hk h).chL_front (P := [_]))).mono fun e w' r => ?_
  rcases r with ⟨r1, _⟩ | ⟨_, _, r3, r4, _⟩
  · rcases r1 with r1 | r1
    · rw [hc.lives hz] at r1
      cases r1
    · exact absurd r1 (hn k hk64)
  · exact ⟨r3, F, Fs, Fa, _, _, ch_back hc.nd hk (r4.chL_back (P := [_])), hc.push hk hz hn⟩
theorem hw_head (h : HW w0 xb sb ab N n live K C L M W) {k : Nat} (hk : k ∈ K) :
    Calls Tryz.prog 12 #[.pointer (some ⟨C k, 0, none⟩)] W fun e w' => e = .returned (.int .u64 ((L k).getD 0 0)) ∧ HW w0 xb sb ab N n live K C L M w' := by
  obtain ⟨F, Fs, Fa, s, ws, h, hc⟩ := h
  have hk64 := hc.lt k hk
  refine (chain_head W ((ch_bring hc.nd hk h).chL_front (P := [_])) (hc.ch k hk64).ix).mono fun e w' r => ?_
  exact ⟨by rw [r.1, (hc.ch k hk64).head], F, Fs, Fa, s, ws, ch_back hc.nd hk (r.2.1.chL_back (P := [_])), hc⟩
theorem hw_len (h : HW w0 xb sb ab N n live K C L M W) {k : Nat} (hk : k ∈ K) :
    Calls Tryz.prog 14 #[.pointer (some ⟨C k, 0, none⟩)] W fun e w' => e = .returned (.int .i64 (L k).length) ∧ HW w0 xb sb ab N n live K C L M w' := by
  obtain ⟨F, Fs, Fa, s, ws, h, hc⟩ := h
  have hk64 := hc.lt k hk
  refine (chain_len (hc.ch k hk64) W ((ch_bring hc.nd hk h).chL_front (P := [_]))).mono fun e w' r => ?_
  exact ⟨r.1, F, Fs, Fa, s, ws, ch_back hc.nd hk (r.2.1.chL_back (P := [_])), hc⟩
theorem hw_cut (h : HW w0 xb sb ab N n live K C L M W) {k : Nat} (hk : k ∈ K) {z : Int} {r : List Int} (hz : L k = z :: r) :
    Calls Tryz.prog 11 #[.pointer (some ⟨C k, 0, none⟩), .int .u64 z] W fun e w' => e = .returned (.bool true) ∧ HW w0 xb sb ab N n live K C (updC L k r) M w' := by
  obtain ⟨F, Fs, Fa, s, ws, h, hc⟩ := h
  have hk64 := hc.lt k hk
  refine (chain_cut (hc.ch k hk64) z W ((ch_bring hc.nd hk h).chL_front (P := [_]))).mono fun e w' q => ?_
  rcases q with ⟨r1, _⟩ | ⟨r1, j, hj, hjz, r2, _⟩
  · exact absurd (by rw [hz]; simp) r1
  · have hj0 : j = 0 := by
      have h1 := (hc.ch k hk64).nd
      refine nodup_idx h1 hj (by rw [hz]; simp) ?_
      rw [hjz, hz]
      rfl
    subst hj0
    have := hc.cut hk hj
    rw [show (L k).eraseIdx 0 = r by rw [hz]; rfl] at this
    exact ⟨r1, F, Fs, Fa, _, _, ch_back hc.nd hk (r2.chL_back (P := [_])), this⟩
theorem hw_drop_no (h : HW w0 xb sb ab N n live K C L M W) (hn1 : 1 ≤ n) (hn : n ≤ 64) {x : Int} (hx : ∀ k ∈ K, (k : Int) ≠ x) :
    Calls Tryz.prog 10 #[.pointer (some ⟨xb, 0, none⟩), .int .i64 x] W fun e w' => e = .returned (.bool false) ∧ HW w0 xb sb ab N n live K C L M w' := by
  obtain ⟨F, Fs, Fa, s, ws, h, hc⟩ := h
  refine (sx_drop_none h hn1 hn (bsOf_small hn1 hc.nd hc.lt) (bsOf_none hn1 hc.nd hc.lt hx)).mono fun e w' r => ?_
  obtain ⟨r1, F', r2⟩ := r
  exact ⟨r1, F', Fs, Fa, s, ws, r2, hc⟩
theorem hw_drop_full (h : HW w0 xb sb ab N n live K C L M W) (hn1 : 1 ≤ n) (hn : n ≤ 64) {k : Nat} (hk : k ∈ K) (hl : 0 < (L k).length) :
    Calls Tryz.prog 10 #[.pointer (some ⟨xb, 0, none⟩), .int .i64 k] W fun e w' => e = .returned (.bool false) ∧ HW w0 xb sb ab N n live K C L M w' := by
  obtain ⟨F, Fs, Fa, s, ws, h, hc⟩ := h
  have hk64 := hc.lt k hk
  refine (sx_drop_full (hc.ch k hk64) (ch_bring hc.nd hk h) hn1 hn (bsOf_small hn1 hc.nd hc.lt) (bsOf_some hn1 hc.nd hc.lt hk) hl).mono fun e w' r => ?_
  obtain ⟨r1, F', r2⟩ := r
  exact ⟨r1, F', Fs, Fa, s, ws, ch_back hc.nd hk r2, hc⟩
theorem hw_drop (h : HW w0 xb sb ab N n live K C L M W) (hn1 : 1 ≤ n) (hn : n ≤ 64) {k : Nat} (hk : k ∈ K) (hl : L k = []) :
    Calls Tryz.prog 10 #[.pointer (some ⟨xb, 0, none⟩), .int .i64 k] W fun e w' => e = .returned (.bool true) ∧ HW w0 xb sb ab N n live (dropK K k) C L M w' := by
  obtain ⟨F, Fs, Fa, s, ws, h, hc⟩ := h
  have hk64 := hc.lt k hk
  obtain ⟨A, B, g1, g2, g3, g4⟩ := bsOf_drop (C := C) hn1 hc.nd hk
  refine (sx_drop (hl ▸ hc.ch k hk64) (ch_bring hc.nd hk h) hn1 hn (bsOf_small hn1 hc.nd hc.lt) (bsOf_some hn1 hc.nd hc.lt hk) hc.wl hk64 g1 g2 g3).mono fun e w' r => ?_
  obtain ⟨r1, F', r2⟩ := r
  rw [g4] at r2
  exact ⟨r1, F', Fs, Fa, s, _, r2.swap.tail, hc.drop hk hl⟩
theorem hw_keys (h : HW w0 xb sb ab N n live K C L M W) (hn1 : 1 ≤ n) (hn : n ≤ 64) :
    Calls Tryz.prog 15 #[.pointer (some ⟨xb, 0, none⟩)] W fun e w' => ∃ sv, e = .returned sv ∧ HW w0 xb sb ab N n live K C L (obRead sv (upK K) :: M) w' := by
  obtain ⟨F, Fs, Fa, s, ws, h, hc⟩ := h
  have hk := bsOf_keyed (C := C) hn1 hc.nd hc.lt
  refine (sx_keys h hn hk.small (fun i hi => by have := allKeys_few hk i; omega)).mono fun e w' r => ?_
  obtain ⟨sv, r1, F', r2⟩ := r
  rw [keys_up hn1 hc.nd hc.lt] at r2
  exact ⟨sv, r1, F', Fs, Fa, s, ws, r2.back4, hc⟩
theorem hw_in (h : HW w0 xb sb ab N n live K C L M W) (hn1 : 1 ≤ n) (hn : n ≤ 64) {i : Nat} (hi : i < n) :
    Calls Tryz.prog 20 #[.pointer (some ⟨xb, 0, none⟩), .int .i64 i] W fun e w' => ∃ sv, e = .returned sv ∧ HW w0 xb sb ab N n live K C L (obRow .i64 3 sv ((inB n K i).map fun k : Nat => (k : Int)) :: M) w' := by
  obtain ⟨F, Fs, Fa, s, ws, h, hc⟩ := h
  refine (sx_in h hn hi (bsOf_small hn1 hc.nd hc.lt i)).mono fun e w' r => ?_
  obtain ⟨sv, r1, F', r2⟩ := r
  rw [bsOf_keys hi] at r2
  exact ⟨sv, r1, F', Fs, Fa, s, ws, r2.back4, hc⟩
theorem hw_in_out (h : HW w0 xb sb ab N n live K C L M W) (i : Int) (hi : i < 0 ∨ (n : Int) ≤ i) :
    Calls Tryz.prog 20 #[.pointer (some ⟨xb, 0, none⟩), .int .i64 i] W fun e w' => e = .returned (.slice none 0 0) ∧ W = w' := by
  obtain ⟨F, Fs, Fa, s, ws, h, hc⟩ := h
  exact ix_in_out W h.head i hi
end
end Go.Proofs.YtoidmakaijkglaaGreat
