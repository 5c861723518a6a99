/- A key's versions: has, Links, Len, Cut, Push. -/
import Derived.Test.YtoidmakaijkglaaGreatY2
namespace Go.Proofs.YtoidmakaijkglaaGreat
open Go.RowKit
attribute [local go_sem] Oper.semAt_some

theorem enters_f {f : FuncId} {fn : Func} {c : Code} (hf : Tryz.prog.funcs[f]? = some fn) (hname : (fn.name == "runtime.NumGoroutine") = false) (hb : fn.body = some c) (args : Array Value) (w : World) :
    (callFunc f args).run Tryz.prog w = .ok (.enter f args) w := enters_body hf hname hb args w

theorem Sep.inside {w0 w : World} {L : List Ob} (h : Sep w0 w L) {B : Nat} (hB : w.heap.size ≤ B) : ∀ o ∈ L, ∀ k, o.F k → k < B := fun o ho k hk => Nat.lt_of_lt_of_le (o.within w (h.each o ho).1 k hk) hB
theorem Abide.size {B C : Nat} : Abide B (fun W => C ≤ W.heap.size) := fun _ _ h ⟨_, hm, _⟩ => Nat.le_trans h hm.size
section
variable {w0 w : World} {cb sb ab at' pb B : Nat} {Fs Fa : Nat → Prop} {s : RS} {ws : List Int} {M : List Ob}
theorem chSt_abide (h : Sep w0 w (chL cb sb ab at' Fs Fa s ws M)) (hB : w.heap.size ≤ B) (C : Nat) : Abide B (fun W => ChSt w0 cb sb ab at' pb Fs Fa s ws M W ∧ C ≤ W.heap.size) :=
  ((Abide.sep (Nat.le_trans h.bel.size hB) (h.inside hB)).and Abide.blk).and Abide.size
theorem chF_lt (h : Sep w0 w (chL cb sb ab at' Fs Fa s ws M)) : ∀ k, (Fs k ∨ Fa k) → k < w.heap.size := fun k hk => by
  rcases hk with hk | hk
  · exact (chL_store h).within k hk
  · exact (chL_arena h).within k hk
end
/-- A step that turns none of the things. -/
theorem sep_other {w0 w w' : World} {L : List Ob} {G : Nat → Prop} (h : Sep w0 w L) (hm : Mod G w w') (hG : ∀ o ∈ L, ∀ k, o.F k → ¬ G k) (hB : ∀ k, G k → w0.heap.size ≤ k) : Sep w0 w' L :=
  ⟨h.bel.trans (hm.below hB h.bel.size), fun o ho => ⟨o.keep w w' G (h.each o ho).1 hm (fun k hk => hG o ho k hk), (h.each o ho).2⟩, h.apart⟩
/-- A block of the call's own that lies behind w is none of those that lay. -/
theorem not_in {w : World} {S : Nat → Prop} (hS : ∀ k, S k → k < w.heap.size) {k : Nat} (hk : w.heap.size ≤ k) : ¬ S k := fun h => by have := hS k h; omega

set_option maxRecDepth 100000 in
set_option maxHeartbeats 3200000 in
theorem chain_has {w0 : World} {cb sb ab at' : Nat} {Fs Fa : Nat → Prop} {s : RS} {ws : List Int} {M : List Ob} {L : List Int} (hC : Chn s ws at' L) (x : Int) (w : World) (h : Sep w0 w (chL cb sb ab at' Fs Fa s ws M)) :
    Calls Tryz.prog 32 #[.pointer (some ⟨cb, 0, none⟩), .int .u64 x] w fun e w' => e = .returned (.bool (L.contains x)) ∧ Sep w0 w' (chL cb sb ab at' Fs Fa s ws M) ∧ Mod (fun k => Fs k ∨ Fa k) w w' := by
  refine (callsIn_wide (n := 3)).1 ?_
  refine callsIn_of_wp_marks Tryz.func32 rfl trivial ?_ rfl
  simp only [Tryz.ntmps32, List.size_toArray, List.length_cons, List.length_nil, Nat.reduceAdd, Nat.reduceSub, Array.replicate_succ, Array.replicate_zero, List.push_toArray, List.append_toArray, List.nil_append, List.cons_append]
  gi_wp2_with (fail)
  refine ⟨trivial, ?_⟩
  refine (callsIn_wide.2 (chain_all _ _)).mono ?_
  rintro e w1 ⟨rfl, rfl⟩
  gi_wp2_with (fail)
  have hF := chF_lt h
  obtain ⟨W0, hW0⟩ : ∃ W0, ((w.alloc (.cells #[.int .u64 x] 32)).alloc (.cells #[.bool false] 4)).alloc (.cells #[.pointer (some ⟨cb, 0, none⟩)] 29) = W0 := ⟨_, rfl⟩
  have hz : W0.heap.size = w.heap.size + 3 := by rw [← hW0]; simp
  have b0 : W0.heap[w.heap.size]? = some (.cells #[.int .u64 x] 32 (0, 0)) := by rw [← hW0]; exact blk_alloc (blk_alloc (blk_new _ _))
  have b1 : W0.heap[w.heap.size + 1]? = some (.cells #[.bool false] 4 (0, 0)) := by rw [← hW0]; exact blk_alloc (blk_at (by simp))
  have b2 : W0.heap[w.heap.size + 1 + 1]? = some (.cells #[.pointer (some ⟨cb, 0, none⟩)] 29 (0, 0)) := by rw [← hW0]; exact blk_at (by simp)
  have hB0 : Below w.heap.size w W0 := by rw [← hW0]; exact (((Below.refl _ _).alloc (Nat.le_refl _) _).alloc (by simp) _).alloc (by simp; omega) _
  have hM0 : Mod (fun k => Fs k ∨ Fa k) w W0 := Mod.of_below hB0
  have hS0 := h.below hB0
  rw [hW0]
  refine range_mine (F := Fence.wide) (α := Int × Ver) (n := 3) rfl (by decide) (gf := 55) (lb := #[.pointer (some ⟨w.heap.size + 1 + 1, 0, none⟩)]) rfl trivial (enters_f Tryz.func55 (by kernel_rfl) rfl)
    (all_stops (w0 := w0) (cb := cb) (sb := sb) (ab := ab) (Fs := Fs) (Fa := Fa) (M := M) hC (3 - 1) (w.heap.size + 1 + 1) W0.heap.size (fun hk => not_in hF (by omega) (.inl hk)) (fun hk => not_in hF (by omega) (.inr hk))) keepsVer_t (fun W l o o' _ hl ho => keepsVer_b W l o o' hl ho)
    (fun k hk => by have := hF k hk; omega) (fun _ => rfl) (chSt_abide hS0 (Nat.le_refl _) _) ⟨⟨hS0, b2⟩, Nat.le_refl _⟩
    (fun pre W => (∀ y ∈ pre, ¬ y.1 = x) ∧ W.heap[w.heap.size]? = some (.cells #[.int .u64 x] 32 (0, 0)) ∧ W.heap[w.heap.size + 1]? = some (.cells #[.bool false] 4 (0, 0)) ∧ Mod (fun k => Fs k ∨ Fa k) w W)
    (fun c pre W => (c = .ret ∧ ∃ y ∈ pre, y.1 = x) ∧ W.heap[w.heap.size + 1]? = some (.cells #[.bool true] 4 (0, 0)) ∧ ChSt w0 cb sb ab at' (w.heap.size + 1 + 1) Fs Fa s ws M W ∧ Mod (fun k => Fs k ∨ Fa k) w W)
    (fun pre => (Abide.pure _).and (Abide.blk.and (Abide.blk.and (Abide.mod (by omega)))))
    (fun c pre => (Abide.pure _).and (Abide.blk.and (((Abide.sep (Nat.le_trans hS0.bel.size (Nat.le_refl _)) (hS0.inside (Nat.le_refl _))).and Abide.blk).and (Abide.mod (by omega)))))
    (fun pre X Y hx hm => ⟨hx.1, hm.keep hx.2.1 (not_in hF (Nat.le_refl _)), hm.keep hx.2.2.1 (not_in hF (by omega)), hx.2.2.2.trans hm⟩)
    ⟨fun y hy => by simp at hy, b0, b1, hM0⟩
    (fun y a' _ => a' = { tmps := #[.pointer (some ⟨cb, 0, none⟩), .int .u64 x, undef, .pointer (some ⟨w.heap.size, 0, none⟩), .pointer (some ⟨w.heap.size + 1, 0, none⟩), .int .u64 y.1, .pointer (some ⟨cb, 0, none⟩), .func (.func 55) #[] #[.pointer (some ⟨w.heap.size + 1 + 1, 0, none⟩)], .int .u64 y.1, y.2.value, undef, undef, undef], defers := [] })
    (fun _ _ => Abide.pure _) ?assign ?body ?done ?stop
  case assign =>
    intro l pre y W K hI hst hK
    simp only [encV]
    gi_wp2_with (fail)
    exact hK _ _ (KeepsFrom.refl _ _) (fun k cs _ hk => hk) hst hI rfl
  case body =>
    rintro l pre y a' W ⟨hp, d0, d1, hm⟩ hst rfl hpre
    have e0 := blk_cell d0 0
    have e1 := blk_cell d1 0
    have z1 := blk_free d1 0
    simp at e0 e1
    have HST := Lib.hid (And.intro d0 (And.intro d1 (And.intro hst hm)))
    clear hst hm d0 d1
    by_cases hx : y.1 = x
    · have hb : (y.1 == x) = true := by simpa using hx
      have HX := Lib.hid hx
      clear hx
      gi_wp2_with (fail)
      have h1 : Mod (fun k => k = w.heap.size + 1) W (W.setCell ⟨w.heap.size + 1, 0, none⟩ (.bool true)) := (Mod.refl (fun k => k = w.heap.size + 1) _).setCell (p := ⟨w.heap.size + 1, 0, none⟩) (.inl rfl) _
      refine ⟨(KeepsOthers.setCell _ _ _).from _, ⟨rfl, y, by simp, HX.out⟩, (blk_set (i := 0) HST.out.2.1).trans rfl, ⟨sep_other HST.out.2.2.1.1.1 h1 (fun o ho k hk e => ?_) (fun k hk => by have := h.bel.size; omega), ?_⟩, HST.out.2.2.2.next h1 (fun k hk => .inr (by omega))⟩
      · have := h.inside (Nat.le_refl _) o ho k hk
        omega
      · exact h1.keep HST.out.2.2.1.1.2 (by omega)
    · have hb : (y.1 == x) = false := by simpa using hx
      have HP := Lib.hid (show ∀ z ∈ pre ++ [y], ¬ z.1 = x from fun z hz => by
        rcases List.mem_append.1 hz with hz | hz
        · exact hp z hz
        · simp at hz
          subst hz
          exact hx)
      clear hx hp
      gi_wp2_with (fail)
      exact ⟨KeepsFrom.refl _ _, fun k cs _ hk => hk, HST.out.2.2.1, HP.out, HST.out.1, HST.out.2.1, HST.out.2.2.2⟩
  case done =>
    rintro D W hD ⟨hp, d0, d1, hm⟩ ⟨⟨hst, _⟩, _⟩ hK
    have e1 := blk_cell d1 0
    have z1 := blk_free d1 0
    simp at e1
    have HST := Lib.hid (And.intro hst (And.intro hm (And.intro d1 hp)))
    clear hst hm d0 d1 hp
    gi_wp2_with (fail)
    have h1 : Mod (fun k => k = w.heap.size + 1) W (W.setCell ⟨w.heap.size + 1, 0, none⟩ (.bool false)) := (Mod.refl (fun k => k = w.heap.size + 1) _).setCell (p := ⟨w.heap.size + 1, 0, none⟩) (.inl rfl) _
    have hK1 := (KeepsOthers.setCell W ⟨w.heap.size + 1, 0, none⟩ (.bool false)).same D _ hK rfl
    have hs1 : Sep w0 _ (chL cb sb ab at' Fs Fa s ws M) := sep_other HST.out.1 h1 (fun o ho k hk e => by have := h.inside (Nat.le_refl _) o ho k hk; omega) (fun k hk => by have := h.bel.size; omega)
    have hb := BookStep.putObj (B := W0.heap.size) _ (.deferred none) hD hK1 rfl
    have hs2 := Abide.sep (Nat.le_trans hS0.bel.size (Nat.le_refl _)) (hS0.inside (Nat.le_refl _)) _ _ hs1 hb
    have hm2 := Abide.mod (S := fun k => Fs k ∨ Fa k) (w := w) (by omega) _ _ (HST.out.2.1.next h1 (fun k hk => .inr (by omega))) hb
    have hc2 := blk_cell (Abide.blk _ _ ((blk_set (i := 0) HST.out.2.2.1).trans rfl) hb) 0
    simp at hc2
    refine ⟨by simp, .inl ⟨_, _, rfl, run_takeDeferred hK1, ?_⟩⟩
    refine ⟨.bool false, by simp [results, Tryz.f32, go_sem, hc2], ?_, hs2, hm2⟩
    refine ret_bool (Eq.symm ?_)
    rw [List.contains_eq_mem, decide_eq_false_iff_not]
    intro hx
    exact HST.out.2.2.2 (x, s.ver (slotOf x)) (List.mem_map.2 ⟨x, hx, rfl⟩) rfl
  case stop =>
    rintro D c pre W hD hpre ⟨⟨rfl, y, hy, hyx⟩, d1, ⟨hst, _⟩, hm⟩ hK
    have e1 := blk_cell d1 0
    simp at e1
    have HST := Lib.hid (And.intro hst (And.intro hm (And.intro d1 hyx)))
    clear hst hm d1 hyx
    gi_wp2_with (fail)
    have hb := BookStep.putObj (B := W0.heap.size) _ (.deferred none) hD hK rfl
    have hs2 := Abide.sep (Nat.le_trans hS0.bel.size (Nat.le_refl _)) (hS0.inside (Nat.le_refl _)) _ _ HST.out.1 hb
    have hm2 := Abide.mod (S := fun k => Fs k ∨ Fa k) (w := w) (by omega) _ _ HST.out.2.1 hb
    have hc2 := blk_cell (Abide.blk _ _ HST.out.2.2.1 hb) 0
    simp at hc2
    refine ⟨by simp, .inl ⟨_, _, rfl, run_takeDeferred hK, ?_⟩⟩
    refine ⟨.bool true, by simp [results, Tryz.f32, go_sem, hc2], ?_, hs2, hm2⟩
    refine ret_bool (Eq.symm ?_)
    rw [List.contains_eq_mem, decide_eq_true_iff]
    obtain ⟨z, hz, hzy⟩ := List.mem_map.1 (hpre.subset hy)
    rw [← HST.out.2.2.2, ← hzy]
    exact hz

section
variable {F : Fence} {n' : Nat} {T E : TypeId} {zero : Value} {size bytes : Nat} {ops : Array Oper} {o : Oper} {a : Act}
theorem walkIn_append {rest : List Oper} {Q : Exit → Act → World → Prop} (hgd : o.guard = none) (s x : Operand)
    (ho : o.op = .call { callee := .builtin .append, args := #[s, x], argTypes := #[T, T] }) (ht : Tryz.prog.underlying T = some (.slice E))
    (hinfo : (Tryz.prog.info? E).map (fun i => (i.zero, i.size, i.bytes)) = some (some zero, size, bytes)) (hzs : zero.cells.size = size) (hsz : 0 < size) (hby : bytes ≤ 64)
    {base : Nat} {w : World} {v u : Value} {n m : Nat} {xs ys : List Value} (hs : a.eval s = v) (hown : w.ownsRow base E size v n xs) (hx : a.eval x = u) (hsrc : SrcAt w u m size ys) (h1 : ∀ y ∈ ys, y.oneCell' = true)
    (hlen : n + m ≤ 1099511627776) (hb : base ≤ w.heap.size)
    (h : ∀ v' w', Appended w w' base E size v v' (n + m) (xs ++ ys) → wpListIn F n' Tryz.prog ops Q rest (a.put o.dst v') w') :
    wpListIn F n' Tryz.prog ops Q (o :: rest) a w := by
  refine wpListIn_plain hgd fun K hK => ?_
  obtain ⟨v', w', hr, h2⟩ := run_append_cells ht hinfo hzs hsz hby o.type hown hsrc h1 hlen hb
  unfold Oper.wpIn
  refine ⟨?_, ?_⟩
  · simp [Oper.about, ho, resolve, Target.leads, Sem.run_pure]
  · rw [Oper.semAt_plain F _ _ (by rw [ho]; intro c hc'; cases hc')]
    simp only [execOp, ho, resolve, invoke, builtin, Sem.run_bind, Sem.run_pure, Result.andThen_ok, List.map_toArray, List.map_cons, List.map_nil, hs, hx, hr]
    exact hK _ _ (h v' w' h2)
end
theorem Abide.owned {B : Nat} {k : IntKind} {E : TypeId} {v : Value} {l : List Int} : Abide B (fun W => Owned k E W v l) := fun X Y h ⟨G, hm, hg⟩ => by
  refine h.mod hm (fun g hgv hG => ?_)
  obtain ⟨_, o, ho, hc⟩ := hg g hG
  rcases h.2 with ⟨hv, _⟩ | ⟨g', cap, cur, hv, _, hh, _⟩
  · rw [hv] at hgv
    simp [Value.ownBlock] at hgv
  · rw [hv] at hgv
    have : g' = g := Option.some.inj hgv
    subst this
    rw [ho] at hh
    cases hh
    cases hc
theorem Owned.cells {k : IntKind} {E : TypeId} {w : World} {v : Value} {l : List Int} (h : Owned k E w v l) {g : Nat} (hg : v.ownBlock = some g) : ∃ cs, w.heap[g]? = some (.cells cs E (0, 0)) := by
  rcases h.2 with ⟨hv, _⟩ | ⟨g', cap, cur, hv, _, hh, _⟩
  · rw [hv] at hg
    simp [Value.ownBlock] at hg
  · rw [hv] at hg
    have : g' = g := Option.some.inj hg
    subst this
    exact ⟨_, hh⟩
theorem KeepsFrom.of_mod {B : Nat} {G : Nat → Prop} {W W' : World} (hm : Mod G W W') (hG : ∀ k, G k → k < B ∨ ∃ cs T, W.heap[k]? = some (.cells cs T (0, 0))) : KeepsFrom B W W' :=
  ⟨hm.size, fun k o hB hk ho => hm.keep hk (fun hg => by
    rcases hG k hg with h | ⟨cs, T, h⟩
    · omega
    · rw [hk] at h
      cases h
      cases ho)⟩
theorem Abide.ex {α : Type} {B : Nat} {P : α → World → Prop} (h : ∀ a, Abide B (P a)) : Abide B (fun W => ∃ a, P a W) := fun X Y ⟨a, ha⟩ hb => ⟨a, h a X Y ha hb⟩
/-- A new thing beside those that lay. -/
theorem Sep.add {w0 w : World} {L : List Ob} {A : Ob} {B : Nat} (h : Sep w0 w L) (hL : ∀ o ∈ L, ∀ k, o.F k → k < B) (hp : A.P w) (hA : ∀ k, A.F k → B ≤ k) (hB : w0.heap.size ≤ B) : Sep w0 w (A :: L) :=
  ⟨h.bel, fun o ho => by
    rcases List.mem_cons.1 ho with rfl | ho
    · exact ⟨hp, fun k hk => Nat.le_trans hB (hA k hk)⟩
    · exact h.each o ho, List.pairwise_cons.2 ⟨fun o ho k hk hok => by have := hA k hk; have := hL o ho k hok; omega, h.apart⟩⟩

set_option maxRecDepth 100000 in
set_option maxHeartbeats 3200000 in
theorem chain_links {w0 : World} {cb sb ab at' : Nat} {Fs Fa : Nat → Prop} {s : RS} {ws : List Int} {M : List Ob} {L : List Int} (hC : Chn s ws at' L) (w : World) (h : Sep w0 w (chL cb sb ab at' Fs Fa s ws M)) :
    Calls Tryz.prog 39 #[.pointer (some ⟨cb, 0, none⟩)] w fun e w' => ∃ a cap, e = .returned (.slice a L.length cap) ∧ Sep w0 w' (obRow .u64 32 (.slice a L.length cap) L :: chL cb sb ab at' Fs Fa s ws M) ∧ Mod (fun k => Fs k ∨ Fa k) w w' ∧ (∀ g, (Value.slice a L.length cap).ownBlock = some g → w.heap.size ≤ g) := by
  refine (callsIn_wide (n := 3)).1 ?_
  refine callsIn_of_wp_marks Tryz.func39 rfl trivial ?_ rfl
  simp only [Tryz.ntmps39, List.size_toArray, List.length_cons, List.length_nil, Nat.reduceAdd, Nat.reduceSub, Array.replicate_succ, Array.replicate_zero, List.push_toArray, List.append_toArray, List.nil_append, List.cons_append]
  gi_wp2_with (fail)
  refine ⟨trivial, ?_⟩
  refine (callsIn_wide.2 (chain_all _ _)).mono ?_
  rintro e w1 ⟨rfl, rfl⟩
  gi_wp2_with (fail)
  have hF := chF_lt h
  have hLl := Nat.le_trans hC.len (chL_store h).pool.1.n2
  obtain ⟨W0, hW0⟩ : ∃ W0, (w.alloc (.cells #[.slice none 0 0] 103)).alloc (.cells #[.pointer (some ⟨cb, 0, none⟩)] 29) = W0 := ⟨_, rfl⟩
  have hz : W0.heap.size = w.heap.size + 2 := by rw [← hW0]; simp
  have b1 : W0.heap[w.heap.size]? = some (.cells #[.slice none 0 0] 103 (0, 0)) := by rw [← hW0]; exact blk_alloc (blk_new _ _)
  have b2 : W0.heap[w.heap.size + 1]? = some (.cells #[.pointer (some ⟨cb, 0, none⟩)] 29 (0, 0)) := by rw [← hW0]; exact blk_at (by simp)
  have hB0 : Below w.heap.size w W0 := by rw [← hW0]; exact ((Below.refl _ _).alloc (Nat.le_refl _) _).alloc (by simp) _
  have hM0 : Mod (fun k => Fs k ∨ Fa k) w W0 := Mod.of_below hB0
  have hS0 := h.below hB0
  rw [hW0]
  refine range_mine (F := Fence.wide) (α := Int × Ver) (n := 3) rfl (by decide) (gf := 55) (lb := #[.pointer (some ⟨w.heap.size + 1, 0, none⟩)]) rfl trivial (enters_f Tryz.func55 (by kernel_rfl) rfl)
    (all_stops (w0 := w0) (cb := cb) (sb := sb) (ab := ab) (Fs := Fs) (Fa := Fa) (M := M) hC (3 - 1) (w.heap.size + 1) W0.heap.size (fun hk => not_in hF (by omega) (.inl hk)) (fun hk => not_in hF (by omega) (.inr hk))) keepsVer_t (fun W l o o' _ hl ho => keepsVer_b W l o o' hl ho)
    (fun k hk => by have := hF k hk; omega) (fun _ => rfl) (chSt_abide hS0 (Nat.le_refl _) _) ⟨⟨hS0, b2⟩, Nat.le_refl _⟩
    (fun pre W => ∃ v, (∀ g, v.ownBlock = some g → w.heap.size + 2 ≤ g) ∧ W.heap[w.heap.size]? = some (.cells #[v] 103 (0, 0)) ∧ Owned .u64 32 W v (pre.map (·.1)) ∧ Mod (fun k => Fs k ∨ Fa k) w W)
    (fun _ _ _ => False)
    (fun pre => Abide.ex fun v => (Abide.pure _).and (Abide.blk.and (Abide.owned.and (Abide.mod (by omega)))))
    (fun c pre => Abide.pure _)
    (fun pre X Y hx hm => by
      obtain ⟨v, h1, h2, h3, h4⟩ := hx
      exact ⟨v, h1, hm.keep h2 (not_in hF (Nat.le_refl _)), h3.mod hm (fun g hg => not_in hF (by have := h1 g hg; omega)), h4.trans hm⟩)
    ⟨_, fun g hg => by simp [Value.ownBlock] at hg, b1, Owned.nil _ _ _, hM0⟩
    (fun y a' _ => a' = { tmps := #[.pointer (some ⟨cb, 0, none⟩), undef, .slice none 0 0, .pointer (some ⟨w.heap.size, 0, none⟩), .int .u64 y.1, .pointer (some ⟨cb, 0, none⟩), .func (.func 55) #[] #[.pointer (some ⟨w.heap.size + 1, 0, none⟩)], .int .u64 y.1, y.2.value, undef, undef, undef, undef, undef], defers := [] })
    (fun _ _ => Abide.pure _) ?assign ?body ?done ?stop
  case assign =>
    intro l pre y W K hI hst hK
    simp only [encV]
    gi_wp2_with (fail)
    exact hK _ _ (KeepsFrom.refl _ _) (fun k cs _ hk => hk) hst hI rfl
  case body =>
    rintro l pre y a' W ⟨v, hv, d1, hO, hm⟩ ⟨⟨hst, hpb⟩, hB⟩ rfl hpre
    have hlen : pre.length < L.length := by
      have := hpre.length_le
      simp [chXs] at this
      omega
    obtain ⟨a, cap, rfl, _⟩ := hO.form
    have e1 := blk_cell d1 0
    simp at e1
    simp only [List.length_map] at e1 d1 hO hv ⊢
    have HO := Lib.hid hO
    have HST := Lib.hid (And.intro d1 (And.intro hst (And.intro hpb (And.intro hm hB))))
    have HV := Lib.hid hv
    have hne : (Value.slice a pre.length cap).ownBlock ≠ some w.heap.size := fun e => by have := hv _ e; omega
    have hw := hm.size
    have hlt := blk_lt d1
    clear hO hst hpb hm hB d1 hv
    gi_wp2_with (gi_at_builtin; refine walkIn_append (zero := .int .u64 0) (base := 0) (n := pre.length) (m := 1) (xs := (pre.map (·.1)).map (Value.int .u64)) (ys := [.int .u64 y.1]) rfl _ _ rfl Tryz.underlying103 info_u64 rfl Nat.zero_lt_one (Nat.le_of_ble_eq_true rfl) rfl ?c1 rfl ?c2 (ints_one .u64 [_]) ?c3 (Nat.zero_le _) ?_)
    case c1 =>
      have := World.ownsRow.alloc HO.out (.cells #[.int .u64 y.1] 32)
      rw [List.length_map] at this
      exact this
    case c2 => exact SrcAt.one (blk_new _ _)
    case c3 => omega
    intro v' w' hA
    obtain ⟨a', cap', rfl⟩ := hA.val
    have d2 := hA.keep (blk_alloc (p := .cells #[.int .u64 y.1] 32) HST.out.1) hne
    have c2 := blk_cell d2 0
    have z2 := blk_free d2 0
    simp at c2
    have HA := Lib.hid hA
    have HD := Lib.hid d2
    clear hA d2
    gi_wp2_with (fail)
    have h1 : Mod (fun k => (Value.slice a pre.length cap).ownBlock = some k ∨ k = w.heap.size) W (w'.setCell ⟨w.heap.size, 0, none⟩ (.slice a' (pre.length + 1) cap')) :=
      (((Mod.refl _ _).alloc _).trans (HA.out.mod (fun k hk => .inl hk))).setCell (p := ⟨w.heap.size, 0, none⟩) (.inl (.inr rfl)) _
    have hG : ∀ k, ((Value.slice a pre.length cap).ownBlock = some k ∨ k = w.heap.size) → w.heap.size ≤ k := fun k hk => by
      rcases hk with hk | hk
      · have := HV.out k hk; omega
      · omega
    have hv' : ∀ g, (Value.slice a' (pre.length + 1) cap').ownBlock = some g → w.heap.size + 2 ≤ g := fun g hg => by
      rcases HA.out.lies with e | e
      · exact HV.out g (e ▸ hg)
      · rw [e] at hg
        have := Option.some.inj hg
        have := HST.out.2.2.2.2
        simp at *
        omega
    have hO' : Owned .u64 32 w' (.slice a' (pre.length + 1) cap') ((pre ++ [y]).map (·.1)) := by
      have := HA.out.own
      show w'.ownsRow 0 _ 1 _ _ _
      simpa using this
    refine ⟨KeepsFrom.of_mod h1 (fun k hk => ?_), KeepsVer.of_mod h1 (fun k hk => ?_), ⟨⟨sep_other HST.out.2.1 h1 (fun o ho k hk e => ?_) (fun k hk => ?_), h1.keep HST.out.2.2.1 (fun e => ?_)⟩, Nat.le_trans HST.out.2.2.2.2 h1.size⟩, _, hv', (blk_set (i := 0) HD.out).trans rfl, hO'.mod (F := fun k => k = w.heap.size) ((Mod.refl (fun k => k = w.heap.size) _).setCell (p := ⟨w.heap.size, 0, none⟩) (.inl rfl) _) (fun g hg e => ?_), HST.out.2.2.2.1.next h1 (fun k hk => .inr (hG k hk))⟩
    · rcases hk with hk | hk
      · obtain ⟨cs, hcs⟩ := HO.out.cells hk
        exact .inr ⟨cs, _, hcs⟩
      · exact .inl (by omega)
    · rcases hk with hk | hk
      · obtain ⟨cs, hcs⟩ := HO.out.cells hk
        exact .inr ⟨cs, _, by decide, hcs⟩
      · exact .inl (by omega)
    · have := h.inside (Nat.le_refl _) o ho k hk
      have := hG k e
      omega
    · have := hG k hk
      have := h.bel.size
      omega
    · rcases e with e | e
      · have := HV.out _ e
        omega
      · omega
    · have := hv' g hg
      omega
  case done =>
    rintro D W hD ⟨v, hv, d1, hO, hm⟩ ⟨⟨hst, _⟩, _⟩ hK
    obtain ⟨a, cap, rfl, _⟩ := hO.form
    have hcl : (chXs s L).map (·.1) = L := by simp [chXs, Function.comp_def]
    rw [hcl] at d1 hO hv
    have e1 := blk_cell d1 0
    simp at e1
    have HST := Lib.hid (And.intro hst (And.intro hm (And.intro hO hv)))
    clear hst hm d1 hO hv
    gi_wp2_with (fail)
    have hb := BookStep.putObj (B := W0.heap.size) _ (.deferred none) hD hK rfl
    have hs2 := Abide.sep (Nat.le_trans hS0.bel.size (Nat.le_refl _)) (hS0.inside (Nat.le_refl _)) _ _ HST.out.1 hb
    have hm2 := Abide.mod (S := fun k => Fs k ∨ Fa k) (w := w) (by omega) _ _ HST.out.2.1 hb
    have hO2 := Abide.owned _ _ HST.out.2.2.1 hb
    refine ⟨by simp, .inl ⟨_, _, rfl, run_takeDeferred hK, ?_⟩⟩
    refine ⟨_, results_tmp rfl _ _ _, a, cap, rfl, ?_, hm2, fun g hg => by have := HST.out.2.2.2 g hg; omega⟩
    exact hs2.add (A := obRow .u64 32 (.slice a L.length cap) L) (B := w.heap.size) (h.inside (Nat.le_refl _)) hO2 (fun g hg => by have := HST.out.2.2.2 g hg; omega) h.bel.size
  case stop =>
    rintro D c pre W _ _ h _
    exact h.elim
end Go.Proofs.YtoidmakaijkglaaGreat
