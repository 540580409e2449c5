/- What a store is behind one turn of its memory: one lemma a part. -/
import Derived.Test.YtnhifnakgiddiaaI
namespace Go.Proofs.Ytnhifnakgiddiaa
open Go Go.RowKit Go.MapKept
open Go.ChangeMaps (setBlock heap_setBlock_same heap_setBlock_other)

/-- What kind a block is of: a map, or cells of a type. -/
def IsMap (w : World) (k : Nat) : Prop := ∃ es c, w.heap[k]? = some (.map es c)
def IsTy (w : World) (k : Nat) (t : TypeId) : Prop := ∃ cs fr, w.heap[k]? = some (.cells cs t fr)
theorem map_ne_ty {w : World} {a b : Nat} {t : TypeId} (h : IsMap w a) (h' : IsTy w b t) : a ≠ b := by
  obtain ⟨es, c, h⟩ := h; obtain ⟨cs, fr, h'⟩ := h'; exact (blk_mapne h' h).symm
theorem ty_ne_map {w : World} {a b : Nat} {t : TypeId} (h' : IsTy w a t) (h : IsMap w b) : a ≠ b := (map_ne_ty h h').symm
theorem ty_ne {w : World} {a b : Nat} {t t' : TypeId} (h : IsTy w a t) (h' : IsTy w b t') (hn : t ≠ t') : a ≠ b := by
  obtain ⟨cs, fr, h⟩ := h; obtain ⟨cs', fr', h'⟩ := h'; exact blk_ty h h' hn

section
variable {w w' : World} {s p : Nat} {S : SM} {g : SG}
theorem StAt.k_s (h : StAt w s p S g) : IsTy w s 30 := ⟨_, _, h.head⟩
theorem StAt.k_mc (h : StAt w s p S g) : IsMap w g.mc := h.ch.map
theorem StAt.k_mw (h : StAt w s p S g) : IsMap w g.mw := h.wt.map
theorem StAt.k_mh (h : StAt w s p S g) : IsMap w g.mh := h.blk_mh
theorem StAt.k_uv (h : StAt w s p S g) {k : Nat} (hk : g.uv.ownBlock = some k) : IsTy w k 1 := by obtain ⟨cs, hc⟩ := h.blk_undo hk; exact ⟨_, _, hc⟩
theorem StAt.k_sv (h : StAt w s p S g) {k : Nat} (hk : g.sv.ownBlock = some k) : IsTy w k 79 := by obtain ⟨cs, hc⟩ := h.blk_sv hk; exact ⟨_, _, hc⟩
theorem StAt.k_q1 (h : StAt w s p S g) {q : Nat × Value} (hq : q ∈ g.ms) : IsMap w q.1 := h.blk_map hq
theorem StAt.k_q2 (h : StAt w s p S g) {q : Nat × Value} (hq : q ∈ g.ms) {k : Nat} (hk : q.2.ownBlock = some k) : IsTy w k 3 := by obtain ⟨cs, hc⟩ := h.blk_row hq hk; exact ⟨_, _, hc⟩
theorem StAt.k_bx (h : StAt w s p S g) {k : Nat} (hk : g.bx k) : ∃ t, IsTy w k t ∧ (t = 32 ∨ t = 23 ∨ t = 3 ∨ t = 26) := by
  obtain ⟨v, t, hc, ht⟩ := h.box k hk; exact ⟨t, ⟨_, _, hc⟩, ht⟩
theorem StAt.k_st (h : StAt w s p S g) {k : Nat} (hk : g.st k) : IsMap w k := by obtain ⟨f, es, c, hm, _⟩ := h.stale k hk; exact ⟨es, c, hm⟩
theorem StAt.bx_ne (h : StAt w s p S g) {k b : Nat} {t : TypeId} (hk : g.bx k) (hb : IsTy w b t) (ht : t ≠ 32 ∧ t ≠ 23 ∧ t ≠ 3 ∧ t ≠ 26) : k ≠ b := by
  obtain ⟨t', h1, h2⟩ := h.k_bx hk
  refine ty_ne h1 hb (fun e => ?_)
  subst e
  rcases h2 with e | e | e | e
  · exact ht.1 e
  · exact ht.2.1 e
  · exact ht.2.2.1 e
  · exact ht.2.2.2 e
theorem IsMap.lt {w : World} {k : Nat} (h : IsMap w k) : k < w.heap.size := by obtain ⟨es, c, h⟩ := h; exact blk_lt h
theorem IsTy.lt {w : World} {k : Nat} {t : TypeId} (h : IsTy w k t) : k < w.heap.size := by obtain ⟨es, c, h⟩ := h; exact blk_lt h
theorem IsMap.notB {w : World} {k : Nat} (h : IsMap w k) : NotB w k := by obtain ⟨es, c, h⟩ := h; exact notB_map h
theorem IsTy.notB {w : World} {k : Nat} {t : TypeId} (h : IsTy w k t) (ht : t ≠ 5) : NotB w k := by obtain ⟨es, c, h⟩ := h; exact notB_ty h ht

/-- (1) Its head alone: counts. -/
theorem StAt.to_head (h : StAt w s p S g) (hc : Chg (fun k => k = s) w w') (S' : SM)
    (hb : w'.heap[s]? = some (.cells #[ptr p, .int .i64 S'.room, .map (some g.mc), .map (some g.mw), .map (some g.mh), g.uv, g.sv, .int .i64 S'.found, .int .i64 S'.asked] 30 (0, 0)))
    (e1 : S'.ch = S.ch) (e2 : S'.wt = S.wt) (e3 : S'.hd = S.hd) (e4 : S'.us = S.us) (e5 : S'.sh = S.sh) : StAt w' s p S' g := by
  have hk : KB w w' := fun k cs hb => (hc.block k (blk_lt hb) (ty_ne ⟨_, _, hb⟩ h.k_s (by decide))).trans hb
  have same : ∀ k, k < w.heap.size → k ≠ s → w'.heap[k]? = w.heap[k]? := fun k a b => hc.block k a b
  refine ⟨hb, ?_, ?_, ?_, ?_, ?_, ?_, ?_, h.sep⟩
  · rw [e1]; exact h.ch.keep hk (same _ h.k_mc.lt (map_ne_ty h.k_mc h.k_s))
  · rw [e2]; exact h.wt.keep hk (same _ h.k_mw.lt (map_ne_ty h.k_mw h.k_s))
  · rw [e3]; exact h.hd.keep (same _ h.k_mh.lt (map_ne_ty h.k_mh h.k_s))
  · rw [e4]; exact h.undo.keep hk (fun k hu => same _ (h.k_uv hu).lt (ty_ne (h.k_uv hu) h.k_s (by decide))) (fun k hb => same _ (h.foot k (.inr (.inr (.inr (.inr (.inr (.inr (.inr (.inl hb))))))))).1 (h.bx_ne hb h.k_s (by decide))) rfl (fun _ h => h) rfl (fun _ h => h)
  · rw [e5]; exact h.shards.keep hk (fun k hu => same _ (h.k_sv hu).lt (ty_ne (h.k_sv hu) h.k_s (by decide))) (fun q hq => ⟨same _ (h.k_q1 hq).lt (map_ne_ty (h.k_q1 hq) h.k_s), fun k hk => same _ (h.k_q2 hq hk).lt (ty_ne (h.k_q2 hq hk) h.k_s (by decide))⟩) rfl rfl
  · exact h.box.keep (fun k hb => same _ (h.foot k (.inr (.inr (.inr (.inr (.inr (.inr (.inr (.inl hb))))))))).1 (h.bx_ne hb h.k_s (by decide))) (fun _ h => h)
  · exact h.stale.keep (fun k hb => same _ (h.k_st hb).lt (map_ne_ty (h.k_st hb) h.k_s)) (fun _ h => h)

theorem nodup3 {a b c : Nat} {l : List Nat} (h : (a :: b :: c :: l).Nodup) : a ≠ b ∧ a ≠ c ∧ b ≠ c ∧ a ∉ l ∧ b ∉ l ∧ c ∉ l := by
  simp only [List.nodup_cons, List.mem_cons, not_or] at h
  exact ⟨h.1.1, h.1.2.1, h.2.1.1, h.1.2.2, h.2.1.2, h.2.2.1⟩
theorem StAt.q1_ne (h : StAt w s p S g) {q : Nat × Value} (hq : q ∈ g.ms) : q.1 ≠ g.mc ∧ q.1 ≠ g.mw ∧ q.1 ≠ g.mh := by
  obtain ⟨_, _, _, a, b, c⟩ := nodup3 h.sep.maps
  exact ⟨fun e => a (by rw [← e]; exact List.mem_map_of_mem hq), fun e => b (by rw [← e]; exact List.mem_map_of_mem hq), fun e => c (by rw [← e]; exact List.mem_map_of_mem hq)⟩
theorem StAt.st_ne (h : StAt w s p S g) {m : Nat} (hm : g.st m) : m ≠ g.mc ∧ m ≠ g.mw ∧ m ≠ g.mh ∧ ∀ q ∈ g.ms, m ≠ q.1 := by
  have := h.sep.stale m hm
  simp only [List.mem_cons, not_or, List.mem_map, not_exists, not_and] at this
  exact ⟨this.1, this.2.1, this.2.2.1, fun q hq e => this.2.2.2 q hq e.symm⟩

/-- (2) A map of its own turned (mc, mw, mh, or one that is stale): block m. -/
theorem StAt.to_map (h : StAt w s p S g) {m : Nat} (hm : IsMap w m) (hc : Chg (fun k => k = m) w w') (S' : SM)
    (hq : ∀ q ∈ g.ms, q.1 ≠ m)
    (hch : (m = g.mc ∧ MapB w' m S'.ch) ∨ (m ≠ g.mc ∧ S'.ch = S.ch)) (hwt : (m = g.mw ∧ MapB w' m S'.wt) ∨ (m ≠ g.mw ∧ S'.wt = S.wt)) (hhd : (m = g.mh ∧ MapIs w' m (heldV S'.hd)) ∨ (m ≠ g.mh ∧ S'.hd = S.hd))
    (hst : g.st m → ∃ f, MapIs w' m f)
    (e1 : S'.room = S.room) (e2 : S'.found = S.found) (e3 : S'.asked = S.asked) (e4 : S'.us = S.us) (e5 : S'.sh = S.sh) : StAt w' s p S' g := by
  have hk : KB w w' := fun k cs hb => (hc.block k (blk_lt hb) (ty_ne_map ⟨_, _, hb⟩ hm)).trans hb
  have same : ∀ k, k < w.heap.size → k ≠ m → w'.heap[k]? = w.heap[k]? := fun k a b => hc.block k a b
  have bxs : ∀ k, g.bx k → w'.heap[k]? = w.heap[k]? := fun k hb => by obtain ⟨t, ht, _⟩ := h.k_bx hb; exact same _ ht.lt (ty_ne_map ht hm)
  refine ⟨?_, ?_, ?_, ?_, ?_, ?_, ?_, ?_, h.sep⟩
  · rw [e1, e2, e3]; exact (same _ h.k_s.lt (ty_ne_map h.k_s hm)).trans h.head
  · rcases hch with ⟨rfl, h1⟩ | ⟨h1, h2⟩
    · exact h1
    · rw [h2]; exact h.ch.keep hk (same _ h.k_mc.lt h1.symm)
  · rcases hwt with ⟨rfl, h1⟩ | ⟨h1, h2⟩
    · exact h1
    · rw [h2]; exact h.wt.keep hk (same _ h.k_mw.lt h1.symm)
  · rcases hhd with ⟨rfl, h1⟩ | ⟨h1, h2⟩
    · exact h1
    · rw [h2]; exact h.hd.keep (same _ h.k_mh.lt h1.symm)
  · rw [e4]; exact h.undo.keep hk (fun k hu => same _ (h.k_uv hu).lt (ty_ne_map (h.k_uv hu) hm)) bxs rfl (fun _ h => h) rfl (fun _ h => h)
  · rw [e5]; exact h.shards.keep hk (fun k hu => same _ (h.k_sv hu).lt (ty_ne_map (h.k_sv hu) hm)) (fun q hq' => ⟨same _ (h.k_q1 hq').lt (hq q hq'), fun k hk => same _ (h.k_q2 hq' hk).lt (ty_ne_map (h.k_q2 hq' hk) hm)⟩) rfl rfl
  · exact h.box.keep bxs (fun _ h => h)
  · intro m' hm'
    by_cases e : m' = m
    · rw [e]; exact hst (e ▸ hm')
    · obtain ⟨f, hf⟩ := h.stale m' hm'; exact ⟨f, hf.keep (same _ (h.k_st hm').lt e)⟩

/-- (3) One shard turned. -/
theorem StAt.to_shard (h : StAt w s p S g) {i : Nat} {q : Nat × Value} {gs cap : Nat} {cs : Array Value} {ov' : Value} {l' : List (Int × Bytes)} (hq : g.ms[i]? = some q) (hsv : g.sv = .slice (some ⟨gs, 0, none⟩) S.sh.length cap) (hcs : w.heap[gs]? = some (.cells cs 79 (0, 0)))
    (hc : Chg (fun k => k = gs ∨ k = q.1 ∨ q.2.ownBlock = some k) w w') (hcs' : w'.heap[gs]? = some (.cells (cs.setIfInBounds (2 * i) ov') 79 (0, 0)))
    (hr : IRow w' ov' (l'.map (·.1))) (hm : MapB w' q.1 (fun k => l'.lookup k)) (hov : ∀ k, ov'.ownBlock = some k → q.2.ownBlock = some k ∨ w.heap.size ≤ k) :
    StAt w' s p { S with sh := S.sh.set i l' } { g with ms := g.ms.set i (q.1, ov') } := by
  have hqm : q ∈ g.ms := List.mem_of_getElem? hq
  have hil : i < g.ms.length := (List.getElem?_eq_some_iff.1 hq).1
  have tg : IsTy w gs 79 := ⟨_, _, hcs⟩
  have same : ∀ k, k < w.heap.size → k ≠ gs → k ≠ q.1 → q.2.ownBlock ≠ some k → w'.heap[k]? = w.heap[k]? := fun k a b c d => hc.block k a (fun h => h.elim b (fun h => h.elim c d))
  have sameT : ∀ k t, IsTy w k t → t ≠ 79 → t ≠ 3 → w'.heap[k]? = w.heap[k]? := fun k t hk a b =>
    same k hk.lt (ty_ne hk tg a) (ty_ne_map hk (h.k_q1 hqm)) (fun e => absurd rfl (ty_ne hk (h.k_q2 hqm e) b))
  have sameM : ∀ k, IsMap w k → k ≠ q.1 → w'.heap[k]? = w.heap[k]? := fun k hk a =>
    same k hk.lt (map_ne_ty hk tg) a (fun e => absurd rfl (map_ne_ty hk (h.k_q2 hqm e)))
  have hk : KB w w' := fun k cs hb => (sameT k _ ⟨_, _, hb⟩ (by decide) (by decide)).trans hb
  have bxs : ∀ k, g.bx k → w'.heap[k]? = w.heap[k]? := fun k hb => by
    obtain ⟨t, ht, ht'⟩ := h.k_bx hb
    exact same k ht.lt (h.bx_ne hb tg (by decide)) (ty_ne_map ht (h.k_q1 hqm)) (fun e => h.sep.box q hqm k e hb)
  have hne := h.q1_ne hqm
  refine ⟨?_, ?_, ?_, ?_, ?_, ?_, ?_, ?_, ?_⟩
  · exact (sameT s _ h.k_s (by decide) (by decide)).trans h.head
  · exact h.ch.keep hk (sameM _ h.k_mc hne.1.symm)
  · exact h.wt.keep hk (sameM _ h.k_mw hne.2.1.symm)
  · exact h.hd.keep (sameM _ h.k_mh hne.2.2.symm)
  · exact h.undo.keep hk (fun k hu => sameT k _ (h.k_uv hu) (by decide) (by decide)) bxs rfl (fun _ h => h) rfl (fun _ h => h)
  · obtain ⟨gs0, cap0, cs0, a, b, c, d, e, f, kk⟩ := h.shards
    rw [hsv] at a; cases a
    rw [hcs] at c; cases c
    refine ⟨gs, cap, _, by simpa using hsv, by simpa using b, hcs', by simpa using d, by simpa using e, by simpa using f, ?_⟩
    intro j l q' hj hq'
    have hcsz : 2 * i < cs.size := by
      obtain ⟨x, _, _⟩ := kk i (S.sh[i]'(by omega)) q (List.getElem?_eq_getElem _) hq
      exact (Array.getElem?_eq_some_iff.1 x).1
    by_cases hij : i = j
    · subst hij
      rw [List.getElem?_set_self (by omega)] at hj
      rw [List.getElem?_set_self hil] at hq'
      cases hj; cases hq'
      obtain ⟨x, y, z⟩ := kk i (S.sh[i]'(by omega)) q (List.getElem?_eq_getElem _) hq
      exact ⟨by simp [hcsz], by rw [Array.getElem?_setIfInBounds_ne (by omega)]; exact y, hr, hm⟩
    · rw [List.getElem?_set_ne hij] at hj hq'
      obtain ⟨x, y, z⟩ := kk j l q' hj hq'
      have hq'm := List.mem_of_getElem? hq'
      refine ⟨by rw [Array.getElem?_setIfInBounds_ne (by omega)]; exact x, by rw [Array.getElem?_setIfInBounds_ne (by omega)]; exact y, z.keep hk (sameM _ (h.k_q1 hq'm) ?_) (fun k hk' => same k (h.k_q2 hq'm hk').lt (ty_ne (h.k_q2 hq'm hk') tg (by decide)) (ty_ne_map (h.k_q2 hq'm hk') (h.k_q1 hqm)) (fun e => h.sep.rows i j q q' hq hq' hij k e hk'))⟩
      intro e
      have hn : (g.ms.map (·.1)).Nodup := by have := h.sep.maps; simp only [List.nodup_cons] at this; exact this.2.2.2
      have h1 : (g.ms.map (·.1))[i]? = some q.1 := by simp [List.getElem?_map, hq]
      have h2 : (g.ms.map (·.1))[j]? = some q.1 := by simp [List.getElem?_map, hq', e]
      exact hij ((List.getElem?_inj (by simpa using hil) hn).1 (h1.trans h2.symm))
  · exact h.box.keep bxs (fun _ h => h)
  · exact h.stale.keep (fun k hb => sameM k (h.k_st hb) ((h.st_ne hb).2.2.2 q hqm)) (fun _ h => h)
  · have em : (g.ms.set i (q.1, ov')).map (·.1) = g.ms.map (·.1) := by
      rw [List.map_set]
      apply List.ext_getElem?
      intro j
      by_cases e : i = j
      · subst e; rw [List.getElem?_set_self (by simpa using hil)]; simp [List.getElem?_map, hq]
      · rw [List.getElem?_set_ne e]
    have hov' : ∀ k, ov'.ownBlock = some k → ∀ j q', g.ms[j]? = some q' → i ≠ j → q'.2.ownBlock ≠ some k := fun k hk j q' hq' hij e => by
      rcases hov k hk with h1 | h1
      · exact h.sep.rows i j q q' hq hq' hij k h1 e
      · have := (h.k_q2 (List.mem_of_getElem? hq') e).lt; omega
    refine ⟨by simp only [em]; exact h.sep.maps, ?_, ?_, by simp only [em]; exact h.sep.stale⟩
    · intro a b x y hx hy hab k hkx
      by_cases ha : i = a
      · subst ha
        rw [List.getElem?_set_self hil] at hx; cases hx
        rw [List.getElem?_set_ne hab] at hy
        exact hov' k hkx b y hy hab
      · rw [List.getElem?_set_ne ha] at hx
        by_cases hb : i = b
        · subst hb
          rw [List.getElem?_set_self hil] at hy; cases hy
          intro e
          exact hov' k e a x hx ha hkx
        · rw [List.getElem?_set_ne hb] at hy
          exact h.sep.rows a b x y hx hy hab k hkx
    · intro x hx k hkx hb
      rcases List.mem_or_eq_of_mem_set hx with hx | rfl
      · exact h.sep.box x hx k hkx hb
      · rcases hov k hkx with h1 | h1
        · exact h.sep.box q hqm k h1 hb
        · obtain ⟨t, ht, _⟩ := h.k_bx hb
          have := ht.lt; omega
end
end Go.Proofs.Ytnhifnakgiddiaa
