/- What a store is behind a turn of its row of what is to be undone, and behind Release. -/
import Derived.Test.YtnhifnakgiddiaaJ
namespace Go.Proofs.Ytnhifnakgiddiaa
open Go Go.RowKit Go.MapKept
open Go.ChangeMaps (setBlock heap_setBlock_same heap_setBlock_other)

section
variable {w w' : World} {s p : Nat} {S : SM} {g : SG}

/-- (4) Its row of what is to be undone, and its head. -/
theorem StAt.to_undo (h : StAt w s p S g) (hc : Chg (fun k => k = s ∨ g.uv.ownBlock = some k) w w') (uv' : Value) (nb : Nat → Prop) (us' : List Und)
    (hb : w'.heap[s]? = some (.cells #[ptr p, .int .i64 S.room, .map (some g.mc), .map (some g.mw), .map (some g.mh), uv', g.sv, .int .i64 S.found, .int .i64 S.asked] 30 (0, 0)))
    (hu : UndoAt w' s { g with uv := uv', bx := fun k => g.bx k ∨ nb k } us')
    (hn : ∀ k, nb k → w.heap.size ≤ k ∧ ∃ v t, w'.heap[k]? = some (.cells #[v] t (0, 0)) ∧ (t = 32 ∨ t = 23 ∨ t = 3 ∨ t = 26)) :
    StAt w' s p { S with us := us' } { g with uv := uv', bx := fun k => g.bx k ∨ nb k } := by
  have same : ∀ k, k < w.heap.size → k ≠ s → g.uv.ownBlock ≠ some k → w'.heap[k]? = w.heap[k]? := fun k a b c => hc.block k a (fun h => h.elim b c)
  have sameT : ∀ k t, IsTy w k t → t ≠ 30 → t ≠ 1 → w'.heap[k]? = w.heap[k]? := fun k t hk a b =>
    same k hk.lt (ty_ne hk h.k_s a) (fun e => absurd rfl (ty_ne hk (h.k_uv e) b))
  have sameM : ∀ k, IsMap w k → w'.heap[k]? = w.heap[k]? := fun k hk => same k hk.lt (map_ne_ty hk h.k_s) (fun e => absurd rfl (map_ne_ty hk (h.k_uv e)))
  have hk : KB w w' := fun k cs hb => (sameT k _ ⟨_, _, hb⟩ (by decide) (by decide)).trans hb
  have bxs : ∀ k, g.bx k → w'.heap[k]? = w.heap[k]? := fun k hb => by
    obtain ⟨t, ht, _⟩ := h.k_bx hb
    exact same k ht.lt (h.bx_ne hb h.k_s (by decide)) (fun e => absurd rfl (h.bx_ne hb (h.k_uv e) (by decide)))
  refine ⟨hb, h.ch.keep hk (sameM _ h.k_mc), h.wt.keep hk (sameM _ h.k_mw), h.hd.keep (sameM _ h.k_mh), hu, ?_, ?_, ?_, ?_⟩
  · exact h.shards.keep hk (fun k hu => sameT k _ (h.k_sv hu) (by decide) (by decide)) (fun q hq => ⟨sameM _ (h.k_q1 hq), fun k hk => sameT k _ (h.k_q2 hq hk) (by decide) (by decide)⟩) rfl rfl
  · rintro k (hb | hb)
    · obtain ⟨v, t, a, b⟩ := h.box k hb; exact ⟨v, t, (bxs k hb).trans a, b⟩
    · exact (hn k hb).2
  · exact h.stale.keep (fun k hb => sameM k (h.k_st hb)) (fun _ h => h)
  · refine ⟨h.sep.maps, h.sep.rows, ?_, h.sep.stale⟩
    rintro q hq k hqk (hb | hb)
    · exact h.sep.box q hq k hqk hb
    · have := (h.k_q2 hq hqk).lt; have := (hn k hb).1; omega

/-- The old ones, and one more. -/
theorem StAt.undo_push (h : StAt w s p S g) (hc : Chg (fun k => k = s ∨ g.uv.ownBlock = some k) w w') {uv' f : Value} {nb : Nat → Prop} {fs : List Value} {u : Und}
    (hfs : ∀ (i : Nat) u, S.us[i]? = some u → ∃ f, fs[i]? = some f ∧ UndAt w s g f u) (hl : fs.length = S.us.length)
    (ho : w'.ownsRow 0 1 1 uv' (S.us.length + 1) (fs ++ [f])) (hf : UndAt w' s { g with uv := uv', bx := fun k => g.bx k ∨ nb k } f u) :
    UndoAt w' s { g with uv := uv', bx := fun k => g.bx k ∨ nb k } (S.us ++ [u]) := by
  have same : ∀ k, k < w.heap.size → k ≠ s → g.uv.ownBlock ≠ some k → w'.heap[k]? = w.heap[k]? := fun k a b c => hc.block k a (fun h => h.elim b c)
  have sameT : ∀ k t, IsTy w k t → t ≠ 30 → t ≠ 1 → w'.heap[k]? = w.heap[k]? := fun k t hk a b =>
    same k hk.lt (ty_ne hk h.k_s a) (fun e => absurd rfl (ty_ne hk (h.k_uv e) b))
  have hk : KB w w' := fun k cs hb => (sameT k _ ⟨_, _, hb⟩ (by decide) (by decide)).trans hb
  have bxs : ∀ k, g.bx k → w'.heap[k]? = w.heap[k]? := fun k hb => by
    obtain ⟨t, ht, _⟩ := h.k_bx hb
    exact same k ht.lt (h.bx_ne hb h.k_s (by decide)) (fun e => absurd rfl (h.bx_ne hb (h.k_uv e) (by decide)))
  refine ⟨fs ++ [f], by simpa using ho, fun i v hi => ?_⟩
  by_cases e : i < S.us.length
  · rw [List.getElem?_append_left e] at hi
    obtain ⟨f', a, b⟩ := hfs i v hi
    exact ⟨f', by rw [List.getElem?_append_left (by omega)]; exact a, b.keep hk bxs (fun _ h => .inl h) rfl (fun _ h => h)⟩
  · have hi2 := (List.getElem?_eq_some_iff.1 hi).1
    simp at hi2
    have e2 : i = S.us.length := by omega
    subst e2
    simp at hi; subst hi
    exact ⟨f, by rw [List.getElem?_append_right (by omega)]; simp [hl], hf⟩

/-- Some first ones are left. -/
theorem StAt.undo_take (h : StAt w s p S g) (hc : Chg (fun k => k = s) w w') {A : Option Addr} {n c m : Nat} (hv : g.uv = .slice A n c) (hm : m ≤ S.us.length) :
    UndoAt w' s { g with uv := .slice A m c, bx := fun k => g.bx k ∨ False } (S.us.take m) := by
  have same : ∀ k, k < w.heap.size → k ≠ s → w'.heap[k]? = w.heap[k]? := fun k a b => hc.block k a b
  have hk : KB w w' := fun k cs hb => (same k (blk_lt hb) (ty_ne ⟨_, _, hb⟩ h.k_s (by decide))).trans hb
  have bxs : ∀ k, g.bx k → w'.heap[k]? = w.heap[k]? := fun k hb => by
    obtain ⟨t, ht, _⟩ := h.k_bx hb
    exact same k ht.lt (h.bx_ne hb h.k_s (by decide))
  obtain ⟨fs, ho, hfs⟩ := h.undo
  have hlen : fs.length = S.us.length := by have := ho.1; omega
  have ho' : w'.ownsRow 0 1 1 g.uv S.us.length fs := own_keep ho (fun k hu => same _ (h.k_uv hu).lt (ty_ne (h.k_uv hu) h.k_s (by decide)))
  refine ⟨fs.take m, ?_, fun i u hi => ?_⟩
  · refine ⟨by simp; omega, ?_⟩
    rcases ho'.2 with ⟨a, b⟩ | ⟨gg, cap, cur, a, b, d, e, f, i, j⟩
    · rw [hv] at a; cases a
      exact .inl ⟨by have : m = 0 := by omega
                     subst this; rfl, by simp; omega⟩
    · rw [hv] at a; cases a
      refine .inr ⟨gg, c, cur, by simp; omega, b, d, by simp; omega, f, i, ?_⟩
      simp only [Nat.mul_one, List.length_take] at j ⊢
      rw [Nat.min_eq_left hm, ← j, List.take_take, Nat.min_eq_left (by omega)]
  · rw [List.getElem?_take] at hi
    split at hi
    · rename_i hlt
      obtain ⟨f, a, b⟩ := hfs i u hi
      exact ⟨f, by rw [List.getElem?_take, if_pos hlt]; exact a, b.keep hk bxs (fun _ h => .inl h) rfl (fun _ h => h)⟩
    · cases hi

def Und.stale : Und → Und
  | .wr n old => .wr n old
  | .hd _ n was => .hd false n was

/-- (5) Release. -/
theorem StAt.to_release (h : StAt w s p S g) (hc : Chg (fun k => k = s) w w') (m' : Nat) (hm' : w.heap.size ≤ m')
    (hb : w'.heap[s]? = some (.cells #[ptr p, .int .i64 S.room, .map (some g.mc), .map (some g.mw), .map (some m'), g.uv, g.sv, .int .i64 S.found, .int .i64 S.asked] 30 (0, 0)))
    (hm : MapIs w' m' mempty) :
    StAt w' s p { S with hd := fun _ => false, us := S.us.map Und.stale } { g with mh := m', st := fun k => g.st k ∨ k = g.mh } := by
  have same : ∀ k, k < w.heap.size → k ≠ s → w'.heap[k]? = w.heap[k]? := fun k a b => hc.block k a b
  have hk : KB w w' := fun k cs hb => (same k (blk_lt hb) (ty_ne ⟨_, _, hb⟩ h.k_s (by decide))).trans hb
  have bxs : ∀ k, g.bx k → w'.heap[k]? = w.heap[k]? := fun k hb => by
    obtain ⟨t, ht, _⟩ := h.k_bx hb
    exact same k ht.lt (h.bx_ne hb h.k_s (by decide))
  have sameM : ∀ k, IsMap w k → w'.heap[k]? = w.heap[k]? := fun k hk => same k hk.lt (map_ne_ty hk h.k_s)
  obtain ⟨_, hab, hac, hmc, hmw, hmh⟩ := nodup3 h.sep.maps
  obtain ⟨hab', hac', hbc', _, _, _⟩ := nodup3 h.sep.maps
  refine ⟨hb, h.ch.keep hk (sameM _ h.k_mc), h.wt.keep hk (sameM _ h.k_mw), hm, ?_, ?_, ?_, ?_, ?_⟩
  · obtain ⟨fs, a, b⟩ := h.undo
    refine ⟨fs, by simpa using own_keep a (fun k hu => same _ (h.k_uv hu).lt (ty_ne (h.k_uv hu) h.k_s (by decide))), fun i u hi => ?_⟩
    rw [List.getElem?_map] at hi
    obtain ⟨u0, hu0, rfl⟩ := Option.map_eq_some_iff.1 hi
    obtain ⟨f, x, y⟩ := b i u0 hu0
    refine ⟨f, x, ?_⟩
    cases u0 with
    | wr n old =>
      obtain ⟨bo, bs, bn, ov, e, a, b, c, x, y, z, r⟩ := y
      refine ⟨bo, bs, bn, ov, e, (bxs _ x).trans a, (bxs _ y).trans b, (bxs _ z).trans c, x, y, z, ?_⟩
      rcases r with r | ⟨l, r1, r2, r3⟩
      · exact .inl r
      · exact .inr ⟨l, r1, r2.kb hk, r3⟩
    | hd live n was =>
      obtain ⟨bw, bh, bn, m, e, a, b, c, x, y, z, r⟩ := y
      refine ⟨bw, bh, bn, m, e, (bxs _ x).trans a, (bxs _ y).trans b, (bxs _ z).trans c, x, y, z, ?_⟩
      cases live with
      | true => simp only [if_true] at r; subst r; exact .inr rfl
      | false => simp only [Bool.false_eq_true, if_false] at r; exact .inl r
  · exact h.shards.keep hk (fun k hu => same _ (h.k_sv hu).lt (ty_ne (h.k_sv hu) h.k_s (by decide))) (fun q hq => ⟨sameM _ (h.k_q1 hq), fun k hk => same _ (h.k_q2 hq hk).lt (ty_ne (h.k_q2 hq hk) h.k_s (by decide))⟩) rfl rfl
  · exact h.box.keep bxs (fun _ h => h)
  · rintro m (hb | rfl)
    · obtain ⟨f, hf⟩ := h.stale m hb; exact ⟨f, hf.keep (sameM m (h.k_st hb))⟩
    · exact ⟨_, h.hd.keep (sameM _ h.k_mh)⟩
  · have hlt : ∀ x ∈ g.ms.map (·.1), x < w.heap.size := fun x hx => by
      obtain ⟨q, hq, rfl⟩ := List.mem_map.1 hx; exact (h.k_q1 hq).lt
    have l1 := h.k_mc.lt
    have l2 := h.k_mw.lt
    refine ⟨?_, h.sep.rows, h.sep.box, ?_⟩
    · have hn := h.sep.maps
      simp only [List.nodup_cons, List.mem_cons, not_or] at hn ⊢
      exact ⟨⟨hab', by omega, hn.1.2.2⟩, ⟨by omega, hn.2.1.2⟩, fun hx => by have := hlt _ hx; omega, hn.2.2.2⟩
    · rintro m (hb | rfl)
      · have hn := h.sep.stale m hb
        have := (h.k_st hb).lt
        simp only [List.mem_cons, not_or] at hn ⊢
        exact ⟨hn.1, hn.2.1, by omega, hn.2.2.2⟩
      · have := h.k_mh.lt
        simp only [List.mem_cons, not_or]
        exact ⟨fun e => hac' e.symm, fun e => hbc' e.symm, by omega, hmh⟩
end
end Go.Proofs.Ytnhifnakgiddiaa
