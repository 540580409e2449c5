/- The store's Read. -/
import Derived.Test.YtnhifnakgiddiaaM
namespace Go.Proofs.Ytnhifnakgiddiaa
open Go Go.RowKit Go.MapKept
open Go.ChangeMaps (setBlock heap_setBlock_same heap_setBlock_other)

theorem cutTo_sub (room : Int) (l : List (Int × Bytes)) : (cutTo room l).length ≤ l.length ∧ ∀ p ∈ cutTo room l, p ∈ l := by
  unfold cutTo
  split
  · exact ⟨Nat.le_refl _, fun _ h => h⟩
  · split
    · exact ⟨dropKey_len _ _, fun _ h => dropKey_sub _ _ h⟩
    · exact ⟨Nat.le_refl _, fun _ h => h⟩
theorem dropKey_head (h : Int) (b : Bytes) (r : List (Int × Bytes)) : (dropKey h ((h, b) :: r)).length ≤ r.length := by
  have : dropKey h ((h, b) :: r) = dropKey h r := by simp [dropKey]
  rw [this]; exact dropKey_len _ _
theorem useSh_len (room : Int) (n : Int) (b : Bytes) (l : List (Int × Bytes)) (hr : 1 ≤ room ∧ room ≤ 256) (hl : l.length ≤ 300) : (useSh room n b l).length ≤ 300 := by
  unfold useSh
  have h1 : (putKey n b l).length ≤ 301 := by have := dropKey_len n l; simp [putKey]; omega
  unfold cutTo
  split
  · simp
  · rename_i h b' r hp
    rw [hp] at h1
    split
    · have := dropKey_head h b' r; simp at h1; omega
    · rename_i hn; omega
theorem useSh_sub (room : Int) (n : Int) (b : Bytes) (l : List (Int × Bytes)) : ∀ p ∈ useSh room n b l, p = (n, b) ∨ p ∈ l := fun p hp => by
  have := (cutTo_sub room _).2 p hp
  simp only [putKey, List.mem_append, List.mem_singleton] at this
  rcases this with h | h
  · exact .inr (dropKey_sub _ _ h)
  · exact .inl h
theorem SM.Wf.use {S : SM} (h : S.Wf) (k : Nat) {b : Bytes} (hb : b.length = 256) (hs : 0 < S.sh.length) : (S.use k b).Wf := by
  have hm : S.sh.getD (k % S.sh.length) [] ∈ S.sh := by
    have hlt : k % S.sh.length < S.sh.length := Nat.mod_lt _ hs
    rw [List.getD_eq_getElem?_getD, List.getElem?_eq_getElem hlt]; exact List.getElem_mem _
  refine ⟨h.ch, h.wt, ?_, h.und, ?_, h.room⟩
  · intro l hl p hp
    rcases List.mem_or_eq_of_mem_set hl with hl | rfl
    · exact h.sh l hl p hp
    · rcases useSh_sub _ _ _ _ p hp with rfl | hp
      · exact hb
      · exact h.sh _ hm p hp
  · intro l hl
    rcases List.mem_or_eq_of_mem_set hl with hl | rfl
    · exact h.len l hl
    · exact useSh_len _ _ _ _ h.room (h.len _ hm)

theorem StRep.sh_pos {w : World} {s p : Nat} {S : SM} {F : Nat → Prop} (h : StRep w s p S F) : 0 < S.sh.length ∧ S.sh.length ≤ 16 := by
  obtain ⟨g, hA, _⟩ := h
  obtain ⟨gs, cap, cs, a, b, c, d, e, f, _⟩ := hA.shards
  exact ⟨e, f⟩

theorem store_use (s p k : Nat) (v : Value) (b : Bytes) (S : SM) (F : Nat → Prop) (w : World) (hS : StRep w s p S F) (hW : S.Wf) (hv : Blk w v b) (hb : b.length = 256) (hk : k ≤ 4096) :
    Calls Try.prog 37 #[ptr s, .int .i64 (k : Int), v] w fun e w' => e = .returned (.tuple #[]) ∧ StTo w s p (S.use k b) F w' := by
  have hpos := hS.sh_pos
  obtain ⟨g, hA, hF⟩ := hS
  obtain ⟨gs, cap, cs, a, b', c, d, e, f, kk⟩ := id hA.shards
  have hlt : k % S.sh.length < S.sh.length := Nat.mod_lt _ e
  have hi1 : S.sh[k % S.sh.length]? = some (S.sh.getD (k % S.sh.length) []) := by
    rw [List.getD_eq_getElem?_getD, List.getElem?_eq_getElem hlt]; rfl
  obtain ⟨q, hq⟩ : ∃ q, g.ms[k % S.sh.length]? = some q := ⟨g.ms[k % S.sh.length]'(by omega), List.getElem?_eq_getElem _⟩
  obtain ⟨x, y, z⟩ := kk _ _ q hi1 hq
  have c1 : w.cell? ⟨s, 1, none⟩ = some (.int .i64 S.room) := by rw [hA.cell]; rfl
  have c6 : w.cell? ⟨s, 6, none⟩ = some (.slice (some ⟨gs, 0, none⟩) S.sh.length cap) := by rw [hA.cell]; simp [a]
  have hm : S.sh.getD (k % S.sh.length) [] ∈ S.sh := List.mem_of_getElem? hi1
  refine (shard_use s gs cap (k % S.sh.length) S.sh.length k S.room cs q.2 v q.1 _ b w c1 c6 hA.k_s ⟨e, f⟩ hk rfl ⟨c, x, y⟩ z.1 z.2 hv hb (by have := hW.len _ hm; omega)).mono ?_
  rintro en w' ⟨rfl, ov', h1, h2, h3, h4, h5⟩
  refine ⟨rfl, fp _ s, ⟨_, hA.to_shard hq a c h4 h2.blk h1 h3 h5, fun _ => Iff.rfl⟩, h4.mono ?_, ?_⟩
  · rintro x hx (e | e | e)
    · exact (hF x).2 (.inr (.inr (.inr (.inr (.inr (.inl (by rw [a, e]; rfl)))))))
    · exact (hF x).2 (.inr (.inr (.inr (.inr (.inr (.inr (.inl ⟨q, List.mem_of_getElem? hq, .inl e.symm⟩)))))))
    · exact (hF x).2 (.inr (.inr (.inr (.inr (.inr (.inr (.inl ⟨q, List.mem_of_getElem? hq, .inr e⟩)))))))
  · rintro x (e | e | e | e | e | e | ⟨q', hq', e⟩ | e | e)
    · exact .inl ((hF x).2 (.inl e))
    · exact .inl ((hF x).2 (.inr (.inl e)))
    · exact .inl ((hF x).2 (.inr (.inr (.inl e))))
    · exact .inl ((hF x).2 (.inr (.inr (.inr (.inl e)))))
    · exact .inl ((hF x).2 (.inr (.inr (.inr (.inr (.inl e))))))
    · exact .inl ((hF x).2 (.inr (.inr (.inr (.inr (.inr (.inl e)))))))
    · rcases List.mem_or_eq_of_mem_set hq' with hq' | rfl
      · exact .inl ((hF x).2 (.inr (.inr (.inr (.inr (.inr (.inr (.inl ⟨q', hq', e⟩))))))))
      · rcases e with e | e
        · exact .inl ((hF x).2 (.inr (.inr (.inr (.inr (.inr (.inr (.inl ⟨q, List.mem_of_getElem? hq, .inl e⟩))))))))
        · rcases h5 x e with e | e
          · exact .inl ((hF x).2 (.inr (.inr (.inr (.inr (.inr (.inr (.inl ⟨q, List.mem_of_getElem? hq, .inr e⟩))))))))
          · exact .inr e
    · exact .inl ((hF x).2 (.inr (.inr (.inr (.inr (.inr (.inr (.inr (.inl e)))))))))
    · exact .inl ((hF x).2 (.inr (.inr (.inr (.inr (.inr (.inr (.inr (.inr e)))))))))

theorem StTo.then_ {w w1 w2 : World} {s p : Nat} {S1 S2 : SM} {F : Nat → Prop} (h : StTo w s p S1 F w1) (k : ∀ F1, StRep w1 s p S1 F1 → StTo w1 s p S2 F1 w2) : StTo w s p S2 F w2 := by
  obtain ⟨F1, h1, h2, h3⟩ := h
  obtain ⟨F2, k1, k2, k3⟩ := k F1 h1
  refine ⟨F2, k1, h2.trans k2 (fun b hb hf => (h3 b hf).resolve_right (by omega)), fun j hj => ?_⟩
  rcases k3 j hj with h | h
  · exact h3 j h
  · exact .inr (Nat.le_trans h2.size h)
theorem StTo.below {w w1 w2 : World} {s p : Nat} {S2 : SM} {F : Nat → Prop} (h : StTo w1 s p S2 F w2) (hb : Below w.heap.size w w1) : StTo w s p S2 F w2 := by
  obtain ⟨F2, k1, k2, k3⟩ := h
  exact ⟨F2, k1, (Chg.of_below hb).trans k2 (fun _ _ h => h), fun j hj => (k3 j hj).imp id (Nat.le_trans hb.size)⟩
theorem StTo.then_below {w w1 w2 : World} {s p : Nat} {S2 : SM} {F : Nat → Prop} (h : StTo w s p S2 F w1) (hb : Below w1.heap.size w1 w2) : StTo w s p S2 F w2 := by
  obtain ⟨F2, k1, k2, k3⟩ := h
  have hc : Chg (fun _ => False) w1 w2 := Chg.of_below hb
  exact ⟨F2, k1.chg hc (fun _ h => h.elim) (fun _ _ h => h), k2.trans hc (fun _ _ h => h.elim), k3⟩
theorem StRep.below {w w1 : World} {s p : Nat} {S : SM} {F : Nat → Prop} (h : StRep w s p S F) (hb : Below w.heap.size w w1) : StRep w1 s p S F :=
  h.chg (G := fun _ => False) (Chg.of_below hb) (fun _ h => h.elim) (fun _ _ h => h)
theorem DiskRep.below {w w1 : World} {p : Nat} {D : AD} {F : Nat → Prop} (h : DiskRep w p D F) (hb : Below w.heap.size w w1) : DiskRep w1 p D F :=
  h.chg (G := fun _ => False) (Chg.of_below hb) (fun _ h => h.elim) (fun _ _ h => h)

/-- Its counts turned. -/
theorem StRep.count {w : World} {s p : Nat} {S : SM} {F : Nat → Prop} (h : StRep w s p S F) (x : Int) : StTo w s p { S with found := x } F (w.setCell ⟨s, 7, none⟩ (.int .i64 x)) := by
  obtain ⟨g, hA, hF⟩ := h
  have hc : Chg (fun k => k = s) w (w.setCell ⟨s, 7, none⟩ (.int .i64 x)) := (Chg.refl _ w).setCell ⟨s, 7, none⟩ _ (fun _ => rfl)
  exact ⟨F, ⟨g, hA.to_head hc { S with found := x } (by rw [blk_set hA.head]; rfl) rfl rfl rfl rfl rfl, hF⟩, hc.mono (fun k _ e => (hF k).2 (.inl e)), fun _ h => .inl h⟩
theorem StRep.count2 {w : World} {s p : Nat} {S : SM} {F : Nat → Prop} (h : StRep w s p S F) (x : Int) : StTo w s p { S with asked := x } F (w.setCell ⟨s, 8, none⟩ (.int .i64 x)) := by
  obtain ⟨g, hA, hF⟩ := h
  have hc : Chg (fun k => k = s) w (w.setCell ⟨s, 8, none⟩ (.int .i64 x)) := (Chg.refl _ w).setCell ⟨s, 8, none⟩ _ (fun _ => rfl)
  exact ⟨F, ⟨g, hA.to_head hc { S with asked := x } (by rw [blk_set hA.head]; rfl) rfl rfl rfl rfl rfl, hF⟩, hc.mono (fun k _ e => (hF k).2 (.inl e)), fun _ h => .inl h⟩
end Go.Proofs.Ytnhifnakgiddiaa
