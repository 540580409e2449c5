/- The store's Waiting and Commit. -/
import Derived.Test.YtnhifnakgiddiaaAH
namespace Go.Proofs.Ytnhifnakgiddiaa
open Go Go.RowKit Go.MapKept
open Go.ChangeMaps (setBlock heap_setBlock_same heap_setBlock_other)

theorem NewWrites.chg {N : Nat} {w w' : World} {v : Value} {l : List (Int × Bytes)} {G : Nat → Prop} (h : NewWrites N w v l) (hc : Chg G w w') (hG : ∀ x, G x → x < N) : NewWrites N w' v l := by
  obtain ⟨xs, h1, h2⟩ := h
  have hk : ∀ x, x < w.heap.size → N ≤ x → w'.heap[x]? = w.heap[x]? := fun x a b => hc.block x a (fun g => by have := hG x g; omega)
  exact ⟨xs, own_keep h1 (fun k hk' => hk k (own_lt h1 hk') (own_new h1 k hk')), fun j p hp => ⟨(h2 j p hp).1, by
    obtain ⟨u, a, b, c⟩ := (h2 j p hp).2
    exact ⟨u, a, own_keep b (fun k hk' => hk k (own_lt b hk') (c k hk')), c⟩⟩⟩

/-- Where a map's keys lie. -/
structure SM.Keys (S : SM) : Prop where
  ch : ∀ k, S.ch k ≠ none → InR k
  wt : ∀ k, S.wt k ≠ none → InR k

set_option maxRecDepth 100000 in
set_option maxHeartbeats 1000000 in
theorem store_Waiting (s p : Nat) (S : SM) (F : Nat → Prop) (w : World) (hS : StRep w s p S F) (hW : S.Wf) (hK : S.Keys) :
    Calls Try.prog 19 #[ptr s] w fun e w' => ∃ v, e = .returned v ∧ NewWrites w.heap.size w' v (listW S.wt) ∧ Below w.heap.size w w' := by
  obtain ⟨g, hA, _⟩ := hS
  have c3 : w.cell? ⟨s, 3, none⟩ = some (.map (some g.mw)) := by rw [hA.cell]; rfl
  have hs := Lib.hid (store_writes g.mw S.wt w hA.wt hK.wt hW.wt)
  clear hA hK hW
  unfold ptr at *
  go_enter Try.func19, Try.ntmps19
  go_wp2_with (go_at_call 44; refine hs.out.mono ?_; rintro e w' ⟨v, rfl, h1, h2⟩; have H := Lib.hid (And.intro h1 h2); clear h1 h2)
  go_ret
  exact ⟨v, rfl, H.out.1, H.out.2⟩

theorem OMap.merge {w : World} {vd vs : Int → Option Value} {fd fs : Int → Option Bytes} (hd : OMap w vd fd) (hs : OMap w vs fs) : OMap w (mergeF vd vs) (mergeF fd fs) := fun k => by
  unfold mergeF
  rcases hs k with ⟨h1, h2⟩ | ⟨v, l, h1, h2, h3⟩
  · rw [h1, h2]; exact hd k
  · exact .inr ⟨v, l, by rw [h1], by rw [h2], h3⟩

theorem maps_Copy_ (md ms : Nat) (vd vs : Int → Option Value) (w : World) (hd : MapIs w md vd) (hs : MapIs w ms vs) (hrd : ∀ k, vd k ≠ none → InR k) (hrs : ∀ k, vs k ≠ none → InR k) (hne : md ≠ ms) :
    Calls Try.prog 45 #[.map (some md), .map (some ms)] w fun e w' => e = .returned (.tuple #[]) ∧ MapIs w' md (mergeF vd vs) ∧ w.grownBy w' (some md) := by
  obtain ⟨Dd, h1, h2, _, h4⟩ := hd.owns (P := Try.prog) (t := 3) Try.underlying3 hrd
  obtain ⟨Ds, k1, k2, _, k4⟩ := hs.owns (P := Try.prog) (t := 3) Try.underlying3 hrs
  have hc := AnyX.maps_Copy Try.copyA (Maps.int_keyed Try.underlying3) RV md ms _ _ Dd Ds w h1 k1 hne (by unfold maxLen; omega)
  refine hc.mono ?_
  rintro e w' ⟨he, ho, _, hg⟩
  refine ⟨he, ?_, hg⟩
  have := MapIs.of_owns ho Try.underlying3
  rw [vw_merge h1 k1 Try.underlying3, h4, k4] at this
  exact this

def SM.commit (S : SM) : SM := { S with wt := mergeF S.wt S.ch, ch := fun _ => none, us := [] }

theorem StAt.emptied {w : World} {s p : Nat} {S : SM} {g : SG} (h : StAt w s p S g) :
    StAt (w.setCell ⟨s, 5, none⟩ (.slice none 0 0)) s p { S with us := [] } { g with uv := .slice none 0 0, bx := fun k => g.bx k ∨ False } ∧ Chg (fun k => k = s) w (w.setCell ⟨s, 5, none⟩ (.slice none 0 0)) := by
  have hc : Chg (fun k => k = s) w (w.setCell ⟨s, 5, none⟩ (.slice none 0 0)) := (Chg.refl (fun k => k = s) w).setCell ⟨s, 5, none⟩ _ (fun _ => rfl)
  exact ⟨h.to_undo (hc.mono (fun _ _ e => .inl e)) (.slice none 0 0) (fun _ => False) _ (by rw [blk_set h.head]; rfl) ⟨[], World.ownsRow_nil _ _ _ _, fun i u hi => by simp at hi⟩ (fun k hk => hk.elim), hc⟩

set_option maxRecDepth 100000 in
set_option maxHeartbeats 4000000 in
theorem store_Commit (s p : Nat) (S : SM) (F : Nat → Prop) (D : AD) (G : Nat → Prop) (w : World) (hS : StRep w s p S F) (hD : DiskRep w p D G) (hn : 0 < D.n) (hW : S.Wf) (hK : S.Keys) :
    Calls Try.prog 18 #[ptr s] w fun e w' => ∃ v, e = .returned v ∧ NewWrites w.heap.size w' v (listW S.ch) ∧ ∃ F' : Nat → Prop, StRep w' s p S.commit F' ∧ Chg F w w' ∧ ∀ j, F' j → F j := by
  have hb := store_Blocks s p S F D G w hS hD
  obtain ⟨g, hA, hF⟩ := hS
  have c2 : w.cell? ⟨s, 2, none⟩ = some (.map (some g.mc)) := by rw [hA.cell]; rfl
  have hs := Lib.hid (And.intro (store_writes g.mc S.ch w hA.ch hK.ch hW.ch) hb)
  have hne : (D.n == 0) = false := by simp; omega
  have HA := Lib.hid (And.intro hA (And.intro hF (And.intro hK hW)))
  clear hA hK hW hF hb hD
  unfold ptr at *
  go_enter Try.func18, Try.ntmps18
  go_wp2_with (first | (go_at_call 20; refine hs.out.2.mono ?_; rintro e w' ⟨rfl, rfl⟩) | (go_at_call 44; refine hs.out.1.mono ?_; rintro e w1 ⟨v, rfl, h1, h2⟩; obtain ⟨A, ca, hv⟩ : ∃ A ca, v = .slice A (listW S.ch).length ca := by { obtain ⟨xs, hx, _⟩ := h1; exact own_slice hx }; subst hv; have H := Lib.hid (And.intro h1 h2); clear h1 h2))
  have hA1 : StAt w1.drew s p S g := HA.out.1.chg (G := fun _ => False) (Chg.of_below H.out.2).drew (fun _ h => h.elim) (fun _ _ h => h)
  have k2 := hA1.cell 2
  have k3 := hA1.cell 3
  obtain ⟨vc, hMc, hOc⟩ := hA1.ch
  obtain ⟨vw_, hMw, hOw⟩ := hA1.wt
  have hn3 := nodup3 hA1.sep.maps
  have hcp := maps_Copy_ g.mw g.mc vw_ vc w1.drew hMw hMc (fun k hk => HA.out.2.2.1.wt k (fun e => hk (hOw.none_ e))) (fun k hk => HA.out.2.2.1.ch k (fun e => hk (hOc.none_ e))) hn3.1.symm
  have HC := Lib.hid (And.intro hcp (And.intro hA1 (And.intro hOc (And.intro hOw hn3))))
  clear hcp hA1 hOc hOw hn3 hMc hMw
  refine wp_region_tree (fun w' => w'.cell? ⟨s, 3, none⟩ = some (.map (some g.mw)) ∧ w'.cell? ⟨s, 2, none⟩ = some (.map (some g.mc))) 8
    (.take 0 (.take 1 (.take 2 (.take 3 (.take 4 (.take 5 (.take 6 (.take 7 (.one 8 .nil))))))))) (by kernel_rfl) (by kernel_rfl) (by kernel_rfl) rfl (fun _ _ dst _ _ h => by cases dst <;> exact h) ?_ ?_
  · exact ⟨k3.trans rfl, k2.trans rfl⟩
  iterate 8 (refine tree_take ?_ (by rfl) (by rfl) ?_ ?_; rotate_left; (intro w hw; obtain ⟨hw1, hw2⟩ := hw; go_simp; rfl))
  refine tree_one (by rfl) (fun K hK => ?_)
  rw [if_pos (by rfl)]
  go_simp
  refine HC.out.1.mono ?_
  rintro e w2 ⟨rfl, hm2, hg2⟩
  have hc2 : Chg (fun x => x = g.mw) w1.drew w2 := (Chg.refl _ _).grown hg2 (fun k hk _ => by cases hk; rfl)
  have hkb2 : KB w1.drew w2 := fun x cs hx => (hc2.block x (blk_lt hx) (ty_ne_map ⟨_, _, hx⟩ HC.out.2.1.k_mw)).trans hx
  have hA2 := HC.out.2.1.to_map HC.out.2.1.k_mw hc2 { S with wt := mergeF S.wt S.ch } (fun q hq => (HC.out.2.1.q1_ne hq).2.1) (.inr ⟨HC.out.2.2.2.2.1.symm, rfl⟩) (.inl ⟨rfl, _, hm2, (HC.out.2.2.2.1.merge HC.out.2.2.1).kb hkb2⟩) (.inr ⟨HC.out.2.2.2.2.2.2.1, rfl⟩) (fun hst => absurd rfl (HC.out.2.1.st_ne hst).2.1) rfl rfl rfl rfl rfl
  have m2 : w2.cell? ⟨s, 2, none⟩ = some (.map (some g.mc)) := (hA2.cell 2).trans rfl
  obtain ⟨vc2, hMc2, hOc2⟩ := hA2.ch
  obtain ⟨ob, hrun, hM3⟩ := MapIs.clear (P := Try.prog) hMc2 (ats := #[25]) (ty := 0) rfl Try.underlying25
  have hc3 : Chg (fun x => x = g.mc) w2 (setBlock w2 g.mc ob) := (Chg.refl _ w2).setBlock g.mc ob (fun _ => rfl)
  have hA3 := hA2.ch_to hc3 (f := fun _ => none) ⟨_, hM3, OMap.empty _⟩
  obtain ⟨hA4, hc4⟩ := hA3.emptied
  have m5 : (setBlock w2 g.mc ob).cell? ⟨s, 5, none⟩ = some g.uv := (hA3.cell 5).trans rfl
  have f5 : (setBlock w2 g.mc ob).frozen? ⟨s, 5, none⟩ = false := blk_frozen hA3.head 5
  have hct : Chg (fun x => x = s ∨ x = g.mw ∨ x = g.mc) w1 ((setBlock w2 g.mc ob).setCell ⟨s, 5, none⟩ (.slice none 0 0)) :=
    ((((Chg.refl _ w1).drew.trans hc2 (fun b _ h => .inr (.inl h))).trans hc3 (fun b _ h => .inr (.inr h))).trans hc4 (fun b _ h => .inl h))
  have hfin : ∃ F' : Nat → Prop, StRep ((setBlock w2 g.mc ob).setCell ⟨s, 5, none⟩ (.slice none 0 0)) s p S.commit F' ∧ Chg F w ((setBlock w2 g.mc ob).setCell ⟨s, 5, none⟩ (.slice none 0 0)) ∧ ∀ j, F' j → F j := by
    refine ⟨fp _ s, ⟨_, hA4, fun _ => Iff.rfl⟩, ((Chg.of_below (F := F) H.out.2).trans hct (fun b _ h => (HA.out.2.1 b).2 ?_)), fun j hj => (HA.out.2.1 j).2 ?_⟩
    · rcases h with h | h | h
      · exact .inl h
      · exact .inr (.inr (.inl h))
      · exact .inr (.inl h)
    · rcases hj with e | e | e | e | e | e | e | (e | e) | e
      · exact .inl e
      · exact .inr (.inl e)
      · exact .inr (.inr (.inl e))
      · exact .inr (.inr (.inr (.inl e)))
      · cases e
      · exact .inr (.inr (.inr (.inr (.inr (.inl e)))))
      · exact .inr (.inr (.inr (.inr (.inr (.inr (.inl e))))))
      · exact .inr (.inr (.inr (.inr (.inr (.inr (.inr (.inl e)))))))
      · exact e.elim
      · exact .inr (.inr (.inr (.inr (.inr (.inr (.inr (.inr e)))))))
  have hlt : ∀ x, (x = s ∨ x = g.mw ∨ x = g.mc) → x < w.heap.size := by
    rintro x (rfl | rfl | rfl)
    · exact HA.out.1.k_s.lt
    · exact HA.out.1.k_mw.lt
    · exact HA.out.1.k_mc.lt
  have HF := Lib.hid (And.intro hfin (H.out.1.chg hct hlt))
  clear hfin hct hlt hc4 hA4 hA3 hc3 hM3 hOc2 hMc2 hA2 hkb2 hc2 hg2 hm2
  refine hK _ _ (.inl rfl) ?_
  clear hK K
  unfold wpTree
  go_wp2
  go_ret
  exact ⟨_, rfl, HF.out.2, HF.out.1⟩
end Go.Proofs.Ytnhifnakgiddiaa
