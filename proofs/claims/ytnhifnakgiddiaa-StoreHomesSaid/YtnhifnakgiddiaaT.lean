/- The store's small calls: Mark, Counts, Held, Release. -/
import Derived.Test.YtnhifnakgiddiaaR
namespace Go.Proofs.Ytnhifnakgiddiaa
open Go Go.RowKit Go.MapKept
open Go.ChangeMaps (setBlock heap_setBlock_same heap_setBlock_other)

theorem zeroInt (w : World) : (zeroValue 3).run Try.prog w = .ok (.int .i64 0) w := by kernel_rfl

set_option maxHeartbeats 1000000 in
theorem store_Mark (s p : Nat) (S : SM) (F : Nat → Prop) (w : World) (hS : StRep w s p S F) :
    Calls Try.prog 16 #[ptr s] w fun e w' => e = .returned (.int .i64 S.us.length) ∧ w = w' := by
  obtain ⟨g, hA, _⟩ := hS
  obtain ⟨fs, hfo, _⟩ := hA.undo
  obtain ⟨A, c, he⟩ := own_slice hfo
  have c5 : w.cell? ⟨s, 5, none⟩ = some (.slice A S.us.length c) := by rw [hA.cell]; simp [he]
  clear hA hfo he
  unfold ptr at *
  go_enter Try.func16, Try.ntmps16
  go_wp2
  go_ret
  exact ⟨rfl, rfl⟩

set_option maxHeartbeats 1000000 in
theorem store_Counts (s p : Nat) (S : SM) (F : Nat → Prop) (w : World) (hS : StRep w s p S F) :
    Calls Try.prog 9 #[ptr s] w fun e w' => e = .returned (.tuple #[.int .i64 S.found, .int .i64 S.asked]) ∧ w.drew = w' := by
  have c7 := hS.cells.1
  have c8 := hS.cells.2.1
  clear hS
  unfold ptr at *
  go_enter Try.func9, Try.ntmps9
  go_wp2
  go_region
  go_wp2
  go_ret2
  exact ⟨rfl, rfl⟩

theorem heldV_get (h : Int → Bool) (k : Int) : (heldV h k).getD (.int .i64 0) = .int .i64 (if h k then 1 else 0) := by
  unfold heldV; split <;> rfl

set_option maxHeartbeats 1000000 in
theorem store_Held (s p : Nat) (k : Int) (S : SM) (F : Nat → Prop) (D : AD) (G : Nat → Prop) (w : World) (hS : StRep w s p S F) (hD : DiskRep w p D G) :
    Calls Try.prog 15 #[ptr s, .int .i64 k] w fun e w' => e = .returned (.bool (D.has k && S.hd k)) ∧ w = w' := by
  have hh := store_has s p k S F D G w hS hD
  obtain ⟨g, hA, _⟩ := hS
  have c4 : w.cell? ⟨s, 4, none⟩ = some (.map (some g.mh)) := by rw [hA.cell]; rfl
  have L := hA.hd.lookup (P := Try.prog) Try.underlying26 Try.underlying3 (zeroInt _) k
  rw [heldV_get] at L
  have HH := Lib.hid hh
  clear hh hA hD
  unfold ptr at *
  cases hk : D.has k
  · rw [hk] at HH
    go_enter Try.func15, Try.ntmps15
    go_wp2_with (go_at_call 34; refine HH.out.mono ?_; rintro e w' ⟨rfl, rfl⟩)
    go_ret
    exact ⟨rfl, rfl⟩
  · rw [hk] at HH
    cases hd : S.hd k
    · rw [hd] at L
      simp only [Bool.false_eq_true, if_false] at L
      go_enter Try.func15, Try.ntmps15
      go_wp2_with (go_at_call 34; refine HH.out.mono ?_; rintro e w' ⟨rfl, rfl⟩)
      go_ret
      exact ⟨rfl, rfl⟩
    · rw [hd] at L
      simp only [if_true] at L
      go_enter Try.func15, Try.ntmps15
      go_wp2_with (go_at_call 34; refine HH.out.mono ?_; rintro e w' ⟨rfl, rfl⟩)
      go_ret
      exact ⟨rfl, rfl⟩

def SM.release (S : SM) : SM := { S with hd := fun _ => false, us := S.us.map Und.stale }

set_option maxHeartbeats 1000000 in
theorem store_Release (s p : Nat) (S : SM) (F : Nat → Prop) (D : AD) (G : Nat → Prop) (w : World) (hS : StRep w s p S F) (hD : DiskRep w p D G) (hn : 0 < D.n) :
    Calls Try.prog 7 #[ptr s] w fun e w' => e = .returned (.tuple #[]) ∧ StTo w s p S.release F w' := by
  have hb := store_Blocks s p S F D G w hS hD
  obtain ⟨g, hA, hF⟩ := id hS
  have hsl := hA.k_s.lt
  have f4 := hS.cells.2.2.2 4
  have c4 : w.cell? ⟨s, 4, none⟩ = some (.map (some g.mh)) := by rw [hA.cell]; rfl
  have hc : Chg (fun k => k = s) w ((w.setCell ⟨s, 4, none⟩ (.map (some w.heap.size))).alloc (.map #[] 0)) := ((Chg.refl (fun k => k = s) w).setCell ⟨s, 4, none⟩ _ (fun _ => rfl)).alloc _
  have hm := MapIs.made (w.setCell ⟨s, 4, none⟩ (.map (some w.heap.size)))
  have hbk := blk_alloc (blk_set hA.head 4 (.map (some w.heap.size))) (.map #[] 0)
  rw [World.size_setCell] at hm
  have hr := hA.to_release hc w.heap.size (Nat.le_refl _) (by rw [hbk]; rfl) hm
  have hto : StTo w s p S.release F ((w.setCell ⟨s, 4, none⟩ (.map (some w.heap.size))).alloc (.map #[] 0)) := by
    refine ⟨fp _ s, ⟨_, hr, fun _ => Iff.rfl⟩, hc.mono (fun k _ e => (hF k).2 (.inl e)), ?_⟩
    rintro x (e | e | e | e | e | e | e | e | e | e)
    · exact .inl ((hF x).2 (.inl e))
    · exact .inl ((hF x).2 (.inr (.inl e)))
    · exact .inl ((hF x).2 (.inr (.inr (.inl e))))
    · exact .inr (by have e' : x = w.heap.size := e; omega)
    · exact .inl ((hF x).2 (.inr (.inr (.inr (.inr (.inl e))))))
    · exact .inl ((hF x).2 (.inr (.inr (.inr (.inr (.inr (.inl e)))))))
    · exact .inl ((hF x).2 (.inr (.inr (.inr (.inr (.inr (.inr (.inl e))))))))
    · exact .inl ((hF x).2 (.inr (.inr (.inr (.inr (.inr (.inr (.inr (.inl e)))))))))
    · exact .inl ((hF x).2 (.inr (.inr (.inr (.inr (.inr (.inr (.inr (.inr e)))))))))
    · exact .inl ((hF x).2 (.inr (.inr (.inr (.inl e)))))
  have HH := Lib.hid (And.intro hb hto)
  have hn' : (D.n : Int) > 0 := by omega
  have hmm := @run_makeMap Try.prog
  clear hb hto hr hbk hm hc hS hD hA hF
  unfold ptr at *
  go_enter Try.func7, Try.ntmps7
  go_wp2_with (go_at_call 20; refine HH.out.1.mono ?_; rintro e w' ⟨rfl, rfl⟩)
  go_end0
  exact ⟨rfl, HH.out.2⟩
end Go.Proofs.Ytnhifnakgiddiaa
