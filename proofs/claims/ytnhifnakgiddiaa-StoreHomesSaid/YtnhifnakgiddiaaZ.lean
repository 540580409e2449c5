/- The store's Back. -/
import Derived.Test.YtnhifnakgiddiaaY
import Derived.Deep.LoopGhost
namespace Go.Proofs.Ytnhifnakgiddiaa
open Go Go.RowKit Go.MapKept
open Go.ChangeMaps (setBlock heap_setBlock_same heap_setBlock_other)

section
variable {w : World} {s p : Nat} {S : SM} {g : SG}
/-- The last one is taken off the row. -/
theorem StAt.popped (h : StAt w s p S g) {A : Option Addr} {n c m : Nat} (hv : g.uv = .slice A n c) (hm : m ≤ S.us.length) :
    StAt (w.setCell ⟨s, 5, none⟩ (.slice A m c)) s p { S with us := S.us.take m } { g with uv := .slice A m c, bx := fun k => g.bx k ∨ False } ∧ Chg (fun k => k = s) w (w.setCell ⟨s, 5, none⟩ (.slice A m c)) := by
  have hc : Chg (fun k => k = s) w (w.setCell ⟨s, 5, none⟩ (.slice A m c)) := (Chg.refl (fun k => k = s) w).setCell ⟨s, 5, none⟩ _ (fun _ => rfl)
  refine ⟨h.to_undo (hc.mono (fun _ _ e => .inl e)) (.slice A m c) (fun _ => False) _ (by rw [blk_set h.head]; rfl) (h.undo_take hc hv hm) (fun k hk => hk.elim), hc⟩
theorem fp_pop {s m : Nat} {A : Option Addr} {n c : Nat} (hv : g.uv = .slice A n c) : ∀ j, fp { g with uv := .slice A m c, bx := fun k => g.bx k ∨ False } s j → fp g s j := by
  rintro x (e | e | e | e | e | e | e | (e | e) | e)
  · exact (.inl e)
  · exact (.inr (.inl e))
  · exact (.inr (.inr (.inl e)))
  · exact (.inr (.inr (.inr (.inl e))))
  · refine .inr (.inr (.inr (.inr (.inl ?_)))); rw [hv]; cases A <;> exact e
  · exact (.inr (.inr (.inr (.inr (.inr (.inl e))))))
  · exact (.inr (.inr (.inr (.inr (.inr (.inr (.inl e)))))))
  · exact (.inr (.inr (.inr (.inr (.inr (.inr (.inr (.inl e))))))))
  · exact e.elim
  · exact (.inr (.inr (.inr (.inr (.inr (.inr (.inr (.inr e))))))))
/-- What lies behind one turn of the loop. -/
theorem StAt.pop_to {F : Nat → Prop} (h : StAt w s p S g) (hF : ∀ k, F k ↔ fp g s k) {w1 : World} {m : Nat} {u : Und} {A : Option Addr} {n c : Nat} {mm : Nat → Prop} (hv : g.uv = .slice A n c) (h1 : StAt w1 s p (S.undo1 u) g) (hc : Chg mm w w1) (hmm : ∀ k, mm k → fp g s k)
    (hm : m ≤ S.us.length) : StTo w s p { S.undo1 u with us := S.us.take m } F (w1.setCell ⟨s, 5, none⟩ (.slice A m c)) := by
  have hus : (S.undo1 u).us = S.us := by cases u <;> rfl
  obtain ⟨k1, k2⟩ := h1.popped hv (by rw [hus]; exact hm)
  rw [hus] at k1
  refine ⟨fp _ s, ⟨_, k1, fun _ => Iff.rfl⟩, hc.mono (fun k _ e => (hF k).2 (hmm k e)) |>.trans k2 (fun k _ e => (hF k).2 (.inl e)), fun j hj => .inl ((hF j).2 (fp_pop hv j hj))⟩
end

theorem store_Back_bad (s p : Nat) (mark : Int) (S : SM) (F : Nat → Prop) (D : AD) (G : Nat → Prop) (w : World) (hS : StRep w s p S F) (hD : DiskRep w p D G) (hn : 0 < D.n) (hm : mark < 0 ∨ (S.us.length : Int) < mark) :
    Calls Try.prog 13 #[ptr s, .int .i64 mark] w fun e w' => e = .returned (.int .i64 22) ∧ w = w' := by
  have hb := store_Blocks s p S F D G w hS hD
  obtain ⟨g, hA, _⟩ := hS
  obtain ⟨fs, hfo, _⟩ := hA.undo
  obtain ⟨A, c, he⟩ := own_slice hfo
  have c5 : w.cell? ⟨s, 5, none⟩ = some (.slice A S.us.length c) := by rw [hA.cell]; simp [he]
  have HB := Lib.hid hb
  have hne : ¬ ((D.n : Int) = 0) := by omega
  clear hb hA hfo he hD
  unfold ptr at *
  go_enter Try.func13, Try.ntmps13
  rcases (show mark < 0 ∨ (¬ mark < 0 ∧ (S.us.length : Int) < mark) by omega) with h | ⟨h, h'⟩
  · go_wp2_with (go_at_call 20; refine HB.out.mono ?_; rintro e w' ⟨rfl, rfl⟩)
    go_ret
    exact ⟨rfl, rfl⟩
  · have h'' : mark > (S.us.length : Int) := h'
    go_wp2_with (go_at_call 20; refine HB.out.mono ?_; rintro e w' ⟨rfl, rfl⟩)
    go_ret
    exact ⟨rfl, rfl⟩

set_option maxRecDepth 100000 in
set_option maxHeartbeats 4000000 in
theorem store_Back (s p mark : Nat) (S : SM) (F : Nat → Prop) (D : AD) (G : Nat → Prop) (w : World) (hS : StRep w s p S F) (hD : DiskRep w p D G) (hn : 0 < D.n) (hm : mark ≤ S.us.length) (hus : S.us.length ≤ 1000000000) :
    Calls Try.prog 13 #[ptr s, .int .i64 (mark : Int)] w fun e w' => e = .returned (.int .i64 0) ∧ StTo w s p (S.backTo mark) F w' := by
  have hb := store_Blocks s p S F D G w hS hD
  obtain ⟨g, hA, _⟩ := id hS
  obtain ⟨fs, hfo, _⟩ := hA.undo
  obtain ⟨A, c, he⟩ := own_slice hfo
  have c5 : w.cell? ⟨s, 5, none⟩ = some (.slice A S.us.length c) := by rw [hA.cell]; simp [he]
  have HB := Lib.hid hb
  have HS := Lib.hid hS
  have hne : ¬ ((D.n : Int) = 0) := by omega
  have hm' : ¬ ((mark : Int) > (S.us.length : Int)) := by omega
  have h0 : decide ((mark : Int) < 0) = false := by simp
  have h1 : (D.n == 0) = false := by simp; omega
  have h2 : decide (S.us.length < mark) = false := by simp; omega
  clear hb hA hfo he hD hS
  unfold ptr at *
  go_enter Try.func13, Try.ntmps13
  go_wp2_with (go_at_call 20; refine HB.out.mono ?_; rintro e w' ⟨rfl, rfl⟩)
  go_loopg [5] (S.us.length - mark) (fun k x wr => ∃ m : Nat, k = m - mark ∧ mark ≤ m ∧ m ≤ S.us.length ∧ StTo w s p (S.backTo m) F wr)
  case atStart => exact ⟨S.us.length, rfl, hm, Nat.le_refl _, by rw [backTo_all]; exact HS.out.to_ (Chg.refl _ _)⟩
  case round =>
    obtain ⟨m, hk, hm1, hm2, hto⟩ := hrel
    have HT := Lib.hid hto
    obtain ⟨F', ⟨g', hA', hF'⟩, hc', hi'⟩ := hto
    obtain ⟨fs', hfo', hfs'⟩ := hA'.undo
    have hlen : (S.backTo m).us.length = m := by simp [SM.backTo]; omega
    rw [hlen] at hfo'
    obtain ⟨A', cc', he'⟩ := own_slice hfo'
    have c5r : wr.cell? ⟨s, 5, none⟩ = some (.slice A' m cc') := by rw [hA'.cell]; simp [he']
    by_cases hmm : m = mark
    · subst hmm
      clear hA' hF' hc' hi' hfo' hfs' hlen he' HS c5
      go_wp2
      go_ret
      exact ⟨rfl, HT.out⟩
    · obtain ⟨j, rfl⟩ : ∃ j, m = j + 1 := ⟨m - 1, by omega⟩
      have hgt : mark < j + 1 := by omega
      rcases own_cells hfo' with ⟨h, _⟩ | ⟨gu, cu, hv, hcu, hcell⟩
      · omega
      rw [hv] at he'; cases he'
      obtain ⟨u, hu⟩ : ∃ u, (S.backTo (j + 1)).us[j]? = some u := ⟨_, List.getElem?_eq_getElem (by omega)⟩
      obtain ⟨f, hf, hU⟩ := hfs' j u hu
      have cf := hcell j f hf
      have hu' : S.us[j]? = some u := by
        have : (S.backTo (j + 1)).us = S.us.take (j + 1) := rfl
        rw [this, List.getElem?_take, if_pos (by omega)] at hu; exact hu
      have hstep := backTo_step S j u hu'
      have hwj : wrap64 (j : Int) = j := by unfold wrap64; omega
      cases u with
      | wr n old =>
        obtain ⟨bo, bs, bn, ov, rfl, x1, x2, x3, _, _, _, x4⟩ := hU
        have hcall := und_wr hA' x1 x2 x3 x4
        have HC := Lib.hid hcall
        have HK := Lib.hid (And.intro hA' (And.intro hF' (And.intro hc' (And.intro hi' (And.intro hlen (And.intro hv hstep))))))
        clear hcall hA' hF' hc' hi' hlen hv hstep x1 x2 x3 x4 hfo' hfs' hcell hu hu' hf HT HS c5
        unfold ptr at *
        go_wp2_with fail
        refine HC.out.mono ?_
        rintro e w1 ⟨rfl, hA1, hc1⟩
        have d5 : w1.cell? ⟨s, 5, none⟩ = some (.slice (some ⟨gu, 0, none⟩) (j + 1) cc') := by rw [hA1.cell]; simp [HK.out.2.2.2.2.2.1]
        have f5 : w1.frozen? ⟨s, 5, none⟩ = false := blk_frozen hA1.head 5
        have hto1 := HK.out.1.pop_to HK.out.2.1 (m := j) HK.out.2.2.2.2.2.1 hA1 hc1 (fun k e => .inr (.inl e)) (by have := HK.out.2.2.2.2.1; omega)
        have hus2 : (S.backTo (j + 1)).us.take j = (S.backTo (j + 1)).us.take j := rfl
        rw [← HK.out.2.2.2.2.2.2] at hto1
        have HR := Lib.hid (hto1.from_ HK.out.2.2.1 HK.out.2.2.2.1)
        clear hA1 hc1 hto1
        go_wp2
        go_roundg (j - mark)
        case measure => omega
        case rel => exact ⟨j, rfl, by omega, by omega, HR.out⟩
      | hd live n was =>
        obtain ⟨bw, bh, bn, mm, rfl, x1, x2, x3, _, _, _, x4⟩ := hU
        have hcall := und_hd hA' x1 x2 x3 x4
        have hmm : ∀ k, k = mm → fp g' s k := by
          rintro k rfl
          cases live with
          | true => simp only [if_true] at x4; subst x4; exact .inr (.inr (.inr (.inl rfl)))
          | false => simp only [Bool.false_eq_true, if_false] at x4; exact .inr (.inr (.inr (.inr (.inr (.inr (.inr (.inr x4)))))))
        have HC := Lib.hid hcall
        have HK := Lib.hid (And.intro hA' (And.intro hF' (And.intro hc' (And.intro hi' (And.intro hlen (And.intro hv (And.intro hstep hmm)))))))
        clear hcall hA' hF' hc' hi' hlen hv hstep x1 x2 x3 x4 hfo' hfs' hcell hu hu' hf HT HS c5 hmm
        unfold ptr at *
        go_wp2_with fail
        refine HC.out.mono ?_
        rintro e w1 ⟨rfl, hA1, hc1⟩
        have d5 : w1.cell? ⟨s, 5, none⟩ = some (.slice (some ⟨gu, 0, none⟩) (j + 1) cc') := by rw [hA1.cell]; simp [HK.out.2.2.2.2.2.1]
        have f5 : w1.frozen? ⟨s, 5, none⟩ = false := blk_frozen hA1.head 5
        have hto1 := HK.out.1.pop_to HK.out.2.1 (m := j) HK.out.2.2.2.2.2.1 hA1 hc1 HK.out.2.2.2.2.2.2.2 (by have := HK.out.2.2.2.2.1; omega)
        rw [← HK.out.2.2.2.2.2.2.1] at hto1
        have HR := Lib.hid (hto1.from_ HK.out.2.2.1 HK.out.2.2.2.1)
        clear hA1 hc1 hto1
        go_wp2
        go_roundg (j - mark)
        case measure => omega
        case rel => exact ⟨j, rfl, by omega, by omega, HR.out⟩
end Go.Proofs.Ytnhifnakgiddiaa
