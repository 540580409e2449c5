/- The law StoreNone, walked: it answers true. -/
import Derived.Test.YtnhifnakgiddiaaAL
namespace Go.Proofs.Ytnhifnakgiddiaa
open Go Go.RowKit Go.MapKept
open Go.ChangeMaps (setBlock heap_setBlock_same heap_setBlock_other)

set_option maxRecDepth 100000 in
set_option maxHeartbeats 8000000 in
theorem law_StoreNone (n : Int) (w : World) : Calls Try.prog 3 #[.int .i64 n] w fun e w' => e = .returned (.bool true) ∧ Below w.heap.size w w' := by
  go_enter Try.func3, Try.ntmps3
  go_wp2_with fail
  refine (law_awake w).mono ?_
  rintro e w1 ⟨rfl, hb1⟩
  have H1 := Lib.hid hb1; clear hb1
  go_wp2_with fail
  obtain ⟨w2, hw2⟩ : ∃ w2, w2 = (w1.alloc zeroStore).alloc (.cells #[.pointer none, .pointer (some ⟨w1.heap.size, 0, none⟩)] 23) := ⟨_, rfl⟩
  have hz := blk_alloc (blk_new w1 zeroStore) (.cells #[.pointer none, .pointer (some ⟨w1.heap.size, 0, none⟩)] 23)
  have hl := blk_new (w1.alloc zeroStore) (.cells #[.pointer none, .pointer (some ⟨w1.heap.size, 0, none⟩)] 23)
  have hb2 : Below w1.heap.size w1 w2 := by rw [hw2]; exact ((Below.refl _ w1).alloc (Nat.le_refl _) _).alloc (by simp) _
  rw [World.size_alloc] at hl
  rw [← hw2] at hz hl
  have hsh := hw2
  unfold zeroStore at hsh
  have H2 := Lib.hid (And.intro hz (And.intro hl (H1.out.trans (hb2.mono H1.out.size))))
  rw [← hsh]
  clear hz hl hb2 hw2 hsh H1
  go_loopg [6] 2 (fun k i wr => ∃ j : Nat, k = 2 - j ∧ j ≤ 2 ∧ i = .int .i64 j ∧ Below w2.heap.size w2 wr)
  case atStart => exact ⟨0, rfl, by decide, rfl, Below.refl _ _⟩
  case round =>
    obtain ⟨j, hk, hj, rfl, hb⟩ := hrel
    by_cases hlt : j < 2
    · have hlt' : (j : Int) < 2 := by omega
      obtain ⟨v, hv, hns⟩ : ∃ v, wr.cell? ⟨w1.heap.size + 1, j, none⟩ = some v ∧ NoStore wr v := by
        have hL := (hb.block _ (blk_lt H2.out.2.1)).trans H2.out.2.1
        have hZ := (hb.block _ (blk_lt H2.out.1)).trans H2.out.1
        rcases (show j = 0 ∨ j = 1 by omega) with rfl | rfl
        · exact ⟨.pointer none, by rw [blk_cell hL]; rfl, .inl rfl⟩
        · exact ⟨.pointer (some ⟨w1.heap.size, 0, none⟩), by rw [blk_cell hL]; rfl, .inr ⟨_, rfl, hZ⟩⟩
      have HB := Lib.hid hb; clear hb
      have N0 := Lib.hid hns; clear hns
      go_wp2_with fail
      refine (none_Release N0.out).mono ?_
      rintro e w3 ⟨rfl, rfl⟩
      go_wp2_with fail
      refine (none_Read N0.out n).mono ?_
      rintro e w3 ⟨rfl, rfl⟩
      go_wp2_with fail
      refine (none_Counts N0.out).mono ?_
      rintro e w3 ⟨rfl, h3⟩
      have N3 := Lib.hid (And.intro (N0.out.below h3) (HB.out.trans (h3.mono HB.out.size))); clear h3
      go_wp2_with fail
      refine (law_filled 1 w3).mono ?_
      rintro e w4 ⟨rfl, _, h4⟩
      have N4 := Lib.hid (And.intro (N3.out.1.below h4) (N3.out.2.trans (h4.mono N3.out.2.size))); clear h4
      go_wp2_with fail
      refine (none_Write N4.out.1 n _ _ _).mono ?_
      rintro e w5 ⟨rfl, h5⟩
      have N5 := Lib.hid (And.intro (N4.out.1.below h5) (N4.out.2.trans (h5.mono N4.out.2.size))); clear h5
      go_wp2_with fail
      refine (none_Hold N5.out.1 n).mono ?_
      rintro e w6 ⟨rfl, h6⟩
      have N6 := Lib.hid (And.intro (N5.out.1.below h6) (N5.out.2.trans (h6.mono N5.out.2.size))); clear h6
      go_wp2_with fail
      refine (none_Back N6.out.1 n).mono ?_
      rintro e w7 ⟨rfl, rfl⟩
      go_wp2_with fail
      refine (none_Home N6.out.1 n).mono ?_
      rintro e w7 ⟨rfl, rfl⟩
      go_wp2_with fail
      refine (none_Held N6.out.1 n).mono ?_
      rintro e w7 ⟨rfl, rfl⟩
      go_wp2_with fail
      refine (none_Mark N6.out.1).mono ?_
      rintro e w7 ⟨rfl, rfl⟩
      go_wp2_with fail
      refine (none_Changed N6.out.1).mono ?_
      rintro e w7 ⟨rfl, h7⟩
      have N7 := Lib.hid (And.intro (N6.out.1.below h7) (N6.out.2.trans (h7.mono N6.out.2.size))); clear h7
      go_wp2_with fail
      refine (none_Commit N7.out.1).mono ?_
      rintro e w8 ⟨rfl, rfl⟩
      go_wp2_with fail
      refine (none_Waiting N7.out.1).mono ?_
      rintro e w8 ⟨rfl, h8⟩
      have N8 := Lib.hid (And.intro (N7.out.1.below h8) (N7.out.2.trans (h8.mono N7.out.2.size))); clear h8
      go_wp2_with fail
      refine (none_Blocks N8.out.1).mono ?_
      rintro e w9 ⟨rfl, rfl⟩
      go_wp2_with fail
      go_roundg (2 - (j + 1))
      case measure => omega
      case rel => exact ⟨j + 1, rfl, by omega, by go_num, N8.out.2⟩
    · have hj2 : j = 2 := by omega
      subst hj2
      have HB := Lib.hid hb; clear hb
      go_wp2
      go_ret
      exact ⟨rfl, H2.out.2.2.trans (HB.out.mono H2.out.2.2.size)⟩
end Go.Proofs.Ytnhifnakgiddiaa
