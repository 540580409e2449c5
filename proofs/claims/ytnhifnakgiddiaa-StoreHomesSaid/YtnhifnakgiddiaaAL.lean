/- The laws' 'awake', walked: it answers true. -/
import Derived.Test.YtnhifnakgiddiaaAK
namespace Go.Proofs.Ytnhifnakgiddiaa
open Go Go.RowKit Go.MapKept
open Go.ChangeMaps (setBlock heap_setBlock_same heap_setBlock_other)

set_option maxRecDepth 100000 in
set_option maxHeartbeats 8000000 in
theorem law_awake (w : World) : Calls Try.prog 6 #[] w fun e w' => e = .returned (.bool true) ∧ Below w.heap.size w w' := by
  go_enter Try.func6, Try.ntmps6
  -- the disk
  go_wp2_with fail
  have c1 := disk_New 128 w (by decide) (by decide)
  refine c1.mono ?_
  clear c1
  rintro e w1 ⟨p, G, rfl, hD, hb1, hG⟩
  have H1 := Lib.hid (And.intro hD (And.intro hb1 hG))
  clear hD hb1 hG
  -- the store
  go_wp2_with fail
  have c2 : Calls Try.prog 22 #[.pointer (some ⟨p, 0, none⟩), .int .i64 1, .int .i64 2] w1 _ := store_New p 1 2 (AD.new 128) G w1 H1.out.1 (by decide) (by decide) (by decide)
  refine c2.mono ?_
  clear c2
  rintro e w2 ⟨s, F2, rfl, hS, hb2, hF2⟩
  have hA2 : Aw w w2 s p A0 D0 (fun _ => False) := ⟨F2, hS, fun j hj => ⟨by
    rcases hF2 j hj with h | h
    · exact H1.out.2.2 j h
    · exact Nat.le_trans H1.out.2.1.size h, id⟩, H1.out.2.1.trans (hb2.mono H1.out.2.1.size), fun j hj => hj.elim⟩
  have hD2 : ∃ G', DiskRep w2 p D0 G' := by obtain ⟨_, G', _, h, _⟩ := hS; exact ⟨G', h⟩
  obtain ⟨G2, hG2⟩ := hD2
  have H2 := Lib.hid (And.intro hA2 hG2)
  clear hA2 hG2 hS hb2 hF2
  unfold ptr
  go_wp2_with fail
  have c3 := store_New_bad p 17 2 D0 G2 w2 H2.out.2 (by decide)
  refine c3.mono ?_
  clear c3
  rintro e w3 ⟨rfl, rfl⟩
  go_wp2_with fail
  clear H1
  have cf := law_filled 7 w2
  refine cf.mono ?_
  clear cf
  rintro e w3 ⟨rfl, hB, hb⟩
  have hA := (H2.out.1.below hb).1
  have H3 := Lib.hid (And.intro hA hB)
  clear hA hB hb
  go_wp2_with fail
  obtain ⟨F, h, hF, hb, hH⟩ := H3.out.1
  have cw : Calls Try.prog 10 #[.pointer (some ⟨s, 0, none⟩), .int .i64 5, .slice (some ⟨w2.heap.size, 0, none⟩) 256 256] w3 _ := sys_Write (k := 5) (b := filledB 7) h ok0 has5 (filledB_length 7) H3.out.2.at_ ⟨_, H3.out.2⟩ (by decide)
  refine cw.mono ?_
  clear cw
  rintro e w4 ⟨rfl, hto⟩
  have H4 := Lib.hid (And.intro (show Aw w w4 s p A1 D0 (fun _ => False) from (Aw.step h hF hb hH hto).1) trivial)
  clear h hF hb hH hto
  go_wp2_with fail
  -- mark
  obtain ⟨F, h, hF, hb, hH⟩ := H4.out.1
  have cm := sys_Mark h
  unfold ptr at cm
  refine cm.mono ?_
  clear cm h hF hb hH
  rintro e w5 ⟨rfl, rfl⟩
  rw [show A1.us.length = 1 from rfl]
  go_wp2_with fail
  have cf := law_filled 8 w4
  refine cf.mono ?_
  clear cf
  rintro e w5 ⟨rfl, hB, hb⟩
  have hA := (H4.out.1.below hb).1
  have H5 := Lib.hid (And.intro hA hB)
  clear hA hB hb
  go_wp2_with fail
  obtain ⟨F, h, hF, hb, hH⟩ := H5.out.1
  have cw : Calls Try.prog 10 #[.pointer (some ⟨s, 0, none⟩), .int .i64 5, .slice (some ⟨w4.heap.size, 0, none⟩) 256 256] w5 _ := sys_Write (k := 5) (b := filledB 8) h ok1 has5 (filledB_length 8) H5.out.2.at_ ⟨_, H5.out.2⟩ (by decide)
  refine cw.mono ?_
  clear cw
  rintro e w6 ⟨rfl, hto⟩
  have H6 := Lib.hid (And.intro (show Aw w w6 s p A2 D0 (fun _ => False) from (Aw.step h hF hb hH hto).1) trivial)
  clear h hF hb hH hto
  go_wp2_with fail
  -- hold
  obtain ⟨F, h, hF, hb, hH⟩ := H6.out.1
  have ch : Calls Try.prog 12 #[.pointer (some ⟨s, 0, none⟩), .int .i64 9] w6 _ := sys_Hold (k := 9) h (by decide) (by decide)
  refine ch.mono ?_
  clear ch
  rintro e w7 ⟨rfl, hto⟩
  have H7 := Lib.hid (show Aw w w7 s p A3 D0 (fun _ => False) from (Aw.step h hF hb hH hto).1)
  clear h hF hb hH hto
  go_wp2_with fail
  -- back
  obtain ⟨F, h, hF, hb, hH⟩ := H7.out
  have cb : Calls Try.prog 13 #[.pointer (some ⟨s, 0, none⟩), .int .i64 1] w7 _ := sys_Back (m := 1) h ok3 (by decide) (by decide)
  refine cb.mono ?_
  clear cb
  rintro e w8 ⟨rfl, hto⟩
  have H8 := Lib.hid (show Aw w w8 s p A4 D0 (fun _ => False) from (Aw.step h hF hb hH hto).1)
  clear h hF hb hH hto
  go_wp2_with fail
  -- read
  obtain ⟨F, h, hF, hb, hH⟩ := H8.out
  have cr : Calls Try.prog 8 #[.pointer (some ⟨s, 0, none⟩), .int .i64 5] w8 _ := sys_Read (k := 5) h ok4 has5
  rw [rd4] at cr
  refine cr.mono ?_
  clear cr
  rintro e w9 ⟨va, rfl, hva, hto⟩
  obtain ⟨ga, ca, hvae, _, _, csa, hga⟩ := hva.open_ (by rw [filledB_length]; decide)
  rw [filledB_length] at hvae
  subst hvae
  have hA9 : Aw w w9 s p A5 D0 (fun x => False ∨ x = ga) := (Aw.step h hF hb hH hto).1.add (fun F' h' j hj e => by
    subst e; exact (h'.foot j hj).2 _ _ hga) (fun j e => by rw [e]; exact blk_lt hga)
  have H9 := Lib.hid (And.intro hA9 hva)
  clear h hF hb hH hto hA9 hva hga
  go_wp2_with fail
  -- held
  obtain ⟨F, h, hF, hb, hH⟩ := H9.out.1
  have chd := sys_Held h 9
  rw [hd5] at chd
  unfold ptr at chd
  refine chd.mono ?_
  clear chd h hF hb hH
  rintro e w10 ⟨rfl, rfl⟩
  go_wp2_with fail
  -- commit
  obtain ⟨F, h, hF, hb, hH⟩ := H9.out.1
  have cc := sys_Commit h ok5
  rw [list5] at cc
  unfold ptr at cc
  refine cc.mono ?_
  clear cc
  rintro e w11 ⟨vl, rfl, hnw, F', k1, k2, k3⟩
  obtain ⟨gl, cl, hvl, hgl, ⟨csl, hbl⟩, hcl⟩ : ∃ gl cl, vl = .slice (some ⟨gl, 0, none⟩) 1 cl ∧ w9.heap.size ≤ gl ∧ (∃ cs, w11.heap[gl]? = some (.cells cs 56 (0, 0))) ∧ w11.cell? ⟨gl, 0, none⟩ = some (.int .i64 5) := by
    obtain ⟨xs, ho, hx⟩ := hnw
    have hx0 := (hx 0 (5, filledB 7) rfl).1
    rcases ho.2 with ⟨_, h2⟩ | ⟨g, cap, cur, h1, h2, hgb, hle, hmx, hcs, htk⟩
    · cases h2
    · refine ⟨g, cap, h1, h2, ⟨_, hgb⟩, ?_⟩
      rw [blk_cell hgb]
      rw [← htk, List.getElem?_take] at hx0
      simpa using hx0
  subst hvl
  have hA11 : Aw w w11 s p A6 D0 (fun x => x = ga ∨ x = gl) := by
    refine ⟨F', k1, fun j hj => ⟨(hF j (k3 j hj)).1, ?_⟩, hb.trans (k2.below hb.size (fun k hk hf => by have := (hF k hf).1; omega)), ?_⟩
    · rintro (e | e)
      · exact (hF j (k3 j hj)).2 (.inr e)
      · have := (h.foot j (k3 j hj)).1; omega
    · rintro j (e | e)
      · exact Nat.lt_of_lt_of_le (hH j (.inr e)) k2.size
      · rw [e]; exact blk_lt hbl
  have hga11 : w11.heap[ga]? = w9.heap[ga]? := k2.block ga (hH ga (.inr rfl)) (fun hf => (hF ga hf).2 (.inr rfl))
  have H11 := Lib.hid (And.intro hA11 (And.intro hga11 (And.intro hbl hcl)))
  clear h hF hb hH hA11 hga11 hbl hcl hgl hnw k1 k2 k3
  go_wp2_with fail
  -- home
  obtain ⟨F, h, hF, hb, hH⟩ := H11.out.1
  have cho : Calls Try.prog 14 #[.pointer (some ⟨s, 0, none⟩), .int .i64 5] w11 _ := sys_Home (k := 5) h ok6 has5 wt6 (by decide)
  refine cho.mono ?_
  clear cho
  rintro e w12 ⟨rfl, hto⟩
  have hst := Aw.step h hF hb hH hto
  have H12 := Lib.hid (And.intro (show Aw w w12 s p A7 D1 (fun x => x = ga ∨ x = gl) from hst.1) (And.intro ((hst.2 ga (.inl rfl)).trans H11.out.2.1) (hst.2 gl (.inr rfl))))
  clear h hF hb hH hto hst
  go_wp2_with fail
  -- home, once more
  obtain ⟨F, h, hF, hb, hH⟩ := H12.out.1
  have chb := sys_Home_bad (k := 5) h (.inr wt7)
  unfold ptr at chb
  refine chb.mono ?_
  clear chb h hF hb hH
  rintro e w13 ⟨rfl, rfl⟩
  go_wp2_with fail
  -- another store over the disk
  obtain ⟨F, ⟨Fs, G3, hS3, hD3, hdj3, hFF3⟩, hF, hb, hH⟩ := H12.out.1
  have cn : Calls Try.prog 22 #[.pointer (some ⟨p, 0, none⟩), .int .i64 1, .int .i64 2] w12 _ := store_New p 1 2 D1 G3 w12 hD3 (by decide) (by decide) (by decide)
  refine cn.mono ?_
  clear cn
  rintro e w14 ⟨t, F4, rfl, hS4, hb4, hF4⟩
  have hA14 : Aw w w14 t p T0 D1 (fun x => x = ga ∨ x = gl) := by
    refine ⟨F4, hS4, fun j hj => ?_, hb.trans (hb4.mono hb.size), fun j hj => Nat.lt_of_lt_of_le (hH j hj) hb4.size⟩
    rcases hF4 j hj with h | h
    · exact hF j ((hFF3 j).2 (.inr h))
    · exact ⟨Nat.le_trans hb.size h, fun hh => by have := hH j hh; omega⟩
  have H14 := Lib.hid (And.intro hA14 (And.intro ((hb4.block ga (hH ga (.inl rfl))).trans H12.out.2.1) ((hb4.block gl (hH gl (.inr rfl))).trans H12.out.2.2)))
  clear hS3 hD3 hdj3 hFF3 hF hb hH hA14 hS4 hb4 hF4 H2 H4 H6 H7 H8 H3 H5
  unfold ptr
  go_wp2_with fail
  obtain ⟨w15, hw15⟩ : ∃ w15, w15 = w14.alloc (.cells #[.int .i64 1, .int .i64 2, .int .i64 1, .int .i64 3, .int .i64 1, .int .i64 2] 3) := ⟨_, rfl⟩
  rw [← hw15]
  have hbL : w15.heap[w14.heap.size]? = some (.cells #[.int .i64 1, .int .i64 2, .int .i64 1, .int .i64 3, .int .i64 1, .int .i64 2] 3 (0, 0)) := by rw [hw15]; exact blk_new w14 _
  have hb15 : Below w14.heap.size w14 w15 := by rw [hw15]; exact (Below.refl _ w14).alloc (Nat.le_refl _) _
  have hA15 : Aw w w15 t p T0 D1 (fun x => (x = ga ∨ x = gl) ∨ x = w14.heap.size) := by
    obtain ⟨F, h, hF, hb, hH⟩ := H14.out.1
    refine ⟨F, h.below hb15, fun j hj => ⟨(hF j hj).1, ?_⟩, hb.trans (hb15.mono hb.size), ?_⟩
    · rintro (e | e)
      · exact (hF j hj).2 e
      · have := (h.foot j hj).1; omega
    · rintro j (e | e)
      · exact Nat.lt_of_lt_of_le (hH j e) hb15.size
      · rw [e]; exact blk_lt hbL
  have hH14 := H14.out.1
  obtain ⟨_, _, _, _, hHl⟩ := hH14
  have H15 := Lib.hid (And.intro hA15 (And.intro ((hb15.block ga (hHl ga (.inl rfl))).trans H14.out.2.1) (And.intro ((hb15.block gl (hHl gl (.inr rfl))).trans H14.out.2.2) hbL)))
  clear hA15 hb15 hbL hHl hw15 H14 H12
  go_loopg [81] 6 (fun k i wr => ∃ j : Nat, k = 6 - j ∧ j ≤ 6 ∧ i = .int .i64 j ∧ Aw w wr t p (Tn j) D1 (fun x => (x = ga ∨ x = gl) ∨ x = w14.heap.size) ∧ ∀ x, ((x = ga ∨ x = gl) ∨ x = w14.heap.size) → wr.heap[x]? = w15.heap[x]?)
  case atStart => exact ⟨0, rfl, by decide, rfl, H15.out.1, fun _ _ => rfl⟩
  case round =>
    obtain ⟨j, hk, hj, rfl, hA, hkeep⟩ := hrel
    by_cases hlt : j < 6
    · have hlt' : (j : Int) < 6 := by omega
      obtain ⟨k', hk'⟩ : ∃ k', reads[j]? = some k' := ⟨_, List.getElem?_eq_getElem (by simpa [reads] using hlt)⟩
      have c0 : wr.cell? ⟨w14.heap.size, j, none⟩ = some (.int .i64 (k' : Int)) := by
        rw [blk_cell ((hkeep _ (.inr rfl)).trans H15.out.2.2.2)]
        rcases (show j = 0 ∨ j = 1 ∨ j = 2 ∨ j = 3 ∨ j = 4 ∨ j = 5 by omega) with rfl | rfl | rfl | rfl | rfl | rfl <;> (simp [reads] at hk'; subst hk'; rfl)
      have hhas : D1.has (k' : Int) = true := by
        rcases (show j = 0 ∨ j = 1 ∨ j = 2 ∨ j = 3 ∨ j = 4 ∨ j = 5 by omega) with rfl | rfl | rfl | rfl | rfl | rfl <;> (simp [reads] at hk'; subst hk'; decide)
      have HA := Lib.hid (And.intro hA hkeep)
      have Hk := Lib.hid (And.intro hk' hhas)
      clear hA hkeep hk' hhas
      obtain ⟨F, h, hF, hb, hH⟩ := HA.out.1
      have cr := Lib.hid (sys_Read (k := k') h (tn_ok j) Hk.out.2)
      have HB := Lib.hid (And.intro h (And.intro hF (And.intro hb hH)))
      clear h hF hb hH
      unfold ptr at cr
      go_wp2_with (go_at_call 8; refine cr.out.mono ?_; rintro e w16 ⟨v16, rfl, _, hto⟩; have HC := Lib.hid hto; clear hto)
      go_roundg (6 - (j + 1))
      case measure => omega
      case rel =>
        have hst := Aw.step HB.out.1 HB.out.2.1 HB.out.2.2.1 HB.out.2.2.2 HC.out
        rw [← tn_step j k' Hk.out.1] at hst
        exact ⟨j + 1, rfl, by omega, by go_num, hst.1, fun x hx => (hst.2 x hx).trans (HA.out.2 x hx)⟩
    · have hj6 : j = 6 := by omega
      subst hj6
      obtain ⟨F, h, hF, hb, hH⟩ := id hA
      have cc := sys_Counts h
      rw [tn_end.1, tn_end.2] at cc
      unfold ptr at cc
      have HC := Lib.hid cc
      have HA := Lib.hid (And.intro hA hkeep)
      clear hA hkeep h hF hb hH cc
      go_wp2_with (go_at_call 9; refine HC.out.mono ?_; rintro e w17 ⟨rfl, rfl⟩)
      have cf := law_filled 7 wr.drew
      refine cf.mono ?_
      clear cf
      rintro e w18 ⟨rfl, hB, hbl8⟩
      have hbd : Below wr.heap.size wr w18 := ((Below.refl _ wr).drew).trans hbl8
      have hHl := HA.out.1
      obtain ⟨_, _, _, hbw, hHl⟩ := hHl
      have hga18 : w18.heap[ga]? = w9.heap[ga]? := (hbd.block ga (hHl ga (.inl (.inl rfl)))).trans ((HA.out.2 ga (.inl (.inl rfl))).trans H15.out.2.1)
      have hgl18 : w18.heap[gl]? = w11.heap[gl]? := (hbd.block gl (hHl gl (.inl (.inr rfl)))).trans ((HA.out.2 gl (.inl (.inr rfl))).trans H15.out.2.2.1)
      have hva18 : Blk w18 (.slice (some ⟨ga, 0, none⟩) 256 ca) (filledB 7) := own_keep H9.out.2 (fun k hk => by cases hk; exact hga18)
      have hvf : Blk w18 (.slice (some ⟨wr.drew.heap.size, 0, none⟩) 256 256) (filledB 7) := by
        have := hB.blk (by rw [filledB_length]; decide)
        rwa [filledB_length] at this
      have hgl : gl < w18.heap.size := Nat.lt_of_lt_of_le (hHl gl (.inl (.inr rfl))) hbd.size
      have hc18 : w18.cell? ⟨gl, 0, none⟩ = some (.int .i64 5) := (World.cell?_of_block hgl18).trans H11.out.2.2.2
      have csame := ref01_Same _ _ (filledB 7) (filledB 7) w18 hva18 hvf (by rw [filledB_length]; decide)
      rw [show (filledB 7 == filledB 7) = true from beq_self_eq_true _] at csame
      have HS := Lib.hid (And.intro csame (And.intro hc18 (And.intro hgl (hbw.trans (hbd.mono hbw.size)))))
      clear csame hc18 hgl hbw hbd hHl hga18 hgl18 hva18 hvf hB hbl8
      go_wp2_with fail
      refine HS.out.1.mono ?_
      rintro e w19 ⟨rfl, hb19⟩
      have c19 : w19.cell? ⟨gl, 0, none⟩ = some (.int .i64 5) := (hb19.cell (p := ⟨gl, 0, none⟩) HS.out.2.2.1).trans HS.out.2.1
      have H19 := Lib.hid hb19
      clear hb19
      go_wp2
      go_ret
      exact ⟨rfl, HS.out.2.2.2.trans (H19.out.mono HS.out.2.2.2.size)⟩
end Go.Proofs.Ytnhifnakgiddiaa
