/- The disk's Pending: copies of what was written. -/
import Derived.Test.YtnhifnakgiddiaaAM
import Derived.Handy
namespace Go.Proofs.Ytnhifnakgiddiaa
open Go Go.RowKit Go.MapKept
open Go.ChangeMaps (setBlock heap_setBlock_same heap_setBlock_other)

set_option maxRecDepth 100000 in
set_option maxHeartbeats 2000000 in
theorem disk_copied (k : Int) (v : Value) (l : Bytes) (w : World) (hv : Blk w v l) (h0 : l.length = 256) :
    Calls Try.prog 49 #[.agg #[.int .i64 k, v]] w fun e w' => ∃ v', e = .returned (.agg #[.int .i64 k, v']) ∧ Blk w' v' l ∧ Below w.heap.size w w' ∧ NewV w.heap.size v' := by
  obtain ⟨gb, cb, rfl, _, _, _⟩ := hv.open_ (by omega)
  have hb : Below w.heap.size w ((w.alloc (.cells #[.int .i64 k, .slice (some ⟨gb, 0, none⟩) l.length cb] 56)).alloc (.cells #[.int .i64 0, .slice none 0 0] 56)).drew := (((Below.refl _ w).alloc (Nat.le_refl _) _).alloc (by simp) _).drew
  have hcl := clone_blk' _ l _ (hv.below hb) (by omega) (by omega)
  have b1 : ((w.alloc (.cells #[.int .i64 k, .slice (some ⟨gb, 0, none⟩) l.length cb] 56)).alloc (.cells #[.int .i64 0, .slice none 0 0] 56)).heap[w.heap.size]? = some (.cells #[.int .i64 k, .slice (some ⟨gb, 0, none⟩) l.length cb] 56 (0, 0)) := blk_alloc (blk_new w _) _
  have b2 := blk_new (w.alloc (.cells #[.int .i64 k, .slice (some ⟨gb, 0, none⟩) l.length cb] 56)) (.cells #[.int .i64 0, .slice none 0 0] 56)
  rw [World.size_alloc] at b2
  have HC := Lib.hid (And.intro hcl (And.intro hb (And.intro b1 (And.intro b2 h0))))
  clear hcl hb hv b1 b2 h0
  go_enter Try.func49, Try.ntmps49
  go_wp2
  refine wp_region_tree (fun w' => w'.cell? ⟨w.heap.size, 0, none⟩ = some (.int .i64 k) ∧ w'.cell? ⟨w.heap.size, 1, none⟩ = some (.slice (some ⟨gb, 0, none⟩) l.length cb)) 6
    (.take 0 (.take 1 (.take 2 (.take 3 (.one 4 (.one 5 (.one 6 .nil))))))) (by kernel_rfl) (by kernel_rfl) (by kernel_rfl) rfl (fun _ _ dst _ _ h => by cases dst <;> exact h) ?_ ?_
  · exact ⟨(blk_cell HC.out.2.2.1 0).trans rfl, (blk_cell HC.out.2.2.1 1).trans rfl⟩
  iterate 4 (refine tree_take ?_ (by rfl) (by rfl) ?_ ?_; rotate_left; (intro w hw; obtain ⟨hw1, hw2⟩ := hw; go_simp; rfl))
  refine tree_one (by rfl) (fun K hK => ?_)
  rw [if_pos (by rfl)]
  go_simp
  refine HC.out.1.mono ?_
  rintro e w1 ⟨v1, rfl, hv1, hb1, hn1⟩
  have k1 := (hb1.block w.heap.size (blk_lt HC.out.2.2.1)).trans HC.out.2.2.1
  have k2 := (hb1.block (w.heap.size + 1) (blk_lt HC.out.2.2.2.1)).trans HC.out.2.2.2.1
  have p0 : w1.cell? ⟨w.heap.size, 0, none⟩ = some (.int .i64 k) := (blk_cell k1 0).trans rfl
  have p1 : w1.cell? ⟨w.heap.size, 1, none⟩ = some (.slice (some ⟨gb, 0, none⟩) l.length cb) := (blk_cell k1 1).trans rfl
  obtain ⟨g1, c1, hv1e, _⟩ := hv1.open_ (by have := HC.out.2.2.2.2; omega)
  subst hv1e
  have q0 : w1.cell? ⟨w.heap.size + 1, 0, none⟩ = some (.int .i64 0) := (blk_cell k2 0).trans rfl
  have q1 : w1.cell? ⟨w.heap.size + 1, 1, none⟩ = some (.slice none 0 0) := (blk_cell k2 1).trans rfl
  have f0 : w1.frozen? ⟨w.heap.size + 1, 0, none⟩ = false := blk_frozen k2 0
  have f1 : w1.frozen? ⟨w.heap.size + 1, 1, none⟩ = false := blk_frozen k2 1
  have H1 := Lib.hid (And.intro hv1 (And.intro hb1 (And.intro hn1 k2)))
  clear hv1 hb1 hn1 k1 k2
  refine hK _ _ (.inr ⟨p0, p1⟩) ?_
  clear hK K
  refine tree_one (by rfl) (fun K hK => ?_)
  rw [if_pos (by rfl)]
  go_simp
  refine hK _ _ (.inr ⟨p0, p1⟩) ?_
  clear hK K
  refine tree_one (by rfl) (fun K hK => ?_)
  rw [if_pos (by rfl)]
  go_simp
  refine hK _ _ (.inl rfl) ?_
  clear hK K
  unfold wpTree
  go_wp2
  have hfin : Blk ((w1.setCell ⟨w.heap.size + 1, 0, none⟩ (.int .i64 k)).setCell ⟨w.heap.size + 1, 1, none⟩ (.slice (some ⟨g1, 0, none⟩) l.length c1)) (.slice (some ⟨g1, 0, none⟩) l.length c1) l := own_keep H1.out.1 (fun x hx => by
    have hne : x ≠ w.heap.size + 1 := by
      have h1 := H1.out.2.2.1 x hx
      simp at h1; omega
    exact (Below.heap_setCell _ _ _ x hne).trans (Below.heap_setCell _ _ _ x hne))
  have hb9 : Below w.heap.size w ((w1.setCell ⟨w.heap.size + 1, 0, none⟩ (.int .i64 k)).setCell ⟨w.heap.size + 1, 1, none⟩ (.slice (some ⟨g1, 0, none⟩) l.length c1)) :=
    ((HC.out.2.1.trans (H1.out.2.1.mono HC.out.2.1.size)).setCell (p := ⟨w.heap.size + 1, 0, none⟩) (by show w.heap.size ≤ w.heap.size + 1; omega) _).setCell (p := ⟨w.heap.size + 1, 1, none⟩) (by show w.heap.size ≤ w.heap.size + 1; omega) _
  have k3 := blk_set (blk_set H1.out.2.2.2 0 (.int .i64 k)) 1 (.slice (some ⟨g1, 0, none⟩) l.length c1)
  obtain ⟨W9, hW9⟩ : ∃ W9, W9 = ((w1.setCell ⟨w.heap.size + 1, 0, none⟩ (.int .i64 k)).setCell ⟨w.heap.size + 1, 1, none⟩ (.slice (some ⟨g1, 0, none⟩) l.length c1)) := ⟨_, rfl⟩
  rw [← hW9] at hfin hb9 k3
  rw [← hW9]
  have e0 : W9.cell? ⟨w.heap.size + 1, 0, none⟩ = some (.int .i64 k) := (blk_cell k3 0).trans (by simp)
  have e1 : W9.cell? ⟨w.heap.size + 1, 1, none⟩ = some (.slice (some ⟨g1, 0, none⟩) l.length c1) := (blk_cell k3 1).trans (by simp)
  have HF := Lib.hid (And.intro hfin (And.intro hb9 H1.out.2.2.1))
  clear hfin hb9 k3 hW9 p0 p1 q0 q1 f0 f1
  refine bodyPost_ret (by simp [results, Try.results49, go_sem, e0, e1]; try rfl) rfl ?_
  exact ⟨_, rfl, HF.out.1, HF.out.2.1, fun x hx => by have := HF.out.2.2 x hx; simp at this; omega⟩

theorem WritesRep.get {w : World} {v : Value} {l : List (Int × Bytes)} (h : WritesRep w v l) {j : Nat} {p : Int × Bytes} (hj : l[j]? = some p) :
    ∃ g c u, v = .slice (some ⟨g, 0, none⟩) l.length c ∧ w.cell? ⟨g, j * 2, none⟩ = some (.int .i64 p.1) ∧ w.cell? ⟨g, j * 2 + 1, none⟩ = some u ∧ Blk w u p.2 := by
  obtain ⟨xs, ho, hx⟩ := h
  have hjl := (List.getElem?_eq_some_iff.1 hj).1
  obtain ⟨a, u, b, d⟩ := hx j p hj
  rcases ho.2 with ⟨_, h2⟩ | ⟨g, cap, cur, h1, h2, hgb, hle, hmx, hcs, htk⟩
  · omega
  · have rd : ∀ (i : Nat) y, xs[i]? = some y → w.cell? ⟨g, i, none⟩ = some y := fun i y hy => by
      rw [blk_cell hgb]
      rw [← htk, List.getElem?_take] at hy
      split at hy
      · simpa using hy
      · cases hy
    exact ⟨g, cap, u, h1, by rw [Nat.mul_comm]; exact rd _ _ a, by rw [Nat.mul_comm]; exact rd _ _ b, d⟩
theorem WritesRep.below {w w' : World} {v : Value} {l : List (Int × Bytes)} (h : WritesRep w v l) (hb : Below w.heap.size w w') : WritesRep w' v l :=
  h.keep (fun k hk => by obtain ⟨xs, ho, _⟩ := h; exact hb.block k (own_lt ho hk)) (fun u b hu => hu.below hb)

set_option maxRecDepth 100000 in
set_option maxHeartbeats 4000000 in
theorem disk_copies (v : Value) (l : List (Int × Bytes)) (w : World) (hv : WritesRep w v l) (hlen : ∀ p ∈ l, p.2.length = 256) (hl : l.length ≤ 1000000000) :
    Calls Try.prog 48 #[v, .func (.func 49) #[] #[]] w fun e w' => ∃ v', e = .returned v' ∧ NewWrites w.heap.size w' v' l ∧ Below w.heap.size w w' := by
  obtain ⟨A, ca, hve⟩ : ∃ A ca, v = .slice A l.length ca := by obtain ⟨xs, ho, _⟩ := hv; exact own_slice ho
  subst hve
  obtain ⟨i0, hi, hz0, hz1, hz2⟩ := info_parts infoW
  have Hi := Lib.hid (And.intro hi (And.intro hz0 (And.intro hz1 hz2))); clear hi hz0 hz1 hz2
  have HV := Lib.hid (And.intro hv hlen); clear hv hlen
  go_enter Try.func48, Try.ntmps48
  go_wp2
  go_loopg [5, 10] l.length (fun k out i wr => ∃ j : Nat, k = l.length - j ∧ j ≤ l.length ∧ i = .int .i64 j ∧ NewWrites w.heap.size wr out (l.take j) ∧ Below w.heap.size w wr)
  case atStart => exact ⟨0, rfl, Nat.zero_le _, rfl, NewWrites.nil _ _, Below.refl _ _⟩
  case round =>
    obtain ⟨j, hk, hj, rfl, hnw, hbl⟩ := hrel
    by_cases hlt : j < l.length
    · have hlt' : (j : Int) < (l.length : Int) := by omega
      obtain ⟨⟨k, b⟩, hp⟩ : ∃ p, l[j]? = some p := ⟨_, List.getElem?_eq_getElem hlt⟩
      obtain ⟨gp, cp, u, hve, c0, c1, hu⟩ := (HV.out.1.below hbl).get hp
      simp only [Value.slice.injEq] at hve
      obtain ⟨rfl, _, rfl⟩ := hve
      have hb256 := HV.out.2 _ (List.mem_of_getElem? hp)
      simp only at hb256 c0 hu
      obtain ⟨gb, cb, rfl, _, _, _⟩ := hu.open_ (by omega)
      have hba : Below wr.heap.size wr (wr.alloc (.cells #[.int .i64 k, .slice (some ⟨gb, 0, none⟩) b.length cb] 56)) := (Below.refl _ wr).alloc (Nat.le_refl _) _
      have hcp := disk_copied k _ b _ (hu.below hba) hb256
      obtain ⟨xs, hx1, hx2⟩ := hnw
      have hlt2 : (l.take j).length = j := by rw [List.length_take]; omega
      rw [hlt2] at hx1
      obtain ⟨B, cB, hout⟩ := own_slice hx1
      subst hout
      have HC := Lib.hid hcp
      have HK := Lib.hid (And.intro hx1 (And.intro hx2 (And.intro hbl (And.intro hp (And.intro hb256 (And.intro hlt2 hba))))))
      clear hcp hx1 hx2 hbl hp hb256 hlt2 hba hu
      go_wp2_with (first | (go_at_call 49; refine HC.out.mono ?_; rintro e w3 ⟨v3, rfl, hv3, hb3, hn3⟩; obtain ⟨g3, c3, hv3e, _⟩ := hv3.open_ (by have := HK.out.2.2.2.2.1; omega); subst hv3e; have H3 := Lib.hid (And.intro hv3 (And.intro hb3 hn3)); clear hv3 hb3 hn3) | (at_builtin; refine wpList_append_own_at _ rfl _ _ 45 rfl w.heap.size 56 i0 (.agg #[.int .i64 0, .slice none 0 0]) 2 32 Try.underlying45 Hi.out.1 Hi.out.2.1 Hi.out.2.2.1 Hi.out.2.2.2 rfl (by decide) (.slice B j cB) j xs rfl ((own_keep HK.out.1 (fun x hx => ((HK.out.2.2.2.2.2.2.trans (H3.out.2.1.mono (by simp))).block x (own_lt HK.out.1 hx)))).alloc _) ⟨w3.heap.size, 0, none⟩ 1 1 [.int .i64 k, .slice (some ⟨g3, 0, none⟩) b.length c3] rfl rfl ?c1 ?c2 ?c3 ?c4 ?c5 ?_))
      case c1 =>
        intro i u hu
        have hnb := blk_new w3 (.cells #[.int .i64 k, .slice (some ⟨g3, 0, none⟩) b.length c3] 56)
        have e : (⟨w3.heap.size, 0, none⟩ : Addr).add i = ⟨w3.heap.size, i, none⟩ := by unfold Addr.add; split <;> simp_all
        rw [e, blk_cell hnb]
        simpa using hu
      case c2 => intro u hu; simp at hu; rcases hu with rfl | rfl <;> rfl
      case c3 => unfold maxLen; omega
      case c4 => omega
      case c5 => have h1 := HK.out.2.2.1.size; have h2 := H3.out.2.1.size; simp at h2 ⊢; omega
      intro out' w4 hown hgrow _ hat
      have hb3w : Below wr.heap.size wr w3 := HK.out.2.2.2.2.2.2.trans (H3.out.2.1.mono (by simp))
      have hkb : KB wr w4 := fun x cs hx => by
        refine blk_grown (blk_alloc ((hb3w.block x (blk_lt hx)).trans hx) _) hgrow (fun e => ?_)
        obtain ⟨cs', h'⟩ := own_block HK.out.1 e.symm
        exact absurd rfl (blk_ty hx h' (by decide))
      have hu4 : Blk w4 (.slice (some ⟨g3, 0, none⟩) b.length c3) b := own_keep H3.out.1 (fun x hx => by
        obtain ⟨cs', h'⟩ := own_block H3.out.1 hx
        refine (hgrow.block x (by have := blk_lt h'; simp; omega) (fun e => ?_)).trans (Below.heap_alloc w3 _ x (blk_lt h'))
        have h5 := own_keep HK.out.1 (fun x hx => hb3w.block x (own_lt HK.out.1 hx))
        obtain ⟨cs'', h''⟩ := own_block h5 e.symm
        exact absurd rfl (blk_ty h' h'' (by decide)))
      have hpu := NewWrites.push (p := (k, b)) (l := l.take j) (by rw [HK.out.2.2.2.2.2.1]; exact HK.out.1) HK.out.2.1 (by rw [HK.out.2.2.2.2.2.1]; exact hown) hkb hu4 (fun x hx => by have h1 := H3.out.2.2 x hx; have h2 := HK.out.2.2.1.size; simp at h1; omega)
      have htk : l.take (j + 1) = l.take j ++ [(k, b)] := by rw [List.take_add_one, HK.out.2.2.2.1, Option.toList_some]
      rw [← htk] at hpu
      have hb3' : Below w.heap.size w w3 := HK.out.2.2.1.trans (hb3w.mono HK.out.2.2.1.size)
      have hb4 : Below w.heap.size w w4 := (hb3'.alloc hb3'.size _).grown hgrow (by have := hb3'.size; simp; omega) (own_new HK.out.1)
      have HF := Lib.hid (And.intro hpu hb4)
      obtain ⟨B', cB', hout'⟩ := own_slice hown
      subst hout'
      clear hpu hb3' hb3w hb4 hown hgrow hat hkb hu4 htk
      go_wp2
      go_roundg (l.length - (j + 1))
      case measure => omega
      case rel => exact ⟨j + 1, rfl, by omega, by go_num, HF.out.1, HF.out.2⟩
    · have hjl : j = l.length := by omega
      subst hjl
      have HN := Lib.hid (And.intro hnw hbl); clear hnw hbl
      go_wp2
      go_ret
      refine ⟨_, rfl, ?_, HN.out.2⟩
      have := HN.out.1
      rwa [List.take_of_length_le (Nat.le_refl _)] at this

set_option maxRecDepth 100000 in
set_option maxHeartbeats 1000000 in
theorem disk_Pending (p : Nat) (D : AD) (G : Nat → Prop) (w : World) (h : DiskRep w p D G) (hn : D.n ≠ 0) (hW : D.Wf) (hl : D.pend.length ≤ 1000000000) :
    Calls Try.prog 25 #[.pointer (some ⟨p, 0, none⟩)] w fun e w' => ∃ v, e = .returned v ∧ NewWrites w.heap.size w' v D.pend ∧ Below w.heap.size w w' := by
  have hb := disk_Blocks p D G w h
  obtain ⟨⟨md, mn, pv, dn, nw, hA, _⟩, _⟩ := h
  have hc := disk_copies pv D.pend w hA.pend hW.pend hl
  obtain ⟨A, ca, hpv⟩ : ∃ A ca, pv = .slice A D.pend.length ca := by obtain ⟨xs, ho, _⟩ := hA.pend; exact own_slice ho
  subst hpv
  have c2 : w.cell? ⟨p, 2, none⟩ = some (.slice A D.pend.length ca) := by rw [blk_cell hA.blk]; rfl
  have hne : (D.n == 0) = false := by simpa using hn
  have HB := Lib.hid (And.intro hb hc)
  clear hb hc hA hW
  go_enter Try.func25, Try.ntmps25
  go_wp2_with (first | (go_at_call 46; refine HB.out.1.mono ?_; rintro e w' ⟨rfl, rfl⟩) | (go_at_call 48; refine HB.out.2.mono ?_; rintro e w1 ⟨v, rfl, h1, h2⟩; have H := Lib.hid (And.intro h1 h2); clear h1 h2))
  go_ret
  exact ⟨v, rfl, H.out.1, H.out.2⟩
end Go.Proofs.Ytnhifnakgiddiaa
