/- The store's 'writes', walked. -/
import Derived.Test.YtnhifnakgiddiaaAG
namespace Go.Proofs.Ytnhifnakgiddiaa
open Go Go.RowKit Go.MapKept
open Go.ChangeMaps (setBlock heap_setBlock_same heap_setBlock_other)

def NewV (N : Nat) (v : Value) : Prop := ∀ k, v.ownBlock = some k → N ≤ k
theorem own_new {w : World} {base n size : Nat} {e : TypeId} {v : Value} {xs : List Value} (h : w.ownsRow base e size v n xs) : NewV base v := fun k hk => by
  rcases h.2 with ⟨h1, _⟩ | ⟨g, cap, cur, h1, h2, _⟩
  · rw [h1] at hk; cases hk
  · rw [h1] at hk; cases hk; exact h2

set_option maxHeartbeats 400000 in
theorem clone_new (ad : Addr) (l : Bytes) (c : Nat) (w : World) (hl : AtB w ad l) (hn : l.length ≤ 70368744177664) :
    Calls Try.prog 35 #[.slice (some ad) l.length c] w fun e w' => ∃ v, e = .returned v ∧ Blk w' v l ∧ Below w.heap.size w w' ∧ NewV w.heap.size v := by
  obtain ⟨i0, hi, hz0, hz1, hz2⟩ := info_parts infoB
  have qT : ∀ (w : World) (a : Option Addr) (n c n' c' : Nat), (binOp .eql 32 (.slice a n c) (.slice none n' c')).run Try.prog w = .ok (.bool a.isNone) w := fun w a n c n' c' => Lib.run_eql_slice_nil w _ _ a n c n' c' Try.underlying32
  have Hn := Lib.hid hn; clear hn
  have Hl := Lib.hid hl; clear hl
  have Hi := Lib.hid (And.intro hi (And.intro hz0 (And.intro hz1 hz2))); clear hi hz0 hz1 hz2
  go_enter Try.func35, Try.ntmps35
  go_wp2_with (at_builtin; refine wpList_append_own _ rfl _ _ 32 rfl w.heap.size 5 i0 (.int .u8 0) 1 1 Try.underlying32 Hi.out.1 Hi.out.2.1 Hi.out.2.2.1 Hi.out.2.2.2 rfl (by decide) _ _ _ rfl (World.ownsRow_made w #[] 0 (Nat.le_refl _) (by decide) rfl) ad l.length c (bv l) rfl ?c1 ?c2 (bv_one l) ?c3 ?c4 ?c5 ?_)
  case c1 => simp [bv]
  case c2 => intro j u h; exact (World.cell?_alloc_lt _ _ _ (World.block_lt_of_cell? _ _ (Hl.out j u h))).trans (Hl.out j u h)
  case c3 => have := Hn.out; unfold maxLen; omega
  case c4 => have := Hn.out; omega
  case c5 => simp
  intro v w1 hown hgrow _
  have hb : Below w.heap.size w w1 := ((Below.refl _ w).alloc (Nat.le_refl _) _).grown hgrow (by simp) (by intro k e; simp [Value.ownBlock] at e; omega)
  have Hb := Lib.hid hb; clear hb hgrow
  have Hw := Lib.hid (own_new hown)
  have Ho := Lib.hid (show Blk w1 v l from ownsRow_base_a hown (Nat.zero_le _)); clear hown
  go_wp2
  go_ret
  exact ⟨v, rfl, Ho.out, Hb.out, Hw.out⟩
theorem clone_blk' (v : Value) (l : Bytes) (w : World) (h : Blk w v l) (h0 : 0 < l.length) (hn : l.length ≤ 70368744177664) :
    Calls Try.prog 35 #[v] w fun e w' => ∃ v', e = .returned v' ∧ Blk w' v' l ∧ Below w.heap.size w w' ∧ NewV w.heap.size v' := by
  obtain ⟨g, c, rfl, _, hat, _⟩ := h.open_ h0
  exact clone_new _ l c w hat hn

/-- A row of writes, all in new blocks. -/
def NewWrites (N : Nat) (w : World) (v : Value) (l : List (Int × Bytes)) : Prop :=
  ∃ xs, w.ownsRow N 56 2 v l.length xs ∧ ∀ (j : Nat) p, l[j]? = some p → xs[2 * j]? = some (.int .i64 p.1) ∧ ∃ u, xs[2 * j + 1]? = some u ∧ Blk w u p.2 ∧ NewV N u
theorem NewWrites.rep {N : Nat} {w : World} {v : Value} {l : List (Int × Bytes)} (h : NewWrites N w v l) : WritesRep w v l := by
  obtain ⟨xs, h1, h2⟩ := h
  exact ⟨xs, ownsRow_base_a h1 (Nat.zero_le _), fun j p hp => ⟨(h2 j p hp).1, by obtain ⟨u, a, b, _⟩ := (h2 j p hp).2; exact ⟨u, a, b⟩⟩⟩
theorem NewWrites.nil (N : Nat) (w : World) : NewWrites N w (.slice none 0 0) [] := ⟨[], World.ownsRow_nil _ _ _ _, by simp⟩
theorem NewWrites.below {N : Nat} {w w' : World} {v : Value} {l : List (Int × Bytes)} (h : NewWrites N w v l) (hb : Below w.heap.size w w') : NewWrites N w' v l := by
  obtain ⟨xs, h1, h2⟩ := h
  exact ⟨xs, own_keep h1 (fun k hk => hb.block k (own_lt h1 hk)), fun j p hp => ⟨(h2 j p hp).1, by obtain ⟨u, a, b, c⟩ := (h2 j p hp).2; exact ⟨u, a, b.below hb, c⟩⟩⟩
theorem NewWrites.mono {N N' : Nat} {w : World} {v : Value} {l : List (Int × Bytes)} (h : NewWrites N w v l) (hN : N' ≤ N) : NewWrites N' w v l := by
  obtain ⟨xs, h1, h2⟩ := h
  exact ⟨xs, ownsRow_base_a h1 hN, fun j p hp => ⟨(h2 j p hp).1, by obtain ⟨u, a, b, c⟩ := (h2 j p hp).2; exact ⟨u, a, b, fun k hk => Nat.le_trans hN (c k hk)⟩⟩⟩
/-- One more. -/
theorem NewWrites.push {N : Nat} {w w2 : World} {v v' u : Value} {l : List (Int × Bytes)} {p : Int × Bytes} {xs : List Value} (h1 : w.ownsRow N 56 2 v l.length xs)
    (h2 : ∀ (j : Nat) p, l[j]? = some p → xs[2 * j]? = some (.int .i64 p.1) ∧ ∃ u, xs[2 * j + 1]? = some u ∧ Blk w u p.2 ∧ NewV N u)
    (ho : w2.ownsRow N 56 2 v' (l.length + 1) (xs ++ [.int .i64 p.1, u])) (hk : KB w w2) (hu : Blk w2 u p.2) (hN : NewV N u) : NewWrites N w2 v' (l ++ [p]) := by
  have hlen : xs.length = l.length * 2 := h1.1
  refine ⟨_, by simpa using ho, fun j q hq => ?_⟩
  by_cases hj : j < l.length
  · rw [List.getElem?_append_left hj] at hq
    obtain ⟨a, u', b, c, d⟩ := h2 j q hq
    exact ⟨by rw [List.getElem?_append_left (by omega)]; exact a, u', by rw [List.getElem?_append_left (by omega)]; exact b, c.kb hk, d⟩
  · have hj2 := (List.getElem?_eq_some_iff.1 hq).1
    simp at hj2
    have e : j = l.length := by omega
    subst e
    simp at hq; subst hq
    refine ⟨?_, u, ?_, hu, hN⟩
    · rw [List.getElem?_append_right (by omega), show 2 * l.length - xs.length = 0 by omega]; rfl
    · rw [List.getElem?_append_right (by omega), show 2 * l.length + 1 - xs.length = 1 by omega]; rfl

theorem listW_take (f : Int → Option Bytes) (j : Nat) (k : Int) (h : (keysV f)[j]? = some k) : (listW f).take (j + 1) = (listW f).take j ++ [(k, (f k).getD [])] := by
  have hx : (listW f)[j]? = some (k, (f k).getD []) := by unfold listW; rw [List.getElem?_map, h]; rfl
  rw [List.take_add_one, hx, Option.toList_some]

set_option maxRecDepth 100000 in
set_option maxHeartbeats 4000000 in
theorem store_writes (m : Nat) (f : Int → Option Bytes) (w : World) (hm : MapB w m f) (hr : ∀ k, f k ≠ none → InR k) (hlen : ∀ k l, f k = some l → l.length = 256) :
    Calls Try.prog 44 #[.map (some m)] w fun e w' => ∃ v, e = .returned v ∧ NewWrites w.heap.size w' v (listW f) ∧ Below w.heap.size w w' := by
  obtain ⟨vf, hM, hO⟩ := hm
  have hr' : ∀ k, vf k ≠ none → InR k := fun k hk => hr k (fun e => hk (hO.none_ e))
  have hs := Lib.hid (sorted_call hM hr')
  have hk := Lib.hid (keys_call (some m) w)
  have hke := hO.keysV_eq
  have hll : (listW f).length = (keysV f).length := by simp [listW]
  have hkl := keysV_length f
  obtain ⟨i0, hi, hz0, hz1, hz2⟩ := info_parts infoW
  have Hi := Lib.hid (And.intro hi (And.intro hz0 (And.intro hz1 hz2))); clear hi hz0 hz1 hz2
  have HO := Lib.hid (And.intro hM (And.intro hO (And.intro hlen (And.intro hke (And.intro hll hr)))))
  clear hM hO hr hr' hlen hke hll
  unfold kclo at *
  go_enter Try.func44, Try.ntmps44
  go_wp2_with (first | (go_at_call 43; refine hk.out.mono ?_; rintro e w' ⟨rfl, rfl⟩) | (go_at_call 42; refine hs.out.mono ?_; rintro e w1 ⟨v, rfl, hr1, hr2, hb⟩; rw [HO.out.2.2.2.1] at hr1; obtain ⟨A, ca, hv⟩ := own_slice hr1; subst hv; have Hb := Lib.hid (And.intro hr1 hb); clear hb hr1 hr2))
  go_loopg [3, 10] (keysV f).length (fun k out i wr => ∃ j : Nat, k = (keysV f).length - j ∧ j ≤ (keysV f).length ∧ i = .int .i64 j ∧ NewWrites w1.heap.size wr out ((listW f).take j) ∧ Below w1.heap.size w1 wr)
  case atStart => exact ⟨0, rfl, Nat.zero_le _, rfl, NewWrites.nil _ _, Below.refl _ _⟩
  case round =>
    obtain ⟨j, hkk, hj, rfl, hnw, hbl⟩ := hrel
    by_cases hlt : j < (keysV f).length
    · have hlt' : (j : Int) < ((keysV f).length : Int) := by omega
      obtain ⟨k, hkj⟩ : ∃ k, (keysV f)[j]? = some k := ⟨_, List.getElem?_eq_getElem hlt⟩
      have hmem := (mem_keysV HO.out.2.2.2.2.2 k).1 (List.mem_of_getElem? hkj)
      obtain ⟨b, hb⟩ := Option.ne_none_iff_exists'.1 hmem
      obtain ⟨u, hu1, hu2⟩ := HO.out.2.1.some_ hb
      have hbl' := HO.out.2.2.1 k b hb
      obtain ⟨gb, cb, rfl, _, _, _⟩ := hu2.open_ (by omega)
      rw [hbl'] at hu1 hu2
      have hbw : Below w.heap.size w wr := Hb.out.2.trans (hbl.mono Hb.out.2.size)
      have L := (HO.out.1.keep (hbw.block _ HO.out.1.lt)).lookup (P := Try.prog) Try.underlying25 Try.underlying3 (zeroMB _) k
      rw [hu1] at L
      simp only [Option.getD_some] at L
      have hcl := clone_blk' _ b _ (hu2.below hbw) (by omega) (by omega)
      have hcell : wr.cell? ⟨(A.getD ⟨0, 0, none⟩).block, j, none⟩ = some (.int .i64 k) ∧ A = some ⟨(A.getD ⟨0, 0, none⟩).block, 0, none⟩ := by
        rcases Hb.out.1.at_ with ⟨_, h⟩ | ⟨g, c, h1, h2⟩
        · rw [h] at hlt; simp at hlt
        · simp only [Value.slice.injEq] at h1
          obtain ⟨rfl, _, _⟩ := h1
          have := h2.cell hkj
          exact ⟨(hbl.cell (p := ⟨g, j, none⟩) (World.block_lt_of_cell? _ _ this)).trans this, rfl⟩
      obtain ⟨hc0, hA0⟩ := hcell
      obtain ⟨ga, hga⟩ : ∃ ga, ga = (A.getD ⟨0, 0, none⟩).block := ⟨_, rfl⟩
      rw [← hga] at hc0 hA0
      subst hA0
      clear hga
      obtain ⟨xs, hx1, hx2⟩ := hnw
      have hlt2 : ((listW f).take j).length = j := by rw [List.length_take, HO.out.2.2.2.2.1]; omega
      rw [hlt2] at hx1
      obtain ⟨B, cB, hout⟩ := own_slice hx1
      subst hout
      have HC := Lib.hid hcl
      have HK := Lib.hid (And.intro hx1 (And.intro hx2 (And.intro hbl (And.intro hb (And.intro hbl' (And.intro hkj hlt2))))))
      clear hcl hx1 hx2 hbl hb hbl' hkj hmem hu1 hu2 hbw hlt2
      go_wp2_with (first | (go_at_call 35; refine HC.out.mono ?_; rintro e w3 ⟨v3, rfl, hv3, hb3, hn3⟩; obtain ⟨g3, c3, hv3e, _⟩ := hv3.open_ (by have := HK.out.2.2.2.2.1; omega); subst hv3e; have H3 := Lib.hid (And.intro hv3 (And.intro hb3 hn3)); clear hv3 hb3 hn3) | (at_builtin; refine wpList_append_own_at _ rfl _ _ 45 rfl w1.heap.size 56 i0 (.agg #[.int .i64 0, .slice none 0 0]) 2 32 Try.underlying45 Hi.out.1 Hi.out.2.1 Hi.out.2.2.1 Hi.out.2.2.2 rfl (by decide) (.slice B j cB) j xs rfl ((own_keep HK.out.1 (fun x hx => H3.out.2.1.block x (own_lt HK.out.1 hx))).alloc _) ⟨w3.heap.size, 0, none⟩ 1 1 [.int .i64 k, .slice (some ⟨g3, 0, none⟩) b.length c3] rfl rfl ?c1 ?c2 ?c3 ?c4 ?c5 ?_))
      case c1 =>
        intro i u hu
        have hnb := blk_new w3 (.cells #[.int .i64 k, .slice (some ⟨g3, 0, none⟩) b.length c3] 56)
        have e : (⟨w3.heap.size, 0, none⟩ : Addr).add i = ⟨w3.heap.size, i, none⟩ := by unfold Addr.add; split <;> simp_all
        rw [e, blk_cell hnb]
        simpa using hu
      case c2 => intro u hu; simp at hu; rcases hu with rfl | rfl <;> rfl
      case c3 => unfold maxLen; omega
      case c4 => omega
      case c5 => have h1 := HK.out.2.2.1.size; have h2 := H3.out.2.1.size; simp; omega
      intro out' w4 hown hgrow _ hat
      have hkb : KB wr w4 := fun x cs hx => by
        refine blk_grown (blk_alloc ((H3.out.2.1.block x (blk_lt hx)).trans hx) _) hgrow (fun e => ?_)
        obtain ⟨cs', h'⟩ := own_block HK.out.1 e.symm
        exact absurd rfl (blk_ty hx h' (by decide))
      have hu4 : Blk w4 (.slice (some ⟨g3, 0, none⟩) b.length c3) b := own_keep H3.out.1 (fun x hx => by
        obtain ⟨cs', h'⟩ := own_block H3.out.1 hx
        refine (hgrow.block x (by have := blk_lt h'; simp; omega) (fun e => ?_)).trans (Below.heap_alloc w3 _ x (blk_lt h'))
        have h5 := own_keep HK.out.1 (fun x hx => H3.out.2.1.block x (own_lt HK.out.1 hx))
        obtain ⟨cs'', h''⟩ := own_block h5 e.symm
        exact absurd rfl (blk_ty h' h'' (by decide)))
      have hgk : (f k).getD [] = b := by rw [HK.out.2.2.2.1]; rfl
      have hpu := NewWrites.push (p := (k, b)) (l := (listW f).take j) (by rw [HK.out.2.2.2.2.2.2]; exact HK.out.1) HK.out.2.1 (by rw [HK.out.2.2.2.2.2.2]; exact hown) hkb hu4 (fun x hx => Nat.le_trans HK.out.2.2.1.size (H3.out.2.2 x hx))
      have htk := listW_take f j k HK.out.2.2.2.2.2.1
      rw [hgk] at htk
      rw [← htk] at hpu
      have hb3 : Below w1.heap.size w1 w3 := HK.out.2.2.1.trans (H3.out.2.1.mono HK.out.2.2.1.size)
      have hb4 : Below w1.heap.size w1 w4 := (hb3.alloc hb3.size _).grown hgrow (by have := hb3.size; simp; omega) (own_new HK.out.1)
      have HF := Lib.hid (And.intro hpu hb4)
      obtain ⟨B', cB', hout'⟩ := own_slice hown
      subst hout'
      clear hpu hb3 hb4 hown hgrow hat hkb hu4 hgk htk
      go_wp2
      go_roundg ((keysV f).length - (j + 1))
      case measure => omega
      case rel => exact ⟨j + 1, rfl, by omega, by go_num, HF.out.1, HF.out.2⟩
    · have hjl : j = (keysV f).length := by omega
      subst hjl
      have HN := Lib.hid (And.intro hnw hbl); clear hnw hbl
      go_wp2
      go_ret
      refine ⟨_, rfl, ?_, Hb.out.2.trans (HN.out.2.mono Hb.out.2.size)⟩
      have := HN.out.1
      rw [List.take_of_length_le (by rw [HO.out.2.2.2.2.1]; exact Nat.le_refl _)] at this
      exact this.mono Hb.out.2.size
end Go.Proofs.Ytnhifnakgiddiaa
