/- The law StoreHomes, walked: it answers true. -/
import Derived.Test.YtnhifnakgiddiaaAO
namespace Go.Proofs.Ytnhifnakgiddiaa
open Go Go.RowKit Go.MapKept
open Go.ChangeMaps (setBlock heap_setBlock_same heap_setBlock_other)

/-- A script: rows of three ints. -/
def ScriptAt (w : World) (A : Option Addr) (ops : List (Int × Int × Int)) : Prop :=
  ∀ (j : Nat) o, ops[j]? = some o → ∃ xb xo, A = some ⟨xb, xo, none⟩ ∧ w.cell? ⟨xb, xo + j * 3, none⟩ = some (.int .i64 o.1) ∧ w.cell? ⟨xb, xo + j * 3 + 1, none⟩ = some (.int .i64 o.2.1) ∧ w.cell? ⟨xb, xo + j * 3 + 2, none⟩ = some (.int .i64 o.2.2)
theorem ScriptAt.below {w w' : World} {A : Option Addr} {ops : List (Int × Int × Int)} (h : ScriptAt w A ops) (hb : Below w.heap.size w w') : ScriptAt w' A ops := fun j o hj => by
  obtain ⟨xb, xo, e, a, b, c⟩ := h j o hj
  exact ⟨xb, xo, e, (hb.cell (World.block_lt_of_cell? w _ a)).trans a, (hb.cell (World.block_lt_of_cell? w _ b)).trans b, (hb.cell (World.block_lt_of_cell? w _ c)).trans c⟩

theorem infoBo : (Try.prog.info? 4).map (fun i => (i.zero, i.size, i.bytes)) = some (some (.bool false), 1, 1) := by kernel_rfl

/-- The list of what was touched, at its block. -/
def TAt (w : World) (g : Nat) (t : List Bool) : Prop := w.heap[g]? = some (.cells (tb t).toArray 4 (0, 0))
theorem TAt.of_own {w : World} {g n : Nat} {t : List Bool} (h : w.ownsRow 0 4 1 (.slice (some ⟨g, 0, none⟩) n n) n (tb t)) : TAt w g t := by
  obtain ⟨hl, h⟩ := h
  rcases h with ⟨h1, _⟩ | ⟨g', cap, cur, h1, _, hg, hle, hm, hs, ht⟩
  · cases h1
  · simp only [Value.slice.injEq, Option.some.injEq, Addr.mk.injEq] at h1
    obtain ⟨⟨rfl, _⟩, _, rfl⟩ := h1
    rw [Nat.mul_one] at ht hs
    unfold TAt
    rw [hg, ← ht, List.take_of_length_le (by simp [hs])]
theorem madeBools (n : Nat) : (madeCells #[.bool false] n).toList = tb (List.replicate n false) := by
  rw [toList_madeCells_one]; simp [tb]

theorem Aw.poke {w wi : World} {s p : Nat} {S : SM} {D : AD} {H : Nat → Prop} (h : Aw w wi s p S D H) {x : Nat} (hx : H x) (hn : NotB wi x) (hw : w.heap.size ≤ x) (o : Nat) (v : Value) : Aw w (wi.setCell ⟨x, o, none⟩ v) s p S D H := by
  obtain ⟨F, h1, h2, h3, h4⟩ := h
  have hc : Chg (fun k => k = x) wi (wi.setCell ⟨x, o, none⟩ v) := (Chg.refl (fun k => k = x) wi).setCell ⟨x, o, none⟩ _ (fun _ => rfl)
  exact ⟨F, h1.chg hc (fun k e => by rw [e]; exact ⟨h4 x hx, hn⟩) (fun k a e => (h2 k a).2 (by rw [e]; exact hx)), h2, h3.setCell (p := ⟨x, o, none⟩) hw v, fun j hj => by rw [World.size_setCell]; exact h4 j hj⟩
theorem Aw.less {w wi : World} {s p : Nat} {S : SM} {D : AD} {H H' : Nat → Prop} (h : Aw w wi s p S D H) (hH : ∀ x, H' x → H x) : Aw w wi s p S D H' := by
  obtain ⟨F, h1, h2, h3, h4⟩ := h
  exact ⟨F, h1, fun j hj => ⟨(h2 j hj).1, fun e => (h2 j hj).2 (hH j e)⟩, h3, fun j hj => h4 j (hH j hj)⟩
theorem TAt.set {w : World} {g : Nat} {t : List Bool} (h : TAt w g t) (k : Nat) (b : Bool) : TAt (w.setCell ⟨g, k, none⟩ (.bool b)) g (t.set k b) := by
  unfold TAt at h ⊢
  rw [blk_set h, List.setIfInBounds_toArray, tb_set]
/-- Commit, in the law's terms. -/
theorem Aw.commit {w wi wj : World} {s p : Nat} {S : SM} {D : AD} {H F F' : Nat → Prop} (h : SysRep wi s p S D F) (hF : ∀ j, F j → w.heap.size ≤ j ∧ ¬ H j) (hb : Below w.heap.size w wi) (hH : ∀ j, H j → j < wi.heap.size) (h1 : SysRep wj s p S.commit D F') (h2 : Chg F wi wj) (h3 : ∀ j, F' j → F j) :
    Aw w wj s p S.commit D H ∧ ∀ x, H x → wj.heap[x]? = wi.heap[x]? := Aw.step h hF hb hH ⟨F', h1, h2, fun j hj => .inl (h3 j hj)⟩

set_option maxRecDepth 100000 in
set_option maxHeartbeats 8000000 in
theorem law_StoreHomes (A : Option Addr) (n c : Nat) (ops : List (Int × Int × Int)) (w : World) (hn : ops.length = n) (hsc : ScriptAt w A ops) :
    Calls Try.prog 4 #[.slice A n c] w fun e w' => e = .returned (.bool true) ∧ Below w.heap.size w w' := by
  have HSC := Lib.hid hsc; clear hsc
  obtain ⟨i0, hi, hz0, hz1, hz2⟩ := info_parts infoBo
  have Hi := Lib.hid (And.intro hi (And.intro hz0 (And.intro hz1 hz2))); clear hi hz0 hz1 hz2
  go_enter Try.func4, Try.ntmps4
  go_wp2_with fail
  refine (law_awake w).mono ?_
  rintro e w1 ⟨rfl, hb1⟩
  have H1 := Lib.hid hb1; clear hb1
  go_wp2_with fail
  have c2 := disk_New 128 w1 (by decide) (by decide)
  refine c2.mono ?_
  clear c2
  rintro e w2 ⟨p, G, rfl, hD, hb2, hG⟩
  have H2 := Lib.hid (And.intro hD (And.intro hb2 hG))
  clear hD hb2 hG
  go_wp2_with fail
  have c3 : Calls Try.prog 22 #[.pointer (some ⟨p, 0, none⟩), .int .i64 4, .int .i64 8] w2 _ := store_New p 4 8 (AD.new 128) G w2 H2.out.1 (by decide) (by decide) (by decide)
  refine c3.mono ?_
  clear c3
  rintro e w3 ⟨s, F3, rfl, hS, hb3, hF3⟩
  have hb03 : Below w.heap.size w w3 := (H1.out.trans (H2.out.2.1.mono H1.out.size)).trans (hb3.mono (Nat.le_trans H1.out.size H2.out.2.1.size))
  have hA3 : Aw w w3 s p (SM.new 8 4) D0 (fun _ => False) := ⟨F3, hS, fun j hj => ⟨by
    rcases hF3 j hj with h | h
    · exact Nat.le_trans H1.out.size (H2.out.2.2 j h)
    · exact Nat.le_trans (Nat.le_trans H1.out.size H2.out.2.1.size) h, id⟩, hb03, fun j hj => hj.elim⟩
  have H3 := Lib.hid hA3
  clear hA3 hS hb3 hF3 hb03
  unfold ptr
  go_wp2_with (at_make; refine wpList_make_full _ rfl _ _ 52 rfl w3.heap.size 4 i0 (.bool false) 1 Try.underlying52 Hi.out.1 Hi.out.2.1 Hi.out.2.2.1 _ _ _ _ 128 rfl rfl rfl rfl (by rw [Hi.out.2.2.2]; decide) (by decide) (Nat.le_refl _) ?_)
  intro w4 hown hgrow
  have hb4 : Below w3.heap.size w3 w4 := (Below.refl _ w3).grown hgrow (Nat.le_refl _) (fun k h => by cases h)
  have hT4 : TAt w4 w3.heap.size (List.replicate 128 false) := by
    rw [show (madeCells #[Value.bool false] 128).toList = tb (List.replicate 128 false) from madeBools 128] at hown
    exact TAt.of_own (ownsRow_base_a hown (Nat.zero_le _))
  have hA4 : Aw w w4 s p (SM.new 8 4) D0 (fun x => False ∨ x = w3.heap.size) := by
    obtain ⟨F, h, hF, hb, hH⟩ := H3.out
    exact ⟨F, h.below hb4, fun j hj => ⟨(hF j hj).1, fun e => by rcases e with e | e; exact e; have := (h.foot j hj).1; omega⟩, hb.trans (hb4.mono hb.size), fun j e => by rcases e with e | e; exact e.elim; rw [e]; exact blk_lt hT4⟩
  have H4 := Lib.hid (And.intro hA4 hT4)
  clear hA4 hT4 hb4 hown hgrow
  go_wp2
  go_loopg [9] n (fun k i wr => ∃ (j : Nat) (S : SM) (t : List Bool), k = n - j ∧ j ≤ n ∧ i = .int .i64 j ∧ Hom1 S t j ∧ Aw w wr s p S D0 (fun x => False ∨ x = w3.heap.size) ∧ TAt wr w3.heap.size t)
  case atStart => exact ⟨0, SM.new 8 4, _, rfl, Nat.zero_le _, rfl, Hom1.start (by decide), H4.out.1, H4.out.2⟩
  case round =>
    obtain ⟨j, S, t, hk, hj, rfl, hom, hA, hT⟩ := hrel
    by_cases hlt : j < n ∧ j < 300
    · have h1 : decide ((j : Int) < (n : Int)) = true := by simp; omega
      have h1' : (j : Int) < (n : Int) := by omega
      have h2 : decide ((j : Int) < 300) = true := by simp; omega
      have h2' : decide (j < n) = true := by simp; omega
      obtain ⟨⟨a, b, f⟩, ho⟩ : ∃ o, ops[j]? = some o := ⟨_, List.getElem?_eq_getElem (by omega)⟩
      have hAb := hA
      obtain ⟨_, _, _, hbw, _⟩ := hAb
      obtain ⟨xb, xo, rfl, c0, c1, c2⟩ := (HSC.out.below hbw) j _ ho
      simp only at c0 c1 c2
      have hba : Below wr.heap.size wr (wr.alloc (.cells #[.int .i64 a, .int .i64 b, .int .i64 f] 54)).drew := ((Below.refl _ wr).alloc (Nat.le_refl _) _).drew
      have hbx : (wr.alloc (.cells #[.int .i64 a, .int .i64 b, .int .i64 f] 54)).drew.heap[wr.heap.size]? = some (.cells #[.int .i64 a, .int .i64 b, .int .i64 f] 54 (0, 0)) := blk_new wr _
      have hA2 := (hA.below hba)
      have hT2 : TAt (wr.alloc (.cells #[.int .i64 a, .int .i64 b, .int .i64 f] 54)).drew w3.heap.size t := (hba.block _ (blk_lt hT)).trans hT
      have hA3 : Aw w (wr.alloc (.cells #[.int .i64 a, .int .i64 b, .int .i64 f] 54)).drew s p S D0 (fun x => (False ∨ x = w3.heap.size) ∨ x = wr.heap.size) := by
        obtain ⟨F, h, hF, hb, hH⟩ := hA
        refine ⟨F, h.below hba, fun k hk => ⟨(hF k hk).1, ?_⟩, hb.trans (hba.mono hb.size), ?_⟩
        · rintro (e | e)
          · exact (hF k hk).2 e
          · have := (h.foot k hk).1; omega
        · rintro k (e | e)
          · exact Nat.lt_of_lt_of_le (hH k e) hba.size
          · rw [e]; exact blk_lt hbx
      have HR := Lib.hid (And.intro hom (And.intro hA3 (And.intro hT2 (And.intro hbx hbw))))
      clear hom hA hT hbw hba hbx hA2 hT2 hA3 ho
      go_wp2
      refine wp_region_tree (fun w' => w'.cell? ⟨wr.heap.size, 1, none⟩ = some (.int .i64 b) ∧ w'.cell? ⟨wr.heap.size, 2, none⟩ = some (.int .i64 f)) 7
        (.take 0 (.take 1 (.take 2 (.take 3 (.take 4 (.one 5 (.one 6 (.one 7 .nil)))))))) (by kernel_rfl) (by kernel_rfl) (by kernel_rfl) rfl (fun _ _ dst _ _ h => by cases dst <;> exact h) ?_ ?_
      · exact ⟨(blk_cell HR.out.2.2.2.1 1).trans rfl, (blk_cell HR.out.2.2.2.1 2).trans rfl⟩
      iterate 5 (refine tree_take ?_ (by rfl) (by rfl) ?_ ?_; rotate_left; (intro w hw; obtain ⟨hw1, hw2⟩ := hw; go_simp; rfl))
      refine tree_one (by rfl) (fun K hK => ?_)
      rw [if_pos (by rfl)]
      go_simp
      refine (law_filled f _).mono ?_
      rintro e w5 ⟨rfl, hB, hb5⟩
      have hst := HR.out.2.1.below hb5
      have hbx5 := (hst.2 wr.heap.size (.inr rfl)).trans HR.out.2.2.2.1
      have hT5 : TAt w5 w3.heap.size t := (hst.2 w3.heap.size (.inl (.inr rfl))).trans HR.out.2.2.1
      have H5 := Lib.hid (And.intro hst.1 (And.intro hbx5 (And.intro hT5 hB)))
      clear hst hbx5 hT5 hB hb5
      refine hK _ _ (.inr ⟨(blk_cell H5.out.2.1 1).trans rfl, (blk_cell H5.out.2.1 2).trans rfl⟩) ?_
      clear hK K
      refine tree_one (by rfl) (fun K hK => ?_)
      rw [if_pos (by rfl)]
      go_simp
      by_cases hk : D0.has b = true
      · obtain ⟨k, rfl⟩ : ∃ k : Nat, b = k := ⟨b.toNat, by have := (has_iff.1 hk).1; omega⟩
        obtain ⟨F, h, hF, hb, hH⟩ := H5.out.1
        have hB5 : BAt w5 (wr.heap.size + 1) (filledB f) := by simpa using H5.out.2.2.2
        have cw := sys_Write (k := k) (b := filledB f) (c := 256) h HR.out.1.ok hk (filledB_length f) hB5.at_ ⟨_, hB5⟩ (by have := HR.out.1.us; omega)
        unfold ptr at cw
        refine cw.mono ?_
        clear cw
        rintro e w6 ⟨rfl, hto⟩
        have hst := Aw.step h hF hb hH hto
        have hbx6 := (hst.2 wr.heap.size (.inr rfl)).trans H5.out.2.1
        have hT6 : TAt w6 w3.heap.size t := (hst.2 w3.heap.size (.inl (.inr rfl))).trans H5.out.2.2.1
        have hk2 : k < 128 := by have := (has_iff.1 hk).2; have h3 : D0.n = 128 := rfl; omega
        have hne : wr.heap.size ≠ w3.heap.size := by
          have := HR.out.2.1
          obtain ⟨_, _, _, _, hH'⟩ := this
          intro e
          have h4 := HR.out.2.2.2.1
          rw [e] at h4
          have h5 := HR.out.2.2.1
          unfold TAt at h5
          rw [h5] at h4
          simp at h4
        obtain ⟨tk, htk⟩ : ∃ x, t[k]? = some x := ⟨_, List.getElem?_eq_getElem (by rw [HR.out.1.len]; exact hk2)⟩
        have H6 := Lib.hid (And.intro hst.1 (And.intro hbx6 (And.intro hT6 (And.intro hne hk))))
        have e1 := (blk_cell hbx6 1).trans rfl
        have e0 : (w6.setCell ⟨w3.heap.size, k, none⟩ (.bool true)).cell? ⟨wr.heap.size, 0, none⟩ = some (.int .i64 a) := (blk_cell (blk_far hbx6 (p := ⟨w3.heap.size, k, none⟩) hne _) 0).trans rfl
        have et : w6.cell? ⟨w3.heap.size, k, none⟩ = some (.bool tk) := (blk_cell hT6 k).trans (by simp [tb_get, htk])
        have ft : w6.frozen? ⟨w3.heap.size, k, none⟩ = false := blk_frozen hT6 k
        have hk3 : (k : Int) < 128 := by omega
        refine hK _ _ (.inr ⟨(blk_cell hbx6 1).trans rfl, (blk_cell hbx6 2).trans rfl⟩) ?_
        clear hK K hst hbx6 hT6 hne hk h hF hb hH hto hB5 htk
        refine tree_one (by rfl) (fun K hK => ?_)
        rw [if_pos (by rfl)]
        go_simp
        refine hK _ _ (.inl rfl) ?_
        clear hK K
        unfold wpTree
        have hA7 : Aw w (w6.setCell ⟨w3.heap.size, k, none⟩ (.bool true)) s p (S.write k (filledB f)) D0 (fun x => False ∨ x = w3.heap.size) :=
          (H6.out.1.less (fun x hx => .inl hx)).poke (.inr rfl) (notB_ty H6.out.2.2.1 (by decide)) (by have := H3.out; obtain ⟨_, _, _, hb3, _⟩ := this; exact hb3.size) k (.bool true)
        have hom7 := HR.out.1.write H6.out.2.2.2.2 (filledB_length f)
        have H7 := Lib.hid (And.intro hA7 (And.intro hom7 (H6.out.2.2.1.set k true)))
        clear hA7 hom7
        go_wp2_with fail
        · obtain ⟨F, h, hF, hb, hH⟩ := H7.out.1
          have cc := sys_Commit h H7.out.2.1.ok
          unfold ptr at cc
          refine cc.mono ?_
          clear cc
          rintro e w8 ⟨v8, rfl, _, F', k1, k2, k3⟩
          have hst := Aw.commit h hF hb hH k1 k2 k3
          have H8 := Lib.hid (And.intro hst.1 ((hst.2 w3.heap.size (.inr rfl)).trans H7.out.2.2))
          clear h hF hb hH k1 k2 k3 hst
          go_wp2
          go_roundg (n - (j + 1))
          case measure => omega
          case rel => exact ⟨j + 1, _, _, rfl, by omega, by go_num, H7.out.2.1.commit, H8.out.1, H8.out.2⟩
        · go_roundg (n - (j + 1))
          case measure => omega
          case rel => exact ⟨j + 1, _, _, rfl, by omega, by go_num, H7.out.2.1, H7.out.1, H7.out.2.2⟩
      · have hk' : D0.has b = false := by simpa using hk
        obtain ⟨F, h, hF, hb, hH⟩ := H5.out.1
        have cw := sys_Write_bad h hk' (some ⟨wr.heap.size + 1, 0, none⟩) 256 256
        unfold ptr at cw
        refine cw.mono ?_
        clear cw h hF hb hH
        rintro e w6 ⟨rfl, hb6⟩
        have hst := H5.out.1.below hb6
        have hbx6 := (hst.2 wr.heap.size (.inr rfl)).trans H5.out.2.1
        have hT6 : TAt w6 w3.heap.size t := (hst.2 w3.heap.size (.inl (.inr rfl))).trans H5.out.2.2.1
        have H7 := Lib.hid (And.intro (hst.1.less (H' := fun x => False ∨ x = w3.heap.size) (fun x hx => .inl hx)) (And.intro HR.out.1.more hT6))
        have e0 : w6.cell? ⟨wr.heap.size, 0, none⟩ = some (.int .i64 a) := (blk_cell hbx6 0).trans rfl
        refine hK _ _ (.inr ⟨(blk_cell hbx6 1).trans rfl, (blk_cell hbx6 2).trans rfl⟩) ?_
        clear hK K hst hbx6 hT6 hk hb6
        refine tree_one (by rfl) (fun K hK => ?_)
        rw [if_pos (by rfl)]
        go_simp
        refine hK _ _ (.inl rfl) ?_
        clear hK K
        unfold wpTree
        go_wp2_with fail
        · obtain ⟨F, h, hF, hb, hH⟩ := H7.out.1
          have cc := sys_Commit h H7.out.2.1.ok
          unfold ptr at cc
          refine cc.mono ?_
          clear cc
          rintro e w8 ⟨v8, rfl, _, F', k1, k2, k3⟩
          have hst := Aw.commit h hF hb hH k1 k2 k3
          have H8 := Lib.hid (And.intro hst.1 ((hst.2 w3.heap.size (.inr rfl)).trans H7.out.2.2))
          clear h hF hb hH k1 k2 k3 hst
          go_wp2
          go_roundg (n - (j + 1))
          case measure => omega
          case rel => exact ⟨j + 1, _, _, rfl, by omega, by go_num, H7.out.2.1.commit, H8.out.1, H8.out.2⟩
        · go_roundg (n - (j + 1))
          case measure => omega
          case rel => exact ⟨j + 1, _, _, rfl, by omega, by go_num, H7.out.2.1, H7.out.1, H7.out.2.2⟩
    · -- the script is done
      have h1 : decide (j < n) = false ∨ (decide (j < n) = true ∧ decide ((j : Int) < 300) = false) := by simp; omega
      have HR := Lib.hid (And.intro hom (And.intro hA hT)); clear hom hA hT
      have hok2 := HR.out.1.commit.ok
      have hK := Lib.hid (Hom2.start HR.out.1.commit rfl)
      have hll : (listW S.commit.wt).length = (keysV S.commit.wt).length := by simp [listW]
      have hkl := keysV_length S.commit.wt
      have Hl := Lib.hid (And.intro hll hok2)
      clear hll hok2
      have hm : ¬ (j < n ∧ j < 300) := hlt
      rcases h1 with h1 | ⟨h1, h2⟩
      all_goals (
        go_wp2_with fail
        obtain ⟨F, h, hF, hb, hH⟩ := HR.out.2.1
        have cc := sys_Commit h HR.out.1.ok
        unfold ptr at cc
        refine cc.mono ?_
        clear cc
        rintro e w5 ⟨v5, rfl, _, F', k1, k2, k3⟩
        have hst := Aw.commit h hF hb hH k1 k2 k3
        have H5 := Lib.hid (And.intro hst.1 ((hst.2 w3.heap.size (.inr rfl)).trans HR.out.2.2))
        clear h hF hb hH k1 k2 k3 hst
        go_wp2_with fail
        obtain ⟨F, h, hF, hb, hH⟩ := H5.out.1
        have cwt := sys_Waiting h Hl.out.2
        unfold ptr at cwt
        refine cwt.mono ?_
        clear cwt
        rintro e w6 ⟨vl, rfl, hnw, hb6⟩
        obtain ⟨B, cl, hvl⟩ : ∃ B cl, vl = .slice B (keysV S.commit.wt).length cl := by
          obtain ⟨xs, ho, _⟩ := hnw
          rw [Hl.out.1] at ho
          exact own_slice ho
        subst hvl
        have hget : ∀ (i : Nat) k, (keysV S.commit.wt)[i]? = some k → ∃ g, B = some ⟨g, 0, none⟩ ∧ w6.cell? ⟨g, i * 2, none⟩ = some (.int .i64 k) := fun i k hi => by
          obtain ⟨g, c', u, e1, e2, _⟩ := hnw.rep.get (p := (k, (S.commit.wt k).getD [])) (by unfold listW; rw [List.getElem?_map, hi]; rfl)
          simp only [Value.slice.injEq] at e1
          exact ⟨g, e1.1, e2⟩
        have hnewB : NewV w5.heap.size (.slice B (keysV S.commit.wt).length cl) := by obtain ⟨xs, ho, _⟩ := hnw; exact own_new ho
        have hltB : ∀ x, (Value.slice B (keysV S.commit.wt).length cl).ownBlock = some x → x < w6.heap.size := fun x hx => by obtain ⟨xs, ho, _⟩ := hnw; exact own_lt ho hx
        have hA6 : Aw w w6 s p S.commit D0 (fun x => (False ∨ x = w3.heap.size) ∨ (Value.slice B (keysV S.commit.wt).length cl).ownBlock = some x) := by
          refine ⟨F, h.below hb6, fun k hk => ⟨(hF k hk).1, ?_⟩, hb.trans (hb6.mono hb.size), ?_⟩
          · rintro (e | e)
            · exact (hF k hk).2 e
            · have := hnewB k e; have := (h.foot k hk).1; omega
          · rintro k (e | e)
            · exact Nat.lt_of_lt_of_le (hH k e) hb6.size
            · exact hltB k e
        have hT6 : TAt w6 w3.heap.size t := (hb6.block _ (blk_lt H5.out.2)).trans (H5.out.2.trans rfl)
        have H6 := Lib.hid (And.intro hA6 (And.intro hT6 hget))
        clear h hF hb hH hnw hb6 hget hnewB hltB hA6 hT6
        go_wp2
        go_loopg [12] (keysV S.commit.wt).length (fun kk i wr => ∃ (i' : Nat) (S' : SM) (D' : AD), kk = (keysV S.commit.wt).length - i' ∧ i' ≤ (keysV S.commit.wt).length ∧ i = .int .i64 i' ∧ Hom2 S.commit.wt S' D' i' ∧ Aw w wr s p S' D' (fun x => (False ∨ x = w3.heap.size) ∨ (Value.slice B (keysV S.commit.wt).length cl).ownBlock = some x) ∧ ∀ x, ((False ∨ x = w3.heap.size) ∨ (Value.slice B (keysV S.commit.wt).length cl).ownBlock = some x) → wr.heap[x]? = w6.heap[x]?)
        case atStart => exact ⟨0, S.commit, D0, rfl, Nat.zero_le _, rfl, hK.out, H6.out.1, fun _ _ => rfl⟩
        case round =>
          obtain ⟨i', S', D', hkk, hi', rfl, hom2, hA2, hkeep⟩ := hrel
          by_cases hlt2 : i' < (keysV S.commit.wt).length
          · have hlt2' : (i' : Int) < ((keysV S.commit.wt).length : Int) := by omega
            obtain ⟨k0, hk0⟩ : ∃ k0, (keysV S.commit.wt)[i']? = some k0 := ⟨_, List.getElem?_eq_getElem hlt2⟩
            have hne := (mem_keysV Hl.out.2.keys.wt k0).1 (List.mem_of_getElem? hk0)
            have hin := Hl.out.2.keys.wt k0 hne
            obtain ⟨k, rfl⟩ : ∃ k : Nat, k0 = k := ⟨k0.toNat, by have := hin.1; omega⟩
            have hmk := HR.out.1.commit.mark k (.inr hne)
            have hk128 : k < 128 := by have := (List.getElem?_eq_some_iff.1 hmk).1; have := HR.out.1.len; omega
            have hhas : D'.has (k : Int) = true := has_iff.2 ⟨by omega, by rw [hom2.n]; omega⟩
            obtain ⟨b, hb0, hom3⟩ := hom2.step Hl.out.2.keys.wt hk0
            obtain ⟨g, hBg, c6⟩ := H6.out.2.2 i' k hk0
            subst hBg
            have c0 : wr.cell? ⟨g, i' * 2, none⟩ = some (.int .i64 (k : Int)) := (World.cell?_of_block (hkeep g (.inr rfl))).trans c6
            have hk3 : (k : Int) < 128 := by omega
            obtain ⟨F, h, hF, hb, hH⟩ := id hA2
            have cho := sys_Home h hom2.ok hhas hb0 (by rw [hom2.pend]; omega)
            unfold ptr at cho
            have HO := Lib.hid (And.intro cho (And.intro h (And.intro hF (And.intro hb (And.intro hH (And.intro hom3 (And.intro hkeep (And.intro c6 hmk))))))))
            clear cho h hF hb hH hom3 hkeep c6 hmk hhas hb0 hom2 hA2 hk0 hne hin
            go_wp2_with fail
            refine HO.out.1.mono ?_
            rintro e w7 ⟨rfl, hto⟩
            have hst := Aw.step HO.out.2.1 HO.out.2.2.1 HO.out.2.2.2.1 HO.out.2.2.2.2.1 hto
            have hkp : ∀ x, ((False ∨ x = w3.heap.size) ∨ (Value.slice (some ⟨g, 0, none⟩) (keysV S.commit.wt).length cl).ownBlock = some x) → w7.heap[x]? = w6.heap[x]? := fun x hx => (hst.2 x hx).trans (HO.out.2.2.2.2.2.2.1 x hx)
            have d0 : w7.cell? ⟨g, i' * 2, none⟩ = some (.int .i64 (k : Int)) := (World.cell?_of_block (hkp g (.inr rfl))).trans HO.out.2.2.2.2.2.2.2.1
            have dt : w7.cell? ⟨w3.heap.size, k, none⟩ = some (.bool true) := (World.cell?_of_block (hkp w3.heap.size (.inl (.inr rfl)))).trans ((blk_cell H6.out.2.1 k).trans (by simp [tb_get, HO.out.2.2.2.2.2.2.2.2]))
            have H7 := Lib.hid (And.intro hst.1 hkp)
            clear hst hkp hto
            go_wp2
            go_roundg ((keysV S.commit.wt).length - (i' + 1))
            case measure => omega
            case rel => exact ⟨i' + 1, _, _, rfl, by omega, by go_num, HO.out.2.2.2.2.2.1, H7.out.1, H7.out.2⟩
          · have hi2 : i' = (keysV S.commit.wt).length := by omega
            subst hi2
            have hom3 := hom2.done (Nat.le_refl _)
            have H7 := Lib.hid (And.intro hom3 hA2)
            clear hom3 hom2 hA2 hkeep
            go_wp2
            go_loopg [13] 128 (fun kk i wq => ∃ (n' : Nat) (S3 : SM), kk = 128 - n' ∧ n' ≤ 128 ∧ i = .int .i64 n' ∧ Hom3 S3 D' (keysV S.commit.wt).length ∧ Aw w wq s p S3 D' (fun x => (False ∨ x = w3.heap.size) ∨ (Value.slice B (keysV S.commit.wt).length cl).ownBlock = some x))
            case atStart => exact ⟨0, S', rfl, by decide, rfl, H7.out.1, H7.out.2⟩
            case round =>
              obtain ⟨n', S3, hk3, hn3, rfl, hom4, hA4⟩ := hrel
              by_cases hlt3 : n' < 128
              · have hlt3' : (n' : Int) < 128 := by omega
                have hhas : D'.has (n' : Int) = true := has_iff.2 ⟨by omega, by rw [hom4.n]; omega⟩
                obtain ⟨F, h, hF, hb, hH⟩ := id hA4
                have cr := sys_Read h hom4.ok hhas
                obtain ⟨hrd, hom5⟩ := hom4.read n'
                rw [hrd] at cr
                unfold ptr at cr
                have HO := Lib.hid (And.intro cr (And.intro h (And.intro hF (And.intro hb (And.intro hH (And.intro hom5 (And.intro hhas hom4.ok.dwf)))))))
                clear cr h hF hb hH hom5 hrd hom4 hA4 hhas
                go_wp2_with fail
                refine HO.out.1.mono ?_
                rintro e w8 ⟨vx, rfl, hvx, hto⟩
                have hst := Aw.step HO.out.2.1 HO.out.2.2.1 HO.out.2.2.2.1 HO.out.2.2.2.2.1 hto
                have H8 := Lib.hid (And.intro hst.1 hvx)
                clear hst hvx hto
                go_wp2_with fail
                obtain ⟨F, ⟨Fs, G8, _, hD8, _, _⟩, _, _, _⟩ := H8.out.1
                refine (disk_Read p n' D' G8 w8 hD8 HO.out.2.2.2.2.2.2.2 HO.out.2.2.2.2.2.2.1).mono ?_
                rintro e w9 ⟨vy, rfl, hvy, hb9⟩
                have H9 := Lib.hid (And.intro (H8.out.1.below hb9).1 (And.intro (H8.out.2.below hb9) hvy))
                clear hvy hb9 hD8
                go_wp2_with fail
                have csame := ref01_Same vx vy (D'.read n') (D'.read n') w9 H9.out.2.1 H9.out.2.2 (by rw [HO.out.2.2.2.2.2.2.2.read]; decide)
                rw [show (D'.read n' == D'.read n') = true from beq_self_eq_true _] at csame
                refine csame.mono ?_
                clear csame
                rintro e w10 ⟨rfl, hb10⟩
                have H10 := Lib.hid (H9.out.1.below hb10).1
                clear hb10
                go_wp2
                go_roundg (128 - (n' + 1))
                case measure => omega
                case rel => exact ⟨n' + 1, _, rfl, by omega, by go_num, HO.out.2.2.2.2.2.1, H10.out⟩
              · have hn4 : n' = 128 := by omega
                subst hn4
                obtain ⟨F, h, hF, hb, hH⟩ := id hA4
                have cwt := sys_Waiting h hom4.ok
                have hD : ∃ G9, DiskRep wr p D' G9 := by obtain ⟨_, G9, _, h9, _⟩ := id h; exact ⟨G9, h9⟩
                obtain ⟨G9, hD9⟩ := hD
                unfold ptr at cwt
                have hpl := hom4.pend
                have hnn := hom4.n
                have hwt := hom4.wt
                have HO := Lib.hid (And.intro cwt (And.intro hD9 (And.intro hb (And.intro hom4.ok.dwf (And.intro hpl (And.intro hnn hwt))))))
                clear cwt hD9 h hF hb hH hom4 hA4 hpl hnn hwt
                go_wp2_with fail
                refine HO.out.1.mono ?_
                rintro e w8 ⟨v8, rfl, hn8, hb8⟩
                have hz : (listW S3.wt).length = 0 := by
                  rw [HO.out.2.2.2.2.2.2]
                  have : keysV (fun _ => (none : Option Bytes)) = [] := List.eq_nil_iff_forall_not_mem.2 (fun x hx => by
                    exact absurd rfl ((mem_keysV (m := fun _ => (none : Option Bytes)) (fun k hk => absurd rfl hk) x).1 hx))
                  unfold listW; rw [this]; rfl
                obtain ⟨A8, c8, hv8⟩ : ∃ A8 c8, v8 = .slice A8 0 c8 := by
                  obtain ⟨xs, ho, _⟩ := hn8
                  rw [hz] at ho
                  exact own_slice ho
                subst hv8
                have hD8 := HO.out.2.1.below hb8
                have cpe := disk_Pending p D' G9 w8 hD8 (by rw [HO.out.2.2.2.2.2.1]; decide) HO.out.2.2.2.1 (by rw [HO.out.2.2.2.2.1]; omega)
                have HP := Lib.hid (And.intro cpe (HO.out.2.2.1.trans (hb8.mono HO.out.2.2.1.size)))
                clear cpe hD8 hb8 hn8 hz
                go_wp2_with fail
                refine HP.out.1.mono ?_
                rintro e w9 ⟨v9, rfl, hn9, hb9⟩
                obtain ⟨A9, c9, hv9⟩ : ∃ A9 c9, v9 = .slice A9 (keysV S.commit.wt).length c9 := by
                  obtain ⟨xs, ho, _⟩ := hn9
                  rw [HO.out.2.2.2.2.1] at ho
                  exact own_slice ho
                subst hv9
                have H9 := Lib.hid (HP.out.2.trans (hb9.mono HP.out.2.size))
                clear hn9 hb9
                go_wp2
                go_ret
                exact ⟨by first | rfl | simp, H9.out⟩)
end Go.Proofs.Ytnhifnakgiddiaa
