/- The store's Read where neither the changed nor the waiting ones have the block. -/
import Derived.Test.YtnhifnakgiddiaaO
namespace Go.Proofs.Ytnhifnakgiddiaa
open Go Go.RowKit Go.MapKept
open Go.ChangeMaps (setBlock heap_setBlock_same heap_setBlock_other)

theorem OMap.none_ {w : World} {vf : Int → Option Value} {f : Int → Option Bytes} (h : OMap w vf f) {k : Int} (hk : f k = none) : vf k = none := by
  rcases h k with h | ⟨_, _, _, h, _⟩
  · exact h.1
  · rw [hk] at h; cases h
theorem OMap.some_ {w : World} {vf : Int → Option Value} {f : Int → Option Bytes} (h : OMap w vf f) {k : Int} {b : Bytes} (hk : f k = some b) : ∃ v, vf k = some v ∧ Blk w v b := by
  rcases h k with h | ⟨v, l, h1, h2, h3⟩
  · rw [hk] at h; exact absurd h.2 (by simp)
  · rw [hk] at h2; cases h2; exact ⟨v, h1, h3⟩

theorem StTo.pre {w w1 w2 : World} {s p : Nat} {S2 : SM} {F : Nat → Prop} (h : StTo w1 s p S2 F w2) (hc : Chg F w w1) : StTo w s p S2 F w2 := by
  obtain ⟨F2, k1, k2, k3⟩ := h
  exact ⟨F2, k1, hc.trans k2 (fun _ _ h => h), fun j hj => (k3 j hj).imp id (Nat.le_trans hc.size)⟩
/-- What Read sees of a shard. -/
structure SeeShard (w : World) (s : Nat) (g : SG) (S : SM) (k gs cap o md : Nat) (vd : Int → Option Value) : Prop where
  c6 : w.cell? ⟨s, 6, none⟩ = some (.slice (some ⟨gs, 0, none⟩) S.sh.length cap)
  c1 : w.cell? ⟨gs, k % S.sh.length * 2 + 1, none⟩ = some (.map (some md))
  map : MapIs w md vd
  omap : OMap w vd (fun x => (S.shard k).lookup x)
  lt : gs < w.heap.size
  sv : g.sv = .slice (some ⟨gs, 0, none⟩) S.sh.length cap
theorem StAt.see {w : World} {s p : Nat} {S : SM} {g : SG} (h : StAt w s p S g) (k : Nat) : ∃ gs cap md vd, SeeShard w s g S k gs cap 0 md vd := by
  obtain ⟨gs, cap, cs, a, b', c, d, e, f, kk⟩ := id h.shards
  have hlt : k % S.sh.length < S.sh.length := Nat.mod_lt _ e
  have hi1 : S.sh[k % S.sh.length]? = some (S.shard k) := by
    unfold SM.shard
    rw [List.getD_eq_getElem?_getD, List.getElem?_eq_getElem hlt]; rfl
  obtain ⟨q, hq⟩ : ∃ q, g.ms[k % S.sh.length]? = some q := ⟨g.ms[k % S.sh.length]'(by omega), List.getElem?_eq_getElem _⟩
  obtain ⟨x, y, z⟩ := kk _ _ q hi1 hq
  obtain ⟨vd, h1, h2⟩ := z.2
  refine ⟨gs, cap, q.1, vd, by rw [h.cell]; simp [a], ?_, h1, h2, blk_lt c, a⟩
  rw [blk_cell c, Nat.mul_comm]; exact y

set_option maxRecDepth 100000 in
set_option maxHeartbeats 4000000 in
theorem store_Read_hit3 (s p k : Nat) (b : Bytes) (S : SM) (F : Nat → Prop) (D : AD) (G : Nat → Prop) (w : World) (hS : StRep w s p S F) (hD : DiskRep w p D G) (hW : S.Wf) (hk : D.has k = true) (hk2 : k ≤ 4096) (hc : S.ch k = none) (ht : S.wt k = none) (hq : (S.shard k).lookup (k : Int) = some b) :
    Calls Try.prog 8 #[ptr s, .int .i64 (k : Int)] w (GotS w s p b (S.hit.use k b) F) := by
  have hh := store_has s p k S F D G w hS hD
  rw [hk] at hh
  have hpos := hS.sh_pos
  have hbl : b.length = 256 := by
    have hm : S.shard k ∈ S.sh := by
      unfold SM.shard
      rw [List.getD_eq_getElem?_getD, List.getElem?_eq_getElem (Nat.mod_lt _ hpos.1)]; exact List.getElem_mem _
    have : ((k : Int), b) ∈ S.shard k := by
      have := List.lookup_eq_some_iff.1 hq
      obtain ⟨l1, l2, h, _⟩ := this
      rw [h]; simp
    exact hW.sh _ hm _ this
  obtain ⟨g, hA, hF⟩ := id hS
  obtain ⟨vf, hM, hO⟩ := hA.wt
  obtain ⟨vf0, hM0, hO0⟩ := hA.ch
  have c2 : w.cell? ⟨s, 2, none⟩ = some (.map (some g.mc)) := by rw [hA.cell]; rfl
  have c3 : w.cell? ⟨s, 3, none⟩ = some (.map (some g.mw)) := by rw [hA.cell]; rfl
  have hsl := blk_lt hA.head
  obtain ⟨gs, cap, md, vd, see⟩ := hA.see k
  obtain ⟨v, hv1, hv3⟩ := see.omap.some_ hq
  obtain ⟨gb, cb, rfl, _, _, cs, hgb⟩ := hv3.open_ (by omega)
  rw [hbl] at hv1 hv3
  have hal : Below w.heap.size w (w.alloc (.cells #[.map (some g.mc), .map (some g.mw)] 25)).drew := ((Below.refl _ w).alloc (Nat.le_refl _) _).drew
  have L0 := (hM0.keep (w' := (w.alloc (.cells #[.map (some g.mc), .map (some g.mw)] 25)).drew) (Below.heap_alloc w _ _ hM0.lt)).lookup (P := Try.prog) Try.underlying25 Try.underlying3 (zeroMB _) (k : Int)
  rw [hO0.none_ hc] at L0
  simp only [Option.getD_none] at L0
  have L1 := (hM.keep (w' := (w.alloc (.cells #[.map (some g.mc), .map (some g.mw)] 25)).drew) (Below.heap_alloc w _ _ hM.lt)).lookup (P := Try.prog) Try.underlying25 Try.underlying3 (zeroMB _) (k : Int)
  rw [hO.none_ ht] at L1
  simp only [Option.getD_none] at L1
  have L2 := (see.map.keep (w' := (w.alloc (.cells #[.map (some g.mc), .map (some g.mw)] 25)).drew.drew) (Below.heap_alloc w _ _ see.map.lt)).lookup (P := Try.prog) Try.underlying25 Try.underlying3 (zeroMB _) (k : Int)
  rw [hv1] at L2
  simp only [Option.getD_some] at L2
  have qT := fun (w : World) (a : Option Addr) (n c n' c' : Nat) => neqNil (w := w) a n c n' c'
  have hS1 := hS.below hal.drew
  have c7 := hS1.cells.1
  have f7 := hS1.cells.2.2.2 7
  have hof := store_of s gs cap k S.sh.length (w.alloc (.cells #[.map (some g.mc), .map (some g.mw)] 25)).drew ((hal.cell (p := ⟨s, 6, none⟩) hsl).trans see.c6) hpos.1 hpos.2 hk2
  have d1 : (w.alloc (.cells #[.map (some g.mc), .map (some g.mw)] 25)).drew.drew.cell? ⟨gs, k % S.sh.length * 2 + 1, none⟩ = some (.map (some md)) := (hal.cell (p := ⟨gs, k % S.sh.length * 2 + 1, none⟩) see.lt).trans see.c1
  have hct := hS1.count_ (wrap64 (S.found + 1))
  have hb1 := (hv3.below hal.drew).chg hct.2 hS1.foot
  have hW1 : ({ S with found := wrap64 (S.found + 1) } : SM).Wf := ⟨hW.ch, hW.wt, hW.sh, hW.und, hW.len, hW.room⟩
  have hus := store_use s p k _ b _ F _ hct.1 hW1 hb1 hbl hk2
  have hto : Chg F w _ := (Chg.of_below hal.drew).trans hct.2 (fun _ _ h => h)
  have hfoot := hct.1.foot
  simp only [World.setCell_drew, World.setCell_alloc_past _ _ _ _ hsl] at hus hto hb1 hfoot
  have HH := Lib.hid (And.intro hh (And.intro hof (And.intro hus (And.intro hto (And.intro hb1 (And.intro hfoot hbl))))));
  clear hh hof hus hto hb1 hfoot hct hS1 hS hD hk hbl hA hF hM hO hM0 hO0 hv1 hv3 hal hc ht hq hW hgb see hW1 hpos
  unfold ptr at *
  go_enter Try.func8, Try.ntmps8
  go_wp2_with (go_at_call 34; refine HH.out.1.mono ?_; rintro e w' ⟨rfl, rfl⟩)
  go_region
  go_wp2
  refine wp_loop_rounds 3 ?_
  rw [rounds_succ]
  go_wp2
  rw [rounds_succ]
  go_wp2
  rw [rounds_succ]
  go_wp2_with fail
  refine HH.out.2.1.mono ?_
  rintro e w2 ⟨rfl, rfl⟩
  go_wp2_with fail
  refine HH.out.2.2.1.mono ?_
  rintro e w3 ⟨rfl, hst⟩
  have hb3 : Blk w3 (.slice (some ⟨gb, 0, none⟩) 256 cb) b := by
    obtain ⟨F3, h1, h2, h3⟩ := hst
    exact HH.out.2.2.2.2.1.chg h2 HH.out.2.2.2.2.2.1
  have hcl := clone_blk _ b w3 hb3 (by have := HH.out.2.2.2.2.2.2; omega) (by have := HH.out.2.2.2.2.2.2; omega)
  have H3 := Lib.hid (And.intro hst hcl); clear hst hb3 hcl
  go_wp2_with (go_at_call 35; refine H3.out.2.mono ?_; rintro e w9 ⟨v9, rfl, hv9, hb9⟩; have H9 := Lib.hid (And.intro hv9 hb9); clear hv9 hb9)
  go_ret2
  exact ⟨_, rfl, H9.out.1, (H3.out.1.pre HH.out.2.2.2.1).then_below H9.out.2⟩

set_option maxRecDepth 100000 in
set_option maxHeartbeats 4000000 in
theorem store_Read_miss (s p k : Nat) (S : SM) (F : Nat → Prop) (D : AD) (G : Nat → Prop) (w : World) (hS : StRep w s p S F) (hD : DiskRep w p D G) (hFG : Disj F G) (hW : S.Wf) (hDW : D.Wf) (hk : D.has k = true) (hk2 : k ≤ 4096) (hc : S.ch k = none) (ht : S.wt k = none) (hq : (S.shard k).lookup (k : Int) = none) :
    Calls Try.prog 8 #[ptr s, .int .i64 (k : Int)] w (GotS w s p (D.read k) (S.miss.use k (D.read k)) F) := by
  have hh := store_has s p k S F D G w hS hD
  rw [hk] at hh
  have hpos := hS.sh_pos
  have hbl := hDW.read k
  obtain ⟨g, hA, hF⟩ := id hS
  obtain ⟨vf, hM, hO⟩ := hA.wt
  obtain ⟨vf0, hM0, hO0⟩ := hA.ch
  have c2 : w.cell? ⟨s, 2, none⟩ = some (.map (some g.mc)) := by rw [hA.cell]; rfl
  have c3 : w.cell? ⟨s, 3, none⟩ = some (.map (some g.mw)) := by rw [hA.cell]; rfl
  have hsl := blk_lt hA.head
  obtain ⟨gs, cap, md, vd, see⟩ := hA.see k
  have hv1 := see.omap.none_ hq
  have hal : Below w.heap.size w (w.alloc (.cells #[.map (some g.mc), .map (some g.mw)] 25)).drew := ((Below.refl _ w).alloc (Nat.le_refl _) _).drew
  have L0 := (hM0.keep (w' := (w.alloc (.cells #[.map (some g.mc), .map (some g.mw)] 25)).drew) (Below.heap_alloc w _ _ hM0.lt)).lookup (P := Try.prog) Try.underlying25 Try.underlying3 (zeroMB _) (k : Int)
  rw [hO0.none_ hc] at L0
  simp only [Option.getD_none] at L0
  have L1 := (hM.keep (w' := (w.alloc (.cells #[.map (some g.mc), .map (some g.mw)] 25)).drew) (Below.heap_alloc w _ _ hM.lt)).lookup (P := Try.prog) Try.underlying25 Try.underlying3 (zeroMB _) (k : Int)
  rw [hO.none_ ht] at L1
  simp only [Option.getD_none] at L1
  have L2 := (see.map.keep (w' := (w.alloc (.cells #[.map (some g.mc), .map (some g.mw)] 25)).drew.drew) (Below.heap_alloc w _ _ see.map.lt)).lookup (P := Try.prog) Try.underlying25 Try.underlying3 (zeroMB _) (k : Int)
  rw [hv1] at L2
  simp only [Option.getD_none] at L2
  have qT := fun (w : World) (a : Option Addr) (n c n' c' : Nat) => neqNil (w := w) a n c n' c'
  have hS1 := hS.below hal.drew
  have c8 := hS1.cells.2.1
  have c0 := hS1.cells.2.2.1
  have f8 := hS1.cells.2.2.2 8
  have hof := store_of s gs cap k S.sh.length (w.alloc (.cells #[.map (some g.mc), .map (some g.mw)] 25)).drew ((hal.cell (p := ⟨s, 6, none⟩) hsl).trans see.c6) hpos.1 hpos.2 hk2
  have d1 : (w.alloc (.cells #[.map (some g.mc), .map (some g.mw)] 25)).drew.drew.cell? ⟨gs, k % S.sh.length * 2 + 1, none⟩ = some (.map (some md)) := (hal.cell (p := ⟨gs, k % S.sh.length * 2 + 1, none⟩) see.lt).trans see.c1
  have hct := hS1.count2_ (wrap64 (S.asked + 1))
  have hW1 : ({ S with asked := wrap64 (S.asked + 1) } : SM).Wf := ⟨hW.ch, hW.wt, hW.sh, hW.und, hW.len, hW.room⟩
  have hD1 := (hD.below hal.drew).chg hct.2 hS1.foot hFG.symm
  have hdr := disk_Read p k D G _ hD1 hDW hk
  have hto : Chg F w _ := (Chg.of_below hal.drew).trans hct.2 (fun _ _ h => h)
  have hrep := hct.1
  have q0 := hct.1.cells.2.2.1
  simp only [World.setCell_drew, World.setCell_alloc_past _ _ _ _ hsl] at hdr hto hrep q0
  have HH := Lib.hid (And.intro hh (And.intro hof (And.intro hdr (And.intro hto (And.intro hrep (And.intro hbl hW1))))));
  clear hh hof hdr hto hrep hct hS1 hS hD hk hbl hA hF hM hO hM0 hO0 hv1 hal hc ht hq hW see hW1 hpos hD1 hDW hFG
  unfold ptr at *
  go_enter Try.func8, Try.ntmps8
  go_wp2_with (go_at_call 34; refine HH.out.1.mono ?_; rintro e w' ⟨rfl, rfl⟩)
  go_region
  go_wp2
  refine wp_loop_rounds 3 ?_
  rw [rounds_succ]
  go_wp2
  rw [rounds_succ]
  go_wp2
  rw [rounds_succ]
  go_wp2_with fail
  refine HH.out.2.1.mono ?_
  rintro e w2 ⟨rfl, rfl⟩
  go_wp2_with fail
  refine HH.out.2.2.1.mono ?_
  rintro e w3 ⟨v, rfl, hv, hb⟩
  have hus := store_use s p k v _ _ F w3 (HH.out.2.2.2.2.1.below hb) HH.out.2.2.2.2.2.2 hv HH.out.2.2.2.2.2.1 hk2
  obtain ⟨gb, cb, hvv, _, _, _⟩ := hv.open_ (by have := HH.out.2.2.2.2.2.1; omega)
  subst hvv
  have H3 := Lib.hid (And.intro hus (And.intro hv hb)); clear hus hv hb
  unfold ptr at *
  go_wp2_with fail
  refine H3.out.1.mono ?_
  rintro e w4 ⟨rfl, hst⟩
  have hb4 : Blk w4 (.slice (some ⟨gb, 0, none⟩) (List.length (D.read (k : Int))) cb) (D.read k) := by
    obtain ⟨F3, h1, h2, h3⟩ := id hst
    exact H3.out.2.1.chg h2 (HH.out.2.2.2.2.1.below H3.out.2.2).foot
  have hcl := clone_blk _ (D.read k) w4 hb4 (by have := HH.out.2.2.2.2.2.1; omega) (by have := HH.out.2.2.2.2.2.1; omega)
  have H4 := Lib.hid (And.intro hst hcl); clear hst hb4 hcl
  go_wp2_with (go_at_call 35; refine H4.out.2.mono ?_; rintro e w9 ⟨v9, rfl, hv9, hb9⟩; have H9 := Lib.hid (And.intro hv9 hb9); clear hv9 hb9)
  go_ret2
  exact ⟨_, rfl, H9.out.1, ((H4.out.1.below H3.out.2.2).pre HH.out.2.2.2.1).then_below H9.out.2⟩

/-- Read of a block that is there. -/
theorem store_Read (s p k : Nat) (S : SM) (F : Nat → Prop) (D : AD) (G : Nat → Prop) (w : World) (hS : StRep w s p S F) (hD : DiskRep w p D G) (hFG : Disj F G) (hW : S.Wf) (hDW : D.Wf) (hk : D.has k = true) (hk2 : k ≤ 4096) :
    Calls Try.prog 8 #[ptr s, .int .i64 (k : Int)] w (GotS w s p (S.read D k).1 (S.read D k).2 F) := by
  unfold SM.read
  cases hc : S.ch k with
  | some b => exact store_Read_hit1 s p k b S F D G w hS hD hW hk hc
  | none =>
    cases ht : S.wt k with
    | some b => exact store_Read_hit2 s p k b S F D G w hS hD hW hk hc ht
    | none =>
      cases hq : (S.shard k).lookup (k : Int) with
      | some b => exact store_Read_hit3 s p k b S F D G w hS hD hW hk hk2 hc ht hq
      | none => exact store_Read_miss s p k S F D G w hS hD hFG hW hDW hk hk2 hc ht hq
end Go.Proofs.Ytnhifnakgiddiaa
