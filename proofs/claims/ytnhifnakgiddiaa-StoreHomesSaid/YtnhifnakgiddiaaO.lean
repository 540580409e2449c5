/- The store's Read, walked. -/
import Derived.Test.YtnhifnakgiddiaaN
namespace Go.Proofs.Ytnhifnakgiddiaa
open Go Go.RowKit Go.MapKept
open Go.ChangeMaps (setBlock heap_setBlock_same heap_setBlock_other)

def SM.shard (S : SM) (k : Nat) : List (Int × Bytes) := S.sh.getD (k % S.sh.length) []
def SM.hit (S : SM) : SM := { S with found := wrap64 (S.found + 1) }
def SM.miss (S : SM) : SM := { S with asked := wrap64 (S.asked + 1) }
def SM.read (S : SM) (D : AD) (k : Nat) : Bytes × SM :=
  match S.ch k with
  | some b => (b, S.hit)
  | none => match S.wt k with
    | some b => (b, S.hit)
    | none => match (S.shard k).lookup (k : Int) with
      | some b => (b, S.hit.use k b)
      | none => (D.read k, S.miss.use k (D.read k))

theorem StRep.count_ {w : World} {s p : Nat} {S : SM} {F : Nat → Prop} (h : StRep w s p S F) (x : Int) : StRep (w.setCell ⟨s, 7, none⟩ (.int .i64 x)) s p { S with found := x } F ∧ Chg F w (w.setCell ⟨s, 7, none⟩ (.int .i64 x)) := by
  obtain ⟨g, hA, hF⟩ := h
  have hc : Chg (fun k => k = s) w (w.setCell ⟨s, 7, none⟩ (.int .i64 x)) := (Chg.refl _ w).setCell ⟨s, 7, none⟩ _ (fun _ => rfl)
  exact ⟨⟨g, hA.to_head hc { S with found := x } (by rw [blk_set hA.head]; rfl) rfl rfl rfl rfl rfl, hF⟩, hc.mono (fun k _ e => (hF k).2 (.inl e))⟩
theorem StRep.count2_ {w : World} {s p : Nat} {S : SM} {F : Nat → Prop} (h : StRep w s p S F) (x : Int) : StRep (w.setCell ⟨s, 8, none⟩ (.int .i64 x)) s p { S with asked := x } F ∧ Chg F w (w.setCell ⟨s, 8, none⟩ (.int .i64 x)) := by
  obtain ⟨g, hA, hF⟩ := h
  have hc : Chg (fun k => k = s) w (w.setCell ⟨s, 8, none⟩ (.int .i64 x)) := (Chg.refl _ w).setCell ⟨s, 8, none⟩ _ (fun _ => rfl)
  exact ⟨⟨g, hA.to_head hc { S with asked := x } (by rw [blk_set hA.head]; rfl) rfl rfl rfl rfl rfl, hF⟩, hc.mono (fun k _ e => (hF k).2 (.inl e))⟩
theorem StRep.to_ {w w' : World} {s p : Nat} {S : SM} {F : Nat → Prop} (h : StRep w' s p S F) (hc : Chg F w w') : StTo w s p S F w' := ⟨F, h, hc, fun _ h => .inl h⟩

def GotS (w : World) (s p : Nat) (b : Bytes) (S' : SM) (F : Nat → Prop) (e : Ending) (w' : World) : Prop := ∃ v, e = .returned (.tuple #[v, .int .i64 0]) ∧ Blk w' v b ∧ StTo w s p S' F w'

theorem StRep.cells {w : World} {s p : Nat} {S : SM} {F : Nat → Prop} (h : StRep w s p S F) : w.cell? ⟨s, 7, none⟩ = some (.int .i64 S.found) ∧ w.cell? ⟨s, 8, none⟩ = some (.int .i64 S.asked) ∧ w.cell? ⟨s, 0, none⟩ = some (.pointer (some ⟨p, 0, none⟩)) ∧ ∀ i, w.frozen? ⟨s, i, none⟩ = false := by
  obtain ⟨g, hA, _⟩ := h
  exact ⟨by rw [hA.cell]; rfl, by rw [hA.cell]; rfl, by rw [hA.cell]; rfl, fun i => blk_frozen hA.head i⟩

set_option maxRecDepth 100000 in
set_option maxHeartbeats 1000000 in
theorem store_Read_bad (s p : Nat) (k : Int) (S : SM) (F : Nat → Prop) (D : AD) (G : Nat → Prop) (w : World) (hS : StRep w s p S F) (hD : DiskRep w p D G) (hk : D.has k = false) :
    Calls Try.prog 8 #[ptr s, .int .i64 k] w fun e w' => e = .returned (.tuple #[.slice none 0 0, .int .i64 5]) ∧ w = w' := by
  have hh := store_has s p k S F D G w hS hD
  rw [hk] at hh
  have HH := Lib.hid hh; clear hh hS hD hk
  unfold ptr at *
  go_enter Try.func8, Try.ntmps8
  go_wp2_with (go_at_call 34; refine HH.out.mono ?_; rintro e w' ⟨rfl, rfl⟩)
  go_ret2
  exact ⟨rfl, rfl⟩

theorem AtB.keep {w w' : World} {g : Nat} {l : Bytes} (h : AtB w ⟨g, 0, none⟩ l) (hk : w'.heap[g]? = w.heap[g]?) : AtB w' ⟨g, 0, none⟩ l := fun j u hu => by
  rw [← h j u hu]
  have e : (⟨g, 0, none⟩ : Addr).add j = ⟨g, j, none⟩ := by unfold Addr.add; split <;> simp_all
  rw [e]
  exact World.cell?_of_block hk
theorem clone_blk (v : Value) (l : Bytes) (w : World) (h : Blk w v l) (h0 : 0 < l.length) (hn : l.length ≤ 70368744177664) :
    Calls Try.prog 35 #[v] w fun e w' => ∃ v', e = .returned v' ∧ Blk w' v' l ∧ Below w.heap.size w w' := by
  obtain ⟨g, c, rfl, _, hat, _⟩ := h.open_ h0
  exact clone_at _ l c w hat hn

set_option maxRecDepth 100000 in
set_option maxHeartbeats 2000000 in
theorem store_Read_hit1 (s p k : Nat) (b : Bytes) (S : SM) (F : Nat → Prop) (D : AD) (G : Nat → Prop) (w : World) (hS : StRep w s p S F) (hD : DiskRep w p D G) (hW : S.Wf) (hk : D.has k = true) (hc : S.ch k = some b) :
    Calls Try.prog 8 #[ptr s, .int .i64 (k : Int)] w (GotS w s p b S.hit F) := by
  have hh := store_has s p k S F D G w hS hD
  rw [hk] at hh
  have hbl := hW.ch _ _ hc
  obtain ⟨g, hA, hF⟩ := id hS
  obtain ⟨vf, hM, hO⟩ := hA.ch
  have c2 : w.cell? ⟨s, 2, none⟩ = some (.map (some g.mc)) := by rw [hA.cell]; rfl
  have c3 : w.cell? ⟨s, 3, none⟩ = some (.map (some g.mw)) := by rw [hA.cell]; rfl
  have hsl := blk_lt hA.head
  obtain ⟨v, l, hv1, hv2, hv3⟩ := (hO k).resolve_left (fun h => by rw [hc] at h; exact absurd h.2 (by simp))
  rw [hc] at hv2; cases hv2
  obtain ⟨gb, cb, rfl, _, _, cs, hgb⟩ := hv3.open_ (by omega)
  rw [hbl] at hv1 hv3
  -- the literal list of the two maps
  have hal : Below w.heap.size w (w.alloc (.cells #[.map (some g.mc), .map (some g.mw)] 25)).drew := ((Below.refl _ w).alloc (Nat.le_refl _) _).drew
  have L1 := (hM.keep (w' := (w.alloc (.cells #[.map (some g.mc), .map (some g.mw)] 25)).drew) (Below.heap_alloc w _ _ hM.lt)).lookup (P := Try.prog) Try.underlying25 Try.underlying3 (zeroMB _) (k : Int)
  rw [hv1] at L1
  simp only [Option.getD_some] at L1
  have qT := fun (w : World) (a : Option Addr) (n c n' c' : Nat) => neqNil (w := w) a n c n' c'
  have hS1 := hS.below hal
  have c7 := hS1.cells.1
  have f7 := hS1.cells.2.2.2 7
  have hct := hS1.count_ (wrap64 (S.found + 1))
  have hcl := clone_blk (.slice (some ⟨gb, 0, none⟩) 256 cb) b _ ((hv3.below hal).chg hct.2 hS1.foot) (by omega) (by omega)
  have hto := (hct.1.to_ hct.2).below hal
  simp only [World.setCell_drew, World.setCell_alloc_past _ _ _ _ hsl] at hcl hto
  have HH := Lib.hid (And.intro hh (And.intro hcl hto)); clear hh hcl hto hct hS1 hS hD hk hbl hA hF hM hO hv1 hv3 hal hc hW hgb
  unfold ptr at *
  go_enter Try.func8, Try.ntmps8
  go_wp2_with (go_at_call 34; refine HH.out.1.mono ?_; rintro e w' ⟨rfl, rfl⟩)
  go_region
  go_wp2
  refine wp_loop_rounds 1 ?_
  rw [rounds_succ]
  go_wp2_with (go_at_call 35; refine HH.out.2.1.mono ?_; rintro e w9 ⟨v9, rfl, hv9, hb9⟩; have H9 := Lib.hid (And.intro hv9 hb9); clear hv9 hb9)
  go_ret2
  exact ⟨_, rfl, H9.out.1, HH.out.2.2.then_below H9.out.2⟩

set_option maxRecDepth 100000 in
set_option maxHeartbeats 2000000 in
theorem store_Read_hit2 (s p k : Nat) (b : Bytes) (S : SM) (F : Nat → Prop) (D : AD) (G : Nat → Prop) (w : World) (hS : StRep w s p S F) (hD : DiskRep w p D G) (hW : S.Wf) (hk : D.has k = true) (hc : S.ch k = none) (ht : S.wt k = some b) :
    Calls Try.prog 8 #[ptr s, .int .i64 (k : Int)] w (GotS w s p b S.hit F) := by
  have hh := store_has s p k S F D G w hS hD
  rw [hk] at hh
  have hbl := hW.wt _ _ ht
  obtain ⟨g, hA, hF⟩ := id hS
  obtain ⟨vf, hM, hO⟩ := hA.wt
  obtain ⟨vf0, hM0, hO0⟩ := hA.ch
  have c2 : w.cell? ⟨s, 2, none⟩ = some (.map (some g.mc)) := by rw [hA.cell]; rfl
  have c3 : w.cell? ⟨s, 3, none⟩ = some (.map (some g.mw)) := by rw [hA.cell]; rfl
  have hsl := blk_lt hA.head
  obtain ⟨v, l, hv1, hv2, hv3⟩ := (hO k).resolve_left (fun h => by rw [ht] at h; exact absurd h.2 (by simp))
  rw [ht] at hv2; cases hv2
  have hv0 : vf0 k = none := by
    rcases hO0 k with h | ⟨_, _, _, h, _⟩
    · exact h.1
    · rw [hc] at h; cases h
  obtain ⟨gb, cb, rfl, _, _, cs, hgb⟩ := hv3.open_ (by omega)
  rw [hbl] at hv1 hv3
  have hal : Below w.heap.size w (w.alloc (.cells #[.map (some g.mc), .map (some g.mw)] 25)).drew := ((Below.refl _ w).alloc (Nat.le_refl _) _).drew
  have L0 := (hM0.keep (w' := (w.alloc (.cells #[.map (some g.mc), .map (some g.mw)] 25)).drew) (Below.heap_alloc w _ _ hM0.lt)).lookup (P := Try.prog) Try.underlying25 Try.underlying3 (zeroMB _) (k : Int)
  rw [hv0] at L0
  simp only [Option.getD_none] at L0
  have L1 := (hM.keep (w' := (w.alloc (.cells #[.map (some g.mc), .map (some g.mw)] 25)).drew) (Below.heap_alloc w _ _ hM.lt)).lookup (P := Try.prog) Try.underlying25 Try.underlying3 (zeroMB _) (k : Int)
  rw [hv1] at L1
  simp only [Option.getD_some] at L1
  have qT := fun (w : World) (a : Option Addr) (n c n' c' : Nat) => neqNil (w := w) a n c n' c'
  have hS1 := hS.below hal
  have c7 := hS1.cells.1
  have f7 := hS1.cells.2.2.2 7
  have hct := hS1.count_ (wrap64 (S.found + 1))
  have hcl := clone_blk (.slice (some ⟨gb, 0, none⟩) 256 cb) b _ ((hv3.below hal).chg hct.2 hS1.foot) (by omega) (by omega)
  have hto := (hct.1.to_ hct.2).below hal
  simp only [World.setCell_drew, World.setCell_alloc_past _ _ _ _ hsl] at hcl hto
  have HH := Lib.hid (And.intro hh (And.intro hcl hto)); clear hh hcl hto hct hS1 hS hD hk hbl hA hF hM hO hM0 hO0 hv0 hv1 hv3 hal hc ht hW hgb
  unfold ptr at *
  go_enter Try.func8, Try.ntmps8
  go_wp2_with (go_at_call 34; refine HH.out.1.mono ?_; rintro e w' ⟨rfl, rfl⟩)
  go_region
  go_wp2
  refine wp_loop_rounds 2 ?_
  rw [rounds_succ]
  go_wp2
  rw [rounds_succ]
  go_wp2_with (go_at_call 35; refine HH.out.2.1.mono ?_; rintro e w9 ⟨v9, rfl, hv9, hb9⟩; have H9 := Lib.hid (And.intro hv9 hb9); clear hv9 hb9)
  go_ret2
  exact ⟨_, rfl, H9.out.1, HH.out.2.2.then_below H9.out.2⟩
end Go.Proofs.Ytnhifnakgiddiaa
