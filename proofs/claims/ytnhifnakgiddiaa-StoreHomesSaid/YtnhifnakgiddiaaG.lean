/- A shard of the cache: 'forget' and what 'use' is made of, at the level of its own memory. -/
import Derived.Test.YtnhifnakgiddiaaF
import Derived.Deep.QuietTactic
import Derived.BigQuiet
namespace Go.Proofs.Ytnhifnakgiddiaa
open Go Go.RowKit Go.MapKept
open Go.ChangeMaps (setBlock heap_setBlock_same heap_setBlock_other)

/-- A map of blocks' bytes. -/
def OMap (w : World) (vf : Int → Option Value) (f : Int → Option Bytes) : Prop := ∀ k, (vf k = none ∧ f k = none) ∨ ∃ v l, vf k = some v ∧ f k = some l ∧ Blk w v l
def MapB (w : World) (m : Nat) (f : Int → Option Bytes) : Prop := ∃ vf, MapIs w m vf ∧ OMap w vf f
def bupd (m : Int → Option Bytes) (k : Int) (v : Bytes) : Int → Option Bytes := fun x => if x = k then some v else m x
def bdel (m : Int → Option Bytes) (k : Int) : Int → Option Bytes := fun x => if x = k then none else m x
theorem OMap.kb {w w' : World} {vf : Int → Option Value} {f : Int → Option Bytes} (h : OMap w vf f) (hk : KB w w') : OMap w' vf f := fun k => by
  rcases h k with h | ⟨v, l, h1, h2, h3⟩
  · exact .inl h
  · exact .inr ⟨v, l, h1, h2, h3.kb hk⟩
theorem OMap.upd {w : World} {vf : Int → Option Value} {f : Int → Option Bytes} (h : OMap w vf f) (k : Int) {v : Value} {l : Bytes} (hv : Blk w v l) : OMap w (upd vf k v) (bupd f k l) := fun x => by
  by_cases e : x = k
  · exact .inr ⟨v, l, by simp [Proofs.Ytnhifnakgiddiaa.upd, e], by simp [bupd, e], hv⟩
  · simp only [Proofs.Ytnhifnakgiddiaa.upd, bupd, if_neg e]; exact h x
theorem OMap.del {w : World} {vf : Int → Option Value} {f : Int → Option Bytes} (h : OMap w vf f) (k : Int) : OMap w (del vf k) (bdel f k) := fun x => by
  by_cases e : x = k
  · exact .inl ⟨by simp [Proofs.Ytnhifnakgiddiaa.del, e], by simp [bdel, e]⟩
  · simp only [Proofs.Ytnhifnakgiddiaa.del, bdel, if_neg e]; exact h x
theorem OMap.empty (w : World) : OMap w mempty (fun _ => none) := fun _ => .inl ⟨rfl, rfl⟩
theorem MapB.keep {w w' : World} {m : Nat} {f : Int → Option Bytes} (h : MapB w m f) (hk : KB w w') (hm : w'.heap[m]? = w.heap[m]?) : MapB w' m f := by
  obtain ⟨vf, h1, h2⟩ := h; exact ⟨vf, h1.keep hm, h2.kb hk⟩
theorem MapB.map {w : World} {m : Nat} {f : Int → Option Bytes} (h : MapB w m f) : ∃ es c, w.heap[m]? = some (.map es c) := by
  obtain ⟨vf, ⟨es, c, h1, _⟩, _⟩ := h; exact ⟨es, c, h1⟩
theorem IRow.keep {w w' : World} {v : Value} {xs : List Int} (h : IRow w v xs) (hk : ∀ k, v.ownBlock = some k → w'.heap[k]? = w.heap[k]?) : IRow w' v xs := own_keep h hk

/-- The cells of a shard: at o of block gs its order, behind it its data. -/
structure ShardCell (w : World) (gs o : Nat) (cs : Array Value) (ov : Value) (md : Nat) : Prop where
  blk : w.heap[gs]? = some (.cells cs 79 (0, 0))
  ord : cs[o]? = some ov
  dat : cs[o + 1]? = some (.map (some md))

theorem ShardCell.keep {w w' : World} {gs o : Nat} {cs : Array Value} {ov : Value} {md : Nat} (h : ShardCell w gs o cs ov md) (hk : w'.heap[gs]? = w.heap[gs]?) : ShardCell w' gs o cs ov md := ⟨hk.trans h.blk, h.ord, h.dat⟩

/-- What a shard is behind a call that turned it: its keys' row, its data. -/
def ShardIs (w : World) (gs o : Nat) (cs : Array Value) (ov : Value) (md : Nat) (ks : List Int) (f : Int → Option Bytes) (w' : World) (ov' : Value) : Prop :=
  IRow w' ov' ks ∧ ShardCell w' gs o (cs.setIfInBounds o ov') ov' md ∧ MapB w' md f ∧ Chg (fun k => k = gs ∨ k = md ∨ ov.ownBlock = some k) w w' ∧ (∀ k, ov'.ownBlock = some k → ov.ownBlock = some k ∨ w.heap.size ≤ k)
def ShardTo (w : World) (gs o : Nat) (cs : Array Value) (ov : Value) (md : Nat) (ks : List Int) (f : Int → Option Bytes) (w' : World) : Prop := ∃ ov', ShardIs w gs o cs ov md ks f w' ov'

theorem del_forget_nil (bx : Nat) (w : World) :
    Calls Try.prog 61 #[.slice none 0 0, fclo bx] w fun e w' => e = .returned (.slice none 0 0) ∧ w = w' := by
  have hix := idx_forget_nil 0 bx none w
  have Hix := Lib.hid hix; clear hix
  unfold fclo at *
  go_enter Try.func61, Try.ntmps61
  go_wp2_with fail
  refine Hix.out.mono ?_
  rintro e w1 ⟨rfl, rfl⟩
  go_wp2
  go_ret
  exact ⟨rfl, rfl⟩

/-- DeleteFunc at any row of ints. -/
def DelAny (w : World) (ov : Value) (ys : List Int) (e : Ending) (w' : World) : Prop :=
  ∃ A c, e = .returned (.slice A ys.length c) ∧ IRow w' (.slice A ys.length c) ys ∧ w.grownBy w' ov.ownBlock ∧ (∀ k, (Value.slice A ys.length c).ownBlock = some k → ov.ownBlock = some k)
theorem del_any (ov : Value) (bx : Nat) (n : Int) (xs : List Int) (w : World) (hr : IRow w ov xs) (hbg : ov.ownBlock ≠ some bx) (hb : w.cell? ⟨bx, 0, none⟩ = some (.int .i64 n)) (hl : xs.length ≤ 1000000000000) :
    Calls Try.prog 61 #[ov, fclo bx] w (DelAny w ov (dropped n xs)) := by
  rcases hr.at_ with ⟨rfl, rfl⟩ | ⟨g, c, rfl, hrow⟩
  · refine (del_forget_nil bx w).mono ?_
    rintro e w' ⟨rfl, rfl⟩
    exact ⟨none, 0, rfl, World.ownsRow_nil _ _ _ _, World.grownBy.refl _ _, fun k hk => hk⟩
  · refine (del_forget g c bx n xs w hrow (fun e => hbg (by rw [e]; rfl)) hb hl).mono ?_
    rintro e w' ⟨v, rfl, h1, h2, h3⟩
    obtain ⟨A, c', rfl⟩ := own_slice h1
    exact ⟨A, c', rfl, h1, h3, fun k hk => by rw [h2] at hk; cases hk; rfl⟩

set_option maxRecDepth 100000 in
set_option maxHeartbeats 1000000 in
theorem shard_forget (gs o : Nat) (cs : Array Value) (ov : Value) (md : Nat) (n : Int) (ks : List Int) (f : Int → Option Bytes) (w : World)
    (hs : ShardCell w gs o cs ov md) (hr : IRow w ov ks) (hm : MapB w md f) (hl : ks.length ≤ 1000000000000) :
    Calls Try.prog 39 #[.pointer (some ⟨gs, o, none⟩), .int .i64 n] w fun e w' => e = .returned (.tuple #[]) ∧ ShardTo w gs o cs ov md (dropped n ks) (bdel f n) w' := by
  obtain ⟨es, cl, hmd⟩ := hm.map
  have hgm : gs ≠ md := blk_mapne hs.blk hmd
  have hom : ov.ownBlock ≠ some md := fun e => by obtain ⟨cs', h⟩ := own_block hr e; rw [hmd] at h; cases h
  have hog : ov.ownBlock ≠ some gs := fun e => by obtain ⟨cs', h⟩ := own_block hr e; exact absurd rfl (blk_ty hs.blk h (by decide))
  have hob : ov.ownBlock ≠ some w.heap.size := fun e => by have := own_lt hr e; omega
  have c0 : w.cell? ⟨gs, o, none⟩ = some ov := by rw [blk_cell hs.blk]; exact hs.ord
  have c1 : w.cell? ⟨gs, o + 1, none⟩ = some (.map (some md)) := by rw [blk_cell hs.blk]; exact hs.dat
  obtain ⟨vf, hM0, hO⟩ := id hm
  have hm1 : (w.alloc (.cells #[.int .i64 n] 3)).drew.heap[md]? = some (.map es cl) := blk_alloc hmd _
  have hM1 : MapIs (w.alloc (.cells #[.int .i64 n] 3)).drew md vf := hM0.keep (Below.heap_alloc w _ md hM0.lt)
  obtain ⟨ob, hrun, hM2⟩ := MapIs.delete (P := Try.prog) hM1 (ats := #[25, 3]) (ty := 0) rfl Try.underlying25 Try.underlying3 n
  have hgl := blk_lt hs.blk
  have b1 : (w.alloc (.cells #[.int .i64 n] 3)).drew.heap[gs]? = _ := blk_alloc hs.blk _
  have b2 := (heap_setBlock_other hm1 ob hgm).trans b1
  have d0 : (setBlock (w.alloc (.cells #[.int .i64 n] 3)).drew md ob).cell? ⟨gs, o, none⟩ = some ov := by rw [blk_cell b2]; exact hs.ord
  have hx2 : (setBlock (w.alloc (.cells #[.int .i64 n] 3)).drew md ob).heap[w.heap.size]? = some (.cells #[.int .i64 n] 3 (0, 0)) :=
    (heap_setBlock_other hm1 ob (by have := hM0.lt; omega)).trans (blk_new w _)
  have hbx : (setBlock (w.alloc (.cells #[.int .i64 n] 3)).drew md ob).cell? ⟨w.heap.size, 0, none⟩ = some (.int .i64 n) := by rw [blk_cell hx2]; rfl
  have hr2 : IRow (setBlock (w.alloc (.cells #[.int .i64 n] 3)).drew md ob) ov ks := hr.keep fun k hk => (heap_setBlock_other hm1 ob (fun e => hom (by rw [hk, e]))).trans (Below.heap_alloc w _ k (own_lt hr hk))
  have hdel := del_any ov w.heap.size n ks _ hr2 hob hbx hl
  have hchg2 : Chg (fun k => k = gs ∨ k = md ∨ ov.ownBlock = some k) w (setBlock (w.alloc (.cells #[.int .i64 n] 3)).drew md ob) := ((((Chg.refl _ w).alloc _).drew).setBlock md ob (fun _ => .inr (.inl rfl)))
  have hkb2 : KB w (setBlock (w.alloc (.cells #[.int .i64 n] 3)).drew md ob) := fun k cs' hk => (heap_setBlock_other hm1 ob (fun e => by rw [e, hmd] at hk; cases hk)).trans (blk_alloc hk _)
  have HH := Lib.hid (And.intro hs (And.intro hr (And.intro hl hO))); clear hs hr hl hO hM0 hm hM1 b1
  have HN := Lib.hid (And.intro hgm (And.intro hom (And.intro hog (And.intro hob (And.intro hmd hM2))))); clear hgm hom hog hob hmd hM2 hm1 hx2
  have Hd := Lib.hid (And.intro hdel (And.intro hr2 (And.intro b2 (And.intro hchg2 hkb2)))); clear hdel hr2 b2 hchg2 hkb2
  unfold fclo at Hd
  go_enter Try.func39, Try.ntmps39
  go_wp2
  go_region
  go_wp2_with fail
  refine Hd.out.1.mono ?_
  rintro e w3 ⟨A, c, rfl, h1, h2, h3⟩
  have hg3 : some gs ≠ ov.ownBlock := fun e => HN.out.2.2.1 e.symm
  have b3 := blk_grown Hd.out.2.2.1 h2 hg3
  have e0 : w3.cell? ⟨gs, o, none⟩ = some ov := by rw [blk_cell b3]; exact HH.out.1.ord
  have e1 : w3.frozen? ⟨gs, o, none⟩ = false := blk_frozen b3 _
  have hfin : ShardTo w gs o cs ov md (dropped n ks) (bdel f n) (w3.setCell ⟨gs, o, none⟩ (.slice A (dropped n ks).length c)) := by
    obtain ⟨hs, hr, hl, hO⟩ := HH.out
    obtain ⟨hgm, hom, hog, hob, hmd, hM2⟩ := HN.out
    have hkb3 : KB w w3 := Hd.out.2.2.2.2.trans fun k cs' hk => blk_grown hk h2 (fun e => by
      obtain ⟨cs2, hc2⟩ := own_block Hd.out.2.1 e.symm
      exact absurd rfl (blk_ty hk hc2 (by decide)))
    have hkb4 : KB w (w3.setCell ⟨gs, o, none⟩ (.slice A (dropped n ks).length c)) := hkb3.trans fun k cs' hk => blk_far hk (fun e => by rw [e] at hk; exact absurd rfl (blk_ty hk b3 (by decide))) _
    refine ⟨.slice A (dropped n ks).length c, ?_, ⟨blk_set b3 o _, ?_, ?_⟩, ⟨del vf n, ?_, (hO.kb hkb4).del n⟩, ?_, fun k hk => .inl (h3 k hk)⟩
    · exact h1.keep fun k hk => Below.heap_setCell w3 _ _ k (fun e => hog (by have e' : k = gs := e; rw [← e']; exact h3 k hk))
    · have := (List.getElem?_eq_some_iff.1 (show cs.toList[o]? = some ov by simpa using hs.ord)).1
      simp at this
      simp [this]
    · rw [Array.getElem?_setIfInBounds_ne (by omega)]; exact hs.dat
    · refine (hM2.keep ?_).keep (Below.heap_setCell w3 _ _ md (fun e => hgm e.symm))
      exact h2.block md hM2.lt (fun e => hom e.symm)
    · exact (Hd.out.2.2.2.1.grown h2 (fun k hk _ => .inr (.inr hk))).setCell ⟨gs, o, none⟩ _ (fun _ => .inl rfl)
  have Hfin := Lib.hid hfin; clear hfin h1 h2 h3 b3 hg3
  go_wp2
  go_end0
  exact ⟨rfl, Hfin.out⟩
end Go.Proofs.Ytnhifnakgiddiaa
