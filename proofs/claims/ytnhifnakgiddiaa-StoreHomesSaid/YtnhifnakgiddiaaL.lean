/- The store's small calls: Blocks, has, of, Mark, Held, Counts. -/
import Derived.Test.YtnhifnakgiddiaaK
namespace Go.Proofs.Ytnhifnakgiddiaa
open Go Go.RowKit Go.MapKept
open Go.ChangeMaps (setBlock heap_setBlock_same heap_setBlock_other)

theorem StAt.cell {w : World} {s p : Nat} {S : SM} {g : SG} (h : StAt w s p S g) (i : Nat) : w.cell? ⟨s, i, none⟩ = (#[ptr p, .int .i64 S.room, .map (some g.mc), .map (some g.mw), .map (some g.mh), g.uv, g.sv, .int .i64 S.found, .int .i64 S.asked] : Array Value)[i]? := blk_cell h.head i

set_option maxHeartbeats 400000 in
theorem store_Blocks (s p : Nat) (S : SM) (F : Nat → Prop) (D : AD) (G : Nat → Prop) (w : World) (hS : StRep w s p S F) (hD : DiskRep w p D G) :
    Calls Try.prog 20 #[ptr s] w fun e w' => e = .returned (.int .i64 D.n) ∧ w = w' := by
  obtain ⟨g, hA, _⟩ := hS
  have c0 : w.cell? ⟨s, 0, none⟩ = some (.pointer (some ⟨p, 0, none⟩)) := by rw [hA.cell]; rfl
  clear hA
  unfold ptr
  go_enter Try.func20, Try.ntmps20
  go_wp2_with (go_at_call 46; refine (disk_Blocks p D G _ hD).mono ?_; rintro e w' ⟨rfl, rfl⟩)
  go_ret
  exact ⟨rfl, rfl⟩

set_option maxHeartbeats 400000 in
theorem store_has (s p : Nat) (n : Int) (S : SM) (F : Nat → Prop) (D : AD) (G : Nat → Prop) (w : World) (hS : StRep w s p S F) (hD : DiskRep w p D G) :
    Calls Try.prog 34 #[ptr s, .int .i64 n] w fun e w' => e = .returned (.bool (D.has n)) ∧ w = w' := by
  have hB := Lib.hid (store_Blocks s p S F D G w hS hD)
  unfold ptr at *
  by_cases h0 : 0 ≤ n
  · have hv : D.has n = decide (n < D.n) := by simp [AD.has, h0]
    have Hv := Lib.hid hv; clear hv
    go_enter Try.func34, Try.ntmps34
    go_wp2_with (go_at_call 20; refine hB.out.mono ?_; rintro e w' ⟨rfl, rfl⟩)
    go_ret
    exact ⟨by rw [Hv.out]; rfl, rfl⟩
  · have hv : D.has n = false := by simp [AD.has, h0]
    have Hv := Lib.hid hv; clear hv
    go_enter Try.func34, Try.ntmps34
    go_wp2_with (go_at_call 20; refine hB.out.mono ?_; rintro e w' ⟨rfl, rfl⟩)
    go_ret
    exact ⟨by rw [Hv.out]; rfl, rfl⟩

set_option maxHeartbeats 400000 in
theorem store_of (s gs cap k len : Nat) (w : World) (h : w.cell? ⟨s, 6, none⟩ = some (.slice (some ⟨gs, 0, none⟩) len cap)) (h0 : 0 < len) (h1 : len ≤ 16) (hk : k ≤ 4096) :
    Calls Try.prog 36 #[ptr s, .int .i64 (k : Int)] w fun e w' => e = .returned (.pointer (some ⟨gs, k % len * 2, none⟩)) ∧ w.drew = w' := by
  unfold ptr
  have hlt : k % len < len := Nat.mod_lt _ h0
  have hb : 0 ≤ (k : Int) % (len : Int) ∧ (k : Int) % (len : Int) < (len : Int) := ⟨Int.emod_nonneg _ (by omega), Int.emod_lt_of_pos _ (by omega)⟩
  have hz : ¬ ((len : Int) = 0) := by omega
  go_enter Try.func36, Try.ntmps36
  go_wp2
  go_region
  go_wp2
  go_ret
  exact ⟨rfl, rfl⟩

def dropKey (n : Int) (l : List (Int × Bytes)) : List (Int × Bytes) := l.filter fun p => !(p.1 == n)
def putKey (n : Int) (b : Bytes) (l : List (Int × Bytes)) : List (Int × Bytes) := dropKey n l ++ [(n, b)]
def cutTo (room : Int) (l : List (Int × Bytes)) : List (Int × Bytes) :=
  match l with
  | [] => []
  | (h, b) :: r => if room < (((h, b) :: r).length : Int) then dropKey h ((h, b) :: r) else (h, b) :: r
/-- A shard behind the use of a block. -/
def useSh (room : Int) (n : Int) (b : Bytes) (l : List (Int × Bytes)) : List (Int × Bytes) := cutTo room (putKey n b l)

theorem dropKey_keys (n : Int) (l : List (Int × Bytes)) : (dropKey n l).map (·.1) = dropped n (l.map (·.1)) := by
  simp only [dropKey, dropped, List.filter_map]; rfl
theorem dropKey_lookup (n k : Int) (l : List (Int × Bytes)) : (dropKey n l).lookup k = if k = n then none else l.lookup k := by
  induction l with
  | nil => simp [dropKey]
  | cons p r ih =>
    obtain ⟨a, b⟩ := p
    by_cases h : a = n
    · have : dropKey n ((a, b) :: r) = dropKey n r := by simp [dropKey, h]
      rw [this, ih]
      by_cases e : k = n
      · simp [e]
      · rw [if_neg e, if_neg e, List.lookup_cons]
        have : (k == a) = false := by rw [beq_eq_false_iff_ne]; intro e2; exact e (e2.trans h)
        rw [this]
    · have : dropKey n ((a, b) :: r) = (a, b) :: dropKey n r := by simp [dropKey, h]
      rw [this, List.lookup_cons, List.lookup_cons, ih]
      by_cases e : k = a
      · have e2 : ¬ k = n := fun e3 => h (e.symm.trans e3)
        simp [e, h]
      · have : (k == a) = false := by rw [beq_eq_false_iff_ne]; exact e
        rw [this]
theorem dropKey_bdel (n : Int) (l : List (Int × Bytes)) : (fun k => (dropKey n l).lookup k) = bdel (fun k => l.lookup k) n := by
  funext k; simp only [dropKey_lookup, bdel]
theorem putKey_keys (n : Int) (b : Bytes) (l : List (Int × Bytes)) : (putKey n b l).map (·.1) = dropped n (l.map (·.1)) ++ [n] := by
  simp [putKey, dropKey_keys]
theorem lookup_append_one (l : List (Int × Bytes)) (n k : Int) (b : Bytes) : (l ++ [(n, b)]).lookup k = match l.lookup k with | some x => some x | none => if k = n then some b else none := by
  induction l with
  | nil =>
    simp only [List.nil_append, List.lookup_cons, List.lookup_nil]
    by_cases e : k = n
    · simp [e]
    · have : (k == n) = false := by rw [beq_eq_false_iff_ne]; exact e
      rw [this]; simp [e]
  | cons p r ih =>
    obtain ⟨a, c⟩ := p
    simp only [List.cons_append, List.lookup_cons]
    cases h : (k == a) <;> simp [ih]
theorem putKey_bupd (n : Int) (b : Bytes) (l : List (Int × Bytes)) : (fun k => (putKey n b l).lookup k) = bupd (bdel (fun k => l.lookup k) n) n b := by
  funext k
  simp only [putKey, lookup_append_one, dropKey_lookup, bupd, bdel]
  by_cases e : k = n
  · simp [e]
  · simp only [if_neg e]; cases l.lookup k <;> rfl
theorem dropKey_len (n : Int) (l : List (Int × Bytes)) : (dropKey n l).length ≤ l.length := List.length_filter_le _ _
theorem dropKey_sub (n : Int) (l : List (Int × Bytes)) {p : Int × Bytes} (h : p ∈ dropKey n l) : p ∈ l := (List.mem_filter.1 h).1

theorem ShardIs.then_ {w w1 w2 : World} {gs o : Nat} {cs : Array Value} {ov ov1 ov2 : Value} {md : Nat} {ks1 ks2 : List Int} {f1 f2 : Int → Option Bytes} (h : ShardIs w gs o cs ov md ks1 f1 w1 ov1)
    (k : ShardIs w1 gs o (cs.setIfInBounds o ov1) ov1 md ks2 f2 w2 ov2) : ShardIs w gs o cs ov md ks2 f2 w2 ov2 := by
  obtain ⟨a, b, c, d, e⟩ := h
  obtain ⟨a2, b2, c2, d2, e2⟩ := k
  refine ⟨a2, by simpa using b2, c2, d.trans d2 ?_, fun k hk => (e2 k hk).elim (fun h => e k h) (fun h => .inr (Nat.le_trans d.size h))⟩
  rintro x hx (h | h | h)
  · exact .inl h
  · exact .inr (.inl h)
  · exact .inr (.inr ((e x h).resolve_right (by omega)))
theorem ShardIs.far {w w' : World} {gs o : Nat} {cs : Array Value} {ov ov' : Value} {md : Nat} {ks ks0 : List Int} {f f0 : Int → Option Bytes} (h : ShardIs w gs o cs ov md ks f w' ov') (hs : ShardCell w gs o cs ov md) (hr : IRow w ov ks0) (hm : MapB w md f0)
    {x : Nat} {t : TypeId} (hx : IsTy w x t) (h1 : t ≠ 79) (h2 : t ≠ 3) : w'.heap[x]? = w.heap[x]? := by
  refine h.2.2.2.1.block x hx.lt ?_
  rintro (e | e | e)
  · exact ty_ne hx ⟨_, _, hs.blk⟩ h1 e
  · exact ty_ne_map hx hm.map e
  · obtain ⟨c, hc⟩ := own_block hr e; exact absurd rfl (ty_ne hx ⟨_, _, hc⟩ h2)
theorem ShardIs.kb {w w' : World} {gs o : Nat} {cs : Array Value} {ov ov' : Value} {md : Nat} {ks ks0 : List Int} {f f0 : Int → Option Bytes} (h : ShardIs w gs o cs ov md ks f w' ov') (hs : ShardCell w gs o cs ov md) (hr : IRow w ov ks0) (hm : MapB w md f0) : KB w w' :=
  fun x _ hx => (h.far hs hr hm ⟨_, _, hx⟩ (by decide) (by decide)).trans hx
theorem ShardIs.drew {w w' : World} {gs o : Nat} {cs : Array Value} {ov ov' : Value} {md : Nat} {ks : List Int} {f : Int → Option Bytes} (h : ShardIs w gs o cs ov md ks f w' ov') : ShardIs w gs o cs ov md ks f w'.drew ov' :=
  ⟨h.1, ⟨h.2.1.blk, h.2.1.ord, h.2.1.dat⟩, h.2.2.1, h.2.2.2.1.drew, h.2.2.2.2⟩
/-- Steps of a shard, one behind the other. -/
theorem ShardTo.then_ {w w1 w2 : World} {gs o : Nat} {cs : Array Value} {ov : Value} {md : Nat} {ks1 ks2 : List Int} {f1 f2 : Int → Option Bytes} (h : ShardTo w gs o cs ov md ks1 f1 w1)
    (k : ∀ ov1, IRow w1 ov1 ks1 → ShardCell w1 gs o (cs.setIfInBounds o ov1) ov1 md → MapB w1 md f1 → ShardTo w1 gs o (cs.setIfInBounds o ov1) ov1 md ks2 f2 w2) : ShardTo w gs o cs ov md ks2 f2 w2 := by
  obtain ⟨ov1, h1⟩ := h
  obtain ⟨ov2, h2⟩ := k ov1 h1.1 h1.2.1 h1.2.2.1
  exact ⟨ov2, h1.then_ h2⟩

theorem shardTo_drew {w : World} {gs o : Nat} {cs : Array Value} {ov : Value} {md : Nat} {ks : List Int} {f : Int → Option Bytes} {w' : World} (h : ShardTo w.drew gs o cs ov md ks f w') : ShardTo w gs o cs ov md ks f w' := by
  obtain ⟨ov1, a, b, c, d, e⟩ := h
  exact ⟨ov1, a, b, c, ⟨d.os, d.tape, d.output, d.size, d.block⟩, e⟩

theorem shardTo_append {w w2 : World} {gs o : Nat} {cs : Array Value} {ov ov2 : Value} {md : Nat} {ks : List Int} {f : Int → Option Bytes} {n : Int}
    (hs : ShardCell w gs o cs ov md) (hr : IRow w ov ks) (hm : MapB w md f) (ho : w2.ownsRow 0 3 1 ov2 (ks.length + 1) (iv ks ++ [.int .i64 n])) (hg : (w.alloc (.cells #[.int .i64 n] 3)).grownBy w2 ov.ownBlock)
    (hat : ov2.ownBlock = ov.ownBlock ∨ ov2.ownBlock = some (w.heap.size + 1)) : ShardIs w gs o cs ov md (ks ++ [n]) f (w2.setCell ⟨gs, o, none⟩ ov2) ov2 := by
  have tg : IsTy w gs 79 := ⟨_, _, hs.blk⟩
  have to_ : ∀ k, ov.ownBlock = some k → IsTy w k 3 := fun k hk => by obtain ⟨c, h⟩ := own_block hr hk; exact ⟨_, _, h⟩
  have g2 : ∀ b, b < w.heap.size → some b ≠ ov.ownBlock → w2.heap[b]? = w.heap[b]? := fun b hb hn => (hg.block b (by simp; omega) hn).trans (Below.heap_alloc w _ b hb)
  have b2 := (g2 gs tg.lt (fun e => absurd rfl (ty_ne tg (to_ _ e.symm) (by decide)))).trans hs.blk
  have hc : Chg (fun k => k = gs ∨ k = md ∨ ov.ownBlock = some k) w (w2.setCell ⟨gs, o, none⟩ ov2) := (((Chg.refl _ w).alloc _).grown hg (fun k hk _ => .inr (.inr hk))).setCell ⟨gs, o, none⟩ _ (fun _ => .inl rfl)
  have hk : KB w (w2.setCell ⟨gs, o, none⟩ ov2) := fun k cs' hb => by
    refine (hc.block k (blk_lt hb) ?_).trans hb
    rintro (h | h | h)
    · subst h; exact absurd rfl (ty_ne ⟨_, _, hb⟩ tg (by decide))
    · subst h; obtain ⟨es, c, h⟩ := hm.map; rw [hb] at h; cases h
    · exact absurd rfl (ty_ne ⟨_, _, hb⟩ (to_ _ h) (by decide))
  refine ⟨?_, ⟨blk_set b2 o _, ?_, ?_⟩, ?_, hc, ?_⟩
  · have h1 : IRow w2 ov2 (ks ++ [n]) := by
      have : iv (ks ++ [n]) = iv ks ++ [.int .i64 n] := by simp [iv]
      unfold IRow; rw [this]; simpa using ho
    refine h1.keep fun k hk => Below.heap_setCell w2 _ _ k (fun e => ?_)
    obtain ⟨c, h⟩ := own_block h1 hk
    have e' : k = gs := e
    rw [e'] at h
    exact absurd rfl (ty_ne ⟨_, _, b2⟩ ⟨_, _, h⟩ (by decide))
  · have := (Array.getElem?_eq_some_iff.1 hs.ord).1
    simp [this]
  · rw [Array.getElem?_setIfInBounds_ne (by omega)]; exact hs.dat
  · obtain ⟨es, c, hmd⟩ := id hm.map
    exact hm.keep hk ((Below.heap_setCell w2 _ _ md (fun e => by have e' : md = gs := e; rw [e', hs.blk] at hmd; cases hmd)).trans (g2 md (blk_lt hmd) (fun e => absurd rfl (map_ne_ty ⟨es, c, hmd⟩ (to_ _ e.symm)))))
  · intro k hk
    rcases hat with h | h
    · exact .inl (by rw [← h, hk])
    · right; rw [h] at hk; cases hk; omega

theorem shardTo_update {w : World} {gs o : Nat} {cs : Array Value} {ov : Value} {md : Nat} {ks : List Int} {f : Int → Option Bytes} {vf : Int → Option Value} {n : Int} {v : Value} {b : Bytes} {ob : Obj}
    (hs : ShardCell w gs o cs ov md) (hr : IRow w ov ks) (hm : MapIs w md vf) (hO : OMap w vf f) (hv : Blk w v b) (hM : MapIs (setBlock w md ob) md (upd vf n v)) : ShardIs w gs o cs ov md ks (bupd f n b) (setBlock w md ob) ov := by
  obtain ⟨es, c, hmd, _⟩ := hm
  have tg : IsTy w gs 79 := ⟨_, _, hs.blk⟩
  have hc : Chg (fun k => k = gs ∨ k = md ∨ ov.ownBlock = some k) w (setBlock w md ob) := (Chg.refl _ w).setBlock md ob (fun _ => .inr (.inl rfl))
  have hk : KB w (setBlock w md ob) := fun k cs' hb => (heap_setBlock_other hmd ob (fun e => by rw [e, hmd] at hb; cases hb)).trans hb
  refine ⟨hr.keep fun k hk => heap_setBlock_other hmd ob (fun e => by obtain ⟨c', h⟩ := own_block hr hk; rw [e, hmd] at h; cases h), ⟨?_, ?_, ?_⟩, ⟨upd vf n v, hM, (hO.upd n hv).kb hk⟩, hc, fun k hk => .inl hk⟩
  · rw [heap_setBlock_other hmd ob (ty_ne_map tg ⟨es, c, hmd⟩), hs.blk]
    congr 2
    apply Array.ext_getElem?
    intro i
    by_cases e : i = o
    · subst e
      have := (Array.getElem?_eq_some_iff.1 hs.ord).1
      rw [hs.ord]; simp [this]
    · rw [Array.getElem?_setIfInBounds_ne (by omega)]
  · have := (Array.getElem?_eq_some_iff.1 hs.ord).1
    simp [this]
  · rw [Array.getElem?_setIfInBounds_ne (by omega)]; exact hs.dat
end Go.Proofs.Ytnhifnakgiddiaa
