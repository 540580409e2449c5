/- A disk: what the program's and the document's are both held against ('AD'), and how the program's lies in memory ('DiskRep'). -/
import Derived.Test.YtnhifnakgiddiaaB
namespace Go.Proofs.Ytnhifnakgiddiaa
open Go Go.RowKit Go.MapKept
open Go.ChangeMaps (setBlock heap_setBlock_same heap_setBlock_other)

def zeros : Bytes := List.replicate 256 0
theorem zeros_length : zeros.length = 256 := List.length_replicate
def newestOf : List (Int × Bytes) → Int → Option Bytes
  | [], _ => none
  | p :: r, k => match newestOf r k with
    | some x => some x
    | none => if p.1 = k then some p.2 else none
theorem newestOf_snoc (l : List (Int × Bytes)) (n : Int) (b : Bytes) (k : Int) : newestOf (l ++ [(n, b)]) k = if k = n then some b else newestOf l k := by
  induction l with
  | nil => simp [newestOf, eq_comm]
  | cons p r ih =>
    simp only [List.cons_append, newestOf, ih]
    by_cases h : k = n
    · simp [h]
    · simp [h]

structure AD where
  n : Int
  base : Int → Bytes
  pend : List (Int × Bytes)
  ops : Int
def AD.new (n : Int) : AD := { n, base := fun _ => zeros, pend := [], ops := 0 }
def AD.read (D : AD) (k : Int) : Bytes := (newestOf D.pend k).getD (D.base k)
def AD.has (D : AD) (k : Int) : Bool := decide (0 ≤ k) && decide (k < D.n)
def AD.write (D : AD) (k : Int) (b : Bytes) : AD := { D with pend := D.pend ++ [(k, b)], ops := wrap64 (D.ops + 1) }
def AD.settle (D : AD) (keep : Nat → Bool) : AD :=
  { D with base := fun k => (newestOf ((D.pend.zipIdx.filter fun p => keep p.2).map (·.1)) k).getD (D.base k), pend := [] }
structure AD.Wf (D : AD) : Prop where
  base : ∀ k, (D.base k).length = 256
  pend : ∀ p ∈ D.pend, p.2.length = 256
theorem AD.Wf.new (n : Int) : (AD.new n).Wf := ⟨fun _ => zeros_length, by simp [AD.new]⟩
theorem newestOf_mem {l : List (Int × Bytes)} {k : Int} {b : Bytes} (h : newestOf l k = some b) : (k, b) ∈ l := by
  induction l with
  | nil => simp [newestOf] at h
  | cons p r ih =>
    simp only [newestOf] at h
    cases hr : newestOf r k with
    | some x => rw [hr] at h; cases h; exact .tail _ (ih hr)
    | none =>
      rw [hr] at h
      by_cases e : p.1 = k
      · simp [e] at h; subst h; rw [← e]; exact .head _
      · simp [e] at h
theorem AD.Wf.read {D : AD} (h : D.Wf) (k : Int) : (D.read k).length = 256 := by
  unfold AD.read
  cases hn : newestOf D.pend k with
  | none => exact h.base k
  | some b => exact h.pend _ (newestOf_mem hn)
theorem AD.Wf.write {D : AD} (h : D.Wf) (k : Int) {b : Bytes} (hb : b.length = 256) : (D.write k b).Wf :=
  ⟨h.base, fun p hp => by
    simp only [AD.write, List.mem_append, List.mem_singleton] at hp
    rcases hp with hp | rfl
    · exact h.pend p hp
    · exact hb⟩
theorem AD.read_write (D : AD) (k : Int) (b : Bytes) (n : Int) : (D.write k b).read n = if n = k then b else D.read n := by
  simp only [AD.read, AD.write, newestOf_snoc]
  split <;> simp

/-! ### footprints -/
def NotB (w : World) (k : Nat) : Prop := ∀ cs fr, w.heap[k]? ≠ some (.cells cs 5 fr)
/-- The blocks of F lie there, and none holds bytes. -/
def Foot (F : Nat → Prop) (w : World) : Prop := ∀ k, F k → k < w.heap.size ∧ NotB w k
def Disj (F G : Nat → Prop) : Prop := ∀ k, F k → G k → False
theorem Disj.symm {F G : Nat → Prop} (h : Disj F G) : Disj G F := fun k a b => h k b a
theorem notB_map {w : World} {k : Nat} {es : Array MapEntry} {c : Nat} (h : w.heap[k]? = some (.map es c)) : NotB w k := fun cs fr h' => by rw [h] at h'; cases h'
theorem notB_ty {w : World} {k : Nat} {cs : Array Value} {t : TypeId} {fr : Nat × Nat} (h : w.heap[k]? = some (.cells cs t fr)) (ht : t ≠ 5) : NotB w k := fun cs' fr' h' => by rw [h] at h'; cases h'; exact ht rfl
theorem NotB.keep {w w' : World} {k : Nat} (h : NotB w k) (he : w'.heap[k]? = w.heap[k]?) : NotB w' k := fun cs fr h' => h cs fr (by rw [← he]; exact h')
theorem Foot.chg {F G : Nat → Prop} {w w' : World} (h : Foot F w) (hc : Chg G w w') (hd : Disj F G) : Foot F w' := fun k hk =>
  ⟨Nat.lt_of_lt_of_le (h k hk).1 hc.size, (h k hk).2.keep (hc.block k (h k hk).1 (fun hg => hd k hk hg))⟩

theorem own_block {w : World} {base n size : Nat} {e : TypeId} {v : Value} {xs : List Value} (h : w.ownsRow base e size v n xs) {k : Nat} (hk : v.ownBlock = some k) : ∃ cs, w.heap[k]? = some (.cells cs e (0, 0)) := by
  rcases h.2 with ⟨rfl, _⟩ | ⟨g, cap, cur, rfl, _, hg, _⟩
  · simp [Value.ownBlock] at hk
  · simp [Value.ownBlock] at hk; subst hk; exact ⟨cur, hg⟩
theorem own_keep {w w' : World} {base n size : Nat} {e : TypeId} {v : Value} {xs : List Value} (h : w.ownsRow base e size v n xs) (hk : ∀ k, v.ownBlock = some k → w'.heap[k]? = w.heap[k]?) : w'.ownsRow base e size v n xs := by
  refine ⟨h.1, ?_⟩
  rcases h.2 with hn | ⟨g, cap, cur, rfl, hb, hg, rest⟩
  · exact .inl hn
  · exact .inr ⟨g, cap, cur, rfl, hb, (hk g rfl).trans hg, rest⟩
theorem own_lt {w : World} {base n size : Nat} {e : TypeId} {v : Value} {xs : List Value} (h : w.ownsRow base e size v n xs) {k : Nat} (hk : v.ownBlock = some k) : k < w.heap.size := (h.lt k hk).2
theorem own_chg {F : Nat → Prop} {w w' : World} {base n size : Nat} {e : TypeId} {v : Value} {xs : List Value} (h : w.ownsRow base e size v n xs) (hc : Chg F w w') (hf : ∀ k, v.ownBlock = some k → ¬ F k) : w'.ownsRow base e size v n xs :=
  own_keep h fun k hk => hc.block k (own_lt h hk) (hf k hk)

theorem Blk.chg {F : Nat → Prop} {w w' : World} {v : Value} {l : Bytes} (h : Blk w v l) (hc : Chg F w w') (hF : Foot F w) : Blk w' v l :=
  own_chg h hc fun k hk hf => by obtain ⟨cs, hcs⟩ := own_block h hk; exact (hF k hf).2 _ _ hcs
theorem Blk.keep {w w' : World} {v : Value} {l : Bytes} (h : Blk w v l) (hk : ∀ (k : Nat) (cs : Array Value), w.heap[k]? = some (Obj.cells cs 5 (0, 0)) → w'.heap[k]? = w.heap[k]?) : Blk w' v l :=
  own_keep h fun k hb => by obtain ⟨cs, hcs⟩ := own_block h hb; exact hk k cs hcs
theorem Blk.below {w w' : World} {v : Value} {l : Bytes} (h : Blk w v l) (hc : Below w.heap.size w w') : Blk w' v l := own_keep h fun k hk => hc.block k (own_lt h hk)
/-- What stands in a byte row that is not empty: its value, and its cells. -/
theorem Blk.open_ {w : World} {v : Value} {l : Bytes} (h : Blk w v l) (hn : 0 < l.length) : ∃ g c, v = .slice (some ⟨g, 0, none⟩) l.length c ∧ l.length ≤ c ∧ AtB w ⟨g, 0, none⟩ l ∧ ∃ cs, w.heap[g]? = some (.cells cs 5 (0, 0)) := by
  rcases h.2 with ⟨_, hz⟩ | ⟨g, cap, cur, rfl, _, hg, hle, _⟩
  · omega
  · exact ⟨g, cap, rfl, hle, h.cells (g := g) rfl, cur, hg⟩

/-- A row of writes. -/
def WritesRep (w : World) (v : Value) (l : List (Int × Bytes)) : Prop :=
  ∃ xs, w.ownsRow 0 56 2 v l.length xs ∧ ∀ (j : Nat) p, l[j]? = some p → xs[2 * j]? = some (.int .i64 p.1) ∧ ∃ u, xs[2 * j + 1]? = some u ∧ Blk w u p.2

theorem WritesRep.keep {w w' : World} {v : Value} {l : List (Int × Bytes)} (h : WritesRep w v l) (hk : ∀ k, v.ownBlock = some k → w'.heap[k]? = w.heap[k]?) (hb : ∀ u b, Blk w u b → Blk w' u b) : WritesRep w' v l := by
  obtain ⟨xs, ho, hx⟩ := h
  exact ⟨xs, own_keep ho hk, fun j p hp => ⟨(hx j p hp).1, by obtain ⟨u, hu, hbu⟩ := (hx j p hp).2; exact ⟨u, hu, hb _ _ hbu⟩⟩⟩

structure DiskAt (w : World) (p : Nat) (D : AD) (md mn : Nat) (pv : Value) (dn nw : Int → Option Value) : Prop where
  blk : w.heap[p]? = some (.cells #[.int .i64 D.n, .map (some md), pv, .map (some mn), .int .i64 D.ops] 91 (0, 0))
  done : MapIs w md dn
  newest : MapIs w mn nw
  ne : md ≠ mn
  dval : ∀ k, (dn k = none ∧ D.base k = zeros) ∨ ∃ v, dn k = some v ∧ Blk w v (D.base k)
  nval : ∀ k, (nw k = none ∧ newestOf D.pend k = none) ∨ ∃ v l, nw k = some v ∧ newestOf D.pend k = some l ∧ Blk w v l
  pend : WritesRep w pv D.pend

/-- The program's disk at block p of w is D; all its blocks but those of bytes are F's. -/
def DiskRep (w : World) (p : Nat) (D : AD) (F : Nat → Prop) : Prop :=
  (∃ md mn pv dn nw, DiskAt w p D md mn pv dn nw ∧ F p ∧ F md ∧ F mn ∧ ∀ k, pv.ownBlock = some k → F k) ∧ Foot F w

theorem DiskRep.chg {F G : Nat → Prop} {w w' : World} {p : Nat} {D : AD} (h : DiskRep w p D F) (hc : Chg G w w') (hG : Foot G w) (hd : Disj F G) : DiskRep w' p D F := by
  obtain ⟨⟨md, mn, pv, dn, nw, hA, h1, h2, h3, h4⟩, hF⟩ := h
  have nf : ∀ k, F k → ¬ G k := fun k a b => hd k a b
  refine ⟨⟨md, mn, pv, dn, nw, ⟨hc.blk hA.blk (nf _ h1), hA.done.chg hc (nf _ h2), hA.newest.chg hc (nf _ h3), hA.ne, ?_, ?_, hA.pend.keep (fun k hk => ?_) (fun u b hb => hb.chg hc hG)⟩, h1, h2, h3, h4⟩, hF.chg hc hd⟩
  · intro k
    rcases hA.dval k with h | ⟨v, h, hb⟩
    · exact .inl h
    · exact .inr ⟨v, h, hb.chg hc hG⟩
  · intro k
    rcases hA.nval k with h | ⟨v, l, h, h', hb⟩
    · exact .inl h
    · exact .inr ⟨v, l, h, h', hb.chg hc hG⟩
  · obtain ⟨xs, ho, _⟩ := hA.pend
    exact hc.block k (own_lt ho hk) (nf _ (h4 k hk))

theorem writesRep_nil (w : World) : WritesRep w (.slice none 0 0) [] := ⟨[], World.ownsRow_nil _ _ _ _, by simp⟩

set_option maxHeartbeats 400000 in
theorem disk_New_bad (n : Int) (w : World) (h : n < 128 ∨ 4096 < n) :
    Calls Try.prog 21 #[.int .i64 n] w fun e w' => e = .returned (.tuple #[.pointer none, .int .i64 22]) ∧ w = w' := by
  by_cases h1 : n < 128
  · go_enter Try.func21, Try.ntmps21
    go_wp2
    go_ret2
    exact ⟨rfl, rfl⟩
  · have h2 : 4096 < n := by omega
    go_enter Try.func21, Try.ntmps21
    go_wp2
    go_ret2
    exact ⟨rfl, rfl⟩

theorem diskAt_new (n : Int) (w : World) : DiskRep (((w.alloc (.map #[] 0)).alloc (.map #[] 0)).alloc (.cells #[.int .i64 n, .map (some w.heap.size), .slice none 0 0, .map (some (w.heap.size + 1)), .int .i64 0] 91))
    (w.heap.size + 2) (AD.new n) (fun k => w.heap.size ≤ k ∧ k < w.heap.size + 3) := by
  have hm1 := blk_new w (.map #[] 0)
  have hm2 := blk_new (w.alloc (.map #[] 0)) (.map #[] 0)
  rw [World.size_alloc] at hm2
  have hm3 := blk_new ((w.alloc (.map #[] 0)).alloc (.map #[] 0)) (.cells #[.int .i64 n, .map (some w.heap.size), .slice none 0 0, .map (some (w.heap.size + 1)), .int .i64 0] 91)
  rw [World.size_alloc, World.size_alloc] at hm3
  have q1 := blk_alloc (blk_alloc hm1 (.map #[] 0)) (.cells #[.int .i64 n, .map (some w.heap.size), .slice none 0 0, .map (some (w.heap.size + 1)), .int .i64 0] 91)
  have q2 := blk_alloc hm2 (.cells #[.int .i64 n, .map (some w.heap.size), .slice none 0 0, .map (some (w.heap.size + 1)), .int .i64 0] 91)
  have ok : MapOk #[] 0 mempty := ⟨stamped_empty 0, by simp, fun k v h => by simp [mempty] at h⟩
  refine ⟨⟨w.heap.size, w.heap.size + 1, .slice none 0 0, mempty, mempty, ⟨hm3, ⟨_, _, q1, ok⟩, ⟨_, _, q2, ok⟩, by omega, fun k => .inl ⟨rfl, rfl⟩, fun k => .inl ⟨rfl, rfl⟩, writesRep_nil _⟩, by omega, by omega, by omega, fun k hk => by simp [Value.ownBlock] at hk⟩, ?_⟩
  intro k hk
  refine ⟨by simp; omega, ?_⟩
  rcases (show k = w.heap.size ∨ k = w.heap.size + 1 ∨ k = w.heap.size + 2 by omega) with rfl | rfl | rfl
  · exact notB_map q1
  · exact notB_map q2
  · exact notB_ty hm3 (by decide)

set_option maxHeartbeats 400000 in
theorem disk_New (n : Int) (w : World) (h0 : 128 ≤ n) (h1 : n ≤ 4096) :
    Calls Try.prog 21 #[.int .i64 n] w fun e w' => ∃ p, ∃ F : Nat → Prop, e = .returned (.tuple #[.pointer (some ⟨p, 0, none⟩), .int .i64 0]) ∧ DiskRep w' p (AD.new n) F ∧ Below w.heap.size w w' ∧ ∀ k, F k → w.heap.size ≤ k := by
  have hmm := @run_makeMap Try.prog
  have hd := Lib.hid (diskAt_new n w)
  go_enter Try.func21, Try.ntmps21
  go_wp2
  go_ret2
  exact ⟨_, _, rfl, hd.out, (((Below.refl _ w).alloc (Nat.le_refl _) _).alloc (by simp) _).alloc (by simp; omega) _, fun k hk => hk.1⟩
end Go.Proofs.Ytnhifnakgiddiaa
