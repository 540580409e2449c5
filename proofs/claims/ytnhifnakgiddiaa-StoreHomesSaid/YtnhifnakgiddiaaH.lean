/- What one call may turn in memory ('Chg'), and maps with int keys ('MapIs'): words of this claim's own, over any program. -/
import Derived.WalkKit
import Derived.WalkSpells
import Derived.WalkLawsBesides
import Derived.Maps.OwnOps
namespace Go.Proofs.Ytnhifnakgiddiaa
open Go Go.RowKit Go.MapKept
open Go.ChangeMaps (setBlock heap_setBlock_same heap_setBlock_other)

/-- Of what lay there when it began, the blocks of F alone may have turned. -/
structure Chg (F : Nat → Prop) (w w' : World) : Prop where
  os : w'.os = w.os
  tape : w'.tape = w.tape
  output : w'.output = w.output
  size : w.heap.size ≤ w'.heap.size
  block : ∀ k, k < w.heap.size → ¬ F k → w'.heap[k]? = w.heap[k]?

section
variable {F G : Nat → Prop} {w w' w'' : World}
theorem Chg.refl (F : Nat → Prop) (w : World) : Chg F w w := ⟨rfl, rfl, rfl, Nat.le_refl _, fun _ _ _ => rfl⟩
theorem Chg.mono (h : Chg F w w') (hFG : ∀ k, k < w.heap.size → F k → G k) : Chg G w w' :=
  ⟨h.os, h.tape, h.output, h.size, fun k hk hg => h.block k hk (fun hf => hg (hFG k hk hf))⟩
/-- Two steps: the second may turn what the first may, and what was not there when it began. -/
theorem Chg.trans (h : Chg F w w') (k : Chg G w' w'') (hG : ∀ b, b < w.heap.size → G b → F b) : Chg F w w'' :=
  ⟨k.os.trans h.os, k.tape.trans h.tape, k.output.trans h.output, Nat.le_trans h.size k.size, fun b hb hf => (k.block b (Nat.lt_of_lt_of_le hb h.size) (fun hg => hf (hG b hb hg))).trans (h.block b hb hf)⟩
theorem Chg.of_below (h : Below w.heap.size w w') : Chg F w w' := ⟨h.os, h.tape, h.output, h.size, fun k hk _ => h.block k hk⟩
theorem Chg.below (h : Chg F w w') {B : Nat} (hB : B ≤ w.heap.size) (hF : ∀ k, k < B → ¬ F k) : Below B w w' :=
  ⟨h.os, h.tape, h.output, h.size, fun k hk => h.block k (Nat.lt_of_lt_of_le hk hB) (hF k hk)⟩
theorem Chg.alloc (h : Chg F w w') (o : Obj) : Chg F w (w'.alloc o) :=
  ⟨h.os, h.tape, h.output, by rw [World.size_alloc]; exact Nat.le_succ_of_le h.size, fun k hk hf => (Below.heap_alloc w' o k (Nat.lt_of_lt_of_le hk h.size)).trans (h.block k hk hf)⟩
theorem Chg.drew (h : Chg F w w') : Chg F w w'.drew := ⟨h.os, h.tape, h.output, h.size, h.block⟩
theorem Chg.drewN (h : Chg F w w') (n : Nat) : Chg F w (w'.drewN n) := ⟨h.os, h.tape, h.output, h.size, h.block⟩
theorem Chg.setCell (h : Chg F w w') (p : Addr) (v : Value) (hp : p.block < w.heap.size → F p.block) : Chg F w (w'.setCell p v) :=
  ⟨h.os, h.tape, h.output, by rw [World.size_setCell]; exact h.size, fun k hk hf => (Below.heap_setCell w' p v k (fun e => hf (by rw [e]; exact hp (by rw [← e]; exact hk)))).trans (h.block k hk hf)⟩
theorem Chg.grown (h : Chg F w w') {row : Option Nat} (hg : w'.grownBy w'' row) (hr : ∀ k, row = some k → k < w.heap.size → F k) : Chg F w w'' :=
  ⟨hg.os.trans h.os, hg.tape.trans h.tape, hg.output.trans h.output, Nat.le_trans h.size hg.size, fun k hk hf => (hg.block k (Nat.lt_of_lt_of_le hk h.size) (fun e => hf (hr k e.symm hk))).trans (h.block k hk hf)⟩
theorem Chg.cell (h : Chg F w w') {a : Addr} (ha : a.block < w.heap.size) (hf : ¬ F a.block) : w'.cell? a = w.cell? a := World.cell?_of_block (h.block _ ha hf)
theorem Chg.cellv (h : Chg F w w') {a : Addr} {v : Value} (hc : w.cell? a = some v) (hf : ¬ F a.block) : w'.cell? a = some v := (h.cell (World.block_lt_of_cell? w a hc) hf).trans hc
theorem Chg.frozen (h : Chg F w w') {a : Addr} (ha : a.block < w.heap.size) (hf : ¬ F a.block) : w'.frozen? a = w.frozen? a := World.frozen?_of_block (h.block _ ha hf)
theorem Chg.blk (h : Chg F w w') {b : Nat} {o : Obj} (hc : w.heap[b]? = some o) (hf : ¬ F b) : w'.heap[b]? = some o := (h.block b (Array.getElem?_eq_some_iff.1 hc).1 hf).trans hc
end

theorem blk_lt {w : World} {g : Nat} {o : Obj} (h : w.heap[g]? = some o) : g < w.heap.size := (Array.getElem?_eq_some_iff.1 h).1
theorem blk_cell {w : World} {g : Nat} {t : TypeId} {cs : Array Value} {fr : Nat × Nat} (h : w.heap[g]? = some (.cells cs t fr)) (i : Nat) : w.cell? ⟨g, i, none⟩ = cs[i]? := by simp [World.cell?, h]
theorem blk_frozen {w : World} {g : Nat} {t : TypeId} {cs : Array Value} (h : w.heap[g]? = some (.cells cs t (0, 0))) (i : Nat) : w.frozen? ⟨g, i, none⟩ = false := by simp [World.frozen?, h]
theorem blk_set {w : World} {g : Nat} {t : TypeId} {cs : Array Value} {fr : Nat × Nat} (h : w.heap[g]? = some (.cells cs t fr)) (i : Nat) (u : Value) : (w.setCell ⟨g, i, none⟩ u).heap[g]? = some (.cells (cs.setIfInBounds i u) t fr) := by
  have hlt := blk_lt h
  simp only [World.setCell]
  rw [Array.getElem?_modify]
  simp [h]
theorem blk_far {w : World} {g : Nat} {o : Obj} (h : w.heap[g]? = some o) {p : Addr} (hp : g ≠ p.block) (u : Value) : (w.setCell p u).heap[g]? = some o := (Below.heap_setCell w p u g hp).trans h
theorem blk_alloc {w : World} {g : Nat} {o : Obj} (h : w.heap[g]? = some o) (o' : Obj) : (w.alloc o').heap[g]? = some o := (Below.heap_alloc w o' g (blk_lt h)).trans h
theorem blk_new (w : World) (o : Obj) : (w.alloc o).heap[w.heap.size]? = some o := (heap_alloc w o).1
theorem blk_grown {w w1 : World} {g : Nat} {o : Obj} {row : Option Nat} (h : w.heap[g]? = some o) (hg : w.grownBy w1 row) (hne : some g ≠ row) : w1.heap[g]? = some o := (hg.block g (blk_lt h) hne).trans h
theorem blk_ne {w : World} {g g' : Nat} {o o' : Obj} (h : w.heap[g]? = some o) (h' : w.heap[g']? = some o') (hne : o ≠ o') : g ≠ g' := fun e => hne (by rw [e, h'] at h; exact (Option.some.inj h).symm)
theorem blk_ty {w : World} {g g' : Nat} {t t' : TypeId} {cs cs' : Array Value} {fr fr' : Nat × Nat} (h : w.heap[g]? = some (.cells cs t fr)) (h' : w.heap[g']? = some (.cells cs' t' fr')) (hne : t ≠ t') : g ≠ g' :=
  blk_ne h h' (fun e => hne (by cases e; rfl))
theorem blk_mapne {w : World} {g g' : Nat} {t : TypeId} {cs : Array Value} {fr : Nat × Nat} {es : Array MapEntry} {c : Nat} (h : w.heap[g]? = some (.cells cs t fr)) (h' : w.heap[g']? = some (.map es c)) : g ≠ g' :=
  blk_ne h h' (fun e => by cases e)
theorem size_setBlock (w : World) (b : Nat) (o : Obj) : (setBlock w b o).heap.size = w.heap.size := by simp [setBlock]
theorem Chg.setBlock {F : Nat → Prop} {w w' : World} (h : Chg F w w') (b : Nat) (o : Obj) (hp : b < w.heap.size → F b) : Chg F w (setBlock w' b o) :=
  ⟨h.os, h.tape, h.output, by rw [size_setBlock]; exact h.size, fun k hk hf => by
    refine Eq.trans ?_ (h.block k hk hf)
    have hne : b ≠ k := fun e => hf (by rw [← e]; exact hp (by rw [e]; exact hk))
    simp [ChangeMaps.setBlock, hne]⟩

/-! ### maps whose keys are ints -/
def upd (m : Int → Option Value) (k : Int) (v : Value) : Int → Option Value := fun x => if x = k then some v else m x
def del (m : Int → Option Value) (k : Int) : Int → Option Value := fun x => if x = k then none else m x
def mempty : Int → Option Value := fun _ => none

structure MapOk (es : Array MapEntry) (clock : Nat) (m : Int → Option Value) : Prop where
  stamped : Stamped es clock
  keys : ∀ x ∈ es.toList, ∃ k, x.key = .int .i64 k ∧ m k = some x.val
  mem : ∀ k v, m k = some v → ∃ x ∈ es.toList, x.key = .int .i64 k

/-- Block b of w is a map that answers as m. -/
def MapIs (w : World) (b : Nat) (m : Int → Option Value) : Prop := ∃ es clock, w.heap[b]? = some (.map es clock) ∧ MapOk es clock m

theorem MapIs.lt {w : World} {b : Nat} {m : Int → Option Value} (h : MapIs w b m) : b < w.heap.size := by
  obtain ⟨es, clock, hb, _⟩ := h; exact blk_lt hb
theorem MapIs.keep {w w' : World} {b : Nat} {m : Int → Option Value} (h : MapIs w b m) (hk : w'.heap[b]? = w.heap[b]?) : MapIs w' b m := by
  obtain ⟨es, clock, hb, ho⟩ := h; exact ⟨es, clock, hk.trans hb, ho⟩
theorem MapIs.chg {F : Nat → Prop} {w w' : World} {b : Nat} {m : Int → Option Value} (h : MapIs w b m) (hc : Chg F w w') (hf : ¬ F b) : MapIs w' b m := h.keep (hc.block b h.lt hf)
theorem MapIs.made (w : World) : MapIs (w.alloc (.map #[] 0)) w.heap.size mempty :=
  ⟨#[], 0, blk_new _ _, ⟨stamped_empty 0, by simp, fun k v h => by simp [mempty] at h⟩⟩

theorem MapOk.isKey {es : Array MapEntry} {clock : Nat} {m : Int → Option Value} (h : MapOk es clock m) : ∀ x ∈ es.toList, IsKey (.int .i64) x.key := fun x hx => by
  obtain ⟨k, hk, _⟩ := h.keys x hx; rw [hk]; rfl

theorem MapOk.find {es : Array MapEntry} {clock : Nat} {m : Int → Option Value} (h : MapOk es clock m) (k : Int) :
    (Instr.findNow (.int .i64) (.int .i64 k) es.toList 0 = some none ∧ m k = none ∧ ∀ x ∈ es.toList, x.key ≠ .int .i64 k) ∨
    ∃ j e, Instr.findNow (.int .i64) (.int .i64 k) es.toList 0 = some (some (j, e.val)) ∧ es.toList[j]? = some e ∧ e.key = .int .i64 k ∧ m k = some e.val := by
  rcases findNow_spec (d := .int .i64) (k := .int .i64 k) rfl es.toList 0 h.isKey with ⟨h1, h2⟩ | ⟨j, e, h1, h2, h3⟩
  · refine .inl ⟨h1, ?_, h2⟩
    cases hm : m k with
    | none => rfl
    | some v => obtain ⟨x, hx, hk⟩ := h.mem k v hm; exact absurd hk (h2 x hx)
  · refine .inr ⟨j, e, by simpa using h1, h2, h3, ?_⟩
    obtain ⟨k', hk', hm⟩ := h.keys e (List.mem_of_getElem? h2)
    rw [h3] at hk'; cases hk'; exact hm

section
variable {P : Program} {w : World} {b : Nat} {m : Int → Option Value}

theorem MapIs.lookup (h : MapIs w b m) {t k e : TypeId} (ht : P.underlying t = some (.map k e)) (hk : P.underlying k = some (.int .i64)) {z : Value} (hz : (zeroValue e).run P w = .ok z w) (n : Int) :
    (Instr.lookup t (.map (some b)) (.int .i64 n) false).run P w = .ok ((m n).getD z) w := by
  obtain ⟨es, clock, hb, ho⟩ := h
  rcases ho.find n with ⟨h1, h2, _⟩ | ⟨j, e', h1, _, _, h2⟩
  · simp [Instr.lookup, run_underlying ht, MapKept.run_getObj_map hb, run_checkKey (k := .int .i64 n) hk rfl, run_findKey hk h1, Result.andThen, hz, h2]
  · simp [Instr.lookup, run_underlying ht, MapKept.run_getObj_map hb, run_checkKey (k := .int .i64 n) hk rfl, run_findKey hk h1, Result.andThen, h2]

theorem getElem?_of_toList {es : Array MapEntry} {j : Nat} {e : MapEntry} (h : es.toList[j]? = some e) : es[j]? = some e := by simpa using h

theorem sameBits_int (a : Int) : Instr.sameBits 10000 (.int .i64 a) (.int .i64 a) = true := by
  rw [Instr.sameBits]; simp

theorem mem_modify {es : Array MapEntry} {j : Nat} {f : MapEntry → MapEntry} {x : MapEntry} (h : x ∈ (es.modify j f).toList) :
    (∃ e, es.toList[j]? = some e ∧ x = f e) ∨ (∃ i, i ≠ j ∧ es.toList[i]? = some x) := by
  obtain ⟨i, hi⟩ := List.mem_iff_getElem?.1 h
  rw [Array.getElem?_toList, Array.getElem?_modify] at hi
  by_cases hij : j = i
  · subst hij
    rw [if_pos rfl] at hi
    simp only [Option.map_eq_some_iff] at hi
    obtain ⟨e, he, rfl⟩ := hi
    exact .inl ⟨e, by simpa using he, rfl⟩
  · rw [if_neg hij] at hi
    exact .inr ⟨i, fun e => hij e.symm, by simpa using hi⟩

theorem key_at {es : Array MapEntry} (hn : (es.toList.map (·.key)).Nodup) {i j : Nat} {x y : MapEntry} (hx : es.toList[i]? = some x) (hy : es.toList[j]? = some y) (he : x.key = y.key) : i = j := by
  have h1 : (es.toList.map (·.key))[i]? = some x.key := by simp [List.getElem?_map, hx]
  have h2 : (es.toList.map (·.key))[j]? = some x.key := by simp [List.getElem?_map, hy, he]
  have hi : i < (es.toList.map (·.key)).length := (List.getElem?_eq_some_iff.1 h1).1
  exact (List.getElem?_inj hi hn).1 (h1.trans h2.symm)

theorem MapIs.update (h : MapIs w b m) {t k e : TypeId} (ht : P.underlying t = some (.map k e)) (hk : P.underlying k = some (.int .i64)) (n : Int) (v : Value) :
    ∃ o, (Instr.mapUpdate t (.map (some b)) (.int .i64 n) v).run P w = .ok () (setBlock w b o) ∧ MapIs (setBlock w b o) b (upd m n v) := by
  obtain ⟨es, clock, hb, ho⟩ := h
  rcases ho.find n with ⟨h1, h2, h3⟩ | ⟨j, e', h1, hj, hkey, h2⟩
  · refine ⟨.map (es.push { key := .int .i64 n, val := v, born := clock }) (clock + 1), ?_, ?_⟩
    · simp [Instr.mapUpdate, run_underlying ht, MapKept.run_getObj_map hb, run_checkKey (k := .int .i64 n) hk rfl, run_findKey hk h1, Result.andThen, run_setObj_map _ hb, setBlock]
    · refine ⟨_, _, heap_setBlock_same hb _, stamped_push ho.stamped h3, ?_, ?_⟩
      · intro x hx
        simp only [Array.toList_push, List.mem_append, List.mem_singleton] at hx
        rcases hx with hx | rfl
        · obtain ⟨q, hq, hm⟩ := ho.keys x hx
          refine ⟨q, hq, ?_⟩
          have : q ≠ n := fun e => h3 x hx (by rw [hq, e])
          simp [upd, this, hm]
        · exact ⟨n, rfl, by simp [upd]⟩
      · intro q u hq
        by_cases e : q = n
        · exact ⟨_, by simp only [Array.toList_push, List.mem_append, List.mem_singleton]; exact .inr rfl, by rw [e]⟩
        · simp only [upd, if_neg e] at hq
          obtain ⟨x, hx, hxk⟩ := ho.mem q u hq
          exact ⟨x, by simp only [Array.toList_push, List.mem_append]; exact .inl hx, hxk⟩
  · have hj' := getElem?_of_toList hj
    refine ⟨.map (es.modify j fun e => { e with key := .int .i64 n, val := v }) clock, ?_, ?_⟩
    · simp [Instr.mapUpdate, run_underlying ht, MapKept.run_getObj_map hb, run_checkKey (k := .int .i64 n) hk rfl, run_findKey hk h1, Result.andThen, run_setObj_map _ hb, setBlock, hj', hkey, Instr.keyThatStays, sameBits_int]
    · refine ⟨_, _, heap_setBlock_same hb _, stamped_modify ho.stamped j _ (fun _ _ => rfl) ?_, ?_, ?_⟩
      · intro x _ hx; rw [hj'] at hx; cases hx; exact hkey.symm
      · intro x hx
        rcases mem_modify hx with ⟨e, _, rfl⟩ | ⟨i, hij, hi⟩
        · exact ⟨n, rfl, by simp [upd]⟩
        · obtain ⟨q, hq, hm⟩ := ho.keys x (List.mem_of_getElem? hi)
          refine ⟨q, hq, ?_⟩
          have : q ≠ n := fun e => hij (key_at ho.stamped.2.2 hi hj (by rw [hq, hkey, e]))
          simp [upd, this, hm]
      · intro q u hq
        by_cases e : q = n
        · refine ⟨{ e' with key := .int .i64 n, val := v }, ?_, by rw [e]⟩
          apply List.mem_of_getElem? (i := j)
          simp [Array.getElem?_modify, hj']
        · simp only [upd, if_neg e] at hq
          obtain ⟨x, hx, hxk⟩ := ho.mem q u hq
          obtain ⟨i, hi⟩ := List.mem_iff_getElem?.1 hx
          refine ⟨x, ?_, hxk⟩
          apply List.mem_of_getElem? (i := i)
          have hne : j ≠ i := fun e2 => by
            subst e2; rw [hj] at hi; cases hi; rw [hkey] at hxk; cases hxk; exact e rfl
          rw [Array.getElem?_toList, Array.getElem?_modify, if_neg hne]
          simpa using hi

theorem MapIs.delete (h : MapIs w b m) {t ty k e : TypeId} {ats : Array TypeId} (hat : ats[0]? = some t) (ht : P.underlying t = some (.map k e)) (hk : P.underlying k = some (.int .i64)) (n : Int) :
    ∃ o, (Builtin.delete_ ats ty #[.map (some b), .int .i64 n]).run P w = .ok (.tuple #[]) (setBlock w b o) ∧ MapIs (setBlock w b o) b (del m n) := by
  obtain ⟨es, clock, hb, ho⟩ := h
  rcases ho.find n with ⟨h1, h2, h3⟩ | ⟨j, e', h1, hj, hkey, h2⟩
  · refine ⟨.map es clock, ?_, ?_⟩
    · simp [Builtin.delete_, hat, run_underlying ht, MapKept.run_getObj_map hb, run_checkKey (k := .int .i64 n) hk rfl, run_findKey hk h1, Result.andThen, run_setObj_map _ hb, setBlock]
    · refine ⟨_, _, heap_setBlock_same hb _, ho.stamped, ?_, ?_⟩
      · intro x hx
        obtain ⟨q, hq, hm⟩ := ho.keys x hx
        have : q ≠ n := fun e => h3 x hx (by rw [hq, e])
        exact ⟨q, hq, by simp [del, this, hm]⟩
      · intro q u hq
        by_cases e : q = n
        · simp [del, e] at hq
        · simp only [del, if_neg e] at hq; exact ho.mem q u hq
  · refine ⟨.map (es.eraseIdxIfInBounds j) clock, ?_, ?_⟩
    · simp [Builtin.delete_, hat, run_underlying ht, MapKept.run_getObj_map hb, run_checkKey (k := .int .i64 n) hk rfl, run_findKey hk h1, Result.andThen, run_setObj_map _ hb, setBlock]
    · have hjlt : j < es.size := by have := (List.getElem?_eq_some_iff.1 hj).1; simpa using this
      have hl : (es.eraseIdxIfInBounds j).toList = es.toList.eraseIdx j := by
        unfold Array.eraseIdxIfInBounds; rw [dif_pos hjlt, Array.toList_eraseIdx]
      refine ⟨_, _, heap_setBlock_same hb _, stamped_erase ho.stamped j, ?_, ?_⟩
      · intro x hx
        rw [hl, List.mem_eraseIdx_iff_getElem?] at hx
        obtain ⟨i, hij, hi⟩ := hx
        obtain ⟨q, hq, hm⟩ := ho.keys x (List.mem_of_getElem? hi)
        have : q ≠ n := fun e => hij (key_at ho.stamped.2.2 hi hj (by rw [hq, hkey, e]))
        exact ⟨q, hq, by simp [del, this, hm]⟩
      · intro q u hq
        by_cases e : q = n
        · simp [del, e] at hq
        · simp only [del, if_neg e] at hq
          obtain ⟨x, hx, hxk⟩ := ho.mem q u hq
          obtain ⟨i, hi⟩ := List.mem_iff_getElem?.1 hx
          refine ⟨x, ?_, hxk⟩
          rw [hl, List.mem_eraseIdx_iff_getElem?]
          refine ⟨i, fun e2 => ?_, hi⟩
          subst e2; rw [hj] at hi; cases hi; rw [hkey] at hxk; cases hxk; exact e rfl

theorem MapIs.clear (h : MapIs w b m) {t ty k e : TypeId} {ats : Array TypeId} (hat : ats[0]? = some t) (ht : P.underlying t = some (.map k e)) :
    ∃ o, (Builtin.clear_ ats ty #[.map (some b)]).run P w = .ok (.tuple #[]) (setBlock w b o) ∧ MapIs (setBlock w b o) b mempty := by
  obtain ⟨es, clock, hb, ho⟩ := h
  refine ⟨.map #[] clock, ?_, ?_⟩
  · simp [Builtin.clear_, hat, run_underlying ht, MapKept.run_getObj_map hb, Result.andThen, run_setObj_map _ hb, setBlock]
  · exact ⟨#[], clock, heap_setBlock_same hb _, stamped_empty _, by simp, fun k v h => by simp [mempty] at h⟩
end
end Go.Proofs.Ytnhifnakgiddiaa
