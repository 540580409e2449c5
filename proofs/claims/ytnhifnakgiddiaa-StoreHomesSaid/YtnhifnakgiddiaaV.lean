/- A region that draws its order, where two of its operations may come in either order: a tree of orders. Over any program. -/
import Derived.Test.YtnhifnakgiddiaaS
namespace Go.Proofs.Ytnhifnakgiddiaa
open Go Go.RowKit Go.MapKept

inductive Ord where
  | nil
  | take (i : Nat) (r : Ord)
  | one (i : Nat) (r : Ord)
  | two (i j : Nat) (r q : Ord)

def Ord.len : Ord → Nat
  | .nil => 0
  | .take _ r => r.len + 1
  | .one _ r => r.len + 1
  | .two _ _ r _ => r.len + 1

def Ord.isNil : Ord → Bool
  | .nil => true
  | _ => false

section
variable {P : Program} {ops : Array Oper} {Q : Exit → Act → World → Prop} {md : Region.Mode} {S : World → Prop} {L : Nat}

def wpTree (P : Program) (ops : Array Oper) (Q : Exit → Act → World → Prop) (S : World → Prop) : Ord → Act → World → Prop
  | .nil, a, w => Q .normal a w
  | .take i r, a, w => ∃ v o, ops[i]? = some o ∧ YieldsIf P ops S o v a ∧ wpTree P ops Q S r (a.put o.dst v) w
  | .one i r, a, w => wpOp P ops Q i (fun a' w' => (r = .nil ∨ S w') ∧ wpTree P ops Q S r a' w') a w
  | .two i j r q, a, w => wpOp P ops Q i (fun a' w' => S w' ∧ wpTree P ops Q S r a' w') a w ∧ wpOp P ops Q j (fun a' w' => S w' ∧ wpTree P ops Q S q a' w') a w

def treeOk (md : Region.Mode) (ops : Array Oper) (L : Nat) : Array Bool → Ord → Bool
  | listed, .nil => (Region.ready md ops listed).isEmpty
  | listed, .take i r => Region.free md ops listed i && (Region.ready md ops listed).contains i && waitsT md ops ops.size L i && treeOk md ops L (listed.setIfInBounds i true) r
  | listed, .one i r => (Region.ready md ops listed == [i]) && (!r.isNil || i == L) && treeOk md ops L (listed.setIfInBounds i true) r
  | listed, .two i j r q => (Region.ready md ops listed == [i, j]) && (r.len == q.len) && treeOk md ops L (listed.setIfInBounds i true) r && treeOk md ops L (listed.setIfInBounds j true) q

theorem wpTree_sound (hs : Region.noSelect ops = true) (hQ : ∀ c (a : Act) dst v w, Q (.panic c) (a.put dst v) w → Q (.panic c) a w) : ∀ (js : Ord) (listed : Array Bool) (a : Act) (w : World),
    Closed md ops listed → treeOk md ops L listed js = true → (js = .nil ∨ S w) → wpTree P ops Q S js a w → wpAnyE P md ops Q S L js.len listed a w
  | .nil, listed, a, w, _, hk, _, h => by
    simp only [treeOk, List.isEmpty_iff] at hk
    exact ⟨hk, h⟩
  | .take i r, listed, a, w, hcl, hk, hS, h => by
    have hS := hS.resolve_left (by simp)
    simp only [treeOk, Bool.and_eq_true] at hk
    obtain ⟨⟨⟨h1, h2⟩, h3⟩, h4⟩ := hk
    obtain ⟨v, o, ho, hy, h⟩ := h
    have hr : i ∈ Region.ready md ops listed := by simpa using h2
    exact wpAnyE_first ho (Region.noSelect_spec hs) (fun c a w h => hQ c _ _ _ w h) _ h3 _ listed a w hcl (Region.free_spec ho h1) hr hy hS (wpTree_sound hs hQ r _ _ _ (hcl.set hr) h4 (.inr hS) h)
  | .one i r, listed, a, w, hcl, hk, hS, h => by
    simp only [treeOk, Bool.and_eq_true, beq_iff_eq, Bool.or_eq_true, Bool.not_eq_true'] at hk
    obtain ⟨⟨h1, h2⟩, h3⟩ := hk
    refine ⟨fun h0 => (by rw [h1] at h0; cases h0), fun j hj => ?_⟩
    rw [h1] at hj
    have hji : j = i := by simpa using hj
    subst hji
    refine wpOp_mono (fun a' w' h' => ⟨?_, wpTree_sound hs hQ r _ _ _ (hcl.set (by rw [h1]; simp)) h3 h'.1 h'.2⟩) h
    rcases h'.1 with e | e
    · subst e; rcases h2 with h2 | h2
      · simp [Ord.isNil] at h2
      · exact .inl h2
    · exact .inr e
  | .two i j r q, listed, a, w, hcl, hk, hS, h => by
    simp only [treeOk, Bool.and_eq_true, beq_iff_eq] at hk
    obtain ⟨⟨⟨h1, h2⟩, h3⟩, h4⟩ := hk
    refine ⟨fun h0 => (by rw [h1] at h0; cases h0), fun k hk => ?_⟩
    rw [h1] at hk
    simp only [List.mem_cons, List.not_mem_nil, or_false] at hk
    rcases hk with rfl | rfl
    · exact wpOp_mono (fun a' w' h' => ⟨.inr h'.1, wpTree_sound hs hQ r _ _ _ (hcl.set (by rw [h1]; simp)) h3 (.inr h'.1) h'.2⟩) h.1
    · refine wpOp_mono (fun a' w' h' => ⟨.inr h'.1, ?_⟩) h.2
      show wpAnyE P md ops Q S L r.len _ a' w'
      rw [h2]
      exact wpTree_sound hs hQ q _ _ _ (hcl.set (by rw [h1]; simp)) h4 (.inr h'.1) h'.2

/-- THE LAW. -/
theorem wp_region_tree {id : Nat} {a : Act} {w : World} (S : World → Prop) (L : Nat) (js : Ord) (hm : P.follows .mixedOrders = true) (hs : Region.noSelect ops = true) (hk : treeOk .any ops L (Array.replicate ops.size false) js = true) (hl : js.len = ops.size)
    (hQ : ∀ c (a : Act) dst v w, Q (.panic c) (a.put dst v) w → Q (.panic c) a w) (hS : S w.drew) (h : wpTree P ops Q S js a w.drew) : (Code.region id ops true).wp P Q a w := by
  refine wp_region_any hm (wpAny_of_E (S := S) (L := L) _ _ _ _ ?_)
  have := wpTree_sound (md := .any) (L := L) hs hQ js (Array.replicate ops.size false) a w.drew (fun j o _ hj => by rw [Array.getD_eq_getD_getElem?, Array.getElem?_replicate] at hj; split at hj <;> simp at hj) hk (.inr hS) h
  rw [hl] at this
  exact this

theorem tree_take {i : Nat} {r : Ord} {a : Act} {w : World} {o : Oper} (v : Value) (ho : ops[i]? = some o) (hw : Region.wanted o (yielded ops a.tmps) = true) (hy : ∀ w, S w → (execOp a.eval o).run P w = .ok (.value v) w)
    (h : wpTree P ops Q S r (a.put o.dst v) w) : wpTree P ops Q S (.take i r) a w := ⟨v, o, ho, .inl ⟨hw, hy⟩, h⟩
theorem tree_one {i : Nat} {r : Ord} {a : Act} {w : World} {o : Oper} (ho : ops[i]? = some o)
    (h : ∀ K : Act → World → Prop, (∀ a w, (r = .nil ∨ S w) → wpTree P ops Q S r a w → K a w) → if Region.wanted o (yielded ops a.tmps) = true then Oper.wp P o a w K Q else K (a.put o.dst undef) w) : wpTree P ops Q S (.one i r) a w :=
  wpOp_step ho fun K hK => h K fun a w h1 h2 => hK a w ⟨h1, h2⟩
/-- Two are made, in either order. -/
structure Made2 (o1 o2 : Obj) (w : World) (p q : Nat) (W : World) : Prop where
  b1 : W.heap[p]? = some o1
  b2 : W.heap[q]? = some o2
  ne : p ≠ q
  p0 : w.heap.size ≤ p ∧ p < w.heap.size + 2
  q0 : w.heap.size ≤ q ∧ q < w.heap.size + 2
  size : W.heap.size = w.heap.size + 2
  below : Below w.heap.size w W
theorem put_swap (a : Act) {i j : Nat} (h : i ≠ j) (u v : Value) : (a.put (some i) u).put (some j) v = (a.put (some j) v).put (some i) u := by
  simp [Act.put, Array.setIfInBounds_comm _ _ h]
theorem tree_allocs {i j : Nat} {r : Ord} {a : Act} {w : World} {o o' : Oper} {d d' : Nat} {t t' : TypeId} {z z' : Value} (ho : ops[i]? = some o) (ho' : ops[j]? = some o') (hg : o.guard = none) (hg' : o'.guard = none) (hd : o.dst = some d) (hd' : o'.dst = some d') (hdd : d ≠ d')
    (hop : o.op = .alloc t) (hop' : o'.op = .alloc t')
    (hz : ∀ w : World, (Instr.alloc t true (.tuple #[])).run P w = .ok (.pointer (some ⟨w.heap.size, 0, none⟩)) (w.alloc (.cells #[z] t (0, 0)))) (hz' : ∀ w : World, (Instr.alloc t' true (.tuple #[])).run P w = .ok (.pointer (some ⟨w.heap.size, 0, none⟩)) (w.alloc (.cells #[z'] t' (0, 0))))
    (hS : ∀ w1 : World, Below w.heap.size w w1 → S w1)
    (h : ∀ p q W, Made2 (.cells #[z] t (0, 0)) (.cells #[z'] t' (0, 0)) w p q W → wpTree P ops Q S r ((a.put (some d) (.pointer (some ⟨p, 0, none⟩))).put (some d') (.pointer (some ⟨q, 0, none⟩))) W) :
    wpTree P ops Q S (.two i j (.one j r) (.one i r)) a w := by
  have wa : ∀ (o : Oper) (a : Act), o.guard = none → Region.wanted o (yielded ops a.tmps) = true := fun o a hg => by simp [Region.wanted, hg]
  have step : ∀ (o : Oper) (d : Nat) (t : TypeId) (z : Value) (a : Act) (w : World) (K : Act → World → Prop), o.dst = some d → o.op = .alloc t → (∀ w : World, (Instr.alloc t true (.tuple #[])).run P w = .ok (.pointer (some ⟨w.heap.size, 0, none⟩)) (w.alloc (.cells #[z] t (0, 0)))) →
      K (a.put (some d) (.pointer (some ⟨w.heap.size, 0, none⟩))) (w.alloc (.cells #[z] t (0, 0))) → Oper.wp P o a w K Q := fun o d t z a w K hd hop hz hK => by
    unfold Oper.wp execOp
    simp only [hop, Sem.run_bind, Sem.run_pure, Result.andThen_ok, hz]
    rw [← hd] at hK
    exact hK
  have bl : ∀ o1 o2 : Obj, Below w.heap.size w ((w.alloc o1).alloc o2) := fun o1 o2 => ((Below.refl _ w).alloc (Nat.le_refl _) _).alloc (by simp) _
  have m1 : Made2 (.cells #[z] t (0, 0)) (.cells #[z'] t' (0, 0)) w w.heap.size (w.heap.size + 1) ((w.alloc (.cells #[z] t (0, 0))).alloc (.cells #[z'] t' (0, 0))) := by
    have h1 := (MapKept.heap_alloc w (.cells #[z] t (0, 0))).1
    have h2 := (MapKept.heap_alloc (w.alloc (.cells #[z] t (0, 0))) (.cells #[z'] t' (0, 0))).1
    rw [World.size_alloc] at h2
    exact ⟨(Below.heap_alloc _ _ _ (by simp)).trans h1, h2, by omega, ⟨by omega, by omega⟩, ⟨by omega, by omega⟩, by simp, bl _ _⟩
  have m2 : Made2 (.cells #[z] t (0, 0)) (.cells #[z'] t' (0, 0)) w (w.heap.size + 1) w.heap.size ((w.alloc (.cells #[z'] t' (0, 0))).alloc (.cells #[z] t (0, 0))) := by
    have h1 := (MapKept.heap_alloc w (.cells #[z'] t' (0, 0))).1
    have h2 := (MapKept.heap_alloc (w.alloc (.cells #[z'] t' (0, 0))) (.cells #[z] t (0, 0))).1
    rw [World.size_alloc] at h2
    exact ⟨h2, (Below.heap_alloc _ _ _ (by simp)).trans h1, by omega, ⟨by omega, by omega⟩, ⟨by omega, by omega⟩, by simp, bl _ _⟩
  have b1 : ∀ o1 : Obj, Below w.heap.size w (w.alloc o1) := fun o1 => (Below.refl _ w).alloc (Nat.le_refl _) _
  refine ⟨wpOp_step ho fun K hK => ?_, wpOp_step ho' fun K hK => ?_⟩
  · rw [if_pos (wa o a hg)]
    refine step o d t z a w K hd hop hz (hK _ _ ⟨hS _ (b1 _), wpOp_step ho' fun K' hK' => ?_⟩)
    rw [if_pos (wa o' _ hg')]
    refine step o' d' t' z' _ _ K' hd' hop' hz' (hK' _ _ ⟨.inr (hS _ (bl _ _)), ?_⟩)
    rw [World.size_alloc]
    exact h _ _ _ m1
  · rw [if_pos (wa o' a hg')]
    refine step o' d' t' z' a w K hd' hop' hz' (hK _ _ ⟨hS _ (b1 _), wpOp_step ho fun K' hK' => ?_⟩)
    rw [if_pos (wa o _ hg)]
    refine step o d t z _ _ K' hd hop hz (hK' _ _ ⟨.inr (hS _ (bl _ _)), ?_⟩)
    rw [World.size_alloc, put_swap a hdd.symm]
    exact h _ _ _ m2
end
end Go.Proofs.Ytnhifnakgiddiaa
