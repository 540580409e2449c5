/- A region that draws its order, walked in one order: what is loaded is loaded first. After the kit's own law on held loads (Derived/OrdersHeld); S need not hold behind the region's last operation. Over any program. -/
import Derived.OrdersHeld
import Derived.WalkKit
namespace Go.Proofs.Ytnhifnakgiddiaa
open Go

section
variable {P : Program} {ops : Array Oper} {Q : Exit → Act → World → Prop} {md : Region.Mode} {S : World → Prop} {L : Nat}

def wpAnyE (P : Program) (md : Region.Mode) (ops : Array Oper) (Q : Exit → Act → World → Prop) (S : World → Prop) (L : Nat) : Nat → Array Bool → Act → World → Prop
  | 0, listed, a, w => Region.ready md ops listed = [] ∧ Q .normal a w
  | fuel + 1, listed, a, w =>
    (Region.ready md ops listed = [] → Q .normal a w) ∧
    ∀ i ∈ Region.ready md ops listed, wpOp P ops Q i (fun a' w' => (i = L ∨ S w') ∧ wpAnyE P md ops Q S L fuel (listed.setIfInBounds i true) a' w') a w

theorem wpAny_of_E : ∀ (fuel : Nat) (listed : Array Bool) (a : Act) (w : World), wpAnyE P md ops Q S L fuel listed a w → wpAny P md ops Q fuel listed a w
  | 0, _, _, _, h => h
  | fuel + 1, _, _, _, h => ⟨h.1, fun i hi => wpOp_mono (fun a' w' h' => wpAny_of_E fuel _ a' w' h'.2) (h.2 i hi)⟩

def Closed (md : Region.Mode) (ops : Array Oper) (listed : Array Bool) : Prop :=
  ∀ j o, ops[j]? = some o → listed.getD j false = true → ∀ e ∈ o.after, Region.binds md e = true → listed.getD e.on false = true
def waitsT (md : Region.Mode) (ops : Array Oper) : Nat → Nat → Nat → Bool
  | 0, _, _ => false
  | f + 1, L, i => match ops[L]? with
    | some o => o.after.any fun e => Region.binds md e && (e.on == i || waitsT md ops f e.on i)
    | none => false
theorem getD_both {listed : Array Bool} {i : Nat} (h : listed.getD i true = false) : listed.getD i false = false := by
  rcases Nat.lt_or_ge i listed.size with h' | h'
  · simp [h'] at h ⊢; exact h
  · simp [Array.getElem?_eq_none h'] at h
theorem waitsT_spec {listed : Array Bool} (hc : Closed md ops listed) {i : Nat} (hi : listed.getD i true = false) : ∀ (f : Nat) (L : Nat), waitsT md ops f L i = true → ∀ o, ops[L]? = some o → ¬ ∀ e ∈ o.after, Region.binds md e = true → listed.getD e.on false = true
  | 0, _, h, _, _, _ => by simp [waitsT] at h
  | f + 1, L, h, o, ho, hall => by
    simp only [waitsT, ho, Array.any_eq_true, Bool.and_eq_true, Bool.or_eq_true, beq_iff_eq] at h
    obtain ⟨k, hk, hb, h⟩ := h
    have h1 := hall _ (Array.getElem_mem hk) hb
    rcases h with h | h
    · rw [h, getD_both hi] at h1; cases h1
    · cases ho2 : ops[o.after[k].on]? with
      | none => cases f <;> simp [waitsT, ho2] at h
      | some o2 => exact waitsT_spec hc hi f _ h o2 ho2 (hc _ o2 ho2 h1)
theorem Closed.set {listed : Array Bool} (hc : Closed md ops listed) {i : Nat} (hr : i ∈ Region.ready md ops listed) : Closed md ops (listed.setIfInBounds i true) := by
  intro j o ho hj e he hb
  by_cases hij : i = j
  · subst hij
    obtain ⟨_, o', ho', hall⟩ := mem_ready.1 hr
    rw [ho] at ho'; cases ho'
    exact getD_set_true (hall e he hb)
  · rw [getD_set_ne false hij] at hj
    exact getD_set_true (hc j o ho hj e he hb)

theorem wpAnyE_first {i : Nat} {oi : Oper} {v : Value} (hi : ops[i]? = some oi) (hsel : ∀ (j : Nat) (o : Oper) cs b, ops[j]? = some o → o.op ≠ .select cs b)
    (hQ : ∀ c a w, Q (.panic c) (a.put oi.dst v) w → Q (.panic c) a w) (f : Nat) (hwait : waitsT md ops f L i = true) :
    ∀ (fuel : Nat) (listed : Array Bool) (a : Act) (w : World), Closed md ops listed →
      (∀ j oj, ops[j]? = some oj → j ≠ i → listed.getD j true = false → (∀ e ∈ oj.after, Region.binds md e = true → e.on ≠ i) → oi.apart ops oj = true) →
      i ∈ Region.ready md ops listed → YieldsIf P ops S oi v a → S w →
      wpAnyE P md ops Q S L fuel (listed.setIfInBounds i true) (a.put oi.dst v) w → wpAnyE P md ops Q S L (fuel + 1) listed a w := by
  intro fuel
  induction fuel with
  | zero =>
    intro listed a w _ _ hr hy hS H
    refine ⟨fun h => (by rw [h] at hr; cases hr), fun j hj => ?_⟩
    by_cases hji : j = i
    · subst hji; exact hy.wpOp hi hS ⟨.inr hS, H⟩
    · have := ready_mono hj hji
      rw [H.1] at this
      cases this
  | succ fuel ih =>
    intro listed a w hcl hfree hr hy hS H
    refine ⟨fun h => (by rw [h] at hr; cases hr), fun j hj => ?_⟩
    by_cases hji : j = i
    · subst hji; exact hy.wpOp hi hS ⟨.inr hS, H⟩
    · have h1 := H.2 j (ready_mono hj hji)
      obtain ⟨hjun, oj, hoj, hall⟩ := mem_ready.1 hj
      have hnot : ∀ e ∈ oj.after, Region.binds md e = true → e.on ≠ i := fun e he hb heq => by
        have h1 := hall e he hb
        have h0 := (mem_ready.1 hr).1
        rw [heq] at h1
        rcases Nat.lt_or_ge i listed.size with h' | h'
        · simp [h'] at h0 h1; rw [h0] at h1; cases h1
        · simp [Array.getElem?_eq_none h'] at h1
      have hjL : j ≠ L := fun e => by
        subst e
        exact waitsT_spec hcl (mem_ready.1 hr).1 f j hwait oj hoj hall
      have h2 := wpOp_putIf hoj (hfree j oj hoj hji hjun hnot) (fun cs b => hsel i oi cs b hi) (fun cs b => hsel j oj cs b hoj) hQ hy h1
      have hfree' : ∀ k ok, ops[k]? = some ok → k ≠ i → (listed.setIfInBounds j true).getD k true = false →
          (∀ e ∈ ok.after, Region.binds md e = true → e.on ≠ i) → oi.apart ops ok = true := fun k ok hk hki hun hno => by
        refine hfree k ok hk hki ?_ hno
        by_cases hjk : j = k
        · subst hjk; exact hjun
        · rw [getD_set_ne true hjk] at hun; exact hun
      refine wpOp_mono (fun a' w' h3 => ?_) h2
      have hSw := h3.2.1.resolve_left hjL
      refine ⟨.inr hSw, ih (listed.setIfInBounds j true) a' w' (hcl.set hj) hfree' (ready_mono hr (Ne.symm hji)) h3.1 hSw ?_⟩
      rw [Array.setIfInBounds_comm _ _ hji]
      exact h3.2.2

/-- The walk in one order: 'true': taken first; 'false': it alone may come up. -/
def wpSeq (P : Program) (ops : Array Oper) (Q : Exit → Act → World → Prop) (S : World → Prop) : List (Nat × Bool) → Act → World → Prop
  | [], a, w => Q .normal a w
  | (i, true) :: r, a, w => ∃ v o, ops[i]? = some o ∧ YieldsIf P ops S o v a ∧ wpSeq P ops Q S r (a.put o.dst v) w
  | (i, false) :: r, a, w => wpOp P ops Q i (fun a' w' => (r = [] ∨ S w') ∧ wpSeq P ops Q S r a' w') a w

def seqOk (md : Region.Mode) (ops : Array Oper) (L : Nat) : Array Bool → List (Nat × Bool) → Bool
  | listed, [] => (Region.ready md ops listed).isEmpty
  | listed, (i, true) :: r => Region.free md ops listed i && (Region.ready md ops listed).contains i && waitsT md ops ops.size L i && seqOk md ops L (listed.setIfInBounds i true) r
  | listed, (i, false) :: r => (Region.ready md ops listed == [i]) && (!r.isEmpty || i == L) && seqOk md ops L (listed.setIfInBounds i true) r

theorem wpSeq_sound (hs : Region.noSelect ops = true) (hQ : ∀ c (a : Act) dst v w, Q (.panic c) (a.put dst v) w → Q (.panic c) a w) : ∀ (js : List (Nat × Bool)) (listed : Array Bool) (a : Act) (w : World),
    Closed md ops listed → seqOk md ops L listed js = true → (js = [] ∨ S w) → wpSeq P ops Q S js a w → wpAnyE P md ops Q S L js.length listed a w
  | [], listed, a, w, _, hk, _, h => by
    simp only [seqOk, List.isEmpty_iff] at hk
    exact ⟨hk, h⟩
  | (i, true) :: r, listed, a, w, hcl, hk, hS, h => by
    have hS := hS.resolve_left (by simp)
    simp only [seqOk, Bool.and_eq_true] at hk
    obtain ⟨⟨⟨h1, h2⟩, h3⟩, h4⟩ := hk
    obtain ⟨v, o, ho, hy, h⟩ := h
    have hr : i ∈ Region.ready md ops listed := by simpa using h2
    exact wpAnyE_first ho (Region.noSelect_spec hs) (fun c a w h => hQ c _ _ _ w h) _ h3 _ listed a w hcl (Region.free_spec ho h1) hr hy hS (wpSeq_sound hs hQ r _ _ _ (hcl.set hr) h4 (.inr hS) h)
  | (i, false) :: r, listed, a, w, hcl, hk, hS, h => by
    simp only [seqOk, Bool.and_eq_true, beq_iff_eq, Bool.or_eq_true, Bool.not_eq_true'] at hk
    obtain ⟨⟨h1, h2⟩, h3⟩ := hk
    refine ⟨fun h0 => (by rw [h1] at h0; cases h0), fun j hj => ?_⟩
    rw [h1] at hj
    have hji : j = i := by simpa using hj
    subst hji
    refine wpOp_mono (fun a' w' h' => ⟨?_, wpSeq_sound hs hQ r _ _ _ (hcl.set (by rw [h1]; simp)) h3 h'.1 h'.2⟩) h
    rcases h'.1 with e | e
    · subst e; rcases h2 with h2 | h2
      · simp at h2
      · exact .inl h2
    · exact .inr e

/-- THE LAW. -/
theorem wp_region_seq {id : Nat} {a : Act} {w : World} (S : World → Prop) (L : Nat) (js : List (Nat × Bool)) (hm : P.follows .mixedOrders = true) (hs : Region.noSelect ops = true) (hk : seqOk .any ops L (Array.replicate ops.size false) js = true) (hl : js.length = ops.size)
    (hQ : ∀ c (a : Act) dst v w, Q (.panic c) (a.put dst v) w → Q (.panic c) a w) (hS : S w.drew) (h : wpSeq P ops Q S js a w.drew) : (Code.region id ops true).wp P Q a w := by
  refine wp_region_any hm (wpAny_of_E (S := S) (L := L) _ _ _ _ ?_)
  have := wpSeq_sound (md := .any) (L := L) hs hQ js (Array.replicate ops.size false) a w.drew (fun j o _ hj => by rw [Array.getD_eq_getD_getElem?, Array.getElem?_replicate] at hj; split at hj <;> simp at hj) hk (.inr hS) h
  rw [hl] at this
  exact this

theorem seq_take {i : Nat} {r : List (Nat × Bool)} {a : Act} {w : World} {o : Oper} (v : Value) (ho : ops[i]? = some o) (hw : Region.wanted o (yielded ops a.tmps) = true) (hy : ∀ w, S w → (execOp a.eval o).run P w = .ok (.value v) w)
    (h : wpSeq P ops Q S r (a.put o.dst v) w) : wpSeq P ops Q S ((i, true) :: r) a w := ⟨v, o, ho, .inl ⟨hw, hy⟩, h⟩
theorem seq_do {i : Nat} {r : List (Nat × Bool)} {a : Act} {w : World} {o : Oper} (ho : ops[i]? = some o)
    (h : ∀ K : Act → World → Prop, (∀ a w, (r = [] ∨ S w) → wpSeq P ops Q S r a w → K a w) → if Region.wanted o (yielded ops a.tmps) = true then Oper.wp P o a w K Q else K (a.put o.dst undef) w) : wpSeq P ops Q S ((i, false) :: r) a w :=
  wpOp_step ho fun K hK => h K fun a w h1 h2 => hK a w ⟨h1, h2⟩
end
end Go.Proofs.Ytnhifnakgiddiaa
