/- StoreHomes, the plain side: what holds round by round. -/
import Derived.Test.YtnhifnakgiddiaaAN
namespace Go.Proofs.Ytnhifnakgiddiaa
open Go Go.RowKit Go.MapKept

/-- A list of yes and no as cells. -/
def tb (t : List Bool) : List Value := t.map fun b => .bool b
theorem tb_length (t : List Bool) : (tb t).length = t.length := by simp [tb]
theorem tb_get (t : List Bool) (j : Nat) : (tb t)[j]? = (t[j]?).map fun b => .bool b := by simp [tb]
theorem tb_set (t : List Bool) (j : Nat) (b : Bool) : (tb t).set j (.bool b) = tb (t.set j b) := by simp [tb, List.map_set]

/-- While the script runs. -/
structure Hom1 (S : SM) (t : List Bool) (i : Nat) : Prop where
  ok : Ok S D0
  sh : ∀ l ∈ S.sh, l = []
  len : t.length = 128
  mark : ∀ k : Nat, (S.ch k ≠ none ∨ S.wt k ≠ none) → t[k]? = some true
  us : S.us.length ≤ i
theorem Hom1.start {n : Nat} (h : 0 < n) : Hom1 (SM.new 8 n) (List.replicate 128 false) 0 :=
  ⟨Ok.new (by decide) h (AD.Wf.new 128) (by decide), fun l hl => List.eq_of_mem_replicate hl, List.length_replicate, fun k hk => by rcases hk with h | h <;> exact absurd rfl h, Nat.le_refl _⟩
theorem Hom1.more {S : SM} {t : List Bool} {i : Nat} (h : Hom1 S t i) : Hom1 S t (i + 1) := ⟨h.ok, h.sh, h.len, h.mark, Nat.le_succ_of_le h.us⟩
theorem Hom1.write {S : SM} {t : List Bool} {i : Nat} (h : Hom1 S t i) {k : Nat} (hk : D0.has k = true) {b : Bytes} (hb : b.length = 256) : Hom1 (S.write k b) (t.set k true) (i + 1) := by
  have hk2 : k < 128 := by have := (has_iff.1 hk).2; have h3 : D0.n = 128 := rfl; omega
  refine ⟨h.ok.write hk hb, ?_, by simpa using h.len, ?_, by have := h.us; simp [SM.write]; omega⟩
  · intro l hl
    rcases List.mem_or_eq_of_mem_set hl with hl | rfl
    · exact h.sh l hl
    · rw [h.sh _ (shard_mem h.ok.pos k)]; rfl
  · intro j hj
    by_cases e : k = j
    · subst e; rw [List.getElem?_set_self (by rw [h.len]; exact hk2)]
    · rw [List.getElem?_set_ne e]
      refine h.mark j (hj.imp ?_ id)
      intro hj
      simp only [SM.write, bupd] at hj
      rwa [if_neg (by omega)] at hj
theorem Hom1.commit {S : SM} {t : List Bool} {i : Nat} (h : Hom1 S t i) : Hom1 S.commit t i := by
  refine ⟨h.ok.commit, h.sh, h.len, ?_, Nat.zero_le _⟩
  intro k hk
  rcases hk with hk | hk
  · exact absurd rfl hk
  · simp only [SM.commit, mergeF] at hk
    cases hc : S.ch k with
    | some b => exact h.mark k (.inl (by rw [hc]; simp))
    | none => rw [hc] at hk; exact h.mark k (.inr hk)

/-- While what waits is brought home: so many are. -/
structure Hom2 (wt0 : Int → Option Bytes) (S : SM) (D : AD) (j : Nat) : Prop where
  ok : Ok S D
  n : D.n = 128
  ch : S.ch = fun _ => none
  wt : ∀ k, S.wt k = if k ∈ (keysV wt0).drop j then wt0 k else none
  pend : D.pend.length = j
  sh : ∀ l ∈ S.sh, ∀ p ∈ l, S.wt p.1 = none ∧ D.read p.1 = p.2
theorem Hom2.start {S : SM} {t : List Bool} {i : Nat} (h : Hom1 S t i) (hc : S.ch = fun _ => none) : Hom2 S.wt S D0 0 := by
  refine ⟨h.ok, rfl, hc, ?_, rfl, fun l hl p hp => by rw [h.sh l hl] at hp; cases hp⟩
  intro k
  rw [List.drop_zero]
  by_cases hk : S.wt k = none
  · rw [if_neg (fun hm => (mem_keysV h.ok.keys.wt k).1 hm hk), hk]
  · rw [if_pos ((mem_keysV h.ok.keys.wt k).2 hk)]
theorem Hom2.step {wt0 : Int → Option Bytes} {S : SM} {D : AD} {j k : Nat} (h : Hom2 wt0 S D j) (hr : ∀ k, wt0 k ≠ none → InR k) (hk : (keysV wt0)[j]? = some (k : Int)) :
    ∃ b, S.wt k = some b ∧ Hom2 wt0 (S.home k b) (D.write k b) (j + 1) := by
  have hjl := (List.getElem?_eq_some_iff.1 hk).1
  have hd : (keysV wt0).drop j = (k : Int) :: (keysV wt0).drop (j + 1) := by
    rw [List.getElem?_eq_getElem hjl] at hk
    rw [List.drop_eq_getElem_cons hjl, Option.some.inj hk]
  have hnd : ((k : Int) :: (keysV wt0).drop (j + 1)).Nodup := by rw [← hd]; exact (keysV_nodup wt0).sublist (List.drop_sublist _ _)
  have hkn := (List.nodup_cons.1 hnd).1
  have hne : wt0 k ≠ none := (mem_keysV hr _).1 (List.mem_of_getElem? hk)
  obtain ⟨b, hb⟩ := Option.ne_none_iff_exists'.1 hne
  have hwk : S.wt k = some b := by rw [h.wt, hd, if_pos (List.mem_cons_self ..), hb]
  refine ⟨b, hwk, ?_⟩
  have hok := h.ok.home hwk
  have hch : S.ch k = none := by rw [h.ch]
  have hhome : S.home k b = (S.unwait k).use k b := by unfold SM.home; rw [if_pos hch]
  rw [hhome] at hok ⊢
  refine ⟨hok, h.n, h.ch, ?_, by simp [AD.write, h.pend], ?_⟩
  · intro x
    show bdel S.wt k x = _
    unfold bdel
    by_cases e : x = k
    · subst e; rw [if_pos rfl, if_neg hkn]
    · rw [if_neg e, h.wt, hd]
      simp [e]
  · intro l hl p hp
    show bdel S.wt k p.1 = none ∧ _
    rw [AD.read_write]
    have old : ∀ l ∈ S.sh, ∀ p ∈ l, bdel S.wt k p.1 = none ∧ (if p.1 = (k : Int) then b else D.read p.1) = p.2 := fun l hl p hp => by
      obtain ⟨h1, h2⟩ := h.sh l hl p hp
      have hpk : p.1 ≠ k := fun e => by rw [e, hwk] at h1; cases h1
      exact ⟨by unfold bdel; rw [if_neg hpk]; exact h1, by rw [if_neg hpk]; exact h2⟩
    rcases List.mem_or_eq_of_mem_set hl with hl | rfl
    · exact old l hl p hp
    · rcases useSh_sub _ _ _ _ p hp with rfl | hp
      · exact ⟨by simp [bdel], by simp⟩
      · have hm : (S.unwait k).sh.getD (k % (S.unwait k).sh.length) [] ∈ S.sh := shard_mem (S := S) h.ok.pos k
        exact old _ hm p hp
/-- When all are home. -/
structure Hom3 (S : SM) (D : AD) (m : Nat) : Prop where
  ok : Ok S D
  n : D.n = 128
  ch : S.ch = fun _ => none
  wt : S.wt = fun _ => none
  pend : D.pend.length = m
  sh : ∀ l ∈ S.sh, ∀ p ∈ l, D.read p.1 = p.2
theorem Hom2.done {wt0 : Int → Option Bytes} {S : SM} {D : AD} {j : Nat} (h : Hom2 wt0 S D j) (hj : (keysV wt0).length ≤ j) : Hom3 S D j := by
  refine ⟨h.ok, h.n, h.ch, ?_, h.pend, fun l hl p hp => (h.sh l hl p hp).2⟩
  funext k
  rw [h.wt, List.drop_of_length_le hj]; simp
theorem Hom3.read {S : SM} {D : AD} {m : Nat} (h : Hom3 S D m) (k : Nat) : (S.read D k).1 = D.read k ∧ Hom3 (S.read D k).2 D m := by
  have hok := h.ok.read k
  have hc : S.ch k = none := by rw [h.ch]
  have hw : S.wt k = none := by rw [h.wt]
  revert hok
  unfold SM.read
  rw [hc, hw]
  simp only
  cases hq : (S.shard k).lookup (k : Int) with
  | none =>
    intro hok
    refine ⟨rfl, ⟨hok, h.n, h.ch, h.wt, h.pend, ?_⟩⟩
    intro l hl p hp
    rcases List.mem_or_eq_of_mem_set hl with hl | rfl
    · exact h.sh l hl p hp
    · rcases useSh_sub _ _ _ _ p hp with rfl | hp
      · rfl
      · exact h.sh _ (shard_mem (S := S) h.ok.pos k) p hp
  | some b =>
    intro hok
    have hb : D.read k = b := h.sh _ (shard_mem h.ok.pos k) _ (lookup_mem hq)
    refine ⟨hb.symm, ⟨hok, h.n, h.ch, h.wt, h.pend, ?_⟩⟩
    intro l hl p hp
    rcases List.mem_or_eq_of_mem_set hl with hl | rfl
    · exact h.sh l hl p hp
    · rcases useSh_sub _ _ _ _ p hp with rfl | hp
      · exact hb
      · exact h.sh _ (shard_mem (S := S) h.ok.pos k) p hp
end Go.Proofs.Ytnhifnakgiddiaa
