/- Maps with int keys, between this claim's word on them ('MapIs') and the maps' kit's ('World.ownsMap'); their keys as a list. Over any program. -/
import Derived.Test.YtnhifnakgiddiaaAD
import Derived.Lib.SlMapMerge
import Derived.Lib.SlKeysI
namespace Go.Proofs.Ytnhifnakgiddiaa
open Go Go.RowKit Go.MapKept
open Go.WideElems (Fit rd rg rd_key rd_val rg_of rd_mk)
open Go.Maps (Keyed int_keyed KeysOf)

/-- An element read as itself. -/
def RV (v : Value) : Option (DataW Value × List MemPlace) := some (.held v, [])
/-- What a datum holds at a key. -/
def vw (D : DataW Value) (k : Int) : Option Value := match D.atKey (.int .i64 k) .nil with
  | .held v => some v
  | _ => none
def InR (k : Int) : Prop := 0 ≤ k ∧ k < 4096
theorem InR.wf {k : Int} (h : InR k) : (Lit.int .i64 k).wf = true := by
  obtain ⟨h1, h2⟩ := h
  simp only [Lit.wf, Bool.and_eq_true, decide_eq_true_eq, show IntKind.min .i64 = -9223372036854775808 from rfl, show IntKind.max .i64 = 9223372036854775807 from rfl]
  omega

/-- The keys, rising. -/
def keysV {α : Type} (m : Int → Option α) : List Int := ((List.range 4096).map (fun (n : Nat) => (n : Int))).filter fun k => (m k).isSome
theorem mem_keysV {α : Type} {m : Int → Option α} (hr : ∀ k, m k ≠ none → InR k) (x : Int) : x ∈ keysV m ↔ m x ≠ none := by
  simp only [keysV, List.mem_filter, List.mem_map, List.mem_range, Option.isSome_iff_ne_none]
  constructor
  · exact fun h => h.2
  · intro h
    obtain ⟨h1, h2⟩ := hr x h
    exact ⟨⟨x.toNat, by omega, by omega⟩, h⟩
theorem keysV_lt {α : Type} (m : Int → Option α) : (keysV m).Pairwise (fun a b => a < b) := by
  refine List.Pairwise.filter _ ?_
  rw [List.pairwise_map]
  exact List.pairwise_lt_range.imp (fun h => by omega)
theorem keysV_nodup {α : Type} (m : Int → Option α) : (keysV m).Nodup := (keysV_lt m).imp (fun h => by omega)
theorem keysV_length {α : Type} (m : Int → Option α) : (keysV m).length ≤ 4096 := Nat.le_trans (List.length_filter_le _ _) (by simp)
theorem keysV_sorted {α : Type} (m : Int → Option α) {ss : List Int} (h : ss.Perm (keysV m)) : ss.mergeSort leI = keysV m := by
  rw [mergeSort_of_perm_i h]
  exact List.mergeSort_of_pairwise ((keysV_lt m).imp (fun h => by simp only [leI, decide_eq_true_eq]; omega))
theorem keysV_congr {α β : Type} {m : Int → Option α} {m' : Int → Option β} (h : ∀ k, m k = none ↔ m' k = none) : keysV m = keysV m' := by
  unfold keysV
  refine List.filter_congr fun k _ => ?_
  have := h k
  cases h1 : m k <;> cases h2 : m' k <;> simp_all

section
variable {P : Program} {t : TypeId} {w : World} {b : Nat}

theorem keyOf_int (ht : P.underlying t = some (.int .i64)) {k : Int} (hk : InR k) : keyOf P t (.int .i64 k) = some (.int .i64 k) := by
  simp [keyOf, ht, mapKey, hk.wf]

theorem MapIs.owns {m : Int → Option Value} (h : MapIs w b m) (ht : P.underlying t = some (.int .i64)) (hr : ∀ k, m k ≠ none → InR k) :
    ∃ D, w.ownsMap P t RV b (Maps.size D) D ∧ Maps.size D ≤ 4096 ∧ (intKeys D).Perm (keysV m) ∧ vw D = m := by
  obtain ⟨es, clock, hb, ho⟩ := h
  have hk : ∀ x ∈ es.toList, ∃ k, x.key = .int .i64 k ∧ m k = some x.val ∧ InR k := fun x hx => by
    obtain ⟨k, h1, h2⟩ := ho.keys x hx
    exact ⟨k, h1, h2, hr k (by rw [h2]; simp)⟩
  have hrd : ∀ x ∈ es.toList, ∀ k, x.key = .int .i64 k → rd P t RV x = some (.int .i64 k, .held x.val) := fun x hx k hxk => by
    obtain ⟨k', h1, _, h3⟩ := hk x hx
    rw [hxk] at h1; cases h1
    obtain ⟨xk, xv, xb⟩ := x
    simp only at hxk; subst hxk
    exact rd_mk (R := RV) (yv := (.held xv, [])) (keyOf_int ht h3) rfl
  -- the keys as ints
  have hkeys : (es.toList.map (rg P t RV)).map (fun p => intOf p.1) = es.toList.map fun x => (match x.key with | .int _ a => a | _ => 0 : Int) := by
    rw [List.map_map]
    refine List.map_congr_left fun x hx => ?_
    obtain ⟨k, h1, _⟩ := hk x hx
    show intOf (rg P t RV x).1 = _
    rw [rg_of (hrd x hx k h1), h1]; rfl
  have hnd : (es.toList.map fun x => (match x.key with | .int _ a => a | _ => 0 : Int)).Nodup := by
    have h0 : (es.toList.map (·.key)).Nodup := ho.stamped.2.2
    unfold List.Nodup at h0 ⊢
    rw [List.pairwise_map] at h0 ⊢
    refine h0.imp_of_mem fun {x y} hx hy hne e => hne ?_
    obtain ⟨kx, hx1, _⟩ := hk x hx
    obtain ⟨ky, hy1, _⟩ := hk y hy
    rw [hx1, hy1] at e ⊢
    simp only at e; rw [e]
  have hperm : (es.toList.map fun x => (match x.key with | .int _ a => a | _ => 0 : Int)).Perm (keysV m) := by
    refine (List.perm_ext_iff_of_nodup hnd (keysV_nodup m)).2 fun k => ?_
    rw [mem_keysV hr, List.mem_map]
    constructor
    · rintro ⟨x, hx, rfl⟩
      obtain ⟨k', h1, h2, _⟩ := hk x hx
      rw [h1]; simp [h2]
    · intro hne
      obtain ⟨v, hv⟩ := Option.ne_none_iff_exists'.1 hne
      obtain ⟨x, hx, hxk⟩ := ho.mem k v hv
      exact ⟨x, hx, by rw [hxk]⟩
  have hlen : es.size ≤ 4096 := by
    have := hperm.length_eq
    have h2 := keysV_length m
    simp at this
    omega
  have hF : Fit P t RV es clock := ⟨by unfold maxLen; omega, ho.stamped, fun x hx => by obtain ⟨k, h1, _⟩ := hk x hx; exact ⟨_, hrd x hx k h1⟩⟩
  have hsz : Maps.size (.map ((es.toList.map (rg P t RV)).foldr DataW.insert []) : DataW Value) = es.size := by
    rw [Maps.size_eq, length_sorted]; simp
  refine ⟨.map ((es.toList.map (rg P t RV)).foldr DataW.insert []), ⟨es, clock, hb, hF, by rw [hsz]; exact Nat.le_refl _, rfl⟩, by rw [hsz]; exact hlen, ?_, ?_⟩
  · have h1 : (intKeys (.map ((es.toList.map (rg P t RV)).foldr DataW.insert []) : DataW Value)).Perm ((es.toList.map (rg P t RV)).map fun p => intOf p.1) := (WideShapes.sorted_perm _).map _
    rw [hkeys] at h1
    exact h1.trans hperm
  · funext k
    have hris := Maps.fit_rising (int_keyed ht) hF
    cases hm : m k with
    | none =>
      have := (WideShapes.atKey_sorted (es.toList.map (rg P t RV)) hris (.int .i64 k) (by simp [WideAt.IsKeyLit])).1 (fun p hp => by
        obtain ⟨x, hx, rfl⟩ := List.mem_map.1 hp
        obtain ⟨k', h1, h2, _⟩ := hk x hx
        rw [rg_of (hrd x hx k' h1)]
        intro e
        simp only [Lit.int.injEq] at e
        rw [e.2, hm] at h2; cases h2) .nil
      simp only [vw, this]
    | some v =>
      obtain ⟨x, hx, hxk⟩ := ho.mem k v hm
      obtain ⟨k', h1, h2, _⟩ := hk x hx
      rw [hxk] at h1; cases h1
      have := (WideShapes.atKey_sorted (es.toList.map (rg P t RV)) hris (.int .i64 k) (by simp [WideAt.IsKeyLit])).2 (rg P t RV x) (List.mem_map_of_mem hx) (by rw [rg_of (hrd x hx k hxk)]) .nil
      rw [rg_of (hrd x hx k hxk)] at this
      rw [hm] at h2; cases h2
      simp only [vw, this]

/-- And back. -/
theorem MapIs.of_owns {n : Nat} {D : DataW Value} (h : w.ownsMap P t RV b n D) (ht : P.underlying t = some (.int .i64)) : MapIs w b (vw D) := by
  obtain ⟨es, clock, hb, F, _, rfl⟩ := h
  have hris := Maps.fit_rising (int_keyed ht) F
  have hk : ∀ x ∈ es.toList, ∃ k, x.key = .int .i64 k ∧ rg P t RV x = (.int .i64 k, .held x.val) := fun x hx => by
    obtain ⟨y, hy⟩ := F.reads x hx
    obtain ⟨k, h1, h2, _⟩ := Maps.keyOf_i64 ht (rd_key hy)
    obtain ⟨z, h3, h4⟩ := rd_val hy
    cases h3
    refine ⟨k, h1, ?_⟩
    rw [rg_of hy]
    obtain ⟨y1, y2⟩ := y
    simp only at h2 h4
    rw [h2, h4]
  refine ⟨es, clock, hb, F.stamped, fun x hx => ?_, fun k v hv => ?_⟩
  · obtain ⟨k, h1, h2⟩ := hk x hx
    refine ⟨k, h1, ?_⟩
    have := (WideShapes.atKey_sorted (es.toList.map (rg P t RV)) hris (.int .i64 k) (by simp [WideAt.IsKeyLit])).2 (rg P t RV x) (List.mem_map_of_mem hx) (by rw [h2]) .nil
    rw [h2] at this
    simp only [vw, this]
  · by_cases hex : ∃ x ∈ es.toList, x.key = .int .i64 k
    · exact hex
    · have := (WideShapes.atKey_sorted (es.toList.map (rg P t RV)) hris (.int .i64 k) (by simp [WideAt.IsKeyLit])).1 (fun p hp => by
        obtain ⟨x, hx, rfl⟩ := List.mem_map.1 hp
        obtain ⟨k', h1, h2⟩ := hk x hx
        rw [h2]
        intro e
        simp only [Lit.int.injEq] at e
        exact hex ⟨x, hx, by rw [h1, e.2]⟩) .nil
      simp [vw, this] at hv

def mergeF {α : Type} (d s : Int → Option α) : Int → Option α := fun k => match s k with
  | some b => some b
  | none => d k
theorem vw_merge {w' : World} {b' n n' : Nat} {Dd Ds : DataW Value} (hd : w.ownsMap P t RV b n Dd) (hs : w'.ownsMap P t RV b' n' Ds) (ht : P.underlying t = some (.int .i64)) :
    vw (Lib.mergeD Dd Ds) = mergeF (vw Dd) (vw Ds) := by
  obtain ⟨es, rfl, rs, ks⟩ := hs.canonK (int_keyed ht)
  obtain ⟨ed, rfl, _, _⟩ := hd.canonK (int_keyed ht)
  have hne : es.Pairwise (fun p q => p.1 ≠ q.1) := by
    obtain ⟨es', hD, hpw, _⟩ := hs.entries (int_keyed ht)
    cases hD; exact hpw
  have hkl : ∀ p ∈ es, WideAt.IsKeyLit p.1 := fun p hp => by
    obtain ⟨es', hD, hko⟩ := hs.keysOf
    cases hD
    obtain ⟨v, hv⟩ := hko p hp
    obtain ⟨x, _, hx, _⟩ := Maps.keyOf_i64 ht hv
    rw [hx]; simp [WideAt.IsKeyLit]
  have hheld : ∀ p ∈ es, ∃ v, p.2 = .held v := fun p hp => by
    obtain ⟨es0, clock, hb, F, _, hD⟩ := hs
    cases hD
    rw [(WideShapes.sorted_perm _).mem_iff] at hp
    obtain ⟨x, hx, rfl⟩ := List.mem_map.1 hp
    obtain ⟨y, hy⟩ := F.reads x hx
    obtain ⟨z, h3, h4⟩ := rd_val hy
    cases h3
    exact ⟨x.val, by rw [rg_of hy, h4]⟩
  funext k
  have h1 := Maps.atKey_foldPut (.int .i64 k) .nil es (.map ed) ⟨_, rfl⟩ hkl hne
  show (match (Lib.mergeD (.map ed) (.map es)).atKey (.int .i64 k) .nil with | .held v => some v | _ => none) = _
  rw [show Lib.mergeD (.map ed) (.map es) = es.foldl (fun D p => D.put p.1 p.2) (.map ed) from rfl, h1]
  unfold mergeF vw
  simp only [DataW.atKey]
  cases hf : es.find? (fun p => p.1.sameKey (.int .i64 k)) with
  | none => rfl
  | some p =>
    obtain ⟨v, hv⟩ := hheld p (List.mem_of_find?_eq_some hf)
    simp only [hv]
end
end Go.Proofs.Ytnhifnakgiddiaa
