/- The keys of a map, sorted; the store's 'writes'. -/
import Derived.Test.YtnhifnakgiddiaaAE
import Derived.Test.YtnhifnakgiddiaaAF
namespace Go.Proofs.Ytnhifnakgiddiaa
open Go Go.RowKit Go.MapKept Go.Sort Go.Shelf
open Go.ChangeMaps (setBlock heap_setBlock_same heap_setBlock_other)

theorem sortsA (m : Nat) : AnyZI.SortsIn Try.prog Try.sortedA_ren Fence.wide m :=
  ⟨fun blk off cap ss W hH hblk hsz => callsIn_wide.2 (AnyM.slices_Sort_int Try.sortA blk off cap ss W hH hblk hsz),
   fun p cap W => callsIn_wide.2 (AnyM.slices_Sort_int_none Try.sortA p cap W)⟩

def kclo (b : Nat) : Value := .func (.func 65) #[] #[.pointer (some ⟨b, 0, none⟩)]

theorem keys_call (mb : Option Nat) (w : World) : Calls Try.prog 43 #[.map mb] w fun e w' => e = .returned (kclo w.heap.size) ∧ w' = w.alloc (.cells #[.map mb] 25) :=
  (callsIn_wide (n := 5)).1 (AnyZI.keys_in Try.keysA Fence.wide 5 trivial rfl mb w)

theorem sorted_call {w : World} {b : Nat} {vf : Int → Option Value} (h : MapIs w b vf) (hr : ∀ k, vf k ≠ none → InR k) :
    Calls Try.prog 42 #[kclo w.heap.size] (w.alloc (.cells #[.map (some b)] 25)) fun e w' => ∃ v, e = .returned v ∧ IRow w' v (keysV vf) ∧ (v = .slice none 0 0 ↔ keysV vf = []) ∧ Below w.heap.size w w' := by
  obtain ⟨D0, hown, hsz, hperm, _⟩ := h.owns (P := Try.prog) (t := 3) Try.underlying3 hr
  have hbl := hown.lt
  have hseq : SeqGives Fence.wide 2 Try.prog 65 #[.pointer (some ⟨w.heap.size, 0, none⟩)] encZ (fun ss => ss.Perm (intKeys D0)) (Maps.size D0) (w.alloc (.cells #[.map (some b)] 25)) :=
    AnyZI.keys_gives (ρ := Try.keysA_ren) { Try.keysA with } Fence.wide _ trivial rfl (by omega) w.heap.size b _ D0 _ (by simp) (by simp) (by
      obtain ⟨es, clock, hb, Ft, hs, hD⟩ := hown
      exact ⟨es, clock, (Below.heap_alloc _ _ b hbl).trans hb, Ft, hs, hD⟩)
  have cS := AnyZI.sorted_in Try.sortedA Fence.wide 5 trivial trivial trivial trivial rfl (by omega) (sortsA _) (enters_of Try.func64 (by kernel_rfl) rfl) 65 #[.pointer (some ⟨w.heap.size, 0, none⟩)] trivial (enters_of Try.func65 (by kernel_rfl) rfl) _ _ (by unfold maxLen; omega) (by omega) _ hseq
  refine ((callsIn_wide (n := 5)).1 cS).mono ?_
  rintro e w' ⟨v, ss, he, hp, hrow, hnil, hb⟩
  have hp2 := hp.trans hperm
  have hl := hp2.length_eq
  refine ⟨v, he, ?_, ?_, ((Below.refl _ w).alloc (Nat.le_refl _) _).trans (hb.mono (by simp))⟩
  · have h2 : (ss.mergeSort (fun x y => decide (x ≤ y))).map encZ = iv (keysV vf) := by
      rw [show (ss.mergeSort (fun x y => decide (x ≤ y))) = keysV vf from keysV_sorted vf hp2]; rfl
    rw [h2, hl] at hrow
    exact ownsRow_base_a hrow (Nat.zero_le _)
  · rw [hnil]
    constructor
    · rintro rfl; exact List.length_eq_zero_iff.1 (by simpa using hl.symm)
    · intro e; rw [e] at hl; exact List.length_eq_zero_iff.1 (by simpa using hl)

theorem sorted_call_nil (w : World) :
    Calls Try.prog 42 #[kclo w.heap.size] (w.alloc (.cells #[.map none] 25)) fun e w' => e = .returned (.slice none 0 0) ∧ Below w.heap.size w w' := by
  have hseq : SeqGives Fence.wide 2 Try.prog 65 #[.pointer (some ⟨w.heap.size, 0, none⟩)] encZ (fun ss : List Int => ss = []) 0 (w.alloc (.cells #[.map none] 25)) :=
    AnyZI.keys_gives_nil (ρ := Try.keysA_ren) { Try.keysA with } Fence.wide _ trivial rfl w.heap.size _ (by simp) (by simp)
  have cS := AnyZI.sorted_in Try.sortedA Fence.wide 5 trivial trivial trivial trivial rfl (by omega) (sortsA _) (enters_of Try.func64 (by kernel_rfl) rfl) 65 #[.pointer (some ⟨w.heap.size, 0, none⟩)] trivial (enters_of Try.func65 (by kernel_rfl) rfl) _ 0 (Nat.zero_le _) (by omega) _ hseq
  refine ((callsIn_wide (n := 5)).1 cS).mono ?_
  rintro e w' ⟨v, ss, he, rfl, hrow, hnil, hb⟩
  exact ⟨by rw [he, hnil.2 rfl], ((Below.refl _ w).alloc (Nat.le_refl _) _).trans (hb.mono (by simp))⟩

def listW (f : Int → Option Bytes) : List (Int × Bytes) := (keysV f).map fun k => (k, (f k).getD [])
theorem OMap.keysV_eq {w : World} {vf : Int → Option Value} {f : Int → Option Bytes} (h : OMap w vf f) : keysV vf = keysV f := keysV_congr fun k => by
  rcases h k with ⟨a, b⟩ | ⟨v, l, a, b, _⟩
  · simp [a, b]
  · simp [a, b]

set_option maxRecDepth 100000 in
set_option maxHeartbeats 1000000 in
theorem store_writes_nil (w : World) : Calls Try.prog 44 #[.map none] w fun e w' => e = .returned (.slice none 0 0) ∧ Below w.heap.size w w' := by
  have hk := Lib.hid (keys_call none w)
  have hs := Lib.hid (sorted_call_nil w)
  unfold kclo at *
  go_enter Try.func44, Try.ntmps44
  go_wp2_with (first | (go_at_call 43; refine hk.out.mono ?_; rintro e w' ⟨rfl, rfl⟩) | (go_at_call 42; refine hs.out.mono ?_; rintro e w' ⟨rfl, hb⟩; have Hb := Lib.hid hb; clear hb))
  refine wp_loop_rounds 1 ?_
  rw [rounds_succ]
  go_wp2
  go_ret
  exact ⟨rfl, Hb.out⟩

set_option maxRecDepth 100000 in
set_option maxHeartbeats 1000000 in
theorem store_Changed (s p : Nat) (S : SM) (F : Nat → Prop) (w : World) (hS : StRep w s p S F) (hr : ∀ k, S.ch k ≠ none → InR k) :
    Calls Try.prog 17 #[ptr s] w fun e w' => ∃ v, e = .returned v ∧ IRow w' v (keysV S.ch) ∧ Below w.heap.size w w' := by
  obtain ⟨g, hA, _⟩ := hS
  have c2 : w.cell? ⟨s, 2, none⟩ = some (.map (some g.mc)) := by rw [hA.cell]; rfl
  obtain ⟨vf, hM, hO⟩ := hA.ch
  have hr' : ∀ k, vf k ≠ none → InR k := fun k hk => hr k (fun e => hk (hO.none_ e))
  have hs := Lib.hid (sorted_call hM hr')
  have hk := Lib.hid (keys_call (some g.mc) w)
  have He := Lib.hid hO.keysV_eq
  clear hA hM hO hr hr'
  unfold ptr kclo at *
  go_enter Try.func17, Try.ntmps17
  go_wp2_with (first | (go_at_call 43; refine hk.out.mono ?_; rintro e w' ⟨rfl, rfl⟩) | (go_at_call 42; refine hs.out.mono ?_; rintro e w' ⟨v, rfl, hr1, hr2, hb⟩; have Hb := Lib.hid (And.intro hr1 hb); clear hb hr1 hr2))
  go_ret
  exact ⟨v, rfl, by rw [← He.out]; exact Hb.out.1, Hb.out.2⟩

set_option maxRecDepth 100000 in
set_option maxHeartbeats 400000 in
theorem none_Changed {w : World} {v : Value} (h : NoStore w v) : Calls Try.prog 17 #[v] w fun e w' => e = .returned (.slice none 0 0) ∧ Below w.heap.size w w' := by
  rcases h with rfl | ⟨s, rfl, h⟩
  · go_enter Try.func17, Try.ntmps17
    go_wp2
    go_ret
    exact ⟨rfl, Below.refl _ _⟩
  · have c2 : w.cell? ⟨s, 2, none⟩ = some (.map none) := by rw [zero_cell h]; rfl
    have hk := Lib.hid (keys_call none w)
    have hs := Lib.hid (sorted_call_nil w)
    unfold kclo at *
    clear h
    go_enter Try.func17, Try.ntmps17
    go_wp2_with (first | (go_at_call 43; refine hk.out.mono ?_; rintro e w' ⟨rfl, rfl⟩) | (go_at_call 42; refine hs.out.mono ?_; rintro e w' ⟨rfl, hb⟩; have Hb := Lib.hid hb; clear hb))
    go_ret
    exact ⟨rfl, Hb.out⟩
set_option maxRecDepth 100000 in
set_option maxHeartbeats 400000 in
theorem none_Waiting {w : World} {v : Value} (h : NoStore w v) : Calls Try.prog 19 #[v] w fun e w' => e = .returned (.slice none 0 0) ∧ Below w.heap.size w w' := by
  rcases h with rfl | ⟨s, rfl, h⟩
  · go_enter Try.func19, Try.ntmps19
    go_wp2
    go_ret
    exact ⟨rfl, Below.refl _ _⟩
  · have c3 : w.cell? ⟨s, 3, none⟩ = some (.map none) := by rw [zero_cell h]; rfl
    have hs := Lib.hid (store_writes_nil w)
    clear h
    go_enter Try.func19, Try.ntmps19
    go_wp2_with (go_at_call 44; refine hs.out.mono ?_; rintro e w' ⟨rfl, hb⟩; have Hb := Lib.hid hb; clear hb)
    go_ret
    exact ⟨rfl, Hb.out⟩
end Go.Proofs.Ytnhifnakgiddiaa
