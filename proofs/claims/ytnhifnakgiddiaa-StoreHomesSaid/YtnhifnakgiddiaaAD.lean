/- A store that was never made: nil, or all zeros: each of its calls, but those that list. -/
import Derived.Test.YtnhifnakgiddiaaAC
namespace Go.Proofs.Ytnhifnakgiddiaa
open Go Go.RowKit Go.MapKept
open Go.ChangeMaps (setBlock heap_setBlock_same heap_setBlock_other)

def zeroStore : Obj := .cells #[.pointer none, .int .i64 0, .map none, .map none, .map none, .slice none 0 0, .slice none 0 0, .int .i64 0, .int .i64 0] 30 (0, 0)
def NoStore (w : World) (v : Value) : Prop := v = .pointer none ∨ ∃ s, v = .pointer (some ⟨s, 0, none⟩) ∧ w.heap[s]? = some zeroStore
theorem NoStore.below {w w' : World} {v : Value} (h : NoStore w v) (hb : Below w.heap.size w w') : NoStore w' v := by
  rcases h with h | ⟨s, h1, h2⟩
  · exact .inl h
  · exact .inr ⟨s, h1, (hb.block s (blk_lt h2)).trans h2⟩
theorem zero_cell {w : World} {s : Nat} (h : w.heap[s]? = some zeroStore) (i : Nat) : w.cell? ⟨s, i, none⟩ = (#[.pointer none, .int .i64 0, .map none, .map none, .map none, .slice none 0 0, .slice none 0 0, .int .i64 0, .int .i64 0] : Array Value)[i]? := blk_cell h i

set_option maxHeartbeats 400000 in
theorem none_Blocks {w : World} {v : Value} (h : NoStore w v) : Calls Try.prog 20 #[v] w fun e w' => e = .returned (.int .i64 0) ∧ w = w' := by
  rcases h with rfl | ⟨s, rfl, h⟩
  · go_enter Try.func20, Try.ntmps20
    go_wp2
    go_ret
    exact ⟨rfl, rfl⟩
  · have c0 : w.cell? ⟨s, 0, none⟩ = some (.pointer none) := by rw [zero_cell h]; rfl
    clear h
    go_enter Try.func20, Try.ntmps20
    go_wp2_with (go_at_call 46; refine (disk_Blocks_nil _).mono ?_; rintro e w' ⟨rfl, rfl⟩)
    go_ret
    exact ⟨rfl, rfl⟩

set_option maxHeartbeats 400000 in
theorem none_has {w : World} {v : Value} (h : NoStore w v) (n : Int) : Calls Try.prog 34 #[v, .int .i64 n] w fun e w' => e = .returned (.bool false) ∧ w = w' := by
  have hB := Lib.hid (none_Blocks h)
  clear h
  by_cases h0 : 0 ≤ n
  · have h1 : decide (n < 0) = false := by simp; omega
    go_enter Try.func34, Try.ntmps34
    go_wp2_with (go_at_call 20; refine hB.out.mono ?_; rintro e w' ⟨rfl, rfl⟩)
    go_ret
    exact ⟨by first | rfl | simp, rfl⟩
  · go_enter Try.func34, Try.ntmps34
    go_wp2_with (go_at_call 20; refine hB.out.mono ?_; rintro e w' ⟨rfl, rfl⟩)
    go_ret
    exact ⟨by first | rfl | simp, rfl⟩

set_option maxHeartbeats 400000 in
theorem none_Release {w : World} {v : Value} (h : NoStore w v) : Calls Try.prog 7 #[v] w fun e w' => e = .returned (.tuple #[]) ∧ w = w' := by
  have hB := Lib.hid (none_Blocks h)
  clear h
  go_enter Try.func7, Try.ntmps7
  go_wp2_with (go_at_call 20; refine hB.out.mono ?_; rintro e w' ⟨rfl, rfl⟩)
  go_end0
  exact ⟨rfl, rfl⟩

set_option maxHeartbeats 400000 in
theorem none_Read {w : World} {v : Value} (h : NoStore w v) (n : Int) : Calls Try.prog 8 #[v, .int .i64 n] w fun e w' => e = .returned (.tuple #[.slice none 0 0, .int .i64 5]) ∧ w = w' := by
  have hB := Lib.hid (none_has h n)
  clear h
  go_enter Try.func8, Try.ntmps8
  go_wp2_with (go_at_call 34; refine hB.out.mono ?_; rintro e w' ⟨rfl, rfl⟩)
  go_ret2
  exact ⟨rfl, rfl⟩

set_option maxHeartbeats 400000 in
theorem none_Counts {w : World} {v : Value} (h : NoStore w v) : Calls Try.prog 9 #[v] w fun e w' => e = .returned (.tuple #[.int .i64 0, .int .i64 0]) ∧ Below w.heap.size w w' := by
  rcases h with rfl | ⟨s, rfl, h⟩
  · go_enter Try.func9, Try.ntmps9
    go_wp2
    go_ret2
    exact ⟨rfl, Below.refl _ _⟩
  · have c7 : w.cell? ⟨s, 7, none⟩ = some (.int .i64 0) := by rw [zero_cell h]; rfl
    have c8 : w.cell? ⟨s, 8, none⟩ = some (.int .i64 0) := by rw [zero_cell h]; rfl
    clear h
    go_enter Try.func9, Try.ntmps9
    go_wp2
    go_region
    go_wp2
    go_ret2
    exact ⟨rfl, (Below.refl _ w).drew⟩

set_option maxHeartbeats 400000 in
theorem none_Write {w : World} {v : Value} (h : NoStore w v) (n : Int) (ao : Option Addr) (l c : Nat) : Calls Try.prog 10 #[v, .int .i64 n, .slice ao l c] w fun e w' => e = .returned (.int .i64 5) ∧ Below w.heap.size w w' := by
  have h' := h
  rcases h' with rfl | ⟨s, rfl, _⟩
  · have hb : Below w.heap.size w ((w.alloc (.cells #[.pointer none] 23)).alloc (.cells #[.int .i64 n] 3)) := ((Below.refl _ w).alloc (Nat.le_refl _) _).alloc (by simp) _
    have hB := Lib.hid (And.intro (none_has (h.below hb) n) hb)
    clear h hb
    go_enter Try.func10, Try.ntmps10
    go_wp2_with (go_at_call 34; refine hB.out.1.mono ?_; rintro e w' ⟨rfl, rfl⟩)
    go_ret
    exact ⟨rfl, hB.out.2⟩
  · have hb : Below w.heap.size w ((w.alloc (.cells #[.pointer (some ⟨s, 0, none⟩)] 23)).alloc (.cells #[.int .i64 n] 3)) := ((Below.refl _ w).alloc (Nat.le_refl _) _).alloc (by simp) _
    have hB := Lib.hid (And.intro (none_has (h.below hb) n) hb)
    clear h hb
    go_enter Try.func10, Try.ntmps10
    go_wp2_with (go_at_call 34; refine hB.out.1.mono ?_; rintro e w' ⟨rfl, rfl⟩)
    go_ret
    exact ⟨rfl, hB.out.2⟩

set_option maxHeartbeats 400000 in
theorem none_Hold {w : World} {v : Value} (h : NoStore w v) (n : Int) : Calls Try.prog 12 #[v, .int .i64 n] w fun e w' => e = .returned (.int .i64 22) ∧ Below w.heap.size w w' := by
  have hb : Below w.heap.size w (w.alloc (.cells #[.int .i64 n] 3)) := (Below.refl _ w).alloc (Nat.le_refl _) _
  have hB := Lib.hid (And.intro (none_has (h.below hb) n) hb)
  clear h hb
  go_enter Try.func12, Try.ntmps12
  go_wp2_with (go_at_call 34; refine hB.out.1.mono ?_; rintro e w' ⟨rfl, rfl⟩)
  go_ret
  exact ⟨rfl, hB.out.2⟩

set_option maxHeartbeats 400000 in
theorem none_Back {w : World} {v : Value} (h : NoStore w v) (n : Int) : Calls Try.prog 13 #[v, .int .i64 n] w fun e w' => e = .returned (.int .i64 22) ∧ w = w' := by
  have hB := Lib.hid (none_Blocks h)
  clear h
  go_enter Try.func13, Try.ntmps13
  go_wp2_with (go_at_call 20; refine hB.out.mono ?_; rintro e w' ⟨rfl, rfl⟩)
  go_ret
  exact ⟨rfl, rfl⟩

set_option maxHeartbeats 400000 in
theorem none_Home {w : World} {v : Value} (h : NoStore w v) (n : Int) : Calls Try.prog 14 #[v, .int .i64 n] w fun e w' => e = .returned (.int .i64 22) ∧ w = w' := by
  have hB := Lib.hid (none_has h n)
  clear h
  go_enter Try.func14, Try.ntmps14
  go_wp2_with (go_at_call 34; refine hB.out.mono ?_; rintro e w' ⟨rfl, rfl⟩)
  go_ret
  exact ⟨rfl, rfl⟩

set_option maxHeartbeats 400000 in
theorem none_Held {w : World} {v : Value} (h : NoStore w v) (n : Int) : Calls Try.prog 15 #[v, .int .i64 n] w fun e w' => e = .returned (.bool false) ∧ w = w' := by
  have hB := Lib.hid (none_has h n)
  clear h
  go_enter Try.func15, Try.ntmps15
  go_wp2_with (go_at_call 34; refine hB.out.mono ?_; rintro e w' ⟨rfl, rfl⟩)
  go_ret
  exact ⟨rfl, rfl⟩

set_option maxHeartbeats 400000 in
theorem none_Mark {w : World} {v : Value} (h : NoStore w v) : Calls Try.prog 16 #[v] w fun e w' => e = .returned (.int .i64 0) ∧ w = w' := by
  rcases h with rfl | ⟨s, rfl, h⟩
  · go_enter Try.func16, Try.ntmps16
    go_wp2
    go_ret
    exact ⟨rfl, rfl⟩
  · have c5 : w.cell? ⟨s, 5, none⟩ = some (.slice none 0 0) := by rw [zero_cell h]; rfl
    clear h
    go_enter Try.func16, Try.ntmps16
    go_wp2
    go_ret
    exact ⟨rfl, rfl⟩

set_option maxHeartbeats 400000 in
theorem none_Commit {w : World} {v : Value} (h : NoStore w v) : Calls Try.prog 18 #[v] w fun e w' => e = .returned (.slice none 0 0) ∧ w = w' := by
  have hB := Lib.hid (none_Blocks h)
  clear h
  go_enter Try.func18, Try.ntmps18
  go_wp2_with (go_at_call 20; refine hB.out.mono ?_; rintro e w' ⟨rfl, rfl⟩)
  go_ret
  exact ⟨rfl, rfl⟩
end Go.Proofs.Ytnhifnakgiddiaa
