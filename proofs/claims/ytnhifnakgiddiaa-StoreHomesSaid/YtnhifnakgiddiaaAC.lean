/- Two helpers of the laws: 'filled' (a block of one byte), 'Same' (are two rows of bytes alike?). -/
import Derived.Test.YtnhifnakgiddiaaAB
namespace Go.Proofs.Ytnhifnakgiddiaa
open Go Go.RowKit Go.MapKept
open Go.ChangeMaps (setBlock heap_setBlock_same heap_setBlock_other)

def byteOf (x : Int) : UInt8 := UInt8.ofNat (x % 256).toNat
theorem byteOf_val (x : Int) : ((byteOf x).toNat : Int) = x % 256 := by
  unfold byteOf
  have h1 : 0 ≤ x % 256 := Int.emod_nonneg _ (by decide)
  have h2 : x % 256 < 256 := Int.emod_lt_of_pos _ (by decide)
  simp
  omega
def filledB (x : Int) : Bytes := List.replicate 256 (byteOf x)
theorem filledB_length (x : Int) : (filledB x).length = 256 := List.length_replicate
def fillAt (x : Int) (k : Nat) : Bytes := List.replicate k (byteOf x) ++ List.replicate (256 - k) 0
theorem fillAt_all (x : Int) : fillAt x 256 = filledB x := by unfold fillAt filledB; rw [Nat.sub_self, List.replicate_zero, List.append_nil]
theorem bv_set (l : Bytes) (k : Nat) (b : UInt8) : (bv l).set k (.int .u8 (b.toNat : Int)) = bv (l.set k b) := by simp [bv, List.map_set]
theorem fillAt_set (x : Int) (k : Nat) (h : k < 256) : (fillAt x k).set k (byteOf x) = fillAt x (k + 1) := by
  unfold fillAt
  rw [List.set_append_right _ _ (by simp)]
  have e : 256 - k = (256 - (k + 1)) + 1 := by omega
  rw [List.length_replicate, Nat.sub_self, e, List.replicate_succ, List.set_cons_zero, List.replicate_succ', List.append_assoc]; rfl
theorem fillAt_get (x : Int) (k : Nat) (h : k < 256) : (bv (fillAt x k))[k]? = some (.int .u8 0) := by
  rw [bv_get]; unfold fillAt
  rw [List.getElem?_append_right (by rw [List.length_replicate]; omega), List.length_replicate, Nat.sub_self, List.getElem?_replicate, if_pos (by omega)]; rfl

/-- A block of bytes. -/
def BAt (w : World) (g : Nat) (l : Bytes) : Prop := w.heap[g]? = some (.cells (bv l).toArray 5 (0, 0))
theorem BAt.blk {w : World} {g : Nat} {l : Bytes} (h : BAt w g l) (hl : l.length ≤ 1000000) : Blk w (.slice (some ⟨g, 0, none⟩) l.length l.length) l :=
  ⟨by simp [bv_length], .inr ⟨g, l.length, _, rfl, Nat.zero_le _, h, Nat.le_refl _, by unfold maxLen; omega, by simp [bv_length], by rw [Nat.mul_one, List.take_of_length_le (by simp [bv_length])]⟩⟩
theorem BAt.cell {w : World} {g : Nat} {l : Bytes} (h : BAt w g l) {j : Nat} {b : UInt8} (hj : l[j]? = some b) : w.cell? ⟨g, j, none⟩ = some (.int .u8 (b.toNat : Int)) := by
  rw [blk_cell h]; simp [bv_get, hj]

theorem BAt.of_own {w : World} {g n : Nat} {l : Bytes} (h : w.ownsRow 0 5 1 (.slice (some ⟨g, 0, none⟩) n n) n (bv l)) : BAt w g l := by
  obtain ⟨hl, h⟩ := h
  rcases h with ⟨h1, _⟩ | ⟨g', cap, cur, h1, _, hg, hle, hm, hs, ht⟩
  · cases h1
  · simp only [Value.slice.injEq, Option.some.injEq, Addr.mk.injEq] at h1
    obtain ⟨⟨rfl, _⟩, _, rfl⟩ := h1
    rw [Nat.mul_one] at ht hs
    unfold BAt
    rw [hg, ← ht, List.take_of_length_le (by simp [hs])]

set_option maxRecDepth 100000 in
set_option maxHeartbeats 1000000 in
theorem law_filled (x : Int) (w : World) :
    Calls Try.prog 11 #[.int .i64 x] w fun e w' => e = .returned (.slice (some ⟨w.heap.size, 0, none⟩) 256 256) ∧ BAt w' w.heap.size (filledB x) ∧ Below w.heap.size w w' := by
  have hx := byteOf_val x
  go_enter Try.func11, Try.ntmps11
  obtain ⟨i0, hi, hz0, hz1, hz2⟩ := info_parts infoB
  have Hi := Lib.hid (And.intro hi (And.intro hz0 (And.intro hz1 hz2))); clear hi hz0 hz1 hz2
  go_wp2_with (at_make; refine wpList_make_full _ rfl _ _ 32 rfl 0 5 i0 (.int .u8 0) 1 Try.underlying32 Hi.out.1 Hi.out.2.1 Hi.out.2.2.1 _ _ _ _ 256 rfl rfl rfl rfl (by rw [Hi.out.2.2.2]; decide) (by decide) (Nat.zero_le _) ?_)
  intro w1 hown hgrow
  have hbl1 : Below w.heap.size w w1 := (Below.refl _ w).grown hgrow (Nat.le_refl _) (fun k h => by cases h)
  have hb1 : BAt w1 w.heap.size (fillAt x 0) := by
    rw [show (madeCells #[Value.int .u8 0] 256).toList = bv (List.replicate 256 0) from madeBytes 256] at hown
    have := BAt.of_own hown
    unfold fillAt
    rw [List.replicate_zero, List.nil_append, Nat.sub_zero]; exact this
  have HB1 := Lib.hid (And.intro hb1 hbl1); clear hb1 hbl1 hown hgrow
  go_wp2
  go_loopg [4] 256 (fun k i wr => ∃ j : Nat, k = 256 - j ∧ j ≤ 256 ∧ i = .int .i64 j ∧ BAt wr w.heap.size (fillAt x j) ∧ Below w.heap.size w wr)
  case atStart =>
    exact ⟨0, rfl, by omega, rfl, HB1.out.1, HB1.out.2⟩
  case round =>
    obtain ⟨j, hk, hj, rfl, hb, hbl⟩ := hrel
    by_cases hlt : j < 256
    · have c0 : wr.cell? ⟨w.heap.size, j, none⟩ = some (.int .u8 0) := by rw [blk_cell hb]; simpa using fillAt_get x j hlt
      have f0 : wr.frozen? ⟨w.heap.size, j, none⟩ = false := blk_frozen hb j
      have hlt' : (j : Int) < 256 := by omega
      have HB := Lib.hid (And.intro hb hbl); clear hb hbl
      have Hx := Lib.hid hx; clear hx
      go_wp2
      go_roundg (256 - (j + 1))
      case measure => omega
      case rel =>
        refine ⟨j + 1, rfl, by omega, by go_num, ?_, HB.out.2.setCell (p := ⟨w.heap.size, j, none⟩) (Nat.le_refl _) _⟩
        have := blk_set HB.out.1 j (.int .u8 ((byteOf x).toNat : Int))
        unfold BAt
        rw [Hx.out] at this
        rw [this]
        congr 2
        rw [List.setIfInBounds_toArray, ← Hx.out, bv_set, fillAt_set x j hlt]
    · have : j = 256 := by omega
      subst this
      have HB := Lib.hid (And.intro hb hbl); clear hb hbl
      clear hx
      go_wp2
      go_ret
      exact ⟨rfl, by rw [← fillAt_all]; exact HB.out.1, HB.out.2⟩

theorem Blk.cells_ {w : World} {v : Value} {l : Bytes} (h : Blk w v l) : (v = .slice none 0 0 ∧ l = []) ∨ ∃ g c, v = .slice (some ⟨g, 0, none⟩) l.length c ∧ ∀ (j : Nat) b, l[j]? = some b → w.cell? ⟨g, j, none⟩ = some (.int .u8 (b.toNat : Int)) := by
  rcases own_cells h with ⟨h1, h2⟩ | ⟨g, c, h1, _, h2⟩
  · exact .inl ⟨h1, List.length_eq_zero_iff.1 h2⟩
  · exact .inr ⟨g, c, h1, fun j b hb => h2 j _ (by rw [bv_get, hb]; rfl)⟩

set_option maxRecDepth 100000 in
set_option maxHeartbeats 2000000 in
theorem ref01_Same (va vb : Value) (la lb : Bytes) (w : World) (ha : Blk w va la) (hb : Blk w vb lb) (hl : la.length ≤ 1000000) :
    Calls Try.prog 24 #[va, vb] w fun e w' => e = .returned (.bool (la == lb)) ∧ Below w.heap.size w w' := by
  obtain ⟨A, ca, hva⟩ := own_slice ha
  obtain ⟨B, cb, hvb⟩ := own_slice hb
  subst hva hvb
  by_cases hlen : la.length = lb.length
  · have Ha := Lib.hid ha.cells_
    have Hb := Lib.hid hb.cells_
    have HH := Lib.hid (And.intro ha hb)
    clear ha hb
    have hlen' : ((la.length : Int) != (lb.length : Int)) = false := by simp [hlen]
    have hlen2 : (la.length != lb.length) = false := by simp [hlen]
    have Hl := Lib.hid hlen; clear hlen
    go_enter Try.func24, Try.ntmps24
    go_wp2
    go_loopg [5] la.length (fun k i wr => ∃ j : Nat, k = la.length - j ∧ j ≤ la.length ∧ i = .int .i64 j ∧ la.take j = lb.take j ∧ Below w.heap.size w wr)
    case atStart => exact ⟨0, rfl, Nat.zero_le _, rfl, rfl, Below.refl _ _⟩
    case round =>
      obtain ⟨j, hk, hj, rfl, ht, hbl⟩ := hrel
      by_cases hlt : j < la.length
      · have hlt' : (j : Int) < (la.length : Int) := by omega
        obtain ⟨x, hx⟩ : ∃ x, la[j]? = some x := ⟨_, List.getElem?_eq_getElem hlt⟩
        obtain ⟨y, hy⟩ : ∃ y, lb[j]? = some y := ⟨_, List.getElem?_eq_getElem (by have := Hl.out; omega)⟩
        have hltb : (j : Int) < (lb.length : Int) := by have := Hl.out; omega
        have h1 := (HH.out.1.below hbl).cells_
        have h2 := (HH.out.2.below hbl).cells_
        rcases h1 with ⟨_, h1⟩ | ⟨ga, ca', h1, k1⟩
        · rw [h1] at hlt; simp at hlt
        rcases h2 with ⟨_, h2⟩ | ⟨gb, cb', h2, k2⟩
        · exact absurd hltb (by rw [h2]; simp)
        cases h1; cases h2
        have c1 := k1 j x hx
        have c2 := k2 j y hy
        have HT := Lib.hid (And.intro ht (And.intro hbl (And.intro hx hy)))
        clear ht hbl hx hy k1 k2
        by_cases hxy : x = y
        · have e1 : ((x.toNat : Int) != (y.toNat : Int)) = false := by simp [hxy]
          have e2 : (x.toNat != y.toNat) = false := by simp [hxy]
          have Hxy := Lib.hid hxy; clear hxy
          go_wp2
          go_region
          go_wp2
          go_roundg (la.length - (j + 1))
          case measure => omega
          case rel =>
            refine ⟨j + 1, rfl, by omega, by go_num, ?_, HT.out.2.1.drew⟩
            rw [List.take_add_one, List.take_add_one, HT.out.1, HT.out.2.2.1, HT.out.2.2.2, Hxy.out]
        · have e1 : ((x.toNat : Int) != (y.toNat : Int)) = true := by
            rw [bne_iff_ne]; intro e; exact hxy (UInt8.toNat_inj.1 (by omega))
          have e2 : (x.toNat != y.toNat) = true := by
            rw [bne_iff_ne]; intro e; exact hxy (UInt8.toNat_inj.1 e)
          have Hxy := Lib.hid hxy; clear hxy
          go_wp2
          go_region
          go_wp2
          go_ret
          refine ⟨?_, HT.out.2.1.drew⟩
          have : (la == lb) = false := by
            rw [beq_eq_false_iff_ne]
            intro e
            have h1 := HT.out.2.2.1
            rw [e, HT.out.2.2.2] at h1
            exact Hxy.out (Option.some.inj h1).symm
          rw [this]; rfl
      · have hjl : j = la.length := by omega
        have Hbl := Lib.hid hbl; clear hbl
        have Ht := Lib.hid ht; clear ht
        have hlt' : ¬ (j : Int) < (la.length : Int) := by omega
        go_wp2
        go_ret
        refine ⟨?_, Hbl.out⟩
        have : la = lb := by
          have h := Ht.out
          rw [List.take_of_length_le (by omega), List.take_of_length_le (by have := Hl.out; omega)] at h
          exact h
        rw [this]; simp
  · have hlen' : ((la.length : Int) != (lb.length : Int)) = true := by rw [bne_iff_ne]; omega
    have hlen2 : (la.length != lb.length) = true := by rw [bne_iff_ne]; omega
    have Hl := Lib.hid hlen; clear hlen ha hb
    go_enter Try.func24, Try.ntmps24
    go_wp2
    go_ret
    refine ⟨?_, Below.refl _ _⟩
    have : (la == lb) = false := by
      rw [beq_eq_false_iff_ne]; intro e; exact Hl.out (by rw [e])
    rw [this]; rfl
end Go.Proofs.Ytnhifnakgiddiaa
