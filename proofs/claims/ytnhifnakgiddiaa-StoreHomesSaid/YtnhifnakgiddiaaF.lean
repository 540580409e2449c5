/- Rows of ints; the cache's 'forget': its closure, slices.IndexFunc and slices.DeleteFunc at it. -/
import Derived.Test.YtnhifnakgiddiaaE
namespace Go.Proofs.Ytnhifnakgiddiaa
open Go Go.RowKit Go.MapKept
open Go.ChangeMaps (setBlock heap_setBlock_same heap_setBlock_other)

def iv (xs : List Int) : List Value := xs.map fun x => .int .i64 x
theorem iv_length (xs : List Int) : (iv xs).length = xs.length := by simp [iv]
theorem iv_get (xs : List Int) (j : Nat) : (iv xs)[j]? = (xs[j]?).map fun x => .int .i64 x := by simp [iv]
theorem iv_append (xs ys : List Int) : iv (xs ++ ys) = iv xs ++ iv ys := by simp [iv]
def IRow (w : World) (v : Value) (xs : List Int) : Prop := w.ownsRow 0 3 1 v xs.length (iv xs)

def fclo (bx : Nat) : Value := .func (.func 62) #[] #[.pointer (some ⟨bx, 0, none⟩)]

set_option maxHeartbeats 400000 in
theorem forget1 (bx : Nat) (k n : Int) (w : World) (h : w.cell? ⟨bx, 0, none⟩ = some (.int .i64 n)) :
    Calls Try.prog 62 #[.int .i64 k, .pointer (some ⟨bx, 0, none⟩)] w fun e w' => e = .returned (.bool (k == n)) ∧ w = w' := by
  go_enter Try.func62, Try.ntmps62
  go_wp2
  go_ret
  exact ⟨rfl, rfl⟩

def NoIn (n : Int) (xs : List Int) (k : Nat) : Prop := ∀ j : Nat, j < k → xs[j]? ≠ some n
/-- The place of the first n; -1: there is none. -/
def AtIdx (n : Int) (xs : List Int) (i : Int) : Prop := (i = -1 ∧ ∀ j : Nat, xs[j]? ≠ some n) ∨ ∃ k : Nat, i = k ∧ NoIn n xs k ∧ xs[k]? = some n
def IdxPost (n : Int) (xs : List Int) (w : World) (e : Ending) (w' : World) : Prop := ∃ i, AtIdx n xs i ∧ e = .returned (.int .i64 i) ∧ w = w'

set_option maxHeartbeats 1000000 in
theorem idx_forget (g c bx : Nat) (n : Int) (xs : List Int) (w : World) (hx : ∀ j x, xs[j]? = some x → w.cell? ⟨g, j, none⟩ = some (.int .i64 x)) (hb : w.cell? ⟨bx, 0, none⟩ = some (.int .i64 n)) (hl : xs.length ≤ 1000000000000) :
    Calls Try.prog 72 #[.slice (some ⟨g, 0, none⟩) xs.length c, fclo bx] w (IdxPost n xs w) := by
  have HX := Lib.hid hx; clear hx
  unfold fclo
  go_enter Try.func72, Try.ntmps72
  go_wp2
  go_loop [8] (fun i => ∃ k : Nat, k ≤ xs.length ∧ i = .int .i64 k ∧ NoIn n xs k) (fun i => xs.length - (intOf i).toNat)
  case atStart => exact ⟨0, Nat.zero_le _, rfl, fun j hj => by omega⟩
  case round =>
    obtain ⟨k, hk, rfl, hno⟩ := hrel
    have Hno := Lib.hid hno; clear hno
    by_cases hlt : k < xs.length
    · obtain ⟨x, hxe⟩ : ∃ x, xs[k]? = some x := ⟨xs[k], List.getElem?_eq_getElem hlt⟩
      have hc := HX.out k x hxe
      have Hx := Lib.hid hxe; clear hxe
      by_cases hn : x = n
      · have hb1 : (x == n) = true := by simp [hn]
        have Hn := Lib.hid hn; clear hn
        go_wp2_with (go_at_call 62; refine (forget1 bx x n _ hb).mono ?_; rintro e w' ⟨rfl, rfl⟩; rw [hb1])
        go_ret
        exact ⟨k, Or.inr ⟨k, rfl, Hno.out, by rw [Hx.out, Hn.out]⟩, rfl, rfl⟩
      · have hb1 : (x == n) = false := by simp [hn]
        have Hn := Lib.hid hn; clear hn
        go_wp2_with (go_at_call 62; refine (forget1 bx x n _ hb).mono ?_; rintro e w' ⟨rfl, rfl⟩; rw [hb1])
        go_round
        case rel => exact ⟨k + 1, by omega, by go_num, fun j hj => by
          by_cases e : j < k
          · exact Hno.out j e
          · have : j = k := by omega
            subst this; rw [Hx.out]; intro h; exact Hn.out (Option.some.inj h)⟩
        case measure => simp [intOf]; omega
    · go_wp2
      go_ret
      exact ⟨-1, Or.inl ⟨rfl, fun j => by
        by_cases e : j < k
        · exact Hno.out j e
        · rw [List.getElem?_eq_none (by omega)]; simp⟩, rfl, rfl⟩

set_option maxHeartbeats 400000 in
theorem idx_forget_nil (c bx : Nat) (A : Option Addr) (w : World) :
    Calls Try.prog 72 #[.slice A 0 c, fclo bx] w fun e w' => e = .returned (.int .i64 (-1)) ∧ w = w' := by
  unfold fclo
  go_enter Try.func72, Try.ntmps72
  go_wp2
  refine wp_loop_rounds 1 ?_
  rw [rounds_succ]
  go_wp2
  go_ret
  exact ⟨rfl, rfl⟩

/-- The row behind DeleteFunc at n: what is kept, then noughts. -/
def dropped (n : Int) (xs : List Int) : List Int := xs.filter (fun x => !(x == n))

/-- In the midst of it: i kept ones stand in front, from j on all is as it was. -/
def DelMid (xs cur : List Int) (n : Int) (i j : Nat) : Prop :=
  cur.length = xs.length ∧ i ≤ j ∧ cur.take i = dropped n (xs.take j) ∧ cur.drop j = xs.drop j

theorem delMid_keep {xs cur : List Int} {n x : Int} {i j : Nat} (h : DelMid xs cur n i j) (hj : xs[j]? = some x) (hx : x ≠ n) : DelMid xs (cur.set i x) n (i + 1) (j + 1) := by
  obtain ⟨h1, h2, h3, h4⟩ := h
  have hjl : j < xs.length := (List.getElem?_eq_some_iff.1 hj).1
  refine ⟨by simpa using h1, by omega, ?_, ?_⟩
  · have e1 : (cur.set i x).take (i + 1) = cur.take i ++ [x] := by
      rw [List.take_add_one, List.take_set_of_le (Nat.le_refl _)]
      simp [List.getElem?_set, h1]; omega
    rw [e1, h3, List.take_add_one, hj]
    simp [dropped, List.filter_append, hx]
  · rw [List.drop_set_of_lt (by omega)]
    have : cur.drop (j + 1) = (cur.drop j).drop 1 := by rw [List.drop_drop]
    rw [this, h4, List.drop_drop]
theorem delMid_skip {xs cur : List Int} {n : Int} {i j : Nat} (h : DelMid xs cur n i j) (hj : xs[j]? = some n) : DelMid xs cur n i (j + 1) := by
  obtain ⟨h1, h2, h3, h4⟩ := h
  refine ⟨h1, by omega, ?_, ?_⟩
  · rw [h3, List.take_add_one, hj]; simp [dropped, List.filter_append]
  · have : cur.drop (j + 1) = (cur.drop j).drop 1 := by rw [List.drop_drop]
    rw [this, h4, List.drop_drop]
theorem delMid_start {xs : List Int} {n : Int} {k : Nat} (hno : NoIn n xs k) (hk : xs[k]? = some n) : DelMid xs xs n k (k + 1) := by
  have hkl := (List.getElem?_eq_some_iff.1 hk).1
  refine ⟨rfl, by omega, ?_, rfl⟩
  rw [List.take_add_one, hk]
  simp only [dropped, List.filter_append, Option.toList]
  rw [List.filter_eq_self.2]
  · simp
  · intro x hx
    obtain ⟨j, hj⟩ := List.mem_iff_getElem?.1 hx
    rw [List.getElem?_take] at hj
    split at hj
    · rename_i hjk
      have := hno j hjk
      simp; intro e; rw [e] at hj; exact this hj
    · cases hj
theorem dropped_none {xs : List Int} {n : Int} (h : ∀ j : Nat, xs[j]? ≠ some n) : dropped n xs = xs := by
  rw [dropped, List.filter_eq_self.2]
  intro x hx
  obtain ⟨j, hj⟩ := List.mem_iff_getElem?.1 hx
  simp; intro e; rw [e] at hj; exact h j hj
theorem dropped_le (n : Int) (xs : List Int) : (dropped n xs).length ≤ xs.length := List.length_filter_le _ _

/-- What DeleteFunc leaves: a row of what is kept; the old row's block alone may have turned. -/
def DelPost (w : World) (g : Nat) (ys : List Int) (e : Ending) (w' : World) : Prop :=
  ∃ v, e = .returned v ∧ IRow w' v ys ∧ v.ownBlock = some g ∧ w.grownBy w' (some g)

theorem iv_set (xs : List Int) (i : Nat) (x : Int) : (iv xs).set i (.int .i64 x) = iv (xs.set i x) := by simp [iv, List.map_set]

/-- The row's block while it is worked at. -/
def RowAt (w : World) (g c : Nat) (cur : List Int) : Prop := ∃ rest, w.heap[g]? = some (.cells (iv cur ++ rest).toArray 3 (0, 0)) ∧ cur.length + rest.length = c ∧ c ≤ maxLen
theorem RowAt.cell {w : World} {g c : Nat} {cur : List Int} (h : RowAt w g c cur) {j : Nat} {x : Int} (hj : cur[j]? = some x) : w.cell? ⟨g, j, none⟩ = some (.int .i64 x) := by
  obtain ⟨rest, hb, _⟩ := h
  have hjl := (List.getElem?_eq_some_iff.1 hj).1
  rw [blk_cell hb]
  simp only [List.getElem?_toArray]
  rw [List.getElem?_append_left (by rw [iv_length]; exact hjl), iv_get, hj]; rfl
theorem RowAt.frozen {w : World} {g c : Nat} {cur : List Int} (h : RowAt w g c cur) (j : Nat) : w.frozen? ⟨g, j, none⟩ = false := by
  obtain ⟨rest, hb, _⟩ := h; exact blk_frozen hb j
theorem RowAt.set {w : World} {g c : Nat} {cur : List Int} (h : RowAt w g c cur) {i : Nat} (hi : i < cur.length) (x : Int) : RowAt (w.setCell ⟨g, i, none⟩ (.int .i64 x)) g c (cur.set i x) := by
  obtain ⟨rest, hb, hl, hc⟩ := h
  refine ⟨rest, ?_, by simpa using hl, hc⟩
  rw [blk_set hb]
  congr 2
  rw [← iv_set, List.setIfInBounds_toArray, List.set_append_left _ _ (by rw [iv_length]; exact hi)]
theorem RowAt.own {w : World} {g c : Nat} {cur : List Int} (h : RowAt w g c cur) (m : Nat) (hm : m ≤ cur.length) : IRow w (.slice (some ⟨g, 0, none⟩) (cur.take m).length c) (cur.take m) := by
  obtain ⟨rest, hb, hl, hc⟩ := h
  refine ⟨by simp [iv], .inr ⟨g, c, _, rfl, Nat.zero_le _, hb, by simp; omega, hc, by simp [iv_length]; omega, ?_⟩⟩
  simp only [List.length_take, Nat.mul_one]
  rw [show min m cur.length = m by omega, List.take_append_of_le_length (by rw [iv_length]; exact hm)]
  simp [iv, List.map_take]
theorem IRow.at_ {w : World} {v : Value} {xs : List Int} (h : IRow w v xs) : (v = .slice none 0 0 ∧ xs = []) ∨ ∃ g c, v = .slice (some ⟨g, 0, none⟩) xs.length c ∧ RowAt w g c xs := by
  rcases h.2 with ⟨h1, h2⟩ | ⟨g, cap, cur, h1, _, hg, hle, hm, hs, ht⟩
  · exact .inl ⟨h1, List.length_eq_zero_iff.1 h2⟩
  · refine .inr ⟨g, cap, h1, cur.toList.drop xs.length, ?_, ?_, hm⟩
    · rw [hg]; congr 2
      rw [Nat.mul_one] at ht
      rw [← ht, List.take_append_drop]
    · simp; omega

theorem grownBy_set (w : World) (g i : Nat) (v : Value) : w.grownBy (w.setCell ⟨g, i, none⟩ v) (some g) :=
  ⟨rfl, rfl, rfl, by simp, fun k _ hk => Below.heap_setCell w _ _ k (fun e => hk (by rw [e]))⟩
theorem grownBy_setCells (g : Nat) : ∀ (vs : List Value) (i : Nat) (w : World), w.grownBy (w.setCells g i vs) (some g)
  | [], _, w => World.grownBy.refl w _
  | v :: r, i, w => (grownBy_set w g i v).trans (grownBy_setCells g r (i + 1) _)
theorem RowAt.clear {g c : Nat} : ∀ (m i : Nat) (w : World) (cur : List Int), RowAt w g c cur → i + m ≤ cur.length → ∃ cur', RowAt (w.setCells g i (List.replicate m (.int .i64 0))) g c cur' ∧ cur'.length = cur.length ∧ cur'.take i = cur.take i
  | 0, _, _, cur, h, _ => ⟨cur, h, rfl, rfl⟩
  | m + 1, i, w, cur, h, hl => by
    obtain ⟨cur', h1, h2, h3⟩ := RowAt.clear m (i + 1) _ _ (h.set (i := i) (by omega) 0) (by simp; omega)
    refine ⟨cur', h1, by simpa using h2, ?_⟩
    have := congrArg (List.take i) h3
    rw [List.take_take, List.take_take, List.take_set_of_le (by omega)] at this
    simpa [Nat.min_eq_left] using this
theorem dropped_lt {n : Int} {xs : List Int} {k : Nat} (h : xs[k]? = some n) : (dropped n xs).length < xs.length := by
  have hk := (List.getElem?_eq_some_iff.1 h).1
  have hle := List.length_filter_le (fun x => !(x == n)) xs
  rcases Nat.lt_or_ge (dropped n xs).length xs.length with h1 | h1
  · exact h1
  · exfalso
    have he : (xs.filter fun x => !(x == n)).length = xs.length := Nat.le_antisymm hle h1
    rw [List.length_filter_eq_length_iff] at he
    have := he n (List.mem_of_getElem? h)
    simp at this
theorem DelMid.at_ {xs cur : List Int} {n : Int} {i j : Nat} (h : DelMid xs cur n i j) : cur[j]? = xs[j]? := by
  have := congrArg (fun l => l[0]?) h.2.2.2
  simpa [List.getElem?_drop] using this

set_option maxRecDepth 100000 in
set_option maxHeartbeats 1000000 in
theorem del_forget (g c bx : Nat) (n : Int) (xs : List Int) (w : World) (hr : RowAt w g c xs) (hbg : bx ≠ g) (hb : w.cell? ⟨bx, 0, none⟩ = some (.int .i64 n)) (hl : xs.length ≤ 1000000000000) :
    Calls Try.prog 61 #[.slice (some ⟨g, 0, none⟩) xs.length c, fclo bx] w (DelPost w g (dropped n xs)) := by
  have HR := Lib.hid hr
  have hix := idx_forget g c bx n xs w (fun j x hj => hr.cell hj) hb hl
  have Hix := Lib.hid hix; clear hix hr
  unfold fclo at *
  go_enter Try.func61, Try.ntmps61
  go_wp2_with fail
  refine Hix.out.mono ?_
  rintro e w1 ⟨i, hi, rfl, rfl⟩
  rcases hi with ⟨rfl, hnone⟩ | ⟨k, rfl, hno, hk⟩
  · have Hn := Lib.hid hnone; clear hnone
    go_wp2
    go_ret
    exact ⟨_, rfl, by rw [dropped_none Hn.out]; simpa using HR.out.own xs.length (Nat.le_refl _), rfl, World.grownBy.refl _ _⟩
  · have hkl : k < xs.length := (List.getElem?_eq_some_iff.1 hk).1
    have hk1 : ((k : Int) == -1) = false := by rw [beq_eq_false_iff_ne]; omega
    have Hs := Lib.hid (delMid_start hno hk); clear hno hk
    have h00 : ∀ (w : World) (b o m c : Nat) (hn : 0 < m) (hc : ∀ j, j < m → (w.cell? ⟨b, o + j, none⟩).isSome = true) (hf : ∀ j, j < m → w.frozen? ⟨b, o + j, none⟩ = false), (Builtin.clear_ #[43] 0 #[.slice (some ⟨b, o, none⟩) m c]).run Try.prog w = .ok (.tuple #[]) (w.setCells b o (List.replicate m (.int .i64 0))) :=
      fun w b o m c hn hc hf => Lib.run_clear_slice w _ _ 0 (.int .i64 0) Try.underlying43 (fun _ => by kernel_rfl) rfl rfl b o m c hn hc hf
    have H00 := Lib.hid h00; clear h00
    go_wp2
    go_loopw [5, 6, 7] (fun i j _ wr => ∃ (a b : Nat) (cur : List Int), i = .int .i64 a ∧ j = .int .i64 b ∧ a < b ∧ b ≤ xs.length ∧ DelMid xs cur n a b ∧ RowAt wr g c cur ∧ wr.cell? ⟨bx, 0, none⟩ = some (.int .i64 n) ∧ w.grownBy wr (some g)) (fun _ j _ _ => xs.length - (intOf j).toNat)
    case atStart => exact ⟨k, k + 1, xs, rfl, by go_num, by omega, by omega, Hs.out, HR.out, hb, World.grownBy.refl _ _⟩
    case round =>
      obtain ⟨a, b, cur, rfl, rfl, hab, hbl, hmid, hrow, hbx, hgr⟩ := hrel
      have Hm := Lib.hid (And.intro hmid (And.intro hrow hgr)); clear hmid hrow hgr
      by_cases hlt : b < xs.length
      · obtain ⟨x, hxe⟩ : ∃ x, xs[b]? = some x := ⟨xs[b], List.getElem?_eq_getElem hlt⟩
        have hcx : wr.cell? ⟨g, b, none⟩ = some (.int .i64 x) := Hm.out.2.1.cell (by rw [Hm.out.1.at_, hxe])
        obtain ⟨y, hy⟩ : ∃ y, cur[a]? = some y := ⟨cur[a]'(by have := Hm.out.1.1; omega), List.getElem?_eq_getElem _⟩
        have hcy : wr.cell? ⟨g, a, none⟩ = some (.int .i64 y) := Hm.out.2.1.cell hy
        have hfy : wr.frozen? ⟨g, a, none⟩ = false := Hm.out.2.1.frozen a
        have Hx := Lib.hid (And.intro hxe hy); clear hxe hy
        by_cases hn : x = n
        · have hb1 : (x == n) = true := by simp [hn]
          have Hn := Lib.hid hn; clear hn
          go_wp2_with (go_at_call 62; refine (forget1 bx x n _ hbx).mono ?_; rintro e w' ⟨rfl, rfl⟩; rw [hb1])
          go_roundw
          case rel => exact ⟨a, b + 1, cur, rfl, by go_num, by omega, by omega, delMid_skip Hm.out.1 (by rw [Hx.out.1, Hn.out]), Hm.out.2.1, hbx, Hm.out.2.2⟩
          case measure => simp [intOf]; omega
        · have hb1 : (x == n) = false := by simp [hn]
          have Hn := Lib.hid hn; clear hn
          have hbx2 : (wr.setCell ⟨g, a, none⟩ (.int .i64 x)).cell? ⟨bx, 0, none⟩ = some (.int .i64 n) := by
            rw [World.cell?_setCell_other _ _ _ _ (fun e => hbg (congrArg Addr.block e).symm)]; exact hbx
          have Hb2 := Lib.hid hbx2; clear hbx2
          go_wp2_with (go_at_call 62; refine (forget1 bx x n _ hbx).mono ?_; rintro e w' ⟨rfl, rfl⟩; rw [hb1])
          go_roundw
          case rel => exact ⟨a + 1, b + 1, cur.set a x, by go_num, by go_num, by omega, by omega, delMid_keep Hm.out.1 Hx.out.1 Hn.out, Hm.out.2.1.set (by have := Hm.out.1.1; omega) x, Hb2.out, Hm.out.2.2.trans (grownBy_set _ _ _ _)⟩
          case measure => simp [intOf]; omega
      · have hbe : b = xs.length := by omega
        have Hbe := Lib.hid hbe; clear hbe
        have hcur := Hm.out.1.1
        have hcl : cur.length ≤ c := by obtain ⟨rest, _, h, _⟩ := Hm.out.2.1; omega
        have hac : ¬ (c = a) := by omega
        obtain ⟨m, hm⟩ : ∃ m, xs.length = a + m := ⟨xs.length - a, by omega⟩
        have hle : (a : Int) ≤ (c : Int) := by omega
        have hcr := H00.out wr g a (xs.length - a) (c - a) (by omega) (fun j hj => by rw [Hm.out.2.1.cell (List.getElem?_eq_getElem (by omega))]; rfl) (fun j _ => Hm.out.2.1.frozen _)
        obtain ⟨cur', r1, r2, r3⟩ := Hm.out.2.1.clear (xs.length - a) a wr cur (by omega)
        have HC := Lib.hid (And.intro r1 (And.intro r2 r3)); clear r1 r2 r3
        have Hu := Lib.hid (And.intro hcur hm); clear hcur hm
        have hfin : DelPost w g (dropped n xs) (.returned (.slice (some ⟨g, 0, none⟩) a c)) (wr.setCells g a (List.replicate (xs.length - a) (.int .i64 0))) := by
          have e1 : cur'.take a = dropped n xs := by
            rw [HC.out.2.2, Hm.out.1.2.2.1, Hbe.out, List.take_length]
          have e2 := HC.out.1.own a (by have := Hu.out.1; have := HC.out.2.1; omega)
          rw [List.length_take, HC.out.2.1, Nat.min_eq_left (by have := Hu.out.1; omega), e1] at e2
          exact ⟨_, rfl, e2, rfl, Hm.out.2.2.trans (grownBy_setCells g _ _ _)⟩
        have Hfin := Lib.hid hfin; clear hfin
        go_wp2
        go_ret
        exact Hfin.out
end Go.Proofs.Ytnhifnakgiddiaa
