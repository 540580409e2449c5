/- The disk's calls: Blocks, has, Read, Write. -/
import Derived.Test.YtnhifnakgiddiaaD
import Derived.Maps.AppendAt
namespace Go.Proofs.Ytnhifnakgiddiaa
open Go Go.RowKit Go.MapKept
open Go.ChangeMaps (setBlock heap_setBlock_same heap_setBlock_other)

theorem DiskRep.cell0 {w : World} {p : Nat} {D : AD} {F : Nat → Prop} (h : DiskRep w p D F) : w.cell? ⟨p, 0, none⟩ = some (.int .i64 D.n) := by
  obtain ⟨⟨md, mn, pv, dn, nw, hA, _⟩, _⟩ := h
  rw [blk_cell hA.blk]; rfl

set_option maxHeartbeats 400000 in
theorem disk_Blocks (p : Nat) (D : AD) (F : Nat → Prop) (w : World) (h : DiskRep w p D F) :
    Calls Try.prog 46 #[.pointer (some ⟨p, 0, none⟩)] w fun e w' => e = .returned (.int .i64 D.n) ∧ w = w' := by
  have hc := h.cell0; clear h
  go_enter Try.func46, Try.ntmps46
  go_wp2
  go_ret
  exact ⟨rfl, rfl⟩

set_option maxHeartbeats 400000 in
theorem disk_Blocks_nil (w : World) : Calls Try.prog 46 #[.pointer none] w fun e w' => e = .returned (.int .i64 0) ∧ w = w' := by
  go_enter Try.func46, Try.ntmps46
  go_wp2
  go_ret
  exact ⟨rfl, rfl⟩

set_option maxHeartbeats 400000 in
theorem disk_has (p : Nat) (k : Int) (D : AD) (F : Nat → Prop) (w : World) (h : DiskRep w p D F) :
    Calls Try.prog 47 #[.pointer (some ⟨p, 0, none⟩), .int .i64 k] w fun e w' => e = .returned (.bool (D.has k)) ∧ w = w' := by
  by_cases h0 : 0 ≤ k
  · have hv : D.has k = decide (k < D.n) := by simp [AD.has, h0]
    have Hv := Lib.hid hv; clear hv
    go_enter Try.func47, Try.ntmps47
    go_wp2_with (go_at_call 46; refine (disk_Blocks p D F _ h).mono ?_; rintro e w' ⟨rfl, rfl⟩)
    go_ret
    exact ⟨by rw [Hv.out]; rfl, rfl⟩
  · have hv : D.has k = false := by simp [AD.has, h0]
    have Hv := Lib.hid hv; clear hv
    go_enter Try.func47, Try.ntmps47
    go_wp2_with (go_at_call 46; refine (disk_Blocks p D F _ h).mono ?_; rintro e w' ⟨rfl, rfl⟩)
    go_ret
    exact ⟨by rw [Hv.out]; rfl, rfl⟩

theorem eqlNil {w : World} (a : Option Addr) (n c n' c' : Nat) : (binOp .eql 32 (.slice a n c) (.slice none n' c')).run Try.prog w = .ok (.bool a.isNone) w := Lib.run_eql_slice_nil w _ _ a n c n' c' Try.underlying32
theorem neqNil {w : World} (a : Option Addr) (n c n' c' : Nat) : (binOp .neq 32 (.slice a n c) (.slice none n' c')).run Try.prog w = .ok (.bool (!a.isNone)) w := run_neq_slice_nil_any w _ _ a n c n' c' Try.underlying32

theorem madeBytes (n : Nat) : (madeCells #[.int .u8 0] (n * 1)).toList = bv (List.replicate n 0) := by
  rw [Nat.mul_one, toList_madeCells_one]; simp [bv]

theorem zeroMB (w : World) : (zeroValue 32).run Try.prog w = .ok (.slice none 0 0) w := by kernel_rfl

set_option maxHeartbeats 400000 in
theorem disk_Read_bad (p : Nat) (k : Int) (D : AD) (F : Nat → Prop) (w : World) (h : DiskRep w p D F) (hk : D.has k = false) :
    Calls Try.prog 23 #[.pointer (some ⟨p, 0, none⟩), .int .i64 k] w fun e w' => e = .returned (.tuple #[.slice none 0 0, .int .i64 5]) ∧ w = w' := by
  have Hk := Lib.hid hk; clear hk
  go_enter Try.func23, Try.ntmps23
  go_wp2_with (go_at_call 47; refine (disk_has p k D F _ h).mono ?_; rintro e w' ⟨rfl, rfl⟩; rw [Hk.out])
  go_ret2
  exact ⟨rfl, rfl⟩

def GotB (w : World) (l : Bytes) (er : Int) (e : Ending) (w' : World) : Prop := ∃ v, e = .returned (.tuple #[v, .int .i64 er]) ∧ Blk w' v l ∧ Below w.heap.size w w'

set_option maxHeartbeats 1000000 in
theorem disk_Read (p : Nat) (k : Int) (D : AD) (F : Nat → Prop) (w : World) (h : DiskRep w p D F) (hw : D.Wf) (hk : D.has k = true) :
    Calls Try.prog 23 #[.pointer (some ⟨p, 0, none⟩), .int .i64 k] w (GotB w (D.read k) 0) := by
  have Hk := Lib.hid hk; clear hk
  have Hl := Lib.hid (hw.read k); clear hw
  obtain ⟨⟨md, mn, pv, dn, nw, hA, _⟩, _⟩ := id h
  have c1 : w.cell? ⟨p, 1, none⟩ = some (.map (some md)) := by rw [blk_cell hA.blk]; rfl
  have c3 : w.cell? ⟨p, 3, none⟩ = some (.map (some mn)) := by rw [blk_cell hA.blk]; rfl
  have L1 := hA.newest.lookup (P := Try.prog) Try.underlying25 Try.underlying3 (zeroMB w) k
  have L2 := hA.done.lookup (P := Try.prog) Try.underlying25 Try.underlying3 (zeroMB w) k
  have qT := fun (w : World) (a : Option Addr) (n c n' c' : Nat) => eqlNil (w := w) a n c n' c'
  have N := hA.nval k
  have M := hA.dval k
  clear hA
  obtain ⟨i0, hi, hz0, hz1, hz2⟩ := info_parts infoB
  have Hi := Lib.hid (And.intro hi (And.intro hz0 (And.intro hz1 hz2))); clear hi hz0 hz1 hz2
  rcases N with ⟨n1, n2⟩ | ⟨v, l, n1, n2, hb⟩
  · rw [n1] at L1
    simp only [Option.getD_none] at L1
    rcases M with ⟨m1, m2⟩ | ⟨v, m1, hb⟩
    · rw [m1] at L2
      simp only [Option.getD_none] at L2
      have Hr := Lib.hid (show D.read k = zeros by simp [AD.read, n2, m2]); clear n1 n2 m1 m2
      go_enter Try.func23, Try.ntmps23
      go_wp2_with (first | (go_at_call 47; refine (disk_has p k D F _ h).mono ?_; rintro e w' ⟨rfl, rfl⟩; rw [Hk.out]) | (at_make; refine wpList_make_full _ rfl _ _ 32 rfl 0 5 i0 (.int .u8 0) 1 Try.underlying32 Hi.out.1 Hi.out.2.1 Hi.out.2.2.1 _ _ _ _ 256 rfl rfl rfl rfl (by rw [Hi.out.2.2.2]; decide) (by decide) (Nat.zero_le _) ?_))
      intro w1 hown hgrow
      have Ho := Lib.hid (And.intro hown hgrow); clear hown hgrow
      go_wp2
      go_ret2
      refine ⟨_, rfl, ?_, ⟨Ho.out.2.os, Ho.out.2.tape, Ho.out.2.output, Ho.out.2.size, fun k hk => Ho.out.2.block k hk (by simp)⟩⟩
      rw [Hr.out]
      have := Ho.out.1
      show w1.ownsRow 0 5 1 _ zeros.length (bv zeros)
      rw [zeros_length]
      exact (madeBytes 256) ▸ this
    · rw [m1] at L2
      simp only [Option.getD_some] at L2
      have hlen : (D.base k).length = 256 := by have := Hl.out; simpa [AD.read, n2] using this
      obtain ⟨g, c, rfl, hle, hat, _⟩ := hb.open_ (by omega)
      have Hr := Lib.hid (show D.read k = D.base k by simp [AD.read, n2]); clear n1 n2 m1 hb hle
      have Hat := Lib.hid hat; clear hat
      have hln : (D.base k).length ≤ 1000 := by omega
      have Hlen := Lib.hid hlen; clear hlen
      go_enter Try.func23, Try.ntmps23
      go_wp2_with (first | (go_at_call 47; refine (disk_has p k D F _ h).mono ?_; rintro e w' ⟨rfl, rfl⟩; rw [Hk.out]) | (go_at_call 35; refine (clone_at _ (D.base k) _ _ Hat.out (by omega)).mono ?_; rintro e w1 ⟨v1, rfl, hb1⟩; have Hb := Lib.hid hb1; clear hb1))
      go_ret2
      refine ⟨_, rfl, ?_, Hb.out.2⟩
      rw [Hr.out]; exact Hb.out.1
  · rw [n1] at L1
    simp only [Option.getD_some] at L1
    have Hr := Lib.hid (show D.read k = l by simp [AD.read, n2])
    have hlen : l.length = 256 := by have := Hl.out; rwa [Hr.out] at this
    obtain ⟨g, c, rfl, hle, hat, _⟩ := hb.open_ (by omega)
    clear n1 n2 hb hle M L2
    have Hat := Lib.hid hat; clear hat
    have hln : l.length ≤ 1000 := by omega
    have Hlen := Lib.hid hlen; clear hlen
    go_enter Try.func23, Try.ntmps23
    go_wp2_with (first | (go_at_call 47; refine (disk_has p k D F _ h).mono ?_; rintro e w' ⟨rfl, rfl⟩; rw [Hk.out]) | (go_at_call 35; refine (clone_at _ l _ _ Hat.out (by omega)).mono ?_; rintro e w1 ⟨v1, rfl, hb1⟩; have Hb := Lib.hid hb1; clear hb1))
    go_ret2
    refine ⟨_, rfl, ?_, Hb.out.2⟩
    rw [Hr.out]; exact Hb.out.1

theorem infoW : (Try.prog.info? 56).map (fun i => (i.zero, i.size, i.bytes)) = some (some (.agg #[.int .i64 0, .slice none 0 0]), 2, 32) := by kernel_rfl

set_option maxHeartbeats 400000 in
theorem disk_Write_bad (p : Nat) (k : Int) (ao : Option Addr) (n c : Nat) (D : AD) (F : Nat → Prop) (w : World) (h : DiskRep w p D F) (hk : D.has k = false) :
    Calls Try.prog 41 #[.pointer (some ⟨p, 0, none⟩), .int .i64 k, .slice ao n c] w fun e w' => e = .returned (.int .i64 5) ∧ w = w' := by
  have Hk := Lib.hid hk; clear hk
  go_enter Try.func41, Try.ntmps41
  go_wp2_with (go_at_call 47; refine (disk_has p k D F _ h).mono ?_; rintro e w' ⟨rfl, rfl⟩; rw [Hk.out])
  go_ret
  exact ⟨rfl, rfl⟩

set_option maxHeartbeats 400000 in
theorem disk_Write_len (p : Nat) (k : Int) (ao : Option Addr) (n c : Nat) (D : AD) (F : Nat → Prop) (w : World) (h : DiskRep w p D F) (hk : D.has k = true) (hn : n ≠ 256) :
    Calls Try.prog 41 #[.pointer (some ⟨p, 0, none⟩), .int .i64 k, .slice ao n c] w fun e w' => e = .returned (.int .i64 22) ∧ w = w' := by
  have Hk := Lib.hid hk; clear hk
  have hb : ((n : Int) != 256) = true := by rw [bne_iff_ne]; omega
  go_enter Try.func41, Try.ntmps41
  go_wp2_with (go_at_call 47; refine (disk_has p k D F _ h).mono ?_; rintro e w' ⟨rfl, rfl⟩; rw [Hk.out])
  go_ret
  exact ⟨rfl, rfl⟩

/-- What a row of writes is behind one more. -/
theorem WritesRep.snoc {w1 w2 : World} {pv' v : Value} {l : List (Int × Bytes)} {k : Int} {b : Bytes} {xs : List Value}
    (ho : w2.ownsRow 0 56 2 pv' (l.length + 1) (xs ++ [.int .i64 k, v])) (hx : xs.length = 2 * l.length) (hxs : ∀ (j : Nat) p, l[j]? = some p → xs[2 * j]? = some (.int .i64 p.1) ∧ ∃ u, xs[2 * j + 1]? = some u ∧ Blk w1 u p.2)
    (hk : ∀ u q, Blk w1 u q → Blk w2 u q) (hv : Blk w2 v b) : WritesRep w2 pv' (l ++ [(k, b)]) := by
  refine ⟨xs ++ [.int .i64 k, v], by simpa using ho, ?_⟩
  intro j q hq
  by_cases hj : j < l.length
  · rw [List.getElem?_append_left hj] at hq
    obtain ⟨h1, u, h2, h3⟩ := hxs j q hq
    rw [List.getElem?_append_left (by omega), List.getElem?_append_left (by omega)]
    exact ⟨h1, u, h2, hk _ _ h3⟩
  · have hj2 : j = l.length := by
      have := (List.getElem?_eq_some_iff.1 hq).1; simp at this; omega
    subst hj2
    simp at hq; subst hq
    rw [List.getElem?_append_right (by omega), List.getElem?_append_right (by omega)]
    have e1 : 2 * l.length - xs.length = 0 := by omega
    have e2 : 2 * l.length + 1 - xs.length = 1 := by omega
    rw [e1, e2]
    exact ⟨rfl, v, rfl, hv⟩

/-- Every block of bytes is as it was. -/
def KB (w w' : World) : Prop := ∀ (k : Nat) (cs : Array Value), w.heap[k]? = some (Obj.cells cs 5 (0, 0)) → w'.heap[k]? = some (Obj.cells cs 5 (0, 0))
theorem KB.refl (w : World) : KB w w := fun _ _ h => h
theorem KB.trans {a b c : World} (h : KB a b) (k : KB b c) : KB a c := fun i cs hi => k i cs (h i cs hi)
theorem Chg.kb {F : Nat → Prop} {w w' : World} (h : Chg F w w') (hF : Foot F w) : KB w w' := fun k cs hk => (h.block k (blk_lt hk) (fun hf => (hF k hf).2 _ _ hk)).trans hk
theorem KB.of_below {w w' : World} (h : Below w.heap.size w w') : KB w w' := fun k cs hk => (h.block k (blk_lt hk)).trans hk
theorem Blk.kb {w w' : World} {v : Value} {l : Bytes} (h : Blk w v l) (hk : KB w w') : Blk w' v l := h.keep fun k cs hc => (hk k cs hc).trans hc.symm

theorem DiskAt.kb {w w' : World} {p md mn : Nat} {pv : Value} {dn nw : Int → Option Value} {D : AD} (h : DiskAt w p D md mn pv dn nw) (hb : KB w w') (h1 : w'.heap[p]? = w.heap[p]?) (h2 : w'.heap[md]? = w.heap[md]?) (h3 : w'.heap[mn]? = w.heap[mn]?)
    (h4 : ∀ k, pv.ownBlock = some k → w'.heap[k]? = w.heap[k]?) : DiskAt w' p D md mn pv dn nw := by
  refine ⟨h1.trans h.blk, h.done.keep h2, h.newest.keep h3, h.ne, fun k => ?_, fun k => ?_, h.pend.keep h4 (fun u b hu => hu.kb hb)⟩
  · rcases h.dval k with h | ⟨v, h, hu⟩
    · exact .inl h
    · exact .inr ⟨v, h, hu.kb hb⟩
  · rcases h.nval k with h | ⟨v, l, h, h', hu⟩
    · exact .inl h
    · exact .inr ⟨v, l, h, h', hu.kb hb⟩
theorem DiskAt.below {w w' : World} {p md mn : Nat} {pv : Value} {dn nw : Int → Option Value} {D : AD} (h : DiskAt w p D md mn pv dn nw) (hb : Below w.heap.size w w') : DiskAt w' p D md mn pv dn nw :=
  h.kb (KB.of_below hb) (hb.block p (blk_lt h.blk)) (hb.block md h.done.lt) (hb.block mn h.newest.lt) (fun k hk => by obtain ⟨xs, ho, _⟩ := h.pend; exact hb.block k (own_lt ho hk))
theorem Foot.below {F : Nat → Prop} {w w' : World} (h : Foot F w) (hb : Below w.heap.size w w') : Foot F w' := fun k hk => ⟨Nat.lt_of_lt_of_le (h k hk).1 hb.size, (h k hk).2.keep (hb.block k (h k hk).1)⟩

/-- A call that turned a disk into another one. -/
def DiskTo (w : World) (p : Nat) (D' : AD) (F : Nat → Prop) (w' : World) : Prop :=
  ∃ F' : Nat → Prop, DiskRep w' p D' F' ∧ Chg F w w' ∧ ∀ j, F' j → F j ∨ w.heap.size ≤ j
theorem DiskTo.from_ {w0 w w' : World} {p : Nat} {D' : AD} {F : Nat → Prop} (h : DiskTo w p D' F w') (hb : Below w0.heap.size w0 w) : DiskTo w0 p D' F w' := by
  obtain ⟨F', h1, h2, h3⟩ := h
  exact ⟨F', h1, (Chg.of_below hb).trans h2 (fun _ _ hf => hf), fun j hj => (h3 j hj).imp id (Nat.le_trans hb.size)⟩

/-- The memory behind a write, in pieces, is a disk's again. -/
theorem diskTo_write {w w2 : World} {p md mn : Nat} {pv pv' v : Value} {dn nw : Int → Option Value} {D : AD} {F : Nat → Prop} {k : Int} {l : Bytes} {xs : List Value} {o : Obj}
    (hA : DiskAt w p D md mn pv dn nw) (fp : F p) (fd : F md) (fn : F mn) (fv : ∀ j, pv.ownBlock = some j → F j) (hF : Foot F w) (hv : Blk w v l)
    (hx : xs.length = 2 * D.pend.length) (hxs : ∀ (j : Nat) q, D.pend[j]? = some q → xs[2 * j]? = some (.int .i64 q.1) ∧ ∃ u, xs[2 * j + 1]? = some u ∧ Blk w u q.2)
    (ho : w2.ownsRow 0 56 2 pv' (D.pend.length + 1) (xs ++ [.int .i64 k, v])) (hg : (w.alloc (.cells #[.int .i64 k, v] 56)).grownBy w2 pv.ownBlock)
    (hat : pv'.ownBlock = pv.ownBlock ∨ pv'.ownBlock = some (w.alloc (.cells #[.int .i64 k, v] 56)).heap.size)
    (hM : MapIs (setBlock (w2.setCell ⟨p, 2, none⟩ pv') mn o) mn (upd nw k v)) :
    DiskTo w p (D.write k l) F ((setBlock (w2.setCell ⟨p, 2, none⟩ pv') mn o).setCell ⟨p, 4, none⟩ (.int .i64 (wrap64 (D.ops + 1)))) := by
  have hpv : ∀ j, pv.ownBlock = some j → ∃ cs, w.heap[j]? = some (.cells cs 56 (0, 0)) := fun j hj => by
    obtain ⟨ys, hy, _⟩ := hA.pend; exact own_block hy hj
  obtain ⟨es, c, hmn, _⟩ := id hA.newest
  obtain ⟨es', c', hmd, _⟩ := id hA.done
  have hpn : p ≠ mn := blk_mapne hA.blk hmn
  have hpd : p ≠ md := blk_mapne hA.blk hmd
  have hpo : some p ≠ pv.ownBlock := fun e => by obtain ⟨cs, hcs⟩ := hpv _ e.symm; exact absurd rfl (blk_ty hA.blk hcs (by decide))
  have hno : some mn ≠ pv.ownBlock := fun e => by obtain ⟨cs, hcs⟩ := hpv _ e.symm; rw [hmn] at hcs; cases hcs
  have hdo : some md ≠ pv.ownBlock := fun e => by obtain ⟨cs, hcs⟩ := hpv _ e.symm; rw [hmd] at hcs; cases hcs
  have g2 : ∀ b, b < w.heap.size → some b ≠ pv.ownBlock → w2.heap[b]? = w.heap[b]? := fun b hb hn => (hg.block b (by simp; omega) hn).trans (Below.heap_alloc w _ b hb)
  have p2 := (g2 p (blk_lt hA.blk) hpo).trans hA.blk
  have n2 := (g2 mn (blk_lt hmn) hno).trans hmn
  have n3 : (w2.setCell ⟨p, 2, none⟩ pv').heap[mn]? = some (.map es c) := blk_far n2 (p := ⟨p, 2, none⟩) (fun e => hpn e.symm) _
  have p3 := blk_set p2 2 pv'
  have p4 := (heap_setBlock_other n3 o hpn).trans p3
  have p5 := blk_set p4 4 (.int .i64 (wrap64 (D.ops + 1)))
  have hc : Chg (fun j => j = p ∨ j = mn ∨ some j = pv.ownBlock) w ((setBlock (w2.setCell ⟨p, 2, none⟩ pv') mn o).setCell ⟨p, 4, none⟩ (.int .i64 (wrap64 (D.ops + 1)))) :=
    (((((Chg.refl _ w).alloc _).grown hg (fun r hr _ => .inr (.inr hr.symm))).setCell ⟨p, 2, none⟩ _ (fun _ => .inl rfl)).setBlock mn o (fun _ => .inr (.inl rfl))).setCell ⟨p, 4, none⟩ _ (fun _ => .inl rfl)
  have hcF := hc.mono (G := F) (fun j _ hj => by
    rcases hj with rfl | rfl | hj
    · exact fp
    · exact fn
    · exact fv j hj.symm)
  have hkb := hcF.kb hF
  have hle : w.heap.size + 1 ≤ w2.heap.size := by have := hg.size; simpa using this
  have last : ∀ b, b ≠ p → b ≠ mn → ((setBlock (w2.setCell ⟨p, 2, none⟩ pv') mn o).setCell ⟨p, 4, none⟩ (.int .i64 (wrap64 (D.ops + 1)))).heap[b]? = w2.heap[b]? := fun b h1 h2 =>
    (Below.heap_setCell _ _ _ b h1).trans ((heap_setBlock_other n3 o h2).trans (Below.heap_setCell w2 _ _ b h1))
  have hv' : ∀ j, pv'.ownBlock = some j → j ≠ p ∧ j ≠ mn ∧ w2.heap[j]? ≠ none := fun j hj => by
    obtain ⟨cs, hcs⟩ := own_block ho hj
    exact ⟨(fun e => by subst e; exact absurd rfl (blk_ty p2 hcs (by decide))), (fun e => by subst e; rw [n2] at hcs; cases hcs), (by rw [hcs]; simp)⟩
  have ho5 := own_keep ho (w' := (setBlock (w2.setCell ⟨p, 2, none⟩ pv') mn o).setCell ⟨p, 4, none⟩ (.int .i64 (wrap64 (D.ops + 1)))) (fun j hj => last j (hv' j hj).1 (hv' j hj).2.1)
  have p5' : ((setBlock (w2.setCell ⟨p, 2, none⟩ pv') mn o).setCell ⟨p, 4, none⟩ (.int .i64 (wrap64 (D.ops + 1)))).heap[p]? = some (.cells #[.int .i64 D.n, .map (some md), pv', .map (some mn), .int .i64 (wrap64 (D.ops + 1))] 91 (0, 0)) := p5
  have m5 : MapIs ((setBlock (w2.setCell ⟨p, 2, none⟩ pv') mn o).setCell ⟨p, 4, none⟩ (.int .i64 (wrap64 (D.ops + 1)))) mn (upd nw k v) := hM.keep (Below.heap_setCell _ _ _ mn (fun e => hpn e.symm))
  have d5 := hA.done.chg hc (fun h => h.elim (fun h => hpd h.symm) (fun h => h.elim hA.ne hdo))
  have v5 : ∀ j, pv'.ownBlock = some j → F j ∨ w.heap.size ≤ j := fun j hj => by
    rcases hat with h | h
    · exact .inl (fv j (by rw [← h, hj]))
    · right; rw [h] at hj; simp at hj; omega
  refine ⟨fun j => j = p ∨ j = md ∨ j = mn ∨ pv'.ownBlock = some j, ⟨⟨md, mn, pv', dn, upd nw k v, ⟨p5', d5, m5, hA.ne, ?_, ?_, ?_⟩, .inl rfl, .inr (.inl rfl), .inr (.inr (.inl rfl)), fun j hj => .inr (.inr (.inr hj))⟩, ?_⟩, hcF, ?_⟩
  · intro q
    rcases hA.dval q with h | ⟨u, h, hu⟩
    · exact .inl h
    · exact .inr ⟨u, h, hu.kb hkb⟩
  · intro q
    show _ ∨ ∃ v' l', upd nw k v q = some v' ∧ newestOf (D.pend ++ [(k, l)]) q = some l' ∧ _
    rw [newestOf_snoc]
    by_cases e : q = k
    · exact .inr ⟨v, l, by simp [upd, e], by simp [e], hv.kb hkb⟩
    · simp only [upd, if_neg e]
      rcases hA.nval q with h | ⟨u, l', h, h', hu⟩
      · exact .inl (by simpa [newestOf_snoc, AD.write, e] using h)
      · exact .inr ⟨u, l', h, h', hu.kb hkb⟩
  · exact WritesRep.snoc ho5 hx hxs (fun u q hu => hu.kb hkb) (hv.kb hkb)
  · rintro j (rfl | rfl | rfl | hj)
    · exact ⟨blk_lt p5', notB_ty p5' (by decide)⟩
    · obtain ⟨e1, c1, hm, _⟩ := d5; exact ⟨blk_lt hm, notB_map hm⟩
    · obtain ⟨e1, c1, hm, _⟩ := m5; exact ⟨blk_lt hm, notB_map hm⟩
    · obtain ⟨cs, hcs⟩ := own_block ho5 hj; exact ⟨blk_lt hcs, notB_ty hcs (by decide)⟩
  · rintro j (rfl | rfl | rfl | hj)
    · exact .inl fp
    · exact .inl fd
    · exact .inl fn
    · exact v5 j hj

set_option maxRecDepth 100000 in
set_option maxHeartbeats 1000000 in
theorem disk_Write (p : Nat) (k : Int) (ad : Addr) (c : Nat) (l : Bytes) (D : AD) (F : Nat → Prop) (w : World) (h : DiskRep w p D F) (hk : D.has k = true) (hl : l.length = 256) (hat : AtB w ad l) (hpn : D.pend.length ≤ 1000000000) :
    Calls Try.prog 41 #[.pointer (some ⟨p, 0, none⟩), .int .i64 k, .slice (some ad) 256 c] w fun e w' => e = .returned (.int .i64 0) ∧ DiskTo w p (D.write k l) F w' := by
  have Hk := Lib.hid hk; clear hk
  have H := Lib.hid h; clear h
  have hcl := clone_at ad l c w hat (by omega)
  rw [hl] at hcl
  have Hcl := Lib.hid hcl; clear hcl
  have Hat := Lib.hid (And.intro hl (And.intro hat hpn)); clear hat hl hpn
  obtain ⟨i0, hi, hz0, hz1, hz2⟩ := info_parts infoW
  have Hi := Lib.hid (And.intro hi (And.intro hz0 (And.intro hz1 hz2))); clear hi hz0 hz1 hz2
  obtain ⟨⟨md, mn, pv, dn, nw, hA, fp, fd, fn, fv⟩, hF⟩ := id H.out
  have HA := Lib.hid hA; clear hA
  have HF := Lib.hid (And.intro fp (And.intro fd (And.intro fn (And.intro fv hF)))); clear fp fd fn fv hF
  go_enter Try.func41, Try.ntmps41
  go_wp2_with (go_at_call 47; refine (disk_has p k D F _ H.out).mono ?_; rintro e w' ⟨rfl, rfl⟩; rw [Hk.out])
  refine Hcl.out.mono ?_
  rintro e w1 ⟨v, rfl, hv1, hbw⟩
  obtain ⟨g, cv, hvv, _, _, _⟩ := hv1.open_ (by have := Hat.out.1; omega)
  rw [Hat.out.1] at hvv
  subst hvv
  have hA1 := HA.out.below hbw
  have HF1 := Lib.hid (HF.out.2.2.2.2.below hbw)
  obtain ⟨xs, ho, hxs⟩ := id hA1.pend
  have HX := Lib.hid (And.intro ho hxs); clear ho hxs
  have c2 : w1.cell? ⟨p, 2, none⟩ = some pv := by rw [blk_cell hA1.blk]; rfl
  have H1 := Lib.hid (And.intro hv1 hbw); clear hv1 hbw
  have HA1 := Lib.hid hA1; clear hA1
  go_wp2_with (at_builtin; refine wpList_append_own_at _ rfl _ _ 45 rfl 0 56 i0 (.agg #[.int .i64 0, .slice none 0 0]) 2 32 Try.underlying45 Hi.out.1 Hi.out.2.1 Hi.out.2.2.1 Hi.out.2.2.2 rfl (by decide) pv D.pend.length xs rfl (HX.out.1.alloc _) ⟨w1.heap.size, 0, none⟩ 1 1 [.int .i64 k, .slice (some ⟨g, 0, none⟩) 256 cv] rfl rfl ?c1 ?c2 ?c3 ?c4 (Nat.zero_le _) ?_)
  case c1 => exact cell_two_new _ _ _ _
  case c2 => intro u hu; simp at hu; rcases hu with rfl | rfl <;> rfl
  case c3 => have := Hat.out.2.2; unfold maxLen; omega
  case c4 => have := Hat.out.2.2; omega
  intro pv' w2 hown hgrow _ hat2
  obtain ⟨A', c', hpv'⟩ := own_slice hown
  subst hpv'
  have hpo : some p ≠ pv.ownBlock := fun e => by
    obtain ⟨cs, hcs⟩ := own_block HX.out.1 e.symm
    exact absurd rfl (blk_ty HA1.out.blk hcs (by decide))
  have p2 := blk_grown (blk_alloc HA1.out.blk _) hgrow hpo
  have q2 : w2.cell? ⟨p, 2, none⟩ = some pv := by rw [blk_cell p2]; rfl
  have f2 : w2.frozen? ⟨p, 2, none⟩ = false := blk_frozen p2 _
  obtain ⟨es, cl, hmn, hok⟩ := id HA1.out.newest
  have hpn : p ≠ mn := blk_mapne HA1.out.blk hmn
  have hno : some mn ≠ pv.ownBlock := fun e => by
    obtain ⟨cs, hcs⟩ := own_block HX.out.1 e.symm
    rw [hmn] at hcs; cases hcs
  have n2 := blk_grown (blk_alloc hmn _) hgrow hno
  have n3 := blk_far n2 (p := ⟨p, 2, none⟩) (fun e => hpn e.symm) (.slice A' (D.pend.length + 1) c')
  have p3 := blk_set p2 2 (.slice A' (D.pend.length + 1) c')
  obtain ⟨o, hrun, hM⟩ := MapIs.update (P := Try.prog) ⟨es, cl, n3, hok⟩ Try.underlying25 Try.underlying3 k (.slice (some ⟨g, 0, none⟩) 256 cv)
  have p4 := (heap_setBlock_other n3 o hpn).trans p3
  have q3 : (w2.setCell ⟨p, 2, none⟩ (.slice A' (D.pend.length + 1) c')).cell? ⟨p, 3, none⟩ = some (.map (some mn)) := by rw [blk_cell p3]; rfl
  have q4 : (setBlock (w2.setCell ⟨p, 2, none⟩ (.slice A' (D.pend.length + 1) c')) mn o).cell? ⟨p, 4, none⟩ = some (.int .i64 D.ops) := by rw [blk_cell p4]; rfl
  have f4 : (setBlock (w2.setCell ⟨p, 2, none⟩ (.slice A' (D.pend.length + 1) c')) mn o).frozen? ⟨p, 4, none⟩ = false := blk_frozen p4 _
  have fin := diskTo_write HA1.out HF.out.1 HF.out.2.1 HF.out.2.2.1 HF.out.2.2.2.1 HF1.out H1.out.1 (by have := HX.out.1.1; omega) HX.out.2 hown hgrow (by simpa using hat2) hM
  have Fin := Lib.hid (fin.from_ H1.out.2)
  clear fin hM p4 p3 n3 n2 hno hpn hmn hok p2 hpo hown hgrow hat2 c2
  go_wp2
  go_ret
  exact ⟨rfl, Fin.out⟩
end Go.Proofs.Ytnhifnakgiddiaa
