/- Rows of bytes ('bv', 'Blk'), and slices.Clone at them. -/
import Derived.Test.YtnhifnakgiddiaaProg
import Derived.Test.YtnhifnakgiddiaaH
import Derived.Lib.Hide
namespace Go.Proofs.Ytnhifnakgiddiaa
open Go Go.RowKit Go.MapKept
open Go.ChangeMaps (setBlock heap_setBlock_same heap_setBlock_other)

abbrev Bytes := List UInt8
def bv (l : Bytes) : List Value := l.map fun b => .int .u8 (b.toNat : Int)
theorem bv_length (l : Bytes) : (bv l).length = l.length := by simp [bv]
theorem bv_get (l : Bytes) (j : Nat) : (bv l)[j]? = (l[j]?).map fun b => .int .u8 (b.toNat : Int) := by simp [bv]
theorem bv_one (l : Bytes) : ∀ u ∈ bv l, u.oneCell' = true := by intro u hu; simp [bv] at hu; obtain ⟨b, _, rfl⟩ := hu; rfl

/-- The cells from an address on hold these bytes. -/
def AtB (w : World) (ad : Addr) (l : Bytes) : Prop := ∀ j u, (bv l)[j]? = some u → w.cell? (ad.add j) = some u

/-- A row of bytes of its own, that begins at its block's head. -/
def Blk (w : World) (v : Value) (l : Bytes) : Prop := w.ownsRow 0 5 1 v l.length (bv l)

theorem own_slice {w : World} {base n size : Nat} {e : TypeId} {v : Value} {xs : List Value} (h : w.ownsRow base e size v n xs) : ∃ A c, v = .slice A n c := by
  rcases h.2 with ⟨rfl, rfl⟩ | ⟨g, cap, cur, rfl, _⟩
  · exact ⟨_, _, rfl⟩
  · exact ⟨_, _, rfl⟩

theorem infoB : (Try.prog.info? 5).map (fun i => (i.zero, i.size, i.bytes)) = some (some (.int .u8 0), 1, 1) := by kernel_rfl

set_option maxHeartbeats 400000 in
theorem clone_at (ad : Addr) (l : Bytes) (c : Nat) (w : World) (hl : AtB w ad l) (hn : l.length ≤ 70368744177664) :
    Calls Try.prog 35 #[.slice (some ad) l.length c] w fun e w' => ∃ v, e = .returned v ∧ Blk w' v l ∧ Below w.heap.size w w' := by
  obtain ⟨i0, hi, hz0, hz1, hz2⟩ := info_parts infoB
  have qT : ∀ (w : World) (a : Option Addr) (n c n' c' : Nat), (binOp .eql 32 (.slice a n c) (.slice none n' c')).run Try.prog w = .ok (.bool a.isNone) w := fun w a n c n' c' => Lib.run_eql_slice_nil w _ _ a n c n' c' Try.underlying32
  have Hn := Lib.hid hn; clear hn
  have Hl := Lib.hid hl; clear hl
  have Hi := Lib.hid (And.intro hi (And.intro hz0 (And.intro hz1 hz2))); clear hi hz0 hz1 hz2
  go_enter Try.func35, Try.ntmps35
  go_wp2_with (at_builtin; refine wpList_append_own _ rfl _ _ 32 rfl 0 5 i0 (.int .u8 0) 1 1 Try.underlying32 Hi.out.1 Hi.out.2.1 Hi.out.2.2.1 Hi.out.2.2.2 rfl (by decide) _ _ _ rfl (World.ownsRow_made w #[] 0 (Nat.zero_le _) (by decide) rfl) ad l.length c (bv l) rfl ?c1 ?c2 (bv_one l) ?c3 ?c4 ?c5 ?_)
  case c1 => simp [bv]
  case c2 => intro j u h; exact (World.cell?_alloc_lt _ _ _ (World.block_lt_of_cell? _ _ (Hl.out j u h))).trans (Hl.out j u h)
  case c3 => have := Hn.out; unfold maxLen; omega
  case c4 => have := Hn.out; omega
  case c5 => omega
  intro v w1 hown hgrow _
  have hb : Below w.heap.size w w1 := ((Below.refl _ w).alloc (Nat.le_refl _) _).grown hgrow (by simp) (by intro k e; simp [Value.ownBlock] at e; omega)
  have Hb := Lib.hid hb; clear hb hgrow
  have Ho := Lib.hid (show Blk w1 v l from hown); clear hown
  go_wp2
  go_ret
  exact ⟨v, rfl, Ho.out, Hb.out⟩
end Go.Proofs.Ytnhifnakgiddiaa
