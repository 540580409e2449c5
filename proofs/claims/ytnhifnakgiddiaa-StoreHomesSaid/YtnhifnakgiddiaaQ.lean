/- The store's Write. -/
import Derived.Test.YtnhifnakgiddiaaP
import Derived.Deep.RegionHeld3
import Derived.Deep.RegionWith
import Derived.Laws.EntriesVeiled
namespace Go.Proofs.Ytnhifnakgiddiaa
open Go Go.RowKit Go.MapKept
open Go.ChangeMaps (setBlock heap_setBlock_same heap_setBlock_other)

/-- append onto a row of its own, as one step of a region that draws. -/
theorem step_append_own {P : Program} {ops : Array Oper} {o : Oper} {a : Act} {w : World} {K : Act → World → Prop} {Q : Exit → Act → World → Prop} {E : Prop}
    (hg : o.guard = none) (s x : Operand) (t : TypeId) (ho : o.op = .call { callee := .builtin .append, args := #[s, x], argTypes := #[t, t] })
    (base : Nat) (e : TypeId) (i : TypeInfo) (z : Value) (size bytes : Nat) (ht : P.underlying t = some (.slice e)) (hi : P.info? e = some i) (hz : i.zero = some z)
    (hsize : i.size = size) (hby : i.bytes = bytes) (hzs : z.cells.size = size) (hsz : 0 < size)
    (v : Value) (n : Nat) (xs : List Value) (hs : a.eval s = v) (hown : w.ownsRow base e size v n xs)
    (ad : Addr) (m c : Nat) (news : List Value) (hx : a.eval x = .slice (some ad) m c) (hl : news.length = m * size) (hnews : ∀ j u, news[j]? = some u → w.cell? (ad.add j) = some u) (h1 : ∀ u ∈ news, u.oneCell' = true)
    (h63 : n + m ≤ maxLen) (hbytes : (n + m) * bytes ≤ 140737488355328) (hbase : base ≤ w.heap.size)
    (h : ∀ v' w', w'.ownsRow base e size v' (n + m) (xs ++ news) → w.grownBy w' v.ownBlock → (v'.ownBlock = v.ownBlock ∨ v'.ownBlock = some w.heap.size) → K (a.put o.dst v') w') :
    if Region.wanted o (yielded ops a.tmps) = true then Oper.wp P o a w K Q else E := by
  have hw : Region.wanted o (yielded ops a.tmps) = true := by simp [Region.wanted, hg]
  rw [if_pos hw]
  obtain ⟨v', w', hr, h2, h3, h4, h5⟩ := run_append_own_at (P := P) w base t o.type e i z size bytes ht hi hz hsize hby hzs hsz v n xs hown ad m c news hl hnews h1 h63 hbytes hbase
  unfold Oper.wp execOp
  simp only [ho, resolve, invoke, builtin, Sem.run_bind, Sem.run_pure, Result.andThen_ok, List.map_toArray, List.map_cons, List.map_nil, hs, hx, hr]
  exact h v' w' h2 h3 h5

theorem infoF : (Try.prog.info? 1).map (fun i => (i.zero, i.size, i.bytes)) = some (some .nilFunc, 1, 8) := by kernel_rfl

set_option maxRecDepth 100000 in
set_option maxHeartbeats 400000 in
theorem store_Write_bad (s p : Nat) (k : Int) (ao : Option Addr) (n c : Nat) (S : SM) (F : Nat → Prop) (D : AD) (G : Nat → Prop) (w : World) (hS : StRep w s p S F) (hD : DiskRep w p D G) (hk : D.has k = false) :
    Calls Try.prog 10 #[ptr s, .int .i64 k, .slice ao n c] w fun e w' => e = .returned (.int .i64 5) ∧ Below w.heap.size w w' := by
  have hb : Below w.heap.size w ((w.alloc (.cells #[ptr s] 23)).alloc (.cells #[.int .i64 k] 3)) := ((Below.refl _ w).alloc (Nat.le_refl _) _).alloc (by simp) _
  have hh := store_has s p k S F D G _ (hS.below hb) (hD.below hb)
  rw [hk] at hh
  have HH := Lib.hid (And.intro hh hb); clear hh hS hD hk hb
  unfold ptr at *
  go_enter Try.func10, Try.ntmps10
  go_wp2_with (go_at_call 34; refine HH.out.1.mono ?_; rintro e w' ⟨rfl, rfl⟩)
  go_ret
  exact ⟨rfl, HH.out.2⟩

set_option maxRecDepth 100000 in
set_option maxHeartbeats 400000 in
theorem store_Write_len (s p : Nat) (k : Int) (ao : Option Addr) (n c : Nat) (S : SM) (F : Nat → Prop) (D : AD) (G : Nat → Prop) (w : World) (hS : StRep w s p S F) (hD : DiskRep w p D G) (hk : D.has k = true) (hn : n ≠ 256) :
    Calls Try.prog 10 #[ptr s, .int .i64 k, .slice ao n c] w fun e w' => e = .returned (.int .i64 22) ∧ Below w.heap.size w w' := by
  have hb : Below w.heap.size w ((w.alloc (.cells #[ptr s] 23)).alloc (.cells #[.int .i64 k] 3)) := ((Below.refl _ w).alloc (Nat.le_refl _) _).alloc (by simp) _
  have hh := store_has s p k S F D G _ (hS.below hb) (hD.below hb)
  rw [hk] at hh
  have HH := Lib.hid (And.intro hh hb); clear hh hS hD hk hb
  have hne : ((n : Int) != 256) = true := by rw [bne_iff_ne]; omega
  unfold ptr at *
  go_enter Try.func10, Try.ntmps10
  go_wp2_with (go_at_call 34; refine HH.out.1.mono ?_; rintro e w' ⟨rfl, rfl⟩)
  go_ret
  exact ⟨rfl, HH.out.2⟩

def SM.write (S : SM) (k : Nat) (b : Bytes) : SM :=
  { S with ch := bupd S.ch k b, us := S.us ++ [.wr k (S.ch k)], sh := S.sh.set (k % S.sh.length) (dropKey k (S.shard k)) }
end Go.Proofs.Ytnhifnakgiddiaa
