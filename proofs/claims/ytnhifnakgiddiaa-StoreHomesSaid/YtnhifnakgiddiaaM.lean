/- The store's 'use': a block is laid into the cache. -/
import Derived.Test.YtnhifnakgiddiaaL
namespace Go.Proofs.Ytnhifnakgiddiaa
open Go Go.RowKit Go.MapKept
open Go.ChangeMaps (setBlock heap_setBlock_same heap_setBlock_other)

def SM.use (S : SM) (k : Nat) (b : Bytes) : SM := { S with sh := S.sh.set (k % S.sh.length) (useSh S.room k b (S.sh.getD (k % S.sh.length) [])) }

theorem ShardCell.drew {w : World} {gs o : Nat} {cs : Array Value} {ov : Value} {md : Nat} (h : ShardCell w gs o cs ov md) : ShardCell w.drew gs o cs ov md := ⟨h.blk, h.ord, h.dat⟩
theorem MapB.drew {w : World} {m : Nat} {f : Int → Option Bytes} (h : MapB w m f) : MapB w.drew m f := h
theorem IRow.drew {w : World} {v : Value} {ks : List Int} (h : IRow w v ks) : IRow w.drew v ks := h

/-- The second half of 'use': cut to the room. -/
theorem useSh_eq (room : Int) (n : Int) (b : Bytes) (l : List (Int × Bytes)) (h : Int) (hh : ((putKey n b l).map (·.1))[0]? = some h) :
    useSh room n b l = if room < ((putKey n b l).length : Int) then dropKey h (putKey n b l) else putKey n b l := by
  unfold useSh cutTo
  cases hp : putKey n b l with
  | nil => rw [hp] at hh; simp at hh
  | cons x r =>
    obtain ⟨a, c⟩ := x
    rw [hp] at hh; simp at hh; subst hh; rfl

set_option maxRecDepth 100000 in
set_option maxHeartbeats 2000000 in
theorem shard_use (s gs cap i len k : Nat) (room : Int) (cs : Array Value) (ov v : Value) (md : Nat) (l : List (Int × Bytes)) (b : Bytes) (w : World)
    (hc1 : w.cell? ⟨s, 1, none⟩ = some (.int .i64 room)) (hc6 : w.cell? ⟨s, 6, none⟩ = some (.slice (some ⟨gs, 0, none⟩) len cap)) (hts : IsTy w s 30) (hlen : 0 < len ∧ len ≤ 16) (hk : k ≤ 4096) (hi : i = k % len)
    (hs : ShardCell w gs (2 * i) cs ov md) (hr : IRow w ov (l.map (·.1))) (hm : MapB w md (fun x => l.lookup x)) (hv : Blk w v b) (hb : b.length = 256) (hl : l.length ≤ 1000000) :
    Calls Try.prog 37 #[ptr s, .int .i64 (k : Int), v] w fun e w' => e = .returned (.tuple #[]) ∧ ShardTo w gs (2 * i) cs ov md ((useSh room k b l).map (·.1)) (fun x => (useSh room k b l).lookup x) w' := by
  subst hi
  have hof := store_of s gs cap k len w hc6 hlen.1 hlen.2 hk
  rw [Nat.mul_comm (k % len) 2] at hof
  generalize ho : 2 * (k % len) = o at *
  have hfo := shard_forget gs o cs ov md k (l.map (·.1)) _ w.drew hs.drew hr.drew hm.drew (by simp; omega)
  obtain ⟨gb, cb, hvv, _, _, _⟩ := hv.open_ (by omega)
  rw [hb] at hvv
  obtain ⟨i0, hi, hz0, hz1, hz2⟩ := info_parts (show (Try.prog.info? 3).map (fun i => (i.zero, i.size, i.bytes)) = some (some (.int .i64 0), 1, 8) by kernel_rfl)
  have Hi := Lib.hid (And.intro hi (And.intro hz0 (And.intro hz1 hz2))); clear hi hz0 hz1 hz2
  have H0 := Lib.hid (And.intro hof hfo); clear hof hfo
  have Hr := Lib.hid (And.intro hr hm)
  have H1 := Lib.hid (And.intro hs (And.intro hv (And.intro hl (And.intro hc1 hts)))); clear hs hr hm hv hl hc1 hc6 hlen hts hb ho
  subst hvv
  unfold ptr at *
  go_enter Try.func37, Try.ntmps37
  go_wp2_with fail
  refine H0.out.1.mono ?_
  rintro e w0 ⟨rfl, rfl⟩
  go_wp2_with fail
  refine H0.out.2.mono ?_
  rintro e w1 ⟨rfl, hsh⟩
  have HT1 := Lib.hid (shardTo_drew hsh)
  obtain ⟨ov1, hsi⟩ := HT1.out
  have hkb1 : KB w w1 := hsi.kb H1.out.1 Hr.out.1 Hr.out.2
  have hf1 : IsTy w1 s 30 := by
    obtain ⟨c, fr, h⟩ := H1.out.2.2.2.2
    exact ⟨c, fr, (hsi.far H1.out.1 Hr.out.1 Hr.out.2 ⟨c, fr, h⟩ (by decide) (by decide)).trans h⟩
  have hc1' : w1.cell? ⟨s, 1, none⟩ = some (.int .i64 room) := (World.cell?_of_block (hsi.far H1.out.1 Hr.out.1 Hr.out.2 H1.out.2.2.2.2 (by decide) (by decide))).trans H1.out.2.2.2.1
  have d1 : w1.cell? ⟨gs, o, none⟩ = some ov1 := by rw [blk_cell hsi.2.1.blk]; exact hsi.2.1.ord
  have HA := Lib.hid (And.intro hsi.1 (And.intro hsi.2.1 (And.intro hsi.2.2.1 (And.intro hkb1 (And.intro hf1 hc1')))))
  have HSI := Lib.hid hsi
  clear hsi hkb1 hf1 hc1'
  go_wp2_with (at_builtin; refine wpList_append_own_at _ rfl _ _ 43 rfl 0 3 i0 (.int .i64 0) 1 8 Try.underlying43 Hi.out.1 Hi.out.2.1 Hi.out.2.2.1 Hi.out.2.2.2 rfl (by decide) ov1 (dropped k (l.map (·.1))).length (iv (dropped k (l.map (·.1)))) rfl (World.ownsRow.alloc HA.out.1 _) ⟨w1.heap.size, 0, none⟩ 1 1 [.int .i64 k] rfl rfl ?c1 ?c2 ?c3 ?c4 (Nat.zero_le _) ?_)
  case c1 => exact cell_one_new _ _ _
  case c2 => intro u hu; simp at hu; subst hu; rfl
  case c3 => have := dropped_le k (l.map (·.1)); have := H1.out.2.2.1; simp at *; unfold maxLen; omega
  case c4 => have := dropped_le k (l.map (·.1)); have := H1.out.2.2.1; simp at *; omega
  intro ov2 w2 hown hgrow _ hat2
  have b2 := blk_grown (blk_alloc HA.out.2.1.blk _) hgrow (fun e => by obtain ⟨c, h⟩ := own_block HA.out.1 e.symm; exact absurd rfl (ty_ne ⟨_, _, HA.out.2.1.blk⟩ ⟨_, _, h⟩ (by decide)))
  have d2 : w2.cell? ⟨gs, o, none⟩ = some ov1 := by rw [blk_cell b2]; exact HA.out.2.1.ord
  have f2 : w2.frozen? ⟨gs, o, none⟩ = false := blk_frozen b2 _
  have st2 := shardTo_append HA.out.2.1 HA.out.1 HA.out.2.2.1 hown hgrow (by simpa using hat2)
  obtain ⟨g2, cc2, hv2, hrow2⟩ : ∃ g c, ov2 = .slice (some ⟨g, 0, none⟩) ((dropped k (l.map (·.1))).length + 1) c ∧ RowAt (w2.setCell ⟨gs, o, none⟩ ov2) g c (dropped k (l.map (·.1)) ++ [(k : Int)]) := by
    rcases st2.1.at_ with ⟨_, h⟩ | ⟨g, c, h1, h2⟩
    · simp at h
    · exact ⟨g, c, by simpa using h1, h2⟩
  subst hv2
  obtain ⟨vf, hM, hO⟩ := id st2.2.2.1
  obtain ⟨ob, hrun, hM4⟩ := MapIs.update (P := Try.prog) hM Try.underlying25 Try.underlying3 k (.slice (some ⟨gb, 0, none⟩) 256 cb)
  have kb2 := st2.kb HA.out.2.1 HA.out.1 HA.out.2.2.1
  have st4 := shardTo_update st2.2.1 st2.1 hM hO ((H1.out.2.1.kb HA.out.2.2.2.1).kb kb2) hM4
  have S4 := st2.then_ st4
  have d3 : (w2.setCell ⟨gs, o, none⟩ (.slice (some ⟨g2, 0, none⟩) ((dropped k (l.map (·.1))).length + 1) cc2)).cell? ⟨gs, o + 1, none⟩ = some (.map (some md)) := by rw [blk_cell st2.2.1.blk]; exact st2.2.1.dat
  have d4 : (setBlock (w2.setCell ⟨gs, o, none⟩ (.slice (some ⟨g2, 0, none⟩) ((dropped k (l.map (·.1))).length + 1) cc2)) md ob).cell? ⟨gs, o, none⟩ = some (.slice (some ⟨g2, 0, none⟩) ((dropped k (l.map (·.1))).length + 1) cc2) := by rw [blk_cell S4.2.1.blk]; exact S4.2.1.ord
  have r4 : (setBlock (w2.setCell ⟨gs, o, none⟩ (.slice (some ⟨g2, 0, none⟩) ((dropped k (l.map (·.1))).length + 1) cc2)) md ob).cell? ⟨s, 1, none⟩ = some (.int .i64 room) :=
    (World.cell?_of_block (S4.far HA.out.2.1 HA.out.1 HA.out.2.2.1 HA.out.2.2.2.2.1 (by decide) (by decide))).trans HA.out.2.2.2.2.2
  obtain ⟨h, hh⟩ : ∃ h, ((putKey k b l).map (·.1))[0]? = some h := by
    rw [putKey_keys]
    cases hd : dropped k (l.map (·.1)) with
    | nil => exact ⟨k, rfl⟩
    | cons x r => exact ⟨x, rfl⟩
  have hue := useSh_eq room k b l h hh
  have hpl : ((putKey k b l).length : Int) = ((dropped k (l.map (·.1))).length : Int) + 1 := by
    have := congrArg List.length (putKey_keys k b l); simp at this; omega
  rw [putKey_keys] at hh
  have hc0 : (setBlock (w2.setCell ⟨gs, o, none⟩ (.slice (some ⟨g2, 0, none⟩) ((dropped k (l.map (·.1))).length + 1) cc2)) md ob).cell? ⟨g2, 0, none⟩ = some (.int .i64 h) := by
    have h4 := S4.1
    rcases h4.at_ with ⟨e, _⟩ | ⟨g, c, e, hr⟩
    · cases e
    · simp only [Value.slice.injEq, Option.some.injEq, Addr.mk.injEq] at e
      obtain ⟨⟨rfl, _⟩, _⟩ := e
      exact hr.cell hh
  have h5 : ¬ room < ((dropped k (l.map (·.1))).length : Int) + 1 ∨ room < ((dropped k (l.map (·.1))).length : Int) + 1 := by omega
  have S5 := HSI.out.then_ S4
  have fin1 : ¬ room < ((dropped k (l.map (·.1))).length : Int) + 1 → ShardTo w gs o cs ov md ((useSh room k b l).map (·.1)) (fun x => (useSh room k b l).lookup x) (setBlock (w2.setCell ⟨gs, o, none⟩ (.slice (some ⟨g2, 0, none⟩) ((dropped k (l.map (·.1))).length + 1) cc2)) md ob).drew := fun hn => by
    rw [hue, if_neg (by rw [hpl]; exact hn), putKey_keys, putKey_bupd]
    exact ⟨_, S5.drew⟩
  have hfo2 := shard_forget gs o ((cs.setIfInBounds o ov1).setIfInBounds o (.slice (some ⟨g2, 0, none⟩) ((dropped k (l.map (·.1))).length + 1) cc2)) (.slice (some ⟨g2, 0, none⟩) ((dropped k (l.map (·.1))).length + 1) cc2) md h _ _ _ S4.2.1.drew S4.1.drew S4.2.2.1.drew (by have := dropped_le k (l.map (·.1)); have := H1.out.2.2.1; simp at *; omega)
  have fin2 : room < ((dropped k (l.map (·.1))).length : Int) + 1 → ∀ w', ShardTo (setBlock (w2.setCell ⟨gs, o, none⟩ (.slice (some ⟨g2, 0, none⟩) ((dropped k (l.map (·.1))).length + 1) cc2)) md ob).drew gs o ((cs.setIfInBounds o ov1).setIfInBounds o (.slice (some ⟨g2, 0, none⟩) ((dropped k (l.map (·.1))).length + 1) cc2)) (.slice (some ⟨g2, 0, none⟩) ((dropped k (l.map (·.1))).length + 1) cc2) md (dropped h (dropped k (l.map (·.1)) ++ [(k : Int)])) (bdel (bupd (bdel (fun x => l.lookup x) k) k b) h) w' → ShardTo w gs o cs ov md ((useSh room k b l).map (·.1)) (fun x => (useSh room k b l).lookup x) w' := fun hn w' hw' => by
    rw [hue, if_pos (by rw [hpl]; exact hn), dropKey_keys, dropKey_bdel, putKey_keys, putKey_bupd]
    obtain ⟨ov9, h9⟩ := hw'
    have : (setBlock (w2.setCell ⟨gs, o, none⟩ (.slice (some ⟨g2, 0, none⟩) ((dropped k (l.map (·.1))).length + 1) cc2)) md ob).heap = (setBlock (w2.setCell ⟨gs, o, none⟩ (.slice (some ⟨g2, 0, none⟩) ((dropped k (l.map (·.1))).length + 1) cc2)) md ob).drew.heap := rfl
    exact ⟨ov9, S5.then_ ⟨h9.1, by simpa using h9.2.1, h9.2.2.1, ⟨h9.2.2.2.1.os, h9.2.2.2.1.tape, h9.2.2.2.1.output, h9.2.2.2.1.size, h9.2.2.2.1.block⟩, h9.2.2.2.2⟩⟩
  have HF := Lib.hid (And.intro fin1 (And.intro hfo2 fin2))
  clear S5 S4 st4 kb2 hM4 hM hO st2 b2 hgrow hown hat2 hrow2 hh hue hpl fin1 fin2 hfo2
  generalize hks : (dropped k (l.map (·.1))).length = m at *
  have Hks := Lib.hid hks; clear hks
  rcases h5 with hgt | hgt
  · go_wp2
    go_region
    go_wp2
    go_end0
    exact ⟨rfl, HF.out.1 (by omega)⟩
  · go_wp2
    go_region
    go_wp2_with fail
    refine HF.out.2.1.mono ?_
    rintro e w9 ⟨rfl, h9⟩
    have H9 := Lib.hid (HF.out.2.2 (by omega) w9 h9); clear h9
    go_wp2
    go_end0
    exact ⟨rfl, H9.out⟩
end Go.Proofs.Ytnhifnakgiddiaa
