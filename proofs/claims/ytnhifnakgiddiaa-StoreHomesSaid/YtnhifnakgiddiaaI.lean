/- The store's words: how the program's store lies in memory ('StRep'). -/
import Derived.Test.YtnhifnakgiddiaaG
namespace Go.Proofs.Ytnhifnakgiddiaa
open Go Go.RowKit Go.MapKept
open Go.ChangeMaps (setBlock heap_setBlock_same heap_setBlock_other)

inductive Und where
  | wr (n : Int) (old : Option Bytes)
  | hd (live : Bool) (n : Int) (was : Bool)

structure SM where
  room : Int
  ch : Int → Option Bytes
  wt : Int → Option Bytes
  hd : Int → Bool
  us : List Und
  sh : List (List (Int × Bytes))
  found : Int
  asked : Int

structure SG where
  mc : Nat
  mw : Nat
  mh : Nat
  uv : Value
  sv : Value
  ms : List (Nat × Value)
  bx : Nat → Prop
  st : Nat → Prop

def heldV (h : Int → Bool) : Int → Option Value := fun k => if h k then some (.int .i64 1) else none

def ptr (b : Nat) : Value := .pointer (some ⟨b, 0, none⟩)

/-- A closure of the store's row of what is to be undone. -/
def UndAt (w : World) (s : Nat) (g : SG) (f : Value) : Und → Prop
  | .wr n old => ∃ bo bs bn ov, f = .func (.func 38) #[] #[ptr bo, ptr bs, ptr bn] ∧ w.heap[bo]? = some (.cells #[ov] 32 (0, 0)) ∧ w.heap[bs]? = some (.cells #[ptr s] 23 (0, 0)) ∧ w.heap[bn]? = some (.cells #[.int .i64 n] 3 (0, 0)) ∧
      g.bx bo ∧ g.bx bs ∧ g.bx bn ∧ ((ov = .slice none 0 0 ∧ old = none) ∨ ∃ l, old = some l ∧ Blk w ov l ∧ l.length = 256)
  | .hd live n was => ∃ bw bh bn m, f = .func (.func 40) #[] #[ptr bw, ptr bh, ptr bn] ∧ w.heap[bw]? = some (.cells #[.int .i64 (if was then 1 else 0)] 3 (0, 0)) ∧ w.heap[bh]? = some (.cells #[.map (some m)] 26 (0, 0)) ∧ w.heap[bn]? = some (.cells #[.int .i64 n] 3 (0, 0)) ∧
      g.bx bw ∧ g.bx bh ∧ g.bx bn ∧ (if live then m = g.mh else g.st m)

def UndoAt (w : World) (s : Nat) (g : SG) (us : List Und) : Prop :=
  ∃ fs, w.ownsRow 0 1 1 g.uv us.length fs ∧ ∀ (i : Nat) u, us[i]? = some u → ∃ f, fs[i]? = some f ∧ UndAt w s g f u

def ShardAt (w : World) (l : List (Int × Bytes)) (q : Nat × Value) : Prop := IRow w q.2 (l.map (·.1)) ∧ MapB w q.1 (fun k => l.lookup k)

def ShardsAt (w : World) (g : SG) (sh : List (List (Int × Bytes))) : Prop :=
  ∃ gs cap cs, g.sv = .slice (some ⟨gs, 0, none⟩) sh.length cap ∧ sh.length ≤ cap ∧ w.heap[gs]? = some (.cells cs 79 (0, 0)) ∧ g.ms.length = sh.length ∧ 0 < sh.length ∧ sh.length ≤ 16 ∧
    ∀ (i : Nat) l q, sh[i]? = some l → g.ms[i]? = some q → cs[2 * i]? = some q.2 ∧ cs[2 * i + 1]? = some (.map (some q.1)) ∧ ShardAt w l q

structure Sep (g : SG) : Prop where
  maps : (g.mc :: g.mw :: g.mh :: g.ms.map (·.1)).Nodup
  rows : ∀ (i j : Nat) a b, g.ms[i]? = some a → g.ms[j]? = some b → i ≠ j → ∀ k, a.2.ownBlock = some k → b.2.ownBlock ≠ some k
  box : ∀ q ∈ g.ms, ∀ k, q.2.ownBlock = some k → ¬ g.bx k
  stale : ∀ m, g.st m → m ∉ (g.mc :: g.mw :: g.mh :: g.ms.map (·.1))

def BoxAt (w : World) (g : SG) : Prop := ∀ k, g.bx k → ∃ v t, w.heap[k]? = some (.cells #[v] t (0, 0)) ∧ (t = 32 ∨ t = 23 ∨ t = 3 ∨ t = 26)
def StaleAt (w : World) (g : SG) : Prop := ∀ m, g.st m → ∃ f, MapIs w m f

structure StAt (w : World) (s p : Nat) (S : SM) (g : SG) : Prop where
  head : w.heap[s]? = some (.cells #[ptr p, .int .i64 S.room, .map (some g.mc), .map (some g.mw), .map (some g.mh), g.uv, g.sv, .int .i64 S.found, .int .i64 S.asked] 30 (0, 0))
  ch : MapB w g.mc S.ch
  wt : MapB w g.mw S.wt
  hd : MapIs w g.mh (heldV S.hd)
  undo : UndoAt w s g S.us
  shards : ShardsAt w g S.sh
  box : BoxAt w g
  stale : StaleAt w g
  sep : Sep g

def fp (g : SG) (s k : Nat) : Prop :=
  k = s ∨ k = g.mc ∨ k = g.mw ∨ k = g.mh ∨ g.uv.ownBlock = some k ∨ g.sv.ownBlock = some k ∨ (∃ q ∈ g.ms, q.1 = k ∨ q.2.ownBlock = some k) ∨ g.bx k ∨ g.st k

structure SM.Wf (S : SM) : Prop where
  ch : ∀ k l, S.ch k = some l → l.length = 256
  wt : ∀ k l, S.wt k = some l → l.length = 256
  sh : ∀ l ∈ S.sh, ∀ p ∈ l, p.2.length = 256
  und : ∀ n l, Und.wr n (some l) ∈ S.us → l.length = 256
  len : ∀ l ∈ S.sh, l.length ≤ 300
  room : 1 ≤ S.room ∧ S.room ≤ 256

/-- The program's store at block s of w is S, over the disk at block p; F: its blocks, but those of bytes. -/
def StRep (w : World) (s p : Nat) (S : SM) (F : Nat → Prop) : Prop := ∃ g, StAt w s p S g ∧ ∀ k, F k ↔ fp g s k

/-! ### what stays -/
theorem UndAt.keep {w w' : World} {s : Nat} {g g' : SG} {f : Value} {u : Und} (h : UndAt w s g f u) (hk : KB w w') (hb : ∀ k, g.bx k → w'.heap[k]? = w.heap[k]?) (h1 : ∀ k, g.bx k → g'.bx k) (h2 : g'.mh = g.mh) (h3 : ∀ m, g.st m → g'.st m) : UndAt w' s g' f u := by
  cases u with
  | wr n old =>
    obtain ⟨bo, bs, bn, ov, e, a, b, c, x, y, z, r⟩ := h
    refine ⟨bo, bs, bn, ov, e, (hb _ x).trans a, (hb _ y).trans b, (hb _ z).trans c, h1 _ x, h1 _ y, h1 _ z, ?_⟩
    rcases r with r | ⟨l, r1, r2, r3⟩
    · exact .inl r
    · exact .inr ⟨l, r1, r2.kb hk, r3⟩
  | hd live n was =>
    obtain ⟨bw, bh, bn, m, e, a, b, c, x, y, z, r⟩ := h
    refine ⟨bw, bh, bn, m, e, (hb _ x).trans a, (hb _ y).trans b, (hb _ z).trans c, h1 _ x, h1 _ y, h1 _ z, ?_⟩
    cases live with
    | true => simp only [if_true] at r ⊢; rw [h2]; exact r
    | false => simp only [Bool.false_eq_true, if_false] at r ⊢; exact h3 _ r
theorem UndoAt.keep {w w' : World} {s : Nat} {g g' : SG} {us : List Und} (h : UndoAt w s g us) (hk : KB w w') (hu : ∀ k, g.uv.ownBlock = some k → w'.heap[k]? = w.heap[k]?) (hb : ∀ k, g.bx k → w'.heap[k]? = w.heap[k]?) (h0 : g'.uv = g.uv) (h1 : ∀ k, g.bx k → g'.bx k) (h2 : g'.mh = g.mh) (h3 : ∀ m, g.st m → g'.st m) : UndoAt w' s g' us := by
  obtain ⟨fs, a, b⟩ := h
  exact ⟨fs, by rw [h0]; exact own_keep a hu, fun i u hi => by obtain ⟨f, x, y⟩ := b i u hi; exact ⟨f, x, y.keep hk hb h1 h2 h3⟩⟩
theorem ShardAt.keep {w w' : World} {l : List (Int × Bytes)} {q : Nat × Value} (h : ShardAt w l q) (hk : KB w w') (h1 : w'.heap[q.1]? = w.heap[q.1]?) (h2 : ∀ k, q.2.ownBlock = some k → w'.heap[k]? = w.heap[k]?) : ShardAt w' l q := ⟨h.1.keep h2, h.2.keep hk h1⟩
theorem ShardsAt.keep {w w' : World} {g g' : SG} {sh : List (List (Int × Bytes))} (h : ShardsAt w g sh) (hk : KB w w') (h0 : ∀ k, g.sv.ownBlock = some k → w'.heap[k]? = w.heap[k]?) (h1 : ∀ q ∈ g.ms, w'.heap[q.1]? = w.heap[q.1]? ∧ ∀ k, q.2.ownBlock = some k → w'.heap[k]? = w.heap[k]?) (e1 : g'.sv = g.sv) (e2 : g'.ms = g.ms) : ShardsAt w' g' sh := by
  obtain ⟨gs, cap, cs, a, b, c, d, e, f, k⟩ := h
  refine ⟨gs, cap, cs, by rw [e1, a], b, (h0 gs (by rw [a]; rfl)).trans c, by rw [e2, d], e, f, fun i l q hi hq => ?_⟩
  rw [e2] at hq
  obtain ⟨x, y, z⟩ := k i l q hi hq
  have hm := h1 q (List.mem_of_getElem? hq)
  exact ⟨x, y, z.keep hk hm.1 hm.2⟩
theorem BoxAt.keep {w w' : World} {g g' : SG} (h : BoxAt w g) (hb : ∀ k, g.bx k → w'.heap[k]? = w.heap[k]?) (e : ∀ k, g'.bx k → g.bx k) : BoxAt w' g' := fun k hk => by
  obtain ⟨v, t, a, b⟩ := h k (e k hk); exact ⟨v, t, (hb k (e k hk)).trans a, b⟩
theorem StaleAt.keep {w w' : World} {g g' : SG} (h : StaleAt w g) (hb : ∀ m, g.st m → w'.heap[m]? = w.heap[m]?) (e : ∀ k, g'.st k → g.st k) : StaleAt w' g' := fun m hm => by
  obtain ⟨f, a⟩ := h m (e m hm); exact ⟨f, a.keep (hb m (e m hm))⟩

theorem StAt.blk_undo {w : World} {s p : Nat} {S : SM} {g : SG} (h : StAt w s p S g) {k : Nat} (hk : g.uv.ownBlock = some k) : ∃ cs, w.heap[k]? = some (.cells cs 1 (0, 0)) := by
  obtain ⟨fs, a, _⟩ := h.undo; exact own_block a hk
theorem StAt.blk_sv {w : World} {s p : Nat} {S : SM} {g : SG} (h : StAt w s p S g) {k : Nat} (hk : g.sv.ownBlock = some k) : ∃ cs, w.heap[k]? = some (.cells cs 79 (0, 0)) := by
  obtain ⟨gs, cap, cs, a, b, c, _⟩ := h.shards
  rw [a] at hk; cases hk; exact ⟨cs, c⟩
theorem ShardsAt.shard {w : World} {g : SG} {sh : List (List (Int × Bytes))} (h : ShardsAt w g sh) {q : Nat × Value} (hq : q ∈ g.ms) : ∃ l, ShardAt w l q := by
  obtain ⟨gs, cap, cs, a, b, c, d, e, f, k⟩ := h
  obtain ⟨i, hi⟩ := List.mem_iff_getElem?.1 hq
  have hl := (List.getElem?_eq_some_iff.1 hi).1
  obtain ⟨_, _, z⟩ := k i (sh[i]'(by omega)) q (List.getElem?_eq_getElem _) hi
  exact ⟨_, z⟩
theorem StAt.blk_row {w : World} {s p : Nat} {S : SM} {g : SG} (h : StAt w s p S g) {q : Nat × Value} (hq : q ∈ g.ms) {k : Nat} (hk : q.2.ownBlock = some k) : ∃ cs, w.heap[k]? = some (.cells cs 3 (0, 0)) := by
  obtain ⟨l, z⟩ := h.shards.shard hq; exact own_block z.1 hk
theorem StAt.blk_map {w : World} {s p : Nat} {S : SM} {g : SG} (h : StAt w s p S g) {q : Nat × Value} (hq : q ∈ g.ms) : ∃ es c, w.heap[q.1]? = some (.map es c) := by
  obtain ⟨l, z⟩ := h.shards.shard hq; exact z.2.map
theorem StAt.blk_mh {w : World} {s p : Nat} {S : SM} {g : SG} (h : StAt w s p S g) : ∃ es c, w.heap[g.mh]? = some (.map es c) := by
  obtain ⟨es, c, h1, _⟩ := h.hd; exact ⟨es, c, h1⟩

/-- No block of the store holds bytes. -/
theorem StAt.foot {w : World} {s p : Nat} {S : SM} {g : SG} (h : StAt w s p S g) : Foot (fp g s) w := by
  rintro k (rfl | rfl | rfl | rfl | hk | hk | ⟨q, hq, hk⟩ | hk | hk)
  · exact ⟨blk_lt h.head, notB_ty h.head (by decide)⟩
  · obtain ⟨es, c, hm⟩ := h.ch.map; exact ⟨blk_lt hm, notB_map hm⟩
  · obtain ⟨es, c, hm⟩ := h.wt.map; exact ⟨blk_lt hm, notB_map hm⟩
  · obtain ⟨es, c, hm⟩ := h.blk_mh; exact ⟨blk_lt hm, notB_map hm⟩
  · obtain ⟨cs, hc⟩ := h.blk_undo hk; exact ⟨blk_lt hc, notB_ty hc (by decide)⟩
  · obtain ⟨cs, hc⟩ := h.blk_sv hk; exact ⟨blk_lt hc, notB_ty hc (by decide)⟩
  · rcases hk with rfl | hk
    · obtain ⟨es, c, hm⟩ := h.blk_map hq; exact ⟨blk_lt hm, notB_map hm⟩
    · obtain ⟨cs, hc⟩ := h.blk_row hq hk; exact ⟨blk_lt hc, notB_ty hc (by decide)⟩
  · obtain ⟨v, t, hc, ht⟩ := h.box k hk
    exact ⟨blk_lt hc, notB_ty hc (by rcases ht with rfl | rfl | rfl | rfl <;> decide)⟩
  · obtain ⟨f, es, c, hm, _⟩ := h.stale k hk; exact ⟨blk_lt hm, notB_map hm⟩

theorem StAt.chg {w w' : World} {s p : Nat} {S : SM} {g : SG} {G : Nat → Prop} (h : StAt w s p S g) (hc : Chg G w w') (hG : Foot G w) (hd : ∀ k, fp g s k → ¬ G k) : StAt w' s p S g := by
  have hk := hc.kb hG
  have same : ∀ k, fp g s k → w'.heap[k]? = w.heap[k]? := fun k hf => hc.block k (h.foot k hf).1 (hd k hf)
  refine ⟨(same s (.inl rfl)).trans h.head, h.ch.keep hk (same _ (.inr (.inl rfl))), h.wt.keep hk (same _ (.inr (.inr (.inl rfl)))), h.hd.keep (same _ (.inr (.inr (.inr (.inl rfl))))), ?_, ?_, ?_, ?_, h.sep⟩
  · exact h.undo.keep hk (fun k hu => same k (.inr (.inr (.inr (.inr (.inl hu)))))) (fun k hb => same k (.inr (.inr (.inr (.inr (.inr (.inr (.inr (.inl hb))))))))) rfl (fun _ h => h) rfl (fun _ h => h)
  · exact h.shards.keep hk (fun k hu => same k (.inr (.inr (.inr (.inr (.inr (.inl hu))))))) (fun q hq => ⟨same _ (.inr (.inr (.inr (.inr (.inr (.inr (.inl ⟨q, hq, .inl rfl⟩))))))), fun k hk => same k (.inr (.inr (.inr (.inr (.inr (.inr (.inl ⟨q, hq, .inr hk⟩)))))))⟩) rfl rfl
  · exact h.box.keep (fun k hb => same k (.inr (.inr (.inr (.inr (.inr (.inr (.inr (.inl hb))))))))) (fun _ h => h)
  · exact h.stale.keep (fun k hb => same k (.inr (.inr (.inr (.inr (.inr (.inr (.inr (.inr hb))))))))) (fun _ h => h)

theorem StRep.foot {w : World} {s p : Nat} {S : SM} {F : Nat → Prop} (h : StRep w s p S F) : Foot F w := by
  obtain ⟨g, h1, h2⟩ := h; exact fun k hk => h1.foot k ((h2 k).1 hk)
theorem StRep.chg {w w' : World} {s p : Nat} {S : SM} {F G : Nat → Prop} (h : StRep w s p S F) (hc : Chg G w w') (hG : Foot G w) (hd : Disj F G) : StRep w' s p S F := by
  obtain ⟨g, h1, h2⟩ := h; exact ⟨g, h1.chg hc hG (fun k hk hg => hd k ((h2 k).2 hk) hg), h2⟩

/-- A call that turned a store into another one. -/
def StTo (w : World) (s p : Nat) (S' : SM) (F : Nat → Prop) (w' : World) : Prop :=
  ∃ F' : Nat → Prop, StRep w' s p S' F' ∧ Chg F w w' ∧ ∀ j, F' j → F j ∨ w.heap.size ≤ j
end Go.Proofs.Ytnhifnakgiddiaa
