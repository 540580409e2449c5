/- The store's Write, walked. -/
import Derived.Test.YtnhifnakgiddiaaQ
import Derived.Test.YtnhifnakgiddiaaS
namespace Go.Proofs.Ytnhifnakgiddiaa
open Go Go.RowKit Go.MapKept
open Go.ChangeMaps (setBlock heap_setBlock_same heap_setBlock_other)

theorem OMap.get {w : World} {vf : Int → Option Value} {f : Int → Option Bytes} (h : OMap w vf f) (k : Int) : ∃ ov, (vf k).getD (.slice none 0 0) = ov ∧ (∃ (A : Option Addr) (n c : Nat), ov = .slice A n c) ∧ ((ov = .slice none 0 0 ∧ f k = none) ∨ ∃ l, f k = some l ∧ Blk w ov l) := by
  rcases h k with ⟨h1, h2⟩ | ⟨v, l, h1, h2, h3⟩
  · exact ⟨_, rfl, ⟨none, 0, 0, by simp [h1]⟩, .inl ⟨by simp [h1], h2⟩⟩
  · obtain ⟨A, c, e⟩ := own_slice h3
    exact ⟨_, rfl, ⟨A, l.length, c, by simp [h1, e]⟩, .inr ⟨l, h2, by simp [h1]; exact h3⟩⟩

theorem add_block (ad : Addr) (j : Nat) : (ad.add j).block = ad.block := by unfold Addr.add; split <;> rfl
theorem AtB.kb {w w' : World} {ad : Addr} {l : Bytes} (h : AtB w ad l) (hb : ∃ cs, w.heap[ad.block]? = some (.cells cs 5 (0, 0))) (hk : KB w w') : AtB w' ad l := fun j u hu => by
  obtain ⟨cs, hcs⟩ := hb
  rw [← h j u hu]
  exact World.cell?_of_block (by rw [add_block, hk _ _ hcs, hcs])

theorem StTo.from_ {w w1 w2 : World} {s p : Nat} {S : SM} {F F1 : Nat → Prop} (h : StTo w1 s p S F1 w2) (hc : Chg F w w1) (hi : ∀ j, F1 j → F j ∨ w.heap.size ≤ j) : StTo w s p S F w2 := by
  obtain ⟨F2, k1, k2, k3⟩ := h
  refine ⟨F2, k1, hc.trans k2 (fun b hb hf => (hi b hf).resolve_right (by omega)), fun j hj => ?_⟩
  rcases k3 j hj with h | h
  · exact hi j h
  · exact .inr (Nat.le_trans hc.size h)
/-- One shard of the store turned. -/
theorem StAt.shard_to {w w' : World} {s p i gs cap : Nat} {S : SM} {g : SG} {q : Nat × Value} {cs : Array Value} {l' : List (Int × Bytes)} (hA : StAt w s p S g) (hq : g.ms[i]? = some q) (a : g.sv = .slice (some ⟨gs, 0, none⟩) S.sh.length cap)
    (hcs : w.heap[gs]? = some (.cells cs 79 (0, 0))) (h : ShardTo w gs (2 * i) cs q.2 q.1 (l'.map (·.1)) (fun x => l'.lookup x) w') : StTo w s p { S with sh := S.sh.set i l' } (fp g s) w' := by
  obtain ⟨ov', h1, h2, h3, h4, h5⟩ := h
  refine ⟨fp _ s, ⟨_, hA.to_shard hq a hcs h4 h2.blk h1 h3 h5, fun _ => Iff.rfl⟩, h4.mono ?_, ?_⟩
  · rintro x hx (e | e | e)
    · exact .inr (.inr (.inr (.inr (.inr (.inl (by rw [a, e]; rfl))))))
    · exact .inr (.inr (.inr (.inr (.inr (.inr (.inl ⟨q, List.mem_of_getElem? hq, .inl e.symm⟩))))))
    · exact .inr (.inr (.inr (.inr (.inr (.inr (.inl ⟨q, List.mem_of_getElem? hq, .inr e⟩))))))
  · rintro x (e | e | e | e | e | e | ⟨q', hq', e⟩ | e | e)
    · exact .inl (.inl e)
    · exact .inl (.inr (.inl e))
    · exact .inl (.inr (.inr (.inl e)))
    · exact .inl (.inr (.inr (.inr (.inl e))))
    · exact .inl (.inr (.inr (.inr (.inr (.inl e)))))
    · exact .inl (.inr (.inr (.inr (.inr (.inr (.inl e))))))
    · rcases List.mem_or_eq_of_mem_set hq' with hq' | rfl
      · exact .inl (.inr (.inr (.inr (.inr (.inr (.inr (.inl ⟨q', hq', e⟩)))))))
      · rcases e with e | e
        · exact .inl (.inr (.inr (.inr (.inr (.inr (.inr (.inl ⟨q, List.mem_of_getElem? hq, .inl e⟩)))))))
        · rcases h5 x e with e | e
          · exact .inl (.inr (.inr (.inr (.inr (.inr (.inr (.inl ⟨q, List.mem_of_getElem? hq, .inr e⟩)))))))
          · exact .inr e
    · exact .inl (.inr (.inr (.inr (.inr (.inr (.inr (.inr (.inl e))))))))
    · exact .inl (.inr (.inr (.inr (.inr (.inr (.inr (.inr (.inr e))))))))
/-- One more to be undone: the blocks. -/
theorem fp_push {g : SG} {s N n : Nat} {uv' : Value} {nb : Nat → Prop} (hu : uv'.ownBlock = g.uv.ownBlock ∨ uv'.ownBlock = some n) (hn : N ≤ n) (hb : ∀ k, nb k → N ≤ k) : ∀ j, fp { g with uv := uv', bx := fun x => g.bx x ∨ nb x } s j → fp g s j ∨ N ≤ j := by
  rintro x (e | e | e | e | e | e | e | (e | e) | e)
  · exact .inl (.inl e)
  · exact .inl (.inr (.inl e))
  · exact .inl (.inr (.inr (.inl e)))
  · exact .inl (.inr (.inr (.inr (.inl e))))
  · have e' : uv'.ownBlock = some x := e
    rcases hu with h | h
    · exact .inl (.inr (.inr (.inr (.inr (.inl (h ▸ e'))))))
    · rw [h] at e'; cases e'; exact .inr hn
  · exact .inl (.inr (.inr (.inr (.inr (.inr (.inl e))))))
  · exact .inl (.inr (.inr (.inr (.inr (.inr (.inr (.inl e)))))))
  · exact .inl (.inr (.inr (.inr (.inr (.inr (.inr (.inr (.inl e))))))))
  · exact .inr (hb x e)
  · exact .inl (.inr (.inr (.inr (.inr (.inr (.inr (.inr (.inr e))))))))

def wclo (b0 : Nat) : Value := .func (.func 38) #[] #[.pointer (some ⟨b0 + 1 + 1, 0, none⟩), .pointer (some ⟨b0, 0, none⟩), .pointer (some ⟨b0 + 1, 0, none⟩)]
/-- The boxes of Write. -/
def wbox (w : World) (s : Nat) (k : Int) (ov : Value) : World := ((w.alloc (.cells #[.pointer (some ⟨s, 0, none⟩)] 23)).alloc (.cells #[.int .i64 k] 3)).alloc (.cells #[ov] 32)
theorem wbox_blocks (w : World) (s : Nat) (k : Int) (ov : Value) : (wbox w s k ov).heap[w.heap.size]? = some (.cells #[.pointer (some ⟨s, 0, none⟩)] 23 (0, 0)) ∧ (wbox w s k ov).heap[w.heap.size + 1]? = some (.cells #[.int .i64 k] 3 (0, 0)) ∧ (wbox w s k ov).heap[w.heap.size + 1 + 1]? = some (.cells #[ov] 32 (0, 0)) := by
  have h1 := blk_new w (.cells #[.pointer (some ⟨s, 0, none⟩)] 23)
  have h2 := blk_new (w.alloc (.cells #[.pointer (some ⟨s, 0, none⟩)] 23)) (.cells #[.int .i64 k] 3)
  rw [World.size_alloc] at h2
  have h3 := blk_new ((w.alloc (.cells #[.pointer (some ⟨s, 0, none⟩)] 23)).alloc (.cells #[.int .i64 k] 3)) (.cells #[ov] 32)
  rw [World.size_alloc, World.size_alloc] at h3
  exact ⟨blk_alloc (blk_alloc h1 _) _, blk_alloc h2 _, h3⟩
theorem wbox_below (w : World) (s : Nat) (k : Int) (ov : Value) : Below w.heap.size w (wbox w s k ov) := (((Below.refl _ w).alloc (Nat.le_refl _) _).alloc (by simp) _).alloc (by simp; omega) _
theorem wbox_size (w : World) (s : Nat) (k : Int) (ov : Value) : (wbox w s k ov).heap.size = w.heap.size + 1 + 1 + 1 := by simp [wbox]

/-- The store behind the first half of Write: one more to be undone. -/
theorem StAt.write1 {w w1 : World} {s p k : Nat} {S : SM} {g : SG} {ov uv' : Value} {fs : List Value} (h : StAt w s p S g) (hW : S.Wf)
    (hfs : ∀ (i : Nat) u, S.us[i]? = some u → ∃ f, fs[i]? = some f ∧ UndAt w s g f u) (hl : fs.length = S.us.length)
    (hov : (ov = .slice none 0 0 ∧ S.ch k = none) ∨ ∃ l, S.ch k = some l ∧ Blk w ov l)
    (ho : w1.ownsRow 0 1 1 uv' (S.us.length + 1) (fs ++ [wclo w.heap.size])) (hg : ((wbox w s k ov).alloc (.cells #[wclo w.heap.size] 1)).grownBy w1 g.uv.ownBlock) :
    StAt (w1.setCell ⟨s, 5, none⟩ uv') s p { S with us := S.us ++ [.wr k (S.ch k)] } { g with uv := uv', bx := fun x => g.bx x ∨ (w.heap.size ≤ x ∧ x < w.heap.size + 3) } ∧ Chg (fun x => x = s ∨ g.uv.ownBlock = some x) w (w1.setCell ⟨s, 5, none⟩ uv') := by
  have hc : Chg (fun x => x = s ∨ g.uv.ownBlock = some x) w (w1.setCell ⟨s, 5, none⟩ uv') :=
    (((Chg.of_below (wbox_below w s k ov)).alloc _).grown hg (fun r hr _ => .inr hr)).setCell ⟨s, 5, none⟩ _ (fun _ => .inl rfl)
  refine ⟨?_, hc⟩
  have hlt : ∀ x, g.uv.ownBlock = some x → x < w.heap.size := fun x hx => (h.k_uv hx).lt
  have hsl := h.k_s.lt
  have fin : ∀ x o, (wbox w s k ov).heap[x]? = some o → w.heap.size ≤ x → (w1.setCell ⟨s, 5, none⟩ uv').heap[x]? = some o := fun x o hx hle =>
    blk_far (blk_grown (blk_alloc hx _) hg (fun e => by have := hlt x e.symm; omega)) (p := ⟨s, 5, none⟩) (fun e => by have e' : x = s := e; omega) _
  obtain ⟨b1, b2, b3⟩ := wbox_blocks w s k ov
  have hs1 : w1.heap[s]? = _ := blk_grown (blk_alloc ((wbox_below w s k ov).block s hsl ▸ h.head) _) hg (fun e => absurd rfl (ty_ne h.k_s (h.k_uv e.symm) (by decide)))
  have hkb : KB w (w1.setCell ⟨s, 5, none⟩ uv') := fun x cs hx => by
    refine (hc.block x (blk_lt hx) ?_).trans hx
    rintro (e | e)
    · subst e; exact absurd rfl (ty_ne ⟨_, _, hx⟩ h.k_s (by decide))
    · exact absurd rfl (ty_ne ⟨_, _, hx⟩ (h.k_uv e) (by decide))
  have ho' : (w1.setCell ⟨s, 5, none⟩ uv').ownsRow 0 1 1 uv' (S.us.length + 1) (fs ++ [wclo w.heap.size]) := own_keep ho fun x hx => Below.heap_setCell w1 _ _ x (fun e => by
    obtain ⟨cs, hcs⟩ := own_block ho hx
    have e' : x = s := e
    subst e'
    exact absurd rfl (ty_ne ⟨_, _, hcs⟩ ⟨_, _, hs1⟩ (by decide)))
  refine h.to_undo hc uv' (fun x => w.heap.size ≤ x ∧ x < w.heap.size + 3) _ (by rw [blk_set hs1]; rfl) ?_ ?_
  · refine h.undo_push hc hfs hl ho' ?_
    refine ⟨w.heap.size + 1 + 1, w.heap.size, w.heap.size + 1, ov, rfl, fin _ _ b3 (by omega), fin _ _ b1 (by omega), fin _ _ b2 (by omega), .inr ⟨by omega, by omega⟩, .inr ⟨by omega, by omega⟩, .inr ⟨by omega, by omega⟩, ?_⟩
    rcases hov with e | ⟨l, e1, e2⟩
    · exact .inl e
    · exact .inr ⟨l, e1, e2.kb hkb, hW.ch _ _ e1⟩
  · rintro x ⟨h1, h2⟩
    refine ⟨h1, ?_⟩
    rcases (show x = w.heap.size ∨ x = w.heap.size + 1 ∨ x = w.heap.size + 1 + 1 by omega) with rfl | rfl | rfl
    · exact ⟨_, _, fin _ _ b1 (by omega), by decide⟩
    · exact ⟨_, _, fin _ _ b2 (by omega), by decide⟩
    · exact ⟨_, _, fin _ _ b3 (by omega), by decide⟩

set_option maxRecDepth 100000 in
set_option maxHeartbeats 4000000 in
theorem store_Write (s p k : Nat) (ad : Addr) (c : Nat) (b : Bytes) (S : SM) (F : Nat → Prop) (D : AD) (G : Nat → Prop) (w : World) (hS : StRep w s p S F) (hD : DiskRep w p D G) (hW : S.Wf) (hk : D.has k = true) (hk2 : k ≤ 4096) (hb : b.length = 256) (hat : AtB w ad b) (haty : ∃ cs, w.heap[ad.block]? = some (.cells cs 5 (0, 0))) (hus : S.us.length ≤ 1000000000) :
    Calls Try.prog 10 #[ptr s, .int .i64 (k : Int), .slice (some ad) 256 c] w fun e w' => e = .returned (.int .i64 0) ∧ StTo w s p (S.write k b) F w' := by
  have hbl : Below w.heap.size w ((w.alloc (.cells #[ptr s] 23)).alloc (.cells #[.int .i64 (k : Int)] 3)) := ((Below.refl _ w).alloc (Nat.le_refl _) _).alloc (by simp) _
  have hh := store_has s p k S F D G _ (hS.below hbl) (hD.below hbl)
  rw [hk] at hh
  obtain ⟨g, hA, hF⟩ := id hS
  have hsl := blk_lt hA.head
  obtain ⟨vf, hM, hO⟩ := hA.ch
  obtain ⟨ov, hov, ⟨A0, n0, c0, hovs⟩, hovc⟩ := hO.get (k : Int)
  subst hovs
  have c2 : w.cell? ⟨s, 2, none⟩ = some (.map (some g.mc)) := by rw [hA.cell]; rfl
  have c5 : w.cell? ⟨s, 5, none⟩ = some g.uv := by rw [hA.cell]; rfl
  have L0 := (hM.keep (w' := ((w.alloc (.cells #[ptr s] 23)).alloc (.cells #[.int .i64 (k : Int)] 3)).drew) (hbl.block _ hM.lt)).lookup (P := Try.prog) Try.underlying25 Try.underlying3 (zeroMB _) (k : Int)
  rw [hov] at L0
  have hbl3 : Below w.heap.size w (((w.alloc (.cells #[ptr s] 23)).alloc (.cells #[.int .i64 (k : Int)] 3)).alloc (.cells #[.slice none 0 0] 32)).drew := (hbl.alloc (by simp; omega) _).drew
  have L3 := (hM.keep (w' := (((w.alloc (.cells #[ptr s] 23)).alloc (.cells #[.int .i64 (k : Int)] 3)).alloc (.cells #[.slice none 0 0] 32)).drew) (hbl3.block _ hM.lt)).lookup (P := Try.prog) Try.underlying25 Try.underlying3 (zeroMB _) (k : Int)
  rw [hov] at L3
  obtain ⟨fs, hfo, hfs⟩ := hA.undo
  obtain ⟨i0, hi, hz0, hz1, hz2⟩ := info_parts infoF
  -- the state of the memory ahead of the append
  obtain ⟨X, hX⟩ : ∃ X, X = ((wbox w s k (.slice A0 n0 c0)).alloc (.cells #[wclo w.heap.size] 1)) := ⟨_, rfl⟩
  have hXb : Below w.heap.size w X := by rw [hX]; exact (wbox_below w s k _).alloc (by rw [wbox_size]; omega) _
  have hown := own_keep hfo (w' := X) (fun x hx => hXb.block x (own_lt hfo hx))
  have hnew : ∀ j u, [wclo w.heap.size][j]? = some u → X.cell? ((⟨w.heap.size + 1 + 1 + 1, 0, none⟩ : Addr).add j) = some u := by
    have := cell_one_new (wbox w s k (.slice A0 n0 c0)) (wclo w.heap.size) 1
    rw [wbox_size] at this; rw [hX]; exact this
  have hX1 : X.cell? ⟨w.heap.size, 0, none⟩ = some (.pointer (some ⟨s, 0, none⟩)) := by rw [hX, blk_cell (blk_alloc (wbox_blocks w s k _).1 _)]; rfl
  have hX2 : X.cell? ⟨w.heap.size + 1, 0, none⟩ = some (.int .i64 k) := by rw [hX, blk_cell (blk_alloc (wbox_blocks w s k _).2.1 _)]; rfl
  have hX5 := (hXb.cell (p := ⟨s, 5, none⟩) hsl).trans c5
  have hXf := (hXb.frozen (p := ⟨s, 5, none⟩) hsl).trans (blk_frozen hA.head 5)
  have hX5' := ((wbox_below w s k (.slice A0 n0 c0)).cell (p := ⟨s, 5, none⟩) hsl).trans c5
  have hcb := ((wbox_blocks w s k (.slice A0 n0 c0)).1)
  have hcb0 : (wbox w s k (.slice A0 n0 c0)).cell? ⟨w.heap.size, 0, none⟩ = some (.pointer (some ⟨s, 0, none⟩)) := by rw [blk_cell hcb]; rfl
  have HX := Lib.hid (And.intro hXb (And.intro hown (And.intro hnew (And.intro hX1 (And.intro hX2 (And.intro hX5 (And.intro hXf (And.intro hX5' hcb0))))))))
  have HE := Lib.hid hX
  have HH := Lib.hid (And.intro hh (And.intro hfo (And.intro hus (And.intro hi (And.intro hz0 (And.intro hz1 hz2))))));
  have HA := Lib.hid (And.intro hA (And.intro hF (And.intro hfs (And.intro hovc (And.intro hM hO)))));
  have HB := Lib.hid (And.intro hbl (And.intro hW (And.intro hb (And.intro hat (And.intro hS haty)))))
  have HL := Lib.hid (And.intro L3 ((hbl3.cell (p := ⟨s, 2, none⟩) hsl).trans c2))
  clear hh hfo hus hi hz0 hz1 hz2 hA hF hfs hovc hM hO hov hbl hW hb hat haty hS hD hk hX hXb hown hnew hX1 hX2 hX5 hXf hX5' hcb hcb0 L3 hbl3
  unfold ptr at *
  go_enter Try.func10, Try.ntmps10
  go_wp2_with (go_at_call 34; refine HH.out.1.mono ?_; rintro e w' ⟨rfl, rfl⟩)
  -- old := s.changed[n]
  refine wp_region_seq (fun w' => w'.cell? ⟨w.heap.size, 0, none⟩ = some (.pointer (some ⟨s, 0, none⟩)) ∧ w'.cell? ⟨w.heap.size + 1, 0, none⟩ = some (.int .i64 k) ∧ w'.cell? ⟨s, 2, none⟩ = some (.map (some g.mc)) ∧ (Instr.lookup 25 (.map (some g.mc)) (.int .i64 k) false).run Try.prog w' = .ok (.slice A0 n0 c0) w') 7
    [(0, true), (1, true), (2, true), (3, true), (4, true), (5, true), (6, false), (7, false)] (by kernel_rfl) (by kernel_rfl) (by kernel_rfl) rfl (fun _ _ dst _ _ h => by cases dst <;> exact h) ?_ ?_
  · exact ⟨by simp [go_sem], by simp [go_sem], by simp [go_sem, hsl, Nat.lt_succ_of_lt hsl, c2], L0⟩
  iterate 6 (refine seq_take ?_ (by rfl) (by rfl) ?_ ?_; rotate_left; (intro w hw; obtain ⟨hw1, hw2, hw3, hw4⟩ := hw; go_simp; rfl))
  refine seq_do (by rfl) (fun K hK => ?_)
  rw [if_pos (by rfl)]
  go_simp
  refine hK _ _ (.inr ⟨by simp [go_sem], by simp [go_sem], HL.out.2, HL.out.1⟩) ?_
  refine seq_do (by rfl) (fun K hK => ?_)
  rw [if_pos (by rfl)]
  go_simp
  refine hK _ _ (.inl rfl) ?_
  unfold wpSeq
  go_wp2
  -- s.undo = append(s.undo, func)
  refine wp_region_seq (fun w' => w'.cell? ⟨w.heap.size, 0, none⟩ = some (.pointer (some ⟨s, 0, none⟩)) ∧ w'.cell? ⟨s, 5, none⟩ = some g.uv) 10
    [(0, true), (1, true), (2, true), (3, true), (4, true), (5, true), (6, false), (7, false), (8, true), (9, true), (10, false)] (by kernel_rfl) (by kernel_rfl) (by kernel_rfl) rfl (fun _ _ dst _ _ h => by cases dst <;> exact h) ?_ ?_
  · exact ⟨HX.out.2.2.2.2.2.2.2.2, HX.out.2.2.2.2.2.2.2.1⟩
  iterate 6 (refine seq_take ?_ (by rfl) (by rfl) ?_ ?_; rotate_left; (intro w hw; obtain ⟨hw1, hw2⟩ := hw; go_simp; rfl))
  refine seq_do (by rfl) (fun K hK => ?_)
  rw [if_pos (by rfl)]
  go_simp
  refine hK _ _ (.inr ?_) ?_
  · have e1 := HX.out.2.2.2.1
    have e2 := HX.out.2.2.2.2.2.1
    rw [HE.out] at e1 e2
    exact ⟨e1, e2⟩
  clear hK K
  refine seq_do (by rfl) (fun K hK => ?_)
  refine step_append_own (by rfl) _ _ _ (by rfl) 0 1 i0 _ 1 8 Try.underlying27 HH.out.2.2.2.1 HH.out.2.2.2.2.1 HH.out.2.2.2.2.2.1 HH.out.2.2.2.2.2.2 rfl (by omega) g.uv S.us.length fs (by rfl) ?hown ⟨w.heap.size + 1 + 1 + 1, 0, none⟩ 1 1 [wclo w.heap.size] (by rfl) (by rfl) ?hnew (by simp [Value.oneCell', wclo]) (by have := HH.out.2.2.1; unfold maxLen; omega) (by have := HH.out.2.2.1; omega) (by omega) ?_
  case hown => have e1 := HX.out.2.1; rw [HE.out] at e1; exact e1
  case hnew => have e1 := HX.out.2.2.1; rw [HE.out] at e1; exact e1
  intro uv' w1 hown hgrow hat
  obtain ⟨A1, c1, hv1⟩ := own_slice hown
  subst hv1
  have hgrow' : ((wbox w s k (.slice A0 n0 c0)).alloc (.cells #[wclo w.heap.size] 1)).grownBy w1 g.uv.ownBlock := ⟨hgrow.os, hgrow.tape, hgrow.output, hgrow.size, hgrow.block⟩
  have hult : ∀ x, g.uv.ownBlock = some x → x < w.heap.size := fun x hx => own_lt HH.out.2.1 hx
  have q0 : w1.cell? ⟨w.heap.size, 0, none⟩ = some (.pointer (some ⟨s, 0, none⟩)) := by
    have e1 := HX.out.2.2.2.1; rw [HE.out] at e1
    exact hgrow'.cell e1 (fun e => Nat.lt_irrefl _ (show w.heap.size < w.heap.size from hult _ e.symm))
  have q1 : w1.cell? ⟨w.heap.size + 1, 0, none⟩ = some (.int .i64 k) := by
    have e1 := HX.out.2.2.2.2.1; rw [HE.out] at e1
    exact hgrow'.cell e1 (fun e => by have h9 : w.heap.size + 1 < w.heap.size := hult _ e.symm; omega)
  have hso : some s ≠ g.uv.ownBlock := fun e => absurd rfl (ty_ne HA.out.1.k_s (HA.out.1.k_uv e.symm) (by decide))
  have q5 : w1.cell? ⟨s, 5, none⟩ = some g.uv := by
    have e1 := HX.out.2.2.2.2.2.1; rw [HE.out] at e1
    exact hgrow'.cell e1 hso
  have f5 : w1.frozen? ⟨s, 5, none⟩ = false := by
    have e1 := HX.out.2.2.2.2.2.2.1; have hb := HX.out.1.size; rw [HE.out] at e1 hb
    exact (World.frozen?_of_block (hgrow'.block s (by omega) hso)).trans e1
  refine hK _ _ (.inr ⟨q0, q5⟩) ?_
  clear hK K
  have hw1 := HA.out.1.write1 HB.out.2.1 HA.out.2.2.1 (by have := HH.out.2.1.1; omega) HA.out.2.2.2.1 hown hgrow'
  have HW := Lib.hid hw1
  have Hown := Lib.hid (And.intro hown (And.intro hgrow' (And.intro hult (And.intro hso hat))))
  clear hown hgrow hgrow' hult hso hw1 hat
  iterate 2 (refine seq_take ?_ (by rfl) (by rfl) ?_ ?_; rotate_left; (intro w hw; obtain ⟨hw1, hw2⟩ := hw; go_simp; rfl))
  refine seq_do (by rfl) (fun K hK => ?_)
  rw [if_pos (by rfl)]
  go_simp
  refine hK _ _ (.inl rfl) ?_
  unfold wpSeq
  go_wp2
  -- s.changed[n] = slices.Clone(b)
  have p0 : (w1.setCell ⟨s, 5, none⟩ (.slice A1 (S.us.length + 1) c1)).drew.cell? ⟨w.heap.size, 0, none⟩ = some (.pointer (some ⟨s, 0, none⟩)) := (World.cell?_setCell_other _ _ _ _ (fun e => by have e' : s = w.heap.size := congrArg Addr.block e; omega)).trans q0
  have p1 : (w1.setCell ⟨s, 5, none⟩ (.slice A1 (S.us.length + 1) c1)).drew.cell? ⟨w.heap.size + 1, 0, none⟩ = some (.int .i64 k) := (World.cell?_setCell_other _ _ _ _ (fun e => by have e' : s = w.heap.size + 1 := congrArg Addr.block e; omega)).trans q1
  have p2 : (w1.setCell ⟨s, 5, none⟩ (.slice A1 (S.us.length + 1) c1)).drew.cell? ⟨s, 2, none⟩ = some (.map (some g.mc)) := (HW.out.1.cell 2).trans rfl
  have hkb7 : KB w (w1.setCell ⟨s, 5, none⟩ (.slice A1 (S.us.length + 1) c1)).drew := by
    intro x cs hx
    refine (HW.out.2.block x (blk_lt hx) ?_).trans hx
    rintro (e | e)
    · subst e; exact absurd rfl (ty_ne ⟨_, _, hx⟩ HA.out.1.k_s (by decide))
    · exact absurd rfl (ty_ne ⟨_, _, hx⟩ (HA.out.1.k_uv e) (by decide))
  have hcl := clone_at ad b c _ (HB.out.2.2.2.1.kb HB.out.2.2.2.2.2 hkb7) (by have := HB.out.2.2.1; omega)
  rw [HB.out.2.2.1] at hcl
  have Hcl := Lib.hid hcl; clear hcl hkb7
  refine wp_region_seq (fun w' => w'.cell? ⟨w.heap.size, 0, none⟩ = some (.pointer (some ⟨s, 0, none⟩)) ∧ w'.cell? ⟨w.heap.size + 1, 0, none⟩ = some (.int .i64 k) ∧ w'.cell? ⟨s, 2, none⟩ = some (.map (some g.mc))) 7
    [(0, true), (1, true), (2, true), (3, true), (4, true), (5, true), (6, false), (7, false)] (by kernel_rfl) (by kernel_rfl) (by kernel_rfl) rfl (fun _ _ dst _ _ h => by cases dst <;> exact h) ?_ ?_
  · exact ⟨p0, p1, p2⟩
  iterate 6 (refine seq_take ?_ (by rfl) (by rfl) ?_ ?_; rotate_left; (intro w hw; obtain ⟨hw1, hw2, hw3⟩ := hw; go_simp; rfl))
  refine seq_do (by rfl) (fun K hK => ?_)
  rw [if_pos (by rfl)]
  go_simp
  refine Hcl.out.mono ?_
  rintro e w2 ⟨v2, rfl, hv2, hb2⟩
  have h0 := World.block_lt_of_cell? _ _ p0
  have h1 := World.block_lt_of_cell? _ _ p1
  have h2 := World.block_lt_of_cell? _ _ p2
  have r0 := (hb2.cell (p := ⟨w.heap.size, 0, none⟩) h0).trans p0
  have r1 := (hb2.cell (p := ⟨w.heap.size + 1, 0, none⟩) h1).trans p1
  have r2 := (hb2.cell (p := ⟨s, 2, none⟩) h2).trans p2
  refine hK _ _ (.inr ⟨r0, r1, r2⟩) ?_
  clear hK K h0 h1 h2 p0 p1 p2
  have hA2 : StAt w2 s p { S with us := S.us ++ [.wr k (S.ch k)] } { g with uv := (.slice A1 (S.us.length + 1) c1), bx := fun x => g.bx x ∨ (w.heap.size ≤ x ∧ x < w.heap.size + 3) } := HW.out.1.chg (G := fun _ => False) ((Chg.refl _ _).drew.trans (Chg.of_below hb2) (fun _ _ h => h)) (fun _ h => h.elim) (fun _ _ h => h)
  obtain ⟨vf2, hM2, hO2⟩ := hA2.ch
  obtain ⟨ob, hrun, hM3⟩ := MapIs.update (P := Try.prog) hM2 Try.underlying25 Try.underlying3 k v2
  have hc3 : Chg (fun x => x = g.mc) w2 (setBlock w2 g.mc ob) := (Chg.refl _ w2).setBlock g.mc ob (fun _ => rfl)
  have hkb3 : KB w2 (setBlock w2 g.mc ob) := fun x cs hx => (hc3.block x (blk_lt hx) (ty_ne_map ⟨_, _, hx⟩ hA2.k_mc)).trans hx
  have hA3 := hA2.to_map hA2.k_mc hc3 { S with us := S.us ++ [.wr k (S.ch k)], ch := bupd S.ch k b } (fun q hq => (hA2.q1_ne hq).1) (.inl ⟨rfl, _, hM3, (hO2.upd k hv2).kb hkb3⟩) (.inr ⟨(nodup3 hA2.sep.maps).1, rfl⟩) (.inr ⟨(nodup3 hA2.sep.maps).2.1, rfl⟩) (fun hst => absurd rfl (hA2.st_ne hst).1) rfl rfl rfl rfl rfl
  have t0 := (World.cell?_of_block (hc3.block _ (World.block_lt_of_cell? _ _ r0) (fun e => by have e' : w.heap.size = g.mc := e; have := HA.out.1.k_mc.lt; omega))).trans r0
  have t1 := (World.cell?_of_block (hc3.block _ (World.block_lt_of_cell? _ _ r1) (fun e => by have e' : w.heap.size + 1 = g.mc := e; have := HA.out.1.k_mc.lt; omega))).trans r1
  have HT := Lib.hid (And.intro t0 t1)
  have H3 := Lib.hid (And.intro hA3 (And.intro hc3 (And.intro hb2 hA2)))
  clear hA3 hc3 hkb3 hM3 hO2 hM2 hA2 hb2 hv2 r0 r1 r2 t0 t1
  refine seq_do (by rfl) (fun K hK => ?_)
  rw [if_pos (by rfl)]
  go_simp
  refine hK _ _ (.inl rfl) ?_
  clear hK K
  unfold wpSeq
  go_wp2
  -- s.of(n).forget(n)
  obtain ⟨gs, cap, cs, a0, b', hcs, d0, e, f, kk⟩ := id H3.out.1.shards
  have a : g.sv = .slice (some ⟨gs, 0, none⟩) S.sh.length cap := a0
  have d : g.ms.length = S.sh.length := d0
  replace e : 0 < S.sh.length := e
  replace f : S.sh.length ≤ 16 := f
  clear a0 d0
  have hlt : k % S.sh.length < S.sh.length := Nat.mod_lt _ e
  have hi1 : S.sh[k % S.sh.length]? = some (S.shard k) := by
    unfold SM.shard
    rw [List.getD_eq_getElem?_getD, List.getElem?_eq_getElem hlt]; rfl
  obtain ⟨q, hq⟩ : ∃ q, g.ms[k % S.sh.length]? = some q := ⟨g.ms[k % S.sh.length]'(by omega), List.getElem?_eq_getElem _⟩
  obtain ⟨x, y, z⟩ := kk _ _ q hi1 hq
  have c6 : (setBlock w2 g.mc ob).drew.cell? ⟨s, 6, none⟩ = some (.slice (some ⟨gs, 0, none⟩) S.sh.length cap) := (H3.out.1.cell 6).trans (by simp [a])
  have hof := store_of s gs cap k S.sh.length _ c6 e f hk2
  have hm : S.shard k ∈ S.sh := List.mem_of_getElem? hi1
  have hfo := shard_forget gs (k % S.sh.length * 2) cs q.2 q.1 k ((S.shard k).map (·.1)) (fun x => (S.shard k).lookup x) (setBlock w2 g.mc ob).drew.drew ⟨hcs, by rw [Nat.mul_comm]; exact x, by rw [Nat.mul_comm]; exact y⟩ z.1.drew.drew z.2.drew.drew (by have := HB.out.2.1.len _ hm; simp; omega)
  have HF := Lib.hid (And.intro hof (And.intro hfo (And.intro a (And.intro hcs hq))))
  clear hof hfo a hcs hq e f kk x y z hi1 hlt b' d c6 hm
  refine wp_region_seq (fun w' => w'.cell? ⟨w.heap.size, 0, none⟩ = some (.pointer (some ⟨s, 0, none⟩)) ∧ w'.cell? ⟨w.heap.size + 1, 0, none⟩ = some (.int .i64 k)) 4
    [(0, true), (1, true), (3, true), (2, false), (4, false)] (by kernel_rfl) (by kernel_rfl) (by kernel_rfl) rfl (fun _ _ dst _ _ h => by cases dst <;> exact h) ?_ ?_
  · exact HT.out
  iterate 3 (refine seq_take ?_ (by rfl) (by rfl) ?_ ?_; rotate_left; (intro w hw; obtain ⟨hw1, hw2⟩ := hw; go_simp; rfl))
  refine seq_do (by rfl) (fun K hK => ?_)
  rw [if_pos (by rfl)]
  go_simp
  unfold ptr at HF
  refine HF.out.1.mono ?_
  rintro e w3 ⟨rfl, rfl⟩
  refine hK _ _ (.inr HT.out) ?_
  clear hK K
  refine seq_do (by rfl) (fun K hK => ?_)
  rw [if_pos (by rfl)]
  go_simp
  refine HF.out.2.1.mono ?_
  rintro e w4 ⟨rfl, hsh⟩
  refine hK _ _ (.inl rfl) ?_
  clear hK K
  have Hsh := Lib.hid hsh; clear hsh
  unfold wpSeq
  go_wp2
  go_ret
  refine ⟨rfl, ?_⟩
  have hA3 := H3.out.1.chg (G := fun _ => False) (Chg.refl _ _).drew.drew (fun _ h => h.elim) (fun _ _ h => h)
  have T4 := hA3.shard_to (l' := dropKey k (S.shard k)) HF.out.2.2.2.2 HF.out.2.2.1 HF.out.2.2.2.1 (by rw [dropKey_keys, dropKey_bdel, Nat.mul_comm]; exact Hsh.out)
  have c3 := (((Chg.refl (fp { g with uv := (.slice A1 (S.us.length + 1) c1), bx := fun x => g.bx x ∨ (w.heap.size ≤ x ∧ x < w.heap.size + 3) } s) (w1.setCell ⟨s, 5, none⟩ (.slice A1 (S.us.length + 1) c1))).drew.trans (Chg.of_below H3.out.2.2.1) (fun _ _ h => h)).trans H3.out.2.1 (fun _ _ h => .inr (.inl h))).drew.drew
  refine (T4.from_ c3 (fun _ h => .inl h)).from_ (HW.out.2.mono ?_) ?_
  · rintro x hx (e | e)
    · exact (HA.out.2.1 x).2 (.inl e)
    · exact (HA.out.2.1 x).2 (.inr (.inr (.inr (.inr (.inl e)))))
  · intro j hj
    rcases fp_push (N := w.heap.size) Hown.out.2.2.2.2 (by simp [wbox]; omega) (fun k h => h.1) j hj with h | h
    · exact .inl ((HA.out.2.1 j).2 h)
    · exact .inr h
end Go.Proofs.Ytnhifnakgiddiaa
