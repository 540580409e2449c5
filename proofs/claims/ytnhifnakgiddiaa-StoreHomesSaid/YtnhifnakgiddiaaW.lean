/- The store's Hold. -/
import Derived.Test.YtnhifnakgiddiaaT
import Derived.Test.YtnhifnakgiddiaaV
namespace Go.Proofs.Ytnhifnakgiddiaa
open Go Go.RowKit Go.MapKept
open Go.ChangeMaps (setBlock heap_setBlock_same heap_setBlock_other)

/-- One more to be undone. -/
theorem StAt.push {w W w1 : World} {s p : Nat} {S : SM} {g : SG} {uv' f : Value} {fs : List Value} {u : Und} (h : StAt w s p S g)
    (hfs : ∀ (i : Nat) u, S.us[i]? = some u → ∃ f, fs[i]? = some f ∧ UndAt w s g f u) (hl : fs.length = S.us.length) (hb : Below w.heap.size w W)
    (ho : w1.ownsRow 0 1 1 uv' (S.us.length + 1) (fs ++ [f])) (hg : (W.alloc (.cells #[f] 1)).grownBy w1 g.uv.ownBlock)
    (nb : Nat → Prop) (hnb : ∀ x, nb x → w.heap.size ≤ x ∧ ∃ v t, W.heap[x]? = some (.cells #[v] t (0, 0)) ∧ (t = 32 ∨ t = 23 ∨ t = 3 ∨ t = 26))
    (hf : ∀ w' : World, KB w w' → (∀ x o, W.heap[x]? = some o → w.heap.size ≤ x → w'.heap[x]? = some o) → UndAt w' s { g with uv := uv', bx := fun x => g.bx x ∨ nb x } f u) :
    StAt (w1.setCell ⟨s, 5, none⟩ uv') s p { S with us := S.us ++ [u] } { g with uv := uv', bx := fun x => g.bx x ∨ nb x } ∧ Chg (fun x => x = s ∨ g.uv.ownBlock = some x) w (w1.setCell ⟨s, 5, none⟩ uv') := by
  have hc : Chg (fun x => x = s ∨ g.uv.ownBlock = some x) w (w1.setCell ⟨s, 5, none⟩ uv') :=
    (((Chg.of_below hb).alloc _).grown hg (fun r hr _ => .inr hr)).setCell ⟨s, 5, none⟩ _ (fun _ => .inl rfl)
  refine ⟨?_, hc⟩
  have hlt : ∀ x, g.uv.ownBlock = some x → x < w.heap.size := fun x hx => (h.k_uv hx).lt
  have hsl := h.k_s.lt
  have fin : ∀ x o, W.heap[x]? = some o → w.heap.size ≤ x → (w1.setCell ⟨s, 5, none⟩ uv').heap[x]? = some o := fun x o hx hle =>
    blk_far (blk_grown (blk_alloc hx _) hg (fun e => by have := hlt x e.symm; omega)) (p := ⟨s, 5, none⟩) (fun e => by have e' : x = s := e; omega) _
  have hs1 : w1.heap[s]? = _ := blk_grown (blk_alloc (hb.block s hsl ▸ h.head) _) hg (fun e => absurd rfl (ty_ne h.k_s (h.k_uv e.symm) (by decide)))
  have hkb : KB w (w1.setCell ⟨s, 5, none⟩ uv') := fun x cs hx => by
    refine (hc.block x (blk_lt hx) ?_).trans hx
    rintro (e | e)
    · subst e; exact absurd rfl (ty_ne ⟨_, _, hx⟩ h.k_s (by decide))
    · exact absurd rfl (ty_ne ⟨_, _, hx⟩ (h.k_uv e) (by decide))
  have ho' : (w1.setCell ⟨s, 5, none⟩ uv').ownsRow 0 1 1 uv' (S.us.length + 1) (fs ++ [f]) := own_keep ho fun x hx => Below.heap_setCell w1 _ _ x (fun e => by
    obtain ⟨cs, hcs⟩ := own_block ho hx
    have e' : x = s := e
    subst e'
    exact absurd rfl (ty_ne ⟨_, _, hcs⟩ ⟨_, _, hs1⟩ (by decide)))
  refine h.to_undo hc uv' nb _ (by rw [blk_set hs1]; rfl) (h.undo_push hc hfs hl ho' (hf _ hkb fin)) ?_
  intro x hx
  obtain ⟨h1, v, t, h2, h3⟩ := hnb x hx
  exact ⟨h1, v, t, fin _ _ h2 h1, h3⟩

set_option maxRecDepth 100000 in
set_option maxHeartbeats 400000 in
theorem store_Hold_bad (s p : Nat) (k : Int) (S : SM) (F : Nat → Prop) (D : AD) (G : Nat → Prop) (w : World) (hS : StRep w s p S F) (hD : DiskRep w p D G) (hk : D.has k = false) :
    Calls Try.prog 12 #[ptr s, .int .i64 k] w fun e w' => e = .returned (.int .i64 22) ∧ Below w.heap.size w w' := by
  have hb : Below w.heap.size w (w.alloc (.cells #[.int .i64 k] 3)) := (Below.refl _ w).alloc (Nat.le_refl _) _
  have hh := store_has s p k S F D G _ (hS.below hb) (hD.below hb)
  rw [hk] at hh
  have HH := Lib.hid (And.intro hh hb); clear hh hS hD hk hb
  unfold ptr at *
  go_enter Try.func12, Try.ntmps12
  go_wp2_with (go_at_call 34; refine HH.out.1.mono ?_; rintro e w' ⟨rfl, rfl⟩)
  go_ret
  exact ⟨rfl, HH.out.2⟩

def hclo (bw bh bn : Nat) : Value := .func (.func 40) #[] #[.pointer (some ⟨bw, 0, none⟩), .pointer (some ⟨bh, 0, none⟩), .pointer (some ⟨bn, 0, none⟩)]
def SM.hold (S : SM) (k : Int) : SM := { S with hd := fun x => if x = k then true else S.hd x, us := S.us ++ [.hd true k (S.hd k)] }
theorem heldV_upd (h : Int → Bool) (k : Int) : upd (heldV h) k (.int .i64 1) = heldV (fun x => if x = k then true else h x) := by
  funext x; unfold upd heldV; by_cases e : x = k <;> simp [e]

set_option maxRecDepth 100000 in
set_option maxHeartbeats 4000000 in
theorem store_Hold (s p k : Nat) (S : SM) (F : Nat → Prop) (D : AD) (G : Nat → Prop) (w : World) (hS : StRep w s p S F) (hD : DiskRep w p D G) (hk : D.has k = true) (hus : S.us.length ≤ 1000000000) :
    Calls Try.prog 12 #[ptr s, .int .i64 (k : Int)] w fun e w' => e = .returned (.int .i64 0) ∧ StTo w s p (S.hold k) F w' := by
  have hbl : Below w.heap.size w (w.alloc (.cells #[.int .i64 (k : Int)] 3)) := (Below.refl _ w).alloc (Nat.le_refl _) _
  have hh := store_has s p k S F D G _ (hS.below hbl) (hD.below hbl)
  rw [hk] at hh
  obtain ⟨g, hA, hF⟩ := id hS
  have hsl := blk_lt hA.head
  have c4 : w.cell? ⟨s, 4, none⟩ = some (.map (some g.mh)) := by rw [hA.cell]; rfl
  have c5 : w.cell? ⟨s, 5, none⟩ = some g.uv := by rw [hA.cell]; rfl
  obtain ⟨was, hwas⟩ : ∃ was : Int, was = if S.hd k then 1 else 0 := ⟨_, rfl⟩
  have LA : ∀ w1 : World, w1.heap[g.mh]? = w.heap[g.mh]? → (Instr.lookup 26 (.map (some g.mh)) (.int .i64 k) false).run Try.prog w1 = .ok (.int .i64 was) w1 := fun w1 h1 => by
    have L := (hA.hd.keep h1).lookup (P := Try.prog) Try.underlying26 Try.underlying3 (zeroInt _) k
    rw [heldV_get, ← hwas] at L
    exact L
  obtain ⟨fs, hfo, hfs⟩ := hA.undo
  obtain ⟨i0, hi, hz0, hz1, hz2⟩ := info_parts infoF
  have ha1 : ∀ w : World, (Instr.alloc 26 true (.tuple #[])).run Try.prog w = .ok (.pointer (some ⟨w.heap.size, 0, none⟩)) (w.alloc (.cells #[.map none] 26 (0, 0))) := fun w => by kernel_rfl
  have ha2 : ∀ w : World, (Instr.alloc 3 true (.tuple #[])).run Try.prog w = .ok (.pointer (some ⟨w.heap.size, 0, none⟩)) (w.alloc (.cells #[.int .i64 0] 3 (0, 0))) := fun w => by kernel_rfl
  have HS := Lib.hid (And.intro hbl (And.intro hsl (And.intro c4 (And.intro LA (hbl.drew)))))
  have HA := Lib.hid (And.intro hA (And.intro hF (And.intro hfs (And.intro hfo (And.intro hwas hus)))))
  have HH := Lib.hid (And.intro hh (And.intro hi (And.intro hz0 (And.intro hz1 hz2))))
  have hsz : (w.alloc (.cells #[.int .i64 (k : Int)] 3)).drew.heap.size = w.heap.size + 1 := by simp
  have Hsz := Lib.hid hsz
  clear hbl hh hA hF hsl c4 LA hfs hfo hwas hus hi hz0 hz1 hz2 hS hD hk hsz
  unfold ptr at *
  go_enter Try.func12, Try.ntmps12
  go_wp2_with (go_at_call 34; refine HH.out.1.mono ?_; rintro e w' ⟨rfl, rfl⟩)
  -- held, was := s.held, s.held[n]
  refine wp_region_tree (fun w' => w'.cell? ⟨w.heap.size, 0, none⟩ = some (.int .i64 k) ∧ w'.cell? ⟨s, 4, none⟩ = some (.map (some g.mh)) ∧ (Instr.lookup 26 (.map (some g.mh)) (.int .i64 k) false).run Try.prog w' = .ok (.int .i64 was) w') 13
    (.take 0 (.take 1 (.take 2 (.take 3 (.take 4 (.take 5 (.take 6 (.take 7 (.take 8 (.take 9 (.two 10 11 (.one 11 (.one 12 (.one 13 .nil))) (.one 10 (.one 12 (.one 13 .nil)))))))))))))) (by kernel_rfl) (by kernel_rfl) (by kernel_rfl) rfl (fun _ _ dst _ _ h => by cases dst <;> exact h) ?_ ?_
  · exact ⟨by simp [go_sem], (HS.out.2.2.2.2.cell (p := ⟨s, 4, none⟩) HS.out.2.1).trans HS.out.2.2.1, HS.out.2.2.2.1 _ (HS.out.2.2.2.2.block _ HA.out.1.k_mh.lt)⟩
  iterate 10 (refine tree_take ?_ (by rfl) (by rfl) ?_ ?_; rotate_left; (intro w hw; obtain ⟨hw1, hw2, hw3⟩ := hw; go_simp; rfl))
  refine tree_allocs (by rfl) (by rfl) rfl rfl rfl rfl (by decide) rfl rfl ha1 ha2 ?_ ?_
  · intro w1 hb1
    have hb2 := HS.out.2.2.2.2.trans (hb1.mono (by rw [Hsz.out]; omega))
    exact ⟨(hb1.cell (p := ⟨w.heap.size, 0, none⟩) (by show w.heap.size < _; rw [Hsz.out]; omega)).trans (by simp [go_sem]), (hb2.cell (p := ⟨s, 4, none⟩) HS.out.2.1).trans HS.out.2.2.1, HS.out.2.2.2.1 _ (hb2.block _ HA.out.1.k_mh.lt)⟩
  intro bh bw W hM
  obtain ⟨W5, hW5⟩ : ∃ W5, W5 = (W.setCell ⟨bh, 0, none⟩ (.map (some g.mh))).setCell ⟨bw, 0, none⟩ (.int .i64 was) := ⟨_, rfl⟩
  have p0 := hM.p0
  have q0 := hM.q0
  have pq := hM.ne
  rw [Hsz.out] at p0 q0
  have hbW : Below w.heap.size w W := HS.out.2.2.2.2.trans (hM.below.mono (by rw [Hsz.out]; omega))
  have hb5 : Below w.heap.size w W5 := by
    rw [hW5]; exact (hbW.setCell (p := ⟨bh, 0, none⟩) (by show _ ≤ bh; omega) _).setCell (p := ⟨bw, 0, none⟩) (by show _ ≤ bw; omega) _
  have hN : W.heap[w.heap.size]? = some (.cells #[.int .i64 (k : Int)] 3 (0, 0)) := by
    refine (hM.below.block _ (by rw [Hsz.out]; omega)).trans ?_
    exact blk_new w _
  have k1 : W5.heap[bh]? = some (.cells #[.map (some g.mh)] 26 (0, 0)) := by
    rw [hW5]; exact blk_far (blk_set hM.b1 0 _) (p := ⟨bw, 0, none⟩) pq _
  have k2 : W5.heap[bw]? = some (.cells #[.int .i64 was] 3 (0, 0)) := by
    rw [hW5]; exact blk_set (blk_far hM.b2 (p := ⟨bh, 0, none⟩) (fun e => pq e.symm) _) 0 _
  have k3 : W5.heap[w.heap.size]? = some (.cells #[.int .i64 (k : Int)] 3 (0, 0)) := by
    rw [hW5]; exact blk_far (blk_far hN (p := ⟨bh, 0, none⟩) (by show w.heap.size ≠ bh; omega) _) (p := ⟨bw, 0, none⟩) (by show w.heap.size ≠ bw; omega) _
  have d1 : W.cell? ⟨bh, 0, none⟩ = some (.map none) := by rw [blk_cell hM.b1]; rfl
  have d2 : W.cell? ⟨bw, 0, none⟩ = some (.int .i64 0) := by rw [blk_cell hM.b2]; rfl
  have f1 : W.frozen? ⟨bh, 0, none⟩ = false := blk_frozen hM.b1 0
  have f2 : W.frozen? ⟨bw, 0, none⟩ = false := blk_frozen hM.b2 0
  have s5 : W5.heap.size = w.heap.size + 3 := by rw [hW5]; simp [hM.size, Hsz.out]
  have SW : W.cell? ⟨w.heap.size, 0, none⟩ = some (.int .i64 k) ∧ W.cell? ⟨s, 4, none⟩ = some (.map (some g.mh)) := ⟨by rw [blk_cell hN]; rfl, (hbW.cell (p := ⟨s, 4, none⟩) HS.out.2.1).trans HS.out.2.2.1⟩
  have hb1 : Below w.heap.size w (W.setCell ⟨bh, 0, none⟩ (.map (some g.mh))) := hbW.setCell (p := ⟨bh, 0, none⟩) (by show _ ≤ bh; omega) _
  have HM := Lib.hid (And.intro hb5 (And.intro k1 (And.intro k2 (And.intro k3 (And.intro s5 (And.intro hb1 (And.intro hN hW5)))))))
  have HP := Lib.hid (And.intro p0 (And.intro q0 pq))
  clear hb5 k1 k2 k3 s5 hb1 hbW hM hN
  have d2' : (W.setCell ⟨bh, 0, none⟩ (.map (some g.mh))).cell? ⟨bw, 0, none⟩ = some (.int .i64 0) := by
    rw [World.cell?_setCell_other _ _ _ _ (fun e => by have e' : bh = bw := congrArg Addr.block e; exact pq e')]; exact d2
  have f2' : (W.setCell ⟨bh, 0, none⟩ (.map (some g.mh))).frozen? ⟨bw, 0, none⟩ = false := by simp [go_sem, f2]
  clear p0 q0 pq
  refine tree_one (by rfl) (fun K hK => ?_)
  rw [if_pos (by rfl)]
  go_simp
  refine hK _ _ (.inr ⟨?_, ?_, ?_⟩) ?_
  · rw [blk_cell (blk_far HM.out.2.2.2.2.2.2.1 (p := ⟨bh, 0, none⟩) (by have := HP.out.1; show w.heap.size ≠ bh; omega) _)]; rfl
  · exact (HM.out.2.2.2.2.2.1.cell (p := ⟨s, 4, none⟩) HS.out.2.1).trans HS.out.2.2.1
  · exact HS.out.2.2.2.1 _ (HM.out.2.2.2.2.2.1.block _ HA.out.1.k_mh.lt)
  clear hK K
  refine tree_one (by rfl) (fun K hK => ?_)
  rw [if_pos (by rfl)]
  go_simp
  refine hK _ _ (.inl rfl) ?_
  clear hK K
  unfold wpTree
  rw [← hW5]
  clear hW5 d1 d2 d2' f1 f2 f2' SW
  have e5 : W5.cell? ⟨s, 5, none⟩ = some g.uv := by rw [HM.out.1.cell (p := ⟨s, 5, none⟩) HS.out.2.1, HA.out.1.cell]; rfl
  go_wp2_with (at_builtin; refine wpList_append_own_at _ rfl _ _ 27 rfl 0 1 i0 .nilFunc 1 8 Try.underlying27 HH.out.2.1 HH.out.2.2.1 HH.out.2.2.2.1 HH.out.2.2.2.2 rfl (by decide) g.uv S.us.length fs rfl (World.ownsRow.alloc (own_keep HA.out.2.2.2.1 (fun x hx => HM.out.1.block x (own_lt HA.out.2.2.2.1 hx))) _) ⟨W5.heap.size, 0, none⟩ 1 1 [hclo bw bh w.heap.size] rfl rfl ?c1 ?c2 ?c3 ?c4 (Nat.zero_le _) ?_)
  case c1 => exact cell_one_new _ _ _
  case c2 => intro u hu; simp at hu; subst hu; rfl
  case c3 => have := HA.out.2.2.2.2.2; unfold maxLen; omega
  case c4 => have := HA.out.2.2.2.2.2; omega
  intro uv' w1 hown hgrow _ hat
  obtain ⟨A1, c1, hv1⟩ := own_slice hown
  subst hv1
  have hgrow' : (W5.alloc (.cells #[hclo bw bh w.heap.size] 1)).grownBy w1 g.uv.ownBlock := hgrow
  have hult : ∀ x, g.uv.ownBlock = some x → x < w.heap.size := fun x hx => own_lt HA.out.2.2.2.1 hx
  have hso : some s ≠ g.uv.ownBlock := fun e => absurd rfl (ty_ne HA.out.1.k_s (HA.out.1.k_uv e.symm) (by decide))
  have q5 : w1.cell? ⟨s, 5, none⟩ = some g.uv := by
    have h1 := HM.out.1.block s HS.out.2.1
    rw [HA.out.1.head] at h1
    rw [blk_cell (blk_grown (blk_alloc h1 _) hgrow' hso)]; rfl
  have f5 : w1.frozen? ⟨s, 5, none⟩ = false := by
    have h1 := HM.out.1.block s HS.out.2.1
    rw [HA.out.1.head] at h1
    exact blk_frozen (blk_grown (blk_alloc h1 _) hgrow' hso) 5
  have hpush := HA.out.1.push HA.out.2.2.1 (by have := HA.out.2.2.2.1.1; omega) HM.out.1 hown hgrow' (fun x => w.heap.size ≤ x ∧ x < w.heap.size + 3) (u := .hd true k (S.hd k)) ?hnb ?hf
  case hnb =>
    rintro x ⟨h1, h2⟩
    refine ⟨h1, ?_⟩
    rcases (show x = w.heap.size ∨ x = bh ∨ x = bw by have := HP.out; omega) with rfl | rfl | rfl
    · exact ⟨_, _, HM.out.2.2.2.1, by decide⟩
    · exact ⟨_, _, HM.out.2.1, by decide⟩
    · exact ⟨_, _, HM.out.2.2.1, by decide⟩
  case hf =>
    intro w' _ hfin
    have := HP.out
    exact ⟨bw, bh, w.heap.size, g.mh, rfl, by rw [← HA.out.2.2.2.2.1]; exact hfin _ _ HM.out.2.2.1 (by omega), hfin _ _ HM.out.2.1 (by omega), hfin _ _ HM.out.2.2.2.1 (by omega), .inr ⟨by omega, by omega⟩, .inr ⟨by omega, by omega⟩, .inr ⟨by omega, by omega⟩, rfl⟩
  have hN1 : (w1.setCell ⟨s, 5, none⟩ (.slice A1 (S.us.length + 1) c1)).heap[w.heap.size]? = some (.cells #[.int .i64 (k : Int)] 3 (0, 0)) :=
    blk_far (blk_grown (blk_alloc HM.out.2.2.2.1 _) hgrow' (fun e => by have := hult _ e.symm; omega)) (p := ⟨s, 5, none⟩) (fun e => by have e' : w.heap.size = s := e; have := HS.out.2.1; omega) _
  have HW := Lib.hid (And.intro hpush (And.intro hN1 (And.intro hgrow' hat)))
  clear hpush hN1 hgrow hgrow' hat hso hult hown e5
  go_wp2
  -- s.held[n] = 1
  have hA2 := HW.out.1.1.chg (G := fun _ => False) (Chg.refl _ _).drew (fun _ h => h.elim) (fun _ _ h => h)
  obtain ⟨ob, hrun, hM3⟩ := MapIs.update (P := Try.prog) hA2.hd Try.underlying26 Try.underlying3 k (.int .i64 1)
  have hc3 : Chg (fun x => x = g.mh) (w1.setCell ⟨s, 5, none⟩ (.slice A1 (S.us.length + 1) c1)).drew (setBlock (w1.setCell ⟨s, 5, none⟩ (.slice A1 (S.us.length + 1) c1)).drew g.mh ob) := (Chg.refl _ _).setBlock g.mh ob (fun _ => rfl)
  have hn3 := nodup3 hA2.sep.maps
  have hA3 := hA2.to_map hA2.k_mh hc3 (S.hold k) (fun q hq => (hA2.q1_ne hq).2.2) (.inr ⟨hn3.2.1.symm, rfl⟩) (.inr ⟨hn3.2.2.1.symm, rfl⟩) (.inl ⟨rfl, by rw [heldV_upd] at hM3; exact hM3⟩) (fun hst => absurd rfl (hA2.st_ne hst).2.2.1) rfl rfl rfl rfl rfl
  have hto : StTo w s p (S.hold k) F (setBlock (w1.setCell ⟨s, 5, none⟩ (.slice A1 (S.us.length + 1) c1)).drew g.mh ob) := by
    have t1 : StTo (w1.setCell ⟨s, 5, none⟩ (.slice A1 (S.us.length + 1) c1)).drew s p (S.hold k) _ _ := ⟨_, ⟨_, hA3, fun _ => Iff.rfl⟩, hc3.mono (fun x _ e => (.inr (.inr (.inr (.inl e))))), fun _ h => .inl h⟩
    refine t1.from_ (HW.out.1.2.drew.mono ?_) ?_
    · rintro x hx (e | e)
      · exact (HA.out.2.1 x).2 (.inl e)
      · exact (HA.out.2.1 x).2 (.inr (.inr (.inr (.inr (.inl e)))))
    · intro j hj
      rcases fp_push (N := w.heap.size) (n := W5.heap.size + 1) HW.out.2.2.2 (by have := HM.out.2.2.2.2.1; omega) (fun k h => h.1) j hj with h | h
      · exact .inl ((HA.out.2.1 j).2 h)
      · exact .inr h
  have HT := Lib.hid hto
  have s4 := (hA2.cell 4)
  have sN : (w1.setCell ⟨s, 5, none⟩ (.slice A1 (S.us.length + 1) c1)).drew.cell? ⟨w.heap.size, 0, none⟩ = some (.int .i64 k) := by
    have := blk_cell HW.out.2.1 0
    exact this.trans rfl
  have HQ := Lib.hid (And.intro sN s4)
  clear hto hA3 hn3 hc3 hM3 hA2 s4 sN
  refine wp_region_tree (fun w' => w'.cell? ⟨w.heap.size, 0, none⟩ = some (.int .i64 k) ∧ w'.cell? ⟨s, 4, none⟩ = some (.map (some g.mh))) 5
    (.take 0 (.take 1 (.take 2 (.take 3 (.take 4 (.one 5 .nil)))))) (by kernel_rfl) (by kernel_rfl) (by kernel_rfl) rfl (fun _ _ dst _ _ h => by cases dst <;> exact h) ?_ ?_
  · exact ⟨HQ.out.1, HQ.out.2.trans rfl⟩
  iterate 5 (refine tree_take ?_ (by rfl) (by rfl) ?_ ?_; rotate_left; (intro w hw; obtain ⟨hw1, hw2⟩ := hw; go_simp; rfl))
  refine tree_one (by rfl) (fun K hK => ?_)
  rw [if_pos (by rfl)]
  go_simp
  refine hK _ _ (.inl rfl) ?_
  clear hK K
  unfold wpTree
  go_wp2
  go_ret
  exact ⟨rfl, HT.out⟩
end Go.Proofs.Ytnhifnakgiddiaa
