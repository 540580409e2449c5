/- The store's Back: the two closures. -/
import Derived.Test.YtnhifnakgiddiaaW
namespace Go.Proofs.Ytnhifnakgiddiaa
open Go Go.RowKit Go.MapKept
open Go.ChangeMaps (setBlock heap_setBlock_same heap_setBlock_other)

def SM.undo1 (S : SM) : Und → SM
  | .wr n old => { S with ch := match old with | none => bdel S.ch n | some b => bupd S.ch n b }
  | .hd live n was => { S with hd := if live && !was then (fun x => if x = n then false else S.hd x) else S.hd }
def SM.backTo (S : SM) (m : Nat) : SM := { (S.us.drop m).foldr (fun u S => S.undo1 u) S with us := S.us.take m }
theorem undo1_us (S : SM) (u : Und) (us : List Und) : ({ S with us := us } : SM).undo1 u = { S.undo1 u with us := us } := by cases u <;> rfl
theorem backTo_step (S : SM) (m : Nat) (u : Und) (h : S.us[m]? = some u) : S.backTo m = { (S.backTo (m + 1)).undo1 u with us := (S.backTo (m + 1)).us.take m } := by
  have hl := (List.getElem?_eq_some_iff.1 h).1
  have hd : S.us.drop m = u :: S.us.drop (m + 1) := by
    rw [List.drop_eq_getElem_cons hl]; congr 1
    rw [List.getElem?_eq_getElem hl] at h; exact Option.some.inj h
  unfold SM.backTo
  rw [hd, undo1_us]
  simp [List.foldr_cons, List.take_take]
theorem backTo_all (S : SM) : S.backTo S.us.length = S := by simp [SM.backTo]

/-- What a row of one cell each holds. -/
theorem own_cells {w : World} {e : TypeId} {v : Value} {n : Nat} {xs : List Value} (h : w.ownsRow 0 e 1 v n xs) : (v = .slice none 0 0 ∧ n = 0) ∨ ∃ g c, v = .slice (some ⟨g, 0, none⟩) n c ∧ n ≤ c ∧ ∀ (j : Nat) u, xs[j]? = some u → w.cell? ⟨g, j, none⟩ = some u := by
  obtain ⟨hl, h⟩ := h
  rcases h with ⟨h1, h2⟩ | ⟨g, cap, cur, h1, _, hg, hle, hm, hs, ht⟩
  · exact .inl ⟨h1, h2⟩
  · refine .inr ⟨g, cap, h1, by omega, fun j u hj => ?_⟩
    rw [blk_cell hg]
    rw [Nat.mul_one] at ht
    have hjl := (List.getElem?_eq_some_iff.1 hj).1
    rw [← ht, List.getElem?_take] at hj
    split at hj
    · simpa using hj
    · cases hj

section
variable {w : World} {s p : Nat} {S : SM} {g : SG}

theorem StAt.ch_to (h : StAt w s p S g) {w' : World} {f : Int → Option Bytes} (hc : Chg (fun x => x = g.mc) w w') (hm : MapB w' g.mc f) : StAt w' s p { S with ch := f } g :=
  h.to_map h.k_mc hc { S with ch := f } (fun q hq => (h.q1_ne hq).1) (.inl ⟨rfl, hm⟩) (.inr ⟨(nodup3 h.sep.maps).1, rfl⟩) (.inr ⟨(nodup3 h.sep.maps).2.1, rfl⟩) (fun hst => absurd rfl (h.st_ne hst).1) rfl rfl rfl rfl rfl

set_option maxRecDepth 100000 in
set_option maxHeartbeats 2000000 in
theorem und_wr (h : StAt w s p S g) {bo bs bn : Nat} {n : Int} {old : Option Bytes} {ov : Value} (hbo : w.heap[bo]? = some (.cells #[ov] 32 (0, 0))) (hbs : w.heap[bs]? = some (.cells #[ptr s] 23 (0, 0))) (hbn : w.heap[bn]? = some (.cells #[.int .i64 n] 3 (0, 0)))
    (hov : (ov = .slice none 0 0 ∧ old = none) ∨ ∃ l, old = some l ∧ Blk w ov l ∧ l.length = 256) :
    Calls Try.prog 38 #[.pointer (some ⟨bo, 0, none⟩), .pointer (some ⟨bs, 0, none⟩), .pointer (some ⟨bn, 0, none⟩)] w fun e w' => e = .returned (.tuple #[]) ∧ StAt w' s p (S.undo1 (.wr n old)) g ∧ Chg (fun x => x = g.mc) w w' := by
  have c0 : w.cell? ⟨bo, 0, none⟩ = some ov := by rw [blk_cell hbo]; rfl
  have c1 : w.cell? ⟨bs, 0, none⟩ = some (.pointer (some ⟨s, 0, none⟩)) := by rw [blk_cell hbs]; rfl
  have c2 : w.cell? ⟨bn, 0, none⟩ = some (.int .i64 n) := by rw [blk_cell hbn]; rfl
  have c3 : w.cell? ⟨s, 2, none⟩ = some (.map (some g.mc)) := by rw [h.cell]; rfl
  have hA1 := h.chg (G := fun _ => False) (Chg.refl _ _).drew (fun _ h => h.elim) (fun _ _ h => h)
  obtain ⟨vf, hM, hO⟩ := hA1.ch
  have qT := fun (w : World) (a : Option Addr) (n c n' c' : Nat) => eqlNil (w := w) a n c n' c'
  rcases hov with ⟨rfl, rfl⟩ | ⟨l, rfl, hbl, hll⟩
  · obtain ⟨ob, hrun, hM2⟩ := MapIs.delete (P := Try.prog) hM (ats := #[25, 3]) (ty := 0) rfl Try.underlying25 Try.underlying3 n
    have hc : Chg (fun x => x = g.mc) w.drew (setBlock w.drew g.mc ob) := (Chg.refl _ _).setBlock g.mc ob (fun _ => rfl)
    have hkb : KB w.drew (setBlock w.drew g.mc ob) := fun x cs hx => (hc.block x (blk_lt hx) (ty_ne_map ⟨_, _, hx⟩ hA1.k_mc)).trans hx
    have hfin := hA1.ch_to hc ⟨_, hM2, (hO.del n).kb hkb⟩
    have HF := Lib.hid (And.intro hfin ((Chg.refl (fun x => x = g.mc) w).drew.trans hc (fun _ _ h => h)))
    clear hfin hc hkb hM2 hM hO h hA1 hbo hbs hbn
    go_enter Try.func38, Try.ntmps38
    go_wp2
    refine wp_region_tree (fun w' => w'.cell? ⟨bs, 0, none⟩ = some (.pointer (some ⟨s, 0, none⟩)) ∧ w'.cell? ⟨bn, 0, none⟩ = some (.int .i64 n) ∧ w'.cell? ⟨s, 2, none⟩ = some (.map (some g.mc))) 5
      (.take 0 (.take 1 (.take 2 (.take 3 (.take 4 (.one 5 .nil)))))) (by kernel_rfl) (by kernel_rfl) (by kernel_rfl) rfl (fun _ _ dst _ _ h => by cases dst <;> exact h) ?_ ?_
    · exact ⟨c1, c2, c3⟩
    iterate 5 (refine tree_take ?_ (by rfl) (by rfl) ?_ ?_; rotate_left; (intro w hw; obtain ⟨hw1, hw2, hw3⟩ := hw; go_simp; rfl))
    refine tree_one (by rfl) (fun K hK => ?_)
    rw [if_pos (by rfl)]
    go_simp
    refine hK _ _ (.inl rfl) ?_
    clear hK K
    unfold wpTree
    go_wp2
    go_end0
    exact ⟨rfl, HF.out⟩
  · obtain ⟨gb, cb, rfl, _, _, _⟩ := hbl.open_ (by omega)
    obtain ⟨ob, hrun, hM2⟩ := MapIs.update (P := Try.prog) hM Try.underlying25 Try.underlying3 n (.slice (some ⟨gb, 0, none⟩) l.length cb)
    have hc : Chg (fun x => x = g.mc) w.drew (setBlock w.drew g.mc ob) := (Chg.refl _ _).setBlock g.mc ob (fun _ => rfl)
    have hkb : KB w.drew (setBlock w.drew g.mc ob) := fun x cs hx => (hc.block x (blk_lt hx) (ty_ne_map ⟨_, _, hx⟩ hA1.k_mc)).trans hx
    have hfin := hA1.ch_to hc ⟨_, hM2, (hO.upd n hbl).kb hkb⟩
    have HF := Lib.hid (And.intro hfin ((Chg.refl (fun x => x = g.mc) w).drew.trans hc (fun _ _ h => h)))
    clear hfin hc hkb hM2 hM hO h hA1 hbo hbs hbn hbl
    rw [hll] at *
    go_enter Try.func38, Try.ntmps38
    go_wp2
    refine wp_region_tree (fun w' => w'.cell? ⟨bs, 0, none⟩ = some (.pointer (some ⟨s, 0, none⟩)) ∧ w'.cell? ⟨bn, 0, none⟩ = some (.int .i64 n) ∧ w'.cell? ⟨s, 2, none⟩ = some (.map (some g.mc)) ∧ w'.cell? ⟨bo, 0, none⟩ = some (.slice (some ⟨gb, 0, none⟩) 256 cb)) 6
      (.take 0 (.take 1 (.take 2 (.take 3 (.take 4 (.take 5 (.one 6 .nil))))))) (by kernel_rfl) (by kernel_rfl) (by kernel_rfl) rfl (fun _ _ dst _ _ h => by cases dst <;> exact h) ?_ ?_
    · exact ⟨c1, c2, c3, c0⟩
    iterate 6 (refine tree_take ?_ (by rfl) (by rfl) ?_ ?_; rotate_left; (intro w hw; obtain ⟨hw1, hw2, hw3, hw4⟩ := hw; go_simp; rfl))
    refine tree_one (by rfl) (fun K hK => ?_)
    rw [if_pos (by rfl)]
    go_simp
    refine hK _ _ (.inl rfl) ?_
    clear hK K
    unfold wpTree
    go_wp2
    go_end0
    exact ⟨rfl, HF.out⟩

theorem heldV_del (h : Int → Bool) (k : Int) : del (heldV h) k = heldV (fun x => if x = k then false else h x) := by
  funext x; unfold del heldV; by_cases e : x = k <;> simp [e]

set_option maxRecDepth 100000 in
set_option maxHeartbeats 2000000 in
theorem und_hd (h : StAt w s p S g) {bw bh bn m : Nat} {n : Int} {live was : Bool} (hbw : w.heap[bw]? = some (.cells #[.int .i64 (if was then 1 else 0)] 3 (0, 0))) (hbh : w.heap[bh]? = some (.cells #[.map (some m)] 26 (0, 0))) (hbn : w.heap[bn]? = some (.cells #[.int .i64 n] 3 (0, 0)))
    (hm : if live then m = g.mh else g.st m) :
    Calls Try.prog 40 #[.pointer (some ⟨bw, 0, none⟩), .pointer (some ⟨bh, 0, none⟩), .pointer (some ⟨bn, 0, none⟩)] w fun e w' => e = .returned (.tuple #[]) ∧ StAt w' s p (S.undo1 (.hd live n was)) g ∧ Chg (fun x => x = m) w w' := by
  have c0 : w.cell? ⟨bw, 0, none⟩ = some (.int .i64 (if was then 1 else 0)) := by rw [blk_cell hbw]; rfl
  have c1 : w.cell? ⟨bh, 0, none⟩ = some (.map (some m)) := by rw [blk_cell hbh]; rfl
  have c2 : w.cell? ⟨bn, 0, none⟩ = some (.int .i64 n) := by rw [blk_cell hbn]; rfl
  cases was with
  | true =>
    have HF := Lib.hid (show StAt w s p (S.undo1 (.hd live n true)) g by simpa [SM.undo1] using h)
    simp only [if_true] at c0
    clear h hbw hbh hbn hm
    go_enter Try.func40, Try.ntmps40
    go_wp2
    go_end0
    exact ⟨rfl, HF.out, Chg.refl _ _⟩
  | false =>
    simp only [Bool.false_eq_true, if_false] at c0
    have hMm : ∃ f, MapIs w m f ∧ (live = true → f = heldV S.hd) := by
      cases live with
      | true => simp only [if_true] at hm; subst hm; exact ⟨_, h.hd, fun _ => rfl⟩
      | false => simp only [Bool.false_eq_true, if_false] at hm; obtain ⟨f, hf⟩ := h.stale m hm; exact ⟨f, hf, fun e => by cases e⟩
    obtain ⟨f, hM, hf⟩ := hMm
    obtain ⟨ob, hrun, hM2⟩ := MapIs.delete (P := Try.prog) hM (ats := #[26, 3]) (ty := 0) rfl Try.underlying26 Try.underlying3 n
    have hc : Chg (fun x => x = m) w (setBlock w m ob) := (Chg.refl _ _).setBlock m ob (fun _ => rfl)
    have hIs : IsMap w m := by obtain ⟨es, cl, hb, _⟩ := hM; exact ⟨es, cl, hb⟩
    have hfin : StAt (setBlock w m ob) s p (S.undo1 (.hd live n false)) g := by
      cases live with
      | true =>
        simp only [if_true] at hm; subst hm
        rw [hf rfl, heldV_del] at hM2
        have := h.to_map hIs hc (S.undo1 (.hd true n false)) (fun q hq => (h.q1_ne hq).2.2) (.inr ⟨(nodup3 h.sep.maps).2.1.symm, rfl⟩) (.inr ⟨(nodup3 h.sep.maps).2.2.1.symm, rfl⟩) (.inl ⟨rfl, hM2⟩) (fun hst => absurd rfl (h.st_ne hst).2.2.1) rfl rfl rfl rfl rfl
        exact this
      | false =>
        simp only [Bool.false_eq_true, if_false] at hm
        have hne := h.st_ne hm
        have := h.to_map hIs hc (S.undo1 (.hd false n false)) (fun q hq e => hne.2.2.2 q hq e.symm) (.inr ⟨hne.1, rfl⟩) (.inr ⟨hne.2.1, rfl⟩) (.inr ⟨hne.2.2.1, rfl⟩) (fun _ => ⟨_, hM2⟩) rfl rfl rfl rfl rfl
        exact this
    have HF := Lib.hid (And.intro hfin hc)
    clear hfin hc hM2 hM h hbw hbh hbn hm hIs hf
    go_enter Try.func40, Try.ntmps40
    go_wp2
    go_end0
    exact ⟨rfl, HF.out⟩
end
end Go.Proofs.Ytnhifnakgiddiaa
