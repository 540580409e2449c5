/- The store's Home. -/
import Derived.Test.YtnhifnakgiddiaaZ
namespace Go.Proofs.Ytnhifnakgiddiaa
open Go Go.RowKit Go.MapKept
open Go.ChangeMaps (setBlock heap_setBlock_same heap_setBlock_other)

/-- A store over its disk, in memory apart from one another. -/
def SysRep (w : World) (s p : Nat) (S : SM) (D : AD) (F : Nat → Prop) : Prop := ∃ Fs G : Nat → Prop, StRep w s p S Fs ∧ DiskRep w p D G ∧ Disj Fs G ∧ ∀ k, F k ↔ Fs k ∨ G k
def SysTo (w : World) (s p : Nat) (S' : SM) (D' : AD) (F : Nat → Prop) (w' : World) : Prop := ∃ F' : Nat → Prop, SysRep w' s p S' D' F' ∧ Chg F w w' ∧ ∀ j, F' j → F j ∨ w.heap.size ≤ j

theorem SysRep.foot {w : World} {s p : Nat} {S : SM} {D : AD} {F : Nat → Prop} (h : SysRep w s p S D F) : Foot F w := by
  obtain ⟨Fs, G, h1, h2, _, h4⟩ := h
  intro k hk
  rcases (h4 k).1 hk with h | h
  · exact h1.foot k h
  · exact h2.2 k h
theorem SysRep.chg {w w' : World} {s p : Nat} {S : SM} {D : AD} {F H : Nat → Prop} (h : SysRep w s p S D F) (hc : Chg H w w') (hH : Foot H w) (hd : Disj F H) : SysRep w' s p S D F := by
  obtain ⟨Fs, G, h1, h2, h3, h4⟩ := h
  exact ⟨Fs, G, h1.chg hc hH (fun k a b => hd k ((h4 k).2 (.inl a)) b), h2.chg hc hH (fun k a b => hd k ((h4 k).2 (.inr a)) b), h3, h4⟩
theorem SysRep.below {w w1 : World} {s p : Nat} {S : SM} {D : AD} {F : Nat → Prop} (h : SysRep w s p S D F) (hb : Below w.heap.size w w1) : SysRep w1 s p S D F :=
  h.chg (H := fun _ => False) (Chg.of_below hb) (fun _ h => h.elim) (fun _ _ h => h)
theorem SysRep.to_ {w w' : World} {s p : Nat} {S : SM} {D : AD} {F : Nat → Prop} (h : SysRep w' s p S D F) (hc : Chg F w w') : SysTo w s p S D F w' := ⟨F, h, hc, fun _ h => .inl h⟩
theorem SysRep.same {w w' : World} {s p : Nat} {S : SM} {D : AD} {F : Nat → Prop} (h : SysRep w s p S D F) (hb : Below w.heap.size w w') : SysTo w s p S D F w' := (h.below hb).to_ (Chg.of_below hb)
theorem SysTo.from_ {w w1 w2 : World} {s p : Nat} {S : SM} {D : AD} {F F1 : Nat → Prop} (h : SysTo w1 s p S D F1 w2) (hc : Chg F w w1) (hi : ∀ j, F1 j → F j ∨ w.heap.size ≤ j) : SysTo w s p S D F w2 := by
  obtain ⟨F2, k1, k2, k3⟩ := h
  refine ⟨F2, k1, hc.trans k2 (fun b hb hf => (hi b hf).resolve_right (by omega)), fun j hj => ?_⟩
  rcases k3 j hj with h | h
  · exact hi j h
  · exact .inr (Nat.le_trans hc.size h)
theorem SysTo.then_below {w w1 w2 : World} {s p : Nat} {S : SM} {D : AD} {F : Nat → Prop} (h : SysTo w s p S D F w1) (hb : Below w1.heap.size w1 w2) : SysTo w s p S D F w2 := by
  obtain ⟨F2, k1, k2, k3⟩ := h
  exact ⟨F2, k1.below hb, k2.trans (Chg.of_below (F := F2) hb) (fun b hb hf => (k3 b hf).resolve_right (by omega)), k3⟩
/-- The store alone has turned. -/
theorem SysTo.of_store {w w' : World} {s p : Nat} {S S' : SM} {D : AD} {F Fs G : Nat → Prop} (hD : DiskRep w p D G) (hd : Disj Fs G) (hF : ∀ k, F k ↔ Fs k ∨ G k) (hS : StRep w s p S Fs) (h : StTo w s p S' Fs w') : SysTo w s p S' D F w' := by
  obtain ⟨F1, k1, k2, k3⟩ := h
  refine ⟨fun k => F1 k ∨ G k, ⟨F1, G, k1, hD.chg k2 hS.foot hd.symm, ?_, fun _ => Iff.rfl⟩, k2.mono (fun k _ h => (hF k).2 (.inl h)), ?_⟩
  · intro j a b
    rcases k3 j a with h | h
    · exact hd j h b
    · have := (hD.2 j b).1; omega
  · rintro j (h | h)
    · exact (k3 j h).imp (fun h => (hF j).2 (.inl h)) id
    · exact .inl ((hF j).2 (.inr h))
/-- The disk alone has turned. -/
theorem SysTo.of_disk {w w' : World} {s p : Nat} {S : SM} {D D' : AD} {F Fs G : Nat → Prop} (hD : DiskRep w p D G) (hd : Disj Fs G) (hF : ∀ k, F k ↔ Fs k ∨ G k) (hS : StRep w s p S Fs) (h : DiskTo w p D' G w') : SysTo w s p S D' F w' := by
  obtain ⟨F1, k1, k2, k3⟩ := h
  refine ⟨fun k => Fs k ∨ F1 k, ⟨Fs, F1, hS.chg k2 hD.2 hd, k1, ?_, fun _ => Iff.rfl⟩, k2.mono (fun k _ h => (hF k).2 (.inr h)), ?_⟩
  · intro j a b
    rcases k3 j b with h | h
    · exact hd j a h
    · have := (hS.foot j a).1; omega
  · rintro j (h | h)
    · exact .inl ((hF j).2 (.inl h))
    · exact (k3 j h).imp (fun h => (hF j).2 (.inr h)) id
theorem SysTo.trans {w w1 w2 : World} {s p : Nat} {S1 S2 : SM} {D1 D2 : AD} {F : Nat → Prop} (h : SysTo w s p S1 D1 F w1) (k : ∀ F1, SysRep w1 s p S1 D1 F1 → SysTo w1 s p S2 D2 F1 w2) : SysTo w s p S2 D2 F w2 := by
  obtain ⟨F1, h1, h2, h3⟩ := h
  exact (k F1 h1).from_ h2 h3

def SM.unwait (S : SM) (k : Int) : SM := { S with wt := bdel S.wt k }
def SM.home (S : SM) (k : Nat) (b : Bytes) : SM := if S.ch k = none then (S.unwait k).use k b else S.unwait k
theorem SM.Wf.unwait {S : SM} (h : S.Wf) (k : Int) : (S.unwait k).Wf := ⟨h.ch, fun j l hj => by
  simp only [SM.unwait, bdel] at hj
  split at hj
  · cases hj
  · exact h.wt j l hj, h.sh, h.und, h.len, h.room⟩

theorem StRep.unwait {w w' : World} {s p : Nat} {S : SM} {g : SG} {F : Nat → Prop} (h : StAt w s p S g) (hF : ∀ k, F k ↔ fp g s k) {k : Int} {vf : Int → Option Value} {ob : Obj} (hM : MapIs w g.mw vf) (hO : OMap w vf S.wt) (hw : w' = setBlock w g.mw ob) (hM2 : MapIs w' g.mw (del vf k)) : StTo w s p (S.unwait k) F w' := by
  subst hw
  have hc : Chg (fun x => x = g.mw) w (setBlock w g.mw ob) := (Chg.refl _ w).setBlock g.mw ob (fun _ => rfl)
  have hkb : KB w (setBlock w g.mw ob) := fun x cs hx => (hc.block x (blk_lt hx) (ty_ne_map ⟨_, _, hx⟩ h.k_mw)).trans hx
  have hn := nodup3 h.sep.maps
  have := h.to_map h.k_mw hc (S.unwait k) (fun q hq => (h.q1_ne hq).2.1) (.inr ⟨hn.1.symm, rfl⟩) (.inl ⟨rfl, _, hM2, (hO.del k).kb hkb⟩) (.inr ⟨hn.2.2.1, rfl⟩) (fun hst => absurd rfl (h.st_ne hst).2.1) rfl rfl rfl rfl rfl
  exact ⟨F, ⟨g, this, hF⟩, hc.mono (fun x _ e => (hF x).2 (.inr (.inr (.inl e)))), fun _ h => .inl h⟩

set_option maxRecDepth 100000 in
set_option maxHeartbeats 1000000 in
theorem store_Home_bad (s p : Nat) (k : Int) (S : SM) (F : Nat → Prop) (D : AD) (G : Nat → Prop) (w : World) (hS : StRep w s p S F) (hD : DiskRep w p D G) (hk : D.has k = false ∨ S.wt k = none) :
    Calls Try.prog 14 #[ptr s, .int .i64 k] w fun e w' => e = .returned (.int .i64 22) ∧ w = w' := by
  have hh := store_has s p k S F D G w hS hD
  obtain ⟨g, hA, _⟩ := hS
  have c3 : w.cell? ⟨s, 3, none⟩ = some (.map (some g.mw)) := by rw [hA.cell]; rfl
  obtain ⟨vf, hM, hO⟩ := hA.wt
  have L := hM.lookup (P := Try.prog) Try.underlying25 Try.underlying3 (zeroMB _) k
  have qT := fun (w : World) (a : Option Addr) (n c n' c' : Nat) => eqlNil (w := w) a n c n' c'
  have HH := Lib.hid hh
  clear hh hA hD
  unfold ptr at *
  cases hb : D.has k
  · rw [hb] at HH
    clear L hM hO hk
    go_enter Try.func14, Try.ntmps14
    go_wp2_with (go_at_call 34; refine HH.out.mono ?_; rintro e w' ⟨rfl, rfl⟩)
    go_ret
    exact ⟨rfl, rfl⟩
  · rw [hb] at HH
    have h0 := hk.resolve_left (by rw [hb]; simp)
    rw [hO.none_ h0] at L
    simp only [Option.getD_none] at L
    clear hM hO hk h0
    go_enter Try.func14, Try.ntmps14
    go_wp2_with (go_at_call 34; refine HH.out.mono ?_; rintro e w' ⟨rfl, rfl⟩)
    go_ret
    exact ⟨rfl, rfl⟩

set_option maxRecDepth 100000 in
set_option maxHeartbeats 4000000 in
theorem store_Home (s p k : Nat) (b : Bytes) (S : SM) (D : AD) (F : Nat → Prop) (w : World) (hSD : SysRep w s p S D F) (hW : S.Wf) (hk : D.has k = true) (hk2 : k ≤ 4096) (hb : S.wt k = some b) (hpn : D.pend.length ≤ 1000000000) :
    Calls Try.prog 14 #[ptr s, .int .i64 (k : Int)] w fun e w' => e = .returned (.int .i64 0) ∧ SysTo w s p (S.home k b) (D.write k b) F w' := by
  obtain ⟨Fs, G, hS, hD, hdj, hFF⟩ := hSD
  have hh := store_has s p k S Fs D G w hS hD
  rw [hk] at hh
  obtain ⟨g, hA, hF⟩ := id hS
  have c3 : w.cell? ⟨s, 3, none⟩ = some (.map (some g.mw)) := by rw [hA.cell]; rfl
  have c0 : w.cell? ⟨s, 0, none⟩ = some (.pointer (some ⟨p, 0, none⟩)) := by rw [hA.cell]; rfl
  obtain ⟨vf, hM, hO⟩ := hA.wt
  have hbl := hW.wt _ _ hb
  obtain ⟨v, hv1, hv2⟩ := hO.some_ hb
  obtain ⟨gb, cb, rfl, _, hat, _⟩ := hv2.open_ (by omega)
  rw [hbl] at hv1 hv2
  have L := hM.lookup (P := Try.prog) Try.underlying25 Try.underlying3 (zeroMB _) (k : Int)
  rw [hv1] at L
  simp only [Option.getD_some] at L
  have qT := fun (w : World) (a : Option Addr) (n c n' c' : Nat) => eqlNil (w := w) a n c n' c'
  have hdw := disk_Write p k ⟨gb, 0, none⟩ cb b D G w hD hk hbl hat hpn
  have HH := Lib.hid (And.intro hh hdw)
  have HA := Lib.hid (And.intro hS (And.intro hD (And.intro hdj (And.intro hFF (And.intro hW (And.intro hbl (And.intro hv2 (And.intro hb hv1))))))))
  clear hh hdw hA hF hM hO hv1 hv2 hat hb hbl hS hD hdj hFF hW hk
  unfold ptr at *
  go_enter Try.func14, Try.ntmps14
  go_wp2_with (go_at_call 34; refine HH.out.1.mono ?_; rintro e w' ⟨rfl, rfl⟩)
  refine HH.out.2.mono ?_
  rintro e w1 ⟨rfl, hdt⟩
  have HD := Lib.hid hdt
  obtain ⟨G1, hD1, hcG, hiG⟩ := hdt
  have hS1 : StRep w1 s p S Fs := HA.out.1.chg hcG HA.out.2.1.2 HA.out.2.2.1
  have hv3 : Blk w1 _ b := HA.out.2.2.2.2.2.2.1.chg hcG HA.out.2.1.2
  obtain ⟨g1, hA1, hF1⟩ := id hS1
  obtain ⟨vf1, hM1, hO1⟩ := hA1.wt
  have c3' : w1.cell? ⟨s, 3, none⟩ = some (.map (some g1.mw)) := by rw [hA1.cell]; rfl
  obtain ⟨ob, hrun, hM2⟩ := MapIs.delete (P := Try.prog) hM1 (ats := #[25, 3]) (ty := 0) rfl Try.underlying25 Try.underlying3 (k : Int)
  have hun := StRep.unwait hA1 hF1 (k := (k : Int)) hM1 hO1 rfl hM2
  obtain ⟨F2, hS2, hc2, hi2⟩ := hun
  have hv4 : Blk (setBlock w1 g1.mw ob) _ b := hv3.chg hc2 hS1.foot
  obtain ⟨g2, hA2, hF2⟩ := id hS2
  obtain ⟨vf2, hM3, hO3⟩ := hA2.ch
  have c2' : (setBlock w1 g1.mw ob).cell? ⟨s, 2, none⟩ = some (.map (some g2.mc)) := by rw [hA2.cell]; rfl
  have L2 := hM3.lookup (P := Try.prog) Try.underlying25 Try.underlying3 (zeroMB _) (k : Int)
  have hd1 : Disj Fs G1 := fun j a c => by
    rcases hiG j c with h | h
    · exact HA.out.2.2.1 j a h
    · have := (HA.out.1.foot j a).1; omega
  have hD2 := hD1.chg hc2 hS1.foot hd1.symm
  have hd2 : Disj F2 G1 := fun j a c => by
    rcases hi2 j a with h | h
    · exact hd1 j h c
    · have := (hD1.2 j c).1; omega
  have hcw : Chg F w (setBlock w1 g1.mw ob) := (hcG.mono (fun j _ h => (HA.out.2.2.2.1 j).2 (.inr h))).trans hc2 (fun j _ h => (HA.out.2.2.2.1 j).2 (.inl h))
  have hiw : ∀ j, (F2 j ∨ G1 j) → F j ∨ w.heap.size ≤ j := fun j hj => by
    rcases hj with h | h
    · rcases hi2 j h with h | h
      · exact .inl ((HA.out.2.2.2.1 j).2 (.inl h))
      · exact .inr (Nat.le_trans hcG.size h)
    · exact (hiG j h).imp (fun h => (HA.out.2.2.2.1 j).2 (.inr h)) id
  have hto2 : SysTo w s p (S.unwait k) (D.write k b) F (setBlock w1 g1.mw ob) := ⟨fun j => F2 j ∨ G1 j, ⟨F2, G1, hS2, hD2, hd2, fun _ => Iff.rfl⟩, hcw, hiw⟩
  have hW2 := HA.out.2.2.2.2.1.unwait (k : Int)
  have hus := store_use s p k _ b _ F2 _ hS2 hW2 hv4 HA.out.2.2.2.2.2.1 hk2
  have HT := Lib.hid (And.intro hto2 (And.intro hus (And.intro hW2 (And.intro hS2 (And.intro hO3 (And.intro hD2 (And.intro hd2 (And.intro hcw hiw))))))))
  by_cases hch : S.ch k = none
  · have e0 : (S.unwait k).ch k = none := hch
    rw [hO3.none_ e0] at L2
    simp only [Option.getD_none] at L2
    have Hch := Lib.hid hch
    clear hto2 hus hW2 hS2 hO3 hM3 hM2 hO1 hM1 hA1 hF1 hS1 hv3 hv4 hA2 hF2 hc2 hi2 hD1 hcG hiG hd1 hD2 hd2 hcw hiw hch e0
    go_wp2_with fail
    refine HT.out.2.1.mono ?_
    rintro e w3 ⟨rfl, h3⟩
    have H3 := Lib.hid h3; clear h3
    go_wp2
    go_ret
    refine ⟨rfl, ?_⟩
    unfold SM.home
    rw [if_pos Hch.out]
    exact (SysTo.of_store (F := fun j => F2 j ∨ G1 j) HT.out.2.2.2.2.2.1 HT.out.2.2.2.2.2.2.1 (fun _ => Iff.rfl) HT.out.2.2.2.1 H3.out).from_ HT.out.2.2.2.2.2.2.2.1 HT.out.2.2.2.2.2.2.2.2
  · obtain ⟨b2, hb2⟩ := Option.ne_none_iff_exists'.1 hch
    have hb2' : (S.unwait k).ch k = some b2 := hb2
    obtain ⟨v2, hv5, hv6⟩ := hO3.some_ hb2'
    obtain ⟨gb2, cb2, rfl, _, _, _⟩ := hv6.open_ (by have := HA.out.2.2.2.2.1.ch _ _ hb2; omega)
    rw [hv5] at L2
    simp only [Option.getD_some] at L2
    have Hch := Lib.hid hch
    clear hto2 hus hW2 hS2 hO3 hM3 hM2 hO1 hM1 hA1 hF1 hS1 hv3 hv4 hA2 hF2 hc2 hi2 hD1 hcG hiG hd1 hD2 hd2 hcw hiw hch hv5 hv6 hb2' hb2
    go_wp2
    go_ret
    refine ⟨rfl, ?_⟩
    unfold SM.home
    rw [if_neg Hch.out]
    exact HT.out.1
end Go.Proofs.Ytnhifnakgiddiaa
