/- A script among a law's arguments: what its cells hold. -/
import Derived.Test.YtnhifnakgiddiaaAP
import Derived.Deep.Slices
import Derived.WalkKit
import Derived.ProofKit
import Derived.OpenShut
namespace Go.Proofs.Ytnhifnakgiddiaa
open Go Go.RowKit Go.WideShapes Go.Deep

section
variable {H : Type} {enc : TypeId × Value → H} {w : World}

theorem cellsOp : Try.prog.cellsOf 54 = 3 := by kernel_rfl
theorem cellsInt : Try.prog.cellsOf 3 = 1 := by kernel_rfl

set_option maxRecDepth 100000 in
theorem open_script {v : Value} {d : DataW H} {p : List MemPlace} (h : DataW.Trod enc Try.prog w 0 (fun _ => true) true 47 v d p) (hv : ∃ a n c, v = .slice a n c) :
    ∃ A n c ops, v = .slice A n c ∧ ops.length = n ∧ ScriptAt w A ops := by
  obtain ⟨a0, n0, c0, rfl⟩ := hv
  obtain ⟨fuel, hf⟩ := h
  rcases open_slice Try.underlying47 hf with ⟨hc, _⟩ | ⟨a, len, cap, m, n, D, Pl, hc, _, hl, _, hm, _, hx⟩
  · simp [Value.cells] at hc
    obtain ⟨rfl, rfl, rfl⟩ := hc
    exact ⟨none, 0, 0, [], rfl, rfl, fun j o hj => by simp at hj⟩
  · simp [Value.cells] at hc
    obtain ⟨rfl, rfl, rfl⟩ := hc
    have hlm : n0 ≤ m := by rw [hm]; simp; exact hl
    have each : ∀ i, i < n0 → ∃ o : Int × Int × Int, w.cell? (a.add (i * 3)) = some (.int .i64 o.1) ∧ w.cell? (a.add (i * 3 + 1)) = some (.int .i64 o.2.1) ∧ w.cell? (a.add (i * 3 + 2)) = some (.int .i64 o.2.2) := by
      intro i hi
      obtain ⟨cs', h1, h2⟩ := hx i (by omega)
      rw [cellsOp] at h1
      obtain ⟨_, hlen, hcell⟩ := World.cells?_some h1
      obtain ⟨xs, k, _, _, _, hxl, hfi⟩ := DataW.trod_struct Try.underlying54 h2
      match xs, hxl, cs', hlen with
      | [y0, y1, y2], _, [v0, v1, v2], _ =>
        have g0 := hfi 0 _ rfl
        have g1 := hfi 1 _ rfl
        have g2 := hfi 2 _ rfl
        simp [cellsInt] at g0 g1 g2
        obtain ⟨x0, e0, _⟩ := DataW.trod_int Try.underlying3 g0
        obtain ⟨x1, e1, _⟩ := DataW.trod_int Try.underlying3 g1
        obtain ⟨x2, e2, _⟩ := DataW.trod_int Try.underlying3 g2
        simp at e0 e1 e2
        subst e0 e1 e2
        have q0 := hcell 0 (by omega)
        have q1 := hcell 1 (by omega)
        have q2 := hcell 2 (by omega)
        rw [add_add] at q0 q1 q2
        exact ⟨(x0, x1, x2), by simpa using q0, by simpa using q1, by simpa using q2⟩
    obtain ⟨f, hf'⟩ := choose_lt each
    refine ⟨some a, n0, c0, (List.range n0).map f, rfl, by simp, ?_⟩
    intro j o hj
    rw [List.getElem?_map] at hj
    obtain ⟨i, hi, rfl⟩ := Option.map_eq_some_iff.1 hj
    have hjn : j < n0 := by have := (List.getElem?_eq_some_iff.1 hi).1; simpa using this
    have hij : i = j := by rw [List.getElem?_range hjn] at hi; exact (Option.some.inj hi).symm
    subst hij
    have hsp : a.spot = none := by
      have h0 := (hf' 0 (by omega)).1
      have e : a.add (0 * 3) = a := by simp [Addr.add]
      rw [e] at h0
      unfold World.cell? at h0
      split at h0
      · split at h0
        · cases h0
        · rename_i hs; simpa using hs
      · cases h0
    obtain ⟨b, off, spot⟩ := a
    simp only at hsp; subst hsp
    have ea : ∀ i, (⟨b, off, none⟩ : Addr).add i = ⟨b, off + i, none⟩ := fun i => by unfold Addr.add; split <;> simp_all
    obtain ⟨q0, q1, q2⟩ := hf' i hjn
    rw [ea] at q0 q1 q2
    exact ⟨b, off, rfl, q0, by rw [← Nat.add_assoc] at q1; exact q1, by rw [← Nat.add_assoc] at q2; exact q2⟩
end
end Go.Proofs.Ytnhifnakgiddiaa
