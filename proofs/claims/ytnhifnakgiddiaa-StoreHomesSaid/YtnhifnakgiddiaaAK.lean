/- The laws' 'awake': the document's examples. -/
import Derived.Test.YtnhifnakgiddiaaAJ
namespace Go.Proofs.Ytnhifnakgiddiaa
open Go Go.RowKit Go.MapKept
open Go.ChangeMaps (setBlock heap_setBlock_same heap_setBlock_other)

/-- A store and its disk made since w, and blocks H that are the caller's. -/
def Aw (w wi : World) (s p : Nat) (S : SM) (D : AD) (H : Nat → Prop) : Prop :=
  ∃ F : Nat → Prop, SysRep wi s p S D F ∧ (∀ j, F j → w.heap.size ≤ j ∧ ¬ H j) ∧ Below w.heap.size w wi ∧ ∀ j, H j → j < wi.heap.size
theorem Aw.step {w wi wj : World} {s p : Nat} {S S' : SM} {D D' : AD} {H F : Nat → Prop} (h : SysRep wi s p S D F) (hF : ∀ j, F j → w.heap.size ≤ j ∧ ¬ H j) (hb : Below w.heap.size w wi) (hH : ∀ j, H j → j < wi.heap.size) (hto : SysTo wi s p S' D' F wj) :
    Aw w wj s p S' D' H ∧ ∀ x, H x → wj.heap[x]? = wi.heap[x]? := by
  obtain ⟨F', h1, h2, h3⟩ := hto
  refine ⟨⟨F', h1, fun j hj => ?_, hb.trans (h2.below hb.size (fun k hk hf => by have := (hF k hf).1; omega)), fun j hj => Nat.lt_of_lt_of_le (hH j hj) h2.size⟩, fun x hx => h2.block x (hH x hx) (fun hf => (hF x hf).2 hx)⟩
  rcases h3 j hj with h | h
  · exact hF j h
  · exact ⟨Nat.le_trans hb.size h, fun hh => by have := hH j hh; omega⟩
theorem Aw.below {w wi wj : World} {s p : Nat} {S : SM} {D : AD} {H : Nat → Prop} (h : Aw w wi s p S D H) (hb : Below wi.heap.size wi wj) : Aw w wj s p S D H ∧ ∀ x, H x → wj.heap[x]? = wi.heap[x]? := by
  obtain ⟨F, h1, h2, h3, h4⟩ := h
  exact ⟨⟨F, h1.below hb, h2, h3.trans (hb.mono h3.size), fun j hj => Nat.lt_of_lt_of_le (h4 j hj) hb.size⟩, fun x hx => hb.block x (h4 x hx)⟩
theorem Aw.add {w wi : World} {s p : Nat} {S : SM} {D : AD} {H H' : Nat → Prop} (h : Aw w wi s p S D H) (hn : ∀ F : Nat → Prop, SysRep wi s p S D F → ∀ j, F j → ¬ H' j) (hl : ∀ j, H' j → j < wi.heap.size) : Aw w wi s p S D (fun x => H x ∨ H' x) := by
  obtain ⟨F, h1, h2, h3, h4⟩ := h
  exact ⟨F, h1, fun j hj => ⟨(h2 j hj).1, fun hh => hh.elim (h2 j hj).2 (hn F h1 j hj)⟩, h3, fun j hj => hj.elim (h4 j) (hl j)⟩

theorem BAt.at_ {w : World} {g : Nat} {l : Bytes} (h : BAt w g l) : AtB w ⟨g, 0, none⟩ l := fun j u hu => by
  have e : (⟨g, 0, none⟩ : Addr).add j = ⟨g, j, none⟩ := by unfold Addr.add; split <;> simp_all
  rw [e, blk_cell h]; simpa using hu

theorem keysV_one {α : Type} {m : Int → Option α} {k : Int} (hk : InR k) (h : ∀ x, m x ≠ none ↔ x = k) : keysV m = [k] := by
  have hp : (keysV m).Perm [k] := (List.perm_ext_iff_of_nodup (keysV_nodup m) (by simp)).2 fun x => by
    rw [mem_keysV (fun x hx => by rw [(h x).1 hx]; exact hk), h x]; simp
  exact List.perm_singleton.1 hp
theorem home_wt (S : SM) (k : Nat) (b : Bytes) : (S.home k b).wt = bdel S.wt k := by unfold SM.home; split <;> rfl

def A0 : SM := SM.new 2 1
def A1 : SM := A0.write 5 (filledB 7)
def A2 : SM := A1.write 5 (filledB 8)
def A3 : SM := A2.hold 9
def A4 : SM := A3.backTo 1
def A5 : SM := A4.hit
def A6 : SM := A5.commit
def A7 : SM := A6.home 5 (filledB 7)
def D0 : AD := AD.new 128
def D1 : AD := D0.write 5 (filledB 7)
theorem ok0 : Ok A0 D0 := Ok.new (by decide) (by decide) (AD.Wf.new 128) (by decide)
theorem has5 : D0.has ((5 : Nat) : Int) = true := by decide
theorem ok1 : Ok A1 D0 := Ok.write (k := 5) (b := filledB 7) ok0 has5 (filledB_length 7)
theorem ok2 : Ok A2 D0 := Ok.write (k := 5) (b := filledB 8) ok1 has5 (filledB_length 8)
theorem ok3 : Ok A3 D0 := ok2.hold 9
theorem ok4 : Ok A4 D0 := ok3.back 1
theorem ch4 : A4.ch 5 = some (filledB 7) := rfl
theorem rd4 : A4.read D0 5 = (filledB 7, A5) := by unfold SM.read; rw [show A4.ch ((5 : Nat) : Int) = some (filledB 7) from ch4]; rfl
theorem ok5 : Ok A5 D0 := by have := ok4.read 5; rw [rd4] at this; exact this
theorem ok6 : Ok A6 D0 := ok5.commit
theorem wt6 : A6.wt 5 = some (filledB 7) := rfl
theorem ok7 : Ok A7 D1 := ok6.home (k := 5) wt6
theorem wt7 : A7.wt 5 = none := by unfold A7; rw [home_wt]; rfl
theorem hd5 : (D0.has 9 && A5.hd 9) = false := rfl
theorem ch5 : ∀ x, A5.ch x ≠ none ↔ x = 5 := fun x => by
  by_cases e : x = 5
  · subst e; simp [show A5.ch 5 = some (filledB 7) from rfl]
  · have : A5.ch x = none := by
      show bupd (bupd (bupd (fun _ => none) 5 (filledB 7)) 5 (filledB 8)) 5 (filledB 7) x = none
      simp [bupd, e]
    simp [this, e]
theorem list5 : listW A5.ch = [(5, filledB 7)] := by
  unfold listW
  rw [keysV_one (k := 5) ⟨by decide, by decide⟩ ch5]; rfl
/-- The second store: what it is after so many reads. -/
def T0 : SM := SM.new 2 1
def reads : List Nat := [1, 2, 1, 3, 1, 2]
def Tn (j : Nat) : SM := (reads.take j).foldl (fun S k => (S.read D1 k).2) T0
theorem tn_step (j k : Nat) (h : reads[j]? = some k) : Tn (j + 1) = ((Tn j).read D1 k).2 := by
  unfold Tn
  rw [List.take_add_one, h, List.foldl_append]; rfl
theorem tn_ok (j : Nat) : Ok (Tn j) D1 := by
  have h0 : Ok T0 D1 := Ok.new (by decide) (by decide) (ok7.dwf) (by decide)
  unfold Tn
  generalize reads.take j = l
  revert h0
  generalize T0 = T
  induction l generalizing T with
  | nil => exact fun h => h
  | cons a r ih => exact fun h => ih _ (h.read a)
theorem tn_end : (Tn 6).found = 2 ∧ (Tn 6).asked = 4 := by
  constructor <;> kernel_rfl
end Go.Proofs.Ytnhifnakgiddiaa
