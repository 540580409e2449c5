/- The store's New. -/
import Derived.Test.YtnhifnakgiddiaaAA
namespace Go.Proofs.Ytnhifnakgiddiaa
open Go Go.RowKit Go.MapKept
open Go.ChangeMaps (setBlock heap_setBlock_same heap_setBlock_other)

set_option maxRecDepth 100000 in
set_option maxHeartbeats 1000000 in
theorem store_New_bad (p : Nat) (sh rm : Int) (D : AD) (G : Nat → Prop) (w : World) (hD : DiskRep w p D G) (hbad : D.n = 0 ∨ sh < 1 ∨ 16 < sh ∨ rm < 1 ∨ 256 < rm) :
    Calls Try.prog 22 #[.pointer (some ⟨p, 0, none⟩), .int .i64 sh, .int .i64 rm] w fun e w' => e = .returned (.tuple #[.pointer none, .int .i64 22]) ∧ w = w' := by
  have hb := disk_Blocks p D G w hD
  have HB := Lib.hid hb
  clear hb hD
  have h : (D.n = 0) ∨ ((D.n == 0) = false ∧ ((decide (sh < 1) = true) ∨ (decide (sh < 1) = false ∧ ((decide (sh > 16) = true) ∨ (decide (sh > 16) = false ∧ ((decide (rm < 1) = true) ∨ (decide (rm < 1) = false ∧ decide (rm > 256) = true))))))) := by
    simp only [decide_eq_true_eq, decide_eq_false_iff_not, beq_eq_false_iff_ne, ne_eq]; omega
  clear hbad
  go_enter Try.func22, Try.ntmps22
  rcases h with h | ⟨h1, h | ⟨h2, h | ⟨h3, h | ⟨h4, h⟩⟩⟩⟩
  · go_wp2_with (go_at_call 46; refine HB.out.mono ?_; rintro e w' ⟨rfl, rfl⟩)
    go_ret2
    exact ⟨rfl, rfl⟩
  · go_wp2_with (go_at_call 46; refine HB.out.mono ?_; rintro e w' ⟨rfl, rfl⟩)
    go_ret2
    exact ⟨rfl, rfl⟩
  · go_wp2_with (go_at_call 46; refine HB.out.mono ?_; rintro e w' ⟨rfl, rfl⟩)
    go_ret2
    exact ⟨rfl, rfl⟩
  · go_wp2_with (go_at_call 46; refine HB.out.mono ?_; rintro e w' ⟨rfl, rfl⟩)
    go_ret2
    exact ⟨rfl, rfl⟩
  · go_wp2_with (go_at_call 46; refine HB.out.mono ?_; rintro e w' ⟨rfl, rfl⟩)
    go_ret2
    exact ⟨rfl, rfl⟩

def SM.new (room : Int) (n : Nat) : SM := { room, ch := fun _ => none, wt := fun _ => none, hd := fun _ => false, us := [], sh := List.replicate n [], found := 0, asked := 0 }
theorem SM.Wf.new {room : Int} {n : Nat} (h : 1 ≤ room ∧ room ≤ 256) : (SM.new room n).Wf := ⟨fun _ _ h => (nomatch h), fun _ _ h => (nomatch h), fun l hl p hp => (by rw [List.eq_of_mem_replicate hl] at hp; cases hp), fun _ _ h => (nomatch h), fun l hl => (by rw [List.eq_of_mem_replicate hl]; simp), h⟩

def flatSh (ms : List Nat) : List Value := ms.flatMap fun m => [.slice none 0 0, .map (some m)]
theorem flatSh_length (ms : List Nat) : (flatSh ms).length = ms.length * 2 := by induction ms with
  | nil => rfl
  | cons a r ih => simp [flatSh] at ih ⊢; omega
theorem flatSh_append (a b : List Nat) : flatSh (a ++ b) = flatSh a ++ flatSh b := by simp [flatSh]
theorem flatSh_get (ms : List Nat) (i m : Nat) (h : ms[i]? = some m) : (flatSh ms)[2 * i]? = some (.slice none 0 0) ∧ (flatSh ms)[2 * i + 1]? = some (.map (some m)) := by
  induction ms generalizing i with
  | nil => simp at h
  | cons a r ih =>
    cases i with
    | zero => simp at h; subst h; simp [flatSh]
    | succ i =>
      have := ih i (by simpa using h)
      have e : flatSh (a :: r) = .slice none 0 0 :: .map (some a) :: flatSh r := by simp [flatSh]
      rw [e, show 2 * (i + 1) = 2 * i + 1 + 1 by omega]
      simpa using this

theorem infoS : (Try.prog.info? 79).map (fun i => (i.zero, i.size, i.bytes)) = some (some (.agg #[.slice none 0 0, .map none]), 2, 32) := by kernel_rfl

/-- New, in its loop. -/
structure NewAt (w : World) (p : Nat) (room : Int) (wr : World) (sv : Value) (ms : List Nat) : Prop where
  head : wr.heap[w.heap.size + 3]? = some (.cells #[ptr p, .int .i64 room, .map (some w.heap.size), .map (some (w.heap.size + 1)), .map (some (w.heap.size + 2)), .slice none 0 0, sv, .int .i64 0, .int .i64 0] 30 (0, 0))
  row : wr.ownsRow (w.heap.size + 4) 79 2 sv ms.length (flatSh ms)
  m0 : MapIs wr w.heap.size mempty
  m1 : MapIs wr (w.heap.size + 1) mempty
  m2 : MapIs wr (w.heap.size + 2) mempty
  maps : ∀ m ∈ ms, w.heap.size + 4 ≤ m ∧ MapIs wr m mempty
  nodup : ms.Nodup
  below : Below w.heap.size w wr
  size : w.heap.size + 4 ≤ wr.heap.size

theorem NewAt.start (w : World) (p : Nat) (room : Int) : NewAt w p room ((((w.alloc (.map #[] 0)).alloc (.map #[] 0)).alloc (.map #[] 0)).alloc (.cells #[ptr p, .int .i64 room, .map (some w.heap.size), .map (some (w.heap.size + 1)), .map (some (w.heap.size + 2)), .slice none 0 0, .slice none 0 0, .int .i64 0, .int .i64 0] 30)) (.slice none 0 0) [] := by
  have k0 := MapIs.made w
  have k1 := MapIs.made (w.alloc (.map #[] 0))
  have k2 := MapIs.made ((w.alloc (.map #[] 0)).alloc (.map #[] 0))
  have k3 := blk_new (((w.alloc (.map #[] 0)).alloc (.map #[] 0)).alloc (.map #[] 0)) (.cells #[ptr p, .int .i64 room, .map (some w.heap.size), .map (some (w.heap.size + 1)), .map (some (w.heap.size + 2)), .slice none 0 0, .slice none 0 0, .int .i64 0, .int .i64 0] 30)
  simp only [World.size_alloc] at k1 k2 k3
  refine ⟨k3, World.ownsRow_nil _ _ _ _, ?_, ?_, ?_, fun _ h => (nomatch h), List.nodup_nil, ?_, by simp⟩
  · exact k0.keep ((Below.heap_alloc _ _ _ (by simp; omega)).trans ((Below.heap_alloc _ _ _ (by simp; omega)).trans (Below.heap_alloc _ _ _ (by simp))))
  · exact k1.keep ((Below.heap_alloc _ _ _ (by simp)).trans (Below.heap_alloc _ _ _ (by simp)))
  · exact k2.keep (Below.heap_alloc _ _ _ (by simp))
  · exact ((((Below.refl _ w).alloc (Nat.le_refl _) _).alloc (by simp) _).alloc (by simp; omega) _).alloc (by simp; omega) _

theorem NewAt.more {w wr w1 : World} {p : Nat} {room : Int} {sv sv' : Value} {ms : List Nat} (h : NewAt w p room wr sv ms)
    (ho : w1.ownsRow (w.heap.size + 4) 79 2 sv' (ms.length + 1) (flatSh ms ++ [.slice none 0 0, .map (some wr.heap.size)]))
    (hg : ((wr.alloc (.map #[] 0)).alloc (.cells #[.slice none 0 0, .map (some wr.heap.size)] 79)).grownBy w1 sv.ownBlock) :
    NewAt w p room (w1.setCell ⟨w.heap.size + 3, 6, none⟩ sv') sv' (ms ++ [wr.heap.size]) := by
  have hsz := h.size
  have hrow : ∀ x, sv.ownBlock = some x → w.heap.size + 4 ≤ x ∧ ∃ cs, wr.heap[x]? = some (.cells cs 79 (0, 0)) := fun x hx => by
    obtain ⟨_, hr⟩ := h.row
    rcases hr with ⟨h1, _⟩ | ⟨g, cap, cur, h1, h2, hgb, _⟩
    · rw [h1] at hx; cases hx
    · rw [h1] at hx; cases hx; exact ⟨h2, _, hgb⟩
  have fin : ∀ (x : Nat) (o : Obj), wr.heap[x]? = some o → sv.ownBlock ≠ some x → x ≠ w.heap.size + 3 → (w1.setCell ⟨w.heap.size + 3, 6, none⟩ sv').heap[x]? = some o := fun x o hx h1 h2 =>
    blk_far (blk_grown (blk_alloc (blk_alloc hx _) _) hg (fun e => h1 e.symm)) (p := ⟨w.heap.size + 3, 6, none⟩) h2 _
  have finm : ∀ (x : Nat) (f : Int → Option Value), MapIs wr x f → x ≠ w.heap.size + 3 → MapIs (w1.setCell ⟨w.heap.size + 3, 6, none⟩ sv') x f := fun x f hx h2 => by
    obtain ⟨es, c, hb, hm⟩ := hx
    exact ⟨es, c, fin x _ hb (fun e => by obtain ⟨_, cs, h3⟩ := hrow x e; rw [hb] at h3; cases h3) h2, hm⟩
  have hhd : w1.heap[w.heap.size + 3]? = _ := blk_grown (blk_alloc (blk_alloc h.head _) _) hg (fun e => by have := (hrow _ e.symm).1; omega)
  have hnm : MapIs (w1.setCell ⟨w.heap.size + 3, 6, none⟩ sv') wr.heap.size mempty := by
    obtain ⟨es, c, hb, hm⟩ := MapIs.made wr
    exact ⟨es, c, blk_far (blk_grown (blk_alloc hb _) hg (fun e => by obtain ⟨_, cs, h3⟩ := hrow _ e.symm; have := blk_lt h3; omega)) (p := ⟨w.heap.size + 3, 6, none⟩) (by show wr.heap.size ≠ w.heap.size + 3; omega) _, hm⟩
  refine ⟨by rw [blk_set hhd]; rfl, ?_, finm _ _ h.m0 (by omega), finm _ _ h.m1 (by omega), finm _ _ h.m2 (by omega), ?_, ?_, ?_, ?_⟩
  · have e : flatSh (ms ++ [wr.heap.size]) = flatSh ms ++ [.slice none 0 0, .map (some wr.heap.size)] := by rw [flatSh_append]; rfl
    rw [e, List.length_append]
    refine own_keep ho fun x hx => Below.heap_setCell w1 _ _ x (fun e => ?_)
    obtain ⟨_, hr⟩ := ho
    rcases hr with ⟨h1, _⟩ | ⟨g, cap, cur, h1, h2, hgb, _⟩
    · rw [h1] at hx; cases hx
    · rw [h1] at hx; cases hx
      have e' : g = w.heap.size + 3 := e
      omega
  · intro m hm
    rcases List.mem_append.1 hm with hm | hm
    · obtain ⟨a, b⟩ := h.maps m hm
      exact ⟨a, finm _ _ b (by omega)⟩
    · rw [List.mem_singleton.1 hm]; exact ⟨hsz, hnm⟩
  · rw [List.nodup_append]
    refine ⟨h.nodup, by simp, fun a ha b hb => ?_⟩
    rw [List.mem_singleton.1 hb]
    have := (h.maps a ha).2.lt
    omega
  · refine (h.below.trans ?_).setCell (p := ⟨w.heap.size + 3, 6, none⟩) (by show w.heap.size ≤ w.heap.size + 3; omega) _
    have b2 : Below w.heap.size wr ((wr.alloc (.map #[] 0)).alloc (.cells #[.slice none 0 0, .map (some wr.heap.size)] 79)) := ((Below.refl _ wr).alloc (by omega) _).alloc (by simp; omega) _
    exact b2.grown hg (by simp; omega) (fun k hk => by have := (hrow k hk).1; omega)
  · have := hg.size; simp at this ⊢; omega

theorem NewAt.rep {w wr : World} {p : Nat} {room : Int} {sv : Value} {ms : List Nat} (h : NewAt w p room wr sv ms) (h1 : 1 ≤ ms.length ∧ ms.length ≤ 16) {D : AD} {G : Nat → Prop} (hD : DiskRep w p D G) :
    ∃ F, SysRep wr (w.heap.size + 3) p (SM.new room ms.length) D F ∧ ∀ j, F j → G j ∨ w.heap.size ≤ j := by
  have hsz := h.size
  have hMB : ∀ m, MapIs wr m mempty → MapB wr m (fun _ => none) := fun m hm => ⟨_, hm, OMap.empty _⟩
  obtain ⟨hrl, hr⟩ := h.row
  rcases hr with ⟨e, h0⟩ | ⟨gs, cap, cur, e, hb, hgb, hle, hmx, hcs, htk⟩
  · omega
  have hA : StAt wr (w.heap.size + 3) p (SM.new room ms.length) ⟨w.heap.size, w.heap.size + 1, w.heap.size + 2, .slice none 0 0, sv, ms.map (fun m => (m, .slice none 0 0)), fun _ => False, fun _ => False⟩ := by
    refine ⟨h.head, hMB _ h.m0, hMB _ h.m1, ?_, ⟨[], World.ownsRow_nil _ _ _ _, fun i u hi => by simp [SM.new] at hi⟩, ?_, fun _ hk => hk.elim, fun _ hk => hk.elim, ?_⟩
    · have : heldV (SM.new room ms.length).hd = mempty := by funext x; simp [heldV, SM.new, mempty]
      rw [this]; exact h.m2
    · refine ⟨gs, cap, cur, by simpa [SM.new] using e, by simpa [SM.new] using hle, hgb, by simp [SM.new], by simp [SM.new]; omega, by simp [SM.new]; omega, ?_⟩
      intro i l q hi hq
      have hl : l = [] := by
        have := List.mem_of_getElem? hi
        exact List.eq_of_mem_replicate this
      subst hl
      rw [List.getElem?_map] at hq
      obtain ⟨m, hm, rfl⟩ := Option.map_eq_some_iff.1 hq
      obtain ⟨f1, f2⟩ := flatSh_get ms i m hm
      have hil := (List.getElem?_eq_some_iff.1 hm).1
      have cg : ∀ (j : Nat) v, (flatSh ms)[j]? = some v → cur[j]? = some v := fun j v hj => by
        rw [← htk, List.getElem?_take] at hj
        split at hj
        · simpa using hj
        · cases hj
      exact ⟨cg _ _ f1, cg _ _ f2, World.ownsRow_nil _ _ _ _, hMB _ (h.maps m (List.mem_of_getElem? hm)).2⟩
    · have hmm : (ms.map (fun m => (m, Value.slice none 0 0))).map (·.1) = ms := by simp [Function.comp_def]
      refine ⟨?_, ?_, fun _ _ _ _ hk => hk.elim, fun _ hk => hk.elim⟩
      · simp only [hmm, List.nodup_cons, List.mem_cons, not_or]
        exact ⟨⟨by omega, by omega, fun hx => by have := (h.maps _ hx).1; omega⟩, ⟨by omega, fun hx => by have := (h.maps _ hx).1; omega⟩, fun hx => by have := (h.maps _ hx).1; omega, h.nodup⟩
      · intro i j a b ha hb hij k hk
        simp only [List.getElem?_map] at ha
        obtain ⟨m, hm, rfl⟩ := Option.map_eq_some_iff.1 ha
        cases hk
  have hfp : ∀ j, fp ⟨w.heap.size, w.heap.size + 1, w.heap.size + 2, .slice none 0 0, sv, ms.map (fun m => (m, .slice none 0 0)), fun _ => False, fun _ => False⟩ (w.heap.size + 3) j → w.heap.size ≤ j := by
    rintro j (e1 | e1 | e1 | e1 | e1 | e1 | ⟨q, hq, e1⟩ | e1 | e1)
    · omega
    · have e2 : j = w.heap.size := e1; omega
    · have e2 : j = w.heap.size + 1 := e1; omega
    · have e2 : j = w.heap.size + 2 := e1; omega
    · cases e1
    · have e2 : sv.ownBlock = some j := e1
      rw [e] at e2
      have e4 : some gs = some j := e2
      injection e4 with e4
      omega
    · obtain ⟨m, hm, rfl⟩ := List.mem_map.1 hq
      rcases e1 with e1 | e1
      · have := (h.maps m hm).1; have e2 : m = j := e1; omega
      · cases e1
    · exact e1.elim
    · exact e1.elim
  refine ⟨fun j => fp _ _ j ∨ G j, ⟨_, G, ⟨_, hA, fun _ => Iff.rfl⟩, hD.below h.below, fun k a b => ?_, fun _ => Iff.rfl⟩, ?_⟩
  · have := hfp k a; have := (hD.2 k b).1; omega
  · rintro j (a | a)
    · exact .inr (hfp j a)
    · exact .inl a

set_option maxRecDepth 100000 in
set_option maxHeartbeats 4000000 in
theorem store_New (p n rm : Nat) (D : AD) (G : Nat → Prop) (w : World) (hD : DiskRep w p D G) (hn : D.n ≠ 0) (h1 : 1 ≤ n ∧ n ≤ 16) (h2 : 1 ≤ rm ∧ rm ≤ 256) :
    Calls Try.prog 22 #[.pointer (some ⟨p, 0, none⟩), .int .i64 (n : Int), .int .i64 (rm : Int)] w fun e w' => ∃ s F, e = .returned (.tuple #[ptr s, .int .i64 0]) ∧ SysRep w' s p (SM.new rm n) D F ∧ Below w.heap.size w w' ∧ ∀ j, F j → G j ∨ w.heap.size ≤ j := by
  have hb := disk_Blocks p D G w hD
  have HB := Lib.hid (And.intro hb hD)
  clear hb hD
  have e1 : (D.n == 0) = false := by simpa using hn
  have e2 : decide ((n : Int) < 1) = false := by simp; omega
  have e3 : decide ((n : Int) > 16) = false := by simp; omega
  have e4 : decide ((rm : Int) < 1) = false := by simp; omega
  have e5 : decide ((rm : Int) > 256) = false := by simp; omega
  have hmm := @run_makeMap Try.prog
  obtain ⟨i0, hi, hz0, hz1, hz2⟩ := info_parts infoS
  have Hi := Lib.hid (And.intro hi (And.intro hz0 (And.intro hz1 hz2))); clear hi hz0 hz1 hz2
  go_enter Try.func22, Try.ntmps22
  go_wp2_with (go_at_call 46; refine HB.out.1.mono ?_; rintro e w' ⟨rfl, rfl⟩)
  go_loopg [36] n (fun k i wr => ∃ (ms : List Nat) (sv : Value), k = n - ms.length ∧ ms.length ≤ n ∧ i = .int .i64 ms.length ∧ NewAt w p rm wr sv ms)
  case atStart => exact ⟨[], _, rfl, Nat.zero_le _, rfl, NewAt.start w p rm⟩
  case round =>
    obtain ⟨ms, sv, hk, hle, rfl, hNA⟩ := hrel
    have HN := Lib.hid hNA; clear hNA
    by_cases hlt : ms.length < n
    · obtain ⟨A, cc, hsv⟩ := own_slice HN.out.row
      subst hsv
      have c6 : wr.cell? ⟨w.heap.size + 1 + 1 + 1, 6, none⟩ = some (.slice A ms.length cc) := by
        have := blk_cell HN.out.head 6
        exact this.trans rfl
      have hlt' : (ms.length : Int) < (n : Int) := by omega
      have hb4 := HN.out.size
      go_wp2_with (at_builtin; refine wpList_append_own_at _ rfl _ _ 28 rfl (w.heap.size + 4) 79 i0 (.agg #[.slice none 0 0, .map none]) 2 32 Try.underlying28 Hi.out.1 Hi.out.2.1 Hi.out.2.2.1 Hi.out.2.2.2 rfl (by decide) (.slice A ms.length cc) ms.length (flatSh ms) rfl ((HN.out.row.alloc _).alloc _) ⟨wr.heap.size + 1, 0, none⟩ 1 1 [.slice none 0 0, .map (some wr.heap.size)] rfl rfl ?c1 ?c2 ?c3 ?c4 ?c5 ?_)
      case c1 =>
        intro j u hj
        have hnb := blk_new (wr.alloc (.map #[] 0)) (.cells #[.slice none 0 0, .map (some wr.heap.size)] 79)
        rw [World.size_alloc] at hnb
        have e : (⟨wr.heap.size + 1, 0, none⟩ : Addr).add j = ⟨wr.heap.size + 1, j, none⟩ := by unfold Addr.add; split <;> simp_all
        rw [e, blk_cell hnb]
        simpa using hj
      case c2 => intro u hu; simp at hu; rcases hu with rfl | rfl <;> rfl
      case c3 => unfold maxLen; omega
      case c4 => omega
      case c5 => simp; omega
      intro sv' w1 hown hgrow _ hat
      obtain ⟨A1, c1, hv1⟩ := own_slice hown
      subst hv1
      have hm := HN.out.more hown hgrow
      have hso : ∀ x, (Value.slice A ms.length cc).ownBlock = some x → w.heap.size + 4 ≤ x := fun x hx => by
        obtain ⟨_, hr⟩ := HN.out.row
        rcases hr with ⟨h1, _⟩ | ⟨g, cap, cur, h1, h2, hgb, _⟩
        · rw [h1] at hx; cases hx
        · rw [h1] at hx; cases hx; exact h2
      have hb6 : w1.heap[w.heap.size + 3]? = _ := blk_grown (blk_alloc (blk_alloc HN.out.head _) _) hgrow (fun e => by have := hso _ e.symm; omega)
      have d6 : w1.cell? ⟨w.heap.size + 1 + 1 + 1, 6, none⟩ = some (.slice A ms.length cc) := (blk_cell hb6 6).trans rfl
      have f6 : w1.frozen? ⟨w.heap.size + 1 + 1 + 1, 6, none⟩ = false := blk_frozen hb6 6
      have HM := Lib.hid hm
      clear hm hb6 hso hown hgrow hat
      go_wp2
      go_roundg (n - (ms.length + 1))
      case measure => omega
      case rel => exact ⟨ms ++ [wr.heap.size], .slice A1 (ms.length + 1) c1, by simp, by simp; omega, by simp, HM.out⟩
    · have hmn : ms.length = n := by omega
      subst hmn
      go_wp2
      go_ret2
      obtain ⟨F, h1, h2⟩ := HN.out.rep h1 HB.out.2
      exact ⟨_, F, rfl, h1, HN.out.below, h2⟩
end Go.Proofs.Ytnhifnakgiddiaa
