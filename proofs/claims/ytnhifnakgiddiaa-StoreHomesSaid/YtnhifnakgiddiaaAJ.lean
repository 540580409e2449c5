/- The store's calls over its disk, all in one form ('SysRep', 'SysTo'), with what must hold of what they stand for ('Ok'). -/
import Derived.Test.YtnhifnakgiddiaaAI
namespace Go.Proofs.Ytnhifnakgiddiaa
open Go Go.RowKit Go.MapKept
open Go.ChangeMaps (setBlock heap_setBlock_same heap_setBlock_other)

structure Ok (S : SM) (D : AD) : Prop where
  wf : S.Wf
  keys : S.Keys
  dwf : D.Wf
  n : 0 < D.n ∧ D.n ≤ 4096
  pos : 0 < S.sh.length
  undk : ∀ n old, Und.wr n old ∈ S.us → InR n

theorem has_iff {D : AD} {k : Int} : D.has k = true ↔ 0 ≤ k ∧ k < D.n := by simp [AD.has]
theorem Ok.inR {S : SM} {D : AD} (h : Ok S D) {k : Int} (hk : D.has k = true) : InR k := by
  have := has_iff.1 hk; have := h.n; exact ⟨by omega, by omega⟩
theorem Ok.new {room : Int} {n : Nat} {D : AD} (h : 1 ≤ room ∧ room ≤ 256) (hn : 0 < n) (hD : D.Wf) (hDn : 0 < D.n ∧ D.n ≤ 4096) : Ok (SM.new room n) D :=
  ⟨SM.Wf.new h, ⟨fun k hk => absurd rfl hk, fun k hk => absurd rfl hk⟩, hD, hDn, by simpa [SM.new] using hn, fun _ _ h => by simp [SM.new] at h⟩

theorem shard_mem {S : SM} (h : 0 < S.sh.length) (k : Nat) : S.shard k ∈ S.sh := by
  unfold SM.shard
  rw [List.getD_eq_getElem?_getD, List.getElem?_eq_getElem (Nat.mod_lt _ h)]; exact List.getElem_mem _
theorem lookup_mem {l : List (Int × Bytes)} {k : Int} {b : Bytes} (h : l.lookup k = some b) : (k, b) ∈ l := by
  obtain ⟨l1, l2, h, _⟩ := List.lookup_eq_some_iff.1 h
  rw [h]; simp
theorem Ok.read {S : SM} {D : AD} (h : Ok S D) (k : Nat) : Ok (S.read D k).2 D := by
  have hit : Ok S.hit D := ⟨⟨h.wf.ch, h.wf.wt, h.wf.sh, h.wf.und, h.wf.len, h.wf.room⟩, ⟨h.keys.ch, h.keys.wt⟩, h.dwf, h.n, h.pos, h.undk⟩
  have miss : Ok S.miss D := ⟨⟨h.wf.ch, h.wf.wt, h.wf.sh, h.wf.und, h.wf.len, h.wf.room⟩, ⟨h.keys.ch, h.keys.wt⟩, h.dwf, h.n, h.pos, h.undk⟩
  have use : ∀ {T : SM} {b : Bytes}, Ok T D → b.length = 256 → Ok (T.use k b) D := fun {T b} hT hb => ⟨hT.wf.use k hb hT.pos, ⟨hT.keys.ch, hT.keys.wt⟩, hT.dwf, hT.n, by simpa [SM.use] using hT.pos, hT.undk⟩
  unfold SM.read
  split
  · exact hit
  · split
    · exact hit
    · split
      · rename_i b hq
        exact use hit (h.wf.sh _ (shard_mem h.pos k) _ (lookup_mem hq))
      · exact use miss (h.dwf.read k)
theorem read_length {S : SM} {D : AD} (h : Ok S D) (k : Nat) : (S.read D k).1.length = 256 := by
  unfold SM.read
  split
  · rename_i b hb; exact h.wf.ch _ _ hb
  · split
    · rename_i b hb; exact h.wf.wt _ _ hb
    · split
      · rename_i b hq; exact h.wf.sh _ (shard_mem h.pos k) _ (lookup_mem hq)
      · exact h.dwf.read k
theorem Ok.write {S : SM} {D : AD} (h : Ok S D) {k : Nat} (hk : D.has k = true) {b : Bytes} (hb : b.length = 256) : Ok (S.write k b) D := by
  have hr := h.inR hk
  refine ⟨⟨?_, h.wf.wt, ?_, ?_, ?_, h.wf.room⟩, ⟨?_, h.keys.wt⟩, h.dwf, h.n, by simpa [SM.write] using h.pos, ?_⟩
  · intro j l hj
    simp only [SM.write, bupd] at hj
    split at hj
    · cases hj; exact hb
    · exact h.wf.ch _ _ hj
  · intro l hl p hp
    rcases List.mem_or_eq_of_mem_set hl with hl | rfl
    · exact h.wf.sh _ hl _ hp
    · exact h.wf.sh _ (shard_mem h.pos k) _ (dropKey_sub _ _ hp)
  · intro n l hm
    simp only [SM.write, List.mem_append, List.mem_singleton] at hm
    rcases hm with hm | hm
    · exact h.wf.und _ _ hm
    · simp only [Und.wr.injEq] at hm; exact h.wf.ch _ _ hm.2.symm
  · intro l hl
    rcases List.mem_or_eq_of_mem_set hl with hl | rfl
    · exact h.wf.len _ hl
    · exact Nat.le_trans (dropKey_len _ _) (h.wf.len _ (shard_mem h.pos k))
  · intro j hj
    simp only [SM.write, bupd] at hj
    split at hj
    · rename_i e; rw [e]; exact hr
    · exact h.keys.ch _ hj
  · intro n old hm
    simp only [SM.write, List.mem_append, List.mem_singleton] at hm
    rcases hm with hm | hm
    · exact h.undk _ _ hm
    · simp only [Und.wr.injEq] at hm; rw [hm.1]; exact hr
theorem Ok.hold {S : SM} {D : AD} (h : Ok S D) (k : Int) : Ok (S.hold k) D := by
  refine ⟨⟨h.wf.ch, h.wf.wt, h.wf.sh, ?_, h.wf.len, h.wf.room⟩, ⟨h.keys.ch, h.keys.wt⟩, h.dwf, h.n, h.pos, ?_⟩
  · intro n l hm
    simp only [SM.hold, List.mem_append, List.mem_singleton] at hm
    rcases hm with hm | hm
    · exact h.wf.und _ _ hm
    · cases hm
  · intro n l hm
    simp only [SM.hold, List.mem_append, List.mem_singleton] at hm
    rcases hm with hm | hm
    · exact h.undk _ _ hm
    · cases hm
theorem mem_stale {us : List Und} {n : Int} {old : Option Bytes} (h : Und.wr n old ∈ us.map Und.stale) : Und.wr n old ∈ us := by
  obtain ⟨u, hu, he⟩ := List.mem_map.1 h
  cases u with
  | wr a b => rw [← he]; exact hu
  | hd a b c => cases he
theorem Ok.release {S : SM} {D : AD} (h : Ok S D) : Ok S.release D :=
  ⟨⟨h.wf.ch, h.wf.wt, h.wf.sh, fun n l hm => h.wf.und _ _ (mem_stale hm), h.wf.len, h.wf.room⟩, ⟨h.keys.ch, h.keys.wt⟩, h.dwf, h.n, h.pos, fun n l hm => h.undk _ _ (mem_stale hm)⟩
theorem undo_fold {S : SM} {D : AD} (h : Ok S D) : ∀ l : List Und, (∀ u ∈ l, u ∈ S.us) → Ok { l.foldr (fun u S => S.undo1 u) S with us := S.us } D ∧ (l.foldr (fun u S => S.undo1 u) S).us = S.us
  | [], _ => ⟨h, rfl⟩
  | u :: r, hl => by
    obtain ⟨ih, hus⟩ := undo_fold h r (fun v hv => hl v (List.mem_cons_of_mem _ hv))
    have hu := hl u (List.mem_cons_self ..)
    simp only [List.foldr_cons]
    revert ih hus
    generalize r.foldr (fun u S => S.undo1 u) S = T
    intro ih hus
    cases u with
    | hd live n was => exact ⟨⟨⟨ih.wf.ch, ih.wf.wt, ih.wf.sh, ih.wf.und, ih.wf.len, ih.wf.room⟩, ⟨ih.keys.ch, ih.keys.wt⟩, ih.dwf, ih.n, ih.pos, ih.undk⟩, hus⟩
    | wr n old =>
      refine ⟨⟨⟨?_, ih.wf.wt, ih.wf.sh, ih.wf.und, ih.wf.len, ih.wf.room⟩, ⟨?_, ih.keys.wt⟩, ih.dwf, ih.n, ih.pos, ih.undk⟩, hus⟩
      · intro j l hj
        cases old with
        | none =>
          simp only [SM.undo1, bdel] at hj
          split at hj
          · cases hj
          · exact ih.wf.ch _ _ hj
        | some b =>
          simp only [SM.undo1, bupd] at hj
          split at hj
          · cases hj; exact h.wf.und _ _ hu
          · exact ih.wf.ch _ _ hj
      · intro j hj
        cases old with
        | none =>
          simp only [SM.undo1, bdel] at hj
          split at hj
          · exact absurd rfl hj
          · exact ih.keys.ch _ hj
        | some b =>
          simp only [SM.undo1, bupd] at hj
          split at hj
          · rename_i e; rw [e]; exact h.undk _ _ hu
          · exact ih.keys.ch _ hj
theorem Ok.back {S : SM} {D : AD} (h : Ok S D) (m : Nat) : Ok (S.backTo m) D := by
  obtain ⟨h1, _⟩ := undo_fold h (S.us.drop m) (fun u hu => List.mem_of_mem_drop hu)
  exact ⟨⟨h1.wf.ch, h1.wf.wt, h1.wf.sh, fun n l hm => h.wf.und n l (List.mem_of_mem_take hm), h1.wf.len, h1.wf.room⟩, ⟨h1.keys.ch, h1.keys.wt⟩, h.dwf, h.n, h1.pos, fun n l hm => h.undk n l (List.mem_of_mem_take hm)⟩
theorem Ok.commit {S : SM} {D : AD} (h : Ok S D) : Ok S.commit D := by
  refine ⟨⟨fun _ _ h => (nomatch h), ?_, h.wf.sh, fun _ _ h => (nomatch h), h.wf.len, h.wf.room⟩, ⟨fun k hk => absurd rfl hk, ?_⟩, h.dwf, h.n, h.pos, fun _ _ h => (nomatch h)⟩
  · intro k l hk
    simp only [SM.commit, mergeF] at hk
    split at hk
    · rename_i b hb; cases hk; exact h.wf.ch _ _ hb
    · exact h.wf.wt _ _ hk
  · intro k hk
    simp only [SM.commit, mergeF] at hk
    split at hk
    · rename_i b hb; exact h.keys.ch _ (by rw [hb]; simp)
    · exact h.keys.wt _ hk
theorem Ok.home {S : SM} {D : AD} (h : Ok S D) {k : Nat} {b : Bytes} (hb : S.wt k = some b) : Ok (S.home k b) (D.write k b) := by
  have hbl := h.wf.wt _ _ hb
  have hu : Ok (S.unwait k) (D.write k b) := ⟨h.wf.unwait k, ⟨h.keys.ch, fun j hj => by
    simp only [SM.unwait, bdel] at hj
    split at hj
    · exact absurd rfl hj
    · exact h.keys.wt _ hj⟩, h.dwf.write k hbl, h.n, h.pos, h.undk⟩
  unfold SM.home
  split
  · exact ⟨hu.wf.use k hbl hu.pos, ⟨hu.keys.ch, hu.keys.wt⟩, hu.dwf, hu.n, by simpa [SM.use] using hu.pos, hu.undk⟩
  · exact hu

/-! ### the calls -/
section
variable {w : World} {s p : Nat} {S : SM} {D : AD} {F : Nat → Prop}

theorem sys_Read (h : SysRep w s p S D F) (ho : Ok S D) {k : Nat} (hk : D.has k = true) :
    Calls Try.prog 8 #[ptr s, .int .i64 (k : Int)] w fun e w' => ∃ v, e = .returned (.tuple #[v, .int .i64 0]) ∧ Blk w' v (S.read D k).1 ∧ SysTo w s p (S.read D k).2 D F w' := by
  obtain ⟨Fs, G, h1, h2, h3, h4⟩ := h
  refine (store_Read s p k S Fs D G w h1 h2 h3 ho.wf ho.dwf hk (by have := (ho.inR hk).2; omega)).mono ?_
  rintro e w' ⟨v, he, hb, hto⟩
  exact ⟨v, he, hb, SysTo.of_store h2 h3 h4 h1 hto⟩
theorem sys_Read_bad (h : SysRep w s p S D F) {k : Int} (hk : D.has k = false) : Calls Try.prog 8 #[ptr s, .int .i64 k] w fun e w' => e = .returned (.tuple #[.slice none 0 0, .int .i64 5]) ∧ w = w' := by
  obtain ⟨Fs, G, h1, h2, h3, h4⟩ := h
  exact store_Read_bad s p k S Fs D G w h1 h2 hk
theorem sys_Write (h : SysRep w s p S D F) (ho : Ok S D) {k : Nat} (hk : D.has k = true) {ad : Addr} {c : Nat} {b : Bytes} (hb : b.length = 256) (hat : AtB w ad b) (haty : ∃ cs, w.heap[ad.block]? = some (.cells cs 5 (0, 0))) (hus : S.us.length ≤ 1000000000) :
    Calls Try.prog 10 #[ptr s, .int .i64 (k : Int), .slice (some ad) 256 c] w fun e w' => e = .returned (.int .i64 0) ∧ SysTo w s p (S.write k b) D F w' := by
  obtain ⟨Fs, G, h1, h2, h3, h4⟩ := h
  refine (store_Write s p k ad c b S Fs D G w h1 h2 ho.wf hk (by have := (ho.inR hk).2; omega) hb hat haty hus).mono ?_
  rintro e w' ⟨he, hto⟩
  exact ⟨he, SysTo.of_store h2 h3 h4 h1 hto⟩
theorem sys_Write_bad (h : SysRep w s p S D F) {k : Int} (hk : D.has k = false) (ao : Option Addr) (n c : Nat) :
    Calls Try.prog 10 #[ptr s, .int .i64 k, .slice ao n c] w fun e w' => e = .returned (.int .i64 5) ∧ Below w.heap.size w w' := by
  obtain ⟨Fs, G, h1, h2, h3, h4⟩ := h
  exact store_Write_bad s p k ao n c S Fs D G w h1 h2 hk
theorem sys_Hold (h : SysRep w s p S D F) {k : Nat} (hk : D.has k = true) (hus : S.us.length ≤ 1000000000) :
    Calls Try.prog 12 #[ptr s, .int .i64 (k : Int)] w fun e w' => e = .returned (.int .i64 0) ∧ SysTo w s p (S.hold k) D F w' := by
  obtain ⟨Fs, G, h1, h2, h3, h4⟩ := h
  refine (store_Hold s p k S Fs D G w h1 h2 hk hus).mono ?_
  rintro e w' ⟨he, hto⟩
  exact ⟨he, SysTo.of_store h2 h3 h4 h1 hto⟩
theorem sys_Held (h : SysRep w s p S D F) (k : Int) : Calls Try.prog 15 #[ptr s, .int .i64 k] w fun e w' => e = .returned (.bool (D.has k && S.hd k)) ∧ w = w' := by
  obtain ⟨Fs, G, h1, h2, h3, h4⟩ := h
  exact store_Held s p k S Fs D G w h1 h2
theorem sys_Mark (h : SysRep w s p S D F) : Calls Try.prog 16 #[ptr s] w fun e w' => e = .returned (.int .i64 S.us.length) ∧ w = w' := by
  obtain ⟨Fs, G, h1, h2, h3, h4⟩ := h
  exact store_Mark s p S Fs w h1
theorem sys_Counts (h : SysRep w s p S D F) : Calls Try.prog 9 #[ptr s] w fun e w' => e = .returned (.tuple #[.int .i64 S.found, .int .i64 S.asked]) ∧ w.drew = w' := by
  obtain ⟨Fs, G, h1, h2, h3, h4⟩ := h
  exact store_Counts s p S Fs w h1
theorem sys_Back (h : SysRep w s p S D F) (ho : Ok S D) {m : Nat} (hm : m ≤ S.us.length) (hus : S.us.length ≤ 1000000000) :
    Calls Try.prog 13 #[ptr s, .int .i64 (m : Int)] w fun e w' => e = .returned (.int .i64 0) ∧ SysTo w s p (S.backTo m) D F w' := by
  obtain ⟨Fs, G, h1, h2, h3, h4⟩ := h
  refine (store_Back s p m S Fs D G w h1 h2 ho.n.1 hm hus).mono ?_
  rintro e w' ⟨he, hto⟩
  exact ⟨he, SysTo.of_store h2 h3 h4 h1 hto⟩
theorem sys_Commit (h : SysRep w s p S D F) (ho : Ok S D) :
    Calls Try.prog 18 #[ptr s] w fun e w' => ∃ v, e = .returned v ∧ NewWrites w.heap.size w' v (listW S.ch) ∧ ∃ F' : Nat → Prop, SysRep w' s p S.commit D F' ∧ Chg F w w' ∧ ∀ j, F' j → F j := by
  obtain ⟨Fs, G, h1, h2, h3, h4⟩ := h
  refine (store_Commit s p S Fs D G w h1 h2 ho.n.1 ho.wf ho.keys).mono ?_
  rintro e w' ⟨v, he, hl, F1, k1, k2, k3⟩
  exact ⟨v, he, hl, fun k => F1 k ∨ G k, ⟨F1, G, k1, h2.chg k2 h1.foot h3.symm, fun k a b => h3 k (k3 k a) b, fun _ => Iff.rfl⟩, k2.mono (fun k _ h => (h4 k).2 (.inl h)), fun j hj => (h4 j).2 (hj.imp (k3 j) id)⟩
theorem sys_Waiting (h : SysRep w s p S D F) (ho : Ok S D) :
    Calls Try.prog 19 #[ptr s] w fun e w' => ∃ v, e = .returned v ∧ NewWrites w.heap.size w' v (listW S.wt) ∧ Below w.heap.size w w' := by
  obtain ⟨Fs, G, h1, h2, h3, h4⟩ := h
  exact store_Waiting s p S Fs w h1 ho.wf ho.keys
theorem sys_Changed (h : SysRep w s p S D F) (ho : Ok S D) :
    Calls Try.prog 17 #[ptr s] w fun e w' => ∃ v, e = .returned v ∧ IRow w' v (keysV S.ch) ∧ Below w.heap.size w w' := by
  obtain ⟨Fs, G, h1, h2, h3, h4⟩ := h
  exact store_Changed s p S Fs w h1 ho.keys.ch
theorem sys_Release (h : SysRep w s p S D F) (ho : Ok S D) : Calls Try.prog 7 #[ptr s] w fun e w' => e = .returned (.tuple #[]) ∧ SysTo w s p S.release D F w' := by
  obtain ⟨Fs, G, h1, h2, h3, h4⟩ := h
  refine (store_Release s p S Fs D G w h1 h2 ho.n.1).mono ?_
  rintro e w' ⟨he, hto⟩
  exact ⟨he, SysTo.of_store h2 h3 h4 h1 hto⟩
theorem sys_Home (h : SysRep w s p S D F) (ho : Ok S D) {k : Nat} {b : Bytes} (hk : D.has k = true) (hb : S.wt k = some b) (hpn : D.pend.length ≤ 1000000000) :
    Calls Try.prog 14 #[ptr s, .int .i64 (k : Int)] w fun e w' => e = .returned (.int .i64 0) ∧ SysTo w s p (S.home k b) (D.write k b) F w' :=
  store_Home s p k b S D F w h ho.wf hk (by have := (ho.inR hk).2; omega) hb hpn
theorem sys_Home_bad (h : SysRep w s p S D F) {k : Int} (hk : D.has k = false ∨ S.wt k = none) :
    Calls Try.prog 14 #[ptr s, .int .i64 k] w fun e w' => e = .returned (.int .i64 22) ∧ w = w' := by
  obtain ⟨Fs, G, h1, h2, h3, h4⟩ := h
  exact store_Home_bad s p k S Fs D G w h1 h2 hk
end
end Go.Proofs.Ytnhifnakgiddiaa
