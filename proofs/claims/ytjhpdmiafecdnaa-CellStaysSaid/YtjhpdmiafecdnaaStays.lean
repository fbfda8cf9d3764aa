/-
  CellStays, the walk: it returns true at whatever text, acts and flag; nothing is asked ahead of it but that the acts lie in memory.
-/
import Derived.Test.YtjhpdmiafecdnaaDoes
import Derived.Test.YtjhpdmiafecdnaaAwake
import Derived.Test.YtjhpdmiafecdnaaLen
namespace Go.Proofs.Cob
open Go Go.RowKit Go.Cob
set_option linter.unusedSimpArgs false
set_option linter.unusedVariables false

abbrev k99 : Key := ⟨99, 0, 0, ⟨#[]⟩⟩
abbrev S1 : List (Key × Cl) := [(k99, ⟨0, 0, lockZ (absentZ 0 true), ⟨#[]⟩, 5⟩)]
abbrev S2 (t : ByteArray) : List (Key × Cl) := [(k99, ⟨0, 0, 9, t, 5⟩)]
abbrev S3 (t : ByteArray) : List (Key × Cl) := [(k99, ⟨0, 0, lockZ 9, t, 5⟩)]
abbrev S4 : List (Key × Cl) := [(k99, ⟨0, 0, absentZ 10 true, ⟨#[]⟩, 5⟩)]
abbrev A60 : ArenaSt := ⟨60, 1, [], [(0, true)], []⟩
theorem st1 : lockM ⟨60, 0, [], [], []⟩ [] k99 5 = ((0, 0), A60, S1) := by kernel_rfl
theorem st2 (t : ByteArray) : installM S1 k99 5 9 t true = (0, S2 t) := by
  have h1 : holdsM S1 k99 5 = true := by kernel_rfl
  have h2 : badM 9 (lockZ (absentZ 0 true)) t true = false := by
    unfold badM
    rw [show ((9 : Int) != stampZ 9) = false from by kernel_rfl, show decide ((9 : Int) ≤ stampZ (lockZ (absentZ 0 true))) = false from by kernel_rfl]
    simp
  unfold installM
  rw [h1, if_pos rfl]
  show (if badM 9 (lockZ (absentZ 0 true)) t true then _ else _) = _
  rw [h2]
  rfl
theorem st3 (t : ByteArray) : readM (S2 t) k99 = (seenV 9 t true, 0) := by kernel_rfl
theorem st4 (t : ByteArray) : lockM A60 (S2 t) k99 5 = ((9, 0), A60, S3 t) := by kernel_rfl
theorem st5 (t : ByteArray) (who : Int) : lockM A60 (S3 t) k99 who = ((0, 60), A60, S3 t) := by kernel_rfl
theorem st6 (t : ByteArray) (who : Int) (h : who ≠ 5) : holdsM (S3 t) k99 who = false := by
  have : holdsM (S3 t) k99 who = (true && ((5 : Int) == who)) := by kernel_rfl
  rw [this]
  simpa using fun e => h e.symm
theorem st7 (t : ByteArray) : freeM A60 (S3 t) [k99] = (0, A60, S3 t) := by kernel_rfl
theorem st8 (t : ByteArray) : stillM (S3 t) k99 5 9 true = true := by kernel_rfl
theorem st9 (t : ByteArray) : stillM (S3 t) k99 6 9 true = false := by kernel_rfl
theorem st10 (t : ByteArray) : installM (S3 t) k99 5 10 ⟨#[]⟩ false = (0, S4) := by kernel_rfl
theorem st11 : readM S4 k99 = (seenV 10 ⟨#[]⟩ false, 0) := by kernel_rfl
theorem st12 : stillM S4 k99 5 9 true = false := by kernel_rfl
theorem st13 : stillM S4 k99 6 10 false = true := by kernel_rfl
theorem st14 : stillM S4 k99 6 8 false = false := by kernel_rfl
theorem st15 : freeM A60 S4 [k99] = (1, freedA A60 0, []) := by kernel_rfl
theorem st16 (t : ByteArray) : unlM A60 (S3 t) 5 [k99] = (0, A60, S2 t) := by kernel_rfl
theorem st17 (t : ByteArray) : stillM (S2 t) k99 6 9 true = true := by kernel_rfl
theorem st18 (t : ByteArray) : freeM A60 (S2 t) [k99] = (0, A60, S2 t) := by kernel_rfl
theorem st19 (t : ByteArray) (who : Int) (h : who ≠ 5) : unlM A60 (S3 t) who [k99] = (51, A60, S3 t) := by
  unfold unlM
  have : okU (S3 t) who [] [k99] = false := by simp [okU, st6 t who h]
  rw [this]; rfl
theorem st20 (t : ByteArray) (who stamp : Int) (vs : ByteArray) (has : Bool) (h : who ≠ 5) : installM (S3 t) k99 who stamp vs has = (51, S3 t) := by
  unfold installM
  rw [st6 t who h]; rfl
theorem st21 (t : ByteArray) : (S3 t).map conv = [⟨k99, 9, true, t, true, 5⟩] := by kernel_rfl
theorem st22 (t : ByteArray) : WordsOk (S3 t) := by
  intro p hp
  have : p = (k99, ⟨0, 0, lockZ 9, t, 5⟩) := by simpa using hp
  subst this
  exact ⟨9, false, true, by decide, by kernel_rfl⟩
theorem st23 (t : ByteArray) : InvA A60 (S3 t) := by
  refine ⟨rfl, by simp, fun p hp => ?_, by simp, by simp, by simp, fun s b h => ?_, by simp⟩
  · have : p = (k99, ⟨0, 0, lockZ 9, t, 5⟩) := by simpa using hp
    subst this
    exact ⟨rfl, rfl⟩
  · simp only [aget_cons] at h
    split at h
    · rename_i h1; rw [← h1]; decide
    · cases h

theorem lock_n (I : Ids) (A : ArenaSt) (L : List (Key × Cl)) (F : Nat → Prop) (k : Key) (who : Int) (w : World) (h : StN w I A L F) (hF : ∀ b, w.heap.size ≤ b → F b) :
    Calls Try.prog 25 #[.pointer (some ⟨I.s, 0, none⟩), keyV k, .int .i64 who] w fun e w' =>
      e = .returned (.tuple #[.int .u64 (lockM A L k who).1.1, .int .i64 (lockM A L k who).1.2]) ∧ ∃ p : Ch F w, w' = p.w ∧ StN p.w I (lockM A L k who).2.1 (lockM A L k who).2.2 F := by
  refine (lock_m I A L F k who w h.st hF).mono ?_
  rintro e w' ⟨rfl, p, rfl, hS'⟩
  refine ⟨rfl, p, rfl, hS', ?_⟩
  unfold lockM
  cases aget L k with
  | some z => simp only; split <;> exact h.fl
  | none =>
    simp only
    cases ht : takeA A with
    | none => exact h.fl
    | some sa => exact take_fl (s := sa.1) (A' := sa.2) ht h.fl
theorem install_n (I : Ids) (A : ArenaSt) (L : List (Key × Cl)) (F : Nat → Prop) (k : Key) (who stamp vw : Int) (vs : ByteArray) (has : Bool) (w : World) (h : StN w I A L F) :
    Calls Try.prog 26 #[.pointer (some ⟨I.s, 0, none⟩), keyV k, .int .i64 who, .int .u64 stamp, seenV vw vs has] w fun e w' =>
      e = .returned (.int .i64 (installM L k who stamp vs has).1) ∧ ∃ p : Ch F w, w' = p.w ∧ StN p.w I A (installM L k who stamp vs has).2 F := by
  refine (install_m I A L F k who stamp vw vs has w h.st).mono ?_
  rintro e w' ⟨rfl, p, rfl, hS'⟩
  exact ⟨rfl, p, rfl, hS', h.fl⟩
theorem cellNew_n (room : Int) (w : World) (h0 : 0 ≤ room) (h1 : room ≤ 1048576) :
    Calls Try.prog 24 #[.int .i64 room] w fun e w' => ∃ I : Ids, e = .returned (.tuple #[.pointer (some ⟨I.s, 0, none⟩), .int .i64 0]) ∧ ∃ p : Ext w, w' = p.w ∧
      StN p.w I ⟨room, 0, [], [], []⟩ [] (fun b => w.heap.size ≤ b) := by
  refine (cellNew_m room w h0 h1).mono ?_
  rintro e w' ⟨I, rfl, p, rfl, hS⟩
  exact ⟨I, rfl, p, rfl, hS, by simp⟩
theorem StN.box {w0 W : World} {bs : List Box} {I : Ids} {A : ArenaSt} {L : List (Key × Cl)} (h : StN W I A L (Wide w0 bs)) (c : Array Value) (t : TypeId) : StN (W.alloc (.cells c t)) I A L (Wide w0 ((W.heap.size, t, c) :: bs)) := ⟨h.st.box c t, h.fl⟩

theorem ActsIn.get {w : World} {fa : Option Addr} {xs : List Act} (h : ActsIn w fa xs) {i : Nat} (hi : i < xs.length) : ∃ x, xs[i]? = some x ∧ ∃ b off, fa = some ⟨b, off, none⟩ ∧ ActCell w b (off + i * 11) x ∧ ActOk w x := by
  rcases h with rfl | ⟨b, off, rfl, h⟩
  · simp at hi
  · exact ⟨xs[i], List.getElem?_eq_getElem hi, b, off, rfl, h i _ (List.getElem?_eq_getElem hi)⟩
/-- A box turns. -/
theorem Scene.setB {w0 W : World} {n i : Nat} {t : TypeId} {c : Array Value} {v : Value} {bs : List Box} (h : Scene w0 W ((n, t, c) :: bs)) (ht : ∀ x ∈ bs, x.2.1 ≠ t) : Scene w0 (W.setCell ⟨n, i, none⟩ v) ((n, t, c.setIfInBounds i v) :: bs) := by
  have hb := h.cell (.head _)
  have hne : ∀ x ∈ bs, x.1 ≠ n := fun x hx => blkNe (h.bx x (List.mem_cons_of_mem _ hx)).1 hb (ht x hx)
  have hn := (h.bx _ (.head _)).2
  refine ⟨fun x hx => ?_, ?_⟩
  · rcases List.mem_cons.1 hx with rfl | hx
    · exact ⟨heap_set_same hb i v, hn⟩
    · exact ⟨by rw [heap_set_other (hne x hx)]; exact (h.bx x (List.mem_cons_of_mem _ hx)).1, (h.bx x (List.mem_cons_of_mem _ hx)).2⟩
  · obtain ⟨p, rfl⟩ := h.fin
    exact ⟨p.set n i v (fun hb => by have := hn; simp only at this; omega), rfl⟩
theorem StN.setB {w0 W : World} {n i : Nat} {t : TypeId} {c c' : Array Value} {v : Value} {bs : List Box} {I : Ids} {A : ArenaSt} {L : List (Key × Cl)} (h : StN W I A L (Wide w0 ((n, t, c) :: bs))) : StN (W.setCell ⟨n, i, none⟩ v) I A L (Wide w0 ((n, t, c') :: bs)) := by
  have := StN.ch h ((Ch.refl (fun b => b = n) W).set n i v (fun _ => rfl)) (fun b hb hw => hw.2 _ (.head _) hb)
  exact StN.mono this (fun b _ hw => ⟨hw.1, fun x hx => by
    rcases List.mem_cons.1 hx with rfl | hx
    · exact hw.2 (n, t, c) (.head _)
    · exact hw.2 x (List.mem_cons_of_mem _ hx)⟩)
/-- The reference of one round, and both stores. -/
theorem stays_run {w W : World} {I : Ids} {t : ByteArray} {n1 r : Nat} {bs : List Box}
    (HC : Scene w W ((r, 49, #[.int .i64 60, .slice (some ⟨n1, 0, none⟩) 1 1]) :: (n1, 46, #[.int .i64 99, .int .i64 0, .int .i64 0, .string ⟨#[]⟩, .int .u64 9, .bool true, .string t, .bool true, .int .i64 5]) :: bs))
    (HS : StN W I A60 (S3 t) (Wide w ((r, 49, #[.int .i64 60, .slice (some ⟨n1, 0, none⟩) 1 1]) :: (n1, 46, #[.int .i64 99, .int .i64 0, .int .i64 0, .string ⟨#[]⟩, .int .u64 9, .bool true, .string t, .bool true, .int .i64 5]) :: bs)))
    (ht : ∀ x ∈ bs, x.2.1 ≠ 46 ∧ x.2.1 ≠ 49) : Run W I r A60 (S3 t) (Wide w bs) := by
  have hr := HC.bx _ (.head _)
  have hn := HC.bx _ (.tail _ (.head _))
  have e1 : ∀ x ∈ bs, r ≠ x.1 := fun x hx => blkNe hr.1 (HC.bx x (.tail _ (.tail _ hx))).1 (Ne.symm (ht x hx).2)
  have e2 : ∀ x ∈ bs, n1 ≠ x.1 := fun x hx => blkNe hn.1 (HC.bx x (.tail _ (.tail _ hx))).1 (Ne.symm (ht x hx).1)
  have l1 := lt_of_blk hr.1
  have l2 := lt_of_blk hn.1
  refine ⟨?_, st22 t, st23 t⟩
  refine ⟨fun b => Wide w _ b ∧ b < W.heap.size, fun b => b = r ∨ b = n1, StN.mono HS (fun b hb hw => ⟨hw, hb⟩), ?_, ?_, ?_, ?_⟩
  · refine ⟨⟨_, ⟨hr.1, ?_⟩, fun b hb => .inr ?_⟩, .inl rfl⟩
    · rw [st21]
      exact ⟨rfl, .inr ⟨n1, 1, _, rfl, Nat.zero_le _, hn.1, by simp, by simp [maxLen], rfl, rfl⟩⟩
    · simp only [Value.ownBlock, Option.some.injEq] at hb
      exact hb.symm
  · exact fun b hb => ⟨⟨hb.1.1, fun x hx => hb.1.2 x (.tail _ (.tail _ hx))⟩, hb.2⟩
  · intro b hb
    rcases hb with rfl | rfl
    · exact ⟨⟨hr.2, e1⟩, l1⟩
    · exact ⟨⟨hn.2, e2⟩, l2⟩
  · rintro b ⟨hw, _⟩ hb
    rcases hb with rfl | rfl
    · exact hw.2 _ (.head _) rfl
    · exact hw.2 _ (.tail _ (.head _)) rfl
/-- One act of another's on the held cell. -/
theorem stays_does {w W : World} {I : Ids} {t : ByteArray} {r : Nat} {bs : List Box} (a : Act) (h : Run W I r A60 (S3 t) (Wide w bs)) (hB : ∀ b, W.heap.size ≤ b → Wide w bs b) (hw : a.who ≠ 5) (hk : a.key = k99) (h2 : a.kind ≠ 2) (h5 : a.kind ≠ 5) (hs : (Lit.int .u64 a.stamp).wf = true) :
    Calls Try.prog 30 #[.pointer (some ⟨I.s, 0, none⟩), .pointer (some ⟨r, 0, none⟩), actV a] W fun e w' => e = .returned (.bool true) ∧ ∃ p : Ch (Wide w bs) W, w' = p.w ∧ StN p.w I A60 (S3 t) (Wide w bs) := by
  have out : ∀ {W' : World}, Run W' I r A60 (S3 t) (Wide w bs) → StN W' I A60 (S3 t) (Wide w bs) := fun h => by
    obtain ⟨F, G, h1, -, h3, -⟩ := h.duo
    exact StN.mono h1 (fun b _ hf => (h3 b hf).1)
  by_cases k0 : a.kind = 0
  · refine (does_read I r A60 (S3 t) _ a W h hB k0).mono ?_
    rintro e w' ⟨rfl, p, rfl⟩
    exact ⟨rfl, p.up _, rfl, (out h).ext p⟩
  by_cases k1 : a.kind = 1
  · refine (does_lock I r A60 (S3 t) _ a W h hB k1).mono ?_
    rintro e w' ⟨rfl, p, rfl, hR⟩
    rw [hk, st5] at hR
    exact ⟨rfl, p, rfl, out hR⟩
  by_cases k3 : a.kind = 3
  · have hs' : 0 ≤ a.stamp ∧ a.stamp < 18446744073709551616 := by
      have := hs
      simp [Lit.wf, go_sem] at this
      rw [show IntKind.u64.min = 0 from by kernel_rfl, show IntKind.u64.max = 18446744073709551615 from by kernel_rfl] at this
      omega
    refine (does_install I r A60 (S3 t) _ a W h hB k3 hs'.1 hs'.2).mono ?_
    rintro e w' ⟨rfl, p, rfl, hR⟩
    rw [hk, st20 _ _ _ _ _ hw] at hR
    exact ⟨rfl, p, rfl, out hR⟩
  by_cases k4 : a.kind = 4
  · refine (does_still I r A60 (S3 t) _ a W h k4).mono ?_
    rintro e w' ⟨rfl, p, rfl⟩
    exact ⟨rfl, p.up _, rfl, (out h).ext p⟩
  · refine (does_other I r a W k0 k1 h2 k3 k4 h5).mono ?_
    rintro e w' ⟨rfl, p, rfl⟩
    exact ⟨rfl, p.up _, rfl, (out h).ext p⟩
abbrev refCells (t : ByteArray) : Array Value := #[.int .i64 99, .int .i64 0, .int .i64 0, .string ⟨#[]⟩, .int .u64 9, .bool true, .string t, .bool true, .int .i64 5]
theorem stays_turn1 {w W : World} {I : Ids} {A : ArenaSt} {L : List (Key × Cl)} {n : Nat} {bs : List Box} {a : Act} (hC : Scene w W ((n, 43, actCells a) :: bs)) (hS : StN W I A L (Wide w ((n, 43, actCells a) :: bs))) (ht : ∀ x ∈ bs, x.2.1 ≠ 43) (who : Int) :
    Scene w (W.setCell ⟨n, 1, none⟩ (.int .i64 who)) ((n, 43, actCells { a with who := who }) :: bs) ∧ StN (W.setCell ⟨n, 1, none⟩ (.int .i64 who)) I A L (Wide w ((n, 43, actCells { a with who := who }) :: bs)) := ⟨hC.setB ht, hS.setB⟩
theorem stays_turn4 {w W : World} {I : Ids} {A : ArenaSt} {L : List (Key × Cl)} {n : Nat} {bs : List Box} {a : Act} (hC : Scene w W ((n, 43, actCells a) :: bs)) (hS : StN W I A L (Wide w ((n, 43, actCells a) :: bs))) (ht : ∀ x ∈ bs, x.2.1 ≠ 43) :
    Scene w ((((W.setCell ⟨n, 2, none⟩ (.int .i64 99)).setCell ⟨n, 3, none⟩ (.int .i64 0)).setCell ⟨n, 4, none⟩ (.int .i64 0)).setCell ⟨n, 5, none⟩ (.string ⟨#[]⟩)) ((n, 43, actCells { a with key := k99 }) :: bs) ∧
    StN ((((W.setCell ⟨n, 2, none⟩ (.int .i64 99)).setCell ⟨n, 3, none⟩ (.int .i64 0)).setCell ⟨n, 4, none⟩ (.int .i64 0)).setCell ⟨n, 5, none⟩ (.string ⟨#[]⟩)) I A L (Wide w ((n, 43, actCells { a with key := k99 }) :: bs)) :=
  ⟨(((hC.setB (i := 2) (v := .int .i64 99) ht).setB (i := 3) (v := .int .i64 0) ht).setB (i := 4) (v := .int .i64 0) ht).setB (i := 5) (v := .string ⟨#[]⟩) ht, (((hS.setB (c' := actCells a)).setB (c' := actCells a)).setB (c' := actCells a)).setB⟩
theorem stays_ref {w W : World} {I : Ids} {A : ArenaSt} {L : List (Key × Cl)} {bs : List Box} {t : ByteArray} {n1 : Nat} (hC : Scene w W bs) (hS : StN W I A L (Wide w bs)) (h : W.heap.size = n1) :
    Scene w ((W.alloc (.cells (refCells t) 46)).alloc (.cells #[.int .i64 60, .slice (some ⟨n1, 0, none⟩) 1 1] 49)) ((n1 + 1, 49, #[.int .i64 60, .slice (some ⟨n1, 0, none⟩) 1 1]) :: (n1, 46, refCells t) :: bs) ∧
    StN ((W.alloc (.cells (refCells t) 46)).alloc (.cells #[.int .i64 60, .slice (some ⟨n1, 0, none⟩) 1 1] 49)) I A L (Wide w ((n1 + 1, 49, #[.int .i64 60, .slice (some ⟨n1, 0, none⟩) 1 1]) :: (n1, 46, refCells t) :: bs)) ∧ ((W.alloc (.cells (refCells t) 46)).alloc (.cells #[.int .i64 60, .slice (some ⟨n1, 0, none⟩) 1 1] 49)).heap.size = n1 + 1 + 1 := by
  subst h
  have e : (W.alloc (.cells (refCells t) 46)).heap.size = W.heap.size + 1 := by simp
  have h1 := (hC.alloc (refCells t) 46).alloc #[.int .i64 60, .slice (some ⟨W.heap.size, 0, none⟩) 1 1] 49
  have h2 := (hS.box (refCells t) 46).box #[.int .i64 60, .slice (some ⟨W.heap.size, 0, none⟩) 1 1] 49
  rw [e] at h1 h2
  exact ⟨h1, h2, by simp⟩
theorem StN.drop {w0 W : World} {I : Ids} {A : ArenaSt} {L : List (Key × Cl)} {x : Box} {bs : List Box} (h : StN W I A L (Wide w0 (x :: bs))) : StN W I A L (Wide w0 bs) := StN.mono h (fun b _ hw => ⟨hw.1, fun y hy => hw.2 y (.tail _ hy)⟩)
theorem keysIn_box {W : World} {n : Nat} {k : Key} (h : W.heap[n]? = some (.cells (keyCells k.kind k.a k.b k.s) 23 (0, 0))) : KeysIn W (some ⟨n, 0, none⟩) [k] := by
  refine .inr ⟨n, 0, rfl, fun i k' hk => ?_⟩
  match i, hk with
  | 0, hk =>
    have : k = k' := by simpa using hk
    subst this
    exact ⟨cell_at 0 h, cell_at 1 h, cell_at 2 h, cell_at 3 h⟩
abbrev B2 (b9 b10 : Nat) (t : ByteArray) : List Box := [(b10, 37, #[.int .u64 9, .string t, .bool true]), (b9, 23, keyCells 99 0 0 ⟨#[]⟩)]
set_option maxRecDepth 4000 in
set_option maxHeartbeats 6400000 in
theorem cellStays_any (t : ByteArray) (fa : Option Addr) (xs : List Act) (cap : Nat) (del : Bool) (w : World) (hx : ActsIn w fa xs) (hcap : xs.length ≤ cap) :
    Calls Try.prog 4 #[.string t, .slice fa xs.length cap, .bool del] w fun e w' => e = .returned (.bool true) ∧ ∃ p : Ext w, w' = p.w := by
  by_cases h1 : (60 : Int) < (xs.length : Int)
  · go_enter Try.func4, Try.ntmps4
    go_wp2_with (go_at_call 21; go_must (refine (awake_any _).mono ?_); rintro e w' ⟨rfl, p, rfl⟩)
    go_ret
    exact ⟨rfl, Ch.thenE _ p, rfl⟩
  by_cases h2 : (200 : Int) < (t.size : Int)
  · go_enter Try.func4, Try.ntmps4
    go_wp2_with (go_at_call 21; go_must (refine (awake_any _).mono ?_); rintro e w' ⟨rfl, p, rfl⟩)
    go_ret
    exact ⟨rfl, Ch.thenE _ p, rfl⟩
  go_enter Try.func4, Try.ntmps4
  go_wp2_with (first
    | (go_at_call 21; go_must (refine (awake_any _).mono ?_); rintro e w' ⟨rfl, q, rfl⟩; have HC : Hid (Scene w q.w []) := (Scene.refl w).ext q; generalize q.w = W' at HC ⊢; clear q)
    | (go_at_call 24; go_must (refine (cellNew_n 60 _ (by decide) (by decide)).mono ?_); rintro e w' ⟨I, rfl, q, rfl, hS⟩; have HS : Hid (StN q.w I ⟨60, 0, [], [], []⟩ [] (Wide w [])) := hS.mono (fun b _ h => ⟨Nat.le_trans HC.out.size h, by simp⟩); replace HC : Hid _ := HC.out.ext q; clear hS; generalize q.w = W' at HS HC ⊢; clear q))
  obtain ⟨b9, hb9⟩ : ∃ n, n = W'.heap.size := ⟨_, rfl⟩; replace HS : Hid _ := HS.out.box (keyCells 99 0 0 ⟨#[]⟩) 23; replace HC : Hid _ := HC.out.alloc (keyCells 99 0 0 ⟨#[]⟩) 23; rw [← hb9] at HS HC ⊢; clear hb9; generalize World.alloc W' _ = W9 at HS HC ⊢
  have k0 := cell_at 0 (HC.out.cell (.head _))
  have k1 := cell_at 1 (HC.out.cell (.head _))
  have k2 := cell_at 2 (HC.out.cell (.head _))
  have k3 := cell_at 3 (HC.out.cell (.head _))
  have := lock_n I _ _ _ k99 5 _ HS.out HC.out.wide
  rw [st1] at this
  go_at_call 25
  refine this.mono ?_
  clear this; rintro e w' ⟨rfl, q, rfl, hS⟩; replace HS : Hid _ := hS; replace HC : Hid _ := HC.out.ch q; clear hS; generalize q.w = W' at HS HC ⊢; clear q
  have k0 := cell_at 0 (HC.out.cell (.head _))
  have k1 := cell_at 1 (HC.out.cell (.head _))
  have k2 := cell_at 2 (HC.out.cell (.head _))
  have k3 := cell_at 3 (HC.out.cell (.head _))
  clear k0 k1 k2 k3
  have hwd : ¬ Wide w [(b9, 23, keyCells 99 0 0 ⟨#[]⟩)] b9 := fun h => h.2 _ (.head _) rfl
  have k0 : ∀ p : Ch (Wide w [(b9, 23, keyCells 99 0 0 ⟨#[]⟩)]) W', p.w.cell? ⟨b9, 0, none⟩ = some (.int .i64 99) := fun p => cell_at 0 (p.blk (HC.out.cell (.head _)) hwd)
  have k1 : ∀ p : Ch (Wide w [(b9, 23, keyCells 99 0 0 ⟨#[]⟩)]) W', p.w.cell? ⟨b9, 1, none⟩ = some (.int .i64 0) := fun p => cell_at 1 (p.blk (HC.out.cell (.head _)) hwd)
  have k2 : ∀ p : Ch (Wide w [(b9, 23, keyCells 99 0 0 ⟨#[]⟩)]) W', p.w.cell? ⟨b9, 2, none⟩ = some (.int .i64 0) := fun p => cell_at 2 (p.blk (HC.out.cell (.head _)) hwd)
  have k3 : ∀ p : Ch (Wide w [(b9, 23, keyCells 99 0 0 ⟨#[]⟩)]) W', p.w.cell? ⟨b9, 3, none⟩ = some (.string ⟨#[]⟩) := fun p => cell_at 3 (p.blk (HC.out.cell (.head _)) hwd)
  clear hwd
  go_wp2_with fail
  refine wp_region_ch (Wide w [(b9, 23, keyCells 99 0 0 ⟨#[]⟩)]) (by kernel_rfl) (by kernel_rfl) (fun p hp => ?_)
  have HS1 : Hid (StN p.w I A60 S1 (Wide w [(b9, 23, keyCells 99 0 0 ⟨#[]⟩)])) := HS.out.ext (Ch.still p hp)
  clear hp
  (repeat (first | (refine wpMix_skip rfl rfl ?_) | (refine wpMix_step (fun K hK => ?_); go_simp; (with_reducible (refine hK _ _ ?_)); clear hK K)))
  refine wpMix_step (fun K hK => ?_); go_simp
  refine (seen_any t p.w).mono ?_
  rintro e w' ⟨rfl, q0, rfl⟩
  have HS2 : Hid (StN q0.w I A60 S1 (Wide w [(b9, 23, keyCells 99 0 0 ⟨#[]⟩)])) := HS1.out.ext q0
  obtain ⟨q, hq⟩ : ∃ q : Ch (Wide w [(b9, 23, keyCells 99 0 0 ⟨#[]⟩)]) W', q0.w = q.w := ⟨p.thenE q0, rfl⟩
  rw [hq] at HS2 ⊢
  clear hq
  refine ⟨⟨q, rfl⟩, hK _ _ ?_⟩; clear hK K
  (repeat (first | (refine wpMix_skip rfl rfl ?_) | (refine wpMix_step (fun K hK => ?_); go_simp; (with_reducible (refine hK _ _ ?_)); clear hK K)))
  refine wpMix_step (fun K hK => ?_); go_simp
  have hcc := install_n I A60 S1 _ k99 5 9 0 t true q.w HS2.out
  rw [st2] at hcc
  refine hcc.mono ?_
  clear hcc
  rintro e w' ⟨rfl, q1, rfl, hS3⟩
  obtain ⟨q2, hq2⟩ : ∃ q2 : Ch (Wide w [(b9, 23, keyCells 99 0 0 ⟨#[]⟩)]) W', q1.w = q2.w := ⟨q.then q1 (fun _ _ h => h), rfl⟩
  rw [hq2] at hS3 ⊢
  have HS3 : Hid _ := hS3
  clear hS3 hq2
  refine ⟨⟨q2, rfl⟩, hK _ _ ?_⟩; clear hK K
  (repeat (first | (refine wpMix_skip rfl rfl ?_) | (refine wpMix_step (fun K hK => ?_); go_simp; (with_reducible (refine hK _ _ ?_)); clear hK K)))
  refine wpMix_nil ?_
  replace HS : Hid _ := HS3.out
  replace HC : Hid _ := HC.out.ch q2
  clear k0 k1 k2 k3 HS1 HS2 HS3 q1 q q0 p
  generalize q2.w = W' at HS HC ⊢
  clear q2
  have hb := HC.out.cell (.head _); have k0 : W'.cell? ⟨b9, 0, none⟩ = some (.int .i64 99) := cell_at 0 hb; have k1 : W'.cell? ⟨b9, 1, none⟩ = some (.int .i64 0) := cell_at 1 hb; have k2 : W'.cell? ⟨b9, 2, none⟩ = some (.int .i64 0) := cell_at 2 hb; have k3 : W'.cell? ⟨b9, 3, none⟩ = some (.string ⟨#[]⟩) := cell_at 3 hb; have l9 : b9 < W'.heap.size := lt_of_blk hb; have n9 : b9 ≠ W'.heap.size := Nat.ne_of_lt l9; clear hb
  go_wp2_with fail
  go_at_call 28
  have hcc := read_m I _ _ _ k99 _ HS.out.st
  rw [st3] at hcc
  refine hcc.mono ?_
  clear hcc
  rintro e w' ⟨rfl, q, rfl⟩
  clear k0 k1 k2 k3 n9 l9
  replace HS : Hid _ := HS.out.ext q; replace HC : Hid _ := HC.out.ext q; generalize q.w = W' at HS HC ⊢; clear q
  have hb := HC.out.cell (.head _); have k0 : W'.cell? ⟨b9, 0, none⟩ = some (.int .i64 99) := cell_at 0 hb; have k1 : W'.cell? ⟨b9, 1, none⟩ = some (.int .i64 0) := cell_at 1 hb; have k2 : W'.cell? ⟨b9, 2, none⟩ = some (.int .i64 0) := cell_at 2 hb; have k3 : W'.cell? ⟨b9, 3, none⟩ = some (.string ⟨#[]⟩) := cell_at 3 hb; have l9 : b9 < W'.heap.size := lt_of_blk hb; have n9 : b9 ≠ W'.heap.size := Nat.ne_of_lt l9; clear hb
  go_wp2_with fail
  obtain ⟨b10, hb10⟩ : ∃ n, n = W'.heap.size := ⟨_, rfl⟩; replace HS : Hid _ := HS.out.box #[.int .u64 9, .string t, .bool true] 37; replace HC : Hid _ := HC.out.alloc #[.int .u64 9, .string t, .bool true] 37; rw [← hb10] at HS HC ⊢; clear hb10; generalize World.alloc W' _ = W' at HS HC ⊢
  have hcc := lock_n I _ _ _ k99 5 _ HS.out HC.out.wide
  rw [st4] at hcc
  refine hcc.mono ?_
  clear hcc k0 k1 k2 k3 n9 l9
  rintro e w' ⟨rfl, q, rfl, hS⟩
  replace HS : Hid _ := hS; replace HC : Hid _ := HC.out.ch q; clear hS; generalize q.w = W' at HS HC ⊢; clear q
  have hb := HC.out.cell (.tail _ (.head _)); have k0 : W'.cell? ⟨b9, 0, none⟩ = some (.int .i64 99) := cell_at 0 hb; have k1 : W'.cell? ⟨b9, 1, none⟩ = some (.int .i64 0) := cell_at 1 hb; have k2 : W'.cell? ⟨b9, 2, none⟩ = some (.int .i64 0) := cell_at 2 hb; have k3 : W'.cell? ⟨b9, 3, none⟩ = some (.string ⟨#[]⟩) := cell_at 3 hb; have l9 : b9 < W'.heap.size := lt_of_blk hb; have n9 : b9 ≠ W'.heap.size := Nat.ne_of_lt l9; clear hb
  have hb := HC.out.cell (.head _); have v0 : W'.cell? ⟨b10, 0, none⟩ = some (.int .u64 9) := cell_at 0 hb; have v1 : W'.cell? ⟨b10, 1, none⟩ = some (.string t) := cell_at 1 hb; have v2 : W'.cell? ⟨b10, 2, none⟩ = some (.bool true) := cell_at 2 hb; have l10 : b10 < W'.heap.size := lt_of_blk hb; have n10 : b10 ≠ W'.heap.size := Nat.ne_of_lt l10; clear hb
  have hE := run_eq_seen 9 t true
  go_wp2_with fail
  clear k0 k1 k2 k3 n9 l9 v0 v1 v2 n10 l10
  go_loopw [14] (fun v w' => Scene w w' (B2 b9 b10 t) ∧ StN w' I A60 (S3 t) (Wide w (B2 b9 b10 t)) ∧ ∃ i : Nat, v = .int .i64 i ∧ i ≤ xs.length) (fun v _ => xs.length - (intOf v).toNat)
  case atStart => exact ⟨HC.out, HS.out, 0, rfl, by omega⟩
  case round =>
    clear HC HS
    rename_i W'
    obtain ⟨hC, hS, i, rfl, hi⟩ := hrel
    have HC : Hid _ := hC
    have HS : Hid _ := hS
    clear hC hS
    by_cases h1 : i < xs.length
    ·
      obtain ⟨p, hp⟩ := HC.out.fin
      obtain ⟨a, hxi, b, off, rfl, hac, hok⟩ := hx.get h1
      have HO : Hid _ := hok
      have hac' := hac.keep (p.same _ hac.lt id)
      rw [← hp] at hac'
      clear hac hok p hp
      obtain ⟨kind, who, ⟨kd, ka, kb, ks⟩, kfa, kcap, keys, stamp, sw, stx, sh⟩ := a
      have y0 : wr.cell? ⟨b, off + i * 11, none⟩ = some (.int .i64 kind) := hac'.c0
      have y1 : wr.cell? ⟨b, off + i * 11 + 1, none⟩ = some (.int .i64 who) := hac'.c1
      have y2 : wr.cell? ⟨b, off + i * 11 + 2, none⟩ = some (.int .i64 kd) := hac'.c2
      have y3 : wr.cell? ⟨b, off + i * 11 + 3, none⟩ = some (.int .i64 ka) := hac'.c3
      have y4 : wr.cell? ⟨b, off + i * 11 + 4, none⟩ = some (.int .i64 kb) := hac'.c4
      have y5 : wr.cell? ⟨b, off + i * 11 + 5, none⟩ = some (.string ks) := hac'.c5
      have y6 : wr.cell? ⟨b, off + i * 11 + 6, none⟩ = some (.slice kfa keys.length kcap) := hac'.c6
      have y7 : wr.cell? ⟨b, off + i * 11 + 7, none⟩ = some (.int .u64 stamp) := hac'.c7
      have y8 : wr.cell? ⟨b, off + i * 11 + 8, none⟩ = some (.int .u64 sw) := hac'.c8
      have y9 : wr.cell? ⟨b, off + i * 11 + 9, none⟩ = some (.string stx) := hac'.c9
      have y10 : wr.cell? ⟨b, off + i * 11 + 10, none⟩ = some (.bool sh) := hac'.c10
      clear hac' hxi
      go_wp2_with fail
      clear y0 y1 y2 y3 y4 y5 y6 y7 y8 y9 y10
      rename World => W'
      obtain ⟨b15, hb15⟩ : ∃ n, n = W'.heap.size := ⟨_, rfl⟩; replace HS : Hid _ := HS.out.box (actCells ⟨kind, who, ⟨kd, ka, kb, ks⟩, kfa, kcap, keys, stamp, sw, stx, sh⟩) 43; replace HC : Hid _ := HC.out.alloc (actCells ⟨kind, who, ⟨kd, ka, kb, ks⟩, kfa, kcap, keys, stamp, sw, stx, sh⟩) 43; rw [← hb15] at HS HC ⊢; clear hb15; generalize World.alloc W' _ = W' at HS HC ⊢
      go_at_call 29
      obtain ⟨p, hp⟩ := HC.out.fin
      have hcc := small_any ⟨kind, who, ⟨kd, ka, kb, ks⟩, kfa, kcap, keys, stamp, sw, stx, sh⟩ W' (by rw [hp]; exact HO.out.1.ext p)
      cases hsm : smallB ⟨kind, who, ⟨kd, ka, kb, ks⟩, kfa, kcap, keys, stamp, sw, stx, sh⟩
      all_goals
        rw [hsm] at hcc
        refine hcc.mono ?_
        clear hcc hp p hsm
        rintro e w' ⟨rfl, q, rfl⟩
        replace HS : Hid _ := HS.out.ext q; replace HC : Hid _ := HC.out.ext q; generalize q.w = W' at HS HC ⊢; clear q
      · go_wp2_with fail
        obtain ⟨q, hq⟩ := HC.out.fin
        go_ret
        exact ⟨rfl, q, hq⟩
      · have hb := HC.out.cell (.tail _ (.tail _ (.head _))); have k0 : W'.cell? ⟨b9, 0, none⟩ = some (.int .i64 99) := cell_at 0 hb; have k1 : W'.cell? ⟨b9, 1, none⟩ = some (.int .i64 0) := cell_at 1 hb; have k2 : W'.cell? ⟨b9, 2, none⟩ = some (.int .i64 0) := cell_at 2 hb; have k3 : W'.cell? ⟨b9, 3, none⟩ = some (.string ⟨#[]⟩) := cell_at 3 hb; have l9 : b9 < W'.heap.size := lt_of_blk hb; have n9 : b9 ≠ W'.heap.size := Nat.ne_of_lt l9; clear hb
        have hb := HC.out.cell (.head _); have a0 : W'.cell? ⟨b15, 0, none⟩ = some (.int .i64 kind) := cell_at 0 hb; have a1 : W'.cell? ⟨b15, 1, none⟩ = some (.int .i64 who) := cell_at 1 hb; have a2 : W'.cell? ⟨b15, 2, none⟩ = some (.int .i64 kd) := cell_at 2 hb; have a3 : W'.cell? ⟨b15, 3, none⟩ = some (.int .i64 ka) := cell_at 3 hb; have a4 : W'.cell? ⟨b15, 4, none⟩ = some (.int .i64 kb) := cell_at 4 hb; have a5 : W'.cell? ⟨b15, 5, none⟩ = some (.string ks) := cell_at 5 hb; have a6 : W'.cell? ⟨b15, 6, none⟩ = some (.slice kfa keys.length kcap) := cell_at 6 hb; have a7 : W'.cell? ⟨b15, 7, none⟩ = some (.int .u64 stamp) := cell_at 7 hb; have a8 : W'.cell? ⟨b15, 8, none⟩ = some (.int .u64 sw) := cell_at 8 hb; have a9 : W'.cell? ⟨b15, 9, none⟩ = some (.string stx) := cell_at 9 hb; have a10 : W'.cell? ⟨b15, 10, none⟩ = some (.bool sh) := cell_at 10 hb; have l15 : b15 < W'.heap.size := lt_of_blk hb; have n15 : b15 ≠ W'.heap.size := Nat.ne_of_lt l15; have f15 : ∀ i, W'.frozen? ⟨b15, i, none⟩ = false := (fun i => frozen_at i hb); clear hb
        have n915 : b9 ≠ b15 := blkNe (HC.out.cell (.tail _ (.tail _ (.head _)))) (HC.out.cell (.head _)) (by decide)
        by_cases hw5 : who = 5
        · subst hw5
          by_cases hk2 : kind = 2
          · subst hk2
            go_wp2_with fail
            obtain ⟨hC1, hS1⟩ := stays_turn1 (a := ⟨_, _, ⟨kd, ka, kb, ks⟩, kfa, kcap, keys, stamp, sw, stx, sh⟩) HC.out HS.out (by simp) 6; obtain ⟨hC2, hS2⟩ := stays_turn4 hC1 hS1 (by simp); clear hC1 hS1
            obtain ⟨hC3, hS3, hsz⟩ := stays_ref (t := t) (n1 := W'.heap.size) hC2 hS2 (by simp); clear hC2 hS2 HC HS k0 k1 k2 k3 l9 n9 a0 a1 a2 a3 a4 a5 a6 a7 a8 a9 a10 l15 n15 f15; obtain ⟨n1, hn1⟩ : ∃ n1, n1 = W'.heap.size := ⟨_, rfl⟩; rw [← hn1] at hC3 hS3 hsz ⊢; clear hn1; have HC : Hid _ := hC3; have HS : Hid _ := hS3; clear hC3 hS3; generalize World.alloc (World.alloc (World.setCell _ _ _) _) _ = W' at HC HS hsz ⊢
            rw [← hsz]; clear hsz; replace HC : Hid _ := HC.out.drop.drop; replace HS : Hid _ := HS.out.drop.drop
            obtain ⟨bsl, hbsl⟩ : ∃ n, n = W'.heap.size := ⟨_, rfl⟩; replace HS : Hid _ := HS.out.box (keyCells 99 0 0 ⟨#[]⟩) 23; replace HC : Hid _ := HC.out.alloc (keyCells 99 0 0 ⟨#[]⟩) 23; rw [← hbsl] at HS HC ⊢; clear hbsl; generalize World.alloc W' _ = W' at HS HC ⊢; go_at_call 31; have hcc := free_m I A60 (S3 t) _ (some ⟨bsl, 0, none⟩) 1 1 [k99] _ HS.out HC.out.wide (keysIn_box (HC.out.cell (.head _))) (fun a ha hw => hw.2 _ (.head _) (by cases ha; rfl)) rfl (by decide); rw [st7] at hcc; refine hcc.mono ?_; clear hcc; rintro e w' ⟨rfl, q, rfl, hS⟩; replace HC : Hid _ := (HC.out.ch q).drop; replace HS : Hid _ := hS.drop; clear hS; generalize q.w = W' at HC HS ⊢; clear q; have hb := HC.out.cell (.tail _ (.tail _ (.head _))); have k0 : W'.cell? ⟨b9, 0, none⟩ = some (.int .i64 99) := cell_at 0 hb; have k1 : W'.cell? ⟨b9, 1, none⟩ = some (.int .i64 0) := cell_at 1 hb; have k2 : W'.cell? ⟨b9, 2, none⟩ = some (.int .i64 0) := cell_at 2 hb; have k3 : W'.cell? ⟨b9, 3, none⟩ = some (.string ⟨#[]⟩) := cell_at 3 hb; have l9 : b9 < W'.heap.size := lt_of_blk hb; have n9 : b9 ≠ W'.heap.size := Nat.ne_of_lt l9; clear hb; have hb := HC.out.cell (.head _); have a1 : W'.cell? ⟨b15, 1, none⟩ = some (.int .i64 6) := cell_at 1 hb; have l15 : b15 < W'.heap.size := lt_of_blk hb; have n15 : b15 ≠ W'.heap.size := Nat.ne_of_lt l15; clear hb; have hb := HC.out.cell (.tail _ (.head _)); have v0 : W'.cell? ⟨b10, 0, none⟩ = some (.int .u64 9) := cell_at 0 hb; have v1 : W'.cell? ⟨b10, 1, none⟩ = some (.string t) := cell_at 1 hb; have v2 : W'.cell? ⟨b10, 2, none⟩ = some (.bool true) := cell_at 2 hb; have l10 : b10 < W'.heap.size := lt_of_blk hb; have n10 : b10 ≠ W'.heap.size := Nat.ne_of_lt l10; clear hb; go_wp2_with fail; clear k0 k1 k2 k3 l9 n9 a1 l15 n15 v0 v1 v2 l10 n10; obtain ⟨bsm, hbsm⟩ : ∃ n, n = W'.heap.size := ⟨_, rfl⟩; replace HS : Hid _ := HS.out.box (keyCells 99 0 0 ⟨#[]⟩) 23; replace HC : Hid _ := HC.out.alloc (keyCells 99 0 0 ⟨#[]⟩) 23; rw [← hbsm] at HS HC ⊢; clear hbsm; generalize World.alloc W' _ = W' at HS HC ⊢; go_at_call 32; have hcc := unlock_m I A60 (S3 t) _ 6 (some ⟨bsm, 0, none⟩) 1 1 [k99] _ HS.out HC.out.wide (keysIn_box (HC.out.cell (.head _))) (fun a ha hw => hw.2 _ (.head _) (by cases ha; rfl)) rfl (by decide) (by decide); rw [st19 t _ (show (6 : Int) ≠ 5 by decide)] at hcc; refine hcc.mono ?_; clear hcc; rintro e w' ⟨rfl, q, rfl, hS⟩; replace HC : Hid _ := (HC.out.ch q).drop; replace HS : Hid _ := hS.drop; clear hS; generalize q.w = W' at HC HS ⊢; clear q; have hb := HC.out.cell (.tail _ (.tail _ (.head _))); have k0 : W'.cell? ⟨b9, 0, none⟩ = some (.int .i64 99) := cell_at 0 hb; have k1 : W'.cell? ⟨b9, 1, none⟩ = some (.int .i64 0) := cell_at 1 hb; have k2 : W'.cell? ⟨b9, 2, none⟩ = some (.int .i64 0) := cell_at 2 hb; have k3 : W'.cell? ⟨b9, 3, none⟩ = some (.string ⟨#[]⟩) := cell_at 3 hb; have l9 : b9 < W'.heap.size := lt_of_blk hb; have n9 : b9 ≠ W'.heap.size := Nat.ne_of_lt l9; clear hb; have hb := HC.out.cell (.head _); have a1 : W'.cell? ⟨b15, 1, none⟩ = some (.int .i64 6) := cell_at 1 hb; have l15 : b15 < W'.heap.size := lt_of_blk hb; have n15 : b15 ≠ W'.heap.size := Nat.ne_of_lt l15; clear hb; have hb := HC.out.cell (.tail _ (.head _)); have v0 : W'.cell? ⟨b10, 0, none⟩ = some (.int .u64 9) := cell_at 0 hb; have v1 : W'.cell? ⟨b10, 1, none⟩ = some (.string t) := cell_at 1 hb; have v2 : W'.cell? ⟨b10, 2, none⟩ = some (.bool true) := cell_at 2 hb; have l10 : b10 < W'.heap.size := lt_of_blk hb; have n10 : b10 ≠ W'.heap.size := Nat.ne_of_lt l10; clear hb; go_wp2_with fail; go_at_call 33; have hcc := still_m I A60 (S3 t) _ k99 5 9 t true _ HS.out.st; rw [st8] at hcc; refine hcc.mono ?_; clear hcc; rintro e w' ⟨rfl, q, rfl⟩; clear k0 k1 k2 k3 l9 n9 a1 l15 n15 v0 v1 v2 l10 n10; replace HS : Hid _ := HS.out.ext q; replace HC : Hid _ := HC.out.ext q; generalize q.w = W' at HS HC ⊢; clear q; have hb := HC.out.cell (.tail _ (.tail _ (.head _))); have k0 : W'.cell? ⟨b9, 0, none⟩ = some (.int .i64 99) := cell_at 0 hb; have k1 : W'.cell? ⟨b9, 1, none⟩ = some (.int .i64 0) := cell_at 1 hb; have k2 : W'.cell? ⟨b9, 2, none⟩ = some (.int .i64 0) := cell_at 2 hb; have k3 : W'.cell? ⟨b9, 3, none⟩ = some (.string ⟨#[]⟩) := cell_at 3 hb; have l9 : b9 < W'.heap.size := lt_of_blk hb; have n9 : b9 ≠ W'.heap.size := Nat.ne_of_lt l9; clear hb; have hb := HC.out.cell (.head _); have a1 : W'.cell? ⟨b15, 1, none⟩ = some (.int .i64 6) := cell_at 1 hb; have l15 : b15 < W'.heap.size := lt_of_blk hb; have n15 : b15 ≠ W'.heap.size := Nat.ne_of_lt l15; clear hb; have hb := HC.out.cell (.tail _ (.head _)); have v0 : W'.cell? ⟨b10, 0, none⟩ = some (.int .u64 9) := cell_at 0 hb; have v1 : W'.cell? ⟨b10, 1, none⟩ = some (.string t) := cell_at 1 hb; have v2 : W'.cell? ⟨b10, 2, none⟩ = some (.bool true) := cell_at 2 hb; have l10 : b10 < W'.heap.size := lt_of_blk hb; have n10 : b10 ≠ W'.heap.size := Nat.ne_of_lt l10; clear hb; go_wp2_with fail; go_at_call 33; have hcc := still_m I A60 (S3 t) _ k99 6 9 t true _ HS.out.st; rw [st9] at hcc; refine hcc.mono ?_; clear hcc; rintro e w' ⟨rfl, q, rfl⟩; clear k0 k1 k2 k3 l9 n9 a1 l15 n15 v0 v1 v2 l10 n10; replace HS : Hid _ := HS.out.ext q; replace HC : Hid _ := HC.out.ext q; generalize q.w = W' at HS HC ⊢; clear q; have hb := HC.out.cell (.tail _ (.tail _ (.head _))); have k0 : W'.cell? ⟨b9, 0, none⟩ = some (.int .i64 99) := cell_at 0 hb; have k1 : W'.cell? ⟨b9, 1, none⟩ = some (.int .i64 0) := cell_at 1 hb; have k2 : W'.cell? ⟨b9, 2, none⟩ = some (.int .i64 0) := cell_at 2 hb; have k3 : W'.cell? ⟨b9, 3, none⟩ = some (.string ⟨#[]⟩) := cell_at 3 hb; have l9 : b9 < W'.heap.size := lt_of_blk hb; have n9 : b9 ≠ W'.heap.size := Nat.ne_of_lt l9; clear hb; have hb := HC.out.cell (.head _); have a1 : W'.cell? ⟨b15, 1, none⟩ = some (.int .i64 6) := cell_at 1 hb; have l15 : b15 < W'.heap.size := lt_of_blk hb; have n15 : b15 ≠ W'.heap.size := Nat.ne_of_lt l15; clear hb; have hb := HC.out.cell (.tail _ (.head _)); have v0 : W'.cell? ⟨b10, 0, none⟩ = some (.int .u64 9) := cell_at 0 hb; have v1 : W'.cell? ⟨b10, 1, none⟩ = some (.string t) := cell_at 1 hb; have v2 : W'.cell? ⟨b10, 2, none⟩ = some (.bool true) := cell_at 2 hb; have l10 : b10 < W'.heap.size := lt_of_blk hb; have n10 : b10 ≠ W'.heap.size := Nat.ne_of_lt l10; clear hb; go_wp2_with fail; clear k0 k1 k2 k3 l9 n9 a1 l15 n15 v0 v1 v2 l10 n10; go_roundw; (case rel => exact ⟨HC.out.drop, HS.out.drop, i + 1, by go_num, by omega⟩); (case measure => simp [intOf]; omega)
          · by_cases hk5 : kind = 5
            · subst hk5
              go_wp2_with fail
              obtain ⟨hC1, hS1⟩ := stays_turn1 (a := ⟨_, _, ⟨kd, ka, kb, ks⟩, kfa, kcap, keys, stamp, sw, stx, sh⟩) HC.out HS.out (by simp) 6; obtain ⟨hC2, hS2⟩ := stays_turn4 hC1 hS1 (by simp); clear hC1 hS1
              obtain ⟨hC3, hS3, hsz⟩ := stays_ref (t := t) (n1 := W'.heap.size) hC2 hS2 (by simp); clear hC2 hS2 HC HS k0 k1 k2 k3 l9 n9 a0 a1 a2 a3 a4 a5 a6 a7 a8 a9 a10 l15 n15 f15; obtain ⟨n1, hn1⟩ : ∃ n1, n1 = W'.heap.size := ⟨_, rfl⟩; rw [← hn1] at hC3 hS3 hsz ⊢; clear hn1; have HC : Hid _ := hC3; have HS : Hid _ := hS3; clear hC3 hS3; generalize World.alloc (World.alloc (World.setCell _ _ _) _) _ = W' at HC HS hsz ⊢
              rw [← hsz]; clear hsz; replace HC : Hid _ := HC.out.drop.drop; replace HS : Hid _ := HS.out.drop.drop
              obtain ⟨bsl, hbsl⟩ : ∃ n, n = W'.heap.size := ⟨_, rfl⟩; replace HS : Hid _ := HS.out.box (keyCells 99 0 0 ⟨#[]⟩) 23; replace HC : Hid _ := HC.out.alloc (keyCells 99 0 0 ⟨#[]⟩) 23; rw [← hbsl] at HS HC ⊢; clear hbsl; generalize World.alloc W' _ = W' at HS HC ⊢; go_at_call 31; have hcc := free_m I A60 (S3 t) _ (some ⟨bsl, 0, none⟩) 1 1 [k99] _ HS.out HC.out.wide (keysIn_box (HC.out.cell (.head _))) (fun a ha hw => hw.2 _ (.head _) (by cases ha; rfl)) rfl (by decide); rw [st7] at hcc; refine hcc.mono ?_; clear hcc; rintro e w' ⟨rfl, q, rfl, hS⟩; replace HC : Hid _ := (HC.out.ch q).drop; replace HS : Hid _ := hS.drop; clear hS; generalize q.w = W' at HC HS ⊢; clear q; have hb := HC.out.cell (.tail _ (.tail _ (.head _))); have k0 : W'.cell? ⟨b9, 0, none⟩ = some (.int .i64 99) := cell_at 0 hb; have k1 : W'.cell? ⟨b9, 1, none⟩ = some (.int .i64 0) := cell_at 1 hb; have k2 : W'.cell? ⟨b9, 2, none⟩ = some (.int .i64 0) := cell_at 2 hb; have k3 : W'.cell? ⟨b9, 3, none⟩ = some (.string ⟨#[]⟩) := cell_at 3 hb; have l9 : b9 < W'.heap.size := lt_of_blk hb; have n9 : b9 ≠ W'.heap.size := Nat.ne_of_lt l9; clear hb; have hb := HC.out.cell (.head _); have a1 : W'.cell? ⟨b15, 1, none⟩ = some (.int .i64 6) := cell_at 1 hb; have l15 : b15 < W'.heap.size := lt_of_blk hb; have n15 : b15 ≠ W'.heap.size := Nat.ne_of_lt l15; clear hb; have hb := HC.out.cell (.tail _ (.head _)); have v0 : W'.cell? ⟨b10, 0, none⟩ = some (.int .u64 9) := cell_at 0 hb; have v1 : W'.cell? ⟨b10, 1, none⟩ = some (.string t) := cell_at 1 hb; have v2 : W'.cell? ⟨b10, 2, none⟩ = some (.bool true) := cell_at 2 hb; have l10 : b10 < W'.heap.size := lt_of_blk hb; have n10 : b10 ≠ W'.heap.size := Nat.ne_of_lt l10; clear hb; go_wp2_with fail; clear k0 k1 k2 k3 l9 n9 a1 l15 n15 v0 v1 v2 l10 n10; obtain ⟨bsm, hbsm⟩ : ∃ n, n = W'.heap.size := ⟨_, rfl⟩; replace HS : Hid _ := HS.out.box (keyCells 99 0 0 ⟨#[]⟩) 23; replace HC : Hid _ := HC.out.alloc (keyCells 99 0 0 ⟨#[]⟩) 23; rw [← hbsm] at HS HC ⊢; clear hbsm; generalize World.alloc W' _ = W' at HS HC ⊢; go_at_call 32; have hcc := unlock_m I A60 (S3 t) _ 6 (some ⟨bsm, 0, none⟩) 1 1 [k99] _ HS.out HC.out.wide (keysIn_box (HC.out.cell (.head _))) (fun a ha hw => hw.2 _ (.head _) (by cases ha; rfl)) rfl (by decide) (by decide); rw [st19 t _ (show (6 : Int) ≠ 5 by decide)] at hcc; refine hcc.mono ?_; clear hcc; rintro e w' ⟨rfl, q, rfl, hS⟩; replace HC : Hid _ := (HC.out.ch q).drop; replace HS : Hid _ := hS.drop; clear hS; generalize q.w = W' at HC HS ⊢; clear q; have hb := HC.out.cell (.tail _ (.tail _ (.head _))); have k0 : W'.cell? ⟨b9, 0, none⟩ = some (.int .i64 99) := cell_at 0 hb; have k1 : W'.cell? ⟨b9, 1, none⟩ = some (.int .i64 0) := cell_at 1 hb; have k2 : W'.cell? ⟨b9, 2, none⟩ = some (.int .i64 0) := cell_at 2 hb; have k3 : W'.cell? ⟨b9, 3, none⟩ = some (.string ⟨#[]⟩) := cell_at 3 hb; have l9 : b9 < W'.heap.size := lt_of_blk hb; have n9 : b9 ≠ W'.heap.size := Nat.ne_of_lt l9; clear hb; have hb := HC.out.cell (.head _); have a1 : W'.cell? ⟨b15, 1, none⟩ = some (.int .i64 6) := cell_at 1 hb; have l15 : b15 < W'.heap.size := lt_of_blk hb; have n15 : b15 ≠ W'.heap.size := Nat.ne_of_lt l15; clear hb; have hb := HC.out.cell (.tail _ (.head _)); have v0 : W'.cell? ⟨b10, 0, none⟩ = some (.int .u64 9) := cell_at 0 hb; have v1 : W'.cell? ⟨b10, 1, none⟩ = some (.string t) := cell_at 1 hb; have v2 : W'.cell? ⟨b10, 2, none⟩ = some (.bool true) := cell_at 2 hb; have l10 : b10 < W'.heap.size := lt_of_blk hb; have n10 : b10 ≠ W'.heap.size := Nat.ne_of_lt l10; clear hb; go_wp2_with fail; go_at_call 33; have hcc := still_m I A60 (S3 t) _ k99 5 9 t true _ HS.out.st; rw [st8] at hcc; refine hcc.mono ?_; clear hcc; rintro e w' ⟨rfl, q, rfl⟩; clear k0 k1 k2 k3 l9 n9 a1 l15 n15 v0 v1 v2 l10 n10; replace HS : Hid _ := HS.out.ext q; replace HC : Hid _ := HC.out.ext q; generalize q.w = W' at HS HC ⊢; clear q; have hb := HC.out.cell (.tail _ (.tail _ (.head _))); have k0 : W'.cell? ⟨b9, 0, none⟩ = some (.int .i64 99) := cell_at 0 hb; have k1 : W'.cell? ⟨b9, 1, none⟩ = some (.int .i64 0) := cell_at 1 hb; have k2 : W'.cell? ⟨b9, 2, none⟩ = some (.int .i64 0) := cell_at 2 hb; have k3 : W'.cell? ⟨b9, 3, none⟩ = some (.string ⟨#[]⟩) := cell_at 3 hb; have l9 : b9 < W'.heap.size := lt_of_blk hb; have n9 : b9 ≠ W'.heap.size := Nat.ne_of_lt l9; clear hb; have hb := HC.out.cell (.head _); have a1 : W'.cell? ⟨b15, 1, none⟩ = some (.int .i64 6) := cell_at 1 hb; have l15 : b15 < W'.heap.size := lt_of_blk hb; have n15 : b15 ≠ W'.heap.size := Nat.ne_of_lt l15; clear hb; have hb := HC.out.cell (.tail _ (.head _)); have v0 : W'.cell? ⟨b10, 0, none⟩ = some (.int .u64 9) := cell_at 0 hb; have v1 : W'.cell? ⟨b10, 1, none⟩ = some (.string t) := cell_at 1 hb; have v2 : W'.cell? ⟨b10, 2, none⟩ = some (.bool true) := cell_at 2 hb; have l10 : b10 < W'.heap.size := lt_of_blk hb; have n10 : b10 ≠ W'.heap.size := Nat.ne_of_lt l10; clear hb; go_wp2_with fail; go_at_call 33; have hcc := still_m I A60 (S3 t) _ k99 6 9 t true _ HS.out.st; rw [st9] at hcc; refine hcc.mono ?_; clear hcc; rintro e w' ⟨rfl, q, rfl⟩; clear k0 k1 k2 k3 l9 n9 a1 l15 n15 v0 v1 v2 l10 n10; replace HS : Hid _ := HS.out.ext q; replace HC : Hid _ := HC.out.ext q; generalize q.w = W' at HS HC ⊢; clear q; have hb := HC.out.cell (.tail _ (.tail _ (.head _))); have k0 : W'.cell? ⟨b9, 0, none⟩ = some (.int .i64 99) := cell_at 0 hb; have k1 : W'.cell? ⟨b9, 1, none⟩ = some (.int .i64 0) := cell_at 1 hb; have k2 : W'.cell? ⟨b9, 2, none⟩ = some (.int .i64 0) := cell_at 2 hb; have k3 : W'.cell? ⟨b9, 3, none⟩ = some (.string ⟨#[]⟩) := cell_at 3 hb; have l9 : b9 < W'.heap.size := lt_of_blk hb; have n9 : b9 ≠ W'.heap.size := Nat.ne_of_lt l9; clear hb; have hb := HC.out.cell (.head _); have a1 : W'.cell? ⟨b15, 1, none⟩ = some (.int .i64 6) := cell_at 1 hb; have l15 : b15 < W'.heap.size := lt_of_blk hb; have n15 : b15 ≠ W'.heap.size := Nat.ne_of_lt l15; clear hb; have hb := HC.out.cell (.tail _ (.head _)); have v0 : W'.cell? ⟨b10, 0, none⟩ = some (.int .u64 9) := cell_at 0 hb; have v1 : W'.cell? ⟨b10, 1, none⟩ = some (.string t) := cell_at 1 hb; have v2 : W'.cell? ⟨b10, 2, none⟩ = some (.bool true) := cell_at 2 hb; have l10 : b10 < W'.heap.size := lt_of_blk hb; have n10 : b10 ≠ W'.heap.size := Nat.ne_of_lt l10; clear hb; go_wp2_with fail; clear k0 k1 k2 k3 l9 n9 a1 l15 n15 v0 v1 v2 l10 n10; go_roundw; (case rel => exact ⟨HC.out.drop, HS.out.drop, i + 1, by go_num, by omega⟩); (case measure => simp [intOf]; omega)
            · have g2 : (kind != 2) = true := by simpa using hk2
              have g5 : (kind != 5) = true := by simpa using hk5
              go_wp2_with fail
              obtain ⟨hC1, hS1⟩ := stays_turn1 (a := ⟨_, _, ⟨kd, ka, kb, ks⟩, kfa, kcap, keys, stamp, sw, stx, sh⟩) HC.out HS.out (by simp) 6; obtain ⟨hC2, hS2⟩ := stays_turn4 hC1 hS1 (by simp); clear hC1 hS1
              obtain ⟨hC3, hS3, hsz⟩ := stays_ref (t := t) (n1 := W'.heap.size) hC2 hS2 (by simp); clear hC2 hS2 HC HS k0 k1 k2 k3 l9 n9 a0 a1 a2 a3 a4 a5 a6 a7 a8 a9 a10 l15 n15 f15; obtain ⟨n1, hn1⟩ : ∃ n1, n1 = W'.heap.size := ⟨_, rfl⟩; rw [← hn1] at hC3 hS3 hsz ⊢; clear hn1; have HC : Hid _ := hC3; have HS : Hid _ := hS3; clear hC3 hS3; generalize World.alloc (World.alloc (World.setCell _ _ _) _) _ = W' at HC HS hsz ⊢
              clear hsz; have hR := stays_run HC.out HS.out (by simp); have hcc := stays_does ⟨kind, 6, k99, kfa, kcap, keys, stamp, sw, stx, sh⟩ hR HC.out.drop.drop.wide (show (6 : Int) ≠ 5 by decide) rfl hk2 hk5 HO.out.2.2.2.1; go_at_call 30; refine hcc.mono ?_; clear hcc hR; rintro e w' ⟨rfl, q, rfl, hS⟩; replace HC : Hid _ := HC.out.drop.drop.ch q; replace HS : Hid _ := hS; clear hS; generalize q.w = W' at HC HS ⊢; clear q; have hb := HC.out.cell (.tail _ (.tail _ (.head _))); have k0 : W'.cell? ⟨b9, 0, none⟩ = some (.int .i64 99) := cell_at 0 hb; have k1 : W'.cell? ⟨b9, 1, none⟩ = some (.int .i64 0) := cell_at 1 hb; have k2 : W'.cell? ⟨b9, 2, none⟩ = some (.int .i64 0) := cell_at 2 hb; have k3 : W'.cell? ⟨b9, 3, none⟩ = some (.string ⟨#[]⟩) := cell_at 3 hb; have l9 : b9 < W'.heap.size := lt_of_blk hb; have n9 : b9 ≠ W'.heap.size := Nat.ne_of_lt l9; clear hb; have hb := HC.out.cell (.head _); have a1 : W'.cell? ⟨b15, 1, none⟩ = some (.int .i64 6) := cell_at 1 hb; have l15 : b15 < W'.heap.size := lt_of_blk hb; have n15 : b15 ≠ W'.heap.size := Nat.ne_of_lt l15; clear hb; go_wp2_with fail; clear k0 k1 k2 k3 l9 n9 a1 l15 n15
              obtain ⟨bsl, hbsl⟩ : ∃ n, n = W'.heap.size := ⟨_, rfl⟩; replace HS : Hid _ := HS.out.box (keyCells 99 0 0 ⟨#[]⟩) 23; replace HC : Hid _ := HC.out.alloc (keyCells 99 0 0 ⟨#[]⟩) 23; rw [← hbsl] at HS HC ⊢; clear hbsl; generalize World.alloc W' _ = W' at HS HC ⊢; go_at_call 31; have hcc := free_m I A60 (S3 t) _ (some ⟨bsl, 0, none⟩) 1 1 [k99] _ HS.out HC.out.wide (keysIn_box (HC.out.cell (.head _))) (fun a ha hw => hw.2 _ (.head _) (by cases ha; rfl)) rfl (by decide); rw [st7] at hcc; refine hcc.mono ?_; clear hcc; rintro e w' ⟨rfl, q, rfl, hS⟩; replace HC : Hid _ := (HC.out.ch q).drop; replace HS : Hid _ := hS.drop; clear hS; generalize q.w = W' at HC HS ⊢; clear q; have hb := HC.out.cell (.tail _ (.tail _ (.head _))); have k0 : W'.cell? ⟨b9, 0, none⟩ = some (.int .i64 99) := cell_at 0 hb; have k1 : W'.cell? ⟨b9, 1, none⟩ = some (.int .i64 0) := cell_at 1 hb; have k2 : W'.cell? ⟨b9, 2, none⟩ = some (.int .i64 0) := cell_at 2 hb; have k3 : W'.cell? ⟨b9, 3, none⟩ = some (.string ⟨#[]⟩) := cell_at 3 hb; have l9 : b9 < W'.heap.size := lt_of_blk hb; have n9 : b9 ≠ W'.heap.size := Nat.ne_of_lt l9; clear hb; have hb := HC.out.cell (.head _); have a1 : W'.cell? ⟨b15, 1, none⟩ = some (.int .i64 6) := cell_at 1 hb; have l15 : b15 < W'.heap.size := lt_of_blk hb; have n15 : b15 ≠ W'.heap.size := Nat.ne_of_lt l15; clear hb; have hb := HC.out.cell (.tail _ (.head _)); have v0 : W'.cell? ⟨b10, 0, none⟩ = some (.int .u64 9) := cell_at 0 hb; have v1 : W'.cell? ⟨b10, 1, none⟩ = some (.string t) := cell_at 1 hb; have v2 : W'.cell? ⟨b10, 2, none⟩ = some (.bool true) := cell_at 2 hb; have l10 : b10 < W'.heap.size := lt_of_blk hb; have n10 : b10 ≠ W'.heap.size := Nat.ne_of_lt l10; clear hb; go_wp2_with fail; clear k0 k1 k2 k3 l9 n9 a1 l15 n15 v0 v1 v2 l10 n10; obtain ⟨bsm, hbsm⟩ : ∃ n, n = W'.heap.size := ⟨_, rfl⟩; replace HS : Hid _ := HS.out.box (keyCells 99 0 0 ⟨#[]⟩) 23; replace HC : Hid _ := HC.out.alloc (keyCells 99 0 0 ⟨#[]⟩) 23; rw [← hbsm] at HS HC ⊢; clear hbsm; generalize World.alloc W' _ = W' at HS HC ⊢; go_at_call 32; have hcc := unlock_m I A60 (S3 t) _ 6 (some ⟨bsm, 0, none⟩) 1 1 [k99] _ HS.out HC.out.wide (keysIn_box (HC.out.cell (.head _))) (fun a ha hw => hw.2 _ (.head _) (by cases ha; rfl)) rfl (by decide) (by decide); rw [st19 t _ (show (6 : Int) ≠ 5 by decide)] at hcc; refine hcc.mono ?_; clear hcc; rintro e w' ⟨rfl, q, rfl, hS⟩; replace HC : Hid _ := (HC.out.ch q).drop; replace HS : Hid _ := hS.drop; clear hS; generalize q.w = W' at HC HS ⊢; clear q; have hb := HC.out.cell (.tail _ (.tail _ (.head _))); have k0 : W'.cell? ⟨b9, 0, none⟩ = some (.int .i64 99) := cell_at 0 hb; have k1 : W'.cell? ⟨b9, 1, none⟩ = some (.int .i64 0) := cell_at 1 hb; have k2 : W'.cell? ⟨b9, 2, none⟩ = some (.int .i64 0) := cell_at 2 hb; have k3 : W'.cell? ⟨b9, 3, none⟩ = some (.string ⟨#[]⟩) := cell_at 3 hb; have l9 : b9 < W'.heap.size := lt_of_blk hb; have n9 : b9 ≠ W'.heap.size := Nat.ne_of_lt l9; clear hb; have hb := HC.out.cell (.head _); have a1 : W'.cell? ⟨b15, 1, none⟩ = some (.int .i64 6) := cell_at 1 hb; have l15 : b15 < W'.heap.size := lt_of_blk hb; have n15 : b15 ≠ W'.heap.size := Nat.ne_of_lt l15; clear hb; have hb := HC.out.cell (.tail _ (.head _)); have v0 : W'.cell? ⟨b10, 0, none⟩ = some (.int .u64 9) := cell_at 0 hb; have v1 : W'.cell? ⟨b10, 1, none⟩ = some (.string t) := cell_at 1 hb; have v2 : W'.cell? ⟨b10, 2, none⟩ = some (.bool true) := cell_at 2 hb; have l10 : b10 < W'.heap.size := lt_of_blk hb; have n10 : b10 ≠ W'.heap.size := Nat.ne_of_lt l10; clear hb; go_wp2_with fail; go_at_call 33; have hcc := still_m I A60 (S3 t) _ k99 5 9 t true _ HS.out.st; rw [st8] at hcc; refine hcc.mono ?_; clear hcc; rintro e w' ⟨rfl, q, rfl⟩; clear k0 k1 k2 k3 l9 n9 a1 l15 n15 v0 v1 v2 l10 n10; replace HS : Hid _ := HS.out.ext q; replace HC : Hid _ := HC.out.ext q; generalize q.w = W' at HS HC ⊢; clear q; have hb := HC.out.cell (.tail _ (.tail _ (.head _))); have k0 : W'.cell? ⟨b9, 0, none⟩ = some (.int .i64 99) := cell_at 0 hb; have k1 : W'.cell? ⟨b9, 1, none⟩ = some (.int .i64 0) := cell_at 1 hb; have k2 : W'.cell? ⟨b9, 2, none⟩ = some (.int .i64 0) := cell_at 2 hb; have k3 : W'.cell? ⟨b9, 3, none⟩ = some (.string ⟨#[]⟩) := cell_at 3 hb; have l9 : b9 < W'.heap.size := lt_of_blk hb; have n9 : b9 ≠ W'.heap.size := Nat.ne_of_lt l9; clear hb; have hb := HC.out.cell (.head _); have a1 : W'.cell? ⟨b15, 1, none⟩ = some (.int .i64 6) := cell_at 1 hb; have l15 : b15 < W'.heap.size := lt_of_blk hb; have n15 : b15 ≠ W'.heap.size := Nat.ne_of_lt l15; clear hb; have hb := HC.out.cell (.tail _ (.head _)); have v0 : W'.cell? ⟨b10, 0, none⟩ = some (.int .u64 9) := cell_at 0 hb; have v1 : W'.cell? ⟨b10, 1, none⟩ = some (.string t) := cell_at 1 hb; have v2 : W'.cell? ⟨b10, 2, none⟩ = some (.bool true) := cell_at 2 hb; have l10 : b10 < W'.heap.size := lt_of_blk hb; have n10 : b10 ≠ W'.heap.size := Nat.ne_of_lt l10; clear hb; go_wp2_with fail; go_at_call 33; have hcc := still_m I A60 (S3 t) _ k99 6 9 t true _ HS.out.st; rw [st9] at hcc; refine hcc.mono ?_; clear hcc; rintro e w' ⟨rfl, q, rfl⟩; clear k0 k1 k2 k3 l9 n9 a1 l15 n15 v0 v1 v2 l10 n10; replace HS : Hid _ := HS.out.ext q; replace HC : Hid _ := HC.out.ext q; generalize q.w = W' at HS HC ⊢; clear q; have hb := HC.out.cell (.tail _ (.tail _ (.head _))); have k0 : W'.cell? ⟨b9, 0, none⟩ = some (.int .i64 99) := cell_at 0 hb; have k1 : W'.cell? ⟨b9, 1, none⟩ = some (.int .i64 0) := cell_at 1 hb; have k2 : W'.cell? ⟨b9, 2, none⟩ = some (.int .i64 0) := cell_at 2 hb; have k3 : W'.cell? ⟨b9, 3, none⟩ = some (.string ⟨#[]⟩) := cell_at 3 hb; have l9 : b9 < W'.heap.size := lt_of_blk hb; have n9 : b9 ≠ W'.heap.size := Nat.ne_of_lt l9; clear hb; have hb := HC.out.cell (.head _); have a1 : W'.cell? ⟨b15, 1, none⟩ = some (.int .i64 6) := cell_at 1 hb; have l15 : b15 < W'.heap.size := lt_of_blk hb; have n15 : b15 ≠ W'.heap.size := Nat.ne_of_lt l15; clear hb; have hb := HC.out.cell (.tail _ (.head _)); have v0 : W'.cell? ⟨b10, 0, none⟩ = some (.int .u64 9) := cell_at 0 hb; have v1 : W'.cell? ⟨b10, 1, none⟩ = some (.string t) := cell_at 1 hb; have v2 : W'.cell? ⟨b10, 2, none⟩ = some (.bool true) := cell_at 2 hb; have l10 : b10 < W'.heap.size := lt_of_blk hb; have n10 : b10 ≠ W'.heap.size := Nat.ne_of_lt l10; clear hb; go_wp2_with fail; clear k0 k1 k2 k3 l9 n9 a1 l15 n15 v0 v1 v2 l10 n10; go_roundw; (case rel => exact ⟨HC.out.drop, HS.out.drop, i + 1, by go_num, by omega⟩); (case measure => simp [intOf]; omega)
        · have gw : (who == 5) = false := by simpa using hw5
          by_cases hk2 : kind = 2
          · subst hk2
            go_wp2_with fail
            obtain ⟨hC2, hS2⟩ := stays_turn4 (a := ⟨_, _, ⟨kd, ka, kb, ks⟩, kfa, kcap, keys, stamp, sw, stx, sh⟩) HC.out HS.out (by simp)
            obtain ⟨hC3, hS3, hsz⟩ := stays_ref (t := t) (n1 := W'.heap.size) hC2 hS2 (by simp); clear hC2 hS2 HC HS k0 k1 k2 k3 l9 n9 a0 a1 a2 a3 a4 a5 a6 a7 a8 a9 a10 l15 n15 f15; obtain ⟨n1, hn1⟩ : ∃ n1, n1 = W'.heap.size := ⟨_, rfl⟩; rw [← hn1] at hC3 hS3 hsz ⊢; clear hn1; have HC : Hid _ := hC3; have HS : Hid _ := hS3; clear hC3 hS3; generalize World.alloc (World.alloc (World.setCell _ _ _) _) _ = W' at HC HS hsz ⊢
            rw [← hsz]; clear hsz; replace HC : Hid _ := HC.out.drop.drop; replace HS : Hid _ := HS.out.drop.drop
            obtain ⟨bsl, hbsl⟩ : ∃ n, n = W'.heap.size := ⟨_, rfl⟩; replace HS : Hid _ := HS.out.box (keyCells 99 0 0 ⟨#[]⟩) 23; replace HC : Hid _ := HC.out.alloc (keyCells 99 0 0 ⟨#[]⟩) 23; rw [← hbsl] at HS HC ⊢; clear hbsl; generalize World.alloc W' _ = W' at HS HC ⊢; go_at_call 31; have hcc := free_m I A60 (S3 t) _ (some ⟨bsl, 0, none⟩) 1 1 [k99] _ HS.out HC.out.wide (keysIn_box (HC.out.cell (.head _))) (fun a ha hw => hw.2 _ (.head _) (by cases ha; rfl)) rfl (by decide); rw [st7] at hcc; refine hcc.mono ?_; clear hcc; rintro e w' ⟨rfl, q, rfl, hS⟩; replace HC : Hid _ := (HC.out.ch q).drop; replace HS : Hid _ := hS.drop; clear hS; generalize q.w = W' at HC HS ⊢; clear q; have hb := HC.out.cell (.tail _ (.tail _ (.head _))); have k0 : W'.cell? ⟨b9, 0, none⟩ = some (.int .i64 99) := cell_at 0 hb; have k1 : W'.cell? ⟨b9, 1, none⟩ = some (.int .i64 0) := cell_at 1 hb; have k2 : W'.cell? ⟨b9, 2, none⟩ = some (.int .i64 0) := cell_at 2 hb; have k3 : W'.cell? ⟨b9, 3, none⟩ = some (.string ⟨#[]⟩) := cell_at 3 hb; have l9 : b9 < W'.heap.size := lt_of_blk hb; have n9 : b9 ≠ W'.heap.size := Nat.ne_of_lt l9; clear hb; have hb := HC.out.cell (.head _); have a1 : W'.cell? ⟨b15, 1, none⟩ = some (.int .i64 who) := cell_at 1 hb; have l15 : b15 < W'.heap.size := lt_of_blk hb; have n15 : b15 ≠ W'.heap.size := Nat.ne_of_lt l15; clear hb; have hb := HC.out.cell (.tail _ (.head _)); have v0 : W'.cell? ⟨b10, 0, none⟩ = some (.int .u64 9) := cell_at 0 hb; have v1 : W'.cell? ⟨b10, 1, none⟩ = some (.string t) := cell_at 1 hb; have v2 : W'.cell? ⟨b10, 2, none⟩ = some (.bool true) := cell_at 2 hb; have l10 : b10 < W'.heap.size := lt_of_blk hb; have n10 : b10 ≠ W'.heap.size := Nat.ne_of_lt l10; clear hb; go_wp2_with fail; clear k0 k1 k2 k3 l9 n9 a1 l15 n15 v0 v1 v2 l10 n10; obtain ⟨bsm, hbsm⟩ : ∃ n, n = W'.heap.size := ⟨_, rfl⟩; replace HS : Hid _ := HS.out.box (keyCells 99 0 0 ⟨#[]⟩) 23; replace HC : Hid _ := HC.out.alloc (keyCells 99 0 0 ⟨#[]⟩) 23; rw [← hbsm] at HS HC ⊢; clear hbsm; generalize World.alloc W' _ = W' at HS HC ⊢; go_at_call 32; have hcc := unlock_m I A60 (S3 t) _ who (some ⟨bsm, 0, none⟩) 1 1 [k99] _ HS.out HC.out.wide (keysIn_box (HC.out.cell (.head _))) (fun a ha hw => hw.2 _ (.head _) (by cases ha; rfl)) rfl (by decide) (by decide); rw [st19 t _ hw5] at hcc; refine hcc.mono ?_; clear hcc; rintro e w' ⟨rfl, q, rfl, hS⟩; replace HC : Hid _ := (HC.out.ch q).drop; replace HS : Hid _ := hS.drop; clear hS; generalize q.w = W' at HC HS ⊢; clear q; have hb := HC.out.cell (.tail _ (.tail _ (.head _))); have k0 : W'.cell? ⟨b9, 0, none⟩ = some (.int .i64 99) := cell_at 0 hb; have k1 : W'.cell? ⟨b9, 1, none⟩ = some (.int .i64 0) := cell_at 1 hb; have k2 : W'.cell? ⟨b9, 2, none⟩ = some (.int .i64 0) := cell_at 2 hb; have k3 : W'.cell? ⟨b9, 3, none⟩ = some (.string ⟨#[]⟩) := cell_at 3 hb; have l9 : b9 < W'.heap.size := lt_of_blk hb; have n9 : b9 ≠ W'.heap.size := Nat.ne_of_lt l9; clear hb; have hb := HC.out.cell (.head _); have a1 : W'.cell? ⟨b15, 1, none⟩ = some (.int .i64 who) := cell_at 1 hb; have l15 : b15 < W'.heap.size := lt_of_blk hb; have n15 : b15 ≠ W'.heap.size := Nat.ne_of_lt l15; clear hb; have hb := HC.out.cell (.tail _ (.head _)); have v0 : W'.cell? ⟨b10, 0, none⟩ = some (.int .u64 9) := cell_at 0 hb; have v1 : W'.cell? ⟨b10, 1, none⟩ = some (.string t) := cell_at 1 hb; have v2 : W'.cell? ⟨b10, 2, none⟩ = some (.bool true) := cell_at 2 hb; have l10 : b10 < W'.heap.size := lt_of_blk hb; have n10 : b10 ≠ W'.heap.size := Nat.ne_of_lt l10; clear hb; go_wp2_with fail; go_at_call 33; have hcc := still_m I A60 (S3 t) _ k99 5 9 t true _ HS.out.st; rw [st8] at hcc; refine hcc.mono ?_; clear hcc; rintro e w' ⟨rfl, q, rfl⟩; clear k0 k1 k2 k3 l9 n9 a1 l15 n15 v0 v1 v2 l10 n10; replace HS : Hid _ := HS.out.ext q; replace HC : Hid _ := HC.out.ext q; generalize q.w = W' at HS HC ⊢; clear q; have hb := HC.out.cell (.tail _ (.tail _ (.head _))); have k0 : W'.cell? ⟨b9, 0, none⟩ = some (.int .i64 99) := cell_at 0 hb; have k1 : W'.cell? ⟨b9, 1, none⟩ = some (.int .i64 0) := cell_at 1 hb; have k2 : W'.cell? ⟨b9, 2, none⟩ = some (.int .i64 0) := cell_at 2 hb; have k3 : W'.cell? ⟨b9, 3, none⟩ = some (.string ⟨#[]⟩) := cell_at 3 hb; have l9 : b9 < W'.heap.size := lt_of_blk hb; have n9 : b9 ≠ W'.heap.size := Nat.ne_of_lt l9; clear hb; have hb := HC.out.cell (.head _); have a1 : W'.cell? ⟨b15, 1, none⟩ = some (.int .i64 who) := cell_at 1 hb; have l15 : b15 < W'.heap.size := lt_of_blk hb; have n15 : b15 ≠ W'.heap.size := Nat.ne_of_lt l15; clear hb; have hb := HC.out.cell (.tail _ (.head _)); have v0 : W'.cell? ⟨b10, 0, none⟩ = some (.int .u64 9) := cell_at 0 hb; have v1 : W'.cell? ⟨b10, 1, none⟩ = some (.string t) := cell_at 1 hb; have v2 : W'.cell? ⟨b10, 2, none⟩ = some (.bool true) := cell_at 2 hb; have l10 : b10 < W'.heap.size := lt_of_blk hb; have n10 : b10 ≠ W'.heap.size := Nat.ne_of_lt l10; clear hb; go_wp2_with fail; go_at_call 33; have hcc := still_m I A60 (S3 t) _ k99 6 9 t true _ HS.out.st; rw [st9] at hcc; refine hcc.mono ?_; clear hcc; rintro e w' ⟨rfl, q, rfl⟩; clear k0 k1 k2 k3 l9 n9 a1 l15 n15 v0 v1 v2 l10 n10; replace HS : Hid _ := HS.out.ext q; replace HC : Hid _ := HC.out.ext q; generalize q.w = W' at HS HC ⊢; clear q; have hb := HC.out.cell (.tail _ (.tail _ (.head _))); have k0 : W'.cell? ⟨b9, 0, none⟩ = some (.int .i64 99) := cell_at 0 hb; have k1 : W'.cell? ⟨b9, 1, none⟩ = some (.int .i64 0) := cell_at 1 hb; have k2 : W'.cell? ⟨b9, 2, none⟩ = some (.int .i64 0) := cell_at 2 hb; have k3 : W'.cell? ⟨b9, 3, none⟩ = some (.string ⟨#[]⟩) := cell_at 3 hb; have l9 : b9 < W'.heap.size := lt_of_blk hb; have n9 : b9 ≠ W'.heap.size := Nat.ne_of_lt l9; clear hb; have hb := HC.out.cell (.head _); have a1 : W'.cell? ⟨b15, 1, none⟩ = some (.int .i64 who) := cell_at 1 hb; have l15 : b15 < W'.heap.size := lt_of_blk hb; have n15 : b15 ≠ W'.heap.size := Nat.ne_of_lt l15; clear hb; have hb := HC.out.cell (.tail _ (.head _)); have v0 : W'.cell? ⟨b10, 0, none⟩ = some (.int .u64 9) := cell_at 0 hb; have v1 : W'.cell? ⟨b10, 1, none⟩ = some (.string t) := cell_at 1 hb; have v2 : W'.cell? ⟨b10, 2, none⟩ = some (.bool true) := cell_at 2 hb; have l10 : b10 < W'.heap.size := lt_of_blk hb; have n10 : b10 ≠ W'.heap.size := Nat.ne_of_lt l10; clear hb; go_wp2_with fail; clear k0 k1 k2 k3 l9 n9 a1 l15 n15 v0 v1 v2 l10 n10; go_roundw; (case rel => exact ⟨HC.out.drop, HS.out.drop, i + 1, by go_num, by omega⟩); (case measure => simp [intOf]; omega)
          · by_cases hk5 : kind = 5
            · subst hk5
              go_wp2_with fail
              obtain ⟨hC2, hS2⟩ := stays_turn4 (a := ⟨_, _, ⟨kd, ka, kb, ks⟩, kfa, kcap, keys, stamp, sw, stx, sh⟩) HC.out HS.out (by simp)
              obtain ⟨hC3, hS3, hsz⟩ := stays_ref (t := t) (n1 := W'.heap.size) hC2 hS2 (by simp); clear hC2 hS2 HC HS k0 k1 k2 k3 l9 n9 a0 a1 a2 a3 a4 a5 a6 a7 a8 a9 a10 l15 n15 f15; obtain ⟨n1, hn1⟩ : ∃ n1, n1 = W'.heap.size := ⟨_, rfl⟩; rw [← hn1] at hC3 hS3 hsz ⊢; clear hn1; have HC : Hid _ := hC3; have HS : Hid _ := hS3; clear hC3 hS3; generalize World.alloc (World.alloc (World.setCell _ _ _) _) _ = W' at HC HS hsz ⊢
              rw [← hsz]; clear hsz; replace HC : Hid _ := HC.out.drop.drop; replace HS : Hid _ := HS.out.drop.drop
              obtain ⟨bsl, hbsl⟩ : ∃ n, n = W'.heap.size := ⟨_, rfl⟩; replace HS : Hid _ := HS.out.box (keyCells 99 0 0 ⟨#[]⟩) 23; replace HC : Hid _ := HC.out.alloc (keyCells 99 0 0 ⟨#[]⟩) 23; rw [← hbsl] at HS HC ⊢; clear hbsl; generalize World.alloc W' _ = W' at HS HC ⊢; go_at_call 31; have hcc := free_m I A60 (S3 t) _ (some ⟨bsl, 0, none⟩) 1 1 [k99] _ HS.out HC.out.wide (keysIn_box (HC.out.cell (.head _))) (fun a ha hw => hw.2 _ (.head _) (by cases ha; rfl)) rfl (by decide); rw [st7] at hcc; refine hcc.mono ?_; clear hcc; rintro e w' ⟨rfl, q, rfl, hS⟩; replace HC : Hid _ := (HC.out.ch q).drop; replace HS : Hid _ := hS.drop; clear hS; generalize q.w = W' at HC HS ⊢; clear q; have hb := HC.out.cell (.tail _ (.tail _ (.head _))); have k0 : W'.cell? ⟨b9, 0, none⟩ = some (.int .i64 99) := cell_at 0 hb; have k1 : W'.cell? ⟨b9, 1, none⟩ = some (.int .i64 0) := cell_at 1 hb; have k2 : W'.cell? ⟨b9, 2, none⟩ = some (.int .i64 0) := cell_at 2 hb; have k3 : W'.cell? ⟨b9, 3, none⟩ = some (.string ⟨#[]⟩) := cell_at 3 hb; have l9 : b9 < W'.heap.size := lt_of_blk hb; have n9 : b9 ≠ W'.heap.size := Nat.ne_of_lt l9; clear hb; have hb := HC.out.cell (.head _); have a1 : W'.cell? ⟨b15, 1, none⟩ = some (.int .i64 who) := cell_at 1 hb; have l15 : b15 < W'.heap.size := lt_of_blk hb; have n15 : b15 ≠ W'.heap.size := Nat.ne_of_lt l15; clear hb; have hb := HC.out.cell (.tail _ (.head _)); have v0 : W'.cell? ⟨b10, 0, none⟩ = some (.int .u64 9) := cell_at 0 hb; have v1 : W'.cell? ⟨b10, 1, none⟩ = some (.string t) := cell_at 1 hb; have v2 : W'.cell? ⟨b10, 2, none⟩ = some (.bool true) := cell_at 2 hb; have l10 : b10 < W'.heap.size := lt_of_blk hb; have n10 : b10 ≠ W'.heap.size := Nat.ne_of_lt l10; clear hb; go_wp2_with fail; clear k0 k1 k2 k3 l9 n9 a1 l15 n15 v0 v1 v2 l10 n10; obtain ⟨bsm, hbsm⟩ : ∃ n, n = W'.heap.size := ⟨_, rfl⟩; replace HS : Hid _ := HS.out.box (keyCells 99 0 0 ⟨#[]⟩) 23; replace HC : Hid _ := HC.out.alloc (keyCells 99 0 0 ⟨#[]⟩) 23; rw [← hbsm] at HS HC ⊢; clear hbsm; generalize World.alloc W' _ = W' at HS HC ⊢; go_at_call 32; have hcc := unlock_m I A60 (S3 t) _ who (some ⟨bsm, 0, none⟩) 1 1 [k99] _ HS.out HC.out.wide (keysIn_box (HC.out.cell (.head _))) (fun a ha hw => hw.2 _ (.head _) (by cases ha; rfl)) rfl (by decide) (by decide); rw [st19 t _ hw5] at hcc; refine hcc.mono ?_; clear hcc; rintro e w' ⟨rfl, q, rfl, hS⟩; replace HC : Hid _ := (HC.out.ch q).drop; replace HS : Hid _ := hS.drop; clear hS; generalize q.w = W' at HC HS ⊢; clear q; have hb := HC.out.cell (.tail _ (.tail _ (.head _))); have k0 : W'.cell? ⟨b9, 0, none⟩ = some (.int .i64 99) := cell_at 0 hb; have k1 : W'.cell? ⟨b9, 1, none⟩ = some (.int .i64 0) := cell_at 1 hb; have k2 : W'.cell? ⟨b9, 2, none⟩ = some (.int .i64 0) := cell_at 2 hb; have k3 : W'.cell? ⟨b9, 3, none⟩ = some (.string ⟨#[]⟩) := cell_at 3 hb; have l9 : b9 < W'.heap.size := lt_of_blk hb; have n9 : b9 ≠ W'.heap.size := Nat.ne_of_lt l9; clear hb; have hb := HC.out.cell (.head _); have a1 : W'.cell? ⟨b15, 1, none⟩ = some (.int .i64 who) := cell_at 1 hb; have l15 : b15 < W'.heap.size := lt_of_blk hb; have n15 : b15 ≠ W'.heap.size := Nat.ne_of_lt l15; clear hb; have hb := HC.out.cell (.tail _ (.head _)); have v0 : W'.cell? ⟨b10, 0, none⟩ = some (.int .u64 9) := cell_at 0 hb; have v1 : W'.cell? ⟨b10, 1, none⟩ = some (.string t) := cell_at 1 hb; have v2 : W'.cell? ⟨b10, 2, none⟩ = some (.bool true) := cell_at 2 hb; have l10 : b10 < W'.heap.size := lt_of_blk hb; have n10 : b10 ≠ W'.heap.size := Nat.ne_of_lt l10; clear hb; go_wp2_with fail; go_at_call 33; have hcc := still_m I A60 (S3 t) _ k99 5 9 t true _ HS.out.st; rw [st8] at hcc; refine hcc.mono ?_; clear hcc; rintro e w' ⟨rfl, q, rfl⟩; clear k0 k1 k2 k3 l9 n9 a1 l15 n15 v0 v1 v2 l10 n10; replace HS : Hid _ := HS.out.ext q; replace HC : Hid _ := HC.out.ext q; generalize q.w = W' at HS HC ⊢; clear q; have hb := HC.out.cell (.tail _ (.tail _ (.head _))); have k0 : W'.cell? ⟨b9, 0, none⟩ = some (.int .i64 99) := cell_at 0 hb; have k1 : W'.cell? ⟨b9, 1, none⟩ = some (.int .i64 0) := cell_at 1 hb; have k2 : W'.cell? ⟨b9, 2, none⟩ = some (.int .i64 0) := cell_at 2 hb; have k3 : W'.cell? ⟨b9, 3, none⟩ = some (.string ⟨#[]⟩) := cell_at 3 hb; have l9 : b9 < W'.heap.size := lt_of_blk hb; have n9 : b9 ≠ W'.heap.size := Nat.ne_of_lt l9; clear hb; have hb := HC.out.cell (.head _); have a1 : W'.cell? ⟨b15, 1, none⟩ = some (.int .i64 who) := cell_at 1 hb; have l15 : b15 < W'.heap.size := lt_of_blk hb; have n15 : b15 ≠ W'.heap.size := Nat.ne_of_lt l15; clear hb; have hb := HC.out.cell (.tail _ (.head _)); have v0 : W'.cell? ⟨b10, 0, none⟩ = some (.int .u64 9) := cell_at 0 hb; have v1 : W'.cell? ⟨b10, 1, none⟩ = some (.string t) := cell_at 1 hb; have v2 : W'.cell? ⟨b10, 2, none⟩ = some (.bool true) := cell_at 2 hb; have l10 : b10 < W'.heap.size := lt_of_blk hb; have n10 : b10 ≠ W'.heap.size := Nat.ne_of_lt l10; clear hb; go_wp2_with fail; go_at_call 33; have hcc := still_m I A60 (S3 t) _ k99 6 9 t true _ HS.out.st; rw [st9] at hcc; refine hcc.mono ?_; clear hcc; rintro e w' ⟨rfl, q, rfl⟩; clear k0 k1 k2 k3 l9 n9 a1 l15 n15 v0 v1 v2 l10 n10; replace HS : Hid _ := HS.out.ext q; replace HC : Hid _ := HC.out.ext q; generalize q.w = W' at HS HC ⊢; clear q; have hb := HC.out.cell (.tail _ (.tail _ (.head _))); have k0 : W'.cell? ⟨b9, 0, none⟩ = some (.int .i64 99) := cell_at 0 hb; have k1 : W'.cell? ⟨b9, 1, none⟩ = some (.int .i64 0) := cell_at 1 hb; have k2 : W'.cell? ⟨b9, 2, none⟩ = some (.int .i64 0) := cell_at 2 hb; have k3 : W'.cell? ⟨b9, 3, none⟩ = some (.string ⟨#[]⟩) := cell_at 3 hb; have l9 : b9 < W'.heap.size := lt_of_blk hb; have n9 : b9 ≠ W'.heap.size := Nat.ne_of_lt l9; clear hb; have hb := HC.out.cell (.head _); have a1 : W'.cell? ⟨b15, 1, none⟩ = some (.int .i64 who) := cell_at 1 hb; have l15 : b15 < W'.heap.size := lt_of_blk hb; have n15 : b15 ≠ W'.heap.size := Nat.ne_of_lt l15; clear hb; have hb := HC.out.cell (.tail _ (.head _)); have v0 : W'.cell? ⟨b10, 0, none⟩ = some (.int .u64 9) := cell_at 0 hb; have v1 : W'.cell? ⟨b10, 1, none⟩ = some (.string t) := cell_at 1 hb; have v2 : W'.cell? ⟨b10, 2, none⟩ = some (.bool true) := cell_at 2 hb; have l10 : b10 < W'.heap.size := lt_of_blk hb; have n10 : b10 ≠ W'.heap.size := Nat.ne_of_lt l10; clear hb; go_wp2_with fail; clear k0 k1 k2 k3 l9 n9 a1 l15 n15 v0 v1 v2 l10 n10; go_roundw; (case rel => exact ⟨HC.out.drop, HS.out.drop, i + 1, by go_num, by omega⟩); (case measure => simp [intOf]; omega)
            · have g2 : (kind != 2) = true := by simpa using hk2
              have g5 : (kind != 5) = true := by simpa using hk5
              go_wp2_with fail
              obtain ⟨hC2, hS2⟩ := stays_turn4 (a := ⟨_, _, ⟨kd, ka, kb, ks⟩, kfa, kcap, keys, stamp, sw, stx, sh⟩) HC.out HS.out (by simp)
              obtain ⟨hC3, hS3, hsz⟩ := stays_ref (t := t) (n1 := W'.heap.size) hC2 hS2 (by simp); clear hC2 hS2 HC HS k0 k1 k2 k3 l9 n9 a0 a1 a2 a3 a4 a5 a6 a7 a8 a9 a10 l15 n15 f15; obtain ⟨n1, hn1⟩ : ∃ n1, n1 = W'.heap.size := ⟨_, rfl⟩; rw [← hn1] at hC3 hS3 hsz ⊢; clear hn1; have HC : Hid _ := hC3; have HS : Hid _ := hS3; clear hC3 hS3; generalize World.alloc (World.alloc (World.setCell _ _ _) _) _ = W' at HC HS hsz ⊢
              clear hsz; have hR := stays_run HC.out HS.out (by simp); have hcc := stays_does ⟨kind, who, k99, kfa, kcap, keys, stamp, sw, stx, sh⟩ hR HC.out.drop.drop.wide hw5 rfl hk2 hk5 HO.out.2.2.2.1; go_at_call 30; refine hcc.mono ?_; clear hcc hR; rintro e w' ⟨rfl, q, rfl, hS⟩; replace HC : Hid _ := HC.out.drop.drop.ch q; replace HS : Hid _ := hS; clear hS; generalize q.w = W' at HC HS ⊢; clear q; have hb := HC.out.cell (.tail _ (.tail _ (.head _))); have k0 : W'.cell? ⟨b9, 0, none⟩ = some (.int .i64 99) := cell_at 0 hb; have k1 : W'.cell? ⟨b9, 1, none⟩ = some (.int .i64 0) := cell_at 1 hb; have k2 : W'.cell? ⟨b9, 2, none⟩ = some (.int .i64 0) := cell_at 2 hb; have k3 : W'.cell? ⟨b9, 3, none⟩ = some (.string ⟨#[]⟩) := cell_at 3 hb; have l9 : b9 < W'.heap.size := lt_of_blk hb; have n9 : b9 ≠ W'.heap.size := Nat.ne_of_lt l9; clear hb; have hb := HC.out.cell (.head _); have a1 : W'.cell? ⟨b15, 1, none⟩ = some (.int .i64 who) := cell_at 1 hb; have l15 : b15 < W'.heap.size := lt_of_blk hb; have n15 : b15 ≠ W'.heap.size := Nat.ne_of_lt l15; clear hb; go_wp2_with fail; clear k0 k1 k2 k3 l9 n9 a1 l15 n15
              obtain ⟨bsl, hbsl⟩ : ∃ n, n = W'.heap.size := ⟨_, rfl⟩; replace HS : Hid _ := HS.out.box (keyCells 99 0 0 ⟨#[]⟩) 23; replace HC : Hid _ := HC.out.alloc (keyCells 99 0 0 ⟨#[]⟩) 23; rw [← hbsl] at HS HC ⊢; clear hbsl; generalize World.alloc W' _ = W' at HS HC ⊢; go_at_call 31; have hcc := free_m I A60 (S3 t) _ (some ⟨bsl, 0, none⟩) 1 1 [k99] _ HS.out HC.out.wide (keysIn_box (HC.out.cell (.head _))) (fun a ha hw => hw.2 _ (.head _) (by cases ha; rfl)) rfl (by decide); rw [st7] at hcc; refine hcc.mono ?_; clear hcc; rintro e w' ⟨rfl, q, rfl, hS⟩; replace HC : Hid _ := (HC.out.ch q).drop; replace HS : Hid _ := hS.drop; clear hS; generalize q.w = W' at HC HS ⊢; clear q; have hb := HC.out.cell (.tail _ (.tail _ (.head _))); have k0 : W'.cell? ⟨b9, 0, none⟩ = some (.int .i64 99) := cell_at 0 hb; have k1 : W'.cell? ⟨b9, 1, none⟩ = some (.int .i64 0) := cell_at 1 hb; have k2 : W'.cell? ⟨b9, 2, none⟩ = some (.int .i64 0) := cell_at 2 hb; have k3 : W'.cell? ⟨b9, 3, none⟩ = some (.string ⟨#[]⟩) := cell_at 3 hb; have l9 : b9 < W'.heap.size := lt_of_blk hb; have n9 : b9 ≠ W'.heap.size := Nat.ne_of_lt l9; clear hb; have hb := HC.out.cell (.head _); have a1 : W'.cell? ⟨b15, 1, none⟩ = some (.int .i64 who) := cell_at 1 hb; have l15 : b15 < W'.heap.size := lt_of_blk hb; have n15 : b15 ≠ W'.heap.size := Nat.ne_of_lt l15; clear hb; have hb := HC.out.cell (.tail _ (.head _)); have v0 : W'.cell? ⟨b10, 0, none⟩ = some (.int .u64 9) := cell_at 0 hb; have v1 : W'.cell? ⟨b10, 1, none⟩ = some (.string t) := cell_at 1 hb; have v2 : W'.cell? ⟨b10, 2, none⟩ = some (.bool true) := cell_at 2 hb; have l10 : b10 < W'.heap.size := lt_of_blk hb; have n10 : b10 ≠ W'.heap.size := Nat.ne_of_lt l10; clear hb; go_wp2_with fail; clear k0 k1 k2 k3 l9 n9 a1 l15 n15 v0 v1 v2 l10 n10; obtain ⟨bsm, hbsm⟩ : ∃ n, n = W'.heap.size := ⟨_, rfl⟩; replace HS : Hid _ := HS.out.box (keyCells 99 0 0 ⟨#[]⟩) 23; replace HC : Hid _ := HC.out.alloc (keyCells 99 0 0 ⟨#[]⟩) 23; rw [← hbsm] at HS HC ⊢; clear hbsm; generalize World.alloc W' _ = W' at HS HC ⊢; go_at_call 32; have hcc := unlock_m I A60 (S3 t) _ who (some ⟨bsm, 0, none⟩) 1 1 [k99] _ HS.out HC.out.wide (keysIn_box (HC.out.cell (.head _))) (fun a ha hw => hw.2 _ (.head _) (by cases ha; rfl)) rfl (by decide) (by decide); rw [st19 t _ hw5] at hcc; refine hcc.mono ?_; clear hcc; rintro e w' ⟨rfl, q, rfl, hS⟩; replace HC : Hid _ := (HC.out.ch q).drop; replace HS : Hid _ := hS.drop; clear hS; generalize q.w = W' at HC HS ⊢; clear q; have hb := HC.out.cell (.tail _ (.tail _ (.head _))); have k0 : W'.cell? ⟨b9, 0, none⟩ = some (.int .i64 99) := cell_at 0 hb; have k1 : W'.cell? ⟨b9, 1, none⟩ = some (.int .i64 0) := cell_at 1 hb; have k2 : W'.cell? ⟨b9, 2, none⟩ = some (.int .i64 0) := cell_at 2 hb; have k3 : W'.cell? ⟨b9, 3, none⟩ = some (.string ⟨#[]⟩) := cell_at 3 hb; have l9 : b9 < W'.heap.size := lt_of_blk hb; have n9 : b9 ≠ W'.heap.size := Nat.ne_of_lt l9; clear hb; have hb := HC.out.cell (.head _); have a1 : W'.cell? ⟨b15, 1, none⟩ = some (.int .i64 who) := cell_at 1 hb; have l15 : b15 < W'.heap.size := lt_of_blk hb; have n15 : b15 ≠ W'.heap.size := Nat.ne_of_lt l15; clear hb; have hb := HC.out.cell (.tail _ (.head _)); have v0 : W'.cell? ⟨b10, 0, none⟩ = some (.int .u64 9) := cell_at 0 hb; have v1 : W'.cell? ⟨b10, 1, none⟩ = some (.string t) := cell_at 1 hb; have v2 : W'.cell? ⟨b10, 2, none⟩ = some (.bool true) := cell_at 2 hb; have l10 : b10 < W'.heap.size := lt_of_blk hb; have n10 : b10 ≠ W'.heap.size := Nat.ne_of_lt l10; clear hb; go_wp2_with fail; go_at_call 33; have hcc := still_m I A60 (S3 t) _ k99 5 9 t true _ HS.out.st; rw [st8] at hcc; refine hcc.mono ?_; clear hcc; rintro e w' ⟨rfl, q, rfl⟩; clear k0 k1 k2 k3 l9 n9 a1 l15 n15 v0 v1 v2 l10 n10; replace HS : Hid _ := HS.out.ext q; replace HC : Hid _ := HC.out.ext q; generalize q.w = W' at HS HC ⊢; clear q; have hb := HC.out.cell (.tail _ (.tail _ (.head _))); have k0 : W'.cell? ⟨b9, 0, none⟩ = some (.int .i64 99) := cell_at 0 hb; have k1 : W'.cell? ⟨b9, 1, none⟩ = some (.int .i64 0) := cell_at 1 hb; have k2 : W'.cell? ⟨b9, 2, none⟩ = some (.int .i64 0) := cell_at 2 hb; have k3 : W'.cell? ⟨b9, 3, none⟩ = some (.string ⟨#[]⟩) := cell_at 3 hb; have l9 : b9 < W'.heap.size := lt_of_blk hb; have n9 : b9 ≠ W'.heap.size := Nat.ne_of_lt l9; clear hb; have hb := HC.out.cell (.head _); have a1 : W'.cell? ⟨b15, 1, none⟩ = some (.int .i64 who) := cell_at 1 hb; have l15 : b15 < W'.heap.size := lt_of_blk hb; have n15 : b15 ≠ W'.heap.size := Nat.ne_of_lt l15; clear hb; have hb := HC.out.cell (.tail _ (.head _)); have v0 : W'.cell? ⟨b10, 0, none⟩ = some (.int .u64 9) := cell_at 0 hb; have v1 : W'.cell? ⟨b10, 1, none⟩ = some (.string t) := cell_at 1 hb; have v2 : W'.cell? ⟨b10, 2, none⟩ = some (.bool true) := cell_at 2 hb; have l10 : b10 < W'.heap.size := lt_of_blk hb; have n10 : b10 ≠ W'.heap.size := Nat.ne_of_lt l10; clear hb; go_wp2_with fail; go_at_call 33; have hcc := still_m I A60 (S3 t) _ k99 6 9 t true _ HS.out.st; rw [st9] at hcc; refine hcc.mono ?_; clear hcc; rintro e w' ⟨rfl, q, rfl⟩; clear k0 k1 k2 k3 l9 n9 a1 l15 n15 v0 v1 v2 l10 n10; replace HS : Hid _ := HS.out.ext q; replace HC : Hid _ := HC.out.ext q; generalize q.w = W' at HS HC ⊢; clear q; have hb := HC.out.cell (.tail _ (.tail _ (.head _))); have k0 : W'.cell? ⟨b9, 0, none⟩ = some (.int .i64 99) := cell_at 0 hb; have k1 : W'.cell? ⟨b9, 1, none⟩ = some (.int .i64 0) := cell_at 1 hb; have k2 : W'.cell? ⟨b9, 2, none⟩ = some (.int .i64 0) := cell_at 2 hb; have k3 : W'.cell? ⟨b9, 3, none⟩ = some (.string ⟨#[]⟩) := cell_at 3 hb; have l9 : b9 < W'.heap.size := lt_of_blk hb; have n9 : b9 ≠ W'.heap.size := Nat.ne_of_lt l9; clear hb; have hb := HC.out.cell (.head _); have a1 : W'.cell? ⟨b15, 1, none⟩ = some (.int .i64 who) := cell_at 1 hb; have l15 : b15 < W'.heap.size := lt_of_blk hb; have n15 : b15 ≠ W'.heap.size := Nat.ne_of_lt l15; clear hb; have hb := HC.out.cell (.tail _ (.head _)); have v0 : W'.cell? ⟨b10, 0, none⟩ = some (.int .u64 9) := cell_at 0 hb; have v1 : W'.cell? ⟨b10, 1, none⟩ = some (.string t) := cell_at 1 hb; have v2 : W'.cell? ⟨b10, 2, none⟩ = some (.bool true) := cell_at 2 hb; have l10 : b10 < W'.heap.size := lt_of_blk hb; have n10 : b10 ≠ W'.heap.size := Nat.ne_of_lt l10; clear hb; go_wp2_with fail; clear k0 k1 k2 k3 l9 n9 a1 l15 n15 v0 v1 v2 l10 n10; go_roundw; (case rel => exact ⟨HC.out.drop, HS.out.drop, i + 1, by go_num, by omega⟩); (case measure => simp [intOf]; omega)
    · rename World => W'
      cases del
      · have hb := HC.out.cell (.tail _ (.head _)); have k0 : W'.cell? ⟨b9, 0, none⟩ = some (.int .i64 99) := cell_at 0 hb; have k1 : W'.cell? ⟨b9, 1, none⟩ = some (.int .i64 0) := cell_at 1 hb; have k2 : W'.cell? ⟨b9, 2, none⟩ = some (.int .i64 0) := cell_at 2 hb; have k3 : W'.cell? ⟨b9, 3, none⟩ = some (.string ⟨#[]⟩) := cell_at 3 hb; have l9 : b9 < W'.heap.size := lt_of_blk hb; have n9 : b9 ≠ W'.heap.size := Nat.ne_of_lt l9; clear hb
        have hb := HC.out.cell (.head _); have v0 : W'.cell? ⟨b10, 0, none⟩ = some (.int .u64 9) := cell_at 0 hb; have v1 : W'.cell? ⟨b10, 1, none⟩ = some (.string t) := cell_at 1 hb; have v2 : W'.cell? ⟨b10, 2, none⟩ = some (.bool true) := cell_at 2 hb; have l10 : b10 < W'.heap.size := lt_of_blk hb; have n10 : b10 ≠ W'.heap.size := Nat.ne_of_lt l10; clear hb
        go_wp2_with fail
        clear k0 k1 k2 k3 l9 n9 v0 v1 v2 l10 n10
        obtain ⟨bsl, hbsl⟩ : ∃ n, n = W'.heap.size := ⟨_, rfl⟩; replace HS : Hid _ := HS.out.box (keyCells 99 0 0 ⟨#[]⟩) 23; replace HC : Hid _ := HC.out.alloc (keyCells 99 0 0 ⟨#[]⟩) 23; rw [← hbsl] at HS HC ⊢; clear hbsl; generalize World.alloc W' _ = W' at HS HC ⊢
        go_at_call 32
        have hcc := unlock_m I A60 (S3 t) _ 5 (some ⟨bsl, 0, none⟩) 1 1 [k99] _ HS.out HC.out.wide (keysIn_box (HC.out.cell (.head _))) (fun a ha hw => hw.2 _ (.head _) (by cases ha; rfl)) rfl (by decide) (by decide)
        rw [st16 t] at hcc
        refine hcc.mono ?_
        clear hcc
        rintro e w' ⟨rfl, q, rfl, hS⟩
        replace HC : Hid _ := (HC.out.ch q).drop; replace HS : Hid _ := hS.drop; clear hS; generalize q.w = W' at HC HS ⊢; clear q
        have hb := HC.out.cell (.tail _ (.head _)); have k0 : W'.cell? ⟨b9, 0, none⟩ = some (.int .i64 99) := cell_at 0 hb; have k1 : W'.cell? ⟨b9, 1, none⟩ = some (.int .i64 0) := cell_at 1 hb; have k2 : W'.cell? ⟨b9, 2, none⟩ = some (.int .i64 0) := cell_at 2 hb; have k3 : W'.cell? ⟨b9, 3, none⟩ = some (.string ⟨#[]⟩) := cell_at 3 hb; have l9 : b9 < W'.heap.size := lt_of_blk hb; have n9 : b9 ≠ W'.heap.size := Nat.ne_of_lt l9; clear hb
        have hb := HC.out.cell (.head _); have v0 : W'.cell? ⟨b10, 0, none⟩ = some (.int .u64 9) := cell_at 0 hb; have v1 : W'.cell? ⟨b10, 1, none⟩ = some (.string t) := cell_at 1 hb; have v2 : W'.cell? ⟨b10, 2, none⟩ = some (.bool true) := cell_at 2 hb; have l10 : b10 < W'.heap.size := lt_of_blk hb; have n10 : b10 ≠ W'.heap.size := Nat.ne_of_lt l10; clear hb
        go_wp2_with fail
        go_at_call 28
        have hcc := read_m I _ _ _ k99 _ HS.out.st
        rw [st3] at hcc
        refine hcc.mono ?_
        clear hcc k0 k1 k2 k3 l9 n9 v0 v1 v2 l10 n10
        rintro e w' ⟨rfl, q, rfl⟩
        replace HS : Hid _ := HS.out.ext q; replace HC : Hid _ := HC.out.ext q; generalize q.w = W' at HS HC ⊢; clear q
        have hb := HC.out.cell (.tail _ (.head _)); have k0 : W'.cell? ⟨b9, 0, none⟩ = some (.int .i64 99) := cell_at 0 hb; have k1 : W'.cell? ⟨b9, 1, none⟩ = some (.int .i64 0) := cell_at 1 hb; have k2 : W'.cell? ⟨b9, 2, none⟩ = some (.int .i64 0) := cell_at 2 hb; have k3 : W'.cell? ⟨b9, 3, none⟩ = some (.string ⟨#[]⟩) := cell_at 3 hb; have l9 : b9 < W'.heap.size := lt_of_blk hb; have n9 : b9 ≠ W'.heap.size := Nat.ne_of_lt l9; clear hb
        have hb := HC.out.cell (.head _); have v0 : W'.cell? ⟨b10, 0, none⟩ = some (.int .u64 9) := cell_at 0 hb; have v1 : W'.cell? ⟨b10, 1, none⟩ = some (.string t) := cell_at 1 hb; have v2 : W'.cell? ⟨b10, 2, none⟩ = some (.bool true) := cell_at 2 hb; have l10 : b10 < W'.heap.size := lt_of_blk hb; have n10 : b10 ≠ W'.heap.size := Nat.ne_of_lt l10; clear hb
        go_wp2_with fail
        obtain ⟨b21, hb21⟩ : ∃ n, n = W'.heap.size := ⟨_, rfl⟩; replace HS : Hid _ := HS.out.box #[.int .u64 9, .string t, .bool true] 37; replace HC : Hid _ := HC.out.alloc #[.int .u64 9, .string t, .bool true] 37; rw [← hb21] at HS HC ⊢; clear hb21; generalize World.alloc W' _ = W' at HS HC ⊢
        clear k0 k1 k2 k3 l9 n9 v0 v1 v2 l10 n10
        go_at_call 33
        have hcc := still_m I A60 (S2 t) _ k99 6 9 t true _ HS.out.st
        rw [st17] at hcc
        refine hcc.mono ?_
        clear hcc
        rintro e w' ⟨rfl, q, rfl⟩
        replace HS : Hid _ := HS.out.ext q; replace HC : Hid _ := HC.out.ext q; generalize q.w = W' at HS HC ⊢; clear q
        have hb := HC.out.cell (.tail _ (.tail _ (.head _))); have k0 : W'.cell? ⟨b9, 0, none⟩ = some (.int .i64 99) := cell_at 0 hb; have k1 : W'.cell? ⟨b9, 1, none⟩ = some (.int .i64 0) := cell_at 1 hb; have k2 : W'.cell? ⟨b9, 2, none⟩ = some (.int .i64 0) := cell_at 2 hb; have k3 : W'.cell? ⟨b9, 3, none⟩ = some (.string ⟨#[]⟩) := cell_at 3 hb; have l9 : b9 < W'.heap.size := lt_of_blk hb; have n9 : b9 ≠ W'.heap.size := Nat.ne_of_lt l9; clear hb
        go_wp2_with fail
        clear k0 k1 k2 k3 l9 n9
        obtain ⟨bsm, hbsm⟩ : ∃ n, n = W'.heap.size := ⟨_, rfl⟩; replace HS : Hid _ := HS.out.box (keyCells 99 0 0 ⟨#[]⟩) 23; replace HC : Hid _ := HC.out.alloc (keyCells 99 0 0 ⟨#[]⟩) 23; rw [← hbsm] at HS HC ⊢; clear hbsm; generalize World.alloc W' _ = W' at HS HC ⊢
        go_at_call 31
        have hcc := free_m I A60 (S2 t) _ (some ⟨bsm, 0, none⟩) 1 1 [k99] _ HS.out HC.out.wide (keysIn_box (HC.out.cell (.head _))) (fun a ha hw => hw.2 _ (.head _) (by cases ha; rfl)) rfl (by decide)
        rw [st18] at hcc
        refine hcc.mono ?_
        clear hcc
        rintro e w' ⟨rfl, q, rfl, hS⟩
        replace HC : Hid _ := (HC.out.ch q).drop; replace HS : Hid _ := hS.drop; clear hS; generalize q.w = W' at HC HS ⊢; clear q
        go_wp2_with fail
        obtain ⟨q, hq⟩ := HC.out.fin
        go_ret
        exact ⟨rfl, q, hq⟩
      · have hb := HC.out.cell (.tail _ (.head _)); have k0 : W'.cell? ⟨b9, 0, none⟩ = some (.int .i64 99) := cell_at 0 hb; have k1 : W'.cell? ⟨b9, 1, none⟩ = some (.int .i64 0) := cell_at 1 hb; have k2 : W'.cell? ⟨b9, 2, none⟩ = some (.int .i64 0) := cell_at 2 hb; have k3 : W'.cell? ⟨b9, 3, none⟩ = some (.string ⟨#[]⟩) := cell_at 3 hb; have l9 : b9 < W'.heap.size := lt_of_blk hb; have n9 : b9 ≠ W'.heap.size := Nat.ne_of_lt l9; clear hb
        go_wp2_with fail
        clear k0 k1 k2 k3 l9 n9
        go_at_call 26
        have hcc := install_n I A60 (S3 t) _ k99 5 10 0 ⟨#[]⟩ false _ HS.out
        rw [st10] at hcc
        refine hcc.mono ?_
        clear hcc
        rintro e w' ⟨rfl, q, rfl, hS⟩
        replace HS : Hid _ := hS; replace HC : Hid _ := HC.out.ch q; clear hS; generalize q.w = W' at HS HC ⊢; clear q
        have hb := HC.out.cell (.tail _ (.head _)); have k0 : W'.cell? ⟨b9, 0, none⟩ = some (.int .i64 99) := cell_at 0 hb; have k1 : W'.cell? ⟨b9, 1, none⟩ = some (.int .i64 0) := cell_at 1 hb; have k2 : W'.cell? ⟨b9, 2, none⟩ = some (.int .i64 0) := cell_at 2 hb; have k3 : W'.cell? ⟨b9, 3, none⟩ = some (.string ⟨#[]⟩) := cell_at 3 hb; have l9 : b9 < W'.heap.size := lt_of_blk hb; have n9 : b9 ≠ W'.heap.size := Nat.ne_of_lt l9; clear hb
        go_wp2_with fail
        clear k0 k1 k2 k3 l9 n9
        go_at_call 28
        have hcc := read_m I _ _ _ k99 _ HS.out.st
        rw [st11] at hcc
        refine hcc.mono ?_
        clear hcc
        rintro e w' ⟨rfl, q, rfl⟩
        replace HS : Hid _ := HS.out.ext q; replace HC : Hid _ := HC.out.ext q; generalize q.w = W' at HS HC ⊢; clear q
        have hb := HC.out.cell (.tail _ (.head _)); have k0 : W'.cell? ⟨b9, 0, none⟩ = some (.int .i64 99) := cell_at 0 hb; have k1 : W'.cell? ⟨b9, 1, none⟩ = some (.int .i64 0) := cell_at 1 hb; have k2 : W'.cell? ⟨b9, 2, none⟩ = some (.int .i64 0) := cell_at 2 hb; have k3 : W'.cell? ⟨b9, 3, none⟩ = some (.string ⟨#[]⟩) := cell_at 3 hb; have l9 : b9 < W'.heap.size := lt_of_blk hb; have n9 : b9 ≠ W'.heap.size := Nat.ne_of_lt l9; clear hb
        have hb := HC.out.cell (.head _); have v0 : W'.cell? ⟨b10, 0, none⟩ = some (.int .u64 9) := cell_at 0 hb; have v1 : W'.cell? ⟨b10, 1, none⟩ = some (.string t) := cell_at 1 hb; have v2 : W'.cell? ⟨b10, 2, none⟩ = some (.bool true) := cell_at 2 hb; have l10 : b10 < W'.heap.size := lt_of_blk hb; have n10 : b10 ≠ W'.heap.size := Nat.ne_of_lt l10; clear hb
        have hE2 := run_eq_seen 10 ⟨#[]⟩ false
        go_wp2_with fail
        obtain ⟨b18, hb18⟩ : ∃ n, n = W'.heap.size := ⟨_, rfl⟩; replace HS : Hid _ := HS.out.box #[.int .u64 10, .string ⟨#[]⟩, .bool false] 37; replace HC : Hid _ := HC.out.alloc #[.int .u64 10, .string ⟨#[]⟩, .bool false] 37; rw [← hb18] at HS HC ⊢; clear hb18; generalize World.alloc W' _ = W' at HS HC ⊢
        clear k0 k1 k2 k3 l9 n9 v0 v1 v2 l10 n10
        go_at_call 33
        have hcc := still_m I A60 S4 _ k99 5 9 t true _ HS.out.st
        rw [st12] at hcc
        refine hcc.mono ?_
        clear hcc
        rintro e w' ⟨rfl, q, rfl⟩
        replace HS : Hid _ := HS.out.ext q; replace HC : Hid _ := HC.out.ext q; generalize q.w = W' at HS HC ⊢; clear q
        have hb := HC.out.cell (.tail _ (.tail _ (.head _))); have k0 : W'.cell? ⟨b9, 0, none⟩ = some (.int .i64 99) := cell_at 0 hb; have k1 : W'.cell? ⟨b9, 1, none⟩ = some (.int .i64 0) := cell_at 1 hb; have k2 : W'.cell? ⟨b9, 2, none⟩ = some (.int .i64 0) := cell_at 2 hb; have k3 : W'.cell? ⟨b9, 3, none⟩ = some (.string ⟨#[]⟩) := cell_at 3 hb; have l9 : b9 < W'.heap.size := lt_of_blk hb; have n9 : b9 ≠ W'.heap.size := Nat.ne_of_lt l9; clear hb
        have hb := HC.out.cell (.head _); have x0 : W'.cell? ⟨b18, 0, none⟩ = some (.int .u64 10) := cell_at 0 hb; have x1 : W'.cell? ⟨b18, 1, none⟩ = some (.string ⟨#[]⟩) := cell_at 1 hb; have x2 : W'.cell? ⟨b18, 2, none⟩ = some (.bool false) := cell_at 2 hb; clear hb
        go_wp2_with fail
        clear k0 k1 k2 k3 l9 n9 x0 x1 x2
        go_at_call 33
        have hcc := still_m I A60 S4 _ k99 6 10 ⟨#[]⟩ false _ HS.out.st
        rw [st13] at hcc
        refine hcc.mono ?_
        clear hcc
        rintro e w' ⟨rfl, q, rfl⟩
        replace HS : Hid _ := HS.out.ext q; replace HC : Hid _ := HC.out.ext q; generalize q.w = W' at HS HC ⊢; clear q
        have hb := HC.out.cell (.tail _ (.tail _ (.head _))); have k0 : W'.cell? ⟨b9, 0, none⟩ = some (.int .i64 99) := cell_at 0 hb; have k1 : W'.cell? ⟨b9, 1, none⟩ = some (.int .i64 0) := cell_at 1 hb; have k2 : W'.cell? ⟨b9, 2, none⟩ = some (.int .i64 0) := cell_at 2 hb; have k3 : W'.cell? ⟨b9, 3, none⟩ = some (.string ⟨#[]⟩) := cell_at 3 hb; have l9 : b9 < W'.heap.size := lt_of_blk hb; have n9 : b9 ≠ W'.heap.size := Nat.ne_of_lt l9; clear hb
        go_wp2_with fail
        clear k0 k1 k2 k3 l9 n9
        go_at_call 33
        have hcc := still_m I A60 S4 _ k99 6 8 ⟨#[]⟩ false _ HS.out.st
        rw [st14] at hcc
        refine hcc.mono ?_
        clear hcc
        rintro e w' ⟨rfl, q, rfl⟩
        replace HS : Hid _ := HS.out.ext q; replace HC : Hid _ := HC.out.ext q; generalize q.w = W' at HS HC ⊢; clear q
        have hb := HC.out.cell (.tail _ (.tail _ (.head _))); have k0 : W'.cell? ⟨b9, 0, none⟩ = some (.int .i64 99) := cell_at 0 hb; have k1 : W'.cell? ⟨b9, 1, none⟩ = some (.int .i64 0) := cell_at 1 hb; have k2 : W'.cell? ⟨b9, 2, none⟩ = some (.int .i64 0) := cell_at 2 hb; have k3 : W'.cell? ⟨b9, 3, none⟩ = some (.string ⟨#[]⟩) := cell_at 3 hb; have l9 : b9 < W'.heap.size := lt_of_blk hb; have n9 : b9 ≠ W'.heap.size := Nat.ne_of_lt l9; clear hb
        go_wp2_with fail
        clear k0 k1 k2 k3 l9 n9
        obtain ⟨bsm, hbsm⟩ : ∃ n, n = W'.heap.size := ⟨_, rfl⟩; replace HS : Hid _ := HS.out.box (keyCells 99 0 0 ⟨#[]⟩) 23; replace HC : Hid _ := HC.out.alloc (keyCells 99 0 0 ⟨#[]⟩) 23; rw [← hbsm] at HS HC ⊢; clear hbsm; generalize World.alloc W' _ = W' at HS HC ⊢
        go_at_call 31
        have hcc := free_m I A60 S4 _ (some ⟨bsm, 0, none⟩) 1 1 [k99] _ HS.out HC.out.wide (keysIn_box (HC.out.cell (.head _))) (fun a ha hw => hw.2 _ (.head _) (by cases ha; rfl)) rfl (by decide)
        rw [st15] at hcc
        refine hcc.mono ?_
        clear hcc
        rintro e w' ⟨rfl, q, rfl, hS⟩
        replace HC : Hid _ := (HC.out.ch q).drop; replace HS : Hid _ := hS.drop; clear hS; generalize q.w = W' at HC HS ⊢; clear q
        obtain ⟨fv, l, hst, -, -⟩ := HS.out.st.ex
        have hA : Hid _ := hst.ar
        have s0 : W'.cell? ⟨I.s, 0, none⟩ = some (.pointer (some ⟨I.a, 0, none⟩)) := cell_at 0 hst.st
        clear hst
        go_wp2_with fail
        go_at_call 34
        refine (len_any _ _ _ _ _ _ hA.out).mono ?_
        rintro e w' ⟨rfl, rfl⟩
        go_wp2_with fail
        obtain ⟨q, hq⟩ := HC.out.fin
        go_ret
        exact ⟨rfl, q, hq⟩
end Go.Proofs.Cob
