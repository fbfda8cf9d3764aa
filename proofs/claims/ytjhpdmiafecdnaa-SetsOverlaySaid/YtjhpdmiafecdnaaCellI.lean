/-
  The cells' store (layer 9): drop.
-/
import Derived.Test.YtjhpdmiafecdnaaCellH
namespace Go.Proofs.Cob
open Go Go.RowKit Go.Cob
set_option linter.unusedSimpArgs false
set_option linter.unusedVariables false

/-- A store whose free slots are counted. -/
structure StN (w : World) (I : Ids) (A : ArenaSt) (L : List (Key × Cl)) (F : Nat → Prop) : Prop where
  st : StM w I A L F
  fl : ((A.free.length + A.taken.length : Nat) : Int) ≤ A.fresh
theorem StN.few {w : World} {I : Ids} {A : ArenaSt} {L : List (Key × Cl)} {F : Nat → Prop} (h : StN w I A L F) : A.free.length ≤ 1048576 := by
  have h1 := h.fl; have h2 := h.st.hi; have h3 := h.st.top; omega

theorem aput_length {α β : Type} [DecidableEq α] (l : List (α × β)) (k : α) (v : β) : (aput l k v).length ≤ l.length + 1 := by
  induction l with
  | nil => simp [aput]
  | cons p l ih => simp only [aput]; split <;> simp; omega
theorem adel_length {α β : Type} [DecidableEq α] (l : List (α × β)) (k : α) (v : β) (h : aget l k = some v) : (adel l k).length + 1 = l.length := by
  obtain ⟨l1, l2, e1, e2, -⟩ := aget_cases h
  rw [e2, e1]; simp; omega
theorem adel_sub {α β : Type} [DecidableEq α] {l : List (α × β)} {k : α} : (adel l k).Sublist l := by
  induction l with
  | nil => exact .slnil
  | cons p l ih =>
    simp only [adel]
    split
    · exact List.sublist_cons_self ..
    · exact ih.cons_cons _

theorem take_fl {A A' : ArenaSt} {s : Int} (h : takeA A = some (s, A')) (fl : ((A.free.length + A.taken.length : Nat) : Int) ≤ A.fresh) : ((A'.free.length + A'.taken.length : Nat) : Int) ≤ A'.fresh := by
  unfold takeA at h
  split at h
  · split at h
    · cases h
    · simp only [Option.some.injEq, Prod.mk.injEq] at h
      obtain ⟨rfl, rfl⟩ := h
      have := aput_length A.taken A.fresh true
      simp only
      omega
  · rename_i hf
    simp only [Option.some.injEq, Prod.mk.injEq] at h
    obtain ⟨rfl, rfl⟩ := h
    have := aput_length A.taken (A.free.getLastD 0) true
    have := List.length_pos_iff.2 hf
    simp only [List.length_dropLast]
    omega
theorem freed_fl {A : ArenaSt} {sl gen : Int} (h : liveA A sl gen = true) (fl : ((A.free.length + A.taken.length : Nat) : Int) ≤ A.fresh) : (((freedA A sl).free.length + (freedA A sl).taken.length : Nat) : Int) ≤ (freedA A sl).fresh := by
  unfold liveA at h
  cases hg : aget A.taken sl with
  | none => rw [hg] at h; simp at h
  | some b =>
    have := adel_length A.taken sl b hg
    simp only [freedA, List.length_append, List.length_cons, List.length_nil]
    omega

def dropM (A : ArenaSt) (L : List (Key × Cl)) (k : Key) : ArenaSt × List (Key × Cl) :=
  match aget L k with
  | none => (A, L)
  | some z => (if liveA A z.sl z.gen then freedA A z.sl else A, adel L k)

theorem foot_del {I : Ids} {fv : Value} {l : List (Key × Slot)} {k : Key} {b : Nat} (h : Foot I fv (adel l k) b) : Foot I fv l b := by
  unfold Foot at *
  rcases h with h | h | h | h | h | h | ⟨p, hp, h⟩
  · exact .inl h
  · exact .inr (.inl h)
  · exact .inr (.inr (.inl h))
  · exact .inr (.inr (.inr (.inl h)))
  · exact .inr (.inr (.inr (.inr (.inl h))))
  · exact .inr (.inr (.inr (.inr (.inr (.inl h)))))
  · exact .inr (.inr (.inr (.inr (.inr (.inr ⟨p, adel_sub.subset hp, h⟩)))))

theorem StoreAt.delete {w : World} {I : Ids} {fv : Value} {A : ArenaSt} {l : List (Key × Slot)} (h : StoreAt w I fv A l) {k : Key} {ob : Obj} (hM : MapAt keyV slotV (putO w I.m ob) I.m (adel l k)) : StoreAt (putO w I.m ob) I fv A (adel l k) := by
  have hrow : ∀ b, fv.ownBlock = some b → b ≠ I.m := fun b hb => by
    obtain ⟨cur, hc⟩ := rowBlk h.ar.2.2.2.1 hb
    exact fun e => h.mp.ne_cells hc e.symm
  refine ⟨?_, ?_, hM, ?_, ?_, h.mg, h.mt⟩
  · rw [putO_other _ (fun e => h.mp.ne_cells h.st e.symm)]; exact h.st
  · exact h.ar.keep (putO_other _ (fun e => h.mp.ne_cells h.ar.1 e.symm)) (putO_other _ (Ne.symm h.mg)) (putO_other _ (Ne.symm h.mt)) (fun b hb => putO_other _ (hrow b hb))
  · intro p hp
    have := h.slots p (adel_sub.subset hp)
    show (putO w I.m ob).heap[_]? = _
    rw [putO_other _ (fun e => h.mp.ne_cells this e.symm)]; exact this
  · exact h.nodup.sublist (adel_sub.map _)

theorem arenaFree_any (a g t h : Nat) (fv : Value) (A : ArenaSt) (sl gen : Int) (w : World) (hA : ArenaAt w a g t fv A) (hh : w.heap[h]? = some (.cells #[.int .i64 sl, .int .i64 gen] 143 (0, 0))) (hlen : A.free.length ≤ 1048576) :
    Calls Try.prog 196 #[.pointer (some ⟨a, 0, none⟩), one143 h] w fun e w' => e = .returned (.int .i64 (if liveA A sl gen then 0 else 51)) ∧ ∃ p : Ch (fun b => b = a ∨ b = g ∨ b = t ∨ fv.ownBlock = some b) w, w' = p.w ∧
      ∃ fv', (∀ b, fv'.ownBlock = some b → fv.ownBlock = some b ∨ w.heap.size ≤ b) ∧ ArenaAt p.w a g t fv' (if liveA A sl gen then freedA A sl else A) := by
  cases hl : liveA A sl gen
  · refine (arenaFree_not a g t h fv A sl gen w hA hh hl).mono ?_
    rintro e w' ⟨rfl, p, rfl⟩
    exact ⟨rfl, p.up _, rfl, fv, fun b hb => .inl hb, hA.ext p⟩
  · refine (arenaFree_ok a g t h fv A sl gen w hA hh hl hlen).mono ?_
    rintro e w' ⟨rfl, p, rfl, fv', k, hk, hk2, hA'⟩
    refine ⟨rfl, p, rfl, fv', fun b hb => ?_, hA'⟩
    have : k = b := Option.some.inj (hk.symm.trans hb)
    subst this
    exact hk2

theorem StoreAt.arena2 {w : World} {I : Ids} {fv fv' : Value} {A A' : ArenaSt} {l : List (Key × Slot)} (h : StoreAt w I fv A l) (p : Ch (fun b => b = I.a ∨ b = I.g ∨ b = I.t ∨ fv.ownBlock = some b) w) (hA : ArenaAt p.w I.a I.g I.t fv' A') : StoreAt p.w I fv' A' l := by
  have nk : ∀ {b : Nat} {c : Array Value} {t : TypeId}, w.heap[b]? = some (.cells c t (0, 0)) → t ≠ 200 → t ≠ 3 → ¬ (b = I.a ∨ b = I.g ∨ b = I.t ∨ fv.ownBlock = some b) := fun hb t1 t2 hh => by
    rcases hh with h' | h' | h' | h'
    · exact blkNe hb h.ar.1 t1 h'
    · exact h.ar.2.1.ne_cells hb h'.symm
    · exact h.ar.2.2.1.ne_cells hb h'.symm
    · obtain ⟨cur, hc⟩ := rowBlk h.ar.2.2.2.1 h'
      exact blkNe hb hc t2 rfl
  have nm : ¬ (I.m = I.a ∨ I.m = I.g ∨ I.m = I.t ∨ fv.ownBlock = some I.m) := fun hh => by
    rcases hh with h' | h' | h' | h'
    · exact h.mp.ne_cells h.ar.1 h'
    · exact h.mg h'
    · exact h.mt h'
    · obtain ⟨cur, hc⟩ := rowBlk h.ar.2.2.2.1 h'
      exact h.mp.ne_cells hc rfl
  exact ⟨p.blk h.st (nk h.st (by decide) (by decide)), hA, h.mp.keep (p.same _ h.mp.lt nm), fun q hq => p.blk (h.slots q hq) (nk (h.slots q hq) (by decide) (by decide)), h.nodup, h.mg, h.mt⟩

set_option maxRecDepth 4000 in
set_option maxHeartbeats 1600000 in
theorem drop_m (I : Ids) (A : ArenaSt) (L : List (Key × Cl)) (F : Nat → Prop) (k : Key) (w : World) (h : StN w I A L F) (hF : ∀ b, w.heap.size ≤ b → F b) (z0 : Cl) (hz0 : aget L k = some z0) :
    Calls Try.prog 130 #[.pointer (some ⟨I.s, 0, none⟩), keyV k] w fun e w' => e = .returned (.tuple #[]) ∧ ∃ p : Ch F w, w' = p.w ∧ StN p.w I (dropM A L k).1 (dropM A L k).2 F := by
  have hfew := h.few
  have hfl := h.fl
  obtain ⟨⟨⟨fv, l, h1, h2, h3⟩, h4, h5, h6⟩, h7⟩ := h
  have hm : aget L k = (aget l k).map Slot.cl := by rw [← h2]; exact aget_map (fun z => Slot.cl z) l k
  obtain ⟨z, hz⟩ : ∃ z, aget l k = some z := by
    rw [hz0] at hm
    cases hg : aget l k with
    | none => rw [hg] at hm; simp at hm
    | some z => exact ⟨z, rfl⟩
  have hzc : z0 = z.cl := by rw [hz0, hz] at hm; simpa using hm
  have hD : dropM A L k = (if liveA A z.sl z.gen then freedA A z.sl else A, adel L k) := by unfold dropM; rw [hz0, hzc]
  rw [hD]
  obtain ⟨kd, ka, kb, ks⟩ := k
  obtain ⟨W, hW⟩ : ∃ W, W = w.alloc (.cells (keyCells kd ka kb ks) 23) := ⟨_, rfl⟩
  have hkb : W.heap[w.heap.size]? = some (.cells (keyCells kd ka kb ks) 23 (0, 0)) := by rw [hW]; exact heap_alloc_at _ _
  have hS : StoreAt W I fv A l := by rw [hW]; exact h1.alloc _
  have fin : ∀ p : Ch F W, ∃ q : Ch F w, p.w = q.w := fun p => ⟨((Ch.refl _ w).alloc _).onto hW p (fun b hb h => h), rfl⟩
  have hWs : W.heap.size = w.heap.size + 1 := by rw [hW]; simp
  have hbF : ∀ b, b = I.a ∨ b = I.g ∨ b = I.t ∨ fv.ownBlock = some b → F b := fun b hb => h3 b (by unfold Foot; rcases hb with h | h | h | h <;> simp [h])
  have hmF : F I.m := h3 _ (by simp [Foot])
  go_enter Try.func130, Try.ntmps130
  clear h1
  go_wp2_with fail
  rw [← hW]
  have HWs : Hid (W.heap.size = w.heap.size + 1) := hWs
  clear hW hWs hm hz0 hzc hD
  have hzW := hS.slots _ (aget_mem hz)
  have hne := hS.ne hzW
  obtain ⟨n1, n2, n3, n4, n5, n6⟩ := hne
  have hArW := hS.ar
  have nk : ∀ {b : Nat} {c : Array Value} {t : TypeId}, W.heap[b]? = some (.cells c t (0, 0)) → t ≠ 200 → t ≠ 3 → ¬ (b = I.a ∨ b = I.g ∨ b = I.t ∨ fv.ownBlock = some b) := fun hb t1 t2 hh => by
    rcases hh with h | h | h | h
    · exact blkNe hb hS.ar.1 t1 h
    · exact hS.ar.2.1.ne_cells hb h.symm
    · exact hS.ar.2.2.1.ne_cells hb h.symm
    · obtain ⟨cur, hc⟩ := rowBlk hS.ar.2.2.2.1 h
      exact blkNe hb hc t2 rfl
  have nm : ¬ (I.m = I.a ∨ I.m = I.g ∨ I.m = I.t ∨ fv.ownBlock = some I.m) := fun hh => by
    rcases hh with h | h | h | h
    · exact hS.mp.ne_cells hS.ar.1 h
    · exact hS.mg h
    · exact hS.mt h
    · obtain ⟨cur, hc⟩ := rowBlk hS.ar.2.2.2.1 h
      exact hS.mp.ne_cells hc rfl
  have k0 : ∀ p : Ch (fun b => b = I.a ∨ b = I.g ∨ b = I.t ∨ fv.ownBlock = some b) W, p.w.cell? ⟨w.heap.size, 0, none⟩ = some (.int .i64 kd) := fun p => cell_at 0 (p.blk hkb (nk hkb (by decide) (by decide)))
  have k1 : ∀ p : Ch (fun b => b = I.a ∨ b = I.g ∨ b = I.t ∨ fv.ownBlock = some b) W, p.w.cell? ⟨w.heap.size, 1, none⟩ = some (.int .i64 ka) := fun p => cell_at 1 (p.blk hkb (nk hkb (by decide) (by decide)))
  have k2 : ∀ p : Ch (fun b => b = I.a ∨ b = I.g ∨ b = I.t ∨ fv.ownBlock = some b) W, p.w.cell? ⟨w.heap.size, 2, none⟩ = some (.int .i64 kb) := fun p => cell_at 2 (p.blk hkb (nk hkb (by decide) (by decide)))
  have k3 : ∀ p : Ch (fun b => b = I.a ∨ b = I.g ∨ b = I.t ∨ fv.ownBlock = some b) W, p.w.cell? ⟨w.heap.size, 3, none⟩ = some (.string ks) := fun p => cell_at 3 (p.blk hkb (nk hkb (by decide) (by decide)))
  have m0 : ∀ p : Ch (fun b => b = I.a ∨ b = I.g ∨ b = I.t ∨ fv.ownBlock = some b) W, p.w.cell? ⟨I.s, 0, none⟩ = some (.pointer (some ⟨I.a, 0, none⟩)) := fun p => cell_at 0 (p.blk hS.st (nk hS.st (by decide) (by decide)))
  have m1 : ∀ p : Ch (fun b => b = I.a ∨ b = I.g ∨ b = I.t ∨ fv.ownBlock = some b) W, p.w.cell? ⟨I.s, 1, none⟩ = some (.map (some I.m)) := fun p => cell_at 1 (p.blk hS.st (nk hS.st (by decide) (by decide)))
  have z0 : ∀ p : Ch (fun b => b = I.a ∨ b = I.g ∨ b = I.t ∨ fv.ownBlock = some b) W, p.w.cell? ⟨z.x, 0, none⟩ = some (.int .i64 z.sl) := fun p => cell_at 0 (p.blk hzW (nk hzW (by decide) (by decide)))
  have z1 : ∀ p : Ch (fun b => b = I.a ∨ b = I.g ∨ b = I.t ∨ fv.ownBlock = some b) W, p.w.cell? ⟨z.x, 1, none⟩ = some (.int .i64 z.gen) := fun p => cell_at 1 (p.blk hzW (nk hzW (by decide) (by decide)))
  have hMp : ∀ p : Ch (fun b => b = I.a ∨ b = I.g ∨ b = I.t ∨ fv.ownBlock = some b) W, MapAt keyV slotV p.w I.m l := fun p => hS.mp.keep (p.same _ hS.mp.lt nm)
  refine wp_region_ch (fun b => b = I.a ∨ b = I.g ∨ b = I.t ∨ fv.ownBlock = some b) (by kernel_rfl) (by kernel_rfl) (fun p hp => ?_)
  have hAp : ArenaAt p.w I.a I.g I.t fv A := hS.ar.keep (by rw [hp]) (by rw [hp]) (by rw [hp]) (fun b _ => by rw [hp])
  clear hp
  (repeat (first | (refine wpMix_skip rfl rfl ?_) | (refine wpMix_step (fun K hK => ?_); go_simp; (with_reducible (refine hK _ _ ?_)); clear hK K)))
  refine wpMix_look (K := key_law) (encV := slotV) (k := ⟨kd, ka, kb, ks⟩) (l := l) (c := false) rfl _ _ rfl Try.underlying56 z178 rfl rfl (fun w' ⟨q, hq⟩ => by rw [hq]; exact hMp q) (v := .pointer (some ⟨z.x, 0, none⟩)) (by rw [hz]; rfl) ?_
  (repeat (first | (refine wpMix_skip rfl rfl ?_) | (refine wpMix_step (fun K hK => ?_); go_simp; (with_reducible (refine hK _ _ ?_)); clear hK K)))
  refine wpMix_step (fun K hK => ?_); go_simp
  refine ⟨⟨p.alloc _, rfl⟩, hK _ _ ?_⟩; clear hK K
  (repeat (first | (refine wpMix_skip rfl rfl ?_) | (refine wpMix_step (fun K hK => ?_); go_simp; (with_reducible (refine hK _ _ ?_)); clear hK K)))
  refine wpMix_step (fun K hK => ?_); go_simp
  refine (arenaFree_any I.a I.g I.t p.w.heap.size fv A z.sl z.gen _ (hAp.ext ((Ch.refl NoS p.w).alloc _)) (heap_alloc_at _ _) hfew).mono ?_
  rintro e w' ⟨rfl, q, rfl, fv', hfv', hA'⟩
  generalize (if liveA A z.sl z.gen = true then (0 : Int) else 51) = rv
  have Hfv : Hid (∀ b, fv'.ownBlock = some b → fv.ownBlock = some b ∨ (p.w.alloc (.cells #[.int .i64 z.sl, .int .i64 z.gen] 143)).heap.size ≤ b) := hfv'
  have Hps : Hid (W.heap.size ≤ p.w.heap.size) := p.size
  obtain ⟨r, hr⟩ : ∃ r : Ch (fun b => b = I.a ∨ b = I.g ∨ b = I.t ∨ fv.ownBlock = some b) W, q.w = r.w := ⟨(p.alloc (.cells #[.int .i64 z.sl, .int .i64 z.gen] 143)).then q (fun _ _ h => h), rfl⟩
  rw [hr] at hA'
  rw [hr]
  have hS1 := hS.arena2 r hA'
  have hk1 := r.blk hkb (nk hkb (by decide) (by decide))
  have fin1 : ∀ q : Ch F r.w, ∃ q' : Ch F w, q.w = q'.w := fun q => fin ((r.mono (T := F) (fun b _ hb => hbF b hb)).then q (fun _ _ h => h))
  refine ⟨⟨r, rfl⟩, hK _ _ ?_⟩; clear hK K hfv' hr
  refine wpMix_nil ?_
  clear k0 k1 k2 k3 m0 m1 z0 z1 hMp hAp hA' fin hS hArW hkb hzW
  generalize r.w = W1 at hS1 hk1 fin1 ⊢
  go_wp2_with fail
  have k0 : ∀ p : Ch (fun b => b = I.m) W1, p.w.cell? ⟨w.heap.size, 0, none⟩ = some (.int .i64 kd) := fun p => cell_at 0 (p.blk hk1 (fun e => hS1.mp.ne_cells hk1 e.symm))
  have k1 : ∀ p : Ch (fun b => b = I.m) W1, p.w.cell? ⟨w.heap.size, 1, none⟩ = some (.int .i64 ka) := fun p => cell_at 1 (p.blk hk1 (fun e => hS1.mp.ne_cells hk1 e.symm))
  have k2 : ∀ p : Ch (fun b => b = I.m) W1, p.w.cell? ⟨w.heap.size, 2, none⟩ = some (.int .i64 kb) := fun p => cell_at 2 (p.blk hk1 (fun e => hS1.mp.ne_cells hk1 e.symm))
  have k3 : ∀ p : Ch (fun b => b = I.m) W1, p.w.cell? ⟨w.heap.size, 3, none⟩ = some (.string ks) := fun p => cell_at 3 (p.blk hk1 (fun e => hS1.mp.ne_cells hk1 e.symm))
  have m1 : ∀ p : Ch (fun b => b = I.m) W1, p.w.cell? ⟨I.s, 1, none⟩ = some (.map (some I.m)) := fun p => cell_at 1 (p.blk hS1.st (fun e => hS1.mp.ne_cells hS1.st e.symm))
  refine wp_region_ch (fun b => b = I.m) (by kernel_rfl) (by kernel_rfl) (fun s hs => ?_)
  have hS2 : StoreAt s.w I fv' _ l := hS1.keep (fun b _ => by rw [hs])
  clear hs
  (repeat (first | (refine wpMix_skip rfl rfl ?_) | (refine wpMix_step (fun K hK => ?_); go_simp; (with_reducible (refine hK _ _ ?_)); clear hK K)))
  refine wpMix_del (K := key_law) (encV := slotV) (k := ⟨kd, ka, kb, ks⟩) (l := l) rfl _ _ _ rfl Try.underlying56 rfl rfl hS2.mp (fun ob hM => ⟨⟨s.putO I.m ob (fun _ => rfl), rfl⟩, ?_⟩)
  refine wpMix_nil ?_
  have hS3 := hS2.delete hM
  obtain ⟨r2, hr2⟩ := fin1 (((s.mono (T := F) (fun b _ e => e ▸ hmF))).putO I.m ob (fun _ => hmF))
  go_end0
  refine ⟨rfl, r2, hr2, hr2 ▸ ⟨⟨⟨fv', _, hS3, ?_, ?_⟩, ?_, ?_, ?_⟩, ?_⟩⟩
  · exact (adel_map (fun z => Slot.cl z) l _).trans (by rw [← h2])
  · intro b hb
    have hb2 := foot_del hb
    unfold Foot at hb2
    have h3' := h3 b
    unfold Foot at h3'
    rcases hb2 with h | h | h | h | h | h | h
    · exact h3' (.inl h)
    · exact h3' (.inr (.inl h))
    · exact h3' (.inr (.inr (.inl h)))
    · exact h3' (.inr (.inr (.inr (.inl h))))
    · exact h3' (.inr (.inr (.inr (.inr (.inl h)))))
    · rcases Hfv.out b h with h | h
      · exact h3' (.inr (.inr (.inr (.inr (.inr (.inl h))))))
      · refine hF b ?_
        have h1 := Hps.out; have h2 := HWs.out
        simp at h; omega
    · exact h3' (.inr (.inr (.inr (.inr (.inr (.inr h))))))
  · split <;> simpa [freedA] using h4
  · split <;> simpa [freedA] using h5
  · split <;> simpa [freedA] using h6
  · split
    · rename_i hl; exact freed_fl hl h7
    · exact h7
end Go.Proofs.Cob
