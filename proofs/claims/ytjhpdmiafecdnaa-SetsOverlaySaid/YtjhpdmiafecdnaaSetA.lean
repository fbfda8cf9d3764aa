/-
  Layer 13: a transaction's sets in memory: maps.Clone; New, See, Seen, Get, Put.
-/
import Derived.Test.YtjhpdmiafecdnaaSeqB
import Derived.Test.YtjhpdmiafecdnaaScene
import Derived.Shelf.SlMaps.Clone
namespace Go.Proofs.Cob
open Go Go.RowKit Go.Cob
set_option linter.unusedSimpArgs false
set_option linter.unusedVariables false

set_option maxRecDepth 4000 in
theorem clone_run (b : Nat) (es : Array MapEntry) (clock : Nat) (w : World) (hb : w.heap[b]? = some (.map es clock)) :
    Calls Try.prog 159 #[.map (some b)] w fun e w' => e = .returned (.map (some w.heap.size)) ∧ w' = w.alloc (.map es clock) := by
  have hq := fun w => run_eql_map_nil_sl (P := Try.prog) w 230 _ _ (some b) Try.underlying230
  go_enter Try.func159, Try.ntmps159
  go_wp2_with fail
  rw [run_callFunc_extern Try.func209 (by kernel_rfl) (by kernel_rfl) (by kernel_rfl) (e := Extern.MapsClone.clone) (by kernel_rfl), run_maps_clone_sl w 230 hb]
  simp only [Result.andThen]
  rw [Oper.upon_value]
  go_wp2_with fail
  rw [run_typeAssert_map_sl _ 230 20 _ _ _ Try.underlying230]
  simp only [Result.andThen]
  rw [Oper.upon_value]
  go_wp2_with fail
  go_ret
  exact ⟨rfl, rfl⟩

structure Sn where
  wd : Int
  tx : ByteArray
  has : Bool
  deriving DecidableEq
structure Tx where
  tx : ByteArray
  has : Bool
  deriving DecidableEq
abbrev snV (s : Sn) : Value := .agg #[.int .u64 s.wd, .string s.tx, .bool s.has]
abbrev txV (t : Tx) : Value := .agg #[.string t.tx, .bool t.has]

/-- A transaction's sets in memory, their blocks within F. -/
structure SetM (w : World) (s : Nat) (S : List (Key × Sn)) (W M : List (Key × Tx)) (F : Nat → Prop) : Prop where
  ex : ∃ a b c, w.heap[s]? = some (.cells #[.map (some a), .map (some b), .map (some c)] 232 (0, 0)) ∧ MapAt keyV snV w a S ∧ MapAt keyV txV w b W ∧ MapAt keyV txV w c M ∧ (a ≠ b ∧ a ≠ c ∧ b ≠ c) ∧ F a ∧ F b ∧ F c
  fs : F s
theorem SetM.keep {w w' : World} {s : Nat} {S : List (Key × Sn)} {W M : List (Key × Tx)} {F : Nat → Prop} (h : SetM w s S W M F) (e : ∀ b, F b → b < w.heap.size → w'.heap[b]? = w.heap[b]?) : SetM w' s S W M F := by
  obtain ⟨⟨a, b, c, h1, h2, h3, h4, h5, fa, fb, fc⟩, fs⟩ := h
  exact ⟨⟨a, b, c, (e s fs (lt_of_blk h1)).trans h1, h2.keep (e a fa h2.lt), h3.keep (e b fb h3.lt), h4.keep (e c fc h4.lt), h5, fa, fb, fc⟩, fs⟩
theorem SetM.ext {w : World} {s : Nat} {S : List (Key × Sn)} {W M : List (Key × Tx)} {F : Nat → Prop} (h : SetM w s S W M F) (p : Ext w) : SetM p.w s S W M F := h.keep fun b _ hl => p.same b hl id
theorem SetM.ch {w : World} {s : Nat} {S : List (Key × Sn)} {W M : List (Key × Tx)} {F T : Nat → Prop} (h : SetM w s S W M F) (p : Ch T w) (hT : ∀ b, T b → ¬ F b) : SetM p.w s S W M F := h.keep fun b hf hl => p.same b hl (fun ht => hT b ht hf)
theorem SetM.mono {w : World} {s : Nat} {S : List (Key × Sn)} {W M : List (Key × Tx)} {F G : Nat → Prop} (h : SetM w s S W M F) (hF : ∀ b, b < w.heap.size → F b → G b) : SetM w s S W M G := by
  obtain ⟨⟨a, b, c, h1, h2, h3, h4, h5, fa, fb, fc⟩, fs⟩ := h
  exact ⟨⟨a, b, c, h1, h2, h3, h4, h5, hF a h2.lt fa, hF b h3.lt fb, hF c h4.lt fc⟩, hF s (lt_of_blk h1) fs⟩
theorem SetM.box {w0 W : World} {bs : List Box} {s : Nat} {S : List (Key × Sn)} {Wr M : List (Key × Tx)} (h : SetM W s S Wr M (Wide w0 bs)) (c : Array Value) (t : TypeId) : SetM (W.alloc (.cells c t)) s S Wr M (Wide w0 ((W.heap.size, t, c) :: bs)) :=
  (h.mono (G := Wide w0 ((W.heap.size, t, c) :: bs)) fun b hb hw => ⟨hw.1, fun x hx => by
    rcases List.mem_cons.1 hx with rfl | hx
    · exact Nat.ne_of_lt hb
    · exact hw.2 x hx⟩).ext ((Ch.refl NoS W).alloc _)
theorem SetM.drop {w0 W : World} {bs : List Box} {x : Box} {s : Nat} {S : List (Key × Sn)} {Wr M : List (Key × Tx)} (h : SetM W s S Wr M (Wide w0 (x :: bs))) : SetM W s S Wr M (Wide w0 bs) := h.mono fun b _ hw => ⟨hw.1, fun y hy => hw.2 y (.tail _ hy)⟩

theorem z37 : ∀ w, (zeroValue 37).run Try.prog w = .ok (.agg #[.int .u64 0, .string ⟨#[]⟩, .bool false]) w := Try.zeroValue37
theorem z235 : ∀ w, (zeroValue 235).run Try.prog w = .ok (.agg #[.string ⟨#[]⟩, .bool false]) w := Try.zeroValue235
def unseenM (S : List (Key × Sn)) (k : Key) : Bool := (aget S k).isNone
def seenM (S : List (Key × Sn)) (k : Key) : Sn × Bool := match aget S k with | none => (⟨0, ⟨#[]⟩, false⟩, false) | some v => (v, true)
def getM (S : List (Key × Sn)) (W : List (Key × Tx)) (k : Key) : (ByteArray × Bool) × Bool := match aget W k with | some t => ((t.tx, t.has), true) | none => (((seenM S k).1.tx, (seenM S k).1.has), (seenM S k).2)
abbrev stObj3 (a b c : Nat) : Obj := .cells #[.map (some a), .map (some b), .map (some c)] 232 (0, 0)
set_option maxRecDepth 4000 in
theorem unseen_s (s : Nat) (S : List (Key × Sn)) (W M : List (Key × Tx)) (F : Nat → Prop) (k : Key) (w : World) (h : SetM w s S W M F) :
    Calls Try.prog 157 #[.pointer (some ⟨s, 0, none⟩), keyV k] w fun e w' => e = .returned (.bool (unseenM S k)) ∧ ∃ p : Ext w, w' = p.w := by
  obtain ⟨⟨a, b, c, h1, h2, h3, h4, h5, -⟩, -⟩ := h
  obtain ⟨kd, ka, kb, ks⟩ := k; obtain ⟨W', hW⟩ : ∃ W', W' = w.alloc (.cells (keyCells kd ka kb ks) 23) := ⟨_, rfl⟩; obtain ⟨bk, hbk⟩ : ∃ n, n = w.heap.size := ⟨_, rfl⟩; have hkb : W'.heap[bk]? = some (.cells (keyCells kd ka kb ks) 23 (0, 0)) := (by rw [hW, hbk]; exact heap_alloc_at _ _); replace h1 : W'.heap[s]? = some (stObj3 a b c) := (by rw [hW]; exact heap_alloc_blk _ h1); replace h2 : MapAt keyV snV W' a S := (by rw [hW]; exact h2.ext ((Ch.refl NoS w).alloc _)); replace h3 : MapAt keyV txV W' b W := (by rw [hW]; exact h3.ext ((Ch.refl NoS w).alloc _)); replace h4 : MapAt keyV txV W' c M := (by rw [hW]; exact h4.ext ((Ch.refl NoS w).alloc _)); have fin : ∀ p : Ext W', ∃ q : Ext w, p.w = q.w := (fun p => ⟨((Ch.refl NoS w).alloc _).onto hW p (fun b hb h => h), rfl⟩)
  have s0 : ∀ p : Ext W', p.w.cell? ⟨s, 0, none⟩ = some (.map (some a)) := (fun p => cell_at 0 (p.blkE h1)); have s1 : ∀ p : Ext W', p.w.cell? ⟨s, 1, none⟩ = some (.map (some b)) := (fun p => cell_at 1 (p.blkE h1)); have s2 : ∀ p : Ext W', p.w.cell? ⟨s, 2, none⟩ = some (.map (some c)) := (fun p => cell_at 2 (p.blkE h1)); have k0 : ∀ p : Ext W', p.w.cell? ⟨bk, 0, none⟩ = some (.int .i64 kd) := (fun p => cell_at 0 (p.blkE hkb)); have k1 : ∀ p : Ext W', p.w.cell? ⟨bk, 1, none⟩ = some (.int .i64 ka) := (fun p => cell_at 1 (p.blkE hkb)); have k2 : ∀ p : Ext W', p.w.cell? ⟨bk, 2, none⟩ = some (.int .i64 kb) := (fun p => cell_at 2 (p.blkE hkb)); have k3 : ∀ p : Ext W', p.w.cell? ⟨bk, 3, none⟩ = some (.string ks) := (fun p => cell_at 3 (p.blkE hkb))
  clear h1 h3 h4 hkb s1 s2
  unfold unseenM
  cases hg : aget S ⟨kd, ka, kb, ks⟩ with
  | none =>
    go_enter Try.func157, Try.ntmps157
    go_wp2_with fail
    rw [← hbk, ← hW]
    clear hW hbk
    refine wp_region_ch NoS (by kernel_rfl) (by kernel_rfl) (fun p hp => ?_)
    clear hp
    (repeat (first | (refine wpMix_skip rfl rfl ?_) | (refine wpMix_step (fun K hK => ?_); go_simp; (with_reducible (refine hK _ _ ?_)); clear hK K)))
    refine wpMix_look (K := key_law) (encV := snV) (k := ⟨kd, ka, kb, ks⟩) (l := S) (c := true) rfl _ _ rfl Try.underlying229 z37 rfl rfl (fun w' ⟨q, hq⟩ => by rw [hq]; exact h2.ext q) (v := (.agg #[.int .u64 0, .string ⟨#[]⟩, .bool false])) (by rw [hg]; rfl) ?_; rw [hg]
    (repeat (first | (refine wpMix_skip rfl rfl ?_) | (refine wpMix_step (fun K hK => ?_); go_simp; (with_reducible (refine hK _ _ ?_)); clear hK K)))
    refine wpMix_step (fun K hK => ?_); go_simp; refine ⟨⟨p.alloc _, rfl⟩, hK _ _ ?_⟩; clear hK K; (repeat (first | (refine wpMix_skip rfl rfl ?_) | (refine wpMix_step (fun K hK => ?_); go_simp; (with_reducible (refine hK _ _ ?_)); clear hK K))); refine wpMix_step (fun K hK => ?_); go_simp; obtain ⟨b5, hb5⟩ : ∃ n, n = p.w.heap.size := ⟨_, rfl⟩; obtain ⟨p2, hp2⟩ : ∃ p2 : Ext W', p.w.alloc (.cells #[.int .u64 0, .string ⟨#[]⟩, .bool false] 37) = p2.w := ⟨p.alloc _, rfl⟩; have hv : p2.w.heap[b5]? = some (.cells #[.int .u64 0, .string ⟨#[]⟩, .bool false] 37 (0, 0)) := (by rw [← hp2, hb5]; exact heap_alloc_at _ _); rw [← hb5, hp2]; refine ⟨⟨p2, rfl⟩, hK _ _ ?_⟩; clear hK K hp2 hb5 p
    (repeat (first | (refine wpMix_skip rfl rfl ?_) | (refine wpMix_step (fun K hK => ?_); go_simp; (with_reducible (refine hK _ _ ?_)); clear hK K)))
    refine wpMix_nil ?_
    go_wp2_with fail
    go_ret
    exact ⟨rfl, fin p2⟩
  | some v =>
    obtain ⟨vd, vt, vh⟩ := v
    go_enter Try.func157, Try.ntmps157
    go_wp2_with fail
    rw [← hbk, ← hW]
    clear hW hbk
    refine wp_region_ch NoS (by kernel_rfl) (by kernel_rfl) (fun p hp => ?_)
    clear hp
    (repeat (first | (refine wpMix_skip rfl rfl ?_) | (refine wpMix_step (fun K hK => ?_); go_simp; (with_reducible (refine hK _ _ ?_)); clear hK K)))
    refine wpMix_look (K := key_law) (encV := snV) (k := ⟨kd, ka, kb, ks⟩) (l := S) (c := true) rfl _ _ rfl Try.underlying229 z37 rfl rfl (fun w' ⟨q, hq⟩ => by rw [hq]; exact h2.ext q) (v := (.agg #[.int .u64 vd, .string vt, .bool vh])) (by rw [hg]; rfl) ?_; rw [hg]
    (repeat (first | (refine wpMix_skip rfl rfl ?_) | (refine wpMix_step (fun K hK => ?_); go_simp; (with_reducible (refine hK _ _ ?_)); clear hK K)))
    refine wpMix_step (fun K hK => ?_); go_simp; refine ⟨⟨p.alloc _, rfl⟩, hK _ _ ?_⟩; clear hK K; (repeat (first | (refine wpMix_skip rfl rfl ?_) | (refine wpMix_step (fun K hK => ?_); go_simp; (with_reducible (refine hK _ _ ?_)); clear hK K))); refine wpMix_step (fun K hK => ?_); go_simp; obtain ⟨b5, hb5⟩ : ∃ n, n = p.w.heap.size := ⟨_, rfl⟩; obtain ⟨p2, hp2⟩ : ∃ p2 : Ext W', p.w.alloc (.cells #[.int .u64 vd, .string vt, .bool vh] 37) = p2.w := ⟨p.alloc _, rfl⟩; have hv : p2.w.heap[b5]? = some (.cells #[.int .u64 vd, .string vt, .bool vh] 37 (0, 0)) := (by rw [← hp2, hb5]; exact heap_alloc_at _ _); rw [← hb5, hp2]; refine ⟨⟨p2, rfl⟩, hK _ _ ?_⟩; clear hK K hp2 hb5 p
    (repeat (first | (refine wpMix_skip rfl rfl ?_) | (refine wpMix_step (fun K hK => ?_); go_simp; (with_reducible (refine hK _ _ ?_)); clear hK K)))
    refine wpMix_nil ?_
    go_wp2_with fail
    go_ret
    exact ⟨rfl, fin p2⟩
def seeM (S : List (Key × Sn)) (k : Key) (v : Sn) : Int × List (Key × Sn) := if !v.tx.toList.isEmpty && !v.has then (2, S) else match aget S k with | some _ => (31, S) | none => (0, aput S k v)
theorem SetM.see {w : World} {s a b c : Nat} {S : List (Key × Sn)} {W M : List (Key × Tx)} {F : Nat → Prop} {ob : Obj} {S' : List (Key × Sn)} (h1 : w.heap[s]? = some (stObj3 a b c)) (h2 : MapAt keyV snV w a S) (h3 : MapAt keyV txV w b W) (h4 : MapAt keyV txV w c M) (h5 : a ≠ b ∧ a ≠ c ∧ b ≠ c) (hF : F s ∧ F a ∧ F b ∧ F c)
    (h : MapAt keyV snV (putO w a ob) a S') : SetM (putO w a ob) s S' W M F :=
  ⟨⟨a, b, c, (putO_other _ (fun e => h2.ne_cells h1 e.symm)).trans h1, h, h3.keep (putO_other _ (Ne.symm h5.1)), h4.keep (putO_other _ (Ne.symm h5.2.1)), h5, hF.2⟩, hF.1⟩
theorem SetM.put {w : World} {s a b c : Nat} {S : List (Key × Sn)} {W M : List (Key × Tx)} {F : Nat → Prop} {ob : Obj} {W' : List (Key × Tx)} (h1 : w.heap[s]? = some (stObj3 a b c)) (h2 : MapAt keyV snV w a S) (h3 : MapAt keyV txV w b W) (h4 : MapAt keyV txV w c M) (h5 : a ≠ b ∧ a ≠ c ∧ b ≠ c) (hF : F s ∧ F a ∧ F b ∧ F c)
    (h : MapAt keyV txV (putO w b ob) b W') : SetM (putO w b ob) s S W' M F :=
  ⟨⟨a, b, c, (putO_other _ (fun e => h3.ne_cells h1 e.symm)).trans h1, h2.keep (putO_other _ h5.1), h, h4.keep (putO_other _ (Ne.symm h5.2.2)), h5, hF.2⟩, hF.1⟩
set_option maxRecDepth 4000 in
set_option maxHeartbeats 1600000 in
theorem see_s (s : Nat) (S : List (Key × Sn)) (W M : List (Key × Tx)) (F : Nat → Prop) (k : Key) (v : Sn) (w : World) (h : SetM w s S W M F) :
    Calls Try.prog 53 #[.pointer (some ⟨s, 0, none⟩), keyV k, snV v] w fun e w' => e = .returned (.int .i64 (seeM S k v).1) ∧ ∃ p : Ch F w, w' = p.w ∧ SetM p.w s (seeM S k v).2 W M F := by
  have HS : Hid _ := h
  obtain ⟨⟨a, b, c, h1, h2, h3, h4, h5, hF⟩, fs⟩ := h
  obtain ⟨vd, vt, vh⟩ := v
  obtain ⟨kd, ka, kb, ks⟩ := k
  obtain ⟨W', hW⟩ : ∃ W', W' = (w.alloc (.cells (keyCells kd ka kb ks) 23)).alloc (.cells #[.int .u64 vd, .string vt, .bool vh] 37) := ⟨_, rfl⟩
  obtain ⟨bk, hbk⟩ : ∃ n, n = w.heap.size := ⟨_, rfl⟩
  have hkb : W'.heap[bk]? = some (.cells (keyCells kd ka kb ks) 23 (0, 0)) := by rw [hW, hbk]; exact heap_alloc_blk _ (heap_alloc_at _ _)
  have hvb : W'.heap[bk + 1]? = some (.cells #[.int .u64 vd, .string vt, .bool vh] 37 (0, 0)) := by rw [hW, hbk]; exact heap_alloc_eq _ (by simp)
  replace h1 : W'.heap[s]? = some (stObj3 a b c) := by rw [hW]; exact heap_alloc_blk _ (heap_alloc_blk _ h1)
  replace h2 : MapAt keyV snV W' a S := by rw [hW]; exact h2.ext (((Ch.refl NoS w).alloc _).alloc _)
  replace h3 : MapAt keyV txV W' b W := by rw [hW]; exact h3.ext (((Ch.refl NoS w).alloc _).alloc _)
  replace h4 : MapAt keyV txV W' c M := by rw [hW]; exact h4.ext (((Ch.refl NoS w).alloc _).alloc _)
  have fin : ∀ p : Ext W', ∃ q : Ext w, p.w = q.w := fun p => ⟨(((Ch.refl NoS w).alloc _).alloc _).onto hW p (fun b hb h => h), rfl⟩
  have finF : ∀ p : Ch F W', ∃ q : Ch F w, p.w = q.w := fun p => ⟨(((Ch.refl F w).alloc _).alloc _).onto hW p (fun b hb h => h), rfl⟩
  have s0 : ∀ p : Ext W', p.w.cell? ⟨s, 0, none⟩ = some (.map (some a)) := (fun p => cell_at 0 (p.blkE h1)); have s1 : ∀ p : Ext W', p.w.cell? ⟨s, 1, none⟩ = some (.map (some b)) := (fun p => cell_at 1 (p.blkE h1)); have s2 : ∀ p : Ext W', p.w.cell? ⟨s, 2, none⟩ = some (.map (some c)) := (fun p => cell_at 2 (p.blkE h1)); have k0 : ∀ p : Ext W', p.w.cell? ⟨bk, 0, none⟩ = some (.int .i64 kd) := (fun p => cell_at 0 (p.blkE hkb)); have k1 : ∀ p : Ext W', p.w.cell? ⟨bk, 1, none⟩ = some (.int .i64 ka) := (fun p => cell_at 1 (p.blkE hkb)); have k2 : ∀ p : Ext W', p.w.cell? ⟨bk, 2, none⟩ = some (.int .i64 kb) := (fun p => cell_at 2 (p.blkE hkb)); have k3 : ∀ p : Ext W', p.w.cell? ⟨bk, 3, none⟩ = some (.string ks) := (fun p => cell_at 3 (p.blkE hkb))
  have v0 : ∀ p : Ext W', p.w.cell? ⟨bk + 1, 0, none⟩ = some (.int .u64 vd) := fun p => cell_at 0 (p.blkE hvb)
  have v1 : ∀ p : Ext W', p.w.cell? ⟨bk + 1, 1, none⟩ = some (.string vt) := fun p => cell_at 1 (p.blkE hvb)
  have v2 : ∀ p : Ext W', p.w.cell? ⟨bk + 1, 2, none⟩ = some (.bool vh) := fun p => cell_at 2 (p.blkE hvb)
  have HF : Hid _ := hF
  have HFs : Hid _ := fs
  have H5 : Hid _ := h5
  clear hF fs h5
  have htri : vt.toList = [] ∨ (¬ vt.toList = [] ∧ vh = true) ∨ (¬ vt.toList = [] ∧ vh = false) := by
    cases vh <;> by_cases h : vt.toList = [] <;> simp [h]
  rcases htri with he | ⟨he, rfl⟩ | ⟨he, rfl⟩
  all_goals cases hg : aget S ⟨kd, ka, kb, ks⟩
  case inl.none => (have e : seeM S ⟨kd, ka, kb, ks⟩ ⟨vd, vt, vh⟩ = (0, aput S ⟨kd, ka, kb, ks⟩ ⟨vd, vt, vh⟩) := (by unfold seeM; simp only [hg]; simp [he]); have E : Hid _ := e; clear e; go_enter Try.func53, Try.ntmps53; go_wp2_with fail; rw [← hbk, ← hW]; clear hW hbk; refine wp_region_ch NoS (by kernel_rfl) (by kernel_rfl) (fun p hp => ?_); clear hp; (repeat (first | (refine wpMix_skip rfl rfl ?_) | (refine wpMix_step (fun K hK => ?_); go_simp; (with_reducible (refine hK _ _ ?_)); clear hK K))); refine wpMix_look (K := key_law) (encV := snV) (k := ⟨kd, ka, kb, ks⟩) (l := S) (c := true) rfl _ _ rfl Try.underlying229 z37 rfl rfl (fun w' ⟨q, hq⟩ => by rw [hq]; exact h2.ext q) (v := (.agg #[.int .u64 0, .string ⟨#[]⟩, .bool false])) (by rw [hg]; rfl) ?_; rw [hg]; (repeat (first | (refine wpMix_skip rfl rfl ?_) | (refine wpMix_step (fun K hK => ?_); go_simp; (with_reducible (refine hK _ _ ?_)); clear hK K))); refine wpMix_step (fun K hK => ?_); go_simp; refine ⟨⟨p.alloc _, rfl⟩, hK _ _ ?_⟩; clear hK K; (repeat (first | (refine wpMix_skip rfl rfl ?_) | (refine wpMix_step (fun K hK => ?_); go_simp; (with_reducible (refine hK _ _ ?_)); clear hK K))); refine wpMix_step (fun K hK => ?_); go_simp; obtain ⟨b5, hb5⟩ : ∃ n, n = p.w.heap.size := ⟨_, rfl⟩; obtain ⟨p2, hp2⟩ : ∃ p2 : Ext W', p.w.alloc (.cells #[.int .u64 0, .string ⟨#[]⟩, .bool false] 37) = p2.w := ⟨p.alloc _, rfl⟩; have hv : p2.w.heap[b5]? = some (.cells #[.int .u64 0, .string ⟨#[]⟩, .bool false] 37 (0, 0)) := (by rw [← hp2, hb5]; exact heap_alloc_at _ _); rw [← hb5, hp2]; refine ⟨⟨p2, rfl⟩, hK _ _ ?_⟩; clear hK K hp2 hb5 p; (repeat (first | (refine wpMix_skip rfl rfl ?_) | (refine wpMix_step (fun K hK => ?_); go_simp; (with_reducible (refine hK _ _ ?_)); clear hK K))); refine wpMix_nil ?_; clear hv; go_wp2_with fail; have h1q := p2.blkE h1; have h2q := h2.ext p2; have h3q := h3.ext p2; have h4q := h4.ext p2; have hkq := p2.blkE hkb; have hvq := p2.blkE hvb; have HFin : Hid (∀ q : Ch F p2.w, ∃ r : Ch F w, q.w = r.w) := (fun q => finF ((p2.up F).then q (fun _ _ h => h))); clear s0 s1 s2 k0 k1 k2 k3 v0 v1 v2 h1 h2 h3 h4 hkb hvb finF fin; generalize p2.w = W2 at h1q h2q h3q h4q hkq hvq HFin ⊢; clear p2; have s0 : ∀ p : Ext W2, p.w.cell? ⟨s, 0, none⟩ = some (.map (some a)) := (fun p => cell_at 0 (p.blkE h1q)); have k0 : ∀ p : Ext W2, p.w.cell? ⟨bk, 0, none⟩ = some (.int .i64 kd) := (fun p => cell_at 0 (p.blkE hkq)); have k1 : ∀ p : Ext W2, p.w.cell? ⟨bk, 1, none⟩ = some (.int .i64 ka) := (fun p => cell_at 1 (p.blkE hkq)); have k2 : ∀ p : Ext W2, p.w.cell? ⟨bk, 2, none⟩ = some (.int .i64 kb) := (fun p => cell_at 2 (p.blkE hkq)); have k3 : ∀ p : Ext W2, p.w.cell? ⟨bk, 3, none⟩ = some (.string ks) := (fun p => cell_at 3 (p.blkE hkq)); have v0 : ∀ p : Ext W2, p.w.cell? ⟨bk + 1, 0, none⟩ = some (.int .u64 vd) := (fun p => cell_at 0 (p.blkE hvq)); have v1 : ∀ p : Ext W2, p.w.cell? ⟨bk + 1, 1, none⟩ = some (.string vt) := (fun p => cell_at 1 (p.blkE hvq)); have v2 : ∀ p : Ext W2, p.w.cell? ⟨bk + 1, 2, none⟩ = some (.bool vh) := (fun p => cell_at 2 (p.blkE hvq)); clear hkq hvq; refine wp_region_lch NoS (by kernel_rfl) (by repeat constructor) (by kernel_rfl) (by kernel_rfl) (fun p hp => ?_); clear hp; (repeat (first | (refine wpMix_skip rfl rfl ?_) | (refine wpMix_step (fun K hK => ?_); go_simp; (with_reducible (refine hK _ _ ?_)); clear hK K))); refine wpMix_nil ?_; refine last_put (K := key_law) (encV := snV) (k := ⟨kd, ka, kb, ks⟩) (u := ⟨vd, vt, vh⟩) (l := S) rfl _ _ _ rfl Try.underlying229 rfl rfl rfl (h2q.ext p) ?_; intro ob hM; have hS := SetM.see (F := F) (p.blkE h1q) (h2q.ext p) (h3q.ext p) (h4q.ext p) H5.out ⟨HFs.out, HF.out⟩ hM; obtain ⟨r, hr⟩ := HFin.out ((p.up F).putO a ob (fun _ => HF.out.1)); have HR : Hid (putO p.w a ob = r.w) := hr; have HSr : Hid _ := hS; clear hS hM hr s0 k0 k1 k2 k3 v0 v1 v2 h1q h2q h3q h4q; rw [HR.out] at HSr ⊢; clear HR; go_wp2_with fail; rw [E.out]; go_ret; exact ⟨rfl, r, rfl, HSr.out⟩)
  case inl.some u => (have e : seeM S ⟨kd, ka, kb, ks⟩ ⟨vd, vt, vh⟩ = (31, S) := (by unfold seeM; simp only [hg]; simp [he]); have E : Hid _ := e; clear e; obtain ⟨ud, ut, uh⟩ := u; go_enter Try.func53, Try.ntmps53; go_wp2_with fail; rw [← hbk, ← hW]; clear hW hbk; refine wp_region_ch NoS (by kernel_rfl) (by kernel_rfl) (fun p hp => ?_); clear hp; (repeat (first | (refine wpMix_skip rfl rfl ?_) | (refine wpMix_step (fun K hK => ?_); go_simp; (with_reducible (refine hK _ _ ?_)); clear hK K))); refine wpMix_look (K := key_law) (encV := snV) (k := ⟨kd, ka, kb, ks⟩) (l := S) (c := true) rfl _ _ rfl Try.underlying229 z37 rfl rfl (fun w' ⟨q, hq⟩ => by rw [hq]; exact h2.ext q) (v := (.agg #[.int .u64 ud, .string ut, .bool uh])) (by rw [hg]; rfl) ?_; rw [hg]; (repeat (first | (refine wpMix_skip rfl rfl ?_) | (refine wpMix_step (fun K hK => ?_); go_simp; (with_reducible (refine hK _ _ ?_)); clear hK K))); refine wpMix_step (fun K hK => ?_); go_simp; refine ⟨⟨p.alloc _, rfl⟩, hK _ _ ?_⟩; clear hK K; (repeat (first | (refine wpMix_skip rfl rfl ?_) | (refine wpMix_step (fun K hK => ?_); go_simp; (with_reducible (refine hK _ _ ?_)); clear hK K))); refine wpMix_step (fun K hK => ?_); go_simp; obtain ⟨b5, hb5⟩ : ∃ n, n = p.w.heap.size := ⟨_, rfl⟩; obtain ⟨p2, hp2⟩ : ∃ p2 : Ext W', p.w.alloc (.cells #[.int .u64 ud, .string ut, .bool uh] 37) = p2.w := ⟨p.alloc _, rfl⟩; have hv : p2.w.heap[b5]? = some (.cells #[.int .u64 ud, .string ut, .bool uh] 37 (0, 0)) := (by rw [← hp2, hb5]; exact heap_alloc_at _ _); rw [← hb5, hp2]; refine ⟨⟨p2, rfl⟩, hK _ _ ?_⟩; clear hK K hp2 hb5 p; (repeat (first | (refine wpMix_skip rfl rfl ?_) | (refine wpMix_step (fun K hK => ?_); go_simp; (with_reducible (refine hK _ _ ?_)); clear hK K))); refine wpMix_nil ?_; go_wp2_with fail; rw [E.out]; go_ret; obtain ⟨r, hr⟩ := fin p2; rw [hr]; exact ⟨rfl, r.up F, rfl, HS.out.ext r⟩)
  case inr.inl.none => (have e : seeM S ⟨kd, ka, kb, ks⟩ ⟨vd, vt, true⟩ = (0, aput S ⟨kd, ka, kb, ks⟩ ⟨vd, vt, true⟩) := (by unfold seeM; simp only [hg]; simp [he]); have E : Hid _ := e; clear e; go_enter Try.func53, Try.ntmps53; go_wp2_with fail; rw [← hbk, ← hW]; clear hW hbk; refine wp_region_ch NoS (by kernel_rfl) (by kernel_rfl) (fun p hp => ?_); clear hp; (repeat (first | (refine wpMix_skip rfl rfl ?_) | (refine wpMix_step (fun K hK => ?_); go_simp; (with_reducible (refine hK _ _ ?_)); clear hK K))); refine wpMix_look (K := key_law) (encV := snV) (k := ⟨kd, ka, kb, ks⟩) (l := S) (c := true) rfl _ _ rfl Try.underlying229 z37 rfl rfl (fun w' ⟨q, hq⟩ => by rw [hq]; exact h2.ext q) (v := (.agg #[.int .u64 0, .string ⟨#[]⟩, .bool false])) (by rw [hg]; rfl) ?_; rw [hg]; (repeat (first | (refine wpMix_skip rfl rfl ?_) | (refine wpMix_step (fun K hK => ?_); go_simp; (with_reducible (refine hK _ _ ?_)); clear hK K))); refine wpMix_step (fun K hK => ?_); go_simp; refine ⟨⟨p.alloc _, rfl⟩, hK _ _ ?_⟩; clear hK K; (repeat (first | (refine wpMix_skip rfl rfl ?_) | (refine wpMix_step (fun K hK => ?_); go_simp; (with_reducible (refine hK _ _ ?_)); clear hK K))); refine wpMix_step (fun K hK => ?_); go_simp; obtain ⟨b5, hb5⟩ : ∃ n, n = p.w.heap.size := ⟨_, rfl⟩; obtain ⟨p2, hp2⟩ : ∃ p2 : Ext W', p.w.alloc (.cells #[.int .u64 0, .string ⟨#[]⟩, .bool false] 37) = p2.w := ⟨p.alloc _, rfl⟩; have hv : p2.w.heap[b5]? = some (.cells #[.int .u64 0, .string ⟨#[]⟩, .bool false] 37 (0, 0)) := (by rw [← hp2, hb5]; exact heap_alloc_at _ _); rw [← hb5, hp2]; refine ⟨⟨p2, rfl⟩, hK _ _ ?_⟩; clear hK K hp2 hb5 p; (repeat (first | (refine wpMix_skip rfl rfl ?_) | (refine wpMix_step (fun K hK => ?_); go_simp; (with_reducible (refine hK _ _ ?_)); clear hK K))); refine wpMix_nil ?_; clear hv; go_wp2_with fail; have h1q := p2.blkE h1; have h2q := h2.ext p2; have h3q := h3.ext p2; have h4q := h4.ext p2; have hkq := p2.blkE hkb; have hvq := p2.blkE hvb; have HFin : Hid (∀ q : Ch F p2.w, ∃ r : Ch F w, q.w = r.w) := (fun q => finF ((p2.up F).then q (fun _ _ h => h))); clear s0 s1 s2 k0 k1 k2 k3 v0 v1 v2 h1 h2 h3 h4 hkb hvb finF fin; generalize p2.w = W2 at h1q h2q h3q h4q hkq hvq HFin ⊢; clear p2; have s0 : ∀ p : Ext W2, p.w.cell? ⟨s, 0, none⟩ = some (.map (some a)) := (fun p => cell_at 0 (p.blkE h1q)); have k0 : ∀ p : Ext W2, p.w.cell? ⟨bk, 0, none⟩ = some (.int .i64 kd) := (fun p => cell_at 0 (p.blkE hkq)); have k1 : ∀ p : Ext W2, p.w.cell? ⟨bk, 1, none⟩ = some (.int .i64 ka) := (fun p => cell_at 1 (p.blkE hkq)); have k2 : ∀ p : Ext W2, p.w.cell? ⟨bk, 2, none⟩ = some (.int .i64 kb) := (fun p => cell_at 2 (p.blkE hkq)); have k3 : ∀ p : Ext W2, p.w.cell? ⟨bk, 3, none⟩ = some (.string ks) := (fun p => cell_at 3 (p.blkE hkq)); have v0 : ∀ p : Ext W2, p.w.cell? ⟨bk + 1, 0, none⟩ = some (.int .u64 vd) := (fun p => cell_at 0 (p.blkE hvq)); have v1 : ∀ p : Ext W2, p.w.cell? ⟨bk + 1, 1, none⟩ = some (.string vt) := (fun p => cell_at 1 (p.blkE hvq)); have v2 : ∀ p : Ext W2, p.w.cell? ⟨bk + 1, 2, none⟩ = some (.bool true) := (fun p => cell_at 2 (p.blkE hvq)); clear hkq hvq; refine wp_region_lch NoS (by kernel_rfl) (by repeat constructor) (by kernel_rfl) (by kernel_rfl) (fun p hp => ?_); clear hp; (repeat (first | (refine wpMix_skip rfl rfl ?_) | (refine wpMix_step (fun K hK => ?_); go_simp; (with_reducible (refine hK _ _ ?_)); clear hK K))); refine wpMix_nil ?_; refine last_put (K := key_law) (encV := snV) (k := ⟨kd, ka, kb, ks⟩) (u := ⟨vd, vt, true⟩) (l := S) rfl _ _ _ rfl Try.underlying229 rfl rfl rfl (h2q.ext p) ?_; intro ob hM; have hS := SetM.see (F := F) (p.blkE h1q) (h2q.ext p) (h3q.ext p) (h4q.ext p) H5.out ⟨HFs.out, HF.out⟩ hM; obtain ⟨r, hr⟩ := HFin.out ((p.up F).putO a ob (fun _ => HF.out.1)); have HR : Hid (putO p.w a ob = r.w) := hr; have HSr : Hid _ := hS; clear hS hM hr s0 k0 k1 k2 k3 v0 v1 v2 h1q h2q h3q h4q; rw [HR.out] at HSr ⊢; clear HR; go_wp2_with fail; rw [E.out]; go_ret; exact ⟨rfl, r, rfl, HSr.out⟩)
  case inr.inl.some u => (have e : seeM S ⟨kd, ka, kb, ks⟩ ⟨vd, vt, true⟩ = (31, S) := (by unfold seeM; simp only [hg]; simp [he]); have E : Hid _ := e; clear e; obtain ⟨ud, ut, uh⟩ := u; go_enter Try.func53, Try.ntmps53; go_wp2_with fail; rw [← hbk, ← hW]; clear hW hbk; refine wp_region_ch NoS (by kernel_rfl) (by kernel_rfl) (fun p hp => ?_); clear hp; (repeat (first | (refine wpMix_skip rfl rfl ?_) | (refine wpMix_step (fun K hK => ?_); go_simp; (with_reducible (refine hK _ _ ?_)); clear hK K))); refine wpMix_look (K := key_law) (encV := snV) (k := ⟨kd, ka, kb, ks⟩) (l := S) (c := true) rfl _ _ rfl Try.underlying229 z37 rfl rfl (fun w' ⟨q, hq⟩ => by rw [hq]; exact h2.ext q) (v := (.agg #[.int .u64 ud, .string ut, .bool uh])) (by rw [hg]; rfl) ?_; rw [hg]; (repeat (first | (refine wpMix_skip rfl rfl ?_) | (refine wpMix_step (fun K hK => ?_); go_simp; (with_reducible (refine hK _ _ ?_)); clear hK K))); refine wpMix_step (fun K hK => ?_); go_simp; refine ⟨⟨p.alloc _, rfl⟩, hK _ _ ?_⟩; clear hK K; (repeat (first | (refine wpMix_skip rfl rfl ?_) | (refine wpMix_step (fun K hK => ?_); go_simp; (with_reducible (refine hK _ _ ?_)); clear hK K))); refine wpMix_step (fun K hK => ?_); go_simp; obtain ⟨b5, hb5⟩ : ∃ n, n = p.w.heap.size := ⟨_, rfl⟩; obtain ⟨p2, hp2⟩ : ∃ p2 : Ext W', p.w.alloc (.cells #[.int .u64 ud, .string ut, .bool uh] 37) = p2.w := ⟨p.alloc _, rfl⟩; have hv : p2.w.heap[b5]? = some (.cells #[.int .u64 ud, .string ut, .bool uh] 37 (0, 0)) := (by rw [← hp2, hb5]; exact heap_alloc_at _ _); rw [← hb5, hp2]; refine ⟨⟨p2, rfl⟩, hK _ _ ?_⟩; clear hK K hp2 hb5 p; (repeat (first | (refine wpMix_skip rfl rfl ?_) | (refine wpMix_step (fun K hK => ?_); go_simp; (with_reducible (refine hK _ _ ?_)); clear hK K))); refine wpMix_nil ?_; go_wp2_with fail; rw [E.out]; go_ret; obtain ⟨r, hr⟩ := fin p2; rw [hr]; exact ⟨rfl, r.up F, rfl, HS.out.ext r⟩)
  all_goals
    have e : seeM S ⟨kd, ka, kb, ks⟩ ⟨vd, vt, false⟩ = (2, S) := by unfold seeM; simp [he]
    rw [e]
    clear e
    have hne : vt.toList.isEmpty = false := by simp [he]
    go_enter Try.func53, Try.ntmps53
    go_wp2_with fail
    rw [← hW]
    go_ret
    obtain ⟨r, hr⟩ := fin (Ch.refl NoS W')
    have hr' : W' = r.w := hr
    rw [hr']
    exact ⟨rfl, r.up F, rfl, HS.out.ext r⟩
end Go.Proofs.Cob
