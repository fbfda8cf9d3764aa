/-
  slices.Collect, slices.SortedFunc of keys, against whatever gives keys.
-/
import Derived.Test.YtjhpdmiafecdnaaSeqA
import Derived.Test.YtjhpdmiafecdnaaSortKey
namespace Go.Proofs.Cob
open Go Go.RowKit Go.Cob Go.Shelf
set_option linter.unusedSimpArgs false
set_option linter.unusedVariables false
attribute [local go_sem] Oper.semAt_some

/-- A block of cells at its place. -/
def CellsAt (W : World) (B : Nat) (t : TypeId) (c : Array Value) : Prop := W.heap[B]? = some (.cells c t (0, 0))
theorem CellsAt.kept {W W' : World} {row : Option Nat} {B : Nat} {t : TypeId} {c : Array Value} (h : CellsAt W B t c) (hg : W.grownBy W' row) (hne : some B ≠ row) : CellsAt W' B t c := (hg.block B (lt_of_blk h) hne).trans h
theorem cellsAt_own {β : Type} (B : Nat) (t : TypeId) (f : β → Array Value) : Go.Own (fun s W => CellsAt W B t (f s)) := fun s X Y row hs hg hrow =>
  hs.kept hg (fun e' => by obtain ⟨o, ho, hc⟩ := hrow B e'.symm; rw [show X.heap[B]? = _ from hs] at ho; cases ho; cases hc)

set_option maxRecDepth 100000 in
set_option maxHeartbeats 1600000 in
theorem appendSeq_any (gf : Nat) (lb : Array Value) (S Sp : List Key → Prop) (N : Nat) (w : World) (eg : ∀ args w, (callFunc gf args).run Try.prog w = .ok (.enter gf args) w)
    (hN : N < 1099511627776) (hseq : ∀ n, SeqStopsK Fence.wide (n + 1) Try.prog gf lb (fun x : Key => #[keyV x]) KeepsWalks S Sp N w) :
    Calls Try.prog 228 #[.slice none 0 0, .func (.func gf) #[] lb] w fun e W' => ∃ v ks, e = .returned v ∧ S ks ∧ W'.ownsRow w.heap.size 23 4 v ks.length (rowKey ks) ∧ Below w.heap.size w W' := by
  refine (callsIn_wide (n := 6)).1 ?_
  refine callsIn_of_wp_marks Try.func228 rfl trivial ?_ rfl
  simp only [Try.ntmps228, List.size_toArray, List.length_cons, List.length_nil, Nat.reduceAdd, Nat.reduceSub, Array.replicate_succ, Array.replicate_zero, List.push_toArray, List.append_toArray, List.nil_append, List.cons_append]
  gi_wp2
  have hb0 : Boxed (w.alloc (.cells #[.slice none 0 0] 41)) w.heap.size 41 (.slice none 0 0) := Boxed.new w 41 _
  have hB0 : Below w.heap.size w (w.alloc (.cells #[.slice none 0 0] 41)) := (Below.refl _ w).alloc (Nat.le_refl _) _
  have hsz : (w.alloc (.cells #[.slice none 0 0] 41)).heap.size = w.heap.size + 1 := by simp
  have hr0 : (w.alloc (.cells #[.slice none 0 0] 41)).ownsRow w.heap.size 23 4 (.slice none 0 0) ([] : List Key).length (rowKey []) := ⟨rfl, .inl ⟨rfl, rfl⟩⟩
  generalize w.alloc (.cells #[.slice none 0 0] 41) = W0 at hb0 hB0 hsz hr0 ⊢
  refine wpIn_rangeFunc_ownH rfl (by decide) (gf := gf) (lb := lb) rfl trivial eg (hseq 4) walksK_t walksK_b hB0 (fun _ => rfl)
    (fun pre W => (∃ v, Boxed W w.heap.size 41 v ∧ W.ownsRow w.heap.size 23 4 v pre.length (rowKey pre) ∧ True) ∧ Below w.heap.size w W)
    (fun _ _ _ => False)
    (OwnFrom.and (Own.from (holdsRow_own w.heap.size w.heap.size 41 23 4 (fun pre : List Key => pre.length) (fun pre => rowKey pre) (fun _ _ => True)) _) (ownFrom_below (Nat.le_refl _) (by omega)))
    (fun _ _ _ _ _ hs _ _ => hs)
    ⟨⟨_, hb0, hr0, trivial⟩, hB0⟩
    (fun x a' W => ∃ Bx, w.heap.size < Bx ∧ CellsAt W Bx 23 (keyCells x.kind x.a x.b x.s) ∧ a' = { tmps := #[.slice none 0 0, .func (.func gf) #[] lb, .pointer (some ⟨w.heap.size, 0, none⟩), undef, .slice none 0 0, .pointer (some ⟨Bx, 0, none⟩), .func (.func gf) #[] lb, keyV x, undef, undef, undef, undef, undef], defers := [] })
    (fun x a' _ X Y row hs hg hr => by obtain ⟨Bx, h1, h2, h3⟩ := hs; exact ⟨Bx, h1, cellsAt_own Bx 23 (fun (_ : Unit) => keyCells x.kind x.a x.b x.s) () X Y row h2 hg (fun r e => (hr r e).2), h3⟩)
    ?assign ?body ?done ?stop
  case assign =>
    rintro l pre ⟨kd, ka, kb, kt⟩ W K ⟨⟨v, hv, hrow, -⟩, hB⟩ hK
    gi_wp2
    exact hK _ _ ((KeepsOthers.alloc _ _).from _) (KeepsOthers.alloc _ _).walks ⟨⟨v, hv.alloc _, hrow.alloc _, trivial⟩, hB.alloc hB.size _⟩ ⟨W.heap.size, hv.lt, heap_alloc_at W _, rfl⟩
  case body =>
    rintro l pre ⟨kd, ka, kb, kt⟩ a' W hl ⟨r, hr⟩ ⟨⟨v, hv, hrow, -⟩, hB⟩ ⟨Bx, hBx, hX, rfl⟩ hlt
    have k0 : W.cell? ⟨Bx, 0, none⟩ = some (.int .i64 kd) := cell_at 0 hX
    have k1 : W.cell? ⟨Bx, 1, none⟩ = some (.int .i64 ka) := cell_at 1 hX
    have k2 : W.cell? ⟨Bx, 2, none⟩ = some (.int .i64 kb) := cell_at 2 hX
    have k3 : W.cell? ⟨Bx, 3, none⟩ = some (.string kt) := cell_at 3 hX
    have c0 := hv.cell
    obtain ⟨inf, hi0, hi1, hi2, hi3⟩ := info23
    have hsW := hB.size
    gi_wp2_with (first
      | (gi_at_builtin; refine wpListIn_append_own _ rfl _ _ 41 rfl w.heap.size 23 inf _ 4 40 Try.underlying41 hi0 hi1 hi2 hi3 rfl (by decide) v pre.length (rowKey pre) rfl (hrow.alloc _) ⟨W.heap.size, 0, none⟩ 1 1 (encKey ⟨kd, ka, kb, kt⟩) rfl rfl ?c1 ?c2 ?c3 ?c4 ?c5 ?_)
      | gi_in)
    case c2 => exact ⟨rfl, rfl, rfl, rfl⟩
    case c3 => simp only [maxLen]; omega
    case c4 => omega
    case c5 => omega
    intro v' w1 hrow' hgrow _
    obtain ⟨g', cap', rfl⟩ := ownsRow_succ hrow'
    obtain ⟨hv1, hv2, hr2, hk2, hb2⟩ := hv.appended (by decide) hrow hsW (Nat.le_refl _) hrow' hgrow
    have d0 := hv1.cell
    have d1 := hv1.frozen
    clear hrow hrow' hgrow hv hv1 k0 k1 k2 k3 c0
    gi_wp2
    refine ⟨hk2.from _, hk2.walks, ⟨_, hv2, ?_, trivial⟩, hB.trans hb2⟩
    rw [rowKey_snoc]
    simpa using hr2
  case done =>
    rintro D ks W hD hS ⟨⟨v, hv, hrow, -⟩, hB⟩ hK
    have cS := hv.cell
    gi_wp2
    refine ⟨by simp, .inl ⟨_, _, rfl, run_takeDeferred hK, ?_⟩⟩
    exact ⟨_, results_tmp rfl _ _ _, v, ks, rfl, hS, ownsRow_putObj hrow _ hK rfl, hB.trans (belowK_b (w := w) (Nat.le_refl _) W D _ _ (by omega) hK rfl rfl)⟩
  case stop =>
    rintro D c pre W _ _ h _
    exact h.elim

theorem ext_of_below {w w' : World} (h : Below w.heap.size w w') : ∃ p : Ext w, w' = p.w := ⟨⟨w', h.os, h.tape, h.output, h.size, fun b hb _ => h.block b hb⟩, rfl⟩
theorem collect_any (gf : Nat) (lb : Array Value) (S Sp : List Key → Prop) (N : Nat) (w : World) (eg : ∀ args w, (callFunc gf args).run Try.prog w = .ok (.enter gf args) w)
    (hN : N < 1099511627776) (hseq : ∀ n, SeqStopsK Fence.wide (n + 1) Try.prog gf lb (fun x : Key => #[keyV x]) KeepsWalks S Sp N w) :
    Calls Try.prog 210 #[.func (.func gf) #[] lb] w fun e W' => ∃ v ks, e = .returned v ∧ S ks ∧ W'.ownsRow w.heap.size 23 4 v ks.length (rowKey ks) ∧ Below w.heap.size w W' := by
  have hcc := appendSeq_any gf lb S Sp N w eg hN hseq
  clear hseq eg
  go_enter Try.func210, Try.ntmps210
  go_wp2_with fail
  go_at_call 228
  refine hcc.mono ?_
  clear hcc
  rintro e w' ⟨v, ks, rfl, hS, hr, hB⟩
  go_wp2_with fail
  go_ret
  exact ⟨v, ks, rfl, hS, hr, hB⟩
theorem sortedFunc_any (gf : Nat) (lb : Array Value) (S Sp : List Key → Prop) (N : Nat) (w : World) (eg : ∀ args w, (callFunc gf args).run Try.prog w = .ok (.enter gf args) w)
    (hN : N < 1099511627776) (hS : ∀ ks, S ks → ks.length < 4611686018427387904) (hseq : ∀ n, SeqStopsK Fence.wide (n + 1) Try.prog gf lb (fun x : Key => #[keyV x]) KeepsWalks S Sp N w) :
    Calls Try.prog 160 #[.func (.func gf) #[] lb, .func (.func 22) #[] #[]] w fun e W' => ∃ v ks, e = .returned v ∧ S ks ∧ KeysOut w v (sortK ks) W' := by
  have hcc := collect_any gf lb S Sp N w eg hN hseq
  clear hseq eg
  go_enter Try.func160, Try.ntmps160
  go_wp2_with fail
  go_at_call 210
  refine hcc.mono ?_
  clear hcc
  rintro e w' ⟨v, ks, rfl, hSk, hr, hB⟩
  obtain ⟨p, rfl⟩ := ext_of_below hB
  have hcc := sortKeys_any w p v ks w.heap.size (Nat.le_refl _) hr (hS ks hSk)
  clear hr hB hS
  go_wp2_with fail
  go_at_call 211
  refine hcc.mono ?_
  clear hcc
  rintro e w' ⟨rfl, hK⟩
  go_wp2_with fail
  go_ret
  exact ⟨v, ks, rfl, hSk, hK⟩
theorem keysOf162 (b : Nat) (w : World) : Calls Try.prog 162 #[.map (some b)] w fun e w' => e = .returned (.func (.func 213) #[] #[.pointer (some ⟨w.heap.size, 0, none⟩)]) ∧ w' = w.alloc (.cells #[.map (some b)] 230) := by
  go_enter Try.func162, Try.ntmps162
  go_wp2_with fail
  go_ret
  exact ⟨rfl, rfl⟩
theorem keysOf161 (b : Nat) (w : World) : Calls Try.prog 161 #[.map (some b)] w fun e w' => e = .returned (.func (.func 212) #[] #[.pointer (some ⟨w.heap.size, 0, none⟩)]) ∧ w' = w.alloc (.cells #[.map (some b)] 229) := by
  go_enter Try.func161, Try.ntmps161
  go_wp2_with fail
  go_ret
  exact ⟨rfl, rfl⟩
theorem sortK_eq {ks ls : List Key} (h : ks.Perm ls) : sortK ks = sortK ls := sortK_unique ((sortK_perm ks).trans (h.trans (sortK_perm ls).symm)) (sortK_sorted ks) (sortK_sorted ls)
/-- slices.SortedFunc(maps.Keys(m), cell.Order), the second half. -/
theorem sorted213 {β : Type} (encV : β → Value) (Bm b : Nat) (L : List (Key × β)) (w : World) (hBm : w.heap[Bm]? = some (.cells #[.map (some b)] 230 (0, 0))) (hM : MapAt keyV encV w b L) (hl : L.length < 1099511627776) :
    Calls Try.prog 160 #[.func (.func 213) #[] #[.pointer (some ⟨Bm, 0, none⟩)], .func (.func 22) #[] #[]] w fun e W' => ∃ v, e = .returned v ∧ KeysOut w v (sortK (L.map (·.1))) W' := by
  refine (sortedFunc_any 213 _ _ _ L.length w (enters_of Try.func213 (by kernel_rfl) rfl) hl (fun ks h => by have := List.Perm.length_eq h; simp at this; omega) (fun n => stops213 encV Fence.wide (n + 1) trivial rfl (by omega) Bm b L w (lt_of_blk hBm) (cell_at 0 hBm) hM)).mono ?_
  rintro e W' ⟨v, ks, rfl, hS, hK⟩
  refine ⟨v, rfl, ?_⟩
  rw [← sortK_eq hS]
  exact hK
theorem sorted212 {β : Type} (encV : β → Value) (Bm b : Nat) (L : List (Key × β)) (w : World) (hBm : w.heap[Bm]? = some (.cells #[.map (some b)] 229 (0, 0))) (hM : MapAt keyV encV w b L) (hl : L.length < 1099511627776) :
    Calls Try.prog 160 #[.func (.func 212) #[] #[.pointer (some ⟨Bm, 0, none⟩)], .func (.func 22) #[] #[]] w fun e W' => ∃ v, e = .returned v ∧ KeysOut w v (sortK (L.map (·.1))) W' := by
  refine (sortedFunc_any 212 _ _ _ L.length w (enters_of Try.func212 (by kernel_rfl) rfl) hl (fun ks h => by have := List.Perm.length_eq h; simp at this; omega) (fun n => stops212 encV Fence.wide (n + 1) trivial rfl (by omega) Bm b L w (lt_of_blk hBm) (cell_at 0 hBm) hM)).mono ?_
  rintro e W' ⟨v, ks, rfl, hS, hK⟩
  refine ⟨v, rfl, ?_⟩
  rw [← sortK_eq hS]
  exact hK
end Go.Proofs.Cob
