/-
  SetsOverlay returns true at every input, and its arguments read as before.
-/
import Derived.Test.YtjhpdmiafecdnaaOverlay
import Derived.Test.YtjhpdmiafecdnaaRowBase
import Derived.ProofKit
import Derived.ChangeMaps5
import Derived.ChangeOld
import Derived.Lib.SmallJoins
import Derived.Test.YtjhpdmiafecdnaaOpen
namespace Go.Proofs.Ytjhpdmiafecdnaa
open Go Go.ChangeShapes Go.WideShapes Go.ChangeAt Go.RowKit Go.Joins Go.Cob
open Go.Proofs.Cob
set_option linter.unusedVariables false

set_option maxRecDepth 100000 in
theorem setsOverlay_lifted (os : Os) (started : os.Started) (H : Type) (enc : TypeId × Value → H) :
    ReturnsInHanded {} Try.checked os 10 .any (Rows.setsOverlaySpec.pre6 enc Try.prog Try.f10 Rows.setsOverlayRow.domain false) (Rows.setsOverlaySpec.post enc Try.prog Try.f10 false true false false) := by
  refine returnsInHanded_of_change (C := Try.checked) own started (by kernel_rfl) Try.func10
    (ChangeSpec.witness6 (enc := enc) (C := Try.checked) false ⟨#[], #[.agg #[.int .u64 0, .string ⟨#[]⟩, .bool false], .slice none 0 0, .slice none 0 0], []⟩ 8 (by kernel_rfl) (by kernel_rfl) (by kernel_rfl) (by kernel_rfl)) ?_
  intro W base args ds gs before hval0 hW hcnd _
  have hval : ∀ (j : Nat) t v, Try.f10.params[j]? = some t → args[j]? = some v → Value.okWide Try.prog W .any base t v := hval0
  have hW' := hW
  obtain ⟨p, q, hA0, hV, rfl, hfz, hnd⟩ := hW
  have hA : DataW.TrodAll enc Try.prog W 0 (fun _ => true) true Try.f10.params.toList args.toList ds p := hA0
  rw [Try.params10] at hA hval
  obtain ⟨v0, vs0, d0, ds0, p0, q0, hargs, rfl, rfl, h0, r0⟩ := trodAll_cons hA
  obtain ⟨v1, vs1, d1, ds1, p1, q1, rfl, rfl, rfl, h1, r1⟩ := trodAll_cons r0
  obtain ⟨v2, vs2, d2, ds2, p2, q2, rfl, rfl, rfl, h2, r2⟩ := trodAll_cons r1
  obtain ⟨rfl, rfl, rfl⟩ := trodAll_nil r2
  obtain rfl : args = #[v0, v1, v2] := by cases args; simp_all
  obtain ⟨rfl, rfl⟩ := trodVars_none hV
  have lt0 : ∀ x ∈ p0, x.block < W.heap.size := by obtain ⟨m, hm⟩ := h0; exact DataW.trod_lt m _ _ _ hm
  have lt1 : ∀ x ∈ p1, x.block < W.heap.size := by obtain ⟨m, hm⟩ := h1; exact DataW.trod_lt m _ _ _ hm
  have lt2 : ∀ x ∈ p2, x.block < W.heap.size := by obtain ⟨m, hm⟩ := h2; exact DataW.trod_lt m _ _ _ hm
  obtain ⟨sv, rfl⟩ : ∃ sv : Cob.Sn, v0 = snV sv := by
    obtain ⟨cs, rfl⟩ := okWide_agg Try.underlying37 (hval 0 37 v0 rfl rfl)
    obtain ⟨m, hm⟩ := h0
    obtain ⟨sv, e, -⟩ := trod_sn hm
    exact ⟨sv, by have e' : cs.toList = _ := e; rw [← Array.toArray_toList (xs := cs), e']⟩
  obtain ⟨fa, xs, ca, rfl, hx, hca⟩ : ∃ (fa : Option Addr) (xs : List ByteArray) (cap : Nat), v1 = .slice fa xs.length cap ∧ StrsIn W fa xs ∧ xs.length ≤ cap := by
    obtain ⟨a0, n0, c0, rfl⟩ := okWide_slice Try.underlying118 (hval 1 118 v1 rfl rfl)
    obtain ⟨m, hm⟩ := h1
    obtain ⟨fa, xs, cap, e, hx, hc, -⟩ := trod_strs hm
    exact ⟨fa, xs, cap, by simpa [Value.cells] using e, hx, hc⟩
  obtain ⟨fb, ys, cb, rfl, hy, hcb⟩ : ∃ (fa : Option Addr) (xs : List ByteArray) (cap : Nat), v2 = .slice fa xs.length cap ∧ StrsIn W fa xs ∧ xs.length ≤ cap := by
    obtain ⟨a0, n0, c0, rfl⟩ := okWide_slice Try.underlying118 (hval 2 118 v2 rfl rfl)
    obtain ⟨m, hm⟩ := h2
    obtain ⟨fa, xs, cap, e, hx, hc, -⟩ := trod_strs hm
    exact ⟨fa, xs, cap, by simpa [Value.cells] using e, hx, hc⟩
  clear hA0 hval0
  refine (overlay_any sv fa fb ca cb xs ys W hx hy hca hcb).mono fun e W' ⟨he, r, hr⟩ => ?_
  subst he
  have bel : Below W.heap.size W W' := hr ▸ r.below
  exact ⟨_, rfl, _, _, _, [], _, [], hW', trodAll_mk1 (shut_bool Try.underlying4 _),
    (trodAll_cons_mk (Below.trod laidOut (by kernel_rfl) (of_decide_eq_true (by kernel_rfl)) h0 bel lt0)
      (trodAll_cons_mk (Below.trod laidOut (by kernel_rfl) (of_decide_eq_true (by kernel_rfl)) h1 bel lt1)
      (trodAll_cons_mk (Below.trod laidOut (by kernel_rfl) (of_decide_eq_true (by kernel_rfl)) h2 bel lt2)
      trodAll_mk0))), rfl, bel.frame _, fun h => by cases h⟩

set_option maxHeartbeats 4000000 in
theorem setsOverlay_facts : joinedFacts Try.prog 10 Try.f10 Rows.setsOverlaySpec Rows.setsOverlayRow = true := by
  unfold joinedFacts
  refine and2 (and2 (and2 (and2 (and2 (and2 (and2 (and2 (and2 (and2 (and2 (and2 (and2 (and2 (and2 (and2 (and2 (and2 (and2 (and2 (and2 (and2 (and2 (and2 (and2 (and2 (and2 (and2 (and2 (and2 (and2 ?k1 ?k2) ?k3) ?k4) ?k5) ?k6) ?k7) ?k8) ?k9) ?k10) ?k11) ?k12) ?k13) ?k14) ?k15) ?k16) ?k17) ?k18) ?k19) ?k20) ?k21) ?k22) ?k23) ?k24) ?k25) ?k26) ?k27) ?k28) ?k29) ?k30) ?k31) ?k32
  case k1 => as_aux_lemma => kernel_rfl
  case k2 => exact laidOut
  case k3 => exact progMaps
  case k4 => as_aux_lemma => kernel_rfl
  case k5 => as_aux_lemma => kernel_rfl
  case k6 => as_aux_lemma => kernel_rfl
  case k7 => exact progStops
  case k8 => as_aux_lemma => kernel_rfl
  case k9 => exact progKnobs
  case k10 => as_aux_lemma => kernel_rfl
  case k11 => as_aux_lemma => kernel_rfl
  case k12 => as_aux_lemma => kernel_rfl
  case k13 => as_aux_lemma => kernel_rfl
  case k14 => as_aux_lemma => kernel_rfl
  case k15 => as_aux_lemma => kernel_rfl
  case k16 => as_aux_lemma => kernel_rfl
  case k17 => as_aux_lemma => kernel_rfl
  case k18 => as_aux_lemma => kernel_rfl
  case k19 => as_aux_lemma => kernel_rfl
  case k20 => as_aux_lemma => kernel_rfl
  case k21 => as_aux_lemma => kernel_rfl
  case k22 => as_aux_lemma => kernel_rfl
  case k23 => exact progPlain
  case k24 => as_aux_lemma => kernel_rfl
  case k25 => exact progHeard
  case k26 => exact progEnter
  case k27 => exact progLifts
  case k28 => exact progMake
  case k29 => as_aux_lemma => kernel_rfl
  case k30 => as_aux_lemma => kernel_rfl
  case k31 => as_aux_lemma => kernel_rfl
  case k32 => as_aux_lemma => kernel_rfl
theorem setsOverlay_named : Try.prog.funcNamed Rows.setsOverlayRow.func = some 10 := by kernel_rfl
theorem setsOverlay_over : Rows.setsOverlayRow.holds Try.pinned (OpenSpec.ofChange Rows.setsOverlaySpec) :=
  OpenClaim.holds_of_wide 10 Try.f10 rfl rfl rfl rfl rfl rfl rfl ⟨rfl, rfl, rfl, rfl, rfl⟩ rfl rfl rfl rfl rfl setsOverlay_named Try.func10 setsOverlay_facts
    (of_decide_eq_true (by as_aux_lemma => kernel_rfl)) (by as_aux_lemma => unfold Func.isWrapper; first | (rw [if_pos (by decide +kernel)]; kernel_rfl) | (rw [if_neg (by decide +kernel)]; exact ⟨rfl, rfl⟩))
    (fun os started H enc _ => setsOverlay_lifted os started H enc)

theorem setsOverlay_proved : Rows.SetsOverlaySaid := setsOverlay_over
#print axioms setsOverlay_proved
end Go.Proofs.Ytjhpdmiafecdnaa
