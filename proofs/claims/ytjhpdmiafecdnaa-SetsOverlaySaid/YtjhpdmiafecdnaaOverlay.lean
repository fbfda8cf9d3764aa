/-
  SetsOverlay, walked: it answers true.
-/
import Derived.Test.YtjhpdmiafecdnaaSetQ
import Derived.Test.YtjhpdmiafecdnaaSceneB
import Derived.Deep.DeepCutAuto
namespace Go.Proofs.Cob
open Go Go.RowKit Go.Cob
set_option linter.unusedSimpArgs false
set_option linter.unusedVariables false

abbrev encS (s : ByteArray) : List Value := [.string s]
abbrev StrsIn (w : World) (fa : Option Addr) (xs : List ByteArray) : Prop := RowIn encS 1 w fa xs
abbrev kO : Key := ⟨7, 0, 0, ⟨#[107]⟩⟩
abbrev nwS : ByteArray := ⟨#[110, 101, 119]⟩
abbrev zSn : Sn := ⟨0, ⟨#[]⟩, false⟩
/-- What is written, as the law's own variables say it. -/
def Ov (sv : Sn) (Wl : List (Key × Tx)) (val : ByteArray) (has : Bool) : Prop := (Wl = [] ∧ val = sv.tx ∧ has = sv.has) ∨ Wl = [(kO, ⟨val, has⟩)]
theorem ov_put {sv : Sn} {Wl : List (Key × Tx)} {val : ByteArray} {has : Bool} (h : Ov sv Wl val has) (x : ByteArray) : putM [(kO, sv)] Wl kO x = (0, [(kO, ⟨x, true⟩)]) := by
  rcases h with ⟨rfl, -, -⟩ | rfl <;> rfl
theorem ov_drop {x : ByteArray} (sv : Sn) (has : Bool) : dropS [(kO, sv)] [(kO, ⟨x, has⟩)] [kO] = (0, [(kO, ⟨⟨#[]⟩, false⟩)]) := rfl
theorem ov_get {sv : Sn} {Wl : List (Key × Tx)} {val : ByteArray} {has : Bool} (h : Ov sv Wl val has) : getM [(kO, sv), (keyN13 3, zSn)] Wl kO = ((val, has), true) := by
  rcases h with ⟨rfl, rfl, rfl⟩ | rfl <;> rfl
theorem ov_get3 {sv : Sn} {Wl : List (Key × Tx)} {val : ByteArray} {has : Bool} (h : Ov sv Wl val has) : getM [(kO, sv), (keyN13 3, zSn)] Wl (keyN13 3) = ((⟨#[]⟩, false), true) := by
  rcases h with ⟨rfl, -, -⟩ | rfl <;> rfl
theorem put_seen (sv : Sn) (Wl : List (Key × Tx)) (x : ByteArray) : putM [(kO, sv)] Wl kO x = (0, aput Wl kO ⟨x, true⟩) := rfl
theorem get_put (S : List (Key × Sn)) (Wl : List (Key × Tx)) (x : ByteArray) : getM S (aput Wl kO ⟨x, true⟩) kO = ((x, true), true) := by unfold getM; rw [aget_aput, if_pos rfl]
theorem see_3 (sv : Sn) : seeM [(kO, sv)] (keyN13 3) zSn = (0, [(kO, sv), (keyN13 3, zSn)]) := by unfold seeM; rw [ByteArray.toList_eq]; rfl
theorem put_3 (sv : Sn) (Wl : List (Key × Tx)) : putM [(kO, sv), (keyN13 3, zSn)] Wl (keyN13 3) nwS = (0, aput Wl (keyN13 3) ⟨nwS, true⟩) := rfl
theorem seen_O (sv : Sn) : seenM [(kO, sv), (keyN13 3, zSn)] kO = (sv, true) := rfl
theorem see_O {sv : Sn} (h : (!sv.tx.toList.isEmpty && !sv.has) = false) : seeM [] kO sv = (0, [(kO, sv)]) := by unfold seeM; rw [h]; rfl
theorem see_O2 (sv : Sn) : seeM [(kO, sv)] kO zSn = (31, [(kO, sv)]) := by unfold seeM; rw [ByteArray.toList_eq]; rfl
set_option maxRecDepth 4000 in
set_option maxHeartbeats 6400000 in
theorem overlay_any (sv : Sn) (fa fb : Option Addr) (ca cb : Nat) (xs ys : List ByteArray) (w : World) (hX : StrsIn w fa xs) (hY : StrsIn w fb ys) (hca : xs.length ≤ ca) (hcb : ys.length ≤ cb) :
    Calls Try.prog 10 #[snV sv, .slice fa xs.length ca, .slice fb ys.length cb] w fun e w' => e = .returned (.bool true) ∧ ∃ p : Ext w, w' = p.w := by
  obtain ⟨vd, vt, vh⟩ := sv
  obtain ⟨W0, hW0⟩ : ∃ W0, W0 = w.alloc (.cells #[.int .u64 vd, .string vt, .bool vh] 37) := ⟨_, rfl⟩
  obtain ⟨b3, hb3⟩ : ∃ n, n = w.heap.size := ⟨_, rfl⟩
  have hC0 : Scene w W0 [(b3, 37, #[.int .u64 vd, .string vt, .bool vh])] := by rw [hW0, hb3]; exact (Scene.refl w).alloc _ 37
  have hbb : W0.heap[b3]? = some (.cells #[.int .u64 vd, .string vt, .bool vh] 37 (0, 0)) := hC0.cell (.head _)
  have v1 : ∀ q : Ext W0, q.w.cell? ⟨b3, 1, none⟩ = some (.string vt) := fun q => cell_at 1 (q.blkE hbb)
  have v2 : ∀ q : Ext W0, q.w.cell? ⟨b3, 2, none⟩ = some (.bool vh) := fun q => cell_at 2 (q.blkE hbb)
  have fin : ∀ q : Ext W0, ∃ q' : Ext w, q.w = q'.w := fun q => ⟨((Ch.refl NoS w).alloc _).onto hW0 q (fun b hb h => h), rfl⟩
  have hEx : Hid (StrsIn w fa xs) := hX
  have hEy : Hid (StrsIn w fb ys) := hY
  clear hX hY hbb
  have htri : (vt.toList = [] ∨ (¬ vt.toList = [] ∧ vh = true)) ∨ (¬ vt.toList = [] ∧ vh = false) := by
    cases vh <;> by_cases h : vt.toList = [] <;> simp [h]
  rcases htri with hok | ⟨he, rfl⟩
  case inr =>
    go_enter Try.func10, Try.ntmps10
    go_wp2_with fail
    rw [← hb3, ← hW0]
    clear hb3 hW0
    go_wp2_with fail
    go_at_call 50
    refine (awake13_any W0).mono ?_
    rintro e w' ⟨rfl, q, rfl⟩
    go_wp2_with fail
    go_at_call 50
    refine (awake13_any q.w).mono ?_
    rintro e w' ⟨rfl, q2, rfl⟩
    go_wp2_with fail
    go_ret
    exact ⟨rfl, fin (q.thenE q2)⟩
  by_cases hx : 20 < xs.length
  · rcases hok with he | ⟨he, rfl⟩
    · go_enter Try.func10, Try.ntmps10
      go_wp2_with fail
      rw [← hb3, ← hW0]
      clear hb3 hW0
      go_wp2_with fail
      go_at_call 50
      refine (awake13_any W0).mono ?_
      rintro e w' ⟨rfl, q, rfl⟩
      go_wp2_with fail
      go_at_call 50
      refine (awake13_any q.w).mono ?_
      rintro e w' ⟨rfl, q2, rfl⟩
      go_wp2_with fail
      go_ret
      exact ⟨rfl, fin (q.thenE q2)⟩
    · go_enter Try.func10, Try.ntmps10
      go_wp2_with fail
      rw [← hb3, ← hW0]
      clear hb3 hW0
      go_wp2_with fail
      go_at_call 50
      refine (awake13_any W0).mono ?_
      rintro e w' ⟨rfl, q, rfl⟩
      go_wp2_with fail
      go_at_call 50
      refine (awake13_any q.w).mono ?_
      rintro e w' ⟨rfl, q2, rfl⟩
      go_wp2_with fail
      go_ret
      exact ⟨rfl, fin (q.thenE q2)⟩
  by_cases hy : 20 < ys.length
  · rcases hok with he | ⟨he, rfl⟩
    · go_enter Try.func10, Try.ntmps10
      go_wp2_with fail
      rw [← hb3, ← hW0]
      clear hb3 hW0
      go_wp2_with fail
      go_at_call 50
      refine (awake13_any W0).mono ?_
      rintro e w' ⟨rfl, q, rfl⟩
      go_wp2_with fail
      go_at_call 50
      refine (awake13_any q.w).mono ?_
      rintro e w' ⟨rfl, q2, rfl⟩
      go_wp2_with fail
      go_ret
      exact ⟨rfl, fin (q.thenE q2)⟩
    · go_enter Try.func10, Try.ntmps10
      go_wp2_with fail
      rw [← hb3, ← hW0]
      clear hb3 hW0
      go_wp2_with fail
      go_at_call 50
      refine (awake13_any W0).mono ?_
      rintro e w' ⟨rfl, q, rfl⟩
      go_wp2_with fail
      go_at_call 50
      refine (awake13_any q.w).mono ?_
      rintro e w' ⟨rfl, q2, rfl⟩
      go_wp2_with fail
      go_ret
      exact ⟨rfl, fin (q.thenE q2)⟩
  by_cases hv : 500 < vt.size
  · rcases hok with he | ⟨he, rfl⟩
    · go_enter Try.func10, Try.ntmps10
      go_wp2_with fail
      rw [← hb3, ← hW0]
      clear hb3 hW0
      go_wp2_with fail
      go_at_call 50
      refine (awake13_any W0).mono ?_
      rintro e w' ⟨rfl, q, rfl⟩
      go_wp2_with fail
      go_at_call 50
      refine (awake13_any q.w).mono ?_
      rintro e w' ⟨rfl, q2, rfl⟩
      go_wp2_with fail
      go_ret
      exact ⟨rfl, fin (q.thenE q2)⟩
    · go_enter Try.func10, Try.ntmps10
      go_wp2_with fail
      rw [← hb3, ← hW0]
      clear hb3 hW0
      go_wp2_with fail
      go_at_call 50
      refine (awake13_any W0).mono ?_
      rintro e w' ⟨rfl, q, rfl⟩
      go_wp2_with fail
      go_at_call 50
      refine (awake13_any q.w).mono ?_
      rintro e w' ⟨rfl, q2, rfl⟩
      go_wp2_with fail
      go_ret
      exact ⟨rfl, fin (q.thenE q2)⟩
  go_enter Try.func10, Try.ntmps10
  go_upto_region 1 with fail
  rw [← hb3, ← hW0]
  clear hb3 hW0
  go_cut [51] (fun v51 wc => v51 = .bool false ∧ ∃ q : Ext W0, wc = q.w)
  case first =>
    rcases hok with he | ⟨he, rfl⟩
    all_goals
      go_wp2_with fail
      go_at_call 50
      refine (awake13_any W0).mono ?_
      rintro e w' ⟨rfl, q, rfl⟩
      go_wp2_with fail
      go_meet
      case rel => exact ⟨by simp; omega, q, rfl⟩
  case rest =>
    obtain ⟨rfl, q, rfl⟩ := hcut
    have hbad : (!vt.toList.isEmpty && !vh) = false := by rcases hok with he | ⟨he, rfl⟩ <;> simp [*]
    have Hsee : Hid (seeM [] kO ⟨vd, vt, vh⟩ = (0, [(kO, ⟨vd, vt, vh⟩)])) := see_O hbad
    have HC1 : Hid (Scene w q.w [(b3, 37, #[.int .u64 vd, .string vt, .bool vh])]) := hC0.ext q
    clear hbad hok v1 v2 fin hC0 hv
    generalize q.w = W1 at HC1 ⊢
    clear q
    go_wp2_with fail
    go_at_call 51
    refine (new_s W1).mono ?_
    rintro e w' ⟨s, rfl, p, rfl, hS⟩
    have HS : Hid (SetM p.w s [] [] [] (Wide w [(b3, 37, #[.int .u64 vd, .string vt, .bool vh])])) := hS.mono (fun b _ h => by
      have h1 := HC1.out.size
      have h2 := lt_of_blk (HC1.out.cell (.head _))
      exact ⟨Nat.le_trans h1 h, fun x hx => by
        have : x = (b3, 37, #[.int .u64 vd, .string vt, .bool vh]) := by simpa using hx
        rw [this]
        show b ≠ b3
        omega⟩)
    have HC : Hid (Scene w p.w [(b3, 37, #[.int .u64 vd, .string vt, .bool vh])]) := HC1.out.ext p
    clear hS HC1
    generalize p.w = W' at HS HC ⊢
    clear p
    go_wp2_with fail
    obtain ⟨b8, hb8⟩ : ∃ n, n = W'.heap.size := ⟨_, rfl⟩
    replace HS : Hid _ := HS.out.box #[.int .i64 7, .int .i64 0, .int .i64 0, .string ⟨#[107]⟩] 23
    replace HC : Hid _ := HC.out.alloc #[.int .i64 7, .int .i64 0, .int .i64 0, .string ⟨#[107]⟩] 23
    rw [← hb8] at HS HC ⊢
    clear hb8
    generalize World.alloc W' _ = W' at HS HC ⊢
    have := put_s s _ _ _ _ kO xS _ HS.out
    rw [show putM [] [] kO xS = (101, []) from rfl] at this
    refine this.mono ?_
    clear this; rintro e w' ⟨rfl, q, rfl, hS⟩; replace HS : Hid _ := hS; replace HC : Hid _ := HC.out.ch q; clear hS; generalize q.w = W' at HS HC ⊢; clear q
    have k0 : W'.cell? ⟨b8, 0, none⟩ = some (.int .i64 7) := cell_at 0 (HC.out.cell (.head _))
    have k1 : W'.cell? ⟨b8, 1, none⟩ = some (.int .i64 0) := cell_at 1 (HC.out.cell (.head _))
    have k2 : W'.cell? ⟨b8, 2, none⟩ = some (.int .i64 0) := cell_at 2 (HC.out.cell (.head _))
    have k3 : W'.cell? ⟨b8, 3, none⟩ = some (.string ⟨#[107]⟩) := cell_at 3 (HC.out.cell (.head _))
    go_wp2_with fail
    obtain ⟨bn, hbn⟩ : ∃ n, n = W'.heap.size := ⟨_, rfl⟩
    replace HS : Hid _ := HS.out.box #[.int .i64 7, .int .i64 0, .int .i64 0, .string ⟨#[107]⟩] 23
    replace HC : Hid _ := HC.out.alloc #[.int .i64 7, .int .i64 0, .int .i64 0, .string ⟨#[107]⟩] 23
    clear k0 k1 k2 k3
    rw [← hbn] at HS HC ⊢
    clear hbn
    generalize World.alloc W' _ = W' at HS HC ⊢
    have := drop_s s _ _ _ _ (some ⟨bn, 0, none⟩) 1 [kO] _ HS.out HC.out.wide (keysIn_box (k := kO) (HC.out.cell (.head _))) (.inr (fun a ha hw => by cases ha; exact hw.2 _ (.head _) rfl)) (by simp) (by simp)
    rw [show dropS [] [] [kO] = (101, []) from rfl] at this
    refine this.mono ?_
    clear this; rintro e w' ⟨rfl, q, rfl, hS⟩; replace HS : Hid _ := hS; replace HC : Hid _ := HC.out.ch q; clear hS; generalize q.w = W' at HS HC ⊢; clear q
    replace HS : Hid _ := HS.out.drop
    replace HC : Hid _ := HC.out.drop
    have k0 : W'.cell? ⟨b8, 0, none⟩ = some (.int .i64 7) := cell_at 0 (HC.out.cell (.head _))
    have k1 : W'.cell? ⟨b8, 1, none⟩ = some (.int .i64 0) := cell_at 1 (HC.out.cell (.head _))
    have k2 : W'.cell? ⟨b8, 2, none⟩ = some (.int .i64 0) := cell_at 2 (HC.out.cell (.head _))
    have k3 : W'.cell? ⟨b8, 3, none⟩ = some (.string ⟨#[107]⟩) := cell_at 3 (HC.out.cell (.head _))
    have v0 : W'.cell? ⟨b3, 0, none⟩ = some (.int .u64 vd) := cell_at 0 (HC.out.cell (.tail _ (.head _)))
    have v1 : W'.cell? ⟨b3, 1, none⟩ = some (.string vt) := cell_at 1 (HC.out.cell (.tail _ (.head _)))
    have v2 : W'.cell? ⟨b3, 2, none⟩ = some (.bool vh) := cell_at 2 (HC.out.cell (.tail _ (.head _)))
    go_wp2_with fail
    clear k0 k1 k2 k3 v0 v1 v2
    have := see_s s _ _ _ _ kO ⟨vd, vt, vh⟩ _ HS.out
    rw [Hsee.out] at this
    refine this.mono ?_
    clear this; rintro e w' ⟨rfl, q, rfl, hS⟩; replace HS : Hid _ := hS; replace HC : Hid _ := HC.out.ch q; clear hS; generalize q.w = W' at HS HC ⊢; clear q
    have k0 : W'.cell? ⟨b8, 0, none⟩ = some (.int .i64 7) := cell_at 0 (HC.out.cell (.head _))
    have k1 : W'.cell? ⟨b8, 1, none⟩ = some (.int .i64 0) := cell_at 1 (HC.out.cell (.head _))
    have k2 : W'.cell? ⟨b8, 2, none⟩ = some (.int .i64 0) := cell_at 2 (HC.out.cell (.head _))
    have k3 : W'.cell? ⟨b8, 3, none⟩ = some (.string ⟨#[107]⟩) := cell_at 3 (HC.out.cell (.head _))
    go_wp2_with fail
    clear k0 k1 k2 k3
    have := see_s s _ _ _ _ kO zSn _ HS.out
    rw [see_O2] at this
    refine this.mono ?_
    clear this; rintro e w' ⟨rfl, q, rfl, hS⟩; replace HS : Hid _ := hS; replace HC : Hid _ := HC.out.ch q; clear hS; generalize q.w = W' at HS HC ⊢; clear q
    have HS1 : Hid (SetM W' s [(kO, ⟨vd, vt, vh⟩)] [] [] (Wide w [(b8, 23, #[.int .i64 7, .int .i64 0, .int .i64 0, .string ⟨#[107]⟩]), (b3, 37, #[.int .u64 vd, .string vt, .bool vh])])) := HS.out
    clear HS
    have v1 : ∀ q : Ext W', q.w.cell? ⟨b3, 1, none⟩ = some (.string vt) := fun q => cell_at 1 (q.blkE (HC.out.cell (.tail _ (.head _))))
    have v2 : ∀ q : Ext W', q.w.cell? ⟨b3, 2, none⟩ = some (.bool vh) := fun q => cell_at 2 (q.blkE (HC.out.cell (.tail _ (.head _))))
    go_wp2_with fail
    refine wp_region_ch NoS (by kernel_rfl) (by kernel_rfl) (fun q hq => ?_)
    clear hq
    (repeat (first | (refine wpMix_skip rfl rfl ?_) | (refine wpMix_step (fun K hK => ?_); go_simp; (with_reducible (refine hK _ _ ?_)); clear hK K)))
    refine wpMix_nil ?_
    replace HS1 : Hid _ := HS1.out.ext q
    replace HC : Hid _ := HC.out.ext q
    clear v1 v2
    generalize q.w = W' at HS1 HC ⊢
    clear q
    go_wp2_with fail
    go_loopw [9, 10, 11] (fun v9 v10 v11 w' => ∃ (i : Nat) (val : ByteArray) (has : Bool) (Wl : List (Key × Tx)), v9 = .string val ∧ v10 = .bool has ∧ v11 = .int .i64 i ∧ i ≤ xs.length ∧ Ov ⟨vd, vt, vh⟩ Wl val has ∧ SetM w' s [(kO, ⟨vd, vt, vh⟩)] Wl [] (Wide w [(b8, 23, #[.int .i64 7, .int .i64 0, .int .i64 0, .string ⟨#[107]⟩]), (b3, 37, #[.int .u64 vd, .string vt, .bool vh])]) ∧ Scene w w' [(b8, 23, #[.int .i64 7, .int .i64 0, .int .i64 0, .string ⟨#[107]⟩]), (b3, 37, #[.int .u64 vd, .string vt, .bool vh])]) (fun _ _ v _ => xs.length - (intOf v).toNat)
    case atStart => exact ⟨0, vt, vh, [], rfl, rfl, rfl, by omega, .inl ⟨rfl, rfl, rfl⟩, HS1.out, HC.out⟩
    case round =>
      clear HS1 HC
      obtain ⟨i, val, has, Wl, rfl, rfl, rfl, hi, hov, hS, hC⟩ := hrel
      have HS : Hid _ := hS
      have HC : Hid _ := hC
      have Hov : Hid _ := hov
      clear hS hC hov
      obtain ⟨W', hW'⟩ : ∃ W', W' = wr := ⟨_, rfl⟩
      subst hW'
      by_cases h1 : i < xs.length
      · obtain ⟨p, hp⟩ := HC.out.fin
        obtain ⟨x, hx1, bx, off, rfl, hbl, hcx⟩ := (hEx.out.ext p).get h1
        rw [← hp] at hcx hbl
        have xc : ∀ q : Ext W', q.w.cell? ⟨bx, off + i, none⟩ = some (.string x) := fun q => by
          have := rangeAt_keep hcx (q.same _ hbl id) 0 _ rfl
          simpa using this
        have xc0 := xc (Ch.refl NoS W')
        simp only [Ch.refl_w] at xc0
        have Hx : Hid (xs[i]? = some x) := hx1
        clear hcx hbl hp hx1 p
        by_cases hl : 500 < x.size
        · go_wp2_with fail
          go_ret
          exact ⟨rfl, HC.out.fin⟩
        · go_wp2_with fail
          clear xc0
          have k0 : ∀ q : Ext W', q.w.cell? ⟨b8, 0, none⟩ = some (.int .i64 7) := fun q => cell_at 0 (q.blkE (HC.out.cell (.head _)))
          have k1 : ∀ q : Ext W', q.w.cell? ⟨b8, 1, none⟩ = some (.int .i64 0) := fun q => cell_at 1 (q.blkE (HC.out.cell (.head _)))
          have k2 : ∀ q : Ext W', q.w.cell? ⟨b8, 2, none⟩ = some (.int .i64 0) := fun q => cell_at 2 (q.blkE (HC.out.cell (.head _)))
          have k3 : ∀ q : Ext W', q.w.cell? ⟨b8, 3, none⟩ = some (.string ⟨#[107]⟩) := fun q => cell_at 3 (q.blkE (HC.out.cell (.head _)))
          refine wp_region_lch NoS (by kernel_rfl) (by repeat constructor) (by kernel_rfl) (by kernel_rfl) (fun q hq => ?_)
          clear hq
          (repeat (first | (refine wpMix_skip rfl rfl ?_) | (refine wpMix_step (fun K hK => ?_); go_simp; (with_reducible (refine hK _ _ ?_)); clear hK K)))
          refine wpMix_nil ?_
          refine last_step (fun K hK => ?_)
          go_simp
          have := put_s s _ _ _ _ kO x _ (HS.out.ext q)
          rw [ov_put (sv := ⟨vd, vt, vh⟩) (val := val) (has := has) Hov.out x] at this
          refine this.mono ?_
          clear this
          rintro e w' ⟨rfl, q2, rfl, hS⟩
          refine hK _ _ ?_
          clear hK K k0 k1 k2 k3 xc
          have HC2 : Hid _ := (HC.out.ext q).ch q2
          have HS2 : Hid (SetM q2.w s [(kO, ⟨vd, vt, vh⟩)] [(kO, ⟨x, true⟩)] [] (Wide w [(b8, 23, #[.int .i64 7, .int .i64 0, .int .i64 0, .string ⟨#[107]⟩]), (b3, 37, #[.int .u64 vd, .string vt, .bool vh])])) := hS
          clear hS HC HS
          generalize q2.w = W' at HC2 HS2 ⊢
          clear q2
          have HC : Hid _ := HC2.out
          have HS : Hid _ := HS2.out
          clear HC2 HS2
          have xc0 : W'.cell? ⟨bx, off + i, none⟩ = some (.string x) := by
            obtain ⟨p, hp⟩ := HC.out.fin
            obtain ⟨x', hx1, bx', off', e, hbl, hcx⟩ := (hEx.out.ext p).get h1
            cases e
            rw [Hx.out] at hx1
            cases hx1
            rw [← hp] at hcx
            have := hcx 0 _ rfl
            simpa using this
          by_cases h3 : ((i : Int) % 3 == 2) = true
          · have k0 : W'.cell? ⟨b8, 0, none⟩ = some (.int .i64 7) := cell_at 0 (HC.out.cell (.head _))
            have k1 : W'.cell? ⟨b8, 1, none⟩ = some (.int .i64 0) := cell_at 1 (HC.out.cell (.head _))
            have k2 : W'.cell? ⟨b8, 2, none⟩ = some (.int .i64 0) := cell_at 2 (HC.out.cell (.head _))
            have k3 : W'.cell? ⟨b8, 3, none⟩ = some (.string ⟨#[107]⟩) := cell_at 3 (HC.out.cell (.head _))
            go_wp2_with fail
            clear xc0
            obtain ⟨bn, hbn⟩ : ∃ n, n = W'.heap.size := ⟨_, rfl⟩
            replace HS : Hid _ := HS.out.box #[.int .i64 7, .int .i64 0, .int .i64 0, .string ⟨#[107]⟩] 23
            replace HC : Hid _ := HC.out.alloc #[.int .i64 7, .int .i64 0, .int .i64 0, .string ⟨#[107]⟩] 23
            clear k0 k1 k2 k3
            rw [← hbn] at HS HC ⊢
            clear hbn
            generalize World.alloc W' _ = W' at HS HC ⊢
            have := drop_s s _ _ _ _ (some ⟨bn, 0, none⟩) 1 [kO] _ HS.out HC.out.wide (keysIn_box (k := kO) (HC.out.cell (.head _))) (.inr (fun a ha hw => by cases ha; exact hw.2 _ (.head _) rfl)) (by simp) (by simp)
            rw [ov_drop (x := x) ⟨vd, vt, vh⟩ true] at this
            refine this.mono ?_
            clear this; rintro e w' ⟨rfl, q, rfl, hS⟩; replace HS : Hid _ := hS; replace HC : Hid _ := HC.out.ch q; clear hS; generalize q.w = W' at HS HC ⊢; clear q
            replace HS : Hid _ := HS.out.drop
            replace HC : Hid _ := HC.out.drop
            go_wp2_with fail
            go_roundw
            case rel => exact ⟨i + 1, ⟨#[]⟩, false, [(kO, ⟨⟨#[]⟩, false⟩)], rfl, rfl, by go_num, by omega, .inr rfl, HS.out, HC.out⟩
            case measure => simp [intOf]; omega
          · go_wp2_with fail
            clear xc0
            go_roundw
            case rel => exact ⟨i + 1, x, true, [(kO, ⟨x, true⟩)], rfl, rfl, by go_num, by omega, .inr rfl, HS.out, HC.out⟩
            case measure => simp [intOf]; omega
      · have hin : i = xs.length := by omega
        clear h1
        go_wp2_with fail
        go_at_call 58
        have := mark_s s _ _ _ _ _ HS.out HC.out.wide
        refine this.mono ?_
        clear this; rintro e w' ⟨rfl, q, rfl, hS⟩; replace HS : Hid _ := hS; replace HC : Hid _ := HC.out.ch q; clear hS; generalize q.w = W' at HS HC ⊢; clear q
        clear hin
        have HS3 : Hid (SetM W' s [(kO, ⟨vd, vt, vh⟩)] Wl Wl (Wide w [(b8, 23, #[.int .i64 7, .int .i64 0, .int .i64 0, .string ⟨#[107]⟩]), (b3, 37, #[.int .u64 vd, .string vt, .bool vh])])) := HS.out
        clear HS
        go_wp2_with fail
        go_loopw [12, 13, 14, 15] (fun v12 v13 v14 v15 w' => ∃ (j : Nat) (Wl2 : List (Key × Tx)), v12 = .int .i64 j ∧ j ≤ ys.length ∧ SetM w' s [(kO, ⟨vd, vt, vh⟩)] Wl2 Wl (Wide w [(b8, 23, #[.int .i64 7, .int .i64 0, .int .i64 0, .string ⟨#[107]⟩]), (b3, 37, #[.int .u64 vd, .string vt, .bool vh])]) ∧ Scene w w' [(b8, 23, #[.int .i64 7, .int .i64 0, .int .i64 0, .string ⟨#[107]⟩]), (b3, 37, #[.int .u64 vd, .string vt, .bool vh])]) (fun v _ _ _ _ => ys.length - (intOf v).toNat)
        case atStart => exact ⟨0, Wl, rfl, by omega, HS3.out, HC.out⟩
        case round =>
          clear HS3 HC
          obtain ⟨j, Wl2, rfl, hj, hS, hC⟩ := hrel
          have HS : Hid _ := hS
          have HC : Hid _ := hC
          clear hS hC
          obtain ⟨W', hW'⟩ : ∃ W', W' = wr := ⟨_, rfl⟩
          subst hW'
          by_cases h1 : j < ys.length
          · obtain ⟨p, hp⟩ := HC.out.fin
            obtain ⟨x, hx1, bx, off, rfl, hbl, hcx⟩ := (hEy.out.ext p).get h1
            rw [← hp] at hcx hbl
            have xc : ∀ q : Ext W', q.w.cell? ⟨bx, off + j, none⟩ = some (.string x) := fun q => by
              have := rangeAt_keep hcx (q.same _ hbl id) 0 _ rfl
              simpa using this
            have xc0 := xc (Ch.refl NoS W')
            simp only [Ch.refl_w] at xc0
            have Hx : Hid (ys[j]? = some x) := hx1
            clear hcx hbl hp hx1 p
            by_cases hl : 500 < x.size
            · go_wp2_with fail
              go_ret
              exact ⟨rfl, HC.out.fin⟩
            · go_wp2_with fail
              clear xc0
              have k0 : ∀ q : Ext W', q.w.cell? ⟨b8, 0, none⟩ = some (.int .i64 7) := fun q => cell_at 0 (q.blkE (HC.out.cell (.head _)))
              have k1 : ∀ q : Ext W', q.w.cell? ⟨b8, 1, none⟩ = some (.int .i64 0) := fun q => cell_at 1 (q.blkE (HC.out.cell (.head _)))
              have k2 : ∀ q : Ext W', q.w.cell? ⟨b8, 2, none⟩ = some (.int .i64 0) := fun q => cell_at 2 (q.blkE (HC.out.cell (.head _)))
              have k3 : ∀ q : Ext W', q.w.cell? ⟨b8, 3, none⟩ = some (.string ⟨#[107]⟩) := fun q => cell_at 3 (q.blkE (HC.out.cell (.head _)))
              refine wp_region_lch NoS (by kernel_rfl) (by repeat constructor) (by kernel_rfl) (by kernel_rfl) (fun q hq => ?_)
              clear hq
              (repeat (first | (refine wpMix_skip rfl rfl ?_) | (refine wpMix_step (fun K hK => ?_); go_simp; (with_reducible (refine hK _ _ ?_)); clear hK K)))
              refine wpMix_nil ?_
              refine last_step (fun K hK => ?_)
              go_simp
              have := put_s s _ _ _ _ kO x _ (HS.out.ext q)
              rw [put_seen] at this
              refine this.mono ?_
              clear this
              rintro e w' ⟨rfl, q2, rfl, hS⟩
              refine hK _ _ ?_
              clear hK K k0 k1 k2 k3 xc
              have HC2 : Hid _ := (HC.out.ext q).ch q2
              have HS2 : Hid (SetM q2.w s [(kO, ⟨vd, vt, vh⟩)] (aput Wl2 kO ⟨x, true⟩) Wl (Wide w [(b8, 23, #[.int .i64 7, .int .i64 0, .int .i64 0, .string ⟨#[107]⟩]), (b3, 37, #[.int .u64 vd, .string vt, .bool vh])])) := hS
              clear hS HC HS
              generalize q2.w = W' at HC2 HS2 ⊢
              clear q2
              have HC : Hid _ := HC2.out
              have HS : Hid _ := HS2.out
              clear HC2 HS2
              have k0 : W'.cell? ⟨b8, 0, none⟩ = some (.int .i64 7) := cell_at 0 (HC.out.cell (.head _))
              have k1 : W'.cell? ⟨b8, 1, none⟩ = some (.int .i64 0) := cell_at 1 (HC.out.cell (.head _))
              have k2 : W'.cell? ⟨b8, 2, none⟩ = some (.int .i64 0) := cell_at 2 (HC.out.cell (.head _))
              have k3 : W'.cell? ⟨b8, 3, none⟩ = some (.string ⟨#[107]⟩) := cell_at 3 (HC.out.cell (.head _))
              go_wp2_with fail
              clear k0 k1 k2 k3
              go_at_call 61
              have := get_s s _ _ _ _ kO _ HS.out
              rw [get_put] at this
              refine this.mono ?_
              clear this
              rintro e w' ⟨rfl, q, rfl⟩
              replace HS : Hid _ := HS.out.ext q; replace HC : Hid _ := HC.out.ext q; generalize q.w = W' at HS HC ⊢; clear q
              have xc0 : W'.cell? ⟨bx, off + j, none⟩ = some (.string x) := by
                obtain ⟨p, hp⟩ := HC.out.fin
                obtain ⟨x', hx1, bx', off', e, hbl, hcx⟩ := (hEy.out.ext p).get h1
                cases e
                rw [Hx.out] at hx1
                cases hx1
                rw [← hp] at hcx
                have := hcx 0 _ rfl
                simpa using this
              go_wp2_with fail
              clear xc0
              go_roundw
              case rel => exact ⟨j + 1, _, by go_num, by omega, HS.out, HC.out⟩
              case measure => simp [intOf]; omega
          · go_wp2_with fail
            clear h1
            go_at_call 70
            refine (key13_any 3 _).mono ?_
            rintro e w' ⟨rfl, q, rfl⟩
            replace HS : Hid _ := HS.out.ext q; replace HC : Hid _ := HC.out.ext q; generalize q.w = W' at HS HC ⊢; clear q
            go_wp2_with fail
            go_at_call 53
            have := see_s s _ _ _ _ (keyN13 3) zSn _ HS.out
            rw [see_3] at this
            refine this.mono ?_
            clear this; rintro e w' ⟨rfl, q, rfl, hS⟩; replace HS : Hid _ := hS; replace HC : Hid _ := HC.out.ch q; clear hS; generalize q.w = W' at HS HC ⊢; clear q
            have HS4 : Hid (SetM W' s [(kO, ⟨vd, vt, vh⟩), (keyN13 3, zSn)] Wl2 Wl (Wide w [(b8, 23, #[.int .i64 7, .int .i64 0, .int .i64 0, .string ⟨#[107]⟩]), (b3, 37, #[.int .u64 vd, .string vt, .bool vh])])) := HS.out
            clear HS
            have HS : Hid _ := HS4.out
            clear HS4
            go_wp2_with fail
            go_at_call 70
            refine (key13_any 3 _).mono ?_
            rintro e w' ⟨rfl, q, rfl⟩
            replace HS : Hid _ := HS.out.ext q; replace HC : Hid _ := HC.out.ext q; generalize q.w = W' at HS HC ⊢; clear q
            go_wp2_with fail
            go_at_call 55
            have := put_s s _ _ _ _ (keyN13 3) nwS _ HS.out
            rw [put_3] at this
            refine this.mono ?_
            clear this; rintro e w' ⟨rfl, q, rfl, hS⟩; replace HS : Hid _ := hS; replace HC : Hid _ := HC.out.ch q; clear hS; generalize q.w = W' at HS HC ⊢; clear q
            go_wp2_with fail
            go_at_call 60
            have := back_s s _ _ _ _ _ HS.out HC.out.wide
            refine this.mono ?_
            clear this; rintro e w' ⟨rfl, q, rfl, hS⟩; replace HS : Hid _ := hS; replace HC : Hid _ := HC.out.ch q; clear hS; generalize q.w = W' at HS HC ⊢; clear q
            have k0 : W'.cell? ⟨b8, 0, none⟩ = some (.int .i64 7) := cell_at 0 (HC.out.cell (.head _))
            have k1 : W'.cell? ⟨b8, 1, none⟩ = some (.int .i64 0) := cell_at 1 (HC.out.cell (.head _))
            have k2 : W'.cell? ⟨b8, 2, none⟩ = some (.int .i64 0) := cell_at 2 (HC.out.cell (.head _))
            have k3 : W'.cell? ⟨b8, 3, none⟩ = some (.string ⟨#[107]⟩) := cell_at 3 (HC.out.cell (.head _))
            go_wp2_with fail
            clear k0 k1 k2 k3
            go_at_call 61
            have := get_s s _ _ _ _ kO _ HS.out
            rw [ov_get (sv := ⟨vd, vt, vh⟩) (val := val) (has := has) Hov.out] at this
            refine this.mono ?_
            clear this
            rintro e w' ⟨rfl, q, rfl⟩
            replace HS : Hid _ := HS.out.ext q; replace HC : Hid _ := HC.out.ext q; generalize q.w = W' at HS HC ⊢; clear q
            go_wp2_with fail
            go_at_call 70
            refine (key13_any 3 _).mono ?_
            rintro e w' ⟨rfl, q, rfl⟩
            replace HS : Hid _ := HS.out.ext q; replace HC : Hid _ := HC.out.ext q; generalize q.w = W' at HS HC ⊢; clear q
            go_wp2_with fail
            go_at_call 61
            have := get_s s _ _ _ _ (keyN13 3) _ HS.out
            rw [ov_get3 (sv := ⟨vd, vt, vh⟩) (val := val) (has := has) Hov.out] at this
            refine this.mono ?_
            clear this
            rintro e w' ⟨rfl, q, rfl⟩
            replace HS : Hid _ := HS.out.ext q; replace HC : Hid _ := HC.out.ext q; generalize q.w = W' at HS HC ⊢; clear q
            have k0 : W'.cell? ⟨b8, 0, none⟩ = some (.int .i64 7) := cell_at 0 (HC.out.cell (.head _))
            have k1 : W'.cell? ⟨b8, 1, none⟩ = some (.int .i64 0) := cell_at 1 (HC.out.cell (.head _))
            have k2 : W'.cell? ⟨b8, 2, none⟩ = some (.int .i64 0) := cell_at 2 (HC.out.cell (.head _))
            have k3 : W'.cell? ⟨b8, 3, none⟩ = some (.string ⟨#[107]⟩) := cell_at 3 (HC.out.cell (.head _))
            go_wp2_with fail
            clear k0 k1 k2 k3
            go_at_call 63
            have := seen_s s _ _ _ _ kO _ HS.out
            rw [seen_O] at this
            refine this.mono ?_
            clear this
            rintro e w' ⟨rfl, q, rfl⟩
            replace HS : Hid _ := HS.out.ext q; replace HC : Hid _ := HC.out.ext q; generalize q.w = W' at HS HC ⊢; clear q
            have v0 : W'.cell? ⟨b3, 0, none⟩ = some (.int .u64 vd) := cell_at 0 (HC.out.cell (.tail _ (.head _)))
            have v1 : W'.cell? ⟨b3, 1, none⟩ = some (.string vt) := cell_at 1 (HC.out.cell (.tail _ (.head _)))
            have v2 : W'.cell? ⟨b3, 2, none⟩ = some (.bool vh) := cell_at 2 (HC.out.cell (.tail _ (.head _)))
            have hE : ∀ w, (Op.equalIn 10000 37 (.agg #[.int .u64 vd, .string vt, .bool vh]) (.agg #[.int .u64 vd, .string vt, .bool vh])).run Try.prog w = .ok true w := fun w => by
              have := run_eq_sn ⟨vd, vt, vh⟩ ⟨vd, vt, vh⟩ w
              simpa using this
            have l3 : b3 < W'.heap.size := lt_of_blk (HC.out.cell (.tail _ (.head _)))
            have n3 : b3 ≠ W'.heap.size := Nat.ne_of_lt l3
            go_wp2_with fail
            go_at_call 66
            have := reads_s s _ _ _ _ _ (HS.out.ext ((Ch.refl NoS W').alloc (.cells #[.int .u64 vd, .string vt, .bool vh] 37))) (by simp)
            refine this.mono ?_
            clear this hE v0 v1 v2 l3 n3
            rintro e w' ⟨v, rfl, q, rfl, fa', cap', rfl, -, -, -⟩
            have hlen : (sortK ([(kO, (⟨vd, vt, vh⟩ : Sn)), (keyN13 3, zSn)].map (·.1))).length = 2 := by rw [(sortK_perm _).length_eq]; rfl
            rw [hlen]
            clear hlen
            go_wp2_with fail
            go_ret
            obtain ⟨p, hp⟩ := HC.out.fin
            subst hp
            exact ⟨rfl, (p.alloc _).thenE q, rfl⟩
end Go.Proofs.Cob
