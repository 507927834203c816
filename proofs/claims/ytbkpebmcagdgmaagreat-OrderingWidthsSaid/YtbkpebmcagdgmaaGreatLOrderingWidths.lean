/- Proved: the statement OrderingWidthsSaid: whatever the input, the law OrderingWidths returns true and its arguments read afterwards as before. No condition beyond the row's own. -/
import Derived.Test.YtbkpebmcagdgmaaGreatRows
import Derived.Test.YtbkpebmcagdgmaaGreatK6
import Derived.Test.YtbkpebmcagdgmaaGreatK7
/-! Proved: the statement OrderingWidthsSaid: whatever the input, the law OrderingWidths returns true and its arguments read afterwards as before. No condition beyond the row's own. -/
namespace Go.Proofs.YtbkpebmcagdgmaaGreat.orderingWidths
open Go Go.RowKit Go.ChangeShapes Go.WideShapes Go.ChangeAt Go.Proofs.YtbkpebmcagdgmaaGreat.AM
set_option linter.unusedVariables false
set_option linter.unusedSimpArgs false
theorem own : ownKnob Tryz.prog.godebug = none := by kernel_rfl
theorem laidOut : laidOutB Tryz.prog = true := by kernel_rfl
set_option maxRecDepth 100000 in
theorem lifted (os : Os) (started : os.Started) (H : Type) (enc : TypeId × Value → H) :
    ReturnsInHanded {} Tryz.checked os 3 .any (Rows.orderingWidthsSpec.pre6 enc Tryz.prog Tryz.f3 Rows.orderingWidthsRow.domain false) (Rows.orderingWidthsSpec.post enc Tryz.prog Tryz.f3 false true false false) := by
  refine returnsInHanded_of_change_sized (C := Tryz.checked) own started (by kernel_rfl) Tryz.func3
    (ChangeSpec.witness6 (enc := enc) (C := Tryz.checked) false ⟨#[], #[.agg #[.int .i64 0, .int .i64 0, .slice none 0 0, .int .i64 0, .slice none 0 0], .slice none 0 0], []⟩ 8 (by kernel_rfl) (by kernel_rfl) (by kernel_rfl) (by kernel_rfl)) ?_
  intro W base args ds gs before hval0 hW hcnd hsz0 _
  have hval : ∀ (j : Nat) t v, Tryz.f3.params[j]? = some t → args[j]? = some v → Value.okWide Tryz.prog W .any base t v := hval0
  have hW' := hW
  obtain ⟨p, q, hA0, hV, rfl, hfz, hnd⟩ := hW
  have hA : DataW.TrodAll enc Tryz.prog W 0 (fun _ => true) true Tryz.f3.params.toList args.toList ds p := hA0
  rw [Tryz.params3] at hA hval
  obtain ⟨v0, vs0, d0, ds0, p0, q0, hargs, rfl, rfl, h0, r0⟩ := trodAll_cons hA
  obtain ⟨v1, vs1, d1, ds1, p1, q1, rfl, rfl, rfl, h1, r1⟩ := trodAll_cons r0
  obtain ⟨rfl, rfl, rfl⟩ := trodAll_nil r1
  obtain rfl : args = #[v0, v1] := by cases args; simp_all
  obtain ⟨rfl, rfl⟩ := trodVars_none hV
  have k0 := h0
  have lt0 : ∀ x ∈ p0, x.block < W.heap.size := by obtain ⟨m, hm⟩ := k0; exact DataW.trod_lt m _ _ _ hm
  obtain ⟨c0_p, c0_m, c0_n, c0_md, c0_g, c0_mod, c0_us, c0_rows, rv0, c0_1, c0_2, c0_3, c0_4, c0_5⟩ := code_of (hval 0 27 v0 rfl rfl) h0
  have k1 := h1
  have lt1 : ∀ x ∈ p1, x.block < W.heap.size := by obtain ⟨m, hm⟩ := k1; exact DataW.trod_lt m _ _ _ hm
  obtain ⟨s1_xs, s1_1, s1_2⟩ := arg_ints Tryz.underlying22 Tryz.underlying3 (by kernel_rfl) (hval 1 22 v1 rfl rfl) h1
  have rv1 := avOf_rv W v1
  obtain ⟨-, hcalls⟩ := law_Widths alg c0_1 c0_2 c0_3 c0_4 c0_5 s1_1 s1_2
  refine (hcalls W #[v0, v1] (heap0_rep W) (rvs2 rv0 rv1)).mono fun e W' ⟨v, r, H', he, ⟨hr, _⟩, _, hrv, hst⟩ => ?_
  subst he
  subst hr
  cases hrv
  have bel := stp_below hst
  exact ⟨_, rfl, _, _, _, [], _, [], hW', trodAll_mk1 (shut_bool Tryz.underlying4 _), (trodAll_cons_mk (Below.trod laidOut (by kernel_rfl) (of_decide_eq_true (by kernel_rfl)) k0 bel lt0) (trodAll_cons_mk (Below.trod laidOut (by kernel_rfl) (of_decide_eq_true (by kernel_rfl)) k1 bel lt1) trodAll_mk0)), rfl, bel.frame _, fun h => by cases h⟩
theorem over : Rows.orderingWidthsRow.holds Tryz.pinned (OpenSpec.ofChange Rows.orderingWidthsSpec) :=
  OpenClaim.holds_of_wide 3 Tryz.f3 rfl rfl rfl rfl rfl rfl rfl ⟨rfl, rfl, rfl, rfl, rfl⟩ rfl rfl rfl rfl rfl (by kernel_rfl) Tryz.func3 (by kernel_rfl)
    (of_decide_eq_true (by kernel_rfl)) (by unfold Func.isWrapper; first | (rw [if_pos (by decide +kernel)]; kernel_rfl) | (rw [if_neg (by decide +kernel)]; exact ⟨rfl, rfl⟩))
    (fun os started H enc _ => lifted os started H enc)
end Go.Proofs.YtbkpebmcagdgmaaGreat.orderingWidths
namespace Go.Proofs.YtbkpebmcagdgmaaGreat
/-- The law holds. -/
theorem orderingWidths_holds : Rows.OrderingWidthsSaid := orderingWidths.over
#print axioms orderingWidths_holds
end Go.Proofs.YtbkpebmcagdgmaaGreat
