/- Proved: the statement OrderingReordersSaid: whatever the input, the law OrderingReorders returns true and its arguments read afterwards as before. No condition beyond the row's own. -/
import Derived.Test.YtbkpebmcagdgmaaGreatRows
import Derived.Test.YtbkpebmcagdgmaaGreatK6
import Derived.Test.YtbkpebmcagdgmaaGreatK7
/-! Proved: the statement OrderingReordersSaid: whatever the input, the law OrderingReorders returns true and its arguments read afterwards as before. No condition beyond the row's own. -/
namespace Go.Proofs.YtbkpebmcagdgmaaGreat.orderingReorders
open Go Go.RowKit Go.ChangeShapes Go.WideShapes Go.ChangeAt Go.Proofs.YtbkpebmcagdgmaaGreat.AM
set_option linter.unusedVariables false
set_option linter.unusedSimpArgs false
theorem own : ownKnob Tryz.prog.godebug = none := by kernel_rfl
theorem laidOut : laidOutB Tryz.prog = true := by kernel_rfl
set_option maxRecDepth 100000 in
theorem lifted (os : Os) (started : os.Started) (H : Type) (enc : TypeId × Value → H) :
    ReturnsInHanded {} Tryz.checked os 4 .any (Rows.orderingReordersSpec.pre6 enc Tryz.prog Tryz.f4 Rows.orderingReordersRow.domain false) (Rows.orderingReordersSpec.post enc Tryz.prog Tryz.f4 false true false false) := by
  refine returnsInHanded_of_change_sized (C := Tryz.checked) own started (by kernel_rfl) Tryz.func4
    (ChangeSpec.witness6 (enc := enc) (C := Tryz.checked) false ⟨#[], #[.agg #[.int .i64 0, .int .i64 0, .slice none 0 0, .int .i64 0, .slice none 0 0], .slice none 0 0, .slice none 0 0], []⟩ 8 (by kernel_rfl) (by kernel_rfl) (by kernel_rfl) (by kernel_rfl)) ?_
  intro W base args ds gs before hval0 hW hcnd hsz0 _
  have hval : ∀ (j : Nat) t v, Tryz.f4.params[j]? = some t → args[j]? = some v → Value.okWide Tryz.prog W .any base t v := hval0
  have hW' := hW
  obtain ⟨p, q, hA0, hV, rfl, hfz, hnd⟩ := hW
  have hA : DataW.TrodAll enc Tryz.prog W 0 (fun _ => true) true Tryz.f4.params.toList args.toList ds p := hA0
  rw [Tryz.params4] at hA hval
  obtain ⟨v0, vs0, d0, ds0, p0, q0, hargs, rfl, rfl, h0, r0⟩ := trodAll_cons hA
  obtain ⟨v1, vs1, d1, ds1, p1, q1, rfl, rfl, rfl, h1, r1⟩ := trodAll_cons r0
  obtain ⟨v2, vs2, d2, ds2, p2, q2, rfl, rfl, rfl, h2, r2⟩ := trodAll_cons r1
  obtain ⟨rfl, rfl, rfl⟩ := trodAll_nil r2
  obtain rfl : args = #[v0, v1, v2] := by cases args; simp_all
  obtain ⟨rfl, rfl⟩ := trodVars_none hV
  have k0 := h0
  have lt0 : ∀ x ∈ p0, x.block < W.heap.size := by obtain ⟨m, hm⟩ := k0; exact DataW.trod_lt m _ _ _ hm
  obtain ⟨c0_p, c0_m, c0_n, c0_md, c0_g, c0_mod, c0_us, c0_rows, rv0, c0_1, c0_2, c0_3, c0_4, c0_5⟩ := code_of (hval 0 27 v0 rfl rfl) h0
  have k1 := h1
  have lt1 : ∀ x ∈ p1, x.block < W.heap.size := by obtain ⟨m, hm⟩ := k1; exact DataW.trod_lt m _ _ _ hm
  obtain ⟨s1_xs, s1_1, s1_2⟩ := arg_ints Tryz.underlying22 Tryz.underlying3 (by kernel_rfl) (hval 1 22 v1 rfl rfl) h1
  have rv1 := avOf_rv W v1
  have k2 := h2
  have lt2 : ∀ x ∈ p2, x.block < W.heap.size := by obtain ⟨m, hm⟩ := k2; exact DataW.trod_lt m _ _ _ hm
  obtain ⟨s2_xs, s2_1, s2_2⟩ := arg_ints Tryz.underlying22 Tryz.underlying3 (by kernel_rfl) (hval 2 22 v2 rfl rfl) h2
  have rv2 := avOf_rv W v2
  obtain ⟨-, hcalls⟩ := law_Reorders alg c0_1 c0_2 c0_3 c0_4 c0_5 s1_1 s1_2 s2_1 s2_2
  refine (hcalls W #[v0, v1, v2] (heap0_rep W) (rvs3 rv0 rv1 rv2)).mono fun e W' ⟨v, r, H', he, ⟨hr, _⟩, _, hrv, hst⟩ => ?_
  subst he
  subst hr
  cases hrv
  have bel := stp_below hst
  exact ⟨_, rfl, _, _, _, [], _, [], hW', trodAll_mk1 (shut_bool Tryz.underlying4 _), (trodAll_cons_mk (Below.trod laidOut (by kernel_rfl) (of_decide_eq_true (by kernel_rfl)) k0 bel lt0) (trodAll_cons_mk (Below.trod laidOut (by kernel_rfl) (of_decide_eq_true (by kernel_rfl)) k1 bel lt1) (trodAll_cons_mk (Below.trod laidOut (by kernel_rfl) (of_decide_eq_true (by kernel_rfl)) k2 bel lt2) trodAll_mk0))), rfl, bel.frame _, fun h => by cases h⟩
theorem over : Rows.orderingReordersRow.holds Tryz.pinned (OpenSpec.ofChange Rows.orderingReordersSpec) :=
  OpenClaim.holds_of_wide 4 Tryz.f4 rfl rfl rfl rfl rfl rfl rfl ⟨rfl, rfl, rfl, rfl, rfl⟩ rfl rfl rfl rfl rfl (by kernel_rfl) Tryz.func4 (by kernel_rfl)
    (of_decide_eq_true (by kernel_rfl)) (by unfold Func.isWrapper; first | (rw [if_pos (by decide +kernel)]; kernel_rfl) | (rw [if_neg (by decide +kernel)]; exact ⟨rfl, rfl⟩))
    (fun os started H enc _ => lifted os started H enc)
end Go.Proofs.YtbkpebmcagdgmaaGreat.orderingReorders
namespace Go.Proofs.YtbkpebmcagdgmaaGreat
/-- The law holds. -/
theorem orderingReorders_holds : Rows.OrderingReordersSaid := orderingReorders.over
#print axioms orderingReorders_holds
end Go.Proofs.YtbkpebmcagdgmaaGreat
