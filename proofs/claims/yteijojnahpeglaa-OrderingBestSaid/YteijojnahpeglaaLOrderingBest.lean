/- Proved: the statement OrderingBestSaid: whatever the input, the law OrderingBest returns true and its arguments read afterwards as before. No condition beyond the row's own. -/
import Derived.Test.YteijojnahpeglaaRows
import Derived.Test.YteijojnahpeglaaK7
import Derived.Test.YteijojnahpeglaaK8
/-! Proved: the statement OrderingBestSaid: whatever the input, the law OrderingBest returns true and its arguments read afterwards as before. No condition beyond the row's own. -/
namespace Go.Proofs.Yteijojnahpeglaa.orderingBest
open Go Go.RowKit Go.ChangeShapes Go.WideShapes Go.ChangeAt Go.Proofs.Yteijojnahpeglaa.AM
set_option linter.unusedVariables false
set_option linter.unusedSimpArgs false
theorem own : ownKnob Try.prog.godebug = none := by kernel_rfl
theorem laidOut : laidOutB Try.prog = true := by kernel_rfl
set_option maxRecDepth 100000 in
theorem lifted (os : Os) (started : os.Started) (H : Type) (enc : TypeId × Value → H) :
    ReturnsInHanded {} Try.checked os 10 .any (Rows.orderingBestSpec.pre6 enc Try.prog Try.f10 Rows.orderingBestRow.domain false) (Rows.orderingBestSpec.post enc Try.prog Try.f10 false true false false) := by
  refine returnsInHanded_of_change_sized (C := Try.checked) own started (by kernel_rfl) Try.func10
    (ChangeSpec.witness6 (enc := enc) (C := Try.checked) false ⟨#[], #[.agg #[.int .i64 0, .int .i64 0, .slice none 0 0, .int .i64 0, .slice none 0 0]], []⟩ 8 (by kernel_rfl) (by kernel_rfl) (by kernel_rfl) (by kernel_rfl)) ?_
  intro W base args ds gs before hval0 hW hcnd hsz0 _
  have hval : ∀ (j : Nat) t v, Try.f10.params[j]? = some t → args[j]? = some v → Value.okWide Try.prog W .any base t v := hval0
  have hW' := hW
  obtain ⟨p, q, hA0, hV, rfl, hfz, hnd⟩ := hW
  have hA : DataW.TrodAll enc Try.prog W 0 (fun _ => true) true Try.f10.params.toList args.toList ds p := hA0
  rw [Try.params10] at hA hval
  obtain ⟨v0, vs0, d0, ds0, p0, q0, hargs, rfl, rfl, h0, r0⟩ := trodAll_cons hA
  obtain ⟨rfl, rfl, rfl⟩ := trodAll_nil r0
  obtain rfl : args = #[v0] := by cases args; simp_all
  obtain ⟨rfl, rfl⟩ := trodVars_none hV
  have k0 := h0
  have lt0 : ∀ x ∈ p0, x.block < W.heap.size := by obtain ⟨m, hm⟩ := k0; exact DataW.trod_lt m _ _ _ hm
  obtain ⟨c0_p, c0_m, c0_n, c0_md, c0_g, c0_mod, c0_us, c0_rows, rv0, c0_1, c0_2, c0_3, c0_4, c0_5⟩ := code_of (hval 0 27 v0 rfl rfl) h0
  obtain ⟨-, hcalls⟩ := law_Best alg c0_1 c0_2 c0_3 c0_4 c0_5
  refine (hcalls W #[v0] (heap0_rep W) (rvs1 rv0)).mono fun e W' ⟨v, r, H', he, ⟨hr, _⟩, _, hrv, hst⟩ => ?_
  subst he
  subst hr
  cases hrv
  have bel := stp_below hst
  exact ⟨_, rfl, _, _, _, [], _, [], hW', trodAll_mk1 (shut_bool Try.underlying4 _), (trodAll_cons_mk (Below.trod laidOut (by kernel_rfl) (of_decide_eq_true (by kernel_rfl)) k0 bel lt0) trodAll_mk0), rfl, bel.frame _, fun h => by cases h⟩
theorem over : Rows.orderingBestRow.holds Try.pinned (OpenSpec.ofChange Rows.orderingBestSpec) :=
  OpenClaim.holds_of_wide 10 Try.f10 rfl rfl rfl rfl rfl rfl rfl ⟨rfl, rfl, rfl, rfl, rfl⟩ rfl rfl rfl rfl rfl (by kernel_rfl) Try.func10 (by kernel_rfl)
    (of_decide_eq_true (by kernel_rfl)) (by unfold Func.isWrapper; first | (rw [if_pos (by decide +kernel)]; kernel_rfl) | (rw [if_neg (by decide +kernel)]; exact ⟨rfl, rfl⟩))
    (fun os started H enc _ => lifted os started H enc)
end Go.Proofs.Yteijojnahpeglaa.orderingBest
namespace Go.Proofs.Yteijojnahpeglaa
/-- The law holds. -/
theorem orderingBest_holds : Rows.OrderingBestSaid := orderingBest.over
#print axioms orderingBest_holds
end Go.Proofs.Yteijojnahpeglaa
