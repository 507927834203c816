/- Helpers. The program's matrices, first part: entries, check, Clone, add, Equal, EqualFunc. · The program's matrices, second part: what the elimination keeps in memory. · The program's matrices, third part: the steps of the elimination. · The program's matrices, fourth part: eliminate. · The program's matrices, fifth part: clone, canon, open. · The program's matrices, sixth part: Canonical; the program's spaces and codes: Check. · The program's spaces and codes: Check. · Lists of slices of the call's own in blocks of their own. · The program's information sets, first part: IndexFunc, basis.add. · The program's information sets, second part: column, greedy, sets, Rank. · The program's information sets, third part: sets, open, Rank. · The program's orderings, first part: rank, dimension, Dimension. · The program's orderings, second part: Dimension. -/
import Derived.Test.YteijojnahpeglaaKD
/-! The program's matrices, first part: entries, check, Clone, add, Equal, EqualFunc. -/
namespace Go.Proofs.Yteijojnahpeglaa.AM
open Go Go.RowKit
set_option linter.unusedVariables false
set_option linter.unusedSimpArgs false
set_option maxRecDepth 20000
open Classical in
theorem c_entries {b : Nat} {p m : Int} {v : AV} {mod xs : List Int} {H : AH} {Q : AV → AH → Prop} (hg : GFA H b p m mod) (hv : Ints H v xs) (hl : xs.length ≤ 9223372036854775807)
    (hQ : Q (.int .i64 (if AllEl p m xs then 0 else 2)) H) : AC Try.prog 94 [.ptr b 0, v] H Q := by
  refine at94 (by simp) ?_
  simp (disch := first | assumption | omega) only [↓RP, RQ, TY, loadT, s94, reduceIte, Nat.reduceEqDiff, Nat.reduceAdd, hv.ints]
  refine sw_loop (σ := Nat) (fun i e H' => e 9 = .int .i64 i ∧ e 8 = .int .i64 xs.length ∧ e 7 = v ∧ e 0 = .ptr b 0 ∧ i ≤ xs.length ∧ H' = H ∧ ∀ j, j < i → 0 ≤ xs.getD j 0 ∧ xs.getD j 0 < ordr p m) (fun i => xs.length - i) 0 ?_ ?_
  · simp (disch := first | assumption | omega) only [↓RP, RQ, TY, loadT, reduceIte, Nat.reduceEqDiff, Nat.reduceAdd]
    exact ⟨by omega, fun j hj => by omega⟩
  rintro i e H' ⟨e9, e8, e7, e0, hi, rfl, hj⟩
  by_cases hlt : (i : Int) < xs.length
  · simp (disch := first | assumption | omega) only [↓RP, RQ, TY, loadT, reduceIte, Nat.reduceEqDiff, Nat.reduceAdd, e9, e8, e7, e0, hlt, hv.ints]
    refine c_GIs hg ?_
    by_cases hc : 0 ≤ xs.getD i 0 ∧ xs.getD i 0 < ordr p m
    · simp (disch := first | assumption | omega) only [↓RP, RQ, TY, loadT, reduceIte, Nat.reduceEqDiff, Nat.reduceAdd, e9, e8, e7, e0, hc]
      refine ⟨i + 1, ?_, by dsimp only; omega⟩
      simp (disch := first | assumption | omega) only [↓RP, RQ, TY, loadT, reduceIte, Nat.reduceEqDiff, Nat.reduceAdd, e9, e8, e7, e0]
      refine ⟨by omega, fun j h => ?_⟩
      by_cases hji : j = i
      · rw [hji]; exact hc
      · exact hj j (by omega)
    · simp (disch := first | assumption | omega) only [↓RP, RQ, TY, loadT, reduceIte, Nat.reduceEqDiff, Nat.reduceAdd, e9, e8, e7, e0, hc]
      rwa [if_neg (fun q => hc (q i (by omega)))] at hQ
  · simp (disch := first | assumption | omega) only [↓RP, RQ, TY, loadT, reduceIte, Nat.reduceEqDiff, Nat.reduceAdd, e9, e8, e7, e0, hlt]
    rwa [if_pos (show AllEl p m xs from fun j hj' => hj j (by omega))] at hQ
open Classical in
theorem c_mcheck {b : Nat} {p m cols : Int} {v : AV} {mod : List Int} {us : List AV} {rows : List (List Int)} {H : AH} {Q : AV → AH → Prop} (hg : GFA H b p m mod) (hF : FieldOk p m mod) (hv : Rows H v us rows) (hl : rows.length ≤ 9223372036854775807) (hlr : ∀ i, i < rows.length → (rowAt rows i).length ≤ 9223372036854775807)
    (hQ : ∀ H', Ext H H' → Q (.int .i64 (matErr p m mod cols rows)) H') : AC Try.prog 74 [.ptr b 0, .agg [.int .i64 cols, v]] H Q := by
  refine at74 (by simp) ?_
  simp (disch := first | assumption | omega) only [↓RP, RQ, TY, loadT, s74, reduceIte, Nat.reduceEqDiff, Nat.reduceAdd]
  refine kNew_intro fun b2 H3 hb2 hE3 hH3 => ?_
  have hv3 := hv.ext hE3
  have h23 := hH3
  by_cases c1 : cols < 0
  · simp (disch := first | assumption | omega) only [↓RP, RQ, TY, loadT, reduceIte, Nat.reduceEqDiff, Nat.reduceAdd, h23, c1]
    have := hQ H3 hE3
    rwa [matErr, if_neg (by simpa using hF), if_pos (.inl c1)] at this
  by_cases c2 : 256 < cols
  · simp (disch := first | assumption | omega) only [↓RP, RQ, TY, loadT, reduceIte, Nat.reduceEqDiff, Nat.reduceAdd, h23, c1, c2]
    have := hQ H3 hE3
    rwa [matErr, if_neg (by simpa using hF), if_pos (.inr (.inl c2))] at this
  by_cases c3 : (256 : Int) < rows.length
  · simp (disch := first | assumption | omega) only [↓RP, RQ, TY, loadT, reduceIte, Nat.reduceEqDiff, Nat.reduceAdd, h23, c1, c2, c3, hv3.run]
    have := hQ H3 hE3
    rwa [matErr, if_neg (by simpa using hF), if_pos (.inr (.inr (.inl (by omega))))] at this
  simp (disch := first | assumption | omega) only [↓RP, RQ, TY, loadT, reduceIte, Nat.reduceEqDiff, Nat.reduceAdd, h23, c1, c2, c3, hv3.run]
  refine sw_loop (σ := Nat) (fun i e H' => e 27 = .int .i64 i ∧ e 26 = .int .i64 rows.length ∧ e 25 = v ∧ e 3 = .ptr b2 0 ∧ e 0 = .ptr b 0 ∧ H' = H3 ∧ i ≤ rows.length ∧ ∀ j, j < i → ((rowAt rows j).length : Int) = cols) (fun i => rows.length - i) 0 ?_ ?_
  · simp (disch := first | assumption | omega) only [↓RP, RQ, TY, loadT, reduceIte, Nat.reduceEqDiff, Nat.reduceAdd]
    exact ⟨by omega, fun j hj => by omega⟩
  rintro i e H' ⟨e27, e26, e25, e3, e0, rfl, hi, hj⟩
  by_cases hlt : (i : Int) < rows.length
  · have hri := hv3.row i (by omega)
    by_cases hc : ((rowAt rows i).length : Int) = cols
    · simp (disch := first | assumption | omega) only [↓RP, RQ, TY, loadT, reduceIte, Nat.reduceEqDiff, Nat.reduceAdd, e27, e26, e25, e3, e0, hlt, h23, hv3.run, hri.ints, eq_true hc]
      refine ⟨i + 1, ?_, by dsimp only; omega⟩
      simp (disch := first | assumption | omega) only [↓RP, RQ, TY, loadT, reduceIte, Nat.reduceEqDiff, Nat.reduceAdd, e27, e26, e25, e3, e0]
      refine ⟨by omega, fun j h => ?_⟩
      by_cases hji : j = i
      · rw [hji]; exact hc
      · exact hj j (by omega)
    · simp (disch := first | assumption | omega) only [↓RP, RQ, TY, loadT, reduceIte, Nat.reduceEqDiff, Nat.reduceAdd, e27, e26, e25, e3, e0, hlt, h23, hv3.run, hri.ints, eq_false hc]
      have := hQ H' hE3
      rwa [matErr, if_neg (by simpa using hF), if_pos (.inr (.inr (.inr ⟨i, by omega, hc⟩)))] at this
  have hjj : ∀ j, j < rows.length → ((rowAt rows j).length : Int) = cols := fun j h => hj j (by omega)
  have n3 : ¬ (cols < 0 ∨ 256 < cols ∨ 256 < rows.length ∨ (∃ i, i < rows.length ∧ ((rowAt rows i).length : Int) ≠ cols)) := by
    rintro (q | q | q | ⟨i, q1, q2⟩)
    · omega
    · omega
    · omega
    · exact q2 (hjj i q1)
  simp (disch := first | assumption | omega) only [↓RP, RQ, TY, loadT, reduceIte, Nat.reduceEqDiff, Nat.reduceAdd, e27, e26, e25, e3, e0, hlt, h23, hv3.run]
  refine sw_loop (σ := Nat) (fun i e H2 => e 40 = .int .i64 i ∧ e 39 = .int .i64 rows.length ∧ e 38 = v ∧ e 0 = .ptr b 0 ∧ H2 = H' ∧ i ≤ rows.length ∧ ∀ j, j < i → AllEl p m (rowAt rows j)) (fun i => rows.length - i) 0 ?_ ?_
  · simp (disch := first | assumption | omega) only [↓RP, RQ, TY, loadT, reduceIte, Nat.reduceEqDiff, Nat.reduceAdd, e0]
    exact ⟨by omega, fun j hj => by omega⟩
  rintro i e H2 ⟨e40, e39, e38, e0, rfl, hi, hj⟩
  by_cases hlt : (i : Int) < rows.length
  · simp (disch := first | assumption | omega) only [↓RP, RQ, TY, loadT, reduceIte, Nat.reduceEqDiff, Nat.reduceAdd, e40, e39, e38, e0, hlt, h23, hv3.run]
    refine c_entries (hg.ext hE3) (hv3.row i (by omega)) (hlr i (by omega)) ?_
    by_cases hc : AllEl p m (rowAt rows i)
    · simp (disch := first | assumption | omega) only [↓RP, RQ, TY, loadT, reduceIte, Nat.reduceEqDiff, Nat.reduceAdd, e40, e39, e38, e0, hc, Int.reduceEq, Int.reduceNe]
      refine ⟨i + 1, ?_, by dsimp only; omega⟩
      simp (disch := first | assumption | omega) only [↓RP, RQ, TY, loadT, reduceIte, Nat.reduceEqDiff, Nat.reduceAdd, e40, e39, e38, e0]
      refine ⟨by omega, fun j h => ?_⟩
      by_cases hji : j = i
      · rw [hji]; exact hc
      · exact hj j (by omega)
    · simp (disch := first | assumption | omega) only [↓RP, RQ, TY, loadT, reduceIte, Nat.reduceEqDiff, Nat.reduceAdd, e40, e39, e38, e0, hc, Int.reduceEq, Int.reduceNe]
      have := hQ H2 hE3
      rwa [matErr, if_neg (by simpa using hF), if_neg n3, if_pos ⟨i, by omega, hc⟩] at this
  · simp (disch := first | assumption | omega) only [↓RP, RQ, TY, loadT, reduceIte, Nat.reduceEqDiff, Nat.reduceAdd, e40, e39, e38, e0, hlt]
    have := hQ H2 hE3
    rwa [matErr, if_neg (by simpa using hF), if_neg n3, if_neg (fun ⟨j, q1, q2⟩ => q2 (hj j (by omega)))] at this
theorem c_Clone {v : AV} {xs : List Int} {H : AH} {Q : AV → AH → Prop} (hv : Ints H v xs) (hl : xs.length ≤ 1000) (hQ : ∀ w H', Ext H H' → Own H H' w (ints xs) → Q w H') : AC Try.prog 79 [v] H Q := by
  refine at79 (by simp) ?_
  rcases hv with ⟨rfl, h2⟩ | ⟨b, o, c, rfl, h2⟩
  · simp (disch := first | assumption | omega) only [↓RP, RQ, TY, loadT, s79, reduceIte, Nat.reduceEqDiff, Nat.reduceAdd, u_eqNN, Option.isSome_some, true_and]
    exact hQ _ _ (Ext.refl H) (.inl ⟨rfl, h2⟩)
  · simp (disch := first | assumption | omega) only [↓RP, RQ, TY, loadT, s79, reduceIte, Nat.reduceEqDiff, Nat.reduceAdd, u_eqN, Option.isSome_some, true_and]
    refine kNew_intro fun b1 H1 hb1 hE1 hH1 => ?_
    simp (disch := first | assumption | omega) only [↓RP, RQ, TY, loadT, reduceIte, Nat.reduceEqDiff, Nat.reduceAdd]
    have hv : Ints H (.sl b o (ints xs).length c) xs := .inr ⟨b, o, c, rfl, h2⟩
    refine kApp_own (H0 := H) (zs := []) (us := ints xs) (Own.mk hH1 hb1 rfl) hE1 (hv.ext hE1) ints_ones (by simp [ints_length]; omega) (by simp [ints_length]; omega) fun v2 H2 hE2 ho2 keep2 => ?_
    simp (disch := first | assumption | omega) only [↓RP, RQ, TY, loadT, reduceIte, Nat.reduceEqDiff, Nat.reduceAdd]
    exact hQ _ _ hE2 ho2
theorem upd2 (H : AH) (b : Nat) (s t : Slot) : (H.upd b s).upd b t = H.upd b t := funext fun c => by
  simp only [AH.upd]; split <;> rfl
theorem updS {H : AH} {b : Nat} {s : Slot} (h : H b = s) : H.upd b s = H := funext fun c => by
  simp only [AH.upd]; split
  · rename_i q; rw [q, h]
  · rfl
theorem c_add (A : Alg) {b bv : Nat} {p m a : Int} {w : AV} {cv : Cap} {mod xs ys : List Int} {H0 H : AH} {Q : AV → AH → Prop} (hg : GFA H0 b p m mod) (hE : Ext H0 H) (hfv : H0 bv = .free) (hv : H bv = .rw (ints xs)) (hw : ∀ zs, Ints (H.upd bv (.rw (ints zs))) w ys)
    (ha : (fF p m mod).El a) (hl : xs.length ≤ 1000) (hl2 : ys.length = xs.length) (he : ∀ i, (fF p m mod).El (xs.getD i 0)) (he2 : ∀ i, (fF p m mod).El (ys.getD i 0))
    (hQ : Q (.tup []) (H.upd bv (.rw (ints (addToL (fF p m mod) xs a ys))))) : AC Try.prog 102 [.ptr b 0, .sl bv 0 xs.length cv, .int .i64 a, w] H Q := by
  have hw0 : Ints H w ys := by
    have := hw xs
    rwa [updS hv] at this
  have hF : FieldOk p m mod := by
    obtain ⟨md, g, ev, lv, lg, h1, h2, h3, h4, h5, h6, h7, h8, h9, hF⟩ := hg
    exact hF
  have ok := A.fo _ _ _ hF
  have lT : (addToL (fF p m mod) xs a ys).length = xs.length := addToL_length _ _ _
  refine at102 (by simp) ?_
  simp (disch := first | assumption | omega) only [↓RP, RQ, TY, loadT, s102, reduceIte, Nat.reduceEqDiff, Nat.reduceAdd, hw0.ints]
  refine sw_loop (σ := Nat) (fun i e H' => e 12 = .int .i64 i ∧ e 11 = .int .i64 ys.length ∧ e 10 = w ∧ e 0 = .ptr b 0 ∧ e 1 = .sl bv 0 xs.length cv ∧ e 2 = .int .i64 a ∧ i ≤ xs.length ∧ H' = H.upd bv (.rw (ints (mix (addToL (fF p m mod) xs a ys) xs i)))) (fun i => xs.length - i) 0 ?_ ?_
  · simp (disch := first | assumption | omega) only [↓RP, RQ, TY, loadT, reduceIte, Nat.reduceEqDiff, Nat.reduceAdd, mix_zero]
    exact ⟨by omega, (updS hv).symm⟩
  rintro i e H' ⟨e12, e11, e10, e0, e1, e2, hi, rfl⟩
  have lM := mix_length lT i
  have hwi := hw (mix (addToL (fF p m mod) xs a ys) xs i)
  have hgi : GFA (H.upd bv (.rw (ints (mix (addToL (fF p m mod) xs a ys) xs i)))) b p m mod := hg.ext (hE.upd hfv _)
  have hbi : (H.upd bv (.rw (ints (mix (addToL (fF p m mod) xs a ys) xs i)))) bv = .rw (ints (mix (addToL (fF p m mod) xs a ys) xs i)) := by simp [AH.upd]
  have hnext := upd2 H bv (.rw (ints (mix (addToL (fF p m mod) xs a ys) xs i)))
  generalize hHi : H.upd bv (.rw (ints (mix (addToL (fF p m mod) xs a ys) xs i))) = Hi at *
  by_cases hlt : (i : Int) < ys.length
  · have gM : (mix (addToL (fF p m mod) xs a ys) xs i).getD i 0 = xs.getD i 0 := mix_get lT (Nat.le_refl i)
    have gT : (addToL (fF p m mod) xs a ys).getD i 0 = if ys.getD i 0 ≠ 0 then fadd p m (xs.getD i 0) (fmul p m mod a (ys.getD i 0)) else xs.getD i 0 := by
      rw [addToL, tabN_getD _ (show i < xs.length by omega)]; rfl
    have sM := mix_set lT (show i < xs.length by omega)
    by_cases hz : ys.getD i 0 = 0
    · simp (disch := first | assumption | omega) only [↓RP, RQ, TY, loadT, reduceIte, Nat.reduceEqDiff, Nat.reduceAdd, e12, e11, e10, e0, e1, e2, hlt, hwi.ints, hz]
      refine ⟨i + 1, ?_, by dsimp only; omega⟩
      simp (disch := first | assumption | omega) only [↓RP, RQ, TY, loadT, reduceIte, Nat.reduceEqDiff, Nat.reduceAdd, e12, e11, e10, e0, e1, e2]
      refine ⟨by omega, ?_⟩
      rw [← hHi, ← sM, gT, if_neg (by simpa using hz), ← gM, set_self]
    · simp (disch := first | assumption | omega) only [↓RP, RQ, TY, loadT, reduceIte, Nat.reduceEqDiff, Nat.reduceAdd, e12, e11, e10, e0, e1, e2, hlt, hwi.ints, hz, hbi, gM]
      refine c_GMul A hgi ha.1 ha.2 (he2 i).1 (he2 i).2 ?_
      have hel := ok.mul_el ha (he2 i)
      simp (disch := first | assumption | omega) only [↓RP, RQ, TY, loadT, reduceIte, Nat.reduceEqDiff, Nat.reduceAdd, e12, e11, e10, e0, e1, e2, hbi, gM]
      refine c_GAdd hgi (he i).1 (he i).2 hel.1 hel.2 ?_
      simp (disch := first | assumption | omega) only [↓RP, RQ, TY, loadT, reduceIte, Nat.reduceEqDiff, Nat.reduceAdd, e12, e11, e10, e0, e1, e2, hbi, gM]
      refine ⟨i + 1, ?_, by dsimp only; omega⟩
      simp (disch := first | assumption | omega) only [↓RP, RQ, TY, loadT, reduceIte, Nat.reduceEqDiff, Nat.reduceAdd, e12, e11, e10, e0, e1, e2]
      refine ⟨by omega, ?_⟩
      rw [hnext, ← sM, gT, if_pos hz]
  · simp (disch := first | assumption | omega) only [↓RP, RQ, TY, loadT, reduceIte, Nat.reduceEqDiff, Nat.reduceAdd, e12, e11, e10, e0, e1, e2, hlt]
    rw [mix_full lT (by omega)] at hHi
    rw [← hHi]
    exact hQ
open Classical in
theorem c_Equal {a b : AV} {xs ys : List Int} {H : AH} {Q : AV → AH → Prop} (ha : Ints H a xs) (hb : Ints H b ys) (hl : xs.length ≤ 9223372036854775807) (hl2 : ys.length ≤ 9223372036854775807)
    (hQ : Q (.bool (decide (xs = ys))) H) : AC Try.prog 37 [a, b] H Q := by
  refine at37 (by simp) ?_
  by_cases hlen : (xs.length : Int) = (ys.length : Int)
  rotate_left
  · simp (disch := first | assumption | omega) only [↓RP, RQ, TY, loadT, s37, reduceIte, Nat.reduceEqDiff, Nat.reduceAdd, ha.ints, hb.ints, eq_false hlen]
    rwa [decide_eq_false (fun q => hlen (by rw [q]))] at hQ
  simp (disch := first | assumption | omega) only [↓RP, RQ, TY, loadT, s37, reduceIte, Nat.reduceEqDiff, Nat.reduceAdd, ha.ints, hb.ints, eq_true hlen]
  refine sw_loop (σ := Nat) (fun i e H' => e 13 = .int .i64 i ∧ e 12 = .int .i64 xs.length ∧ e 0 = a ∧ e 1 = b ∧ i ≤ xs.length ∧ H' = H ∧ ∀ j, j < i → xs.getD j 0 = ys.getD j 0) (fun i => xs.length - i) 0 ?_ ?_
  · simp (disch := first | assumption | omega) only [↓RP, RQ, TY, loadT, reduceIte, Nat.reduceEqDiff, Nat.reduceAdd]
    exact ⟨by omega, fun j hj => by omega⟩
  rintro i e H' ⟨e13, e12, e0, e1, hi, rfl, hj⟩
  by_cases hlt : (i : Int) < xs.length
  · by_cases heq : xs.getD i 0 = ys.getD i 0
    · simp (disch := first | assumption | omega) only [↓RP, RQ, TY, loadT, reduceIte, Nat.reduceEqDiff, Nat.reduceAdd, e13, e12, e0, e1, hlt, ha.ints, hb.ints, heq]
      refine ⟨i + 1, ?_, by dsimp only; omega⟩
      simp (disch := first | assumption | omega) only [↓RP, RQ, TY, loadT, reduceIte, Nat.reduceEqDiff, Nat.reduceAdd, e13, e12, e0, e1]
      refine ⟨by omega, fun j h => ?_⟩
      by_cases hji : j = i
      · rw [hji]; exact heq
      · exact hj j (by omega)
    · simp (disch := first | assumption | omega) only [↓RP, RQ, TY, loadT, reduceIte, Nat.reduceEqDiff, Nat.reduceAdd, e13, e12, e0, e1, hlt, ha.ints, hb.ints, eq_false heq]
      rwa [decide_eq_false (fun q => heq (by rw [q]))] at hQ
  · simp (disch := first | assumption | omega) only [↓RP, RQ, TY, loadT, reduceIte, Nat.reduceEqDiff, Nat.reduceAdd, e13, e12, e0, e1, hlt]
    rwa [decide_eq_true] at hQ
    refine List.ext_getElem (by omega) fun j h1 h2 => ?_
    have := hj j (by omega)
    simpa [List.getD_eq_getElem?_getD, h1, h2] using this
open Classical in
theorem c_EqualFunc {a b : AV} {us ws : List AV} {xs ys : List (List Int)} {H : AH} {Q : AV → AH → Prop} (ha : Rows H a us xs) (hb : Rows H b ws ys) (hl : xs.length ≤ 9223372036854775807) (hl2 : ys.length ≤ 9223372036854775807)
    (h1 : ∀ i, i < xs.length → (rowAt xs i).length ≤ 9223372036854775807) (h2 : ∀ i, i < ys.length → (rowAt ys i).length ≤ 9223372036854775807)
    (hQ : Q (.bool (decide (xs = ys))) H) : AC Try.prog 84 [a, b, .fn 37 []] H Q := by
  refine at84 (by simp) ?_
  by_cases hlen : (xs.length : Int) = (ys.length : Int)
  rotate_left
  · simp (disch := first | assumption | omega) only [↓RP, RQ, TY, loadT, s84, reduceIte, Nat.reduceEqDiff, Nat.reduceAdd, ha.run, hb.run, eq_false hlen]
    rwa [decide_eq_false (fun q => hlen (by rw [q]))] at hQ
  simp (disch := first | assumption | omega) only [↓RP, RQ, TY, loadT, s84, reduceIte, Nat.reduceEqDiff, Nat.reduceAdd, ha.run, hb.run, eq_true hlen]
  refine sw_loop (σ := Nat) (fun i e H' => e 17 = .int .i64 i ∧ e 16 = .int .i64 xs.length ∧ e 15 = a ∧ e 1 = b ∧ e 2 = .fn 37 [] ∧ i ≤ xs.length ∧ H' = H ∧ ∀ j, j < i → rowAt xs j = rowAt ys j) (fun i => xs.length - i) 0 ?_ ?_
  · simp (disch := first | assumption | omega) only [↓RP, RQ, TY, loadT, reduceIte, Nat.reduceEqDiff, Nat.reduceAdd]
    exact ⟨by omega, fun j hj => by omega⟩
  rintro i e H' ⟨e17, e16, e15, e1, e2, hi, rfl, hj⟩
  by_cases hlt : (i : Int) < xs.length
  · simp (disch := first | assumption | omega) only [↓RP, RQ, TY, loadT, reduceIte, Nat.reduceEqDiff, Nat.reduceAdd, e17, e16, e15, e1, e2, hlt, ha.run, hb.run]
    refine c_Equal (ha.row i (by omega)) (hb.row i (by omega)) (h1 i (by omega)) (h2 i (by omega)) ?_
    by_cases heq : rowAt xs i = rowAt ys i
    · simp (disch := first | assumption | omega) only [↓RP, RQ, TY, loadT, reduceIte, Nat.reduceEqDiff, Nat.reduceAdd, e17, e16, e15, e1, e2, heq, ha.run, hb.run]
      refine ⟨i + 1, ?_, by dsimp only; omega⟩
      simp (disch := first | assumption | omega) only [↓RP, RQ, TY, loadT, reduceIte, Nat.reduceEqDiff, Nat.reduceAdd, e17, e16, e15, e1, e2]
      refine ⟨by omega, fun j h => ?_⟩
      by_cases hji : j = i
      · rw [hji]; exact heq
      · exact hj j (by omega)
    · simp (disch := first | assumption | omega) only [↓RP, RQ, TY, loadT, reduceIte, Nat.reduceEqDiff, Nat.reduceAdd, e17, e16, e15, e1, e2, eq_false heq, ha.run, hb.run]
      rwa [decide_eq_false (fun q => heq (by rw [q]))] at hQ
  · simp (disch := first | assumption | omega) only [↓RP, RQ, TY, loadT, reduceIte, Nat.reduceEqDiff, Nat.reduceAdd, e17, e16, e15, e1, e2, hlt, ha.run, hb.run]
    rwa [decide_eq_true] at hQ
    refine List.ext_getElem (by omega) fun j h1 h2 => ?_
    have := hj j (by omega)
    simpa [rowAt, List.getD_eq_getElem?_getD, h1, h2] using this
end Go.Proofs.Yteijojnahpeglaa.AM
/-! The program's matrices, second part: what the elimination keeps in memory. -/
namespace Go.Proofs.Yteijojnahpeglaa.AM
open Go Go.RowKit
set_option linter.unusedVariables false
set_option linter.unusedSimpArgs false
set_option maxRecDepth 20000
structure PM (H0 H : AH) (lv : AV) (ws : List AV) (l : List (List Int)) (pv : AV) (ps : List Int) (fs : List (Nat × List AV)) : Prop where
  ext : Ext H0 H
  hn : 0 < l.length
  blk : H (slB lv) = .rw ws ∧ slO lv = 0 ∧ H0 (slB lv) = .free
  eqv : lv = .sl (slB lv) 0 ws.length (.own 1)
  len : ws.length = l.length
  rb : ∀ i, i < l.length → ws.getD i .junk = .sl (slB (ws.getD i .junk)) 0 (rowAt l i).length (.own 1) ∧ H (slB (ws.getD i .junk)) = .rw (ints (rowAt l i)) ∧ H0 (slB (ws.getD i .junk)) = .free
  pos : ∀ i, i < l.length → 0 < (rowAt l i).length
  inj : ∀ i j, i < l.length → j < l.length → i ≠ j → slB (ws.getD i .junk) ≠ slB (ws.getD j .junk)
  rp : ∀ i, i < l.length → Off pv (slB (ws.getD i .junk))
  lp : Off pv (slB lv)
  lr : ∀ i, i < l.length → slB (ws.getD i .junk) ≠ slB lv
  piv : Own H0 H pv (ints ps)
  bx : ∀ x, x ∈ fs → H x.1 = .rw x.2 ∧ (∀ i, i < l.length → slB (ws.getD i .junk) ≠ x.1) ∧ slB lv ≠ x.1 ∧ Off pv x.1
section
variable {H0 H H' : AH} {lv : AV} {ws : List AV} {l : List (List Int)} {pv : AV} {ps : List Int} {fs : List (Nat × List AV)}
theorem PM.own (h : PM H0 H lv ws l pv ps fs) : Own H0 H lv ws := .inr ⟨slB lv, h.eqv, h.blk.1, h.blk.2.2⟩
theorem PM.ri (h : PM H0 H lv ws l pv ps fs) {i : Nat} (hi : i < l.length) : Ints H (ws.getD i .junk) (rowAt l i) := by
  obtain ⟨h1, h2, h3⟩ := h.rb i hi
  rw [h1]
  exact Sl.own h2 (by rw [ints_length])
theorem PM.rows (h : PM H0 H lv ws l pv ps fs) : Rows H lv ws l := ⟨h.own.sl, h.len, fun i hi => h.ri hi⟩
theorem PM.more (h : PM H0 H lv ws l pv ps fs) (hE : Ext H H') : PM H0 H' lv ws l pv ps fs :=
  ⟨h.ext.trans hE, h.hn, ⟨hE.rw h.blk.1, h.blk.2⟩, h.eqv, h.len, fun i hi => by obtain ⟨h1, h2, h3⟩ := h.rb i hi; exact ⟨h1, hE.rw h2, h3⟩, h.pos, h.inj, h.rp, h.lp, h.lr, h.piv.ext hE,
    fun x hx => by obtain ⟨h1, h2, h3, h4⟩ := h.bx x hx; exact ⟨hE.rw h1, h2, h3, h4⟩⟩
theorem Own.offFree {xs : List Int} (h : Own H0 H pv (ints xs)) {b : Nat} (hb : H b = .free) : Off pv b := fun o n c q => by
  rcases h with ⟨h, -⟩ | ⟨b2, h1, h2, -⟩
  · rw [q] at h; cases h
  · rw [q] at h1; cases h1; rw [hb] at h2; cases h2
theorem PM.fresh (h : PM H0 H lv ws l pv ps fs) {b : Nat} (hb : H b = .free) : (∀ i, i < l.length → slB (ws.getD i .junk) ≠ b) ∧ slB lv ≠ b ∧ Off pv b ∧ H0 b = .free ∧ ∀ x, x ∈ fs → x.1 ≠ b := by
  refine ⟨fun i hi q => ?_, fun q => ?_, h.piv.offFree hb, h.ext.free hb, fun x hx q => ?_⟩
  · have := (h.rb i hi).2.1
    rw [q, hb] at this
    cases this
  · have := h.blk.1
    rw [q, hb] at this
    cases this
  · have := (h.bx x hx).1
    rw [q, hb] at this
    cases this
theorem PM.box (h : PM H0 H lv ws l pv ps fs) {b : Nat} {c : List AV} (hb : H b = .free) (hE : Ext H H') (hc : H' b = .rw c) : PM H0 H' lv ws l pv ps ((b, c) :: fs) := by
  have h' := h.more hE
  obtain ⟨f1, f2, f3, -⟩ := h.fresh hb
  refine ⟨h'.ext, h.hn, h'.blk, h'.eqv, h'.len, h'.rb, h'.pos, h'.inj, h'.rp, h'.lp, h'.lr, h'.piv, fun x hx => ?_⟩
  rcases List.mem_cons.mp hx with rfl | hx
  · exact ⟨hc, f1, f2, f3⟩
  · exact h'.bx x hx
theorem PM.drop (h : PM H0 H lv ws l pv ps fs) {fs' : List (Nat × List AV)} (hf : ∀ x, x ∈ fs' → x ∈ fs) : PM H0 H lv ws l pv ps fs' :=
  ⟨h.ext, h.hn, h.blk, h.eqv, h.len, h.rb, h.pos, h.inj, h.rp, h.lp, h.lr, h.piv, fun x hx => h.bx x (hf x hx)⟩
theorem Own.updOff {us : List AV} {b : Nat} (h : Own H0 H pv us) (hb : Off pv b) (s : Slot) : Own H0 (H.upd b s) pv us := by
  rcases h with h | ⟨b2, h1, h2, h3⟩
  · exact .inl h
  · refine .inr ⟨b2, h1, ?_, h3⟩
    have : b2 ≠ b := fun q => hb _ _ _ (by rw [h1, q])
    simp [AH.upd, this, h2]
theorem updNe {b b' : Nat} {s : Slot} (h : b' ≠ b) : (H.upd b s) b' = H b' := by simp [AH.upd, h]
theorem updEq {b : Nat} {s : Slot} : (H.upd b s) b = s := by simp [AH.upd]
theorem PM.upbox {b : Nat} {c c' : List AV} (h : PM H0 H lv ws l pv ps ((b, c) :: fs)) (h0 : H0 b = .free) (hf : ∀ x, x ∈ fs → x.1 ≠ b) : PM H0 (H.upd b (.rw c')) lv ws l pv ps ((b, c') :: fs) := by
  obtain ⟨k1, k2, k3, k4⟩ := h.bx (b, c) (by simp)
  dsimp only at k1 k2 k3 k4
  refine ⟨h.ext.upd h0 _, h.hn, ⟨by rw [updNe k3]; exact h.blk.1, h.blk.2⟩, h.eqv, h.len, fun i hi => ?_, h.pos, h.inj, h.rp, h.lp, h.lr, h.piv.updOff k4 _, fun x hx => ?_⟩
  · obtain ⟨r1, r2, r3⟩ := h.rb i hi
    exact ⟨r1, by rw [updNe (k2 i hi)]; exact r2, r3⟩
  · rcases List.mem_cons.mp hx with rfl | hx
    · exact ⟨updEq, k2, k3, k4⟩
    · obtain ⟨x1, x2⟩ := h.bx x (by simp [hx])
      exact ⟨by rw [updNe (hf x hx)]; exact x1, x2⟩
/-- two rows change places -/
theorem PM.swap (h : PM H0 H lv ws l pv ps fs) {a k : Nat} (ha : a < l.length) (hk : k < l.length) :
    PM H0 (H.upd (slB lv) (.rw ((ws.set a (ws.getD k .junk)).set k (ws.getD a .junk)))) lv ((ws.set a (ws.getD k .junk)).set k (ws.getD a .junk)) (swapL l a k) pv ps fs := by
  have e : ∀ i, ((ws.set a (ws.getD k .junk)).set k (ws.getD a .junk)).getD i .junk = ws.getD (if i = a then k else if i = k then a else i) .junk := fun i => by
    rw [getD_setN, getD_setN, List.length_set, h.len]
    by_cases h1 : i = k
    · subst h1
      by_cases h2 : i = a
      · subst h2; simp [hk]
      · simp [h2, hk]
    · by_cases h2 : i = a
      · subst h2; simp [h1, ha]
      · simp [h1, h2]
  have s1 : ∀ i, i < l.length → (if i = a then k else if i = k then a else i) < l.length := fun i hi => by
    split
    · assumption
    · split <;> assumption
  have s2 : ∀ i j, i ≠ j → (if i = a then k else if i = k then a else i) ≠ (if j = a then k else if j = k then a else j) := fun i j hij => by
    split <;> split <;> (try split) <;> (try split) <;> omega
  have lw : ((ws.set a (ws.getD k .junk)).set k (ws.getD a .junk)).length = ws.length := by simp
  have ls := swapL_length l a k
  refine ⟨h.ext.upd h.blk.2.2 _, by rw [ls]; exact h.hn, ⟨updEq, h.blk.2⟩, by rw [lw]; exact h.eqv, by rw [lw, ls, h.len], fun i hi => ?_, fun i hi => ?_, fun i j hi hj hij => ?_, fun i hi => ?_, h.lp, fun i hi => ?_, h.piv.updOff h.lp _, fun x hx => ?_⟩
  · rw [ls] at hi
    obtain ⟨r1, r2, r3⟩ := h.rb _ (s1 i hi)
    rw [e i, rowAt_swap ha hk]
    exact ⟨r1, by rw [updNe (h.lr _ (s1 i hi))]; exact r2, r3⟩
  · rw [ls] at hi
    rw [rowAt_swap ha hk]
    exact h.pos _ (s1 i hi)
  · rw [ls] at hi hj
    rw [e i, e j]
    exact h.inj _ _ (s1 i hi) (s1 j hj) (s2 i j hij)
  · rw [ls] at hi
    rw [e i]
    exact h.rp _ (s1 i hi)
  · rw [ls] at hi
    rw [e i]
    exact h.lr _ (s1 i hi)
  · obtain ⟨x1, x2, x3, x4⟩ := h.bx x hx
    refine ⟨by rw [updNe (Ne.symm x3)]; exact x1, fun i hi => ?_, x3, x4⟩
    rw [ls] at hi
    rw [e i]
    exact x2 _ (s1 i hi)
/-- a row is replaced by a new one -/
theorem PM.repl (h : PM H0 H lv ws l pv ps fs) {b : Nat} {xs : List Int} (hb : H b = .free) (hE : Ext H H') (hc : H' b = .rw (ints xs)) {i : Nat} (hi : i < l.length) (hx : 0 < xs.length) :
    PM H0 (H'.upd (slB lv) (.rw (ws.set i (.sl b 0 xs.length (.own 1))))) lv (ws.set i (.sl b 0 xs.length (.own 1))) (l.set i xs) pv ps fs := by
  have h' := h.more hE
  obtain ⟨f1, f2, f3, f4, f5⟩ := h.fresh hb
  have e : ∀ j, j < l.length → ((ws.set i (.sl b 0 xs.length (.own 1))).getD j .junk = if j = i then .sl b 0 xs.length (.own 1) else ws.getD j .junk) ∧ rowAt (l.set i xs) j = if j = i then xs else rowAt l j := fun j hj => by
    rw [rowAt, getD_setN, getD_setN, h.len]
    by_cases hji : j = i
    · subst hji; simp [hj]
    · simp only [hji, false_and, if_false]; exact ⟨trivial, rfl⟩
  have ls : (l.set i xs).length = l.length := by simp
  have lw : (ws.set i (.sl b 0 xs.length (.own 1))).length = ws.length := by simp
  have es : ∀ j, j < l.length → slB ((ws.set i (.sl b 0 xs.length (.own 1))).getD j .junk) = if j = i then b else slB (ws.getD j .junk) := fun j hj => by
    rw [(e j hj).1]; split <;> rfl
  refine ⟨h'.ext.upd h.blk.2.2 _, by rw [ls]; exact h.hn, ⟨updEq, h.blk.2⟩, by rw [lw]; exact h.eqv, by rw [lw, ls, h.len], fun j hj => ?_, fun j hj => ?_, fun j j' hj hj' hij => ?_, fun j hj => ?_, h.lp, fun j hj => ?_, h'.piv.updOff h.lp _, fun x hx' => ?_⟩
  · rw [ls] at hj
    rw [es j hj, (e j hj).1, (e j hj).2]
    by_cases hji : j = i
    · rw [if_pos hji, if_pos hji, if_pos hji]
      exact ⟨rfl, by rw [updNe (Ne.symm f2)]; exact hc, f4⟩
    · rw [if_neg hji, if_neg hji, if_neg hji]
      obtain ⟨r1, r2, r3⟩ := h'.rb j hj
      exact ⟨r1, by rw [updNe (h.lr j hj)]; exact r2, r3⟩
  · rw [ls] at hj
    rw [(e j hj).2]
    split
    · exact hx
    · exact h.pos j hj
  · rw [ls] at hj hj'
    rw [es j hj, es j' hj']
    split <;> split
    · omega
    · exact Ne.symm (f1 j' hj')
    · exact f1 j hj
    · exact h.inj j j' hj hj' hij
  · rw [ls] at hj
    rw [es j hj]
    split
    · exact f3
    · exact h.rp j hj
  · rw [ls] at hj
    rw [es j hj]
    split
    · exact Ne.symm f2
    · exact h.lr j hj
  · obtain ⟨x1, x2, x3, x4⟩ := h'.bx x hx'
    refine ⟨by rw [updNe (Ne.symm x3)]; exact x1, fun j hj => ?_, x3, x4⟩
    rw [ls] at hj
    rw [es j hj]
    split
    · exact Ne.symm (f5 x hx')
    · exact x2 j hj
/-- the entries of a row change -/
theorem PM.rowset (h : PM H0 H lv ws l pv ps fs) {i : Nat} {xs : List Int} (hi : i < l.length) (hl : xs.length = (rowAt l i).length) :
    PM H0 (H.upd (slB (ws.getD i .junk)) (.rw (ints xs))) lv ws (l.set i xs) pv ps fs := by
  have e : ∀ j, j < l.length → rowAt (l.set i xs) j = if j = i then xs else rowAt l j := fun j hj => by
    rw [rowAt, getD_setN]
    by_cases hji : j = i
    · subst hji; simp [hj]
    · simp only [hji, false_and, if_false]; rfl
  have ls : (l.set i xs).length = l.length := by simp
  refine ⟨h.ext.upd (h.rb i hi).2.2 _, by rw [ls]; exact h.hn, ⟨by rw [updNe (Ne.symm (h.lr i hi))]; exact h.blk.1, h.blk.2⟩, h.eqv, by rw [ls, h.len], fun j hj => ?_, fun j hj => ?_, by rw [ls]; exact h.inj, by rw [ls]; exact h.rp, h.lp, by rw [ls]; exact h.lr, h.piv.updOff (h.rp i hi) _, fun x hx => ?_⟩
  · rw [ls] at hj
    rw [e j hj]
    obtain ⟨r1, r2, r3⟩ := h.rb j hj
    by_cases hji : j = i
    · subst hji
      rw [if_pos rfl, hl]
      exact ⟨r1, updEq, r3⟩
    · rw [if_neg hji]
      exact ⟨r1, by rw [updNe (h.inj j i hj hi hji)]; exact r2, r3⟩
  · rw [ls] at hj
    rw [e j hj]
    split
    · rw [hl]; exact h.pos i hi
    · exact h.pos j hj
  · obtain ⟨x1, x2, x3, x4⟩ := h.bx x hx
    exact ⟨by rw [updNe (Ne.symm (x2 i hi))]; exact x1, by rw [ls]; exact x2, x3, x4⟩
/-- the list of pivots grows -/
theorem PM.push (h : PM H0 H lv ws l pv ps fs) {v : AV} {ps' : List Int} (hE : Ext H0 H') (ho : Own H0 H' v (ints ps')) (keep : ∀ c us, H c = .rw us → Off pv c → H' c = .rw us ∧ Off v c) : PM H0 H' lv ws l v ps' fs := by
  obtain ⟨l1, l2⟩ := keep _ _ h.blk.1 h.lp
  refine ⟨hE, h.hn, ⟨l1, h.blk.2⟩, h.eqv, h.len, fun i hi => ?_, h.pos, h.inj, fun i hi => (keep _ _ (h.rb i hi).2.1 (h.rp i hi)).2, l2, h.lr, ho, fun x hx => ?_⟩
  · obtain ⟨r1, r2, r3⟩ := h.rb i hi
    exact ⟨r1, (keep _ _ r2 (h.rp i hi)).1, r3⟩
  · obtain ⟨x1, x2, x3, x4⟩ := h.bx x hx
    obtain ⟨k1, k2⟩ := keep _ _ x1 x4
    exact ⟨k1, x2, x3, k2⟩
end
end Go.Proofs.Yteijojnahpeglaa.AM
/-! The program's matrices, third part: the steps of the elimination. -/
namespace Go.Proofs.Yteijojnahpeglaa.AM
open Go Go.RowKit
set_option linter.unusedVariables false
set_option linter.unusedSimpArgs false
set_option maxRecDepth 20000
theorem c_each {f b5 b7 : Nat} {c : AV} {cs : List AV} {rv : AV} {H : AH} {Q : AV → AH → Prop} {R : AH → Prop} (h5 : H b5 = .rw [rv]) (h7 : H b7 = .rw [.nils]) (hR : ∀ H', R H' → H' b7 = .rw [.nils])
    (hs : ∀ Q' : AV → AH → Prop, (∀ H', R H' → Q' (.tup []) H') → AC Try.prog f (rv :: c :: cs) H Q') (hQ : ∀ H', R H' → Q (.tup []) H') : AC Try.prog 95 [.fn f (c :: cs), .ptr b5 0, .ptr b7 0] H Q := by
  refine at95 (by simp) ?_
  simp (disch := first | assumption | omega) only [↓RP, RQ, TY, loadT, s95, reduceIte, Nat.reduceEqDiff, Nat.reduceAdd, h5]
  refine hs _ fun H' hr => ?_
  simp (disch := first | assumption | omega) only [↓RP, RQ, TY, loadT, reduceIte, Nat.reduceEqDiff, Nat.reduceAdd, hR H' hr, Int.lt_irrefl]
  exact hQ H' hr
section
variable {H0 H : AH} {lv : AV} {ws : List AV} {l : List (List Int)} {pv : AV} {ps : List Int} {fs : List (Nat × List AV)} {Q : AV → AH → Prop}
theorem c_sw {bk ba k a : Nat} (h : PM H0 H lv ws l pv ps fs) (hk : (bk, [AV.int .i64 k]) ∈ fs) (ha : (ba, [AV.int .i64 a]) ∈ fs) (k1 : k < l.length) (a1 : a < l.length)
    (hQ : ∀ H' ws', PM H0 H' lv ws' (swapL l a k) pv ps fs → Q (.tup []) H') : AC Try.prog 96 [lv, .ptr bk 0, .ptr ba 0] H Q := by
  obtain ⟨xk, -, nk, -⟩ := h.bx _ hk
  obtain ⟨xa, -, na, -⟩ := h.bx _ ha
  dsimp only at xk nk xa na
  obtain ⟨hbl, hso, -⟩ := h.blk
  have hlr := h.rows.run
  have hwl := h.len
  have s1 := (h.ri k1).isSl
  have s2 := (h.ri a1).isSl
  have nk' := Ne.symm nk
  have na' := Ne.symm na
  have lw : (ws.set a (ws.getD k .junk)).length = ws.length := by simp
  refine at96 (by simp) ?_
  simp (disch := first | assumption | omega) only [↓RP, RQ, TY, loadT, s96, reduceIte, Nat.reduceEqDiff, Nat.reduceAdd, xk, xa, hlr.1, hlr.2.1, hso, Nat.zero_add, hbl, b_get, u_storeV, u_stGV]
  have hf := h.swap a1 k1
  rw [← upd2 H (slB lv) (.rw (ws.set a (ws.getD k .junk)))] at hf
  exact hQ _ _ hf
theorem c_sc (A : Alg) {b4 bg bi ba a : Nat} {p m v : Int} {mod : List Int} (hg : GFA H0 bg p m mod) (h : PM H0 H lv ws l pv ps fs) (h4 : (b4, [AV.ptr bg 0]) ∈ fs) (hi : (bi, [AV.int .i64 v]) ∈ fs) (ha : (ba, [AV.int .i64 a]) ∈ fs) (a1 : a < l.length)
    (hv : (fF p m mod).El v) (he : Els (fF p m mod) l) (hl : (rowAt l a).length ≤ 1000)
    (hQ : ∀ H' ws', PM H0 H' lv ws' (l.set a (scaleL (fF p m mod) v (rowAt l a))) pv ps fs → Q (.tup []) H') : AC Try.prog 99 [lv, .ptr b4 0, .ptr bi 0, .ptr ba 0] H Q := by
  obtain ⟨x4, -, n4, -⟩ := h.bx _ h4
  obtain ⟨xi, -, ni, -⟩ := h.bx _ hi
  obtain ⟨xa, -, na, -⟩ := h.bx _ ha
  dsimp only at x4 n4 xi ni xa na
  obtain ⟨hbl, hso, -⟩ := h.blk
  have hlr := h.rows.run
  have hwl := h.len
  refine at99 (by simp) ?_
  simp (disch := first | assumption | omega) only [↓RP, RQ, TY, loadT, s99, reduceIte, Nat.reduceEqDiff, Nat.reduceAdd, x4, xi, xa, hlr.1, hlr.2.1, hso, Nat.zero_add, hbl, b_get]
  refine c_GScale A (hg.ext h.ext) hv (h.ri a1) hl (fun i => he a i) fun b H' hb hE hH' => ?_
  obtain ⟨hbl', -, -⟩ := (h.more hE).blk
  have xa' := hE.rw xa
  simp (disch := first | assumption | omega) only [↓RP, RQ, TY, loadT, reduceIte, Nat.reduceEqDiff, Nat.reduceAdd, xa', hbl', hlr.1, hlr.2.1, hso, Nat.zero_add]
  have hf := h.repl (xs := scaleL (fF p m mod) v (rowAt l a)) hb hE hH' a1 (by rw [scaleL_length]; exact h.pos a a1)
  rw [scaleL_length] at hf
  exact hQ _ _ hf
theorem c_ad (A : Alg) {b4 bg bi bx ba i a : Nat} {p m x : Int} {mod : List Int} (hg : GFA H0 bg p m mod) (h : PM H0 H lv ws l pv ps fs) (h4 : (b4, [AV.ptr bg 0]) ∈ fs) (hi : (bi, [AV.int .i64 i]) ∈ fs) (hx : (bx, [AV.int .i64 x]) ∈ fs) (ha : (ba, [AV.int .i64 a]) ∈ fs) (a1 : a < l.length) (i1 : i < l.length) (hia : i ≠ a)
    (ok : (fF p m mod).Ok) (hx' : (fF p m mod).El x) (he : Els (fF p m mod) l) (hl : (rowAt l i).length ≤ 1000) (hl2 : (rowAt l a).length = (rowAt l i).length)
    (hQ : ∀ H', PM H0 H' lv ws (l.set i (addToL (fF p m mod) (rowAt l i) (fneg p m x) (rowAt l a))) pv ps fs → Q (.tup []) H') : AC Try.prog 101 [lv, .ptr b4 0, .ptr bi 0, .ptr bx 0, .ptr ba 0] H Q := by
  obtain ⟨x4, -, n4, -⟩ := h.bx _ h4
  obtain ⟨xi, -, ni, -⟩ := h.bx _ hi
  obtain ⟨xx, -, nx, -⟩ := h.bx _ hx
  obtain ⟨xa, -, na, -⟩ := h.bx _ ha
  dsimp only at x4 n4 xi ni xx nx xa na
  obtain ⟨hbl, hso, -⟩ := h.blk
  have hlr := h.rows.run
  have hwl := h.len
  refine at101 (by simp) ?_
  simp (disch := first | assumption | omega) only [↓RP, RQ, TY, loadT, s101, reduceIte, Nat.reduceEqDiff, Nat.reduceAdd, x4, xi, xx, xa, hlr.1, hlr.2.1, hso, Nat.zero_add, hbl, b_get]
  refine c_GNeg (hg.ext h.ext) hx'.1 hx'.2 ?_
  simp (disch := first | assumption | omega) only [↓RP, RQ, TY, loadT, reduceIte, Nat.reduceEqDiff, Nat.reduceAdd, x4, xi, xx, xa, hlr.1, hlr.2.1, hso, Nat.zero_add, hbl, b_get]
  obtain ⟨r1, r2, r3⟩ := h.rb i i1
  rw [r1]
  refine c_add A hg h.ext r3 r2 (fun zs => ?_) (ok.neg_el hx') hl hl2 (fun j => he i j) (fun j => he a j) ?_
  · obtain ⟨q1, q2, q3⟩ := h.rb a a1
    rw [q1]
    exact Sl.own (by rw [updNe (h.inj a i a1 i1 (Ne.symm hia))]; exact q2) (by rw [ints_length])
  · simp (disch := first | assumption | omega) only [↓RP, RQ, TY, loadT, reduceIte, Nat.reduceEqDiff, Nat.reduceAdd]
    exact hQ _ (h.rowset i1 (addToL_length _ _ _))
end
end Go.Proofs.Yteijojnahpeglaa.AM
/-! The program's matrices, fourth part: eliminate. -/
namespace Go.Proofs.Yteijojnahpeglaa.AM
open Go Go.RowKit
set_option linter.unusedVariables false
set_option linter.unusedSimpArgs false
set_option maxRecDepth 20000
theorem u_st1I {P : Program} {K : Kt} {e : Env} {H : AH} {d : Option Nat} {r : Rst} {ds : List Nat} {blk : Nat} {k : IntKind} {n : Int} {x : AV} : kSt P ds blk 0 r e H K d (.int k n) (.rw [x]) = kRet P ds r e (H.upd blk (.rw [.int k n])) K d (.tup []) :=
  st_put rfl (by simp)
theorem c_elimP (A : Alg) {bg : Nat} {p m : Int} {lv : AV} {mod : List Int} {us : List AV} {rows : List (List Int)} {n cols : Nat} {H0 H : AH} {Q : AV → AH → Prop} (hg : GFA H0 bg p m mod) (hE0 : Ext H0 H) (hF : FieldOk p m mod)
    (hs : Sl H lv us) (hul : us.length = rows.length) (hr : Rect n rows) (he : Els (fF p m mod) rows) (hn : n ≤ 1000) (hk : rows.length ≤ 1000) (hc : cols ≤ n)
    (hP : 0 < n → 0 < rows.length → PM H0 H lv us rows .nils [] [])
    (hQ0 : n = 0 ∨ rows.length = 0 → ∀ H' d, Ext H H' → Q (.tup [.nils, .int .i64 d]) H')
    (hQ : ∀ pv us' H' d, 0 < n → 0 < rows.length → PM H0 H' lv us' (elim (fF p m mod) rows cols).1 pv (natsI (elim (fF p m mod) rows cols).2) [] → Q (.tup [pv, .int .i64 d]) H') :
    AC Try.prog 76 [.ptr bg 0, lv, .int .i64 cols, .nils] H Q := by
  have ok := A.fo _ _ _ hF
  obtain ⟨hcl, hsu⟩ := one_cells hs.one
  refine at76 (by simp) ?_
  simp (disch := first | assumption | omega) only [↓RP, RQ, TY, loadT, s76, reduceIte, Nat.reduceEqDiff, Nat.reduceAdd, hcl, hsu, true_and]
  refine kNew_intro fun b4 H1 hb4 hE1 hH1 => ?_
  simp (disch := first | assumption | omega) only [↓RP, RQ, TY, loadT, reduceIte, Nat.reduceEqDiff, Nat.reduceAdd, hcl, hsu, true_and]
  refine kNew_intro fun b5 H2 hb5 hE2 hH2 => ?_
  simp (disch := first | assumption | omega) only [↓RP, RQ, TY, loadT, reduceIte, Nat.reduceEqDiff, Nat.reduceAdd]
  refine kNew_intro fun b7 H3 hb7 hE3 hH3 => ?_
  simp (disch := first | assumption | omega) only [↓RP, RQ, TY, loadT, reduceIte, Nat.reduceEqDiff, Nat.reduceAdd]
  have h43 := hE3.rw (hE2.rw hH1)
  have h53 := hE3.rw hH2
  have hE03 := (hE1.trans hE2).trans hE3
  by_cases hne : n = 0 ∨ rows.length = 0
  · -- nothing to do
    refine sw_loop (σ := Unit) (fun _ e H' => e 12 = .nils ∧ e 13 = .int .i64 0 ∧ e 10 = .int .i64 1 ∧ e 5 = .ptr b5 0 ∧ e 2 = .int .i64 cols ∧ H' = H3) (fun _ => 0) () ?_ ?_
    · simp (disch := first | assumption | omega) only [↓RP, RQ, TY, loadT, reduceIte, Nat.reduceEqDiff, Nat.reduceAdd]
    rintro _ e H' ⟨e12, e13, e10, e5, e2, rfl⟩
    by_cases hc0 : (0 : Int) < cols
    · have hr0 : rows.length = 0 := by omega
      have hsr := hs.run
      rw [hul, hr0] at hsr
      simp (disch := first | assumption | omega) only [↓RP, RQ, TY, loadT, reduceIte, Nat.reduceEqDiff, Nat.reduceAdd, e12, e13, e10, e5, e2, hc0, h53, hsr, m_cast0, Int.lt_irrefl]
      exact hQ0 hne _ _ hE03
    · simp (disch := first | assumption | omega) only [↓RP, RQ, TY, loadT, reduceIte, Nat.reduceEqDiff, Nat.reduceAdd, e12, e13, e10, e5, e2, hc0]
      exact hQ0 hne _ _ hE03
  have hn0 : 0 < n := by omega
  have hr0 : 0 < rows.length := by omega
  have P0 := (((hP hn0 hr0).box hb4 hE1 hH1).box hb5 hE2 hH2).box hb7 hE3 hH3
  have key : ∀ c s, s = elim (fF p m mod) rows c → EInv ok n rows c s := fun c s hs => hs ▸ elim_inv ok hr he c
  refine sw_loop (σ := Nat × List (List Int) × List Nat × AV × List AV × Int) (fun s e H' => e 13 = .int .i64 s.1 ∧ e 12 = s.2.2.2.1 ∧ e 11 = .fn 95 [.ptr b5 0, .ptr b7 0] ∧ e 10 = .int .i64 s.2.2.2.2.2 ∧ e 5 = .ptr b5 0 ∧ e 4 = .ptr b4 0 ∧ e 2 = .int .i64 cols ∧ s.1 ≤ cols ∧ (fF p m mod).El s.2.2.2.2.2 ∧
    PM H0 H' lv s.2.2.2.2.1 s.2.1 s.2.2.2.1 (natsI s.2.2.1) [(b7, [.nils]), (b5, [lv]), (b4, [.ptr bg 0])] ∧ (s.2.1, s.2.2.1) = elim (fF p m mod) rows s.1) (fun s => cols - s.1) (0, rows, [], .nils, us, 1) ?_ ?_
  · simp (disch := first | assumption | omega) only [↓RP, RQ, TY, loadT, reduceIte, Nat.reduceEqDiff, Nat.reduceAdd]
    exact ⟨by omega, ok.el1, P0, rfl⟩
  rintro ⟨c, l, piv, pv, ws, d⟩ e H' ⟨e13, e12, e11, e10, e5, e4, e2, hcc, hd, hM, hs⟩
  dsimp only at *
  have inv := key c _ hs
  obtain ⟨rect, els, len, le, -, lt, -, -, -, -⟩ := inv
  dsimp only at *
  have x5 := (hM.bx (b5, [lv]) (by simp)).1
  have x4 := (hM.bx (b4, [.ptr bg 0]) (by simp)).1
  have x7 := (hM.bx (b7, [.nils]) (by simp)).1
  dsimp only at x5 x4 x7
  have hlr := hM.rows.run
  have hpi := hM.piv.sl.ints
  rw [natsI_length] at hpi
  by_cases hlt : (c : Int) < cols
  rotate_left
  · simp (disch := first | assumption | omega) only [↓RP, RQ, TY, loadT, reduceIte, Nat.reduceEqDiff, Nat.reduceAdd, e13, e12, e11, e10, e5, e4, e2, hlt]
    rw [show c = cols by omega] at hs
    rw [← hs] at hQ
    exact hQ _ _ _ _ hn0 hr0 (hM.drop (by simp))
  by_cases hat : (piv.length : Int) < l.length
  rotate_left
  · simp (disch := first | assumption | omega) only [↓RP, RQ, TY, loadT, reduceIte, Nat.reduceEqDiff, Nat.reduceAdd, e13, e12, e11, e10, e5, e4, e2, hlt, hat, x5, hlr, hpi]
    have hst := elim_stop (F := fF p m mod) (rows := rows) (c := c) (by rw [← hs]; dsimp only; omega) (cols - c)
    rw [show c + (cols - c) = cols by omega, ← hs] at hst
    rw [hst] at hQ
    exact hQ _ _ _ _ hn0 hr0 (hM.drop (by simp))
  simp (disch := first | assumption | omega) only [↓RP, RQ, TY, loadT, reduceIte, Nat.reduceEqDiff, Nat.reduceAdd, e13, e12, e11, e10, e5, e4, e2, hlt, hat, x5, hlr, hpi]
  refine kNew_intro fun b14 H4 hb14 hE4 hH4 => ?_
  have hM4 := hM.box (c := [.int .i64 piv.length]) hb14 (hE4.upd hb14 (.rw [.int .i64 piv.length])) updEq
  have f14 := hM.fresh hb14
  simp (disch := first | assumption | omega) only [↓RP, RQ, TY, loadT, reduceIte, Nat.reduceEqDiff, Nat.reduceAdd, hH4, u_st1I]
  generalize AH.upd H4 b14 (.rw [.int .i64 piv.length]) = H5 at hM4 ⊢
  have x14 := (hM4.bx (b14, [.int .i64 piv.length]) (by simp)).1
  dsimp only at x14
  refine kNew_intro fun b15 H6 hb15 hE6 hH6 => ?_
  have hM6 := hM4.box (c := [.int .i64 piv.length]) hb15 (hE6.upd hb15 (.rw [.int .i64 piv.length])) updEq
  have f15 := hM4.fresh hb15
  simp (disch := first | assumption | omega) only [↓RP, RQ, TY, loadT, reduceIte, Nat.reduceEqDiff, Nat.reduceAdd, hH6, u_st1I, e13, e12, e11, e10, e5, e4, e2]
  generalize AH.upd H6 b15 (.rw [.int .i64 piv.length]) = H7 at hM6 ⊢
  have hcn : c < n := by omega
  have hrow : ∀ i, i < l.length → (rowAt l i).length = n := rect
  -- the search for a pivot
  refine sw_loop (σ := Nat) (fun k e H2 => e 15 = .ptr b15 0 ∧ e 14 = .ptr b14 0 ∧ e 13 = .int .i64 c ∧ e 12 = pv ∧ e 11 = .fn 95 [.ptr b5 0, .ptr b7 0] ∧ e 10 = .int .i64 d ∧ e 5 = .ptr b5 0 ∧ e 4 = .ptr b4 0 ∧ e 2 = .int .i64 cols ∧ piv.length ≤ k ∧ k ≤ l.length ∧ (∀ i, piv.length ≤ i → i < k → ent l i c = 0) ∧
    PM H0 H2 lv ws l pv (natsI piv) [(b15, [.int .i64 k]), (b14, [.int .i64 piv.length]), (b7, [.nils]), (b5, [lv]), (b4, [.ptr bg 0])]) (fun k => l.length - k) piv.length ?_ ?_
  · simp (disch := first | assumption | omega) only [↓RP, RQ, TY, loadT, reduceIte, Nat.reduceEqDiff, Nat.reduceAdd, e13, e12, e11, e10, e5, e4, e2]
    exact ⟨by omega, by omega, fun i h1 h2 => by omega, hM6⟩
  rintro k e H2 ⟨e15, e14, e13, e12, e11, e10, e5, e4, e2, hk1, hk2, hk3, hMk⟩
  have x15 := (hMk.bx (b15, [.int .i64 k]) (by simp)).1
  have x14 := (hMk.bx (b14, [.int .i64 piv.length]) (by simp)).1
  have x5 := (hMk.bx (b5, [lv]) (by simp)).1
  have x4 := (hMk.bx (b4, [.ptr bg 0]) (by simp)).1
  have x7 := (hMk.bx (b7, [.nils]) (by simp)).1
  dsimp only at x15 x14 x5 x4 x7
  have hlr := hMk.rows.run
  by_cases hkl : (k : Int) < l.length
  rotate_left
  · -- no pivot in this column
    simp (disch := first | assumption | omega) only [↓RP, RQ, TY, loadT, reduceIte, Nat.reduceEqDiff, Nat.reduceAdd, e15, e14, e13, e12, e11, e10, e5, e4, e2, hkl, x15, x5, hlr, eq_true (show (k : Int) = l.length by omega)]
    refine ⟨(c + 1, l, piv, pv, ws, d), ?_, by dsimp only; omega⟩
    simp (disch := first | assumption | omega) only [↓RP, RQ, TY, loadT, reduceIte, Nat.reduceEqDiff, Nat.reduceAdd, e15, e14, e13, e12, e11, e10, e5, e4, e2]
    refine ⟨by omega, hd, hMk.drop (by simp), ?_⟩
    rw [elim_succ, ← hs]
    simp only [elimStep]
    rw [firstNZ_eq l.length (by omega) (fun i h1 h2 => hk3 i h1 (by omega)) (fun q => by omega) (Nat.le_refl _), if_neg (by omega)]
  have k1 : k < l.length := by omega
  have hrk := hMk.ri k1
  have hrkl := hrow k k1
  by_cases hz : (rowAt l k).getD c 0 = 0
  · simp (disch := first | assumption | omega) only [↓RP, RQ, TY, loadT, reduceIte, Nat.reduceEqDiff, Nat.reduceAdd, e15, e14, e13, e12, e11, e10, e5, e4, e2, hkl, x15, x5, hlr, hrk.ints, hz, u_st1I]
    refine ⟨k + 1, ?_, by dsimp only; omega⟩
    simp (disch := first | assumption | omega) only [↓RP, RQ, TY, loadT, reduceIte, Nat.reduceEqDiff, Nat.reduceAdd, e15, e14, e13, e12, e11, e10, e5, e4, e2]
    refine ⟨by omega, by omega, fun i h1 h2 => ?_, ?_⟩
    · by_cases hik : i = k
      · rw [hik]; exact hz
      · exact hk3 i h1 (by omega)
    · exact hMk.upbox (c' := [.int .i64 ((k + 1 : Nat) : Int)]) f15.2.2.2.1 f15.2.2.2.2
  have hstep : elim (fF p m mod) rows (c + 1) = (clearL (fF p m mod) c piv.length (unitL (fF p m mod) c piv.length (swapL l piv.length k)), piv ++ [c]) := by
    rw [elim_succ, ← hs]
    simp only [elimStep]
    rw [firstNZ_eq k hk1 hk3 (fun _ => hz) hk2, if_pos (by omega)]
  have a1 : piv.length < l.length := by omega
  -- the exchange
  simp (disch := first | assumption | omega) only [↓RP, RQ, TY, loadT, reduceIte, Nat.reduceEqDiff, Nat.reduceAdd, e15, e14, e13, e12, e11, e10, e5, e4, e2, hkl, x15, x14, x5, hlr, hrk.ints, hz, eq_false (show ¬ (k : Int) = l.length by omega)]
  refine kIf_cut (M := fun e H3 => e 14 = .ptr b14 0 ∧ e 13 = .int .i64 c ∧ e 12 = pv ∧ e 11 = .fn 95 [.ptr b5 0, .ptr b7 0] ∧ e 5 = .ptr b5 0 ∧ e 4 = .ptr b4 0 ∧ e 2 = .int .i64 cols ∧ (∃ d, e 10 = .int .i64 d ∧ (fF p m mod).El d) ∧
    ∃ ws2, PM H0 H3 lv ws2 (swapL l piv.length k) pv (natsI piv) [(b14, [.int .i64 piv.length]), (b7, [.nils]), (b5, [lv]), (b4, [.ptr bg 0])]) ?_ ?_
  · by_cases hka : (k : Int) = piv.length
    · simp (disch := first | assumption | omega) only [↓RP, RQ, TY, loadT, reduceIte, Nat.reduceEqDiff, Nat.reduceAdd, eq_true hka, e15, e14, e13, e12, e11, e10, e5, e4, e2]
      refine ⟨⟨d, rfl, hd⟩, ws, ?_⟩
      have : swapL l piv.length k = l := by
        rw [show k = piv.length by omega, swapL]
        rw [rowAt, set_self, set_self]
      rw [this]
      exact hMk.drop (by simp)
    · simp (disch := first | assumption | omega) only [↓RP, RQ, TY, loadT, reduceIte, Nat.reduceEqDiff, Nat.reduceAdd, eq_false hka, e15, e14, e13, e12, e11, e10, e5, e4, e2]
      refine c_each (R := fun H' => ∃ ws', PM H0 H' lv ws' (swapL l piv.length k) pv (natsI piv) [(b15, [.int .i64 k]), (b14, [.int .i64 piv.length]), (b7, [.nils]), (b5, [lv]), (b4, [.ptr bg 0])]) x5 x7 (fun H' ⟨ws', hr⟩ => (hr.bx (b7, [.nils]) (by simp)).1)
        (fun Q' hQ' => c_sw hMk (by simp) (by simp) k1 a1 fun H' ws' hr => hQ' H' ⟨ws', hr⟩) ?_
      rintro H' ⟨ws', hr⟩
      have x4' := (hr.bx (b4, [.ptr bg 0]) (by simp)).1
      dsimp only at x4'
      simp (disch := first | assumption | omega) only [↓RP, RQ, TY, loadT, reduceIte, Nat.reduceEqDiff, Nat.reduceAdd, e15, e14, e13, e12, e11, e10, e5, e4, e2, x4']
      refine c_GNeg (hg.ext hr.ext) hd.1 hd.2 ?_
      simp (disch := first | assumption | omega) only [↓RP, RQ, TY, loadT, reduceIte, Nat.reduceEqDiff, Nat.reduceAdd, e15, e14, e13, e12, e11, e10, e5, e4, e2]
      exact ⟨⟨_, rfl, ok.neg_el hd⟩, ws', hr.drop (by simp)⟩
  rintro e H3 ⟨e14, e13, e12, e11, e5, e4, e2, ⟨d2, e10, hd2⟩, ws2, hM2⟩
  have rect2 := swapL_rect rect a1 k1
  have els2 := swapL_els els a1 k1
  have len2 := swapL_length l piv.length k
  have z2 : ent (swapL l piv.length k) piv.length c ≠ 0 := by rw [ent, rowAt_swap a1 k1, if_pos rfl]; exact hz
  clear hrk hlr
  generalize hL2 : swapL l piv.length k = l2 at *
  have a2 : piv.length < l2.length := by omega
  have x14 := (hM2.bx (b14, [.int .i64 piv.length]) (by simp)).1
  have x5 := (hM2.bx (b5, [lv]) (by simp)).1
  have x4 := (hM2.bx (b4, [.ptr bg 0]) (by simp)).1
  have x7 := (hM2.bx (b7, [.nils]) (by simp)).1
  dsimp only at x14 x5 x4 x7
  have hlr2 := hM2.rows.run
  have hra2 := hM2.ri a2
  have lra2 := rect2 piv.length a2
  have elx := els2 piv.length c
  simp (disch := first | assumption | omega) only [↓RP, RQ, TY, loadT, reduceIte, Nat.reduceEqDiff, Nat.reduceAdd, e14, e13, e12, e11, e10, e5, e4, e2, x14, x5, x4, hlr2, hra2.ints]
  refine c_GMul A (hg.ext hM2.ext) hd2.1 hd2.2 elx.1 elx.2 ?_
  simp (disch := first | assumption | omega) only [↓RP, RQ, TY, loadT, reduceIte, Nat.reduceEqDiff, Nat.reduceAdd, e14, e13, e12, e11, e10, e5, e4, e2, x14, x5, x4, hlr2, hra2.ints]
  have hinv1 : finv p m mod (ent l2 piv.length c) = 1 ↔ ent l2 piv.length c = 1 := by
    have e1 : fmul p m mod (ent l2 piv.length c) (finv p m mod (ent l2 piv.length c)) = 1 := ok.mul_inv elx z2
    constructor
    · intro q
      rw [q] at e1
      rw [← e1]
      exact (ok.mul_u elx).symm
    · intro q
      rw [q] at e1 ⊢
      have e2 : fmul p m mod 1 (finv p m mod 1) = finv p m mod 1 := (ok.mul_comm ok.el1 (ok.inv_el ok.el1)).trans (ok.mul_u (ok.inv_el ok.el1))
      rw [← e2]
      exact e1
  refine c_GInv A (hg.ext hM2.ext) (show 0 < ent l2 piv.length c by have := elx.1; omega) elx.2 ?_
  simp (disch := first | assumption | omega) only [↓RP, RQ, TY, loadT, reduceIte, Nat.reduceEqDiff, Nat.reduceAdd, e14, e13, e12, e11, e10, e5, e4, e2, x14, x5, x4, hlr2, hra2.ints]
  refine kNew_intro fun b16 H6 hb16 hE6 hH6 => ?_
  have hM6 := hM2.box (c := [.int .i64 (finv p m mod (ent l2 piv.length c))]) hb16 (hE6.upd hb16 (.rw [.int .i64 (finv p m mod (ent l2 piv.length c))])) updEq
  have hM6' := hM2.more hE6
  have y14 := (hM6'.bx (b14, [.int .i64 piv.length]) (by simp)).1
  have y5 := (hM6'.bx (b5, [lv]) (by simp)).1
  have y4 := (hM6'.bx (b4, [.ptr bg 0]) (by simp)).1
  dsimp only at y14 y5 y4
  have ylr := hM6'.rows.run
  have yra := hM6'.ri a2
  simp (disch := first | assumption | omega) only [↓RP, RQ, TY, loadT, reduceIte, Nat.reduceEqDiff, Nat.reduceAdd, hH6, u_st1I, e14, e13, e12, e11, e10, e5, e4, e2]
  generalize hH7 : AH.upd H6 b16 (.rw [.int .i64 (finv p m mod ((rowAt l2 piv.length).getD c 0))]) = H7 at ⊢
  replace hM6 : PM H0 H7 lv ws2 l2 pv (natsI piv) [(b16, [.int .i64 (finv p m mod (ent l2 piv.length c))]), (b14, [.int .i64 piv.length]), (b7, [.nils]), (b5, [lv]), (b4, [.ptr bg 0])] := hH7 ▸ hM6
  have eld3 := ok.mul_el hd2 elx
  have z5 := (hM6.bx (b5, [lv]) (by simp)).1
  have z7 := (hM6.bx (b7, [.nils]) (by simp)).1
  dsimp only at z5 z7
  refine kIf_cut (M := fun e H4 => e 14 = .ptr b14 0 ∧ e 13 = .int .i64 c ∧ e 12 = pv ∧ e 11 = .fn 95 [.ptr b5 0, .ptr b7 0] ∧ e 5 = .ptr b5 0 ∧ e 4 = .ptr b4 0 ∧ e 2 = .int .i64 cols ∧ (∃ d, e 10 = .int .i64 d ∧ (fF p m mod).El d) ∧
    ∃ ws3, PM H0 H4 lv ws3 (unitL (fF p m mod) c piv.length l2) pv (natsI piv) [(b14, [.int .i64 piv.length]), (b7, [.nils]), (b5, [lv]), (b4, [.ptr bg 0])]) ?_ ?_
  · by_cases h1 : finv p m mod (ent l2 piv.length c) = 1
    · have h1' : finv p m mod ((rowAt l2 piv.length).getD c 0) = 1 := h1
      simp (disch := first | assumption | omega) only [↓RP, RQ, TY, loadT, reduceIte, Nat.reduceEqDiff, Nat.reduceAdd, eq_true h1', e14, e13, e12, e11, e10, e5, e4, e2]
      refine ⟨⟨_, rfl, eld3⟩, ws2, ?_⟩
      rw [unitL, if_neg (by simpa using hinv1.mp h1)]
      exact hM6.drop (by simp)
    · have h1' : ¬ finv p m mod ((rowAt l2 piv.length).getD c 0) = 1 := h1
      simp (disch := first | assumption | omega) only [↓RP, RQ, TY, loadT, reduceIte, Nat.reduceEqDiff, Nat.reduceAdd, eq_false h1', e14, e13, e12, e11, e10, e5, e4, e2]
      refine c_each (R := fun H' => ∃ ws', PM H0 H' lv ws' (l2.set piv.length (scaleL (fF p m mod) (finv p m mod (ent l2 piv.length c)) (rowAt l2 piv.length))) pv (natsI piv) [(b16, [.int .i64 (finv p m mod (ent l2 piv.length c))]), (b14, [.int .i64 piv.length]), (b7, [.nils]), (b5, [lv]), (b4, [.ptr bg 0])]) z5 z7 (fun H' ⟨ws', hr⟩ => (hr.bx (b7, [.nils]) (by simp)).1)
        (fun Q' hQ' => c_sc (v := finv p m mod (ent l2 piv.length c)) A hg hM6 (by simp) (by simp) (by simp) a2 (ok.inv_el elx) els2 (by omega) fun H' ws' hr => hQ' H' ⟨ws', hr⟩) ?_
      rintro H' ⟨ws', hr⟩
      simp (disch := first | assumption | omega) only [↓RP, RQ, TY, loadT, reduceIte, Nat.reduceEqDiff, Nat.reduceAdd, e14, e13, e12, e11, e10, e5, e4, e2]
      refine ⟨⟨_, rfl, eld3⟩, ws', ?_⟩
      rw [unitL, if_pos (fun q => h1 (hinv1.mpr q))]
      exact hr.drop (by simp)
  rintro e H4 ⟨e14, e13, e12, e11, e5, e4, e2, ⟨d3, e10, hd3⟩, ws3, hM3⟩
  have rect3 := unitL_rect (F := fF p m mod) c piv.length rect2
  have els3 := unitL_els ok c piv.length els2 a2 z2
  have len3 := unitL_length (F := fF p m mod) c piv.length l2
  clear ylr yra hlr2 hra2
  generalize hL3 : unitL (fF p m mod) c piv.length l2 = l3 at *
  have lT : (clearL (fF p m mod) c piv.length l3).length = l3.length := clearL_length _ _ _
  have rectT := clearL_rect (F := fF p m mod) c piv.length rect3
  have x5 := (hM3.bx (b5, [lv]) (by simp)).1
  dsimp only at x5
  have hlr3 := hM3.rows.run
  have l3l : l3.length = l.length := by omega
  rw [l3l] at hlr3
  simp (disch := first | assumption | omega) only [↓RP, RQ, TY, loadT, reduceIte, Nat.reduceEqDiff, Nat.reduceAdd, e14, e13, e12, e11, e10, e5, e4, e2, x5, hlr3]
  refine sw_loop (σ := Nat) (fun i e H4 => e 98 = .int .i64 i ∧ e 97 = .int .i64 l.length ∧ e 14 = .ptr b14 0 ∧ e 13 = .int .i64 c ∧ e 12 = pv ∧ e 11 = .fn 95 [.ptr b5 0, .ptr b7 0] ∧ e 10 = .int .i64 d3 ∧ e 5 = .ptr b5 0 ∧ e 4 = .ptr b4 0 ∧ e 2 = .int .i64 cols ∧ i ≤ l.length ∧
    ∃ ws4, PM H0 H4 lv ws4 (mixA (clearL (fF p m mod) c piv.length l3) l3 i) pv (natsI piv) [(b14, [.int .i64 piv.length]), (b7, [.nils]), (b5, [lv]), (b4, [.ptr bg 0])]) (fun i => l.length - i) 0 ?_ ?_
  · simp (disch := first | assumption | omega) only [↓RP, RQ, TY, loadT, reduceIte, Nat.reduceEqDiff, Nat.reduceAdd, e14, e13, e12, e11, e10, e5, e4, e2, mixA_zero]
    exact ⟨by omega, ws3, hM3⟩
  rintro i e H5 ⟨e98, e97, e14, e13, e12, e11, e10, e5, e4, e2, hi, ws4, hM4⟩
  have lM := mixA_length lT i
  have e0 : ∀ j, rowAt (mixA (clearL (fF p m mod) c piv.length l3) l3 i) j = if j < i then rowAt (clearL (fF p m mod) c piv.length l3) j else rowAt l3 j := fun j => mixA_get [] lT
  have eT : ∀ j, j < l3.length → rowAt (clearL (fF p m mod) c piv.length l3) j = clearRow (fF p m mod) c piv.length l3 j := fun j hj => by rw [rowAt, clearL, tabN_getD _ hj]
  have eA : rowAt (mixA (clearL (fF p m mod) c piv.length l3) l3 i) piv.length = rowAt l3 piv.length := by
    rw [e0]
    split
    · rw [eT _ (by omega), clearRow, if_neg (by simp)]
    · rfl
  have eI : rowAt (mixA (clearL (fF p m mod) c piv.length l3) l3 i) i = rowAt l3 i := by rw [e0, if_neg (Nat.lt_irrefl i)]
  have elsT := clearL_els ok (c := c) (a := piv.length) rect3 els3 (by omega)
  have elsM : Els (fF p m mod) (mixA (clearL (fF p m mod) c piv.length l3) l3 i) := fun j j' => by
    rw [ent, e0]
    split
    · exact elsT j j'
    · exact els3 j j'
  have keepM : i < l3.length → clearRow (fF p m mod) c piv.length l3 i = rowAt l3 i → mixA (clearL (fF p m mod) c piv.length l3) l3 (i + 1) = mixA (clearL (fF p m mod) c piv.length l3) l3 i := fun hi3 q => by
    rw [← mixA_set [] lT hi3]
    have : (clearL (fF p m mod) c piv.length l3).getD i [] = (mixA (clearL (fF p m mod) c piv.length l3) l3 i).getD i [] := by
      have h2 := eT i hi3
      rw [q] at h2
      rw [rowAt] at h2
      have h1 := eI
      rw [rowAt] at h1
      rw [h1, h2]
    rw [this, set_self]
  by_cases hit : (i : Int) < l.length
  rotate_left
  · have hfull := mixA_full lT (i := i) (by omega)
    rw [hfull] at hM4
    simp (disch := first | assumption | omega) only [↓RP, RQ, TY, loadT, reduceIte, Nat.reduceEqDiff, Nat.reduceAdd, e98, e97, e14, e13, e12, e11, e10, e5, e4, e2, hit]
    refine kNew_intro fun b6 H6 hb6 hE6 hH6 => ?_
    have hM6 := hM4.more hE6
    simp (disch := first | assumption | omega) only [↓RP, RQ, TY, loadT, reduceIte, Nat.reduceEqDiff, Nat.reduceAdd, e98, e97, e14, e13, e12, e11, e10, e5, e4, e2]
    have hpl : piv.length ≤ 1000 := by omega
    refine kApp_own (H0 := H0) (us := ints [(c : Int)]) hM6.piv hM6.ext (Sl.own hH6 rfl) ints_ones (by simp [ints_length, natsI_length]; omega) (by simp [ints_length, natsI_length]; omega) fun v7 H7 hE7 ho7 keep7 => ?_
    rw [ints_app] at ho7
    have hps : natsI piv ++ [(c : Int)] = natsI (piv ++ [c]) := by simp [natsI]
    rw [hps] at ho7
    have hM7 := hM6.push hE7 ho7 keep7
    simp (disch := first | assumption | omega) only [↓RP, RQ, TY, loadT, reduceIte, Nat.reduceEqDiff, Nat.reduceAdd, e98, e97, e14, e13, e12, e11, e10, e5, e4, e2]
    refine ⟨(c + 1, clearL (fF p m mod) c piv.length l3, piv ++ [c], v7, ws4, d3), ?_, by dsimp only; omega⟩
    simp (disch := first | assumption | omega) only [↓RP, RQ, TY, loadT, reduceIte, Nat.reduceEqDiff, Nat.reduceAdd, e98, e97, e14, e13, e12, e11, e10, e5, e4, e2]
    refine ⟨by omega, hd3, hM7.drop (by simp), ?_⟩
    rw [hstep]
  have x5 := (hM4.bx (b5, [lv]) (by simp)).1
  have x14 := (hM4.bx (b14, [.int .i64 piv.length]) (by simp)).1
  dsimp only at x5 x14
  have hlr4 := hM4.rows.run
  rw [lM, l3l] at hlr4
  have hri := hM4.ri (i := i) (by omega)
  rw [eI] at hri
  have lri := rect3 i (by omega)
  simp (disch := first | assumption | omega) only [↓RP, RQ, TY, loadT, reduceIte, Nat.reduceEqDiff, Nat.reduceAdd, e98, e97, e14, e13, e12, e11, e10, e5, e4, e2, hit]
  refine kNew_intro fun b18 H6 hb18 hE6 hH6 => ?_
  have hM6 := hM4.box (c := [.int .i64 i]) hb18 (hE6.upd hb18 (.rw [.int .i64 i])) updEq
  simp (disch := first | assumption | omega) only [↓RP, RQ, TY, loadT, reduceIte, Nat.reduceEqDiff, Nat.reduceAdd, hH6, u_st1I]
  generalize AH.upd H6 b18 (.rw [.int .i64 i]) = H7 at hM6 ⊢
  have y18 := (hM6.bx (b18, [.int .i64 i]) (by simp)).1
  have y5 := (hM6.bx (b5, [lv]) (by simp)).1
  dsimp only at y18 y5
  have hlr6 := hM6.rows.run
  rw [lM, l3l] at hlr6
  have hri6 := hM6.ri (i := i) (by omega)
  rw [eI] at hri6
  simp (disch := first | assumption | omega) only [↓RP, RQ, TY, loadT, reduceIte, Nat.reduceEqDiff, Nat.reduceAdd, e98, e97, e14, e13, e12, e11, e10, e5, e4, e2, y18, y5, hlr6, hri6.ints]
  refine kNew_intro fun b19 H8 hb19 hE8 hH8 => ?_
  have hM8 := hM6.box (c := [.int .i64 (ent l3 i c)]) hb19 (hE8.upd hb19 (.rw [.int .i64 (ent l3 i c)])) updEq
  simp (disch := first | assumption | omega) only [↓RP, RQ, TY, loadT, reduceIte, Nat.reduceEqDiff, Nat.reduceAdd, hH8, u_st1I]
  generalize hH9 : AH.upd H8 b19 (.rw [.int .i64 ((rowAt l3 i).getD c 0)]) = H9 at ⊢
  have hM9 : PM H0 H9 lv ws4 (mixA (clearL (fF p m mod) c piv.length l3) l3 i) pv (natsI piv) [(b19, [.int .i64 (ent l3 i c)]), (b18, [.int .i64 i]), (b14, [.int .i64 piv.length]), (b7, [.nils]), (b5, [lv]), (b4, [.ptr bg 0])] := hH9 ▸ hM8
  have w19 := (hM9.bx (b19, [.int .i64 (ent l3 i c)]) (by simp)).1
  have w18 := (hM9.bx (b18, [.int .i64 i]) (by simp)).1
  have w14 := (hM9.bx (b14, [.int .i64 piv.length]) (by simp)).1
  have w7 := (hM9.bx (b7, [.nils]) (by simp)).1
  have w5 := (hM9.bx (b5, [lv]) (by simp)).1
  dsimp only at w19 w18 w14 w7 w5
  have nxt : ∀ {e' : Env} {H' : AH}, e' 98 = .int .i64 ((i : Int) + 1) → e' 97 = .int .i64 l.length → e' 14 = .ptr b14 0 → e' 13 = .int .i64 c → e' 12 = pv → e' 11 = .fn 95 [.ptr b5 0, .ptr b7 0] → e' 10 = .int .i64 d3 → e' 5 = .ptr b5 0 → e' 4 = .ptr b4 0 → e' 2 = .int .i64 cols →
      PM H0 H' lv ws4 (mixA (clearL (fF p m mod) c piv.length l3) l3 (i + 1)) pv (natsI piv) [(b19, [.int .i64 (ent l3 i c)]), (b18, [.int .i64 i]), (b14, [.int .i64 piv.length]), (b7, [.nils]), (b5, [lv]), (b4, [.ptr bg 0])] → kInv (fun i e H4 => e 98 = .int .i64 (i : Nat) ∧ e 97 = .int .i64 l.length ∧ e 14 = .ptr b14 0 ∧ e 13 = .int .i64 c ∧ e 12 = pv ∧ e 11 = .fn 95 [.ptr b5 0, .ptr b7 0] ∧ e 10 = .int .i64 d3 ∧ e 5 = .ptr b5 0 ∧ e 4 = .ptr b4 0 ∧ e 2 = .int .i64 cols ∧ i ≤ l.length ∧
    ∃ ws4, PM H0 H4 lv ws4 (mixA (clearL (fF p m mod) c piv.length l3) l3 i) pv (natsI piv) [(b14, [.int .i64 piv.length]), (b7, [.nils]), (b5, [lv]), (b4, [.ptr bg 0])]) (fun i => l.length - i) i e' H' := fun g1 g2 g3 g4 g5 g6 g7 g8 g9 g10 hP' =>
    ⟨i + 1, ⟨g1, g2, g3, g4, g5, g6, g7, g8, g9, g10, by omega, ws4, hP'.drop (by simp)⟩, by dsimp only; omega⟩
  by_cases hia : (i : Int) = piv.length
  · simp (disch := first | assumption | omega) only [↓RP, RQ, TY, loadT, reduceIte, Nat.reduceEqDiff, Nat.reduceAdd, e98, e97, e14, e13, e12, e11, e10, e5, e4, e2, w18, w14, eq_true hia]
    refine nxt ?_ ?_ ?_ ?_ ?_ ?_ ?_ ?_ ?_ ?_ ?_ <;> (try simp (disch := first | assumption | omega) only [↓RP, RQ, TY, loadT, reduceIte, Nat.reduceEqDiff, Nat.reduceAdd, e98, e97, e14, e13, e12, e11, e10, e5, e4, e2])
    rw [keepM (by omega) (by rw [clearRow, if_neg (by simp; omega)])]
    exact hM9
  by_cases hz0 : ent l3 i c = 0
  · simp (disch := first | assumption | omega) only [↓RP, RQ, TY, loadT, reduceIte, Nat.reduceEqDiff, Nat.reduceAdd, e98, e97, e14, e13, e12, e11, e10, e5, e4, e2, w18, w14, w19, eq_false hia, hz0]
    refine nxt ?_ ?_ ?_ ?_ ?_ ?_ ?_ ?_ ?_ ?_ ?_ <;> (try simp (disch := first | assumption | omega) only [↓RP, RQ, TY, loadT, reduceIte, Nat.reduceEqDiff, Nat.reduceAdd, e98, e97, e14, e13, e12, e11, e10, e5, e4, e2])
    rw [keepM (by omega) (by rw [clearRow, if_neg (fun q => q.2 hz0)])]
    exact hM9
  simp (disch := first | assumption | omega) only [↓RP, RQ, TY, loadT, reduceIte, Nat.reduceEqDiff, Nat.reduceAdd, e98, e97, e14, e13, e12, e11, e10, e5, e4, e2, w18, w14, w19, eq_false hia, hz0]
  have lra3 := rect3 piv.length (by omega)
  refine c_each (R := fun H' => PM H0 H' lv ws4 (mixA (clearL (fF p m mod) c piv.length l3) l3 (i + 1)) pv (natsI piv) [(b19, [.int .i64 (ent l3 i c)]), (b18, [.int .i64 i]), (b14, [.int .i64 piv.length]), (b7, [.nils]), (b5, [lv]), (b4, [.ptr bg 0])]) w5 w7 (fun H' hr => (hr.bx (b7, [.nils]) (by simp)).1)
    (fun Q' hQ' => c_ad (i := i) (a := piv.length) (x := ent l3 i c) A hg hM9 (by simp) (by simp) (by simp) (by simp) (by omega) (by omega) (by omega) ok (els3 i c) elsM (by rw [eI]; omega) (by rw [eA, eI]; omega) fun H' hr => hQ' H' ?_) ?_
  · rw [eI, eA] at hr
    rw [← mixA_set [] lT (show i < l3.length by omega)]
    have eT2 := eT i (by omega)
    rw [rowAt] at eT2
    rw [eT2, clearRow, if_pos ⟨by omega, hz0⟩]
    exact hr
  intro H' hr
  simp (disch := first | assumption | omega) only [↓RP, RQ, TY, loadT, reduceIte, Nat.reduceEqDiff, Nat.reduceAdd, e98, e97, e14, e13, e12, e11, e10, e5, e4, e2]
  refine nxt ?_ ?_ ?_ ?_ ?_ ?_ ?_ ?_ ?_ ?_ ?_ <;> (try simp (disch := first | assumption | omega) only [↓RP, RQ, TY, loadT, reduceIte, Nat.reduceEqDiff, Nat.reduceAdd, e98, e97, e14, e13, e12, e11, e10, e5, e4, e2])
  exact hr
end Go.Proofs.Yteijojnahpeglaa.AM
/-! The program's matrices, fifth part: clone, canon, open. -/
namespace Go.Proofs.Yteijojnahpeglaa.AM
open Go Go.RowKit
set_option linter.unusedVariables false
set_option linter.unusedSimpArgs false
set_option maxRecDepth 20000
theorem Own.offSl {H0 H : AH} {v : AV} {xs : List Int} {b : Nat} {ws : List AV} (h : Own H0 H v (ints xs)) (hb : H b = .rw ws) (hn : 0 < ws.length) (hw : ∀ u, u ∈ ws → u.isSl = true) : Off v b := fun o n c q => by
  rcases h with ⟨h, -⟩ | ⟨b2, h1, h2, -⟩
  · rw [q] at h; cases h
  · rw [q] at h1
    cases h1
    rw [hb] at h2
    cases h2
    cases xs with
    | nil => simp [ints] at hn
    | cons x xs =>
      have := hw (.int .i64 x) (by simp [ints])
      cases this
/-- v stands in no block of the heap H -/
def OffH (H : AH) (v : AV) : Prop := ∀ b o n c, v = .sl b o n c → H b = .free
theorem Own.offH {H0 H : AH} {v : AV} {us : List AV} (h : Own H0 H v us) : OffH H0 v := fun b o n c q => by
  rcases h with ⟨h, -⟩ | ⟨b2, h1, -, h3⟩
  · rw [q] at h; cases h
  · rw [q] at h1; cases h1; exact h3
theorem OffH.old {H0 H : AH} {v : AV} (h : OffH H v) (hE : Ext H0 H) : OffH H0 v := fun b o n c q => hE.free (h b o n c q)
theorem Sl.updOff {H0 H : AH} {v : AV} {us : List AV} {b : Nat} (h : Sl H v us) (hv : OffH H0 v) (hb : H0 b ≠ .free) (s : Slot) : Sl (H.upd b s) v us := by
  rcases h with h | ⟨b2, o, c, h1, h2⟩
  · exact .inl h
  · refine .inr ⟨b2, o, c, h1, fun i u hu => ?_⟩
    have : b2 ≠ b := fun q => hb (by rw [← q]; exact hv _ _ _ _ h1)
    have := h2 i u hu
    simpa [AH.cell, AH.upd, *] using this
theorem Rows.updOff {H0 H : AH} {v : AV} {us : List AV} {l : List (List Int)} {b : Nat} (h : Rows H v us l) (hv : OffH H0 v) (hu : ∀ u, u ∈ us → OffH H0 u) (hb : H0 b ≠ .free) (s : Slot) : Rows (H.upd b s) v us l := by
  refine ⟨h.sl.updOff hv hb s, h.len, fun i hi => (h.row i hi).updOff (hu _ ?_) hb s⟩
  have : i < us.length := by rw [h.len]; exact hi
  rw [List.getD_eq_getElem?_getD, List.getElem?_eq_getElem this]
  exact List.getElem_mem this
theorem getD_of_mem {us : List AV} {u : AV} (h : u ∈ us) : ∃ i, i < us.length ∧ u = us.getD i .junk := by
  obtain ⟨i, hi, rfl⟩ := List.getElem_of_mem h
  exact ⟨i, hi, by simp [List.getD_eq_getElem?_getD, hi]⟩
theorem PM.offs {H0 H : AH} {lv : AV} {ws : List AV} {l : List (List Int)} {pv : AV} {ps : List Int} {fs : List (Nat × List AV)} (h : PM H0 H lv ws l pv ps fs) : OffH H0 lv ∧ (∀ u, u ∈ ws → OffH H0 u) ∧ OffH H0 pv := by
  refine ⟨h.own.offH, fun u hu b o n c q => ?_, h.piv.offH⟩
  obtain ⟨i, hi, rfl⟩ := getD_of_mem hu
  obtain ⟨r1, r2, r3⟩ := h.rb i (by rw [← h.len]; exact hi)
  rw [q] at r1 r3
  exact r3
theorem c_clone {v : AV} {us : List AV} {rows : List (List Int)} {n : Nat} {H : AH} {Q : AV → AH → Prop} (hv : Rows H v us rows) (hr : Rect n rows) (hn : n ≤ 1000) (hk : rows.length ≤ 1000)
    (hQ : ∀ lv ws H', Ext H H' → Rows H' lv ws rows → OffH H lv → (∀ u, u ∈ ws → OffH H u) → (0 < n → 0 < rows.length → PM H H' lv ws rows .nils [] []) → Q lv H') : AC Try.prog 75 [v] H Q := by
  refine at75 (by simp) ?_
  simp (disch := first | assumption | omega) only [↓RP, RQ, TY, loadT, s75, reduceIte, Nat.reduceEqDiff, Nat.reduceAdd, hv.run]
  refine kNew_intro fun b H1 hb hE hH1 => ?_
  simp (disch := first | assumption | omega) only [↓RP, RQ, TY, loadT, reduceIte, Nat.reduceEqDiff, Nat.reduceAdd, hv.run]
  refine sw_loop (σ := Nat × List AV) (fun s e H' => e 11 = .int .i64 s.1 ∧ e 10 = .int .i64 rows.length ∧ e 9 = v ∧ e 3 = .sl b 0 rows.length (.own 1) ∧ s.1 ≤ rows.length ∧ Ext H H' ∧ H' b = .rw s.2 ∧ s.2.length = rows.length ∧ (∀ u, u ∈ s.2 → u.isSl = true) ∧
    (∀ j, j < s.1 → Own H H' (s.2.getD j .junk) (ints (rowAt rows j))) ∧ (∀ i j, i < j → j < s.1 → 0 < n → slB (s.2.getD i .junk) ≠ slB (s.2.getD j .junk))) (fun s => rows.length - s.1) (0, List.replicate rows.length .nils) ?_ ?_
  · simp (disch := first | assumption | omega) only [↓RP, RQ, TY, loadT, reduceIte, Nat.reduceEqDiff, Nat.reduceAdd]
    refine ⟨by omega, hE, hH1, by simp, fun u hu => ?_, fun j hj => by omega, fun i j _ hj => by omega⟩
    rw [(List.mem_replicate.mp hu).2]; rfl
  rintro ⟨i, ws⟩ e H' ⟨e11, e10, e9, e3, hi, hE', hb', hl, hsl, ho, hinj⟩
  dsimp only at *
  have hv' := hv.ext hE'
  by_cases hlt : (i : Int) < rows.length
  · have hri := hr i (by omega)
    simp (disch := first | assumption | omega) only [↓RP, RQ, TY, loadT, reduceIte, Nat.reduceEqDiff, Nat.reduceAdd, e11, e10, e9, e3, hlt, hv'.run]
    refine c_Clone (hv'.row i (by omega)) (by omega) fun w H2 hE2 ho2 => ?_
    have hb2 := hE2.rw hb'
    have hws := ho2.sl.isSl
    simp (disch := first | assumption | omega) only [↓RP, RQ, TY, loadT, reduceIte, Nat.reduceEqDiff, Nat.reduceAdd, e11, e10, e9, e3, hb2, u_storeV, u_stGV]
    refine ⟨(i + 1, ws.set i w), ?_, by dsimp only; omega⟩
    simp (disch := first | assumption | omega) only [↓RP, RQ, TY, loadT, reduceIte, Nat.reduceEqDiff, Nat.reduceAdd, e11, e10, e9, e3]
    have hn0 : 0 < ws.length := by omega
    have oold : ∀ j, j < i → Own H H2 (ws.getD j .junk) (ints (rowAt rows j)) := fun j hj => (ho j hj).ext hE2
    have onew : Own H H2 w (ints (rowAt rows i)) := ho2.old hE'
    refine ⟨by omega, (hE'.trans hE2).upd hb _, by simpa using hl, fun u hu => ?_, fun j hj => ?_, fun j j' h1 h2 h0 => ?_⟩
    · rcases List.mem_or_eq_of_mem_set hu with hu | rfl
      · exact hsl u hu
      · exact hws
    · rw [getD_setN]
      by_cases hji : j = i
      · rw [if_pos ⟨hji, by omega⟩, hji]
        exact onew.updOff (onew.offSl hb2 hn0 hsl) _
      · rw [if_neg (fun q => hji q.1)]
        exact (oold j (by omega)).updOff ((oold j (by omega)).offSl hb2 hn0 hsl) _
    · rw [getD_setN, getD_setN, if_neg (by omega : ¬ (j = i ∧ i < ws.length))]
      by_cases hji : j' = i
      · rw [if_pos ⟨hji, by omega⟩]
        have hrj := hr j (by omega)
        obtain ⟨q1, q2, q3⟩ := (ho j (by omega)).blk (by rw [ints_length]; omega)
        obtain ⟨w1, w2, w3⟩ := ho2.blk (by rw [ints_length]; omega)
        intro q
        rw [q, w3] at q1
        cases q1
      · rw [if_neg (fun q => hji q.1)]
        exact hinj j j' h1 (by omega) h0
  · have hil : i = rows.length := by omega
    subst hil
    simp (disch := first | assumption | omega) only [↓RP, RQ, TY, loadT, reduceIte, Nat.reduceEqDiff, Nat.reduceAdd, e11, e10, e9, e3, hlt]
    refine hQ (.sl b 0 rows.length (.own 1)) ws H' hE' ⟨Sl.own hb' hl.symm, hl, fun i hi => (ho i hi).sl⟩ (fun b' o n' c q => by cases q; exact hb) (fun u hu => by obtain ⟨i, hi, rfl⟩ := getD_of_mem hu; exact (ho i (by omega)).offH) fun h0 h1 => ?_
    have hrb : ∀ i, i < rows.length → ws.getD i .junk = .sl (slB (ws.getD i .junk)) 0 (rowAt rows i).length (.own 1) ∧ H' (slB (ws.getD i .junk)) = .rw (ints (rowAt rows i)) ∧ H (slB (ws.getD i .junk)) = .free := fun i hi => by
      have hri := hr i hi
      obtain ⟨b2, q1, q2, q3⟩ := (ho i hi).block (fun q => by have := congrArg List.length q; rw [ints_length] at this; simp at this; rw [this] at hri; simp at hri; omega)
      rw [ints_length] at q1
      rw [q1]
      exact ⟨rfl, q2, q3⟩
    refine ⟨hE', h1, ⟨hb', rfl, hb⟩, by rw [hl]; rfl, hl, hrb, fun i hi => by rw [hr i hi]; exact h0, fun i j hi hj hij => ?_, fun i hi o n' c q => (by cases q), fun o n' c q => (by cases q), fun i hi q => ?_, Own.nils, fun x hx => (by simp at hx)⟩
    · rcases Nat.lt_or_gt_of_ne hij with h | h
      · exact hinj i j h hj h0
      · exact Ne.symm (hinj j i h hi h0)
    · obtain ⟨q1, q2, q3⟩ := hrb i hi
      have hoff := (ho i hi).offSl hb' (by omega) hsl
      rw [q] at q1
      exact hoff _ _ _ q1
/-- the first n elements of a slice, without room -/
def slTake3 : AV → Nat → AV
  | .sl b o _ _, n => .sl b o n (.kn n)
  | v, _ => v
theorem OffH.take3 {H : AH} {v : AV} (h : OffH H v) (n : Nat) : OffH H (slTake3 v n) := fun b o n' c q => by
  cases v <;> simp only [slTake3] at q <;> first | (cases q; done) | (cases q; exact h _ _ _ _ rfl)
theorem Sl.slice3 {P : Program} {K : Kt} {e : Env} {H H' : AH} {d : Option Nat} {r : Rst} {k : IntKind} {v : AV} {us : List AV} {h : Int} (hs : Sl H v us) (h0 : 0 ≤ h) (h1 : h ≤ us.length) :
    kSlice P (some 1) r e H' K d v none (some (.int k h)) (some (.int k h)) = kPut P r e H' K d (slTake3 v h.toNat) := by
  have hh : ((h.toNat : Nat) : Int) = h := Int.toNat_of_nonneg h0
  rcases hs with ⟨rfl, rfl⟩ | ⟨b, o, c, rfl, -⟩
  · have : h = 0 := by simp at h1; omega
    subst this
    refine propext ⟨?_, ?_⟩
    · rintro ⟨s, -, -, -, -, h5⟩; exact h5
    · intro h2
      exact ⟨1, rfl, (fun v hv => by cases hv), (fun v hv => ⟨k, by cases hv; rfl⟩), (fun v hv => ⟨rfl, k, by cases hv; rfl⟩), h2⟩
  · refine propext ⟨?_, ?_⟩
    · rintro ⟨s, hs, l, hh', rfl, ⟨k', h2⟩, h3, h4, m, k2, h5, -, -, -, h6⟩
      cases hs
      cases h2
      have : m = hh' := by
        have := congrArg (fun v => match v with | AV.int _ n => n | _ => 0) h5
        simp at this
        omega
      subst this
      simpa [kPut, slTake3] using h6
    · intro h2
      refine ⟨1, rfl, 0, h.toNat, rfl, ⟨k, by rw [hh]⟩, by omega, by omega, h.toNat, k, by rw [hh], rfl, Nat.le_refl _, by omega, ?_⟩
      simpa [kPut, slTake3] using h2
theorem Sl.taken3 {H : AH} {v : AV} {us : List AV} {n : Nat} (hs : Sl H v us) (hn : n ≤ us.length) : Sl H (slTake3 v n) (us.take n) := by
  rcases hs with ⟨rfl, rfl⟩ | ⟨b, o, c, rfl, h⟩
  · exact .inl ⟨rfl, by simp⟩
  · refine .inr ⟨b, o, _, by rw [List.length_take, Nat.min_eq_left hn]; rfl, fun i u hu => ?_⟩
    rw [List.getElem?_take] at hu
    split at hu
    · exact h i u hu
    · cases hu
theorem Rows.taken3 {H : AH} {v : AV} {us : List AV} {l : List (List Int)} (h : Rows H v us l) {n : Nat} (hn : n ≤ l.length) : Rows H (slTake3 v n) (us.take n) (l.take n) := by
  refine ⟨h.sl.taken3 (by rw [h.len]; exact hn), by simp [h.len], fun i hi => ?_⟩
  rw [List.length_take] at hi
  rw [rowAt_take (by omega)]
  have := h.row i (by omega)
  simpa [List.getD_eq_getElem?_getD, List.getElem?_take, show i < n by omega] using this
theorem c_canonP (A : Alg) {bg : Nat} {p m : Int} {v : AV} {mod : List Int} {us : List AV} {rows : List (List Int)} {n cols : Nat} {H : AH} {Q : AV → AH → Prop} (hg : GFA H bg p m mod) (hF : FieldOk p m mod)
    (hv : Rows H v us rows) (hr : Rect n rows) (he : Els (fF p m mod) rows) (hn : n ≤ 1000) (hk : rows.length ≤ 1000) (hc : cols ≤ n)
    (hQ : ∀ lv pv us' H', Ext H H' → Rows H' lv us' (canon (fF p m mod) rows cols).1 → Ints H' pv (natsI (canon (fF p m mod) rows cols).2) → OffH H lv → (∀ u, u ∈ us' → OffH H u) → OffH H pv → Q (.tup [lv, pv]) H') :
    AC Try.prog 57 [.ptr bg 0, v, .int .i64 cols] H Q := by
  refine at57 (by simp) ?_
  simp (disch := first | assumption | omega) only [↓RP, RQ, TY, loadT, s57, reduceIte, Nat.reduceEqDiff, Nat.reduceAdd]
  refine c_clone hv hr hn hk fun lv ws H1 hE1 hr1 hO1 hO2 hP1 => ?_
  simp (disch := first | assumption | omega) only [↓RP, RQ, TY, loadT, reduceIte, Nat.reduceEqDiff, Nat.reduceAdd]
  have hle := elim_piv (F := fF p m mod) rows cols
  have hll := elim_length (F := fF p m mod) rows cols
  refine c_elimP A hg hE1 hF hr1.sl hr1.len hr he hn hk hc hP1 (fun h0 H2 d hE2 => ?_) (fun pv us' H2 d h0 h1 hM => ?_)
  · have hlen : (elim (fF p m mod) rows cols).2 = [] := by
      rcases h0 with h0 | h0
      · rw [show cols = 0 by omega]; rfl
      · exact List.length_eq_zero_iff.mp (by omega)
    have hr2 := hr1.ext hE2
    have z0 : Int.toNat 0 = 0 := rfl
    simp (disch := first | assumption | omega) only [↓RP, RQ, TY, loadT, reduceIte, Nat.reduceEqDiff, Nat.reduceAdd, hr2.sl.slice3, hr2.len, z0]
    refine hQ _ _ (ws.take 0) _ (hE1.trans hE2) ?_ ?_ (hO1.take3 _) (fun u hu => by simp at hu) (fun b o n c q => by cases q)
    · rw [canon, hlen]
      have := hr2.taken3 (n := 0) (by omega)
      simpa using this
    · rw [canon, hlen]
      exact .inl ⟨rfl, rfl⟩
  · have hpi := hM.piv.sl.ints
    rw [natsI_length] at hpi
    have hrM := hM.rows
    have hul := hM.len
    simp (disch := first | assumption | omega) only [↓RP, RQ, TY, loadT, reduceIte, Nat.reduceEqDiff, Nat.reduceAdd, hpi, hrM.sl.slice3, m_nat]
    exact hQ _ _ _ _ hM.ext (hrM.taken3 (by omega)) hM.piv.sl (hM.offs.1.take3 _) (fun u hu => hM.offs.2.1 u (List.mem_of_mem_take hu)) hM.offs.2.2
theorem u_stAgg {P : Program} {K : Kt} {e : Env} {H : AH} {d : Option Nat} {r : Rst} {ds : List Nat} {blk : Nat} {ys xs : List AV} (h : H blk = .rw xs) (hl : ys.length = xs.length) (hy : ∀ v, v ∈ ys → v.one = true) :
    kStore P ds (some ys.length) r e H K d (.ptr blk 0) (.agg ys) = kRet P ds r e (H.upd blk (.rw ys)) K d (.tup []) := by
  have hs : splice xs 0 ys = ys := by simp [splice, hl]
  refine propext ⟨?_, ?_⟩
  · rintro ⟨xs', h1, -, -, -, -, h6⟩
    rw [h] at h1
    cases h1
    have h6' : r.chk P (H.upd blk (.rw (splice xs 0 ys))) ds ∧ go P r (e.put d (.tup [])) (H.upd blk (.rw (splice xs 0 ys))) K := h6
    rw [hs] at h6'
    exact h6'
  · intro h6
    have h6' : r.chk P (H.upd blk (.rw ys)) ds ∧ go P r (e.put d (.tup [])) (H.upd blk (.rw ys)) K := h6
    rw [← hs] at h6'
    exact ⟨xs, h, rfl, rfl, hy, by show 0 + ys.length ≤ xs.length; omega, h6'⟩
theorem u_st2 {P : Program} {K : Kt} {e : Env} {H : AH} {d : Option Nat} {r : Rst} {ds : List Nat} {blk : Nat} {a b x y : AV} (h : H blk = .rw [a, b]) (hx : x.one = true) (hy : y.one = true) :
    kStore P ds (some 2) r e H K d (.ptr blk 0) (.agg [x, y]) = kRet P ds r e (H.upd blk (.rw [x, y])) K d (.tup []) :=
  u_stAgg h rfl (fun v hv => by simp at hv; rcases hv with rfl | rfl <;> assumption)
theorem c_openP (GI : GenIff) {p m cols : Int} {md v : AV} {mod : List Int} {bm : Nat} {us : List AV} {rows : List (List Int)} {H : AH} {Q : AV → AH → Prop} (hm : Ints H md mod) (hlm : mod.length ≤ 9223372036854775807) (hb : H bm = .rw [.int .i64 cols, v]) (hv : Rows H v us rows) (hl : rows.length ≤ 9223372036854775807) (hlr : ∀ i, i < rows.length → (rowAt rows i).length ≤ 9223372036854775807)
    (hQ1 : ∀ b H', Ext H H' → matErr p m mod cols rows = 0 → GFA H' b p m mod → Q (.tup [.ptr b 0, .int .i64 0]) H') (hQ0 : ∀ H', Ext H H' → matErr p m mod cols rows ≠ 0 → Q (.tup [.nilp, .int .i64 (matErr p m mod cols rows)]) H') :
    AC Try.prog 56 [.agg [.int .i64 p, .int .i64 m, md], .sl bm 0 1 (.own 2)] H Q := by
  refine at56 (by simp) ?_
  simp (disch := first | assumption | omega) only [↓RP, RQ, TY, loadT, s56, reduceIte, Nat.reduceEqDiff, Nat.reduceAdd]
  refine kNew_intro fun b H1 hb1 hE1 hH1 => ?_
  simp (disch := first | assumption | omega) only [↓RP, RQ, TY, loadT, reduceIte, Nat.reduceEqDiff, Nat.reduceAdd, hH1]
  refine c_New GI (hm.ext hE1) hlm (fun bg H2 hE2 hF hg => ?_) (fun H2 hE2 hF => ?_)
  rotate_left
  · have e1 : matErr p m mod cols rows = 1 := by rw [matErr, if_pos hF]
    simp (disch := first | assumption | omega) only [↓RP, RQ, TY, loadT, reduceIte, Nat.reduceEqDiff, Nat.reduceAdd, Int.reduceEq, Int.reduceNe]
    have := hQ0 H2 (hE1.trans hE2) (by rw [e1]; decide)
    rwa [e1] at this
  have hb2 := (hE1.trans hE2).rw hb
  simp (disch := first | assumption | omega) only [↓RP, RQ, TY, loadT, reduceIte, Nat.reduceEqDiff, Nat.reduceAdd, Int.reduceEq, Int.reduceNe]
  refine sw_loop (σ := Nat) (fun i e H' => e 20 = .int .i64 i ∧ e 19 = .int .i64 1 ∧ e 18 = .sl bm 0 1 (.own 2) ∧ e 6 = .ptr bg 0 ∧ i ≤ 1 ∧ Ext H2 H' ∧ (0 < i → matErr p m mod cols rows = 0)) (fun i => 1 - i) 0 ?_ ?_
  · simp (disch := first | assumption | omega) only [↓RP, RQ, TY, loadT, reduceIte, Nat.reduceEqDiff, Nat.reduceAdd]
    exact ⟨by simp, by omega, Ext.refl _, by omega⟩
  rintro i e H' ⟨e20, e19, e18, e6, hi, hE3, h0⟩
  have hb3 := hE3.rw hb2
  have hE13 := (hE1.trans hE2).trans hE3
  by_cases hlt : (i : Int) < 1
  · have i0 : i = 0 := by omega
    subst i0
    have hsl := isSl_one hv.sl.isSl
    have e20' : e 20 = .int .i64 0 := e20
    have z0 : Int.toNat 0 = 0 := rfl
    have l01 : ((0 : Int) < ((1 : Nat) : Int)) := by decide
    simp (disch := first | assumption | omega) only [↓RP, RQ, TY, loadT, reduceIte, Nat.reduceEqDiff, Nat.reduceAdd, e20', e19, e18, e6, eq_true (show (0 : Int) < 1 by decide), u_idx (Int.le_refl 0) l01, z0, Nat.zero_mul, hb3]
    refine kNew_intro fun b9 H9 hb9 hE9 hH9 => ?_
    simp (disch := first | assumption | omega) only [↓RP, RQ, TY, loadT, reduceIte, Nat.reduceEqDiff, Nat.reduceAdd, u_st2 (x := .int .i64 cols) (y := v) hH9 rfl hsl]
    have hE10 := hE9.upd hb9 (.rw [.int .i64 cols, v])
    have hH10 : (H9.upd b9 (.rw [.int .i64 cols, v])) b9 = .rw [.int .i64 cols, v] := updEq
    generalize H9.upd b9 (.rw [.int .i64 cols, v]) = H10 at *
    have hE010 := hE13.trans hE10
    simp (disch := first | assumption | omega) only [↓RP, RQ, TY, loadT, reduceIte, Nat.reduceEqDiff, Nat.reduceAdd, e20', e19, e18, e6, hH10]
    refine c_mcheck (hg.ext (hE3.trans hE10)) (by obtain ⟨_, _, _, _, _, _, _, _, _, _, _, _, _, _, hF⟩ := hg; exact hF) (hv.ext hE010) hl hlr fun H11 hE11 => ?_
    by_cases he : matErr p m mod cols rows = 0
    · simp (disch := first | assumption | omega) only [↓RP, RQ, TY, loadT, reduceIte, Nat.reduceEqDiff, Nat.reduceAdd, e20', e19, e18, e6, eq_true he]
      refine ⟨1, ?_, by dsimp only; omega⟩
      simp (disch := first | assumption | omega) only [↓RP, RQ, TY, loadT, reduceIte, Nat.reduceEqDiff, Nat.reduceAdd, e20', e19, e18, e6]
      exact ⟨by omega, (hE3.trans hE10).trans hE11, fun _ => trivial⟩
    · simp (disch := first | assumption | omega) only [↓RP, RQ, TY, loadT, reduceIte, Nat.reduceEqDiff, Nat.reduceAdd, e20', e19, e18, e6, eq_false he]
      exact hQ0 H11 (hE010.trans hE11) he
  · simp (disch := first | assumption | omega) only [↓RP, RQ, TY, loadT, reduceIte, Nat.reduceEqDiff, Nat.reduceAdd, e20, e19, e18, e6, hlt]
    exact hQ1 bg H' hE13 (h0 (by omega)) (hg.ext hE3)
end Go.Proofs.Yteijojnahpeglaa.AM
/-! The program's matrices, sixth part: Canonical; the program's spaces and codes: Check. -/
namespace Go.Proofs.Yteijojnahpeglaa.AM
open Go Go.RowKit
set_option linter.unusedVariables false
set_option linter.unusedSimpArgs false
set_option maxRecDepth 20000
theorem u_buildS1M {P : Program} {K : Kt} {e : Env} {H : AH} {d : Option Nat} {r : Rst} {x y a b : AV} : kBuildS P 1 r e H K d (some 2) (some [a, b]) [(0, .agg [x, y])] = kNew P (fun b => .sl b 0 1 (.own 2)) r e H K d [x, y] := by
  simp [kBuildS, aFill, reps, splice, AV.sure, AV.cells]
theorem u_fill0 {pl : Nat → Option (Nat × Nat)} {z : List AV} : aFill pl z [] = some z := rfl
theorem c_Canonical (A : Alg) {p m cols : Int} {md v : AV} {mod : List Int} {us : List AV} {rows : List (List Int)} {H : AH} {Q : AV → AH → Prop} (hm : Ints H md mod) (hlm : mod.length ≤ 9223372036854775807) (hv : Rows H v us rows) (hl : rows.length ≤ 9223372036854775807) (hlr : ∀ i, i < rows.length → (rowAt rows i).length ≤ 9223372036854775807)
    (hQ1 : ∀ lv pv us' H', Ext H H' → matErr p m mod cols rows = 0 → Rows H' lv us' (canon (fF p m mod) rows cols.toNat).1 → Ints H' pv (natsI (canon (fF p m mod) rows cols.toNat).2) → Q (.tup [.agg [.int .i64 cols, lv], pv, .int .i64 0]) H')
    (hQ0 : ∀ H', Ext H H' → matErr p m mod cols rows ≠ 0 → Q (.tup [.agg [.int .i64 0, .nils], .nils, .int .i64 (matErr p m mod cols rows)]) H') :
    AC Try.prog 83 [.agg [.int .i64 p, .int .i64 m, md], .agg [.int .i64 cols, v]] H Q := by
  have hsl := isSl_one hv.sl.isSl
  refine at83 (by simp) ?_
  simp (disch := first | assumption | omega) only [↓RP, RQ, TY, loadT, s83, reduceIte, Nat.reduceEqDiff, Nat.reduceAdd]
  refine kNew_intro fun b1 H1 hb1 hE1 hH1 => ?_
  simp (disch := first | assumption | omega) only [↓RP, RQ, TY, loadT, reduceIte, Nat.reduceEqDiff, Nat.reduceAdd]
  refine kNew_intro fun b2 H2 hb2 hE2 hH2 => ?_
  simp (disch := first | assumption | omega) only [↓RP, RQ, TY, loadT, reduceIte, Nat.reduceEqDiff, Nat.reduceAdd]
  refine kNew_intro fun b3 H3 hb3 hE3 hH3 => ?_
  have h13 := hE3.rw (hE2.rw hH1)
  have h23 := hE3.rw hH2
  have hE03 := (hE1.trans hE2).trans hE3
  have f3 := (hE1.trans hE2).free hb3
  simp (disch := first | assumption | omega) only [↓RP, RQ, TY, loadT, reduceIte, Nat.reduceEqDiff, Nat.reduceAdd, h13, h23, u_buildS1M]
  refine kNew_intro fun b4 H4 hb4 hE4 hH4 => ?_
  have hE04 := hE03.trans hE4
  simp (disch := first | assumption | omega) only [↓RP, RQ, TY, loadT, reduceIte, Nat.reduceEqDiff, Nat.reduceAdd]
  refine c_openP A.gi (hm.ext hE04) hlm hH4 (hv.ext hE04) hl hlr (fun bg H5 hE5 he hg => ?_) (fun H5 hE5 he => ?_)
  rotate_left
  · have h35 := hE5.rw (hE4.rw hH3)
    simp (disch := first | assumption | omega) only [↓RP, RQ, TY, loadT, reduceIte, Nat.reduceEqDiff, Nat.reduceAdd, eq_false he, h35, u_fill0, u_st2 (x := .int .i64 0) (y := .nils) h35 rfl rfl, aRes, aResL, aRes1, Option.map_some]
    exact hQ0 _ ((hE04.trans hE5).upd f3 _) he
  obtain ⟨o1, o2, o3, o4, o5, o6⟩ := mat_ok he
  have h25 := hE5.rw (hE4.rw h23)
  have h35 := hE5.rw (hE4.rw hH3)
  have hE05 := hE04.trans hE5
  obtain ⟨c, rfl⟩ : ∃ c : Nat, cols = c := ⟨cols.toNat, by omega⟩
  rw [Int.toNat_natCast] at o5 hQ1
  simp (disch := first | assumption | omega) only [↓RP, RQ, TY, loadT, reduceIte, Nat.reduceEqDiff, Nat.reduceAdd, Int.reduceEq, Int.reduceNe, h25]
  refine c_canonP A hg o1 (hv.ext hE05) o5 o6 (by omega) (by omega) (Nat.le_refl _) fun lv pv us' H6 hE6 hr6 hp6 of1 of2 of3 => ?_
  have h26 := hE6.rw h25
  have h36 := hE6.rw h35
  have i1 : (AV.int .i64 (c : Int)).one = true := rfl
  have i2 := isSl_one hr6.sl.isSl
  simp (disch := first | assumption | omega) only [↓RP, RQ, TY, loadT, reduceIte, Nat.reduceEqDiff, Nat.reduceAdd, h26, h36, fill_mat hr6.sl.isSl, u_st2 h36 i1 i2, aRes, aResL, aRes1, Option.map_some]
  refine hQ1 _ _ us' _ ((hE05.trans hE6).upd f3 _) he ?_ ?_
  · exact hr6.updOff of1 of2 (by rw [h35]; exact fun q => by cases q) _
  · exact hp6.updOff of3 (by rw [h35]; exact fun q => by cases q) _
end Go.Proofs.Yteijojnahpeglaa.AM
/-! The program's spaces and codes: Check. -/
namespace Go.Proofs.Yteijojnahpeglaa.AM
open Go Go.RowKit
set_option linter.unusedVariables false
set_option linter.unusedSimpArgs false
set_option maxRecDepth 20000
theorem fill_view {g x y a b c d v : AV} (hv : v.isSl = true) (hg : g.one = true) : aFill (fun i => [(0, 1), (1, 2), (3, 1)][i]?) [a, b, c, d] [(0, g), (1, .agg [x, y]), (2, v)] = some [g, x, y, v] := by
  cases v <;> cases g <;> first | rfl | (simp [AV.isSl] at hv; done) | (simp [AV.one] at hg; done)
theorem u_st4 {P : Program} {K : Kt} {e : Env} {H : AH} {d : Option Nat} {r : Rst} {ds : List Nat} {blk : Nat} {a b c f x y z w : AV} (h : H blk = .rw [a, b, c, f]) (hx : x.one = true) (hy : y.one = true) (hz : z.one = true) (hw : w.one = true) :
    kStore P ds (some 4) r e H K d (.ptr blk 0) (.agg [x, y, z, w]) = kRet P ds r e (H.upd blk (.rw [x, y, z, w])) K d (.tup []) :=
  u_stAgg h rfl (fun v hv => by simp at hv; rcases hv with rfl | rfl | rfl | rfl <;> assumption)
theorem canon_ok {F : FOps} {n cols : Nat} {rows : List (List Int)} (hr : Rect n rows) : (canon F rows cols).1.length ≤ rows.length ∧ ∀ i, i < (canon F rows cols).1.length → (rowAt (canon F rows cols).1 i).length = n := by
  have hl := elim_length (F := F) rows cols
  refine ⟨by rw [canon]; simp [hl]; omega, fun i hi => ?_⟩
  have h5 := elim_rect (F := F) hr cols i
  rw [canon] at hi ⊢
  dsimp only at hi ⊢
  rw [List.length_take] at hi
  rw [rowAt_take (by omega), h5 (by omega)]
theorem c_sopen (A : Alg) {p m cols : Int} {md v : AV} {mod : List Int} {us : List AV} {rows : List (List Int)} {H : AH} {Q : AV → AH → Prop} (hm : Ints H md mod) (hlm : mod.length ≤ 9223372036854775807) (hv : Rows H v us rows) (hl : rows.length ≤ 9223372036854775807) (hlr : ∀ i, i < rows.length → (rowAt rows i).length ≤ 9223372036854775807)
    (hQ : ∀ x y z w H', Ext H H' → x.one = true → y.one = true → z.one = true → w.one = true → Q (.tup [.agg [x, y, z, w], .int .i64 (spcErr p m mod cols rows)]) H') :
    AC Try.prog 65 [.agg [.int .i64 p, .int .i64 m, md], .agg [.int .i64 cols, v]] H Q := by
  have hsl := isSl_one hv.sl.isSl
  refine at65 (by simp) ?_
  simp (disch := first | assumption | omega) only [↓RP, RQ, TY, loadT, s65, reduceIte, Nat.reduceEqDiff, Nat.reduceAdd]
  refine kNew_intro fun b1 H1 hb1 hE1 hH1 => ?_
  simp (disch := first | assumption | omega) only [↓RP, RQ, TY, loadT, reduceIte, Nat.reduceEqDiff, Nat.reduceAdd]
  refine kNew_intro fun b2 H2 hb2 hE2 hH2 => ?_
  simp (disch := first | assumption | omega) only [↓RP, RQ, TY, loadT, reduceIte, Nat.reduceEqDiff, Nat.reduceAdd]
  refine kNew_intro fun b3 H3 hb3 hE3 hH3 => ?_
  have h13 := hE3.rw (hE2.rw hH1)
  have h23 := hE3.rw hH2
  have hE03 := (hE1.trans hE2).trans hE3
  have f3 := (hE1.trans hE2).free hb3
  simp (disch := first | assumption | omega) only [↓RP, RQ, TY, loadT, reduceIte, Nat.reduceEqDiff, Nat.reduceAdd, h13, h23]
  refine c_Canonical A (hm.ext hE03) hlm (hv.ext hE03) hl hlr (fun lv pv us' H4 hE4 he hr4 hp4 => ?_) (fun H4 hE4 he => ?_)
  rotate_left
  · have h34 := hE4.rw hH3
    simp (disch := first | assumption | omega) only [↓RP, RQ, TY, loadT, reduceIte, Nat.reduceEqDiff, Nat.reduceAdd]
    refine kNew_intro fun b5 H5 hb5 hE5 hH5 => ?_
    have hE05 := (hE03.trans hE4).trans hE5
    simp (disch := first | assumption | omega) only [↓RP, RQ, TY, loadT, reduceIte, Nat.reduceEqDiff, Nat.reduceAdd, u_st2 (x := .int .i64 0) (y := .nils) hH5 rfl rfl]
    have hE6 := hE5.upd hb5 (.rw [.int .i64 0, .nils])
    have h36 := hE6.rw h34
    generalize H5.upd b5 (.rw [.int .i64 0, .nils]) = H6 at *
    simp (disch := first | assumption | omega) only [↓RP, RQ, TY, loadT, reduceIte, Nat.reduceEqDiff, Nat.reduceAdd, eq_false he, u_fill0, u_st4 (x := .nilp) (y := .int .i64 0) (z := .nils) (w := .nils) h36 rfl rfl rfl rfl, aRes, aResL, aRes1, Option.map_some]
    have := hQ .nilp (.int .i64 0) .nils .nils _ (((hE03.trans hE4).trans hE6).upd f3 (.rw [.nilp, .int .i64 0, .nils, .nils])) rfl rfl rfl rfl
    rwa [spcErr, if_pos he] at this
  obtain ⟨o1, o2, o3, o4, o5, o6⟩ := mat_ok he
  have h34 := hE4.rw hH3
  have h24 := hE4.rw h23
  have h14 := hE4.rw h13
  have i1 : (AV.int .i64 cols).one = true := rfl
  have i2 := isSl_one hr4.sl.isSl
  have i3 := isSl_one hp4.isSl
  simp (disch := first | assumption | omega) only [↓RP, RQ, TY, loadT, reduceIte, Nat.reduceEqDiff, Nat.reduceAdd]
  refine kNew_intro fun b5 H5 hb5 hE5 hH5 => ?_
  have hE05 := (hE03.trans hE4).trans hE5
  simp (disch := first | assumption | omega) only [↓RP, RQ, TY, loadT, reduceIte, Nat.reduceEqDiff, Nat.reduceAdd, u_st2 hH5 i1 i2]
  have hE6 := hE5.upd hb5 (.rw [.int .i64 cols, lv])
  have h56 : (H5.upd b5 (.rw [.int .i64 cols, lv])) b5 = .rw [.int .i64 cols, lv] := updEq
  have h36 := hE6.rw h34
  have h26 := hE6.rw h24
  have h16 := hE6.rw h14
  generalize H5.upd b5 (.rw [.int .i64 cols, lv]) = H6 at *
  have hE06 := (hE03.trans hE4).trans hE6
  simp (disch := first | assumption | omega) only [↓RP, RQ, TY, loadT, reduceIte, Nat.reduceEqDiff, Nat.reduceAdd, Int.reduceEq, Int.reduceNe, h56, h26]
  obtain ⟨k1, k2⟩ := canon_ok (F := fF p m mod) (cols := cols.toNat) o5
  refine c_EqualFunc (hr4.ext hE6) (hv.ext hE06) (by omega) (by omega) (fun i hi => by rw [k2 i hi]; omega) (fun i hi => by rw [o5 i hi]; omega) ?_
  by_cases heq : (canon (fF p m mod) rows cols.toNat).1 = rows
  rotate_left
  · simp (disch := first | assumption | omega) only [↓RP, RQ, TY, loadT, reduceIte, Nat.reduceEqDiff, Nat.reduceAdd, eq_false heq, u_fill0, u_st4 (x := .nilp) (y := .int .i64 0) (z := .nils) (w := .nils) h36 rfl rfl rfl rfl, aRes, aResL, aRes1, Option.map_some]
    have := hQ .nilp (.int .i64 0) .nils .nils _ (hE06.upd f3 (.rw [.nilp, .int .i64 0, .nils, .nils])) rfl rfl rfl rfl
    rwa [spcErr, if_neg (by simpa using he), if_neg heq] at this
  simp (disch := first | assumption | omega) only [↓RP, RQ, TY, loadT, reduceIte, Nat.reduceEqDiff, Nat.reduceAdd, eq_true heq, h16]
  refine c_New A.gi (hm.ext hE06) hlm (fun bg H7 hE7 hF hg => ?_) (fun H7 hE7 hF => absurd o1 hF)
  have h37 := hE7.rw h36
  have h27 := hE7.rw h26
  have i4 : (AV.ptr bg 0).one = true := rfl
  simp (disch := first | assumption | omega) only [↓RP, RQ, TY, loadT, reduceIte, Nat.reduceEqDiff, Nat.reduceAdd, h27, fill_view hp4.isSl i4, u_st4 h37 i4 i1 hsl i3, aRes, aResL, aRes1, Option.map_some]
  have := hQ (.ptr bg 0) (.int .i64 cols) v pv _ ((hE06.trans hE7).upd f3 (.rw [.ptr bg 0, .int .i64 cols, v, pv])) i4 i1 hsl i3
  rwa [spcErr, if_neg (by simpa using he), if_pos heq] at this
theorem c_sCheck (A : Alg) {p m cols : Int} {md v : AV} {mod : List Int} {us : List AV} {rows : List (List Int)} {H : AH} {Q : AV → AH → Prop} (hm : Ints H md mod) (hlm : mod.length ≤ 9223372036854775807) (hv : Rows H v us rows) (hl : rows.length ≤ 9223372036854775807) (hlr : ∀ i, i < rows.length → (rowAt rows i).length ≤ 9223372036854775807)
    (hQ : ∀ H', Ext H H' → Q (.int .i64 (spcErr p m mod cols rows)) H') :
    AC Try.prog 47 [.agg [.int .i64 p, .int .i64 m, md], .agg [.int .i64 cols, v]] H Q := by
  refine at47 (by simp) ?_
  simp (disch := first | assumption | omega) only [↓RP, RQ, TY, loadT, s47, reduceIte, Nat.reduceEqDiff, Nat.reduceAdd]
  refine kNew_intro fun b1 H1 hb1 hE1 hH1 => ?_
  simp (disch := first | assumption | omega) only [↓RP, RQ, TY, loadT, reduceIte, Nat.reduceEqDiff, Nat.reduceAdd]
  refine kNew_intro fun b2 H2 hb2 hE2 hH2 => ?_
  have hE12 := hE1.trans hE2
  simp (disch := first | assumption | omega) only [↓RP, RQ, TY, loadT, reduceIte, Nat.reduceEqDiff, Nat.reduceAdd, hE2.rw hH1, hH2]
  refine c_sopen A (hm.ext hE12) hlm (hv.ext hE12) hl hlr fun x y z w H3 hE3 hx hy hz hw => ?_
  simp (disch := first | assumption | omega) only [↓RP, RQ, TY, loadT, reduceIte, Nat.reduceEqDiff, Nat.reduceAdd]
  refine kNew_intro fun b4 H4 hb4 hE4 hH4 => ?_
  simp (disch := first | assumption | omega) only [↓RP, RQ, TY, loadT, reduceIte, Nat.reduceEqDiff, Nat.reduceAdd, u_st4 hH4 hx hy hz hw]
  exact hQ _ ((hE12.trans hE3).trans (hE4.upd hb4 _))
theorem c_clen {n : Int} {H : AH} {Q : AV → AH → Prop} (hQ : Q (.int .i64 (if n < 1 ∨ 64 < n then 4 else 0)) H) : AC Try.prog 46 [.int .i64 n] H Q := by
  refine at46 (by simp) ?_
  by_cases c1 : n < 1
  · rw [if_pos (.inl c1)] at hQ
    simp (disch := first | assumption | omega) only [↓RP, RQ, TY, loadT, s46, reduceIte, Nat.reduceEqDiff, Nat.reduceAdd, c1]
    exact hQ
  by_cases c2 : 64 < n
  · rw [if_pos (.inr c2)] at hQ
    simp (disch := first | assumption | omega) only [↓RP, RQ, TY, loadT, s46, reduceIte, Nat.reduceEqDiff, Nat.reduceAdd, c1, c2]
    exact hQ
  rw [if_neg (by omega)] at hQ
  simp (disch := first | assumption | omega) only [↓RP, RQ, TY, loadT, s46, reduceIte, Nat.reduceEqDiff, Nat.reduceAdd, c1, c2]
  exact hQ
theorem c_gen {p m n : Int} {md v : AV} {H : AH} {Q : AV → AH → Prop} (hv : v.isSl = true) (hQ : ∀ H', Ext H H' → Q (.agg [.int .i64 n, v]) H') : AC Try.prog 42 [codeV p m md n v] H Q := by
  have i1 : (AV.int .i64 n).one = true := rfl
  have i2 := isSl_one hv
  refine at42 (by simp) ?_
  simp (disch := first | assumption | omega) only [↓RP, RQ, TY, loadT, s42, reduceIte, Nat.reduceEqDiff, Nat.reduceAdd]
  refine kNew_intro fun b1 H1 hb1 hE1 hH1 => ?_
  simp (disch := first | assumption | omega) only [↓RP, RQ, TY, loadT, reduceIte, Nat.reduceEqDiff, Nat.reduceAdd]
  refine kNew_intro fun b2 H2 hb2 hE2 hH2 => ?_
  simp (disch := first | assumption | omega) only [↓RP, RQ, TY, loadT, reduceIte, Nat.reduceEqDiff, Nat.reduceAdd, hE2.rw hH1, fill_mat hv, u_st2 hH2 i1 i2, aRes, aResL, aRes1, Option.map_some]
  exact hQ _ (hE1.trans (hE2.upd hb2 _))
theorem c_cCheck (A : Alg) {p m n : Int} {md v : AV} {mod : List Int} {us : List AV} {rows : List (List Int)} {H : AH} {Q : AV → AH → Prop} (hm : Ints H md mod) (hlm : mod.length ≤ 9223372036854775807) (hv : Rows H v us rows) (hl : rows.length ≤ 9223372036854775807) (hlr : ∀ i, i < rows.length → (rowAt rows i).length ≤ 9223372036854775807)
    (hQ : ∀ H', Ext H H' → Q (.int .i64 (codeErr p m mod n rows)) H') : AC Try.prog 29 [codeV p m md n v] H Q := by
  refine at29 (by simp) ?_
  simp (disch := first | assumption | omega) only [↓RP, RQ, TY, loadT, s29, reduceIte, Nat.reduceEqDiff, Nat.reduceAdd]
  refine kNew_intro fun b H1 hb hE1 hH1 => ?_
  simp (disch := first | assumption | omega) only [↓RP, RQ, TY, loadT, reduceIte, Nat.reduceEqDiff, Nat.reduceAdd, hH1]
  refine c_CheckF A.gi (hm.ext hE1) hlm fun H2 hE2 => ?_
  have hE12 := hE1.trans hE2
  have h12 := hE2.rw hH1
  by_cases hF : FieldOk p m mod
  rotate_left
  · simp (disch := first | assumption | omega) only [↓RP, RQ, TY, loadT, reduceIte, Nat.reduceEqDiff, Nat.reduceAdd, hF, Int.reduceEq, Int.reduceNe]
    have := hQ H2 hE12
    rwa [codeErr, if_pos hF] at this
  simp (disch := first | assumption | omega) only [↓RP, RQ, TY, loadT, reduceIte, Nat.reduceEqDiff, Nat.reduceAdd, hF, Int.reduceEq, Int.reduceNe, h12]
  refine c_clen ?_
  by_cases c1 : n < 1 ∨ 64 < n
  · simp (disch := first | assumption | omega) only [↓RP, RQ, TY, loadT, reduceIte, Nat.reduceEqDiff, Nat.reduceAdd, eq_true c1, Int.reduceEq, Int.reduceNe]
    have := hQ H2 hE12
    rwa [codeErr, if_neg (by simpa using hF), if_pos c1] at this
  simp (disch := first | assumption | omega) only [↓RP, RQ, TY, loadT, reduceIte, Nat.reduceEqDiff, Nat.reduceAdd, eq_false c1, Int.reduceEq, Int.reduceNe, h12]
  refine c_gen hv.sl.isSl fun H3 hE3 => ?_
  have h13 := hE3.rw h12
  simp (disch := first | assumption | omega) only [↓RP, RQ, TY, loadT, reduceIte, Nat.reduceEqDiff, Nat.reduceAdd, h13]
  refine c_sCheck A (hm.ext (hE12.trans hE3)) hlm (hv.ext (hE12.trans hE3)) hl hlr fun H4 hE4 => ?_
  simp (disch := first | assumption | omega) only [↓RP, RQ, TY, loadT, reduceIte, Nat.reduceEqDiff, Nat.reduceAdd]
  have := hQ H4 ((hE12.trans hE3).trans hE4)
  rwa [codeErr, if_neg (by simpa using hF), if_neg c1] at this
end Go.Proofs.Yteijojnahpeglaa.AM
/-! Lists of slices of the call's own in blocks of their own. -/
namespace Go.Proofs.Yteijojnahpeglaa.AM
open Go Go.RowKit
set_option linter.unusedVariables false
set_option linter.unusedSimpArgs false
set_option maxRecDepth 20000
def blockOf : AV → Option Nat
  | .sl b _ _ _ => some b
  | _ => none
def blocksL (L : List (AV × List AV)) : List Nat := L.filterMap fun x => blockOf x.1
/-- each slice of L is nil or a block made since H0, no two the same block -/
structure Hp (H0 H : AH) (L : List (AV × List AV)) : Prop where
  ext : Ext H0 H
  own : ∀ x, x ∈ L → Own H0 H x.1 x.2
  nd : (blocksL L).Nodup
section
variable {H0 H H' : AH} {L L' : List (AV × List AV)} {x : AV} {us : List AV}
theorem Hp.nil (hE : Ext H0 H) : Hp H0 H [] := ⟨hE, fun x hx => by simp at hx, by simp [blocksL]⟩
theorem Hp.more (h : Hp H0 H L) (hE : Ext H H') : Hp H0 H' L := ⟨h.ext.trans hE, fun x hx => (h.own x hx).ext hE, h.nd⟩
theorem Hp.perm (h : Hp H0 H L) (hp : L.Perm L') : Hp H0 H L' := ⟨h.ext, fun x hx => h.own x (hp.mem_iff.mpr hx), (hp.filterMap _).nodup_iff.mp h.nd⟩
theorem Hp.sub (h : Hp H0 H L) (hs : L'.Sublist L) : Hp H0 H L' := ⟨h.ext, fun x hx => h.own x (hs.subset hx), h.nd.sublist (hs.filterMap _)⟩
theorem Hp.tail (h : Hp H0 H ((x, us) :: L)) : Hp H0 H L := h.sub (List.sublist_cons_self _ _)
theorem Hp.sl (h : Hp H0 H L) {y : AV × List AV} (hy : y ∈ L) : Sl H y.1 y.2 := (h.own y hy).sl
theorem Hp.head (h : Hp H0 H ((x, us) :: L)) : Own H0 H x us := h.own (x, us) (by simp)
theorem Hp.off (h : Hp H0 H ((x, us) :: L)) {y : AV × List AV} (hy : y ∈ L) {b : Nat} (hb : blockOf y.1 = some b) : Off x b := fun o n c q => by
  have := h.nd
  simp only [blocksL, q, List.filterMap_cons, blockOf, List.nodup_cons] at this
  exact this.1 (List.mem_filterMap.mpr ⟨y, hy, hb⟩)
theorem Hp.cons (h : Hp H0 H L) (ho : Own H0 H x us) (hoff : ∀ y, y ∈ L → ∀ b, blockOf y.1 = some b → Off x b) : Hp H0 H ((x, us) :: L) := by
  refine ⟨h.ext, fun y hy => ?_, ?_⟩
  · rcases List.mem_cons.mp hy with rfl | hy
    · exact ho
    · exact h.own y hy
  · have hn := h.nd
    simp only [blocksL, List.filterMap_cons] at hn ⊢
    cases hb : blockOf x with
    | none => exact hn
    | some b =>
      dsimp only
      rw [List.nodup_cons]
      refine ⟨fun hm => ?_, hn⟩
      obtain ⟨y, hy, hyb⟩ := List.mem_filterMap.mp hm
      cases x <;> simp only [blockOf] at hb <;> cases hb
      exact hoff y hy b hyb _ _ _ rfl
theorem Hp.nils (h : Hp H0 H L) : Hp H0 H ((.nils, []) :: L) := h.cons Own.nils fun y _ b _ o n c q => by cases q
theorem Hp.blkOf (h : Hp H0 H L) {y : AV × List AV} (hy : y ∈ L) {b : Nat} (hb : blockOf y.1 = some b) : H b = .rw y.2 ∧ H0 b = .free := by
  rcases h.own y hy with ⟨q, -⟩ | ⟨b2, q, q2, q3⟩
  · rw [q] at hb; cases hb
  · rw [q] at hb
    cases hb
    exact ⟨q2, q3⟩
/-- a new block -/
theorem Hp.new (h : Hp H0 H L) {b n : Nat} {cs : List AV} (hb : H b = .free) (hE : Ext H H') (hc : H' b = .rw cs) (hn : n = cs.length) : Hp H0 H' ((.sl b 0 n (.own 1), cs) :: L) :=
  (h.more hE).cons (Own.mk hc (h.ext.free hb) hn) fun y hy b2 hb2 o n c q => by
    cases q
    have := (h.blkOf hy hb2).1
    rw [hb] at this
    cases this
/-- a slice made since then -/
theorem Hp.made {H1 : AH} (h : Hp H0 H L) (hE : Ext H H') (ho : Own H H' x us) : Hp H0 H' ((x, us) :: L) :=
  (h.more hE).cons (ho.old h.ext) fun y hy b hb o n c q => by
    have h1 := (h.blkOf hy hb).1
    have h2 := ho.offH _ _ _ _ q
    rw [h1] at h2
    cases h2
theorem Hp.upd {b n : Nat} {c : Cap} {us' : List AV} (h : Hp H0 H ((.sl b 0 n c, us) :: L)) (hl : us'.length = us.length) : Hp H0 (H.upd b (.rw us')) ((.sl b 0 n c, us') :: L) := by
  have ho := h.head
  have hoff := fun y hy b2 hb2 => h.off (y := y) hy (b := b2) hb2
  rcases ho with ⟨q, -⟩ | ⟨b2, q, q2, q3⟩
  · cases q
  cases q
  have ht := h.tail
  have h' : Hp H0 (H.upd b (.rw us')) L := by
    refine ⟨ht.ext.upd q3 _, fun y hy => ?_, ht.nd⟩
    rcases ht.own y hy with w | ⟨b2, w1, w2, w3⟩
    · exact .inl w
    · refine .inr ⟨b2, w1, ?_, w3⟩
      have : b2 ≠ b := fun e => by
        have := hoff y hy b2 (by rw [w1]; rfl)
        exact this 0 _ _ (by rw [e])
      simp [AH.upd, this, w2]
  exact h'.cons (.inr ⟨b, by rw [hl], by simp [AH.upd], q3⟩) hoff
/-- append -/
theorem kApp_hp {P : Program} {K : Kt} {e : Env} {d : Option Nat} {r : Rst} {ds : List Nat} {by_ : Nat} {y z : AV} {zs : List AV} (h : Hp H0 H ((x, zs) :: L)) (hy : Sl H y us) (hu : ∀ u, u ∈ us → u.one = true) (hl : (zs.length + us.length) * by_ ≤ 140737488355328) (hl' : zs.length + us.length ≤ 140737488355328)
    (hk : ∀ v H', Hp H0 H' ((v, zs ++ us) :: L) → kRet P ds r e H' K d v) : kApp P ds (some 1) (some by_) (some [z]) r e H K d x y := by
  refine kApp_own h.head h.ext hy hu hl hl' fun v H' hE ho keep => hk v H' ?_
  have ht := h.tail
  have hk' : ∀ w, w ∈ L → ∀ b, blockOf w.1 = some b → H' b = .rw w.2 ∧ Off v b := fun w hw b hb => keep b _ (ht.blkOf hw hb).1 (h.off hw hb)
  refine Hp.cons ⟨hE, fun w hw => ?_, ht.nd⟩ ho fun w hw b hb => (hk' w hw b hb).2
  rcases ht.own w hw with q | ⟨b, q1, q2, q3⟩
  · exact .inl q
  · exact .inr ⟨b, q1, (hk' w hw b (by rw [q1]; rfl)).1, q3⟩
end
/-- rows, each a slice of its own -/
def rowsL : List AV → List (List Int) → List (AV × List AV)
  | w :: ws, r :: l => (w, ints r) :: rowsL ws l
  | _, _ => []
theorem rowsL_mem : ∀ {ws : List AV} {l : List (List Int)} {i : Nat}, ws.length = l.length → i < l.length → (ws.getD i .junk, ints (rowAt l i)) ∈ rowsL ws l
  | [], [], i, _, h => by simp at h
  | w :: ws, r :: l, 0, _, _ => by simp [rowsL, rowAt]
  | w :: ws, r :: l, i + 1, hl, h => by
    have := rowsL_mem (ws := ws) (l := l) (i := i) (by simpa using hl) (by simpa using h)
    simp only [rowsL, List.mem_cons]
    right
    simpa [rowAt] using this
  | [], _ :: _, _, h, _ => by simp at h
  | _ :: _, [], _, h, _ => by simp at h
theorem rowsL_app : ∀ {ws : List AV} {l : List (List Int)} (w : AV) (r : List Int), ws.length = l.length → rowsL (ws ++ [w]) (l ++ [r]) = rowsL ws l ++ [(w, ints r)]
  | [], [], w, r, _ => rfl
  | a :: ws, b :: l, w, r, h => by
    have := rowsL_app (ws := ws) (l := l) w r (by simpa using h)
    simp only [List.cons_append, rowsL, this]
  | [], _ :: _, _, _, h => by simp at h
  | _ :: _, [], _, _, h => by simp at h
end Go.Proofs.Yteijojnahpeglaa.AM
/-! The program's information sets, first part: IndexFunc, basis.add. -/
namespace Go.Proofs.Yteijojnahpeglaa.AM
open Go Go.RowKit
set_option linter.unusedVariables false
set_option linter.unusedSimpArgs false
set_option maxRecDepth 20000
/-- the index of the first nonzero entry, or the length -/
def firstV : List Int → Nat
  | [] => 0
  | x :: xs => if x ≠ 0 then 0 else firstV xs + 1
theorem firstV_le : ∀ xs, firstV xs ≤ xs.length
  | [] => Nat.le_refl _
  | x :: xs => by
    have := firstV_le xs
    rw [firstV]
    split <;> simp <;> omega
theorem firstV_lt : ∀ {xs : List Int} {i : Nat}, i < firstV xs → xs.getD i 0 = 0
  | [], i, h => by simp [firstV] at h
  | x :: xs, 0, h => by
    rw [firstV] at h
    split at h
    · omega
    · rename_i q; simpa using q
  | x :: xs, i + 1, h => by
    rw [firstV] at h
    split at h
    · omega
    · simpa using firstV_lt (xs := xs) (i := i) (by omega)
theorem firstV_ne : ∀ {xs : List Int}, firstV xs < xs.length → xs.getD (firstV xs) 0 ≠ 0
  | [], h => by simp [firstV] at h
  | x :: xs, h => by
    rw [firstV] at h ⊢
    split
    · rename_i q; simpa using q
    · rename_i q
      rw [if_neg q] at h
      simpa using firstV_ne (xs := xs) (by simpa using h)
theorem firstV_eq {xs : List Int} {k : Nat} (hk : k ≤ xs.length) (h1 : ∀ i, i < k → xs.getD i 0 = 0) (h2 : k < xs.length → xs.getD k 0 ≠ 0) : firstV xs = k := by
  have g1 := firstV_le xs
  rcases Nat.lt_trichotomy (firstV xs) k with h | h | h
  · exact absurd (h1 _ h) (firstV_ne (by omega))
  · exact h
  · exact absurd (firstV_lt h) (h2 (by omega))
theorem c_nz {x : Int} {H : AH} {Q : AV → AH → Prop} (hQ : Q (.bool (decide (x ≠ 0))) H) : AC Try.prog 115 [.int .i64 x] H Q := by
  refine at115 (by simp) ?_
  simp (disch := first | assumption | omega) only [↓RP, RQ, TY, loadT, s115, reduceIte, Nat.reduceEqDiff, Nat.reduceAdd]
  exact hQ
theorem c_IndexFunc {v : AV} {xs : List Int} {H : AH} {Q : AV → AH → Prop} (hv : Ints H v xs) (hl : xs.length ≤ 9223372036854775807)
    (hQ : Q (.int .i64 (if firstV xs < xs.length then (firstV xs : Int) else -1)) H) : AC Try.prog 114 [v, .fn 115 []] H Q := by
  refine at114 (by simp) ?_
  simp (disch := first | assumption | omega) only [↓RP, RQ, TY, loadT, s114, reduceIte, Nat.reduceEqDiff, Nat.reduceAdd, hv.ints]
  refine sw_loop (σ := Nat) (fun i e H' => e 8 = .int .i64 i ∧ e 7 = .int .i64 xs.length ∧ e 0 = v ∧ e 1 = .fn 115 [] ∧ i ≤ xs.length ∧ H' = H ∧ ∀ j, j < i → xs.getD j 0 = 0) (fun i => xs.length - i) 0 ?_ ?_
  · simp (disch := first | assumption | omega) only [↓RP, RQ, TY, loadT, reduceIte, Nat.reduceEqDiff, Nat.reduceAdd]
    exact ⟨by omega, fun j hj => by omega⟩
  rintro i e H' ⟨e8, e7, e0, e1, hi, rfl, hj⟩
  by_cases hlt : (i : Int) < xs.length
  · simp (disch := first | assumption | omega) only [↓RP, RQ, TY, loadT, reduceIte, Nat.reduceEqDiff, Nat.reduceAdd, e8, e7, e0, e1, hlt, hv.ints]
    refine c_nz ?_
    by_cases hz : xs.getD i 0 = 0
    · simp (disch := first | assumption | omega) only [↓RP, RQ, TY, loadT, reduceIte, Nat.reduceEqDiff, Nat.reduceAdd, e8, e7, e0, e1, hz]
      refine ⟨i + 1, ?_, by dsimp only; omega⟩
      simp (disch := first | assumption | omega) only [↓RP, RQ, TY, loadT, reduceIte, Nat.reduceEqDiff, Nat.reduceAdd, e8, e7, e0, e1]
      refine ⟨by omega, fun j h => ?_⟩
      by_cases hji : j = i
      · rw [hji]; exact hz
      · exact hj j (by omega)
    · simp (disch := first | assumption | omega) only [↓RP, RQ, TY, loadT, reduceIte, Nat.reduceEqDiff, Nat.reduceAdd, e8, e7, e0, e1, hz]
      have := firstV_eq (xs := xs) (k := i) (by omega) hj (fun _ => hz)
      rwa [this, if_pos (by omega)] at hQ
  · simp (disch := first | assumption | omega) only [↓RP, RQ, TY, loadT, reduceIte, Nat.reduceEqDiff, Nat.reduceAdd, e8, e7, e0, e1, hlt]
    have := firstV_eq (xs := xs) (k := i) (by omega) hj (fun q => by omega)
    rwa [this, if_neg (by omega)] at hQ
/-- x times a row is taken away -/
def subRow (F : FOps) (v : List Int) (x : Int) (row : List Int) : List Int := tabN v.length fun j => F.add (v.getD j 0) (F.neg (F.mul x (row.getD j 0)))
def redStep (F : FOps) (l : List (List Int)) (places : List Nat) (i : Nat) (v : List Int) : List Int :=
  if v.getD (places.getD i 0) 0 ≠ 0 then subRow F v (v.getD (places.getD i 0) 0) (rowAt l i) else v
/-- reduced by a basis -/
def redB (F : FOps) (l : List (List Int)) (places : List Nat) (v : List Int) : List Int := uptoN (redStep F l places) l.length v
/-- a basis takes a vector -/
def bTake (F : FOps) (l : List (List Int)) (places : List Nat) (v : List Int) : List (List Int) × List Nat :=
  if firstV (redB F l places v) < (redB F l places v).length then (l ++ [scaleL F (F.inv ((redB F l places v).getD (firstV (redB F l places v)) 0)) (redB F l places v)], places ++ [firstV (redB F l places v)]) else (l, places)
theorem subRow_length (F : FOps) (v : List Int) (x : Int) (row : List Int) : (subRow F v x row).length = v.length := tabN_length _ _
theorem redStep_ok {F : FOps} (h : F.Ok) {n : Nat} {l : List (List Int)} {places : List Nat} (he : Els F l) (i : Nat) {v : List Int} (hv : v.length = n ∧ ∀ j, F.El (v.getD j 0)) : (redStep F l places i v).length = n ∧ ∀ j, F.El ((redStep F l places i v).getD j 0) := by
  rw [redStep]
  split
  · refine ⟨by rw [subRow_length, hv.1], fun j => ?_⟩
    by_cases hj : j < v.length
    · rw [subRow, tabN_getD _ hj]
      exact h.add_el (hv.2 j) (h.neg_el (h.mul_el (hv.2 _) (he i j)))
    · rw [getD_len _ (by rw [subRow_length]; omega)]; exact h.el0
  · exact hv
theorem red_ok {F : FOps} (h : F.Ok) {n : Nat} {l : List (List Int)} {places : List Nat} (he : Els F l) {v : List Int} (hv : v.length = n ∧ ∀ j, F.El (v.getD j 0)) : ∀ i, (uptoN (redStep F l places) i v).length = n ∧ ∀ j, F.El ((uptoN (redStep F l places) i v).getD j 0)
  | 0 => hv
  | i + 1 => redStep_ok h he i (red_ok h he hv i)
theorem swap2 {α : Type} (a b : α) (l : List α) : (a :: b :: l).Perm (b :: a :: l) := List.Perm.swap b a l
theorem c_badd (A : Alg) {bg bb bv : Nat} {p m : Int} {mod : List Int} {rv pv : AV} {ws : List AV} {l : List (List Int)} {places : List Nat} {xs : List Int} {n : Nat} {R : List (AV × List AV)} {H0 H : AH} {Q : AV → AH → Prop}
    (hg : GFA H0 bg p m mod) (hF : FieldOk p m mod) (hr : Rect n l) (he : Els (fF p m mod) l) (hx : xs.length = n ∧ ∀ j, (fF p m mod).El (xs.getD j 0)) (hp : ∀ i, i < l.length → places.getD i 0 < n) (hpl : places.length = l.length) (hwl : ws.length = l.length) (hn : n ≤ 1000) (hl : l.length ≤ 1000)
    (hsl : ∀ u, u ∈ ws → u.isSl = true)
    (hH : Hp H0 H ((.sl bv 0 n (.own 1), ints xs) :: (.sl bb 0 3 (.own 1), [.ptr bg 0, rv, pv]) :: (rv, ws) :: (pv, ints (natsI places)) :: (rowsL ws l ++ R)))
    (hQ : ∀ rv' pv' ws' H', ws'.length = (bTake (fF p m mod) l places xs).1.length → (∀ u, u ∈ ws' → u.isSl = true) →
      Hp H0 H' ((.sl bb 0 3 (.own 1), [.ptr bg 0, rv', pv']) :: (rv', ws') :: (pv', ints (natsI (bTake (fF p m mod) l places xs).2)) :: (rowsL ws' (bTake (fF p m mod) l places xs).1 ++ R)) →
      Q (.bool (decide (firstV (redB (fF p m mod) l places xs) < n))) H') :
    AC Try.prog 106 [.ptr bb 0, .sl bv 0 n (.own 1)] H Q := by
  have ok := A.fo _ _ _ hF
  have hbb := (hH.blkOf (y := (.sl bb 0 3 (.own 1), [.ptr bg 0, rv, pv])) (by simp) rfl).1
  have nbv : bb ≠ bv := fun q => hH.off (y := (.sl bb 0 3 (.own 1), [.ptr bg 0, rv, pv])) (by simp) (b := bb) rfl _ _ _ (by rw [q])
  dsimp only at hbb
  have hrs := (hH.sl (y := (rv, ws)) (by simp)).run
  have hps := (hH.sl (y := (pv, ints (natsI places))) (by simp))
  have hpi := Sl.ints hps
  dsimp only at hrs hpi
  rw [natsI_length] at hpi
  refine at106 (by simp) ?_
  simp (disch := first | assumption | omega) only [↓RP, RQ, TY, loadT, s106, reduceIte, Nat.reduceEqDiff, Nat.reduceAdd, hbb, hrs.1]
  refine sw_loop (σ := Nat) (fun i e H' => e 18 = .int .i64 i ∧ e 17 = .int .i64 l.length ∧ e 16 = rv ∧ e 0 = .ptr bb 0 ∧ e 1 = .sl bv 0 n (.own 1) ∧ i ≤ l.length ∧
    Hp H0 H' ((.sl bv 0 n (.own 1), ints (uptoN (redStep (fF p m mod) l places) i xs)) :: (.sl bb 0 3 (.own 1), [.ptr bg 0, rv, pv]) :: (rv, ws) :: (pv, ints (natsI places)) :: (rowsL ws l ++ R))) (fun i => l.length - i) 0 ?_ ?_
  · simp (disch := first | assumption | omega) only [↓RP, RQ, TY, loadT, reduceIte, Nat.reduceEqDiff, Nat.reduceAdd, hwl]
    exact ⟨by omega, hH⟩
  rintro i e H' ⟨e18, e17, e16, e0, e1, hi, hHi⟩
  obtain ⟨u1, u2⟩ := red_ok (places := places) ok he hx i
  have hstep : uptoN (redStep (fF p m mod) l places) (i + 1) xs = redStep (fF p m mod) l places i (uptoN (redStep (fF p m mod) l places) i xs) := rfl
  generalize hU : uptoN (redStep (fF p m mod) l places) i xs = U at *
  have hbb' := (hHi.blkOf (y := (.sl bb 0 3 (.own 1), [.ptr bg 0, rv, pv])) (by simp) rfl).1
  have hbv' := (hHi.blkOf (y := (.sl bv 0 n (.own 1), ints U)) (by simp) rfl).1
  have hrs' := (hHi.sl (y := (rv, ws)) (by simp)).run
  have hpi' := Sl.ints (hHi.sl (y := (pv, ints (natsI places))) (by simp))
  dsimp only at hbb' hbv' hrs' hpi'
  rw [hwl] at hrs'
  rw [natsI_length] at hpi'
  by_cases hlt : (i : Int) < l.length
  · have hri := hHi.sl (y := (ws.getD i .junk, ints (rowAt l i))) (List.mem_cons_of_mem _ (List.mem_cons_of_mem _ (List.mem_cons_of_mem _ (List.mem_cons_of_mem _ (List.mem_append_left _ (rowsL_mem (ws := ws) (l := l) (i := i) hwl (by omega)))))))
    dsimp only at hri
    have hril := hr i (by omega)
    have hpk := hp i (by omega)
    have gp : (natsI places).getD i 0 = (places.getD i 0 : Nat) := by
      simp [natsI, List.getD_eq_getElem?_getD, show i < places.length by omega]
    by_cases hz : U.getD (places.getD i 0) 0 = 0
    · simp (disch := first | assumption | omega) only [↓RP, RQ, TY, loadT, reduceIte, Nat.reduceEqDiff, Nat.reduceAdd, e18, e17, e16, e0, e1, hlt, hbb', hbv', hrs', hpi', gp, hz]
      refine ⟨i + 1, ?_, by dsimp only; omega⟩
      simp (disch := first | assumption | omega) only [↓RP, RQ, TY, loadT, reduceIte, Nat.reduceEqDiff, Nat.reduceAdd, e18, e17, e16, e0, e1]
      refine ⟨by omega, ?_⟩
      rw [hstep, redStep, if_neg (by simpa using hz)]
      exact hHi
    · simp (disch := first | assumption | omega) only [↓RP, RQ, TY, loadT, reduceIte, Nat.reduceEqDiff, Nat.reduceAdd, e18, e17, e16, e0, e1, hlt, hbb', hbv', hrs', hpi', gp, hz, Sl.ints hri]
      have lT : (subRow (fF p m mod) U (U.getD (places.getD i 0) 0) (rowAt l i)).length = U.length := subRow_length _ _ _ _
      refine sw_loop (σ := Nat) (fun j e H2 => e 37 = .int .i64 j ∧ e 36 = .int .i64 n ∧ e 35 = ws.getD i .junk ∧ e 7 = .int .i64 (U.getD (places.getD i 0) 0) ∧ e 18 = .int .i64 i ∧ e 17 = .int .i64 l.length ∧ e 16 = rv ∧ e 0 = .ptr bb 0 ∧ e 1 = .sl bv 0 n (.own 1) ∧ j ≤ n ∧
        Hp H0 H2 ((.sl bv 0 n (.own 1), ints (mix (subRow (fF p m mod) U (U.getD (places.getD i 0) 0) (rowAt l i)) U j)) :: (.sl bb 0 3 (.own 1), [.ptr bg 0, rv, pv]) :: (rv, ws) :: (pv, ints (natsI places)) :: (rowsL ws l ++ R))) (fun j => n - j) 0 ?_ ?_
      · simp (disch := first | assumption | omega) only [↓RP, RQ, TY, loadT, reduceIte, Nat.reduceEqDiff, Nat.reduceAdd, e18, e17, e16, e0, e1, mix_zero, hril]
        exact ⟨by omega, hHi⟩
      clear hbb' hbv' hrs' hpi' hri hHi
      rintro j e H2 ⟨e37, e36, e35, e7, e18, e17, e16, e0, e1, hj, hHj⟩
      have lM := mix_length lT j
      have hbb' := (hHj.blkOf (y := (.sl bb 0 3 (.own 1), [.ptr bg 0, rv, pv])) (by simp) rfl).1
      have hbv' := (hHj.blkOf (y := (.sl bv 0 n (.own 1), ints (mix (subRow (fF p m mod) U (U.getD (places.getD i 0) 0) (rowAt l i)) U j))) (by simp) rfl).1
      have hri := hHj.sl (y := (ws.getD i .junk, ints (rowAt l i))) (List.mem_cons_of_mem _ (List.mem_cons_of_mem _ (List.mem_cons_of_mem _ (List.mem_cons_of_mem _ (List.mem_append_left _ (rowsL_mem (ws := ws) (l := l) (i := i) hwl (by omega)))))))
      dsimp only at hbb' hbv' hri
      by_cases hjt : (j : Int) < n
      · have gM : (mix (subRow (fF p m mod) U (U.getD (places.getD i 0) 0) (rowAt l i)) U j).getD j 0 = U.getD j 0 := mix_get lT (Nat.le_refl j)
        have gg := hg.ext hHj.ext
        have ey := he i j
        have ex := u2 (places.getD i 0)
        have exy := ok.mul_el ex ey
        have enx := ok.neg_el exy
        have euj := u2 j
        simp (disch := first | assumption | omega) only [↓RP, RQ, TY, loadT, reduceIte, Nat.reduceEqDiff, Nat.reduceAdd, e37, e36, e35, e7, e18, e17, e16, e0, e1, hjt, hbb', hbv', Sl.ints hri, gM]
        refine c_GMul A gg ex.1 ex.2 ey.1 ey.2 ?_
        simp (disch := first | assumption | omega) only [↓RP, RQ, TY, loadT, reduceIte, Nat.reduceEqDiff, Nat.reduceAdd, e37, e36, e35, e7, e18, e17, e16, e0, e1, hjt, hbb', hbv', Sl.ints hri, gM]
        refine c_GSub gg euj.1 euj.2 exy.1 exy.2 ⟨enx.1, enx.2⟩ ?_
        simp (disch := first | assumption | omega) only [↓RP, RQ, TY, loadT, reduceIte, Nat.reduceEqDiff, Nat.reduceAdd, e37, e36, e35, e7, e18, e17, e16, e0, e1, hjt, hbb', hbv', Sl.ints hri, gM]
        refine ⟨j + 1, ?_, by dsimp only; omega⟩
        simp (disch := first | assumption | omega) only [↓RP, RQ, TY, loadT, reduceIte, Nat.reduceEqDiff, Nat.reduceAdd, e37, e36, e35, e7, e18, e17, e16, e0, e1]
        refine ⟨by omega, ?_⟩
        rw [← mix_set lT (by omega)]
        have gT : (subRow (fF p m mod) U (U.getD (places.getD i 0) 0) (rowAt l i)).getD j 0 = fadd p m (U.getD j 0) (fneg p m (fmul p m mod (U.getD (places.getD i 0) 0) (ent l i j))) := by
          rw [subRow, tabN_getD _ (by omega)]; rfl
        rw [gT]
        exact hHj.upd (by simp [ints_length])
      · simp (disch := first | assumption | omega) only [↓RP, RQ, TY, loadT, reduceIte, Nat.reduceEqDiff, Nat.reduceAdd, e37, e36, e35, e7, e18, e17, e16, e0, e1, hjt]
        refine ⟨i + 1, ?_, by dsimp only; omega⟩
        simp (disch := first | assumption | omega) only [↓RP, RQ, TY, loadT, reduceIte, Nat.reduceEqDiff, Nat.reduceAdd, e37, e36, e35, e7, e18, e17, e16, e0, e1]
        refine ⟨by omega, ?_⟩
        rw [hstep, redStep, if_pos (by simpa using hz)]
        rw [mix_full lT (by omega)] at hHj
        exact hHj
  · have hil : i = l.length := by omega
    subst hil
    have hred : redB (fF p m mod) l places xs = U := hU
    have hUi := Sl.ints (Sl.own (c := .own 1) hbv' (show n = (ints U).length by rw [ints_length, u1]))
    simp (disch := first | assumption | omega) only [↓RP, RQ, TY, loadT, reduceIte, Nat.reduceEqDiff, Nat.reduceAdd, e18, e17, e16, e0, e1, hlt]
    refine c_IndexFunc (xs := U) (Sl.own hbv' (by rw [ints_length, u1])) (by omega) ?_
    have fle := firstV_le U
    have hB : bTake (fF p m mod) l places xs = if firstV U < U.length then (l ++ [scaleL (fF p m mod) (finv p m mod (U.getD (firstV U) 0)) U], places ++ [firstV U]) else (l, places) := by
      rw [bTake, hred]; rfl
    rw [hred] at hQ
    by_cases hk : firstV U < U.length
    rotate_left
    · rw [hB, if_neg hk] at hQ
      simp (disch := first | assumption | omega) only [↓RP, RQ, TY, loadT, reduceIte, Nat.reduceEqDiff, Nat.reduceAdd, e18, e17, e16, e0, e1, hk, Int.reduceLT, Int.reduceNeg]
      have := hQ rv pv ws H' hwl hsl hHi.tail
      rwa [decide_eq_false (by omega)] at this
    rw [hB, if_pos hk] at hQ
    have hne := firstV_ne hk
    have elk := u2 (firstV U)
    have k0 : ¬ ((firstV U : Int) < 0) := by omega
    simp (disch := first | assumption | omega) only [↓RP, RQ, TY, loadT, reduceIte, Nat.reduceEqDiff, Nat.reduceAdd, e18, e17, e16, e0, e1, hk, k0, hbb', hbv']
    have gg := hg.ext hHi.ext
    refine c_GInv A gg (show 0 < U.getD (firstV U) 0 by have := elk.1; omega) elk.2 ?_
    simp (disch := first | assumption | omega) only [↓RP, RQ, TY, loadT, reduceIte, Nat.reduceEqDiff, Nat.reduceAdd, e18, e17, e16, e0, e1, hbb', hbv']
    refine c_GScale A gg (ok.inv_el elk) (Sl.own hbv' (by rw [ints_length, u1])) (by omega) u2 fun b1 H1 hb1 hE1 hH1 => ?_
    have hN1 := hHi.new (n := U.length) hb1 hE1 hH1 (by rw [ints_length, scaleL_length])
    have hbb1 := hE1.rw hbb'
    have hs1 : (AV.sl b1 0 U.length (.own 1)).isSl = true := rfl
    simp (disch := first | assumption | omega) only [↓RP, RQ, TY, loadT, reduceIte, Nat.reduceEqDiff, Nat.reduceAdd, e18, e17, e16, e0, e1, hbb1, u_buildS1V]
    refine kNew_intro fun b2 H2 hb2 hE2 hH2 => ?_
    have hN2 := hN1.more hE2
    simp (disch := first | assumption | omega) only [↓RP, RQ, TY, loadT, reduceIte, Nat.reduceEqDiff, Nat.reduceAdd, e18, e17, e16, e0, e1]
    have hP2 := hN2.perm (List.perm_middle (l₁ := [_, _, _]))
    refine kApp_hp hP2 (Sl.own hH2 rfl) (fun u hu => by rw [List.mem_singleton.mp hu]; rfl) (by simp; omega) (by simp; omega) fun v3 H3 hN3 => ?_
    have hP3 := hN3.perm (List.perm_middle (l₁ := [_, _, _]))
    have hbb3 := (hP3.blkOf (y := (.sl bb 0 3 (.own 1), [.ptr bg 0, rv, pv])) (by simp) rfl).1
    dsimp only at hbb3
    have hv3 := (hN3.sl (y := (v3, ws ++ [.sl b1 0 U.length (.own 1)])) (by simp)).isSl
    have l3 : ([.ptr bg 0, rv, pv] : List AV).length = 3 := rfl
    simp (disch := first | assumption | omega) only [↓RP, RQ, TY, loadT, reduceIte, Nat.reduceEqDiff, Nat.reduceAdd, e18, e17, e16, e0, e1, hbb3, u_storeV, u_stGV]
    have hP4 := hP3.upd (us' := [.ptr bg 0, v3, pv]) rfl
    have hset1 : ([.ptr bg 0, rv, pv] : List AV).set 1 v3 = [.ptr bg 0, v3, pv] := rfl
    rw [hset1]
    have hbb4 := (hP4.blkOf (y := (.sl bb 0 3 (.own 1), [.ptr bg 0, v3, pv])) (by simp) rfl).1
    dsimp only at hbb4
    generalize H3.upd bb (.rw [.ptr bg 0, v3, pv]) = H4 at *
    simp (disch := first | assumption | omega) only [↓RP, RQ, TY, loadT, reduceIte, Nat.reduceEqDiff, Nat.reduceAdd, e18, e17, e16, e0, e1, hbb4]
    refine kNew_intro fun b5 H5 hb5 hE5 hH5 => ?_
    have hP5 := (hP4.more hE5).perm (List.perm_middle (l₁ := [_, _, _, _]))
    simp (disch := first | assumption | omega) only [↓RP, RQ, TY, loadT, reduceIte, Nat.reduceEqDiff, Nat.reduceAdd, e18, e17, e16, e0, e1]
    refine kApp_hp (us := ints [(firstV U : Int)]) hP5 (Sl.own hH5 rfl) ints_ones (by simp [ints_length, natsI_length]; omega) (by simp [ints_length, natsI_length]; omega) fun v6 H6 hN6 => ?_
    rw [ints_app, show natsI places ++ [(firstV U : Int)] = natsI (places ++ [firstV U]) by simp [natsI]] at hN6
    have hP6 := hN6.perm (List.perm_middle (l₁ := [_]))
    have hbb6 := (hP6.blkOf (y := (.sl bb 0 3 (.own 1), [.ptr bg 0, v3, pv])) (by simp) rfl).1
    dsimp only at hbb6
    have hv6 := (hN6.sl (y := (v6, ints (natsI (places ++ [firstV U])))) (by simp)).isSl
    have l6 : ([.ptr bg 0, v3, pv] : List AV).length = 3 := rfl
    simp (disch := first | assumption | omega) only [↓RP, RQ, TY, loadT, reduceIte, Nat.reduceEqDiff, Nat.reduceAdd, e18, e17, e16, e0, e1, hbb6, u_storeV, u_stGV]
    have hset2 : ([.ptr bg 0, v3, pv] : List AV).set 2 v6 = [.ptr bg 0, v3, v6] := rfl
    rw [hset2]
    have hP7 := hP6.upd (us' := [.ptr bg 0, v3, v6]) rfl
    refine (decide_eq_true (show firstV U < n by omega)) ▸ hQ v3 v6 (ws ++ [.sl b1 0 U.length (.own 1)]) _ (by simp [hwl]) (fun u hu => ?_) ?_
    · rcases List.mem_append.mp hu with hu | hu
      · exact hsl u hu
      · rw [List.mem_singleton.mp hu]; rfl
    · rw [rowsL_app _ _ hwl, List.append_assoc]
      have q1 := (hP7.perm (.cons _ (.swap _ _ _))).perm (List.perm_middle (l₁ := [_, _, _, _]))
      have pm : ((AV.sl b1 0 U.length (.own 1), ints (scaleL (fF p m mod) (finv p m mod (U.getD (firstV U) 0)) U)) :: (rowsL ws l ++ R)).Perm (rowsL ws l ++ ([(AV.sl b1 0 U.length (.own 1), ints (scaleL (fF p m mod) (finv p m mod (U.getD (firstV U) 0)) U))] ++ R)) := List.perm_middle.symm
      exact q1.tail.perm (.cons _ (.cons _ (.cons _ pm)))
end Go.Proofs.Yteijojnahpeglaa.AM
/-! The program's information sets, second part: column, greedy, sets, Rank. -/
namespace Go.Proofs.Yteijojnahpeglaa.AM
open Go Go.RowKit
set_option linter.unusedVariables false
set_option linter.unusedSimpArgs false
set_option maxRecDepth 20000
/-- a column -/
def colL (rows : List (List Int)) (i : Nat) : List Int := tabN rows.length fun k => ent rows k i
theorem c_column {p m n i : Int} {md v : AV} {mod : List Int} {us : List AV} {rows : List (List Int)} {H : AH} {Q : AV → AH → Prop} (hc : CA H p m md mod n v us rows) (hi : 0 ≤ i) (hi' : i < n)
    (hQ : ∀ b H', H b = .free → Ext H H' → H' b = .rw (ints (colL rows i.toNat)) → Q (.sl b 0 rows.length (.own 1)) H') : AC Try.prog 107 [codeV p m md n v, .int .i64 i] H Q := by
  have k64 : rows.length ≤ 64 := by have := hc.kn; have := hc.n64; omega
  refine at107 (by simp) ?_
  simp (disch := first | assumption | omega) only [↓RP, RQ, TY, loadT, s107, reduceIte, Nat.reduceEqDiff, Nat.reduceAdd]
  refine kNew_intro fun b1 H1 hb1 hE1 hH1 => ?_
  have hr1 := hc.rv.ext hE1
  simp (disch := first | assumption | omega) only [↓RP, RQ, TY, loadT, reduceIte, Nat.reduceEqDiff, Nat.reduceAdd, hH1, hr1.run]
  refine kNew_intro fun b H2 hb hE2 hH2 => ?_
  have hH12 := hE2.rw hH1
  have hr2 := hr1.ext hE2
  rw [ints_repl] at hH2
  have f2 := hE1.free hb
  have n1 : b1 ≠ b := fun q => by rw [← q, hH1] at hb; cases hb
  have lT : (colL rows i.toNat).length = (List.replicate rows.length (0 : Int)).length := by rw [colL, tabN_length, rep_length]
  simp (disch := first | assumption | omega) only [↓RP, RQ, TY, loadT, reduceIte, Nat.reduceEqDiff, Nat.reduceAdd, hH12, hr2.run]
  refine sw_loop (σ := Nat) (fun k e H' => e 15 = .int .i64 k ∧ e 14 = .int .i64 rows.length ∧ e 13 = v ∧ e 5 = .sl b 0 rows.length (.own 1) ∧ e 1 = .int .i64 i ∧ k ≤ rows.length ∧ Ext H H' ∧ H' b = .rw (ints (mix (colL rows i.toNat) (List.replicate rows.length 0) k))) (fun k => rows.length - k) 0 ?_ ?_
  · simp (disch := first | assumption | omega) only [↓RP, RQ, TY, loadT, reduceIte, Nat.reduceEqDiff, Nat.reduceAdd, mix_zero]
    exact ⟨by omega, hE1.trans hE2, hH2⟩
  rintro k e H' ⟨e15, e14, e13, e5, e1, hk, hE, hb'⟩
  have lM := mix_length lT k
  rw [rep_length] at lM
  have hr' := hc.rv.ext hE
  by_cases hlt : (k : Int) < rows.length
  · have hrk := hr'.row k (by omega)
    have hrl := hc.rect k (by omega)
    simp (disch := first | assumption | omega) only [↓RP, RQ, TY, loadT, reduceIte, Nat.reduceEqDiff, Nat.reduceAdd, e15, e14, e13, e5, e1, hlt, hb', hr'.run, hrk.ints]
    refine ⟨k + 1, ?_, by dsimp only; omega⟩
    simp (disch := first | assumption | omega) only [↓RP, RQ, TY, loadT, reduceIte, Nat.reduceEqDiff, Nat.reduceAdd, e15, e14, e13, e5, e1]
    refine ⟨by omega, hE.upd f2 _, ?_⟩
    rw [← mix_set lT (show k < _ by rw [rep_length]; omega), colL, tabN_getD _ (show k < rows.length by omega)]
    rfl
  · simp (disch := first | assumption | omega) only [↓RP, RQ, TY, loadT, reduceIte, Nat.reduceEqDiff, Nat.reduceAdd, e15, e14, e13, e5, e1, hlt]
    rw [mix_full lT (show _ ≤ k by rw [rep_length]; omega)] at hb'
    exact hQ b H' f2 hE hb'
/-- a round of greedy: the basis, its places, the positions taken -/
def gStep (F : FOps) (rows : List (List Int)) (order : List Int) (t : Nat) (s : List (List Int) × List Nat × List Int) : List (List Int) × List Nat × List Int :=
  ((bTake F s.1 s.2.1 (colL rows (order.getD t 0).toNat)).1, (bTake F s.1 s.2.1 (colL rows (order.getD t 0).toNat)).2,
    if firstV (redB F s.1 s.2.1 (colL rows (order.getD t 0).toNat)) < rows.length then s.2.2 ++ [order.getD t 0] else s.2.2)
def gAll (F : FOps) (rows : List (List Int)) (order : List Int) (t : Nat) : List (List Int) × List Nat × List Int := uptoN (gStep F rows order) t ([], [], [])
/-- the positions that raise the rank -/
def greedyL (F : FOps) (rows : List (List Int)) (order : List Int) : List Int := (gAll F rows order order.length).2.2
theorem colL_ok {F : FOps} {rows : List (List Int)} (he : Els F rows) (h0 : F.El 0) (i : Nat) : (colL rows i).length = rows.length ∧ ∀ j, F.El ((colL rows i).getD j 0) := by
  refine ⟨tabN_length _ _, fun j => ?_⟩
  by_cases hj : j < rows.length
  · rw [colL, tabN_getD _ hj]; exact he _ _
  · rw [getD_len _ (by rw [colL, tabN_length]; omega)]; exact h0
/-- what holds of a basis -/
structure BOk (F : FOps) (n : Nat) (l : List (List Int)) (places : List Nat) : Prop where
  rect : Rect n l
  els : Els F l
  pl : places.length = l.length
  lt : ∀ i, i < l.length → places.getD i 0 < n
theorem rowAt_app {l : List (List Int)} {r : List Int} (i : Nat) : rowAt (l ++ [r]) i = if i < l.length then rowAt l i else if i = l.length then r else [] := by
  split
  · rename_i h; simp [rowAt, List.getD_eq_getElem?_getD, List.getElem?_append_left h]
  · split
    · rename_i h; subst h; simp [rowAt, List.getD_eq_getElem?_getD]
    · rw [rowAt_ge]; simp; omega
theorem getD_app {l : List Nat} {r : Nat} (i : Nat) : (l ++ [r]).getD i 0 = if i < l.length then l.getD i 0 else if i = l.length then r else 0 := by
  split
  · rename_i h; simp [List.getD_eq_getElem?_getD, List.getElem?_append_left h]
  · split
    · rename_i h; subst h; simp [List.getD_eq_getElem?_getD]
    · rw [getD_len]; simp; omega
theorem red_len {F : FOps} (ok : F.Ok) {n : Nat} {l : List (List Int)} {places : List Nat} (h : Els F l) {v : List Int} (hv : v.length = n ∧ ∀ j, F.El (v.getD j 0)) : (redB F l places v).length = n ∧ ∀ j, F.El ((redB F l places v).getD j 0) := red_ok ok h hv l.length
theorem bTake_pos {F : FOps} {l : List (List Int)} {places : List Nat} {v : List Int} (hk : firstV (redB F l places v) < (redB F l places v).length) :
    bTake F l places v = (l ++ [scaleL F (F.inv ((redB F l places v).getD (firstV (redB F l places v)) 0)) (redB F l places v)], places ++ [firstV (redB F l places v)]) := if_pos hk
theorem bTake_neg {F : FOps} {l : List (List Int)} {places : List Nat} {v : List Int} (hk : ¬ firstV (redB F l places v) < (redB F l places v).length) : bTake F l places v = (l, places) := if_neg hk
theorem BOk.take {F : FOps} (ok : F.Ok) {n : Nat} {l : List (List Int)} {places : List Nat} (h : BOk F n l places) {v : List Int} (hv : v.length = n ∧ ∀ j, F.El (v.getD j 0)) : BOk F n (bTake F l places v).1 (bTake F l places v).2 := by
  obtain ⟨u1, u2⟩ := red_len (places := places) ok h.els hv
  by_cases hk : firstV (redB F l places v) < (redB F l places v).length
  · rw [bTake_pos hk]
    generalize redB F l places v = u at *
    refine ⟨fun i hi => ?_, fun i j => ?_, by simp [h.pl], fun i hi => ?_⟩
    · simp at hi
      rw [rowAt_app]
      split
      · rename_i q; exact h.rect i q
      · rw [if_pos (by omega), scaleL_length, u1]
    · rw [ent, rowAt_app]
      split
      · exact h.els i j
      · split
        · rw [scaleL_get ok (ok.inv_el (u2 _))]
          exact ok.mul_el (ok.inv_el (u2 _)) (u2 _)
        · exact ok.el0
    · simp at hi
      rw [getD_app, h.pl]
      split
      · rename_i q; exact h.lt i q
      · rw [if_pos (by omega)]; omega
  · rw [bTake_neg hk]; exact h
theorem gAll_succ (F : FOps) (rows : List (List Int)) (order : List Int) (t : Nat) : gAll F rows order (t + 1) = gStep F rows order t (gAll F rows order t) := rfl
theorem gAll_ok {F : FOps} (ok : F.Ok) {rows : List (List Int)} (he : Els F rows) (order : List Int) : ∀ t, BOk F rows.length (gAll F rows order t).1 (gAll F rows order t).2.1 ∧ (gAll F rows order t).2.2.length = (gAll F rows order t).1.length ∧ (gAll F rows order t).1.length ≤ t
  | 0 => ⟨⟨fun i hi => by simp [gAll, uptoN] at hi, fun i j => by rw [ent_ge _ (by simp [gAll, uptoN])]; exact ok.el0, rfl, fun i hi => by simp [gAll, uptoN] at hi⟩, rfl, Nat.le_refl _⟩
  | t + 1 => by
    obtain ⟨h1, h2, h3⟩ := gAll_ok ok he order t
    rw [gAll_succ]
    generalize gAll F rows order t = s at *
    have hv := colL_ok he ok.el0 (order.getD t 0).toNat
    have hu := (red_len (places := s.2.1) ok h1.els hv).1
    refine ⟨h1.take ok hv, ?_⟩
    simp only [gStep]
    by_cases hk : firstV (redB F s.1 s.2.1 (colL rows (order.getD t 0).toNat)) < rows.length
    · rw [bTake_pos (by rw [hu]; exact hk), if_pos hk]
      refine ⟨?_, ?_⟩
      · rw [List.length_append, List.length_append, h2]; rfl
      · rw [List.length_append, List.length_singleton]; omega
    · rw [bTake_neg (by rw [hu]; exact hk), if_neg hk]
      exact ⟨h2, Nat.le_succ_of_le h3⟩
theorem c_greedy (A : Alg) {bg : Nat} {p m n : Int} {md v ov : AV} {mod order : List Int} {us : List AV} {rows : List (List Int)} {H : AH} {Q : AV → AH → Prop} (hg : GFA H bg p m mod) (hF : FieldOk p m mod) (hc : CA H p m md mod n v us rows) (ho : Ints H ov order) (hp : Poss n order) (hl : order.length ≤ 1000)
    (hQ : ∀ w H', Ext H H' → Own H H' w (ints (greedyL (fF p m mod) rows order)) → Q w H') : AC Try.prog 87 [.ptr bg 0, codeV p m md n v, ov] H Q := by
  have ok := A.fo _ _ _ hF
  have k64 : rows.length ≤ 64 := by have := hc.kn; have := hc.n64; omega
  refine at87 (by simp) ?_
  simp (disch := first | assumption | omega) only [↓RP, RQ, TY, loadT, s87, reduceIte, Nat.reduceEqDiff, Nat.reduceAdd]
  refine kNew_intro fun b1 H1 hb1 hE1 hH1 => ?_
  have ho1 := ho.ext hE1
  have i0 : (AV.ptr bg 0).one = true := rfl
  have fill_b : aFill (fun i => [(0, 1), (1, 1), (2, 1)][i]?) [.nilp, .nils, .nils] [(0, .ptr bg 0)] = some [.ptr bg 0, .nils, .nils] := rfl
  simp (disch := first | assumption | omega) only [↓RP, RQ, TY, loadT, reduceIte, Nat.reduceEqDiff, Nat.reduceAdd, fill_b]
  refine kNew_intro fun bb H2 hb2 hE2 hH2 => ?_
  have hP2 : Hp H1 H2 ((.sl bb 0 3 (.own 1), [.ptr bg 0, .nils, .nils]) :: (.nils, []) :: (.nils, []) :: (rowsL [] [] ++ [(.nils, [])])) := by
    have q := (((Hp.nil (Ext.refl H1)).nils.nils.nils).new hb2 hE2 hH2 rfl)
    exact q
  have ho2 := ho1.ext hE2
  simp (disch := first | assumption | omega) only [↓RP, RQ, TY, loadT, reduceIte, Nat.reduceEqDiff, Nat.reduceAdd, ho2.ints]
  refine sw_loop (σ := Nat × AV × AV × List AV × AV) (fun s e H' => e 16 = .int .i64 s.1 ∧ e 15 = .int .i64 order.length ∧ e 14 = ov ∧ e 8 = s.2.2.2.2 ∧ e 7 = .ptr bb 0 ∧ e 4 = .ptr b1 0 ∧ s.1 ≤ order.length ∧ s.2.2.2.1.length = (gAll (fF p m mod) rows order s.1).1.length ∧ (∀ u, u ∈ s.2.2.2.1 → u.isSl = true) ∧
    Hp H1 H' ((.sl bb 0 3 (.own 1), [.ptr bg 0, s.2.1, s.2.2.1]) :: (s.2.1, s.2.2.2.1) :: (s.2.2.1, ints (natsI (gAll (fF p m mod) rows order s.1).2.1)) :: (rowsL s.2.2.2.1 (gAll (fF p m mod) rows order s.1).1 ++ [(s.2.2.2.2, ints (gAll (fF p m mod) rows order s.1).2.2)]))) (fun s => order.length - s.1) (0, .nils, .nils, [], .nils) ?_ ?_
  · simp (disch := first | assumption | omega) only [↓RP, RQ, TY, loadT, reduceIte, Nat.reduceEqDiff, Nat.reduceAdd]
    exact ⟨by omega, rfl, fun u hu => by simp at hu, hP2⟩
  rintro ⟨t, rv, pv, ws, ou⟩ e H' ⟨e16, e15, e14, e8, e7, e4, ht, hwl, hsl, hP⟩
  dsimp only at *
  obtain ⟨g1, g2, g3⟩ := gAll_ok ok hc.els order t
  have gs := gAll_succ (fF p m mod) rows order t
  generalize hG : gAll (fF p m mod) rows order t = G at *
  obtain ⟨l, pl, out⟩ := G
  dsimp only at *
  have hE := hE1.trans hP.ext
  by_cases hlt : (t : Int) < order.length
  rotate_left
  · simp (disch := first | assumption | omega) only [↓RP, RQ, TY, loadT, reduceIte, Nat.reduceEqDiff, Nat.reduceAdd, e16, e15, e14, e8, e7, e4, hlt]
    have htl : t = order.length := by omega
    have := (hP.own (ou, ints out) (by simp)).old hE1
    refine hQ ou H' hE ?_
    rw [greedyL, ← htl, hG]
    exact this
  have hpt := hp t (by omega)
  have hb1' := hP.ext.rw hH1
  have hE' := hE
  simp (disch := first | assumption | omega) only [↓RP, RQ, TY, loadT, reduceIte, Nat.reduceEqDiff, Nat.reduceAdd, e16, e15, e14, e8, e7, e4, hlt, (ho.ext hE).ints, hb1']
  refine c_column (hc.ext hE) hpt.1 hpt.2 fun b3 H3 hb3 hE3 hH3 => ?_
  have hcol := colL_ok hc.els ok.el0 (order.getD t 0).toNat
  have hN := hP.new (n := rows.length) hb3 hE3 hH3 (by rw [ints_length, hcol.1])
  simp (disch := first | assumption | omega) only [↓RP, RQ, TY, loadT, reduceIte, Nat.reduceEqDiff, Nat.reduceAdd, e16, e15, e14, e8, e7, e4]
  refine c_badd A (hg.ext hE1) hF g1.rect g1.els hcol g1.lt g1.pl hwl (by omega) (by omega) hsl hN fun rv' pv' ws' H4 hwl' hsl' hP4 => ?_
  by_cases hk : firstV (redB (fF p m mod) l pl (colL rows (order.getD t 0).toNat)) < rows.length
  · have gs2 : gAll (fF p m mod) rows order (t + 1) = ((bTake (fF p m mod) l pl (colL rows (order.getD t 0).toNat)).1, (bTake (fF p m mod) l pl (colL rows (order.getD t 0).toNat)).2, out ++ [order.getD t 0]) := by
      rw [gs]
      show (_, _, _) = (_, _, _)
      rw [if_pos hk]
    simp (disch := first | assumption | omega) only [↓RP, RQ, TY, loadT, reduceIte, Nat.reduceEqDiff, Nat.reduceAdd, e16, e15, e14, e8, e7, e4, eq_true hk]
    refine kNew_intro fun b5 H5 hb5 hE5 hH5 => ?_
    have hout : out.length ≤ 1000 := by omega
    have hP5 := (hP4.more hE5).perm (List.perm_middle (l₁ := [_, _, _] ++ rowsL ws' _) (l₂ := []))
    simp (disch := first | assumption | omega) only [↓RP, RQ, TY, loadT, reduceIte, Nat.reduceEqDiff, Nat.reduceAdd, e16, e15, e14, e8, e7, e4]
    refine kApp_hp (us := ints [order.getD t 0]) hP5 (Sl.own hH5 rfl) ints_ones (by simp [ints_length]; omega) (by simp [ints_length]; omega) fun v6 H6 hN6 => ?_
    rw [ints_app] at hN6
    have hP6 := hN6.perm (List.perm_middle (l₁ := [_, _, _] ++ rowsL ws' _) (l₂ := [])).symm
    simp (disch := first | assumption | omega) only [↓RP, RQ, TY, loadT, reduceIte, Nat.reduceEqDiff, Nat.reduceAdd, e16, e15, e14, e8, e7, e4]
    refine ⟨(t + 1, rv', pv', ws', v6), ?_, by dsimp only; omega⟩
    simp (disch := first | assumption | omega) only [↓RP, RQ, TY, loadT, reduceIte, Nat.reduceEqDiff, Nat.reduceAdd, e16, e15, e14, e8, e7, e4]
    rw [gs2]
    exact ⟨by omega, hwl', hsl', hP6⟩
  · have gs2 : gAll (fF p m mod) rows order (t + 1) = ((bTake (fF p m mod) l pl (colL rows (order.getD t 0).toNat)).1, (bTake (fF p m mod) l pl (colL rows (order.getD t 0).toNat)).2, out) := by
      rw [gs]
      show (_, _, _) = (_, _, _)
      rw [if_neg hk]
    simp (disch := first | assumption | omega) only [↓RP, RQ, TY, loadT, reduceIte, Nat.reduceEqDiff, Nat.reduceAdd, e16, e15, e14, e8, e7, e4, eq_false hk]
    refine ⟨(t + 1, rv', pv', ws', ou), ?_, by dsimp only; omega⟩
    simp (disch := first | assumption | omega) only [↓RP, RQ, TY, loadT, reduceIte, Nat.reduceEqDiff, Nat.reduceAdd, e16, e15, e14, e8, e7, e4]
    rw [gs2]
    exact ⟨by omega, hwl', hsl', hP4⟩
end Go.Proofs.Yteijojnahpeglaa.AM
/-! The program's information sets, third part: sets, open, Rank. -/
namespace Go.Proofs.Yteijojnahpeglaa.AM
open Go Go.RowKit
set_option linter.unusedVariables false
set_option linter.unusedSimpArgs false
set_option maxRecDepth 20000
open Classical in
theorem c_sets {p m n : Int} {md v sv : AV} {b : Nat} {set : List Int} {H : AH} {Q : AV → AH → Prop} (hb : H b = .rw [sv]) (hs : Ints H sv set) (hl : set.length ≤ 9223372036854775807)
    (hQ : ∀ H', Ext H H' → Q (.int .i64 (if Subset n set then 0 else 6)) H') : AC Try.prog 86 [codeV p m md n v, .sl b 0 1 (.own 1)] H Q := by
  refine at86 (by simp) ?_
  simp (disch := first | assumption | omega) only [↓RP, RQ, TY, loadT, s86, reduceIte, Nat.reduceEqDiff, Nat.reduceAdd]
  refine kNew_intro fun b1 H1 hb1 hE1 hH1 => ?_
  have hb' := hE1.rw hb
  have hs1 := hs.ext hE1
  simp (disch := first | assumption | omega) only [↓RP, RQ, TY, loadT, reduceIte, Nat.reduceEqDiff, Nat.reduceAdd]
  refine sw_loop (σ := Nat) (fun i e H' => e 11 = .int .i64 i ∧ e 10 = .int .i64 1 ∧ e 9 = .sl b 0 1 (.own 1) ∧ e 2 = .ptr b1 0 ∧ i ≤ 1 ∧ H' = H1 ∧ (0 < i → Subset n set)) (fun i => 1 - i) 0 ?_ ?_
  · simp (disch := first | assumption | omega) only [↓RP, RQ, TY, loadT, reduceIte, Nat.reduceEqDiff, Nat.reduceAdd]
    exact ⟨by simp, by omega, by omega⟩
  rintro i e H' ⟨e11, e10, e9, e2, hi, rfl, h0⟩
  by_cases hi1 : i = 1
  · subst hi1
    have e11' : e 11 = .int .i64 1 := e11
    simp (disch := first | assumption | omega) only [↓RP, RQ, TY, loadT, reduceIte, Nat.reduceEqDiff, Nat.reduceAdd, e11', e10, e9, e2, Int.lt_irrefl]
    have := hQ H' hE1
    rwa [if_pos (h0 (by omega))] at this
  have i0 : i = 0 := by omega
  subst i0
  have e11' : e 11 = .int .i64 0 := e11
  have z0 : Int.toNat 0 = 0 := rfl
  have l01 : ((0 : Int) < ((1 : Nat) : Int)) := by decide
  simp (disch := first | assumption | omega) only [↓RP, RQ, TY, loadT, reduceIte, Nat.reduceEqDiff, Nat.reduceAdd, e11', e10, e9, e2, eq_true (show (0 : Int) < 1 by decide), u_idx (Int.le_refl 0) l01, z0, Nat.zero_mul, hb', hs1.ints]
  refine sw_loop (σ := Nat) (fun k e H2 => e 17 = .int .i64 k ∧ e 16 = .int .i64 set.length ∧ e 15 = sv ∧ e 6 = sv ∧ e 11 = .int .i64 0 ∧ e 10 = .int .i64 1 ∧ e 9 = .sl b 0 1 (.own 1) ∧ e 2 = .ptr b1 0 ∧ k ≤ set.length ∧ H2 = H' ∧ ∀ j, j < k → 0 ≤ set.getD j 0 ∧ set.getD j 0 < n ∧ (0 < j → set.getD (j - 1) 0 < set.getD j 0)) (fun k => set.length - k) 0 ?_ ?_
  · simp (disch := first | assumption | omega) only [↓RP, RQ, TY, loadT, reduceIte, Nat.reduceEqDiff, Nat.reduceAdd, e11', e10, e9, e2]
    exact ⟨by omega, fun j hj => by omega⟩
  clear e11' e11 e10 e9 e2
  rintro k e H2 ⟨e17, e16, e15, e6, e11, e10, e9, e2, hk, rfl, hj⟩
  have no : ¬ Subset n set → Q (.int .i64 6) H2 := fun h => by
    have := hQ H2 hE1
    rwa [if_neg h] at this
  by_cases hlt : (k : Int) < set.length
  · by_cases c1 : set.getD k 0 < 0
    · simp (disch := first | assumption | omega) only [↓RP, RQ, TY, loadT, reduceIte, Nat.reduceEqDiff, Nat.reduceAdd, e17, e16, e15, e6, e11, e10, e9, e2, hlt, hs1.ints, hH1, c1]
      exact no (fun q => absurd (q k (by omega)).1 (by omega))
    by_cases c2 : n ≤ set.getD k 0
    · simp (disch := first | assumption | omega) only [↓RP, RQ, TY, loadT, reduceIte, Nat.reduceEqDiff, Nat.reduceAdd, e17, e16, e15, e6, e11, e10, e9, e2, hlt, hs1.ints, hH1, c1, c2]
      exact no (fun q => absurd (q k (by omega)).2.1 (by omega))
    by_cases c3 : (0 : Int) < k
    · have ei : ((k : Int) - 1).toNat = k - 1 := by omega
      by_cases c4 : set.getD k 0 ≤ set.getD (k - 1) 0
      · simp (disch := first | assumption | omega) only [↓RP, RQ, TY, loadT, reduceIte, Nat.reduceEqDiff, Nat.reduceAdd, e17, e16, e15, e6, e11, e10, e9, e2, hlt, hs1.ints, hH1, c1, c2, c3, ei, c4]
        exact no (fun q => absurd ((q k (by omega)).2.2 (by omega)) (by omega))
      · simp (disch := first | assumption | omega) only [↓RP, RQ, TY, loadT, reduceIte, Nat.reduceEqDiff, Nat.reduceAdd, e17, e16, e15, e6, e11, e10, e9, e2, hlt, hs1.ints, hH1, c1, c2, c3, ei, c4]
        refine ⟨k + 1, ?_, by dsimp only; omega⟩
        simp (disch := first | assumption | omega) only [↓RP, RQ, TY, loadT, reduceIte, Nat.reduceEqDiff, Nat.reduceAdd, e17, e16, e15, e6, e11, e10, e9, e2]
        refine ⟨by omega, fun j h => ?_⟩
        by_cases hjk : j = k
        · rw [hjk]; exact ⟨by omega, by omega, fun _ => by omega⟩
        · exact hj j (by omega)
    · simp (disch := first | assumption | omega) only [↓RP, RQ, TY, loadT, reduceIte, Nat.reduceEqDiff, Nat.reduceAdd, e17, e16, e15, e6, e11, e10, e9, e2, hlt, hs1.ints, hH1, c1, c2, c3]
      refine ⟨k + 1, ?_, by dsimp only; omega⟩
      simp (disch := first | assumption | omega) only [↓RP, RQ, TY, loadT, reduceIte, Nat.reduceEqDiff, Nat.reduceAdd, e17, e16, e15, e6, e11, e10, e9, e2]
      refine ⟨by omega, fun j h => ?_⟩
      by_cases hjk : j = k
      · rw [hjk]; exact ⟨by omega, by omega, fun _ => by omega⟩
      · exact hj j (by omega)
  · have hS : Subset n set := fun j hj' => hj j (by omega)
    simp (disch := first | assumption | omega) only [↓RP, RQ, TY, loadT, reduceIte, Nat.reduceEqDiff, Nat.reduceAdd, e17, e16, e15, e6, e11, e10, e9, e2, hlt]
    refine ⟨1, ?_, by dsimp only; omega⟩
    simp (disch := first | assumption | omega) only [↓RP, RQ, TY, loadT, reduceIte, Nat.reduceEqDiff, Nat.reduceAdd, e17, e16, e15, e6, e11, e10, e9, e2]
    exact ⟨by omega, fun _ => hS⟩
theorem c_iopen (A : Alg) {p m n : Int} {md v : AV} {mod : List Int} {us : List AV} {rows : List (List Int)} {H : AH} {Q : AV → AH → Prop} (hm : Ints H md mod) (hlm : mod.length ≤ 9223372036854775807) (hv : Rows H v us rows) (hl : rows.length ≤ 9223372036854775807) (hlr : ∀ i, i < rows.length → (rowAt rows i).length ≤ 9223372036854775807)
    (hQ1 : ∀ b H', Ext H H' → codeErr p m mod n rows = 0 → GFA H' b p m mod → Q (.tup [.ptr b 0, .int .i64 0]) H') (hQ0 : ∀ H', Ext H H' → codeErr p m mod n rows ≠ 0 → Q (.tup [.nilp, .int .i64 (codeErr p m mod n rows)]) H') :
    AC Try.prog 85 [codeV p m md n v] H Q := by
  refine at85 (by simp) ?_
  simp (disch := first | assumption | omega) only [↓RP, RQ, TY, loadT, s85, reduceIte, Nat.reduceEqDiff, Nat.reduceAdd]
  refine kNew_intro fun b H1 hb hE1 hH1 => ?_
  simp (disch := first | assumption | omega) only [↓RP, RQ, TY, loadT, reduceIte, Nat.reduceEqDiff, Nat.reduceAdd, hH1]
  refine c_cCheck A (hm.ext hE1) hlm (hv.ext hE1) hl hlr fun H2 hE2 => ?_
  have hE12 := hE1.trans hE2
  by_cases h0 : codeErr p m mod n rows = 0
  · obtain ⟨h1, -⟩ := code_ok A.fo h0
    simp (disch := first | assumption | omega) only [↓RP, RQ, TY, loadT, reduceIte, Nat.reduceEqDiff, Nat.reduceAdd, eq_true h0, hE2.rw hH1]
    refine c_New A.gi (hm.ext hE12) hlm (fun bg H7 hE7 hF hg => ?_) (fun H7 hE7 hF => absurd h1 hF)
    simp (disch := first | assumption | omega) only [↓RP, RQ, TY, loadT, reduceIte, Nat.reduceEqDiff, Nat.reduceAdd]
    exact hQ1 bg H7 (hE12.trans hE7) h0 hg
  · simp (disch := first | assumption | omega) only [↓RP, RQ, TY, loadT, reduceIte, Nat.reduceEqDiff, Nat.reduceAdd, eq_false h0]
    exact hQ0 H2 hE12 h0
open Classical in
/-- the error of Rank -/
noncomputable def rkErr (p m : Int) (mod : List Int) (n : Int) (rows : List (List Int)) (set : List Int) : Int := if codeErr p m mod n rows ≠ 0 then codeErr p m mod n rows else if Subset n set then 0 else 6
open Classical in
noncomputable def rkVal (p m : Int) (mod : List Int) (n : Int) (rows : List (List Int)) (set : List Int) : Int := if rkErr p m mod n rows set = 0 then ((greedyL (fF p m mod) rows set).length : Int) else 0
theorem c_Rank (A : Alg) {p m n : Int} {md v sv : AV} {mod set : List Int} {us : List AV} {rows : List (List Int)} {H : AH} {Q : AV → AH → Prop} (hm : Ints H md mod) (hlm : mod.length ≤ 9223372036854775807) (hv : Rows H v us rows) (hl : rows.length ≤ 9223372036854775807) (hlr : ∀ i, i < rows.length → (rowAt rows i).length ≤ 9223372036854775807) (hs : Ints H sv set) (hls : set.length ≤ 9223372036854775807)
    (hQ : ∀ H', Ext H H' → Q (.tup [.int .i64 (rkVal p m mod n rows set), .int .i64 (rkErr p m mod n rows set)]) H') : AC Try.prog 66 [codeV p m md n v, sv] H Q := by
  refine at66 (by simp) ?_
  simp (disch := first | assumption | omega) only [↓RP, RQ, TY, loadT, s66, reduceIte, Nat.reduceEqDiff, Nat.reduceAdd]
  refine kNew_intro fun b H1 hb hE1 hH1 => ?_
  simp (disch := first | assumption | omega) only [↓RP, RQ, TY, loadT, reduceIte, Nat.reduceEqDiff, Nat.reduceAdd, hH1]
  refine c_iopen A (hm.ext hE1) hlm (hv.ext hE1) hl hlr (fun bg H2 hE2 h0 hg => ?_) (fun H2 hE2 h0 => ?_)
  rotate_left
  · simp (disch := first | assumption | omega) only [↓RP, RQ, TY, loadT, reduceIte, Nat.reduceEqDiff, Nat.reduceAdd, eq_false h0]
    have := hQ H2 (hE1.trans hE2)
    have e1 : rkErr p m mod n rows set = codeErr p m mod n rows := by rw [rkErr, if_pos h0]
    rwa [rkVal, if_neg (by rw [e1]; exact h0), e1] at this
  have hE12 := hE1.trans hE2
  have h12 := hE2.rw hH1
  obtain ⟨hF, -⟩ := code_ok A.fo h0
  have hsl := hs.isSl
  simp (disch := first | assumption | omega) only [↓RP, RQ, TY, loadT, reduceIte, Nat.reduceEqDiff, Nat.reduceAdd, h12, u_buildS1V]
  refine kNew_intro fun b3 H3 hb3 hE3 hH3 => ?_
  have h13 := hE3.rw h12
  simp (disch := first | assumption | omega) only [↓RP, RQ, TY, loadT, reduceIte, Nat.reduceEqDiff, Nat.reduceAdd]
  refine c_sets hH3 ((hs.ext hE12).ext hE3) hls fun H4 hE4 => ?_
  have h14 := hE4.rw h13
  have hE14 := (hE12.trans hE3).trans hE4
  by_cases hS : Subset n set
  rotate_left
  · simp (disch := first | assumption | omega) only [↓RP, RQ, TY, loadT, reduceIte, Nat.reduceEqDiff, Nat.reduceAdd, eq_false hS, Int.reduceEq, Int.reduceNe]
    have := hQ H4 hE14
    have e1 : rkErr p m mod n rows set = 6 := by rw [rkErr, if_neg (by simpa using h0), if_neg hS]
    rwa [rkVal, if_neg (by rw [e1]; decide), e1] at this
  have ca := A.fo.ca h0 (hm.ext hE14) (hv.ext hE14)
  have n1 := ca.n1
  have n64 := ca.n64
  have hsn := hS.length (by omega)
  simp (disch := first | assumption | omega) only [↓RP, RQ, TY, loadT, reduceIte, Nat.reduceEqDiff, Nat.reduceAdd, eq_true hS, Int.reduceEq, Int.reduceNe, h14]
  refine c_greedy A ((hg.ext hE3).ext hE4) hF ca (hs.ext hE14) hS.poss (by omega) fun w H5 hE5 ho5 => ?_
  simp (disch := first | assumption | omega) only [↓RP, RQ, TY, loadT, reduceIte, Nat.reduceEqDiff, Nat.reduceAdd, ho5.sl.ints]
  have := hQ H5 (hE14.trans hE5)
  have e1 : rkErr p m mod n rows set = 0 := by rw [rkErr, if_neg (by simpa using h0), if_pos hS]
  rwa [rkVal, if_pos e1, e1] at this
end Go.Proofs.Yteijojnahpeglaa.AM
/-! The program's orderings, first part: rank, dimension, Dimension. -/
namespace Go.Proofs.Yteijojnahpeglaa.AM
open Go Go.RowKit
set_option linter.unusedVariables false
set_option linter.unusedSimpArgs false
set_option maxRecDepth 20000
/-- the positions below n in a mask -/
def maskL (n : Nat) (s : Nat → Bool) : List Int := natsI ((List.range n).filter s)
theorem maskL_succ (n : Nat) (s : Nat → Bool) : maskL (n + 1) s = maskL n s ++ if s n = true then [(n : Int)] else [] := by
  simp only [maskL, natsI, List.range_succ, List.filter_append, List.filter_cons, List.filter_nil, List.map_append]
  cases s n <;> rfl
theorem maskL_length (n : Nat) (s : Nat → Bool) : (maskL n s).length ≤ n := by
  have := List.length_filter_le s (List.range n)
  simpa [maskL, natsI_length] using this
theorem getD_appI {l : List Int} {r : Int} (i : Nat) : (l ++ [r]).getD i 0 = if i < l.length then l.getD i 0 else if i = l.length then r else 0 := by
  split
  · rename_i h; simp [List.getD_eq_getElem?_getD, List.getElem?_append_left h]
  · split
    · rename_i h; subst h; simp [List.getD_eq_getElem?_getD]
    · rw [getD_len]; simp; omega
theorem maskL_subset (s : Nat → Bool) : ∀ n : Nat, Subset n (maskL n s)
  | 0 => fun i hi => by simp [maskL, natsI] at hi
  | n + 1 => by
    have ih := maskL_subset s n
    rw [maskL_succ]
    split
    · intro i hi
      rw [List.length_append, List.length_singleton] at hi
      rw [getD_appI, getD_appI]
      by_cases h : i < (maskL n s).length
      · rw [if_pos h, if_pos (show i - 1 < _ by omega)]
        have := ih i h
        exact ⟨this.1, by omega, this.2.2⟩
      · rw [if_neg h, if_pos (by omega)]
        refine ⟨by omega, by omega, fun h0 => ?_⟩
        rw [if_pos (by omega)]
        exact (ih (i - 1) (by omega)).2.1
    · rw [List.append_nil]
      intro i hi
      have := ih i hi
      exact ⟨this.1, by omega, this.2.2⟩
theorem ofInt_nat {a : Nat} (h : a < 18446744073709551616) : (BitVec.ofInt IntKind.u64.bits (a : Int)).toNat = a := by
  simp only [IntKind.bits, BitVec.toNat_ofInt]
  omega
theorem bit_and {k i : Nat} (hk : k < 18446744073709551616) (hi : i < 64) : IntKind.u64.wrap ((BitVec.ofInt IntKind.u64.bits ((k : Int).fdiv (2 ^ min i IntKind.u64.bits)) &&& BitVec.ofInt IntKind.u64.bits 1).toNat : Int) = if k.testBit i = true then 1 else 0 := by
  have e0 : min i IntKind.u64.bits = i := Nat.min_eq_left (by simp only [IntKind.bits]; omega)
  have e1 : (k : Int).fdiv (2 ^ i) = ((k / 2 ^ i : Nat) : Int) := by
    rw [Int.fdiv_eq_ediv_of_nonneg _ (Int.pow_nonneg (by omega))]
    simp
  have h1 : k / 2 ^ i < 18446744073709551616 := Nat.lt_of_le_of_lt (Nat.div_le_self _ _) hk
  have e2 : (BitVec.ofInt IntKind.u64.bits (1 : Int)).toNat = 1 := ofInt_nat (a := 1) (by omega)
  rw [e0, e1, BitVec.toNat_and, ofInt_nat h1, e2, Nat.and_one_is_mod, Nat.testBit_eq_decide_div_mod_eq]
  rw [u_wrapU (by omega)]
  simp only [decide_eq_true_eq]
  split <;> omega
theorem bit_or {k x : Nat} (hk : k < 18446744073709551616) (hx : x < 64) : IntKind.u64.wrap ((BitVec.ofInt IntKind.u64.bits (k : Int) ||| BitVec.ofInt IntKind.u64.bits (IntKind.u64.wrap (1 * 2 ^ min x IntKind.u64.bits))).toNat : Int) = ((k ||| 2 ^ x : Nat) : Int) ∧ k ||| 2 ^ x < 18446744073709551616 := by
  have e0 : min x IntKind.u64.bits = x := Nat.min_eq_left (by simp only [IntKind.bits]; omega)
  have hp : 2 ^ x < 2 ^ 64 := Nat.pow_lt_pow_right (by omega) hx
  have e1 : (1 : Int) * 2 ^ x = ((2 ^ x : Nat) : Int) := by simp
  have ho : k ||| 2 ^ x < 2 ^ 64 := Nat.or_lt_two_pow (by omega) hp
  refine ⟨?_, by omega⟩
  rw [e0, e1]
  generalize 2 ^ x = q at *
  rw [u_wrapU (x := (q : Int)) (by omega), BitVec.toNat_or, ofInt_nat hk, ofInt_nat (by omega), u_wrapU (by omega)]
theorem bit_not {k : Nat} (hk : k < 18446744073709551616) : IntKind.u64.wrap ((BitVec.ofInt IntKind.u64.bits (if IntKind.u64.signed = true then -1 else IntKind.u64.max) ^^^ BitVec.ofInt IntKind.u64.bits (k : Int)).toNat : Int) = ((2 ^ 64 - (k + 1) : Nat) : Int) := by
  have e1 : (BitVec.ofInt IntKind.u64.bits (if IntKind.u64.signed = true then -1 else IntKind.u64.max)).toNat = 2 ^ 64 - 1 := by decide
  rw [BitVec.toNat_xor, e1, ofInt_nat hk]
  have e2 : (2 ^ 64 - 1) ^^^ k = 2 ^ 64 - (k + 1) := by
    apply Nat.eq_of_testBit_eq
    intro i
    rw [Nat.testBit_xor, Nat.testBit_two_pow_sub_one, Nat.testBit_two_pow_sub_succ (by omega)]
    by_cases hi : i < 64
    · simp [hi]
    · have : k.testBit i = false := Nat.testBit_lt_two_pow (Nat.lt_of_lt_of_le (show k < 2 ^ 64 by omega) (Nat.pow_le_pow_right (by omega) (by omega)))
      simp [hi, this]
  rw [e2]
  exact u_wrapU (by omega)
theorem c_orank (A : Alg) {p m n : Int} {md v : AV} {mod : List Int} {us : List AV} {rows : List (List Int)} {k : Nat} {H : AH} {Q : AV → AH → Prop} (hm : Ints H md mod) (hlm : mod.length ≤ 9223372036854775807) (hv : Rows H v us rows) (h0 : codeErr p m mod n rows = 0) (hk : k < 18446744073709551616)
    (hQ : ∀ H', Ext H H' → Q (.int .i64 ((greedyL (fF p m mod) rows (maskL n.toNat k.testBit)).length : Nat)) H') : AC Try.prog 48 [codeV p m md n v, .int .u64 k] H Q := by
  have ca := A.fo.ca h0 hm hv
  have n1 := ca.n1
  have n64 := ca.n64
  have kn := ca.kn
  refine at48 (by simp) ?_
  simp (disch := first | assumption | omega) only [↓RP, RQ, TY, loadT, s48, reduceIte, Nat.reduceEqDiff, Nat.reduceAdd]
  refine kNew_intro fun b H1 hb hE1 hH1 => ?_
  simp (disch := first | assumption | omega) only [↓RP, RQ, TY, loadT, reduceIte, Nat.reduceEqDiff, Nat.reduceAdd, hH1]
  refine sw_loop (σ := Nat × AV) (fun s e H' => e 11 = .int .i64 s.1 ∧ e 10 = .int .i64 n ∧ e 5 = s.2 ∧ e 1 = .int .u64 k ∧ e 2 = .ptr b 0 ∧ s.1 ≤ n.toNat ∧ Hp H1 H' [(s.2, ints (maskL s.1 k.testBit))]) (fun s => n.toNat - s.1) (0, .nils) ?_ ?_
  · simp (disch := first | assumption | omega) only [↓RP, RQ, TY, loadT, reduceIte, Nat.reduceEqDiff, Nat.reduceAdd]
    exact ⟨by omega, (Hp.nil (Ext.refl H1)).nils⟩
  rintro ⟨i, w⟩ e H' ⟨e11, e10, e5, e1, e2, hi, hP⟩
  dsimp only at *
  by_cases hlt : (i : Int) < n
  · simp (disch := first | assumption | omega) only [↓RP, RQ, TY, loadT, reduceIte, Nat.reduceEqDiff, Nat.reduceAdd, e11, e10, e5, e1, e2, hlt]
    rw [bit_and hk (by omega)]
    have ms := maskL_succ i k.testBit
    have ml := maskL_length i k.testBit
    cases hb2 : k.testBit i
    · rw [hb2] at ms
      simp (disch := first | assumption | omega) only [↓RP, RQ, TY, loadT, reduceIte, Nat.reduceEqDiff, Nat.reduceAdd, e11, e10, e5, e1, e2, Bool.false_eq_true, Int.reduceEq]
      refine ⟨(i + 1, w), ?_, by dsimp only; omega⟩
      simp (disch := first | assumption | omega) only [↓RP, RQ, TY, loadT, reduceIte, Nat.reduceEqDiff, Nat.reduceAdd, e11, e10, e5, e1, e2]
      refine ⟨by omega, ?_⟩
      rw [ms]
      simpa using hP
    · rw [hb2] at ms
      simp (disch := first | assumption | omega) only [↓RP, RQ, TY, loadT, reduceIte, Nat.reduceEqDiff, Nat.reduceAdd, e11, e10, e5, e1, e2, Int.reduceEq]
      refine kNew_intro fun b2 H2 hb2 hE2 hH2 => ?_
      simp (disch := first | assumption | omega) only [↓RP, RQ, TY, loadT, reduceIte, Nat.reduceEqDiff, Nat.reduceAdd, e11, e10, e5, e1, e2]
      refine kApp_hp (us := ints [(i : Int)]) (hP.more hE2) (Sl.own hH2 rfl) ints_ones (by simp [ints_length]; omega) (by simp [ints_length]; omega) fun v3 H3 hP3 => ?_
      rw [ints_app] at hP3
      simp (disch := first | assumption | omega) only [↓RP, RQ, TY, loadT, reduceIte, Nat.reduceEqDiff, Nat.reduceAdd, e11, e10, e5, e1, e2]
      refine ⟨(i + 1, v3), ?_, by dsimp only; omega⟩
      simp (disch := first | assumption | omega) only [↓RP, RQ, TY, loadT, reduceIte, Nat.reduceEqDiff, Nat.reduceAdd, e11, e10, e5, e1, e2]
      refine ⟨by omega, ?_⟩
      rw [ms]
      exact hP3
  · have hin : i = n.toNat := by omega
    rw [hin] at hP
    have ml := maskL_length n.toNat k.testBit
    have hE := hE1.trans hP.ext
    have hr' := hv.ext hE
    simp (disch := first | assumption | omega) only [↓RP, RQ, TY, loadT, reduceIte, Nat.reduceEqDiff, Nat.reduceAdd, e11, e10, e5, e1, e2, hlt, hP.ext.rw hH1]
    refine c_Rank A (hm.ext hE) hlm (hv.ext hE) (by omega) (fun j hj => by rw [ca.rect j hj]; omega) hP.head.sl (by omega) fun H4 hE4 => ?_
    simp (disch := first | assumption | omega) only [↓RP, RQ, TY, loadT, reduceIte, Nat.reduceEqDiff, Nat.reduceAdd]
    have := hQ H4 (hE.trans hE4)
    have hS : Subset n (maskL n.toNat k.testBit) := by
      have := maskL_subset k.testBit n.toNat
      rwa [show ((n.toNat : Nat) : Int) = n by omega] at this
    have e1 : rkErr p m mod n rows (maskL n.toNat k.testBit) = 0 := by rw [rkErr, if_neg (by simpa using h0), if_pos hS]
    rwa [rkVal, if_pos e1]
/-- the rank of a set of positions, as the program counts it -/
noncomputable def rankP (p m : Int) (mod : List Int) (n : Int) (rows : List (List Int)) (s : Nat → Bool) : Nat := (greedyL (fF p m mod) rows (maskL n.toNat s)).length
theorem greedyL_le {F : FOps} (ok : F.Ok) {rows : List (List Int)} (he : Els F rows) (order : List Int) : (greedyL F rows order).length ≤ order.length := by
  obtain ⟨h1, h2, h3⟩ := gAll_ok ok he order order.length
  rw [greedyL]; omega
theorem maskL_congr {n : Nat} {s t : Nat → Bool} (h : ∀ i, i < n → s i = t i) : maskL n s = maskL n t := by
  rw [maskL, maskL, List.filter_congr fun i hi => h i (by simpa using hi)]
theorem c_odim (A : Alg) {p m n : Int} {md v : AV} {mod : List Int} {us : List AV} {rows : List (List Int)} {k : Nat} {H : AH} {Q : AV → AH → Prop} (hm : Ints H md mod) (hlm : mod.length ≤ 9223372036854775807) (hv : Rows H v us rows) (h0 : codeErr p m mod n rows = 0) (hk : k < 18446744073709551616)
    (hQ : ∀ H', Ext H H' → Q (.int .i64 ((rankP p m mod n rows k.testBit : Int) + rankP p m mod n rows (fun i => !k.testBit i) - rows.length)) H') : AC Try.prog 30 [codeV p m md n v, .int .u64 k] H Q := by
  have ca := A.fo.ca h0 hm hv
  have n1 := ca.n1
  have n64 := ca.n64
  have kn := ca.kn
  refine at30 (by simp) ?_
  simp (disch := first | assumption | omega) only [↓RP, RQ, TY, loadT, s30, reduceIte, Nat.reduceEqDiff, Nat.reduceAdd]
  refine kNew_intro fun b H1 hb hE1 hH1 => ?_
  have hr1 := hv.ext hE1
  simp (disch := first | assumption | omega) only [↓RP, RQ, TY, loadT, reduceIte, Nat.reduceEqDiff, Nat.reduceAdd, hH1, hr1.run]
  refine c_orank A (hm.ext hE1) hlm hr1 h0 hk fun H2 hE2 => ?_
  have hE12 := hE1.trans hE2
  have h12 := hE2.rw hH1
  have hr2 := hv.ext hE12
  simp (disch := first | assumption | omega) only [↓RP, RQ, TY, loadT, reduceIte, Nat.reduceEqDiff, Nat.reduceAdd, h12, hr2.run]
  rw [bit_not hk]
  refine c_orank A (hm.ext hE12) hlm hr2 h0 (by omega) fun H3 hE3 => ?_
  have h13 := hE3.rw h12
  have hr3 := hr2.ext hE3
  have e1 : maskL n.toNat (2 ^ 64 - (k + 1)).testBit = maskL n.toNat (fun i => !k.testBit i) := maskL_congr fun i hi => by
    rw [Nat.testBit_two_pow_sub_succ (by omega)]
    simp [show i < 64 by omega]
  have l1 := greedyL_le ca.fa.ok ca.els (maskL n.toNat k.testBit)
  have l2 := greedyL_le ca.fa.ok ca.els (maskL n.toNat (fun i => !k.testBit i))
  have l3 := maskL_length n.toNat k.testBit
  have l4 := maskL_length n.toNat (fun i => !k.testBit i)
  rw [e1]
  simp (disch := first | assumption | omega) only [↓RP, RQ, TY, loadT, reduceIte, Nat.reduceEqDiff, Nat.reduceAdd, h13, hr3.run]
  exact hQ H3 (hE12.trans hE3)
end Go.Proofs.Yteijojnahpeglaa.AM
/-! The program's orderings, second part: Dimension. -/
namespace Go.Proofs.Yteijojnahpeglaa.AM
open Go Go.RowKit
set_option linter.unusedVariables false
set_option linter.unusedSimpArgs false
set_option maxRecDepth 20000
/-- the dimension of a set of positions, as the program counts it -/
noncomputable def dimP (p m : Int) (mod : List Int) (n : Int) (rows : List (List Int)) (s : Nat → Bool) : Int := (rankP p m mod n rows s : Int) + rankP p m mod n rows (fun i => !s i) - rows.length
/-- the positions of a list -/
def inL (set : List Int) : Nat → Bool := fun i => set.contains (i : Int)
open Classical in
noncomputable def dimValP (p m : Int) (mod : List Int) (n : Int) (rows : List (List Int)) (set : List Int) : Int := if dimErr p m mod n rows set = 0 then dimP p m mod n rows (inL set) else 0
theorem c_ODim (A : Alg) {p m n : Int} {md v sv : AV} {mod set : List Int} {us : List AV} {rows : List (List Int)} {H : AH} {Q : AV → AH → Prop} (hm : Ints H md mod) (hlm : mod.length ≤ 9223372036854775807) (hv : Rows H v us rows) (hs : Ints H sv set) (hl : rows.length ≤ 9223372036854775807) (hlr : ∀ i, i < rows.length → (rowAt rows i).length ≤ 9223372036854775807) (hls : set.length ≤ 9223372036854775807)
    (hQ : ∀ H', Ext H H' → Q (.tup [.int .i64 (dimValP p m mod n rows set), .int .i64 (dimErr p m mod n rows set)]) H') : AC Try.prog 11 [codeV p m md n v, sv] H Q := by
  refine at11 (by simp) ?_
  simp (disch := first | assumption | omega) only [↓RP, RQ, TY, loadT, s11, reduceIte, Nat.reduceEqDiff, Nat.reduceAdd]
  refine kNew_intro fun b H1 hb hE1 hH1 => ?_
  simp (disch := first | assumption | omega) only [↓RP, RQ, TY, loadT, reduceIte, Nat.reduceEqDiff, Nat.reduceAdd, hH1]
  refine c_cCheck A (hm.ext hE1) hlm (hv.ext hE1) hl hlr fun H2 hE2 => ?_
  have hE12 := hE1.trans hE2
  have h2 := hE2.rw hH1
  by_cases h0 : codeErr p m mod n rows = 0
  rotate_left
  · simp (disch := first | assumption | omega) only [↓RP, RQ, TY, loadT, reduceIte, Nat.reduceEqDiff, Nat.reduceAdd, eq_false h0]
    have := hQ H2 hE12
    have e1 : dimErr p m mod n rows set = codeErr p m mod n rows := by rw [dimErr, if_pos h0]
    rwa [dimValP, if_neg (by rw [e1]; exact h0), e1] at this
  have ca := A.fo.ca h0 (hm.ext hE12) (hv.ext hE12)
  have n1 := ca.n1
  have n64 := ca.n64
  have hs2 := hs.ext hE12
  have no : ¬ Subset n set → Q (.tup [.int .i64 0, .int .i64 5]) H2 := fun h => by
    have := hQ H2 hE12
    have e1 : dimErr p m mod n rows set = 5 := by rw [dimErr, if_neg (by simpa using h0), if_neg h]
    rwa [dimValP, if_neg (by rw [e1]; decide), e1] at this
  simp (disch := first | assumption | omega) only [↓RP, RQ, TY, loadT, reduceIte, Nat.reduceEqDiff, Nat.reduceAdd, eq_true h0, h2, hs2.ints]
  refine sw_loop (σ := Nat × Nat) (fun s e H' => e 17 = .int .i64 s.1 ∧ e 16 = .int .i64 set.length ∧ e 15 = sv ∧ e 7 = .int .u64 (s.2 : Nat) ∧ e 1 = sv ∧ e 2 = .ptr b 0 ∧ s.1 ≤ set.length ∧ H' = H2 ∧ s.2 < 18446744073709551616 ∧ (∀ i : Nat, s.2.testBit i = true ↔ (i : Int) ∈ set.take s.1) ∧ ∀ j, j < s.1 → 0 ≤ set.getD j 0 ∧ set.getD j 0 < n ∧ (0 < j → set.getD (j - 1) 0 < set.getD j 0)) (fun s => set.length - s.1) (0, 0) ?_ ?_
  · simp (disch := first | assumption | omega) only [↓RP, RQ, TY, loadT, reduceIte, Nat.reduceEqDiff, Nat.reduceAdd]
    exact ⟨by omega, by omega, fun i => by simp, fun j hj => by omega⟩
  rintro ⟨t, k⟩ e H' ⟨e17, e16, e15, e7, e1, e2, ht, rfl, hk, hbit, hj⟩
  dsimp only at *
  by_cases hlt : (t : Int) < set.length
  · by_cases c1 : set.getD t 0 < 0
    · simp (disch := first | assumption | omega) only [↓RP, RQ, TY, loadT, reduceIte, Nat.reduceEqDiff, Nat.reduceAdd, e17, e16, e15, e7, e1, e2, hlt, hs2.ints, h2, c1]
      exact no (fun q => absurd (q t (by omega)).1 (by omega))
    by_cases c2 : n ≤ set.getD t 0
    · simp (disch := first | assumption | omega) only [↓RP, RQ, TY, loadT, reduceIte, Nat.reduceEqDiff, Nat.reduceAdd, e17, e16, e15, e7, e1, e2, hlt, hs2.ints, h2, c1, c2]
      exact no (fun q => absurd (q t (by omega)).2.1 (by omega))
    obtain ⟨x, hx⟩ : ∃ x : Nat, set.getD t 0 = x := ⟨(set.getD t 0).toNat, by omega⟩
    obtain ⟨o1, o2⟩ := bit_or (k := k) (x := x) hk (by omega)
    have hbit' : ∀ i : Nat, (k ||| 2 ^ x).testBit i = true ↔ (i : Int) ∈ set.take (t + 1) := fun i => by
      rw [mem_take_succ (by omega), ← hbit i, Nat.testBit_or, Nat.testBit_two_pow, hx]
      simp only [Bool.or_eq_true, decide_eq_true_eq]
      exact or_congr Iff.rfl (by omega)
    have xn : x < 64 := by omega
    by_cases c3 : (0 : Int) < t
    · have ei : ((t : Int) - 1).toNat = t - 1 := by omega
      by_cases c4 : set.getD t 0 ≤ set.getD (t - 1) 0
      · simp (disch := first | assumption | omega) only [↓RP, RQ, TY, loadT, reduceIte, Nat.reduceEqDiff, Nat.reduceAdd, e17, e16, e15, e7, e1, e2, hlt, hs2.ints, h2, c1, c2, c3, ei, c4]
        exact no (fun q => absurd ((q t (by omega)).2.2 (by omega)) (by omega))
      · rw [hx] at c1 c2 c4
        simp (disch := first | assumption | omega) only [↓RP, RQ, TY, loadT, reduceIte, Nat.reduceEqDiff, Nat.reduceAdd, e17, e16, e15, e7, e1, e2, hlt, hs2.ints, h2, hx, c1, c2, c3, ei, c4, o1]
        refine ⟨(t + 1, k ||| 2 ^ x), ?_, by dsimp only; omega⟩
        simp (disch := first | assumption | omega) only [↓RP, RQ, TY, loadT, reduceIte, Nat.reduceEqDiff, Nat.reduceAdd, e17, e16, e15, e7, e1, e2]
        refine ⟨by omega, by omega, hbit', fun j h => ?_⟩
        by_cases hjt : j = t
        · rw [hjt]; exact ⟨by omega, by omega, fun _ => by omega⟩
        · exact hj j (by omega)
    · rw [hx] at c1 c2
      simp (disch := first | assumption | omega) only [↓RP, RQ, TY, loadT, reduceIte, Nat.reduceEqDiff, Nat.reduceAdd, e17, e16, e15, e7, e1, e2, hlt, hs2.ints, h2, hx, c1, c2, c3, o1]
      refine ⟨(t + 1, k ||| 2 ^ x), ?_, by dsimp only; omega⟩
      simp (disch := first | assumption | omega) only [↓RP, RQ, TY, loadT, reduceIte, Nat.reduceEqDiff, Nat.reduceAdd, e17, e16, e15, e7, e1, e2]
      refine ⟨by omega, by omega, hbit', fun j h => ?_⟩
      by_cases hjt : j = t
      · rw [hjt]; exact ⟨by omega, by omega, fun _ => by omega⟩
      · exact hj j (by omega)
  · have hS : Subset n set := fun j hj' => hj j (by omega)
    rw [List.take_of_length_le (by omega)] at hbit
    simp (disch := first | assumption | omega) only [↓RP, RQ, TY, loadT, reduceIte, Nat.reduceEqDiff, Nat.reduceAdd, e17, e16, e15, e7, e1, e2, hlt, h2]
    refine c_odim A (hm.ext hE12) hlm (hv.ext hE12) h0 hk fun H3 hE3 => ?_
    simp (disch := first | assumption | omega) only [↓RP, RQ, TY, loadT, reduceIte, Nat.reduceEqDiff, Nat.reduceAdd]
    have := hQ H3 (hE12.trans hE3)
    have e1 : dimErr p m mod n rows set = 0 := by rw [dimErr, if_neg (by simpa using h0), if_pos hS]
    have e2 : k.testBit = inL set := funext fun i => by
      rw [Bool.eq_iff_iff, hbit i, inL]; simp
    have e3 : (fun i => !k.testBit i) = fun i => !(inL set) i := by rw [← e2]
    rw [e3, e2]
    rwa [dimValP, if_pos e1, e1, dimP] at this
end Go.Proofs.Yteijojnahpeglaa.AM
