/- Helpers. The law OrderingSteps. · The law OrderingModular. -/
import Derived.Test.YteijojnahpeglaaKG
/-! The law OrderingSteps. -/
namespace Go.Proofs.Yteijojnahpeglaa.AM
open Go Go.RowKit
set_option linter.unusedVariables false
set_option linter.unusedSimpArgs false
set_option maxRecDepth 20000
theorem dimP_one {p m : Int} {mod : List Int} (h : (fF p m mod).Ok) {n : Int} (hn : 0 ≤ n) {rows : List (List Int)} (he : Els (fF p m mod) rows) {s t : Nat → Bool} {x : Nat} (hst : ∀ i, i < n.toNat → t i = (s i || decide (i = x))) : dimP p m mod n rows s ≤ dimP p m mod n rows t + 1 ∧ dimP p m mod n rows t ≤ dimP p m mod n rows s + 1 := by
  letI := h.fd
  have a1 := (clo (colV h rows)).R_one (s := s) (t := t) (p := x) hst
  have a2 := (clo (colV h rows)).R_mono (n := n.toNat) (s := s) (t := t) fun i hi q => by rw [hst i hi, q]; rfl
  by_cases hx : x < n.toNat ∧ s x = false
  · have a3 := (clo (colV h rows)).R_one (n := n.toNat) (s := fun i => !t i) (t := fun i => !s i) (p := x) fun i hi => by
      rw [hst i hi]
      by_cases q : i = x
      · subst q; simp [hx.2]
      · simp [q]
    have a4 := (clo (colV h rows)).R_mono (n := n.toNat) (s := fun i => !t i) (t := fun i => !s i) fun i hi q => by
      rw [hst i hi] at q
      simp at q
      simp [q.1]
    rw [dimP, dimP, rankP_R h he, rankP_R h he, rankP_R h he, rankP_R h he]
    omega
  · have e : dimP p m mod n rows t = dimP p m mod n rows s := dimP_congr fun i hi => by
      rw [hst i (by omega)]
      by_cases q : i = x
      · subst q
        have : s i = true := by
          cases hs : s i with
          | true => rfl
          | false => exact absurd ⟨by omega, hs⟩ hx
        simp [this]
      · simp [q]
    omega
theorem dimP_ge {p m n : Int} {mod : List Int} {rows : List (List Int)} (s : Nat → Bool) : -(rows.length : Int) ≤ dimP p m mod n rows s := by rw [dimP]; omega
theorem maskL_len (k : Nat) (s : Nat → Bool) : (maskL k s).length ≤ k := by
  rw [maskL, natsI_length]
  have := List.length_filter_le s (List.range k)
  simpa using this
theorem contains_take_succ {set : List Int} {i : Nat} (hi : i < set.length) (x : Int) : (set.take (i + 1)).contains x = ((set.take i).contains x || decide (set.getD i 0 = x)) := by
  rw [Bool.eq_iff_iff]
  simp only [List.contains_iff_mem, Bool.or_eq_true, decide_eq_true_eq]
  rw [mem_take_succ hi]
  exact or_congr Iff.rfl eq_comm
theorem law_Steps (A : Alg) {p m n : Int} {md v sv : AV} {mod set : List Int} {us : List AV} {rows : List (List Int)} {H : AH} (hm : Ints H md mod) (hlm : mod.length ≤ 9223372036854775807) (hv : Rows H v us rows) (hl : rows.length ≤ 9223372036854775807) (hlr : ∀ i, i < rows.length → (rowAt rows i).length ≤ 9223372036854775807) (hs : Ints H sv set) (hls : set.length ≤ 9223372036854775807) (x : Int) :
    AC Try.prog 5 [codeV p m md n v, sv, .int .i64 x] H fun r H' => r = .bool true ∧ Ext H H' := by
  refine at5 (by simp) ?_
  simp (disch := first | assumption | omega) only [↓RP, RQ, TY, loadT, s5, reduceIte, Nat.reduceEqDiff, Nat.reduceAdd]
  refine kNew_intro fun b H1 hb hE1 hH1 => ?_
  simp (disch := first | assumption | omega) only [↓RP, RQ, TY, loadT, reduceIte, Nat.reduceEqDiff, Nat.reduceAdd, hH1]
  refine c_alive A fun H2 hE2 => ?_
  have hE12 := hE1.trans hE2
  have h2 := hE2.rw hH1
  simp (disch := first | assumption | omega) only [↓RP, RQ, TY, loadT, reduceIte, Nat.reduceEqDiff, Nat.reduceAdd, h2]
  refine c_Check12 A.fo (hm.ext hE12) (hv.ext hE12) hl hlr fun H3 hE3 => ?_
  have hE13 := hE12.trans hE3
  have h3 := hE3.rw h2
  by_cases h0 : codeErr p m mod n rows = 0
  rotate_left
  · simp (disch := first | assumption | omega) only [↓RP, RQ, TY, loadT, reduceIte, Nat.reduceEqDiff, Nat.reduceAdd, eq_false h0, h3]
    exact ⟨rfl, hE13⟩
  simp (disch := first | assumption | omega) only [↓RP, RQ, TY, loadT, reduceIte, Nat.reduceEqDiff, Nat.reduceAdd, eq_true h0, h3]
  have hs3 := hs.ext hE13
  refine c_IsSubset hs3 hls ?_
  by_cases hS : Subset n set
  rotate_left
  · simp (disch := first | assumption | omega) only [↓RP, RQ, TY, loadT, reduceIte, Nat.reduceEqDiff, Nat.reduceAdd, hS, h3]
    exact ⟨rfl, hE13⟩
  have ca := A.fo.ca h0 (hm.ext hE13) (hv.ext hE13)
  have n1 := ca.n1
  have n64 := ca.n64
  by_cases c1 : x < 0
  · simp (disch := first | assumption | omega) only [↓RP, RQ, TY, loadT, reduceIte, Nat.reduceEqDiff, Nat.reduceAdd, hS, h3, c1]
    exact ⟨rfl, hE13⟩
  by_cases c2 : n ≤ x
  · simp (disch := first | assumption | omega) only [↓RP, RQ, TY, loadT, reduceIte, Nat.reduceEqDiff, Nat.reduceAdd, hS, h3, c1, c2]
    exact ⟨rfl, hE13⟩
  simp (disch := first | assumption | omega) only [↓RP, RQ, TY, loadT, reduceIte, Nat.reduceEqDiff, Nat.reduceAdd, hS, h3, c1, c2]
  refine kNew_intro fun b4 H4 hb4 hE4 hH4 => ?_
  have hE14 := hE13.trans hE4
  have h4 := hE4.rw h3
  have f4 := hE13.free hb4
  have nb : b ≠ b4 := fun q => by rw [← q, h3] at hb4; cases hb4
  simp (disch := first | assumption | omega) only [↓RP, RQ, TY, loadT, reduceIte, Nat.reduceEqDiff, Nat.reduceAdd]
  refine sw_loop (σ := Nat × AV) (fun s e H' => e 8 = .int .i64 s.1 ∧ e 7 = s.2 ∧ e 3 = .ptr b 0 ∧ e 1 = sv ∧ e 2 = .int .i64 x ∧ s.1 ≤ n.toNat ∧ Ext H H' ∧ H' b = .rw [.int .i64 p, .int .i64 m, md, .int .i64 n, v] ∧ Off s.2 b ∧ Own H H' s.2 (ints (maskL s.1 fun i => decide ((i : Int) = x) || set.contains (i : Int)))) (fun s => n.toNat - s.1) (0, .sl b4 0 0 (.own 1)) ?_ ?_
  · simp (disch := first | assumption | omega) only [↓RP, RQ, TY, loadT, reduceIte, Nat.reduceEqDiff, Nat.reduceAdd]
    refine ⟨by omega, hE14, h4, fun o n c q => (by cases q; exact nb rfl), Own.mk hH4 f4 rfl⟩
  rintro ⟨q, w⟩ e H5 ⟨e8, e7, e3, e1, e2, hq, hE5, h5, hoff, ho⟩
  dsimp only at *
  have hs5 := hs.ext hE5
  by_cases hin : (q : Int) < n
  · simp (disch := first | assumption | omega) only [↓RP, RQ, TY, loadT, reduceIte, Nat.reduceEqDiff, Nat.reduceAdd, e8, e7, e3, e1, e2, hin, h5]
    refine sw_loop (σ := Nat) (fun i e H' => e 10 = .int .i64 i ∧ e 9 = .bool (decide ((q : Int) = x) || (set.take i).contains (q : Int)) ∧ e 8 = .int .i64 q ∧ e 7 = w ∧ e 3 = .ptr b 0 ∧ e 1 = sv ∧ e 2 = .int .i64 x ∧ i ≤ set.length ∧ H' = H5) (fun i => set.length - i) 0 ?_ ?_
    · simp (disch := first | assumption | omega) only [↓RP, RQ, TY, loadT, reduceIte, Nat.reduceEqDiff, Nat.reduceAdd, e8, e7, e3, e1, e2]
      simp
    rintro i e' H' ⟨g10, g9, g8, g7, g3, g1, g2, hi, rfl⟩
    by_cases hlt : (i : Int) < set.length
    · have hc := contains_take_succ (set := set) (i := i) (by omega) (q : Int)
      cases hB : (decide ((q : Int) = x) || (set.take i).contains (q : Int))
      · rw [hB] at g9
        simp (disch := first | assumption | omega) only [↓RP, RQ, TY, loadT, reduceIte, Nat.reduceEqDiff, Nat.reduceAdd, g10, g9, g8, g7, g3, g1, g2, hlt, hs5.ints]
        refine ⟨i + 1, ?_, by dsimp only; omega⟩
        simp (disch := first | assumption | omega) only [↓RP, RQ, TY, loadT, reduceIte, Nat.reduceEqDiff, Nat.reduceAdd, g10, g9, g8, g7, g3, g1, g2]
        refine ⟨?_, by omega⟩
        rw [hc, ← Bool.or_assoc, hB]
        simp
      · rw [hB] at g9
        simp (disch := first | assumption | omega) only [↓RP, RQ, TY, loadT, reduceIte, Nat.reduceEqDiff, Nat.reduceAdd, g10, g9, g8, g7, g3, g1, g2, hlt, hs5.ints]
        refine ⟨i + 1, ?_, by dsimp only; omega⟩
        simp (disch := first | assumption | omega) only [↓RP, RQ, TY, loadT, reduceIte, Nat.reduceEqDiff, Nat.reduceAdd, g10, g9, g8, g7, g3, g1, g2]
        refine ⟨?_, by omega⟩
        rw [hc, ← Bool.or_assoc, hB]
        simp
    · rw [List.take_of_length_le (by omega)] at g9
      have hml := maskL_len q fun i => decide ((i : Int) = x) || set.contains (i : Int)
      have hms := maskL_succ q fun i => decide ((i : Int) = x) || set.contains (i : Int)
      cases hB : (decide ((q : Int) = x) || set.contains (q : Int))
      · rw [hB] at g9 hms
        simp (disch := first | assumption | omega) only [↓RP, RQ, TY, loadT, reduceIte, Nat.reduceEqDiff, Nat.reduceAdd, g10, g9, g8, g7, g3, g1, g2, hlt, hs5.ints]
        refine ⟨(q + 1, w), ?_, by dsimp only; omega⟩
        simp (disch := first | assumption | omega) only [↓RP, RQ, TY, loadT, reduceIte, Nat.reduceEqDiff, Nat.reduceAdd, g10, g9, g8, g7, g3, g1, g2]
        refine ⟨by omega, hE5, h5, hoff, ?_⟩
        rw [hms]
        simpa using ho
      · rw [hB] at g9 hms
        simp (disch := first | assumption | omega) only [↓RP, RQ, TY, loadT, reduceIte, Nat.reduceEqDiff, Nat.reduceAdd, g10, g9, g8, g7, g3, g1, g2, hlt, hs5.ints]
        refine kNew_intro fun b6 H6 hb6 hE6 hH6 => ?_
        simp (disch := first | assumption | omega) only [↓RP, RQ, TY, loadT, reduceIte, Nat.reduceEqDiff, Nat.reduceAdd]
        refine kApp_own (H0 := H) (us := ints [(q : Int)]) (ho.ext hE6) (hE5.trans hE6) (Sl.own hH6 rfl) ints_ones (by rw [ints_length, ints_length, List.length_singleton]; omega) (by rw [ints_length, ints_length, List.length_singleton]; omega) fun v7 H7 hE7 ho7 keep7 => ?_
        simp (disch := first | assumption | omega) only [↓RP, RQ, TY, loadT, reduceIte, Nat.reduceEqDiff, Nat.reduceAdd, g10, g9, g8, g7, g3, g1, g2]
        refine ⟨(q + 1, v7), ?_, by dsimp only; omega⟩
        simp (disch := first | assumption | omega) only [↓RP, RQ, TY, loadT, reduceIte, Nat.reduceEqDiff, Nat.reduceAdd, g10, g9, g8, g7, g3, g1, g2]
        obtain ⟨k1, k2⟩ := keep7 b _ (hE6.rw h5) hoff
        refine ⟨by omega, hE7, k1, k2, ?_⟩
        rw [hms]
        rw [ints_app] at ho7
        simpa using ho7
  · rw [show q = n.toNat by omega] at ho
    have hml := maskL_len n.toNat fun i => decide ((i : Int) = x) || set.contains (i : Int)
    simp (disch := first | assumption | omega) only [↓RP, RQ, TY, loadT, reduceIte, Nat.reduceEqDiff, Nat.reduceAdd, e8, e7, e3, e1, e2, hin, h5]
    refine c_ODim A (hm.ext hE5) hlm (hv.ext hE5) hs5 hl hlr hls fun H6 hE6 => ?_
    have h6 := hE6.rw h5
    have hE16 := hE5.trans hE6
    simp (disch := first | assumption | omega) only [↓RP, RQ, TY, loadT, reduceIte, Nat.reduceEqDiff, Nat.reduceAdd, e8, e7, e3, e1, e2, h6]
    refine c_ODim A (hm.ext hE16) hlm (hv.ext hE16) (ho.ext hE6).sl hl hlr (by omega) fun H7 hE7 => ?_
    have hS2 : Subset n (maskL n.toNat fun i => decide ((i : Int) = x) || set.contains (i : Int)) := by
      have := maskL_subset (fun i => decide ((i : Int) = x) || set.contains (i : Int)) n.toNat
      rwa [show ((n.toNat : Nat) : Int) = n by omega] at this
    have e1 : dimErr p m mod n rows set = 0 := dimErr_ok h0 hS
    have e2 : dimErr p m mod n rows (maskL n.toNat fun i => decide ((i : Int) = x) || set.contains (i : Int)) = 0 := dimErr_ok h0 hS2
    have e3 : dimValP p m mod n rows set = dimP p m mod n rows (inL set) := by rw [dimValP, if_pos e1]
    have e4 : dimValP p m mod n rows (maskL n.toNat fun i => decide ((i : Int) = x) || set.contains (i : Int)) = dimP p m mod n rows (fun i => decide ((i : Int) = x) || set.contains (i : Int)) := by
      rw [dimValP, if_pos e2]
      exact dimP_congr fun i hi => inL_mask n.toNat _ i (by omega)
    obtain ⟨d1, d2⟩ := dimP_one ca.fa.ok (n := n) (by omega) ca.els (s := inL set) (t := fun i => decide ((i : Int) = x) || set.contains (i : Int)) (x := x.toNat) fun i hi => by
      rw [Bool.or_comm, inL]
      congr 1
      exact decide_eq_decide.mpr (by omega)
    obtain ⟨b1, b2⟩ := dimP_le ca.fa.ok (n := n) (by omega) ca.els (inL set)
    obtain ⟨b3, b4⟩ := dimP_le ca.fa.ok (n := n) (by omega) ca.els (fun i => decide ((i : Int) = x) || set.contains (i : Int))
    have kn := ca.kn
    have b5 := dimP_ge (p := p) (m := m) (n := n) (mod := mod) (rows := rows) (inL set)
    have b6 := dimP_ge (p := p) (m := m) (n := n) (mod := mod) (rows := rows) (fun i => decide ((i : Int) = x) || set.contains (i : Int))
    rw [e1, e2, e3, e4]
    simp (disch := first | assumption | omega) only [↓RP, RQ, TY, loadT, reduceIte, Nat.reduceEqDiff, Nat.reduceAdd, d1, d2, Int.reduceEq]
    exact ⟨rfl, hE16.trans hE7⟩
end Go.Proofs.Yteijojnahpeglaa.AM
/-! The law OrderingModular. -/
namespace Go.Proofs.Yteijojnahpeglaa.AM
open Go Go.RowKit
set_option linter.unusedVariables false
set_option linter.unusedSimpArgs false
set_option maxRecDepth 20000
theorem dimP_sub {p m : Int} {mod : List Int} (h : (fF p m mod).Ok) {n : Int} {rows : List (List Int)} (he : Els (fF p m mod) rows) (s t : Nat → Bool) : dimP p m mod n rows (fun i => s i || t i) + dimP p m mod n rows (fun i => s i && t i) ≤ dimP p m mod n rows s + dimP p m mod n rows t := by
  letI := h.fd
  have a1 := (clo (colV h rows)).R_sub n.toNat s t
  have a2 := (clo (colV h rows)).R_sub n.toNat (fun i => !s i) (fun i => !t i)
  have e1 : (fun i => !(s i || t i)) = fun i => !s i && !t i := funext fun i => by simp
  have e2 : (fun i => !(s i && t i)) = fun i => !s i || !t i := funext fun i => by simp
  rw [dimP, dimP, dimP, dimP, e1, e2]
  simp only [rankP_R h he]
  omega
theorem count_take_succ {set : List Int} {i : Nat} (hi : i < set.length) (x : Int) : (set.take (i + 1)).count x = (set.take i).count x + if set.getD i 0 = x then 1 else 0 := by
  rw [← take_push 0 hi, List.count_append, List.count_singleton]
  by_cases q : set.getD i 0 = x <;> simp [q]
theorem Subset.count {n : Int} {s : List Int} (h : Subset n s) (x : Int) : s.count x = if s.contains x = true then 1 else 0 := by
  by_cases q : s.contains x = true
  · rw [if_pos q]
    have h1 := List.nodup_iff_count.mp h.nodup x
    have h2 := List.count_pos_iff.mpr (List.contains_iff_mem.mp q)
    omega
  · rw [if_neg q]
    exact List.count_eq_zero.mpr fun w => q (List.contains_iff_mem.mpr w)
theorem maskL_yes {n : Nat} {s : Nat → Bool} (h : s n = true) : maskL (n + 1) s = maskL n s ++ [(n : Int)] := by rw [maskL_succ, if_pos h]
theorem maskL_no {n : Nat} {s : Nat → Bool} (h : s n = false) : maskL (n + 1) s = maskL n s := by rw [maskL_succ, if_neg (by simp [h]), List.append_nil]
theorem count_take_le (s : List Int) (i : Nat) (x : Int) : (s.take i).count x ≤ s.length := Nat.le_trans List.count_le_length (by rw [List.length_take]; omega)
theorem law_Modular (A : Alg) {p m n : Int} {md v sv tv : AV} {mod set tet : List Int} {us : List AV} {rows : List (List Int)} {H : AH} (hm : Ints H md mod) (hlm : mod.length ≤ 9223372036854775807) (hv : Rows H v us rows) (hl : rows.length ≤ 9223372036854775807) (hlr : ∀ i, i < rows.length → (rowAt rows i).length ≤ 9223372036854775807) (hs : Ints H sv set) (hls : set.length ≤ 9223372036854775807) (ht : Ints H tv tet) (hlt : tet.length ≤ 9223372036854775807) :
    AC Try.prog 4 [codeV p m md n v, sv, tv] H fun r H' => r = .bool true ∧ Ext H H' := by
  refine at4 (by simp) ?_
  simp (disch := first | assumption | omega) only [↓RP, RQ, TY, loadT, s4, reduceIte, Nat.reduceEqDiff, Nat.reduceAdd]
  refine kNew_intro fun b H1 hb hE1 hH1 => ?_
  simp (disch := first | assumption | omega) only [↓RP, RQ, TY, loadT, reduceIte, Nat.reduceEqDiff, Nat.reduceAdd, hH1]
  refine c_alive A fun H2 hE2 => ?_
  have hE12 := hE1.trans hE2
  have h2 := hE2.rw hH1
  simp (disch := first | assumption | omega) only [↓RP, RQ, TY, loadT, reduceIte, Nat.reduceEqDiff, Nat.reduceAdd, h2]
  refine c_Check12 A.fo (hm.ext hE12) (hv.ext hE12) hl hlr fun H3 hE3 => ?_
  have hE13 := hE12.trans hE3
  have h3 := hE3.rw h2
  by_cases h0 : codeErr p m mod n rows = 0
  rotate_left
  · simp (disch := first | assumption | omega) only [↓RP, RQ, TY, loadT, reduceIte, Nat.reduceEqDiff, Nat.reduceAdd, eq_false h0, h3]
    exact ⟨rfl, hE13⟩
  simp (disch := first | assumption | omega) only [↓RP, RQ, TY, loadT, reduceIte, Nat.reduceEqDiff, Nat.reduceAdd, eq_true h0, h3]
  have hs3 := hs.ext hE13
  have ht3 := ht.ext hE13
  refine c_IsSubset hs3 hls ?_
  by_cases hS : Subset n set
  rotate_left
  · simp (disch := first | assumption | omega) only [↓RP, RQ, TY, loadT, reduceIte, Nat.reduceEqDiff, Nat.reduceAdd, hS, h3]
    exact ⟨rfl, hE13⟩
  simp (disch := first | assumption | omega) only [↓RP, RQ, TY, loadT, reduceIte, Nat.reduceEqDiff, Nat.reduceAdd, hS, h3]
  refine c_IsSubset ht3 hlt ?_
  by_cases hT : Subset n tet
  rotate_left
  · simp (disch := first | assumption | omega) only [↓RP, RQ, TY, loadT, reduceIte, Nat.reduceEqDiff, Nat.reduceAdd, hT, h3]
    exact ⟨rfl, hE13⟩
  have ca := A.fo.ca h0 (hm.ext hE13) (hv.ext hE13)
  have n1 := ca.n1
  have n64 := ca.n64
  have hSl := hS.length (by omega)
  have hTl := hT.length (by omega)
  simp (disch := first | assumption | omega) only [↓RP, RQ, TY, loadT, reduceIte, Nat.reduceEqDiff, Nat.reduceAdd, hT, h3]
  refine kNew_intro fun b4 H4 hb4 hE4 hH4 => ?_
  rw [ints_rep] at hH4
  have hE14 := hE13.trans hE4
  have hp1 := (Hp.nil (Ext.refl H)).new hb hE1 hH1 rfl
  have hp4 := (hp1.more (hE2.trans hE3)).new (n := n.toNat) hb4 hE4 hH4 (by simp [ints_length])
  simp (disch := first | assumption | omega) only [↓RP, RQ, TY, loadT, reduceIte, Nat.reduceEqDiff, Nat.reduceAdd]
  refine sw_loop (σ := Nat × List Int) (fun s e H' => e 8 = .int .i64 s.1 ∧ e 7 = .sl b4 0 n.toNat (.own 1) ∧ e 3 = .ptr b 0 ∧ e 1 = sv ∧ e 2 = tv ∧ s.1 ≤ set.length ∧ Hp H H' [(.sl b4 0 n.toNat (.own 1), ints s.2), (.sl b 0 5 (.own 1), [.int .i64 p, .int .i64 m, md, .int .i64 n, v])] ∧ s.2.length = n.toNat ∧ ∀ j, j < n.toNat → s.2.getD j 0 = ((set.take s.1).count (j : Int) : Nat)) (fun s => set.length - s.1) (0, List.replicate n.toNat 0) ?_ ?_
  · simp (disch := first | assumption | omega) only [↓RP, RQ, TY, loadT, reduceIte, Nat.reduceEqDiff, Nat.reduceAdd]
    exact ⟨by omega, hp4, by simp, fun j hj => by simp [List.getD_eq_getElem?_getD, hj]⟩
  rintro ⟨i, L⟩ e H5 ⟨e8, e7, e3, e1, e2, hi, hp5, hLl, hLs⟩
  dsimp only at *
  have hs5 := hs.ext hp5.ext
  have hL5 := (hp5.blkOf (y := (.sl b4 0 n.toNat (.own 1), ints L)) (by simp) rfl).1
  by_cases hin : (i : Int) < set.length
  · have hp := hS.poss i (by omega)
    have hil := ints_length L
    have hx := hLs (set.getD i 0).toNat (by omega)
    have hy := count_take_le set i (((set.getD i 0).toNat : Nat) : Int)
    obtain ⟨z, hz⟩ : ∃ z : Nat, (set.take i).count (((set.getD i 0).toNat : Nat) : Int) = z := ⟨_, rfl⟩
    rw [hz] at hx hy
    simp (disch := first | assumption | omega) only [↓RP, RQ, TY, loadT, reduceIte, Nat.reduceEqDiff, Nat.reduceAdd, e8, e7, e3, e1, e2, hin, hs5.ints, hL5, ints_get, hx, ints_set]
    refine ⟨(i + 1, L.set (set.getD i 0).toNat ((z : Int) + 1)), ?_, by dsimp only; omega⟩
    simp (disch := first | assumption | omega) only [↓RP, RQ, TY, loadT, reduceIte, Nat.reduceEqDiff, Nat.reduceAdd, e8, e7, e3, e1, e2]
    refine ⟨by omega, hp5.upd (by simp [ints_length]), by simpa using hLl, fun j hj => ?_⟩
    rw [count_take_succ (by omega), getD_setN]
    by_cases hjs : j = (set.getD i 0).toNat
    · rw [if_pos ⟨hjs, by omega⟩, if_pos (by omega), hjs, hz]
      omega
    · rw [if_neg (fun q => hjs q.1), if_neg (by omega), hLs j hj]
      omega
  rw [List.take_of_length_le (by omega)] at hLs
  simp (disch := first | assumption | omega) only [↓RP, RQ, TY, loadT, reduceIte, Nat.reduceEqDiff, Nat.reduceAdd, e8, e7, e3, e1, e2, hin, hs5.ints]
  refine sw_loop (σ := Nat × List Int) (fun s e H' => e 9 = .int .i64 s.1 ∧ e 7 = .sl b4 0 n.toNat (.own 1) ∧ e 3 = .ptr b 0 ∧ e 1 = sv ∧ e 2 = tv ∧ s.1 ≤ tet.length ∧ Hp H H' [(.sl b4 0 n.toNat (.own 1), ints s.2), (.sl b 0 5 (.own 1), [.int .i64 p, .int .i64 m, md, .int .i64 n, v])] ∧ s.2.length = n.toNat ∧ ∀ j, j < n.toNat → s.2.getD j 0 = ((set.count (j : Int) + (tet.take s.1).count (j : Int) : Nat) : Int)) (fun s => tet.length - s.1) (0, L) ?_ ?_
  · simp (disch := first | assumption | omega) only [↓RP, RQ, TY, loadT, reduceIte, Nat.reduceEqDiff, Nat.reduceAdd, e8, e7, e3, e1, e2]
    exact ⟨by omega, hp5, hLl, fun j hj => by simpa using hLs j hj⟩
  clear hin hLs hL5 hs5 e8 e7 e3 e1 e2 hLl hi hp5
  rintro ⟨i', L'⟩ e' H6 ⟨e9, e7, e3, e1, e2, hi, hp6, hLl, hLs⟩
  dsimp only at *
  have ht6 := ht.ext hp6.ext
  have hL6 := (hp6.blkOf (y := (.sl b4 0 n.toNat (.own 1), ints L')) (by simp) rfl).1
  by_cases hin : (i' : Int) < tet.length
  · have hp := hT.poss i' (by omega)
    have hil := ints_length L'
    have hx := hLs (tet.getD i' 0).toNat (by omega)
    have hy := count_take_le tet i' (((tet.getD i' 0).toNat : Nat) : Int)
    have hy2 : set.count (((tet.getD i' 0).toNat : Nat) : Int) ≤ set.length := List.count_le_length
    obtain ⟨z, hz⟩ : ∃ z : Nat, set.count (((tet.getD i' 0).toNat : Nat) : Int) + (tet.take i').count (((tet.getD i' 0).toNat : Nat) : Int) = z := ⟨_, rfl⟩
    rw [hz] at hx
    simp (disch := first | assumption | omega) only [↓RP, RQ, TY, loadT, reduceIte, Nat.reduceEqDiff, Nat.reduceAdd, e9, e7, e3, e1, e2, hin, ht6.ints, hL6, ints_get, hx, ints_set]
    refine ⟨(i' + 1, L'.set (tet.getD i' 0).toNat ((z : Int) + 1)), ?_, by dsimp only; omega⟩
    simp (disch := first | assumption | omega) only [↓RP, RQ, TY, loadT, reduceIte, Nat.reduceEqDiff, Nat.reduceAdd, e9, e7, e3, e1, e2]
    refine ⟨by omega, hp6.upd (by simp [ints_length]), by simpa using hLl, fun j hj => ?_⟩
    rw [count_take_succ (by omega), getD_setN]
    by_cases hjs : j = (tet.getD i' 0).toNat
    · rw [if_pos ⟨hjs, by omega⟩, if_pos (by omega), hjs]
      omega
    · rw [if_neg (fun q => hjs q.1), if_neg (by omega), hLs j hj]
      omega
  rw [List.take_of_length_le (by omega)] at hLs
  simp (disch := first | assumption | omega) only [↓RP, RQ, TY, loadT, reduceIte, Nat.reduceEqDiff, Nat.reduceAdd, e9, e7, e3, e1, e2, hin, ht6.ints]
  refine kNew_intro fun b7 H7 hb7 hE7 hH7 => ?_
  simp (disch := first | assumption | omega) only [↓RP, RQ, TY, loadT, reduceIte, Nat.reduceEqDiff, Nat.reduceAdd]
  refine kNew_intro fun b8 H8 hb8 hE8 hH8 => ?_
  simp (disch := first | assumption | omega) only [↓RP, RQ, TY, loadT, reduceIte, Nat.reduceEqDiff, Nat.reduceAdd]
  have hp8 := (hp6.new hb7 hE7 hH7 rfl).new hb8 hE8 hH8 rfl
  refine sw_loop (σ := Nat × AV × AV) (fun s e H' => e 12 = .int .i64 s.1 ∧ e 10 = s.2.1 ∧ e 11 = s.2.2 ∧ e 7 = .sl b4 0 n.toNat (.own 1) ∧ e 3 = .ptr b 0 ∧ e 1 = sv ∧ e 2 = tv ∧ s.1 ≤ n.toNat ∧ Hp H H' [(s.2.2, ints (maskL s.1 fun i => inL set i && inL tet i)), (s.2.1, ints (maskL s.1 fun i => inL set i || inL tet i)), (.sl b4 0 n.toNat (.own 1), ints L'), (.sl b 0 5 (.own 1), [.int .i64 p, .int .i64 m, md, .int .i64 n, v])]) (fun s => n.toNat - s.1) (0, .sl b7 0 0 (.own 1), .sl b8 0 0 (.own 1)) ?_ ?_
  · simp (disch := first | assumption | omega) only [↓RP, RQ, TY, loadT, reduceIte, Nat.reduceEqDiff, Nat.reduceAdd, e9, e7, e3, e1, e2]
    exact ⟨by omega, hp8⟩
  clear hp8 hH7 hH8 hb7 hb8 hE7 hE8 hin e9 e7 e3 e1 e2 hL6 ht6 hp6 hi hp4 hp1 hE4
  rintro ⟨q, w1, w2⟩ e H9 ⟨e12, e10, e11, e7, e3, e1, e2, hq, hp⟩
  dsimp only at *
  have h9 := (hp.blkOf (y := (.sl b 0 5 (.own 1), [.int .i64 p, .int .i64 m, md, .int .i64 n, v])) (by simp) rfl).1
  have hL9 := (hp.blkOf (y := (.sl b4 0 n.toNat (.own 1), ints L')) (by simp) rfl).1
  by_cases hin : (q : Int) < n
  · have hx := hLs q (by omega)
    have hil := ints_length L'
    rw [hS.count, hT.count] at hx
    have m1 := maskL_length q fun i => inL set i && inL tet i
    have m2 := maskL_length q fun i => inL set i || inL tet i
    have hx1 : (¬ 0 < L'.getD q 0 ↔ (set.contains (q : Int) || tet.contains (q : Int)) = false) := by
      rw [hx]; cases set.contains (q : Int) <;> cases tet.contains (q : Int) <;> simp
    have hx2 : (¬ 1 < L'.getD q 0 ↔ (set.contains (q : Int) && tet.contains (q : Int)) = false) := by
      rw [hx]; cases set.contains (q : Int) <;> cases tet.contains (q : Int) <;> simp
    clear hx
    by_cases g1 : 0 < L'.getD q 0
    · have k1 : (set.contains (q : Int) || tet.contains (q : Int)) = true := by
        cases h : (set.contains (q : Int) || tet.contains (q : Int)) with
        | true => rfl
        | false => exact absurd g1 (hx1.mpr h)
      have n2 := maskL_yes (n := q) (s := fun i => inL set i || inL tet i) k1
      simp (disch := first | assumption | omega) only [↓RP, RQ, TY, loadT, reduceIte, Nat.reduceEqDiff, Nat.reduceAdd, e12, e10, e11, e7, e3, e1, e2, hin, h9, hL9, ints_get, g1]
      refine kNew_intro fun b10 H10 hb10 hE10 hH10 => ?_
      simp (disch := first | assumption | omega) only [↓RP, RQ, TY, loadT, reduceIte, Nat.reduceEqDiff, Nat.reduceAdd]
      refine kApp_hp (us := ints [(q : Int)]) (((hp.more hE10)).perm (List.Perm.swap _ _ _)) (Sl.own hH10 rfl) ints_ones (by rw [ints_length, ints_length, List.length_singleton]; omega) (by rw [ints_length, ints_length, List.length_singleton]; omega) fun v11 H11 hp11 => ?_
      rw [ints_app] at hp11
      have hL11 := (hp11.blkOf (y := (.sl b4 0 n.toNat (.own 1), ints L')) (by simp) rfl).1
      by_cases g2 : 1 < L'.getD q 0
      · have k2 : (set.contains (q : Int) && tet.contains (q : Int)) = true := by
          cases h : (set.contains (q : Int) && tet.contains (q : Int)) with
          | true => rfl
          | false => exact absurd g2 (hx2.mpr h)
        have n1 := maskL_yes (n := q) (s := fun i => inL set i && inL tet i) k2
        simp (disch := first | assumption | omega) only [↓RP, RQ, TY, loadT, reduceIte, Nat.reduceEqDiff, Nat.reduceAdd, e12, e10, e11, e7, e3, e1, e2, hin, hL11, ints_get, g2]
        refine kNew_intro fun b12 H12 hb12 hE12 hH12 => ?_
        simp (disch := first | assumption | omega) only [↓RP, RQ, TY, loadT, reduceIte, Nat.reduceEqDiff, Nat.reduceAdd]
        refine kApp_hp (us := ints [(q : Int)]) (((hp11.more hE12)).perm (List.Perm.swap _ _ _)) (Sl.own hH12 rfl) ints_ones (by rw [ints_length, ints_length, List.length_singleton]; omega) (by rw [ints_length, ints_length, List.length_singleton]; omega) fun v13 H13 hp13 => ?_
        rw [ints_app] at hp13
        simp (disch := first | assumption | omega) only [↓RP, RQ, TY, loadT, reduceIte, Nat.reduceEqDiff, Nat.reduceAdd, e12, e10, e11, e7, e3, e1, e2]
        refine ⟨(q + 1, v11, v13), ?_, by dsimp only; omega⟩
        simp (disch := first | assumption | omega) only [↓RP, RQ, TY, loadT, reduceIte, Nat.reduceEqDiff, Nat.reduceAdd, e12, e10, e11, e7, e3, e1, e2]
        refine ⟨by omega, ?_⟩
        rw [n1, n2]
        exact hp13
      · have n1 := maskL_no (n := q) (s := fun i => inL set i && inL tet i) (hx2.mp g2)
        simp (disch := first | assumption | omega) only [↓RP, RQ, TY, loadT, reduceIte, Nat.reduceEqDiff, Nat.reduceAdd, e12, e10, e11, e7, e3, e1, e2, hin, hL11, ints_get, g2]
        refine ⟨(q + 1, v11, w2), ?_, by dsimp only; omega⟩
        simp (disch := first | assumption | omega) only [↓RP, RQ, TY, loadT, reduceIte, Nat.reduceEqDiff, Nat.reduceAdd, e12, e10, e11, e7, e3, e1, e2]
        refine ⟨by omega, ?_⟩
        rw [n1, n2]
        exact hp11.perm (List.Perm.swap _ _ _)
    · have n2 := maskL_no (n := q) (s := fun i => inL set i || inL tet i) (hx1.mp g1)
      have g2 : ¬ 1 < L'.getD q 0 := by omega
      have n1 := maskL_no (n := q) (s := fun i => inL set i && inL tet i) (hx2.mp g2)
      simp (disch := first | assumption | omega) only [↓RP, RQ, TY, loadT, reduceIte, Nat.reduceEqDiff, Nat.reduceAdd, e12, e10, e11, e7, e3, e1, e2, hin, h9, hL9, ints_get, g1, g2]
      refine ⟨(q + 1, w1, w2), ?_, by dsimp only; omega⟩
      simp (disch := first | assumption | omega) only [↓RP, RQ, TY, loadT, reduceIte, Nat.reduceEqDiff, Nat.reduceAdd, e12, e10, e11, e7, e3, e1, e2]
      refine ⟨by omega, ?_⟩
      rw [n1, n2]
      exact hp
  rw [show q = n.toNat by omega] at hp
  have m1 := maskL_length n.toNat fun i => inL set i && inL tet i
  have m2 := maskL_length n.toNat fun i => inL set i || inL tet i
  have hE9 := hp.ext
  simp (disch := first | assumption | omega) only [↓RP, RQ, TY, loadT, reduceIte, Nat.reduceEqDiff, Nat.reduceAdd, e12, e10, e11, e7, e3, e1, e2, hin, h9]
  refine c_ODim A (hm.ext hE9) hlm (hv.ext hE9) (hs.ext hE9) hl hlr hls fun Ha hEa => ?_
  have hE9a := hE9.trans hEa
  have ha := hEa.rw h9
  simp (disch := first | assumption | omega) only [↓RP, RQ, TY, loadT, reduceIte, Nat.reduceEqDiff, Nat.reduceAdd, e12, e10, e11, e7, e3, e1, e2, ha]
  refine c_ODim A (hm.ext hE9a) hlm (hv.ext hE9a) (ht.ext hE9a) hl hlr hlt fun Hb hEb => ?_
  have hE9b := hE9a.trans hEb
  have hb' := hEb.rw ha
  simp (disch := first | assumption | omega) only [↓RP, RQ, TY, loadT, reduceIte, Nat.reduceEqDiff, Nat.reduceAdd, e12, e10, e11, e7, e3, e1, e2, hb']
  refine c_ODim A (hm.ext hE9b) hlm (hv.ext hE9b) ((hp.sl (y := (w1, ints (maskL n.toNat fun i => inL set i || inL tet i))) (by simp)).ext (hEa.trans hEb)) hl hlr (by omega) fun Hc hEc => ?_
  have hE9c := hE9b.trans hEc
  have hc := hEc.rw hb'
  simp (disch := first | assumption | omega) only [↓RP, RQ, TY, loadT, reduceIte, Nat.reduceEqDiff, Nat.reduceAdd, e12, e10, e11, e7, e3, e1, e2, hc]
  refine c_ODim A (hm.ext hE9c) hlm (hv.ext hE9c) ((hp.sl (y := (w2, ints (maskL n.toNat fun i => inL set i && inL tet i))) (by simp)).ext ((hEa.trans hEb).trans hEc)) hl hlr (by omega) fun Hd hEd => ?_
  have good : ∀ s : List Int, Subset n s → dimErr p m mod n rows s = 0 ∧ dimValP p m mod n rows s = dimP p m mod n rows (inL s) := fun s q => by
    have e1 := dimErr_ok h0 q
    exact ⟨e1, by rw [dimValP, if_pos e1]⟩
  have goodM : ∀ s : Nat → Bool, dimErr p m mod n rows (maskL n.toNat s) = 0 ∧ dimValP p m mod n rows (maskL n.toNat s) = dimP p m mod n rows s := fun s => by
    have hS2 := maskL_subset s n.toNat
    rw [show ((n.toNat : Nat) : Int) = n by omega] at hS2
    obtain ⟨q1, q2⟩ := good _ hS2
    exact ⟨q1, q2.trans (dimP_congr fun i hi => inL_mask n.toNat _ i (by omega))⟩
  have bd : ∀ s : Nat → Bool, -64 ≤ dimP p m mod n rows s ∧ dimP p m mod n rows s ≤ 64 := fun s => by
    have q1 := dimP_ge (p := p) (m := m) (n := n) (mod := mod) (rows := rows) s
    have q2 := (dimP_le ca.fa.ok (n := n) (by omega) ca.els s).1
    have := ca.kn
    omega
  rw [(good _ hS).1, (good _ hS).2, (good _ hT).1, (good _ hT).2, (goodM _).1, (goodM _).2, (goodM _).1, (goodM _).2]
  have t1 := bd (inL set)
  have t2 := bd (inL tet)
  have t3 := bd fun i => inL set i || inL tet i
  have t4 := bd fun i => inL set i && inL tet i
  have t5 := dimP_sub ca.fa.ok (n := n) ca.els (inL set) (inL tet)
  simp (disch := first | assumption | omega) only [↓RP, RQ, TY, loadT, reduceIte, Nat.reduceEqDiff, Nat.reduceAdd, t5, Int.reduceEq]
  exact ⟨rfl, hE9c.trans hEd⟩
end Go.Proofs.Yteijojnahpeglaa.AM
