/- Helpers. The reference's Best. · The law OrderingBest. -/
import Derived.Test.YteijojnahpeglaaK7
/-! The reference's Best. -/
namespace Go.Proofs.Yteijojnahpeglaa.AM
open Go Go.RowKit
set_option linter.unusedVariables false
set_option linter.unusedSimpArgs false
set_option maxRecDepth 20000
theorem i_ushl {x : Nat} (hx : x < 63) : IntKind.u64.wrap (x : Int) = (x : Int) := u_wrapU (by omega)
set_option maxHeartbeats 4000000 in
theorem c_Best48 (A : Alg) {p m n : Int} {md v : AV} {mod : List Int} {us : List AV} {rows : List (List Int)} {H : AH} {Q : AV → AH → Prop} (hm : Ints H md mod) (hv : Rows H v us rows) (h0 : codeErr p m mod n rows = 0) (h12 : n ≤ 12)
    (hQ : ∀ w H', Ext H H' → Own H H' w (ints (bestL p m mod n rows)) → Q w H') : AC Try.prog 27 [codeV p m md n v] H Q := by
  have ca := A.fo.ca h0 hm hv
  have n1 := ca.n1
  have ok := ca.fa.ok
  have els := ca.els
  have hpow := pow12 (N := n.toNat) (by omega)
  refine at27 (by simp) ?_
  simp (disch := first | assumption | omega) only [↓RP, RQ, TY, loadT, s27, reduceIte, Nat.reduceEqDiff, Nat.reduceAdd]
  refine kNew_intro fun b H1 hb hE1 hH1 => ?_
  simp (disch := first | assumption | omega) only [↓RP, RQ, TY, loadT, reduceIte, Nat.reduceEqDiff, Nat.reduceAdd, hH1]
  refine c_Dims48 A (hm.ext hE1) (hv.ext hE1) h0 h12 fun w1 H2 hE2 ho2 => ?_
  have hp2 := ((Hp.nil (Ext.refl H)).new hb hE1 hH1 rfl).made (H1 := H) hE2 ho2
  have h2 := hE2.rw hH1
  have hE12 := hE1.trans hE2
  simp (disch := first | assumption | omega) only [↓RP, RQ, TY, loadT, reduceIte, Nat.reduceEqDiff, Nat.reduceAdd, h2]
  refine c_Table48 A (hm.ext hE12) (hv.ext hE12) h0 h12 fun w2 H3 hE3 ho3 => ?_
  have hp := hp2.made (H1 := H) hE3 ho3
  clear hp2 ca
  have hdn : ∀ z, dimN p m mod n rows z < n + 1 := fun z => dimP_lt ok n1 els _
  have hd0 := dimN_zero ok (n := n) els
  have hT0 : ∀ z, 0 ≤ tabV (dimN p m mod n rows) n.toNat z := tabV_nonneg
  have hTn : ∀ z, tabV (dimN p m mod n rows) n.toNat z ≤ n.toNat := tabV_le fun z => by have := hdn z; omega
  have hz := ends_zero (d := dimN p m mod n rows) (n := n.toNat) (fun z => by have := hdn z; omega) hd0 (by omega)
  have hst := st_ok hz
  have hdl : (dimsR p m mod n rows).length = 2 ^ n.toNat := by rw [dimsR, tabN_length]
  have htl : (tabT p m mod n rows).length = 2 ^ n.toNat := by rw [tabT, tabN_length]
  have hdg : ∀ j, j < 2 ^ n.toNat → (dimsR p m mod n rows).getD j 0 = dimN p m mod n rows j := fun j hj => by rw [dimsR]; exact tabN_get hj
  have htg : (tabT p m mod n rows).getD (2 ^ n.toNat - 1) 0 = tabV (dimN p m mod n rows) n.toNat (2 ^ n.toNat - 1) := by rw [tabT]; exact tabN_get (by omega)
  have hbl : bestL p m mod n rows = outB (dimN p m mod n rows) n.toNat (tabV (dimN p m mod n rows) n.toNat (2 ^ n.toNat - 1)) n.toNat := rfl
  have hW0 := hT0 (2 ^ n.toNat - 1)
  have hWn := hTn (2 ^ n.toNat - 1)
  generalize hW : tabV (dimN p m mod n rows) n.toNat (2 ^ n.toNat - 1) = W at *
  have hM2 : 2 ≤ 2 ^ n.toNat := by
    have : 2 ^ 1 ≤ 2 ^ n.toNat := Nat.pow_le_pow_right (by omega) (by omega)
    omega
  have hea : dimN p m mod n rows (2 ^ n.toNat - 1) ≤ W → endB (dimN p m mod n rows) n.toNat W (2 ^ n.toNat - 1) = true := fun q => endB_true (.all q)
  have hsl : ∀ {r i : Nat}, r < 2 ^ n.toNat → i < n.toNat → r.testBit i = false → r + 2 ^ i < 2 ^ n.toNat := fun h1 h2 h3 => set_lt h1 h2 h3
  have heof : ∀ {s i : Nat}, s ≠ 2 ^ n.toNat - 1 → dimN p m mod n rows s ≤ W → hasB (dimN p m mod n rows) n.toNat W s i = true → endB (dimN p m mod n rows) n.toNat W s = true := fun h1 h2 h3 => endB_of h1 h2 h3
  have heno : ∀ {s : Nat}, s ≠ 2 ^ n.toNat - 1 → hasB (dimN p m mod n rows) n.toNat W s n.toNat = false → endB (dimN p m mod n rows) n.toNat W s = false := fun h1 h2 => endB_no h1 h2
  have hall : ∀ k, k ≤ n.toNat → (stB (dimN p m mod n rows) n.toNat W k = 2 ^ n.toNat - 1 ↔ k = n.toNat) := fun k hk => (hst k hk).all
  have hstl : ∀ k, k ≤ n.toNat → stB (dimN p m mod n rows) n.toNat W k < 2 ^ n.toNat := fun k hk => (hst k hk).lt
  obtain ⟨M, hM⟩ : ∃ M, 2 ^ n.toNat = M := ⟨_, rfl⟩
  rw [hM] at hpow hdl htl hdg htg hM2 hea hsl heof heno hall hstl
  have hsd := hp.sl (y := (w1, ints (dimsR p m mod n rows))) (by simp)
  have hstb := hp.sl (y := (w2, ints (tabT p m mod n rows))) (by simp)
  have hm1 : ((M : Int) - 1).toNat = M - 1 := by omega
  simp (disch := first | assumption | omega) only [↓RP, RQ, TY, loadT, reduceIte, Nat.reduceEqDiff, Nat.reduceAdd, hsd.ints, hdl, hstb.ints, htl, hm1, htg, Int.toNat_natCast]
  refine kNew_intro fun b4 H4 hb4 hE4 hH4 => ?_
  rw [bools_repl] at hH4
  have hp5 := hp.new (n := M) hb4 hE4 hH4 (by simp [bools_length])
  clear hE4 hH4 hb4 hsd hstb hp
  simp (disch := first | assumption | omega) only [↓RP, RQ, TY, loadT, reduceIte, Nat.reduceEqDiff, Nat.reduceAdd]
  generalize hd : dimN p m mod n rows = d at *
  refine sw_loop (σ := Nat × List Bool) (fun z e H' => e 8 = .int .i64 ((z.1 : Int) - 1) ∧ e 7 = .sl b4 0 M (.own 1) ∧ e 6 = .int .i64 W ∧ e 5 = .int .i64 ((M : Int) - 1) ∧ e 3 = w1 ∧ e 1 = .ptr b 0 ∧ z.1 ≤ M ∧ z.2.length = M ∧ (∀ j, z.1 ≤ j → j < M → z.2.getD j false = endB d n.toNat W j) ∧ Hp H H' [(.sl b4 0 M (.own 1), bools z.2), (w2, ints (tabT p m mod n rows)), (w1, ints (dimsR p m mod n rows)), (.sl b 0 5 (.own 1), [.int .i64 p, .int .i64 m, md, .int .i64 n, v])]) (fun z => z.1) (M, List.replicate M false) ?_ ?_
  · simp (disch := first | assumption | omega) only [↓RP, RQ, TY, loadT, reduceIte, Nat.reduceEqDiff, Nat.reduceAdd]
    exact ⟨by omega, by simp, fun j h1 h2 => by omega, hp5⟩
  clear hp5
  rintro ⟨z, E⟩ e H6 ⟨e8, e7, e6, e5, e3, e1, hzM, hE, hEh, hp6⟩
  dsimp only at *
  have h6 := (hp6.blkOf (y := (.sl b 0 5 (.own 1), [.int .i64 p, .int .i64 m, md, .int .i64 n, v])) (by simp) rfl).1
  have hE6 := (hp6.blkOf (y := (.sl b4 0 M (.own 1), bools E)) (by simp) rfl).1
  have hbE := bools_length E
  by_cases hz0 : z = 0
  rotate_left
  · obtain ⟨r, rfl⟩ : ∃ r, z = r + 1 := ⟨z - 1, by omega⟩
    have hr1 : ((r + 1 : Nat) : Int) - 1 = (r : Int) := by omega
    have hrg : (0 : Int) ≤ (r : Int) := by omega
    have hrM : r < M := by omega
    rw [hr1] at e8
    simp (disch := first | assumption | omega) only [↓RP, RQ, TY, loadT, reduceIte, Nat.reduceEqDiff, Nat.reduceAdd, e8, e7, e6, e5, e3, e1, hrg, hE6, bools_set]
    have hdec : decide ((r : Int) = (M : Int) - 1) = decide (r = M - 1) := decide_eq_decide.mpr (by omega)
    rw [hdec]
    refine sw_loop (σ := Nat × Bool) (fun y e H' => e 9 = .int .i64 y.1 ∧ e 8 = .int .i64 r ∧ e 7 = .sl b4 0 M (.own 1) ∧ e 6 = .int .i64 W ∧ e 5 = .int .i64 ((M : Int) - 1) ∧ e 3 = w1 ∧ e 1 = .ptr b 0 ∧ y.1 ≤ n.toNat ∧ (r = M - 1 → y.2 = true) ∧ (r ≠ M - 1 → y.2 = hasB d n.toNat W r y.1) ∧ Hp H H' [(.sl b4 0 M (.own 1), bools (E.set r y.2)), (w2, ints (tabT p m mod n rows)), (w1, ints (dimsR p m mod n rows)), (.sl b 0 5 (.own 1), [.int .i64 p, .int .i64 m, md, .int .i64 n, v])]) (fun y => n.toNat - y.1) (0, decide (r = M - 1)) ?_ ?_
    · simp (disch := first | assumption | omega) only [↓RP, RQ, TY, loadT, reduceIte, Nat.reduceEqDiff, Nat.reduceAdd, e8, e7, e6, e5, e3, e1]
      exact ⟨by omega, fun q => decide_eq_true q, fun q => by rw [hasB_zero]; exact decide_eq_false q, hp6.upd (by simp [bools_length])⟩
    rintro ⟨i, x⟩ e' H7 ⟨g9, g8, g7, g6, g5, g3, g1, hi, hx1, hx2, hp7⟩
    dsimp only at *
    have h7 := (hp7.blkOf (y := (.sl b 0 5 (.own 1), [.int .i64 p, .int .i64 m, md, .int .i64 n, v])) (by simp) rfl).1
    have hsd7 := hp7.sl (y := (w1, ints (dimsR p m mod n rows))) (by simp)
    have hE7 := (hp7.blkOf (y := (.sl b4 0 M (.own 1), bools (E.set r x))) (by simp) rfl).1
    have hbE7 := bools_length (E.set r x)
    have hEl7 : (E.set r x).length = M := by rw [List.length_set]; exact hE
    have hgr : (E.set r x).getD r false = x := by rw [getD_setB, if_pos ⟨rfl, by omega⟩]
    have hdr := hdg r hrM
    have fin : ∀ y, y = endB d n.toNat W r → ∀ H8, Hp H H8 [(.sl b4 0 M (.own 1), bools (E.set r y)), (w2, ints (tabT p m mod n rows)), (w1, ints (dimsR p m mod n rows)), (.sl b 0 5 (.own 1), [.int .i64 p, .int .i64 m, md, .int .i64 n, v])] → r ≤ M ∧ (E.set r y).length = M ∧ (∀ j, r ≤ j → j < M → (E.set r y).getD j false = endB d n.toNat W j) ∧ Hp H H8 [(.sl b4 0 M (.own 1), bools (E.set r y)), (w2, ints (tabT p m mod n rows)), (w1, ints (dimsR p m mod n rows)), (.sl b 0 5 (.own 1), [.int .i64 p, .int .i64 m, md, .int .i64 n, v])] := fun y q H8 hp8 => by
      refine ⟨by omega, by simpa using hE, fun j h1 h2 => ?_, hp8⟩
      rw [getD_setB]
      by_cases w : j = r
      · rw [if_pos ⟨w, by omega⟩, w, q]
      · rw [if_neg (fun q => w q.1)]
        exact hEh j (by omega) h2
    by_cases hstop : (i : Int) < n ∧ x = false
    rotate_left
    · have hx : x = true → d r ≤ W → endB d n.toNat W r = true := fun q1 q2 => by
        by_cases w : r = M - 1
        · rw [w]; exact hea (w ▸ q2)
        · exact heof w q2 ((hx2 w).symm.trans q1)
      have hxf : x = false → endB d n.toNat W r = false := fun q1 => by
        by_cases w : r = M - 1
        · rw [hx1 w] at q1; cases q1
        · have hni : ¬ (i : Int) < n := fun q => hstop ⟨q, q1⟩
          have := (hx2 w).symm.trans q1
          rw [show i = n.toNat by omega] at this
          exact heno w this
      by_cases hin : (i : Int) < n
      · cases x
        · exact absurd ⟨hin, rfl⟩ hstop
        by_cases hdw : d r ≤ W
        · simp (disch := first | assumption | omega) only [↓RP, RQ, TY, loadT, reduceIte, Nat.reduceEqDiff, Nat.reduceAdd, g9, g8, g7, g6, g5, g3, g1, hin, h7, hE7, bools_get, hgr, Bool.not_true, hsd7.ints, hdl, hdr, hdw, bools_set, List.set_set]
          refine ⟨(r, E.set r true), ?_, by dsimp only; omega⟩
          simp (disch := first | assumption | omega) only [↓RP, RQ, TY, loadT, reduceIte, Nat.reduceEqDiff, Nat.reduceAdd, g9, g8, g7, g6, g5, g3, g1]
          exact fin true (hx rfl hdw).symm _ (hp7.upd (by simp [bools_length]))
        · simp (disch := first | assumption | omega) only [↓RP, RQ, TY, loadT, reduceIte, Nat.reduceEqDiff, Nat.reduceAdd, g9, g8, g7, g6, g5, g3, g1, hin, h7, hE7, bools_get, hgr, Bool.not_true, hsd7.ints, hdl, hdr, hdw, bools_set, List.set_set]
          refine ⟨(r, E.set r false), ?_, by dsimp only; omega⟩
          simp (disch := first | assumption | omega) only [↓RP, RQ, TY, loadT, reduceIte, Nat.reduceEqDiff, Nat.reduceAdd, g9, g8, g7, g6, g5, g3, g1]
          exact fin false (endB_big hdw).symm _ (hp7.upd (by simp [bools_length]))
      · cases x
        · simp (disch := first | assumption | omega) only [↓RP, RQ, TY, loadT, reduceIte, Nat.reduceEqDiff, Nat.reduceAdd, g9, g8, g7, g6, g5, g3, g1, hin, h7, hE7, bools_get, hgr, bools_set, List.set_set]
          refine ⟨(r, E.set r false), ?_, by dsimp only; omega⟩
          simp (disch := first | assumption | omega) only [↓RP, RQ, TY, loadT, reduceIte, Nat.reduceEqDiff, Nat.reduceAdd, g9, g8, g7, g6, g5, g3, g1]
          exact fin false (hxf rfl).symm _ (hp7.upd (by simp [bools_length]))
        by_cases hdw : d r ≤ W
        · simp (disch := first | assumption | omega) only [↓RP, RQ, TY, loadT, reduceIte, Nat.reduceEqDiff, Nat.reduceAdd, g9, g8, g7, g6, g5, g3, g1, hin, h7, hE7, bools_get, hgr, hsd7.ints, hdl, hdr, hdw, bools_set, List.set_set]
          refine ⟨(r, E.set r true), ?_, by dsimp only; omega⟩
          simp (disch := first | assumption | omega) only [↓RP, RQ, TY, loadT, reduceIte, Nat.reduceEqDiff, Nat.reduceAdd, g9, g8, g7, g6, g5, g3, g1]
          exact fin true (hx rfl hdw).symm _ (hp7.upd (by simp [bools_length]))
        · simp (disch := first | assumption | omega) only [↓RP, RQ, TY, loadT, reduceIte, Nat.reduceEqDiff, Nat.reduceAdd, g9, g8, g7, g6, g5, g3, g1, hin, h7, hE7, bools_get, hgr, hsd7.ints, hdl, hdr, hdw, bools_set, List.set_set]
          refine ⟨(r, E.set r false), ?_, by dsimp only; omega⟩
          simp (disch := first | assumption | omega) only [↓RP, RQ, TY, loadT, reduceIte, Nat.reduceEqDiff, Nat.reduceAdd, g9, g8, g7, g6, g5, g3, g1]
          exact fin false (endB_big hdw).symm _ (hp7.upd (by simp [bools_length]))
    obtain ⟨hin, rfl⟩ := hstop
    have hrn : r ≠ M - 1 := fun q => by have := hx1 q; cases this
    have hxh := hx2 hrn
    have hbit := i_bit (k := r) (i := i) (by omega) (by omega)
    have hu := i_ushl (x := i) (by omega)
    cases hb2 : r.testBit i
    · rw [hb2, if_neg (by simp)] at hbit
      have hshl : IntKind.i64.wrap (1 * 2 ^ min i IntKind.i64.bits) = ((2 ^ i : Nat) : Int) := i_shl (by omega)
      have hlt2 := hsl (r := r) (i := i) (by omega) (by omega) hb2
      have hpi : 0 < 2 ^ i := Nat.pow_pos (by omega)
      have hor : (r : Int) + ((2 ^ i : Nat) : Int) = ((r + 2 ^ i : Nat) : Int) := by omega
      have hgx : (E.set r false).getD (r + 2 ^ i) false = endB d n.toNat W (r + 2 ^ i) := by
        rw [getD_setB, if_neg (by omega)]
        exact hEh _ (by omega) hlt2
      have hst2 := hasB_step (d := d) (W := W) (by omega) hb2 hxh.symm
      simp (disch := first | assumption | omega) only [↓RP, RQ, TY, loadT, reduceIte, Nat.reduceEqDiff, Nat.reduceAdd, g9, g8, g7, g6, g5, g3, g1, hin, h7, hE7, bools_get, hgr, Bool.not_false, hu, hbit, hshl, hor, hgx, bools_set, List.set_set, Int.reduceEq]
      refine ⟨(i + 1, endB d n.toNat W (r + 2 ^ i)), ?_, by dsimp only; omega⟩
      simp (disch := first | assumption | omega) only [↓RP, RQ, TY, loadT, reduceIte, Nat.reduceEqDiff, Nat.reduceAdd, g9, g8, g7, g6, g5, g3, g1]
      exact ⟨by omega, fun q => absurd q hrn, fun _ => hst2.symm, hp7.upd (by simp [bools_length])⟩
    · rw [hb2, if_pos rfl] at hbit
      have hst2 := hasB_set (d := d) (n := n.toNat) (W := W) hb2
      simp (disch := first | assumption | omega) only [↓RP, RQ, TY, loadT, reduceIte, Nat.reduceEqDiff, Nat.reduceAdd, g9, g8, g7, g6, g5, g3, g1, hin, h7, hE7, bools_get, hgr, Bool.not_false, hu, hbit, bools_set, List.set_set, Int.reduceEq]
      refine ⟨(i + 1, false), ?_, by dsimp only; omega⟩
      simp (disch := first | assumption | omega) only [↓RP, RQ, TY, loadT, reduceIte, Nat.reduceEqDiff, Nat.reduceAdd, g9, g8, g7, g6, g5, g3, g1]
      exact ⟨by omega, fun q => absurd q hrn, fun _ => by rw [hst2]; exact hxh, hp7.upd (by simp [bools_length])⟩
  subst hz0
  have hneg : ¬ (0 : Int) ≤ 0 - 1 := by omega
  simp (disch := first | assumption | omega) only [↓RP, RQ, TY, loadT, reduceIte, Nat.reduceEqDiff, Nat.reduceAdd, e8, e7, e6, e5, e3, e1, hneg]
  refine kNew_intro fun b7 H7 hb7 hE7 hH7 => ?_
  have hp7 := hp6.new (n := 0) hb7 hE7 hH7 rfl
  simp (disch := first | assumption | omega) only [↓RP, RQ, TY, loadT, reduceIte, Nat.reduceEqDiff, Nat.reduceAdd, e8, e7, e6, e5, e3, e1]
  refine sw_loop (σ := Nat × AV) (fun z e H' => e 11 = .int .i64 (stB d n.toNat W z.1 : Nat) ∧ e 10 = z.2 ∧ e 7 = .sl b4 0 M (.own 1) ∧ e 1 = .ptr b 0 ∧ z.1 ≤ n.toNat ∧ Hp H H' [(z.2, ints (outB d n.toNat W z.1)), (.sl b4 0 M (.own 1), bools E), (w2, ints (tabT p m mod n rows)), (w1, ints (dimsR p m mod n rows)), (.sl b 0 5 (.own 1), [.int .i64 p, .int .i64 m, md, .int .i64 n, v])]) (fun z => n.toNat - z.1) (0, .sl b7 0 0 (.own 1)) ?_ ?_
  · simp (disch := first | assumption | omega) only [↓RP, RQ, TY, loadT, reduceIte, Nat.reduceEqDiff, Nat.reduceAdd, e8, e7, e6, e5, e3, e1]
    exact ⟨rfl, by omega, hp7⟩
  clear hp7 hH7 hE7 hb7
  rintro ⟨k, w⟩ f H8 ⟨f11, f10, f7, f1, hk, hp8⟩
  dsimp only at *
  have h8 := (hp8.blkOf (y := (.sl b 0 5 (.own 1), [.int .i64 p, .int .i64 m, md, .int .i64 n, v])) (by simp) rfl).1
  have hE8 := (hp8.blkOf (y := (.sl b4 0 M (.own 1), bools E)) (by simp) rfl).1
  have hsM := hstl k hk
  have hlen := (hst k hk).len
  have hso := hp8.head.sl
  by_cases hkn : (k : Int) < n
  rotate_left
  · have hkn' : k = n.toNat := by omega
    simp (disch := first | assumption | omega) only [↓RP, RQ, TY, loadT, reduceIte, Nat.reduceEqDiff, Nat.reduceAdd, f11, f10, f7, f1, h8, hso.ints, hlen, hkn]
    refine hQ w H8 hp8.ext ?_
    rw [hkn'] at hp8
    rw [hbl]
    exact hp8.head
  have hsa : stB d n.toNat W k ≠ M - 1 := fun q => by have := (hall k hk).mp q; omega
  obtain ⟨⟨q1, q2, q3⟩, q4⟩ := (hst k hk).next (by omega)
  have hs1 : stB d n.toNat W (k + 1) = stB d n.toNat W k + 2 ^ nxtB d n.toNat W (stB d n.toNat W k) := rfl
  have ho1 : outB d n.toNat W (k + 1) = outB d n.toNat W k ++ [(nxtB d n.toNat W (stB d n.toNat W k) : Int)] := rfl
  generalize hx : nxtB d n.toNat W (stB d n.toNat W k) = x at *
  generalize hs : stB d n.toNat W k = s at *
  simp (disch := first | assumption | omega) only [↓RP, RQ, TY, loadT, reduceIte, Nat.reduceEqDiff, Nat.reduceAdd, f11, f10, f7, f1, h8, hso.ints, hlen, hkn]
  refine sw_loop (σ := Nat) (fun i e H' => e 12 = .int .i64 i ∧ e 11 = .int .i64 s ∧ e 10 = w ∧ e 7 = .sl b4 0 M (.own 1) ∧ e 1 = .ptr b 0 ∧ i ≤ x ∧ H' = H8) (fun i => x - i) 0 ?_ ?_
  · simp (disch := first | assumption | omega) only [↓RP, RQ, TY, loadT, reduceIte, Nat.reduceEqDiff, Nat.reduceAdd, f11, f10, f7, f1]
    omega
  rintro i e' H' ⟨g12, g11, g10, g7, g1, hix, rfl⟩
  have hbit := i_bit (k := s) (i := i) (by omega) (by omega)
  have hu := i_ushl (x := i) (by omega)
  cases hb2 : s.testBit i
  rotate_left
  · have hne : i ≠ x := fun q => by rw [q, q2] at hb2; cases hb2
    rw [hb2, if_pos rfl] at hbit
    simp (disch := first | assumption | omega) only [↓RP, RQ, TY, loadT, reduceIte, Nat.reduceEqDiff, Nat.reduceAdd, g12, g11, g10, g7, g1, hu, hbit, Int.reduceEq]
    refine ⟨i + 1, ?_, by dsimp only; omega⟩
    simp (disch := first | assumption | omega) only [↓RP, RQ, TY, loadT, reduceIte, Nat.reduceEqDiff, Nat.reduceAdd, g12, g11, g10, g7, g1]
    omega
  rw [hb2, if_neg (by simp)] at hbit
  have hshl : IntKind.i64.wrap (1 * 2 ^ min i IntKind.i64.bits) = ((2 ^ i : Nat) : Int) := i_shl (by omega)
  have hlt2 := hsl (r := s) (i := i) (by omega) (by omega) hb2
  have hpi : 0 < 2 ^ i := Nat.pow_pos (by omega)
  have hor : (s : Int) + ((2 ^ i : Nat) : Int) = ((s + 2 ^ i : Nat) : Int) := by omega
  have hgx : E.getD (s + 2 ^ i) false = endB d n.toNat W (s + 2 ^ i) := hEh _ (by omega) hlt2
  by_cases hne : i = x
  rotate_left
  · have hef : endB d n.toNat W (s + 2 ^ i) = false := endB_false fun q => q4 i (by omega) ⟨by omega, hb2, q⟩
    rw [hef] at hgx
    simp (disch := first | assumption | omega) only [↓RP, RQ, TY, loadT, reduceIte, Nat.reduceEqDiff, Nat.reduceAdd, g12, g11, g10, g7, g1, hu, hbit, hshl, hor, hE8, bools_get, hgx, Bool.not_false, Int.reduceEq]
    refine ⟨i + 1, ?_, by dsimp only; omega⟩
    simp (disch := first | assumption | omega) only [↓RP, RQ, TY, loadT, reduceIte, Nat.reduceEqDiff, Nat.reduceAdd, g12, g11, g10, g7, g1]
    omega
  subst hne
  have hef : endB d n.toNat W (s + 2 ^ i) = true := endB_true q3
  rw [hef] at hgx
  simp (disch := first | assumption | omega) only [↓RP, RQ, TY, loadT, reduceIte, Nat.reduceEqDiff, Nat.reduceAdd, g12, g11, g10, g7, g1, hu, hbit, hshl, hor, hE8, bools_get, hgx, Bool.not_true, Int.reduceEq]
  refine kNew_intro fun b9 H9 hb9 hE9 hH9 => ?_
  simp (disch := first | assumption | omega) only [↓RP, RQ, TY, loadT, reduceIte, Nat.reduceEqDiff, Nat.reduceAdd, g12, g11, g10, g7, g1]
  refine kApp_hp (us := ints [(i : Int)]) (hp8.more hE9) (Sl.own hH9 rfl) ints_ones (by rw [ints_length, ints_length, List.length_singleton]; omega) (by rw [ints_length, ints_length, List.length_singleton]; omega) fun v10 H10 hp10 => ?_
  rw [ints_app, ← ho1] at hp10
  simp (disch := first | assumption | omega) only [↓RP, RQ, TY, loadT, reduceIte, Nat.reduceEqDiff, Nat.reduceAdd, g12, g11, g10, g7, g1, hu, hshl, hor]
  refine ⟨(k + 1, v10), ?_, by dsimp only; omega⟩
  simp (disch := first | assumption | omega) only [↓RP, RQ, TY, loadT, reduceIte, Nat.reduceEqDiff, Nat.reduceAdd, g12, g11, g10, g7, g1]
  exact ⟨by rw [hs1], by omega, hp10⟩
end Go.Proofs.Yteijojnahpeglaa.AM
/-! The law OrderingBest. -/
namespace Go.Proofs.Yteijojnahpeglaa.AM
open Go Go.RowKit
set_option linter.unusedVariables false
set_option linter.unusedSimpArgs false
set_option maxRecDepth 20000
theorem law_Best (A : Alg) {p m n : Int} {md v : AV} {mod : List Int} {us : List AV} {rows : List (List Int)} {H : AH} (hm : Ints H md mod) (hlm : mod.length ≤ 9223372036854775807) (hv : Rows H v us rows) (hl : rows.length ≤ 9223372036854775807) (hlr : ∀ i, i < rows.length → (rowAt rows i).length ≤ 9223372036854775807) :
    AC Try.prog 10 [codeV p m md n v] H fun r H' => r = .bool true ∧ Ext H H' := by
  refine at10 (by simp) ?_
  simp (disch := first | assumption | omega) only [↓RP, RQ, TY, loadT, s10, reduceIte, Nat.reduceEqDiff, Nat.reduceAdd]
  refine kNew_intro fun b H1 hb hE1 hH1 => ?_
  simp (disch := first | assumption | omega) only [↓RP, RQ, TY, loadT, reduceIte, Nat.reduceEqDiff, Nat.reduceAdd, hH1]
  refine c_short A (hm.ext hE1) (hv.ext hE1) hl hlr fun H2 hE2 => ?_
  have hE12 := hE1.trans hE2
  have h2 := hE2.rw hH1
  cases hsh : shortB p m mod n rows
  · simp (disch := first | assumption | omega) only [↓RP, RQ, TY, loadT, reduceIte, Nat.reduceEqDiff, Nat.reduceAdd, h2]
    refine c_alive A fun H3 hE3 => ?_
    simp (disch := first | assumption | omega) only [↓RP, RQ, TY, loadT, reduceIte, Nat.reduceEqDiff, Nat.reduceAdd]
    exact ⟨rfl, hE12.trans hE3⟩
  simp (disch := first | assumption | omega) only [↓RP, RQ, TY, loadT, reduceIte, Nat.reduceEqDiff, Nat.reduceAdd, h2]
  refine c_OBest A (hm.ext hE12) hlm (hv.ext hE12) hl hlr (fun h0 H3 hE3 => ?_) (fun h0 h12 H3 hE3 => ?_) (fun h0 h12 w t H3 hp3 => ?_)
  · have hE13 := hE12.trans hE3
    have h3 := hE3.rw h2
    simp (disch := first | assumption | omega) only [↓RP, RQ, TY, loadT, reduceIte, Nat.reduceEqDiff, Nat.reduceAdd, h3]
    refine c_Check12 A.fo (hm.ext hE13) (hv.ext hE13) hl hlr fun H4 hE4 => ?_
    have hE14 := hE13.trans hE4
    simp (disch := first | assumption | omega) only [↓RP, RQ, TY, loadT, reduceIte, Nat.reduceEqDiff, Nat.reduceAdd, eq_false h0]
    refine c_alive A fun H5 hE5 => ?_
    simp (disch := first | assumption | omega) only [↓RP, RQ, TY, loadT, reduceIte, Nat.reduceEqDiff, Nat.reduceAdd, eq_false h0]
    exact ⟨rfl, hE14.trans hE5⟩
  · have hE13 := hE12.trans hE3
    have h3 := hE3.rw h2
    simp (disch := first | assumption | omega) only [↓RP, RQ, TY, loadT, reduceIte, Nat.reduceEqDiff, Nat.reduceAdd, h3]
    refine c_Check12 A.fo (hm.ext hE13) (hv.ext hE13) hl hlr fun H4 hE4 => ?_
    have hE14 := hE13.trans hE4
    have h4 := hE4.rw h3
    simp (disch := first | assumption | omega) only [↓RP, RQ, TY, loadT, reduceIte, Nat.reduceEqDiff, Nat.reduceAdd, eq_true h0, h4, h12, Int.reduceEq, Int.reduceNe]
    refine c_alive A fun H5 hE5 => ?_
    simp (disch := first | assumption | omega) only [↓RP, RQ, TY, loadT, reduceIte, Nat.reduceEqDiff, Nat.reduceAdd, Int.reduceEq, Int.reduceNe]
    exact ⟨rfl, hE14.trans hE5⟩
  · have hE3 := hp3.ext
    have hE13 := hE12.trans hE3
    have h3 := hE3.rw h2
    simp (disch := first | assumption | omega) only [↓RP, RQ, TY, loadT, reduceIte, Nat.reduceEqDiff, Nat.reduceAdd, h3]
    refine c_Check12 A.fo (hm.ext hE13) (hv.ext hE13) hl hlr fun H4 hE4 => ?_
    have hE14 := hE13.trans hE4
    have h4 := hE4.rw h3
    have h12' : ¬ 12 < n := by omega
    simp (disch := first | assumption | omega) only [↓RP, RQ, TY, loadT, reduceIte, Nat.reduceEqDiff, Nat.reduceAdd, eq_true h0, h0, h4, h12']
    refine c_alive A fun H5 hE5 => ?_
    have hE15 := hE14.trans hE5
    have h5 := hE5.rw h4
    simp (disch := first | assumption | omega) only [↓RP, RQ, TY, loadT, reduceIte, Nat.reduceEqDiff, Nat.reduceAdd, eq_true h0, h0, h5]
    refine c_Best48 A (hm.ext hE15) (hv.ext hE15) h0 h12 fun w6 H6 hE6 ho6 => ?_
    have hE16 := hE15.trans hE6
    have h6 := hE6.rw h5
    have hp6 := hp3.more ((hE4.trans hE5).trans hE6)
    have hw6 := hp6.head.sl
    have ht6 := hp6.sl (y := (t, ints (tabT p m mod n rows))) (by simp)
    have ca := A.fo.ca h0 (hm.ext hE16) (hv.ext hE16)
    have hn12 := pow12 (N := n.toNat) (by have := ca.n1; omega)
    have hchk := best_chk ca.fa.ok ca.n1 h12 ca.els h0
    have htl : (tabT p m mod n rows).length = 2 ^ n.toNat := by rw [tabT, tabN_length]
    have hbl : (bestL p m mod n rows).length ≤ 64 := best_len ca.fa.ok ca.n1 h12 ca.els
    simp (disch := first | assumption | omega) only [↓RP, RQ, TY, loadT, reduceIte, Nat.reduceEqDiff, Nat.reduceAdd]
    refine c_Same hw6 ho6.sl (by omega) (by omega) ?_
    simp (disch := first | assumption | omega) only [↓RP, RQ, TY, loadT, reduceIte, Nat.reduceEqDiff, Nat.reduceAdd, h6]
    refine c_Table48 A (hm.ext hE16) (hv.ext hE16) h0 h12 fun w7 H7 hE7 ho7 => ?_
    have hE17 := hE16.trans hE7
    have h7 := hE7.rw h6
    simp (disch := first | assumption | omega) only [↓RP, RQ, TY, loadT, reduceIte, Nat.reduceEqDiff, Nat.reduceAdd]
    refine c_Same (ht6.ext hE7) ho7.sl (by omega) (by omega) ?_
    simp (disch := first | assumption | omega) only [↓RP, RQ, TY, loadT, reduceIte, Nat.reduceEqDiff, Nat.reduceAdd, h7]
    refine c_OCheck A (hm.ext hE17) hlm (hv.ext hE17) (hw6.ext hE7) (ht6.ext hE7) hl hlr (by omega) (by omega) fun H8 hE8 => ?_
    rw [hchk]
    simp (disch := first | assumption | omega) only [↓RP, RQ, TY, loadT, reduceIte, Nat.reduceEqDiff, Nat.reduceAdd, Int.reduceEq]
    exact ⟨rfl, hE17.trans hE8⟩
end Go.Proofs.Yteijojnahpeglaa.AM
