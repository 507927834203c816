/- Helpers. The program's orderings, third part: Greedy; the greedy order as a list. · The reference's words: Compare, Same; its greedy order. · The law OrderingGreedy. -/
import Derived.Test.YteijojnahpeglaaKH
import Derived.Test.YteijojnahpeglaaKG
/-! The program's orderings, third part: Greedy; the greedy order as a list. -/
namespace Go.Proofs.Yteijojnahpeglaa.AM
open Go Go.RowKit
set_option linter.unusedVariables false
set_option linter.unusedSimpArgs false
set_option maxRecDepth 20000
/-- of some positions the first with the least value, and the value -/
def pickB (d : Nat → Int) (xs : List Nat) (s : Int × Int) : Int × Int := xs.foldl (fun s x => if d x < s.2 then ((x : Int), d x) else s) s
theorem pickB_app {d : Nat → Int} {xs ys : List Nat} {s : Int × Int} : pickB d (xs ++ ys) s = pickB d ys (pickB d xs s) := List.foldl_append
theorem pickB_one {d : Nat → Int} {x : Nat} {s : Int × Int} : pickB d [x] s = if d x < s.2 then ((x : Int), d x) else s := rfl
theorem pickB_ind {d : Nat → Int} {xs : List Nat} {b b' l : Int} (hx : xs ≠ []) (hd : ∀ x, x ∈ xs → d x < l) : pickB d xs (b, l) = pickB d xs (b', l) := by
  cases xs with
  | nil => exact absurd rfl hx
  | cons x xs => simp only [pickB, List.foldl_cons, if_pos (hd x (by simp))]
theorem pickB_mem {d : Nat → Int} : ∀ (xs : List Nat) (s : Int × Int), pickB d xs s = s ∨ ∃ x, x ∈ xs ∧ (pickB d xs s).1 = (x : Int)
  | [], s => .inl rfl
  | x :: xs, s => by
    have e : pickB d (x :: xs) s = pickB d xs (if d x < s.2 then ((x : Int), d x) else s) := rfl
    rw [e]
    rcases pickB_mem xs (if d x < s.2 then ((x : Int), d x) else s) with h | ⟨y, hy, h⟩
    · rw [h]
      by_cases q : d x < s.2
      · rw [if_pos q]; exact .inr ⟨x, by simp, rfl⟩
      · rw [if_neg q]; exact .inl rfl
    · exact .inr ⟨y, by simp [hy], h⟩
theorem perm_mask {n : Nat} {set : List Int} (hp : Poss n set) (hn : set.Nodup) : (set.map Int.toNat).Perm ((List.range n).filter (inL set)) := by
  refine (List.perm_ext_iff_of_nodup ?_ (filter_nodup _ _)).mpr fun a => ?_
  · rw [List.Nodup, List.pairwise_iff_getElem] at hn ⊢
    intro i j hi hj hij q
    simp only [List.length_map] at hi hj
    simp only [List.getElem_map] at q
    have h1 := hp i hi
    have h2 := hp j hj
    simp only [List.getD_eq_getElem?_getD, List.getElem?_eq_getElem hi, List.getElem?_eq_getElem hj, Option.getD_some] at h1 h2
    exact hn i j hi hj hij (by omega)
  · simp only [List.mem_map, List.mem_filter, List.mem_range, inL, List.contains_iff_mem]
    constructor
    · rintro ⟨x, hx, rfl⟩
      obtain ⟨i, hi, rfl⟩ := List.getElem_of_mem hx
      have h1 := hp i hi
      simp only [List.getD_eq_getElem?_getD, List.getElem?_eq_getElem hi, Option.getD_some] at h1
      exact ⟨by omega, by rw [Int.toNat_of_nonneg h1.1]; exact hx⟩
    · rintro ⟨h1, h2⟩
      exact ⟨a, h2, rfl⟩
theorem othersN_len {n : Nat} {set : List Int} (hp : Poss n set) (hn : set.Nodup) : set.length + (othersN n set).length = n := by
  have h1 := (perm_mask hp hn).length_eq
  have h2 := filter_len n (inL set)
  have e : othersN n set = (List.range n).filter fun i => !inL set i := rfl
  rw [e]
  rw [List.length_map] at h1
  omega
theorem mem_others {n : Nat} {set : List Int} {x : Nat} : x ∈ othersN n set ↔ x < n ∧ (x : Int) ∉ set := by
  simp [othersN]
theorem poss_mem {n : Int} {set : List Int} : Poss n set ↔ ∀ x, x ∈ set → 0 ≤ x ∧ x < n := by
  constructor
  · intro h x hx
    obtain ⟨i, hi, rfl⟩ := List.getElem_of_mem hx
    have := h i hi
    simpa only [List.getD_eq_getElem?_getD, List.getElem?_eq_getElem hi, Option.getD_some] using this
  · intro h i hi
    have := h _ (List.getElem_mem hi)
    simpa only [List.getD_eq_getElem?_getD, List.getElem?_eq_getElem hi, Option.getD_some] using this
/-- the value of one position more -/
noncomputable def grD (p m : Int) (mod : List Int) (n : Int) (rows : List (List Int)) (out : List Int) (x : Nat) : Int := dimP p m mod n rows (inL (out ++ [(x : Int)]))
/-- the greedy order's first positions -/
noncomputable def grL (p m : Int) (mod : List Int) (n : Int) (rows : List (List Int)) : Nat → List Int
  | 0 => []
  | k + 1 => grL p m mod n rows k ++ [(pickB (grD p m mod n rows (grL p m mod n rows k)) (othersN n.toNat (grL p m mod n rows k)) (-1, n + 1)).1]
theorem dimP_lt {p m : Int} {mod : List Int} (h : (fF p m mod).Ok) {n : Int} (hn : 1 ≤ n) {rows : List (List Int)} (he : Els (fF p m mod) rows) (s : Nat → Bool) : dimP p m mod n rows s < n + 1 := by
  obtain ⟨h1, h2⟩ := dimP_le h (n := n) (by omega) he s
  omega
theorem nodup_push {l : List Int} {x : Int} (h : l.Nodup) (hx : x ∉ l) : (l ++ [x]).Nodup := by
  rw [List.nodup_append]
  exact ⟨h, by simp, fun a ha b hb => by simp at hb; subst hb; exact fun q => hx (q ▸ ha)⟩
theorem grL_ok {p m : Int} {mod : List Int} (h : (fF p m mod).Ok) {n : Int} (hn : 1 ≤ n) {rows : List (List Int)} (he : Els (fF p m mod) rows) : ∀ k, k ≤ n.toNat → (grL p m mod n rows k).length = k ∧ Poss n (grL p m mod n rows k) ∧ (grL p m mod n rows k).Nodup
  | 0, _ => ⟨rfl, fun i hi => by simp [grL] at hi, by simp [grL]⟩
  | k + 1, hk => by
    obtain ⟨i1, i2, i3⟩ := grL_ok h hn he k (by omega)
    have hl := othersN_len (n := n.toNat) (by rwa [Int.toNat_of_nonneg (by omega)]) i3
    generalize hd : grD p m mod n rows (grL p m mod n rows k) = d
    have hmem : ∃ x, x ∈ othersN n.toNat (grL p m mod n rows k) ∧ (pickB d (othersN n.toNat (grL p m mod n rows k)) (-1, n + 1)).1 = (x : Int) := by
      have hne : othersN n.toNat (grL p m mod n rows k) ≠ [] := fun q => by rw [q] at hl; simp at hl; omega
      have hlt : ∀ x, x ∈ othersN n.toNat (grL p m mod n rows k) → d x < n + 1 := fun x _ => hd ▸ dimP_lt h hn he _
      cases ho : othersN n.toNat (grL p m mod n rows k) with
      | nil => exact absurd ho hne
      | cons a l =>
        have e : pickB d (a :: l) (-1, n + 1) = pickB d l ((a : Int), d a) := by
          simp only [pickB, List.foldl_cons, if_pos (show d a < n + 1 from hlt a (by rw [ho]; simp))]
        rw [e]
        rcases pickB_mem (d := d) l ((a : Int), d a) with w | ⟨y, hy, w⟩
        · exact ⟨a, by simp, by rw [w]⟩
        · exact ⟨y, by simp [hy], w⟩
    obtain ⟨x, hx, hxe⟩ := hmem
    obtain ⟨x1, x2⟩ := mem_others.mp hx
    have e : grL p m mod n rows (k + 1) = grL p m mod n rows k ++ [(x : Int)] := by rw [grL, hd, hxe]
    rw [e]
    refine ⟨by simp [i1], poss_mem.mpr fun y hy => ?_, nodup_push i3 x2⟩
    rcases List.mem_append.mp hy with q | q
    · exact poss_mem.mp i2 y q
    · simp at q; omega
theorem grL_step {p m : Int} {mod : List Int} (h : (fF p m mod).Ok) {n : Int} (hn : 1 ≤ n) {rows : List (List Int)} (he : Els (fF p m mod) rows) {k : Nat} (hk : k < n.toNat) : ∃ x : Nat, (x : Int) < n ∧ (pickB (grD p m mod n rows (grL p m mod n rows k)) (othersN n.toNat (grL p m mod n rows k)) (-1, n + 1)).1 = (x : Int) := by
  obtain ⟨i1, i2, i3⟩ := grL_ok h hn he (k + 1) (by omega)
  have := i2 k (by omega)
  rw [grL, getD_appI, if_neg (by have := (grL_ok h hn he k (by omega)).1; omega), if_pos (grL_ok h hn he k (by omega)).1.symm] at this
  exact ⟨_, by omega, (Int.toNat_of_nonneg this.1).symm⟩
theorem inL_push {l : List Int} {x i : Nat} : inL (l ++ [(x : Int)]) i = (inL l i || decide (x = i)) := by
  rw [Bool.eq_iff_iff]
  simp only [inL, List.contains_iff_mem, List.mem_append, List.mem_singleton, Bool.or_eq_true, decide_eq_true_eq]
  exact or_congr Iff.rfl (by omega)
theorem testBit_push {k x : Nat} {l : List Int} (hk : k.testBit = inL l) : (k ||| 2 ^ x).testBit = inL (l ++ [(x : Int)]) := funext fun i => by
  rw [inL_push, Nat.testBit_or, Nat.testBit_two_pow, hk]
theorem c_OGreedy (A : Alg) {p m n : Int} {md v : AV} {mod : List Int} {us : List AV} {rows : List (List Int)} {H : AH} {Q : AV → AH → Prop} (hm : Ints H md mod) (hlm : mod.length ≤ 9223372036854775807) (hv : Rows H v us rows) (hl : rows.length ≤ 9223372036854775807) (hlr : ∀ i, i < rows.length → (rowAt rows i).length ≤ 9223372036854775807)
    (hQ0 : codeErr p m mod n rows ≠ 0 → ∀ H', Ext H H' → Q (.tup [.nils, .int .i64 (codeErr p m mod n rows)]) H')
    (hQ : codeErr p m mod n rows = 0 → ∀ w H', Ext H H' → Own H H' w (ints (grL p m mod n rows n.toNat)) → Q (.tup [w, .int .i64 0]) H') : AC Try.prog 17 [codeV p m md n v] H Q := by
  refine at17 (by simp) ?_
  simp (disch := first | assumption | omega) only [↓RP, RQ, TY, loadT, s17, reduceIte, Nat.reduceEqDiff, Nat.reduceAdd]
  refine kNew_intro fun b H1 hb hE1 hH1 => ?_
  simp (disch := first | assumption | omega) only [↓RP, RQ, TY, loadT, reduceIte, Nat.reduceEqDiff, Nat.reduceAdd, hH1]
  refine c_cCheck A (hm.ext hE1) hlm (hv.ext hE1) hl hlr fun H2 hE2 => ?_
  have hE12 := hE1.trans hE2
  have h2 := hE2.rw hH1
  by_cases h0 : codeErr p m mod n rows = 0
  rotate_left
  · simp (disch := first | assumption | omega) only [↓RP, RQ, TY, loadT, reduceIte, Nat.reduceEqDiff, Nat.reduceAdd, eq_false h0]
    exact hQ0 h0 H2 hE12
  have ca := A.fo.ca h0 (hm.ext hE12) (hv.ext hE12)
  have n1 := ca.n1
  have n64 := ca.n64
  have ok := ca.fa.ok
  have els := ca.els
  have hp2 := ((Hp.nil (Ext.refl H)).new hb hE1 hH1 rfl).more hE2
  clear ca
  simp (disch := first | assumption | omega) only [↓RP, RQ, TY, loadT, reduceIte, Nat.reduceEqDiff, Nat.reduceAdd, eq_true h0, h2]
  refine sw_loop (σ := Nat × AV × Nat) (fun s e H' => e 18 = .int .i64 s.1 ∧ e 17 = .int .i64 n ∧ e 6 = s.2.1 ∧ e 5 = .int .u64 (s.2.2 : Nat) ∧ e 1 = .ptr b 0 ∧ s.1 ≤ n.toNat ∧ s.2.2 < 18446744073709551616 ∧ s.2.2.testBit = inL (grL p m mod n rows s.1) ∧ Hp H H' [(s.2.1, ints (grL p m mod n rows s.1)), (.sl b 0 5 (.own 1), [.int .i64 p, .int .i64 m, md, .int .i64 n, v])]) (fun s => n.toNat - s.1) (0, .nils, 0) ?_ ?_
  · simp (disch := first | assumption | omega) only [↓RP, RQ, TY, loadT, reduceIte, Nat.reduceEqDiff, Nat.reduceAdd]
    exact ⟨by omega, by omega, funext fun i => by simp [inL, grL], hp2.nils⟩
  rintro ⟨t, w, k⟩ e H3 ⟨e18, e17, e6, e5, e1, ht, hk, hbit, hp3⟩
  dsimp only at *
  have h3 := (hp3.blkOf (y := (.sl b 0 5 (.own 1), [.int .i64 p, .int .i64 m, md, .int .i64 n, v])) (by simp) rfl).1
  by_cases hlt : (t : Int) < n
  · obtain ⟨x, hx1, hx2⟩ := grL_step ok n1 els (k := t) (by omega)
    have gl := (grL_ok ok n1 els t ht).1
    have gs : grL p m mod n rows (t + 1) = grL p m mod n rows t ++ [(x : Int)] := by rw [grL, hx2]
    generalize hd : grD p m mod n rows (grL p m mod n rows t) = d at hx2
    generalize hg : grL p m mod n rows t = g at *
    simp (disch := first | assumption | omega) only [↓RP, RQ, TY, loadT, reduceIte, Nat.reduceEqDiff, Nat.reduceAdd, e18, e17, e6, e5, e1, hlt, h3]
    refine sw_loop (σ := Nat × Int × Int) (fun s e H' => e 25 = .int .i64 s.1 ∧ e 24 = .int .i64 n ∧ e 7 = .int .i64 s.2.1 ∧ e 8 = .int .i64 s.2.2 ∧ e 18 = .int .i64 t ∧ e 17 = .int .i64 n ∧ e 6 = w ∧ e 5 = .int .u64 (k : Nat) ∧ e 1 = .ptr b 0 ∧ s.1 ≤ n.toNat ∧ Ext H3 H' ∧ s.2 = pickB d (othersN s.1 g) (-1, n + 1)) (fun s => n.toNat - s.1) (0, -1, n + 1) ?_ ?_
    · simp (disch := first | assumption | omega) only [↓RP, RQ, TY, loadT, reduceIte, Nat.reduceEqDiff, Nat.reduceAdd, e18, e17, e6, e5, e1]
      exact ⟨by omega, Ext.refl _, rfl⟩
    rintro ⟨i, bst, lst⟩ e' H4 ⟨g25, g24, g7, g8, g18, g17, g6, g5, g1, hi, hE4, hs⟩
    dsimp only at *
    have hE04 := hp3.ext.trans hE4
    by_cases hin : (i : Int) < n
    · have hon := othersN_succ i g
      cases hb2 : k.testBit i
      · have hc : g.contains (i : Int) = false := by
          have := congrFun hbit i
          rw [hb2] at this
          exact this.symm
        rw [if_neg (by rw [hc]; simp)] at hon
        obtain ⟨o1, o2⟩ := bit_or (k := k) (x := i) hk (by omega)
        have h4 := hE4.rw h3
        have hand := bit_and (k := k) (i := i) hk (by omega)
        rw [hb2, if_neg (by simp)] at hand
        have ilt : i < 64 := by omega
        simp (disch := first | assumption | omega) only [↓RP, RQ, TY, loadT, reduceIte, Nat.reduceEqDiff, Nat.reduceAdd, g25, g24, g7, g8, g18, g17, g6, g5, g1, hin, hand, o1, h4, Int.reduceEq]
        refine c_odim A (hm.ext hE04) hlm (hv.ext hE04) h0 o2 fun H5 hE5 => ?_
        have hde : (rankP p m mod n rows (k ||| 2 ^ i).testBit : Int) + rankP p m mod n rows (fun j => !(k ||| 2 ^ i).testBit j) - rows.length = d i := by
          rw [← hd, grD, testBit_push hbit]; rfl
        rw [hde]
        have hE35 := hE4.trans hE5
        by_cases hc2 : d i < lst
        · simp (disch := first | assumption | omega) only [↓RP, RQ, TY, loadT, reduceIte, Nat.reduceEqDiff, Nat.reduceAdd, g25, g24, g7, g8, g18, g17, g6, g5, g1, hc2]
          refine ⟨(i + 1, (i : Int), d i), ?_, by dsimp only; omega⟩
          simp (disch := first | assumption | omega) only [↓RP, RQ, TY, loadT, reduceIte, Nat.reduceEqDiff, Nat.reduceAdd, g25, g24, g7, g8, g18, g17, g6, g5, g1]
          refine ⟨by omega, hE35, ?_⟩
          rw [hon, pickB_app, ← hs, pickB_one, if_pos hc2]
        · simp (disch := first | assumption | omega) only [↓RP, RQ, TY, loadT, reduceIte, Nat.reduceEqDiff, Nat.reduceAdd, g25, g24, g7, g8, g18, g17, g6, g5, g1, hc2]
          refine ⟨(i + 1, bst, lst), ?_, by dsimp only; omega⟩
          simp (disch := first | assumption | omega) only [↓RP, RQ, TY, loadT, reduceIte, Nat.reduceEqDiff, Nat.reduceAdd, g25, g24, g7, g8, g18, g17, g6, g5, g1]
          refine ⟨by omega, hE35, ?_⟩
          rw [hon, pickB_app, ← hs, pickB_one, if_neg hc2]
      · have hc : g.contains (i : Int) = true := by
          have := congrFun hbit i
          rw [hb2] at this
          exact this.symm
        rw [if_pos hc, List.append_nil] at hon
        have hand := bit_and (k := k) (i := i) hk (by omega)
        rw [hb2, if_pos rfl] at hand
        simp (disch := first | assumption | omega) only [↓RP, RQ, TY, loadT, reduceIte, Nat.reduceEqDiff, Nat.reduceAdd, g25, g24, g7, g8, g18, g17, g6, g5, g1, hin, hand, Int.reduceEq]
        refine ⟨(i + 1, bst, lst), ?_, by dsimp only; omega⟩
        simp (disch := first | assumption | omega) only [↓RP, RQ, TY, loadT, reduceIte, Nat.reduceEqDiff, Nat.reduceAdd, g25, g24, g7, g8, g18, g17, g6, g5, g1]
        refine ⟨by omega, hE4, ?_⟩
        rw [hon, hs]
    · rw [show i = n.toNat by omega] at hs
      have hbx : bst = x := by rw [← hx2, ← hs]
      rw [hbx] at g7
      obtain ⟨o1, o2⟩ := bit_or (k := k) (x := x) hk (by omega)
      have xlt : x < 64 := by omega
      simp (disch := first | assumption | omega) only [↓RP, RQ, TY, loadT, reduceIte, Nat.reduceEqDiff, Nat.reduceAdd, g25, g24, g7, g8, g18, g17, g6, g5, g1, hin]
      refine kNew_intro fun b6 H6 hb6 hE6 hH6 => ?_
      simp (disch := first | assumption | omega) only [↓RP, RQ, TY, loadT, reduceIte, Nat.reduceEqDiff, Nat.reduceAdd, g25, g24, g7, g8, g18, g17, g6, g5, g1]
      refine kApp_hp (us := ints [(x : Int)]) ((hp3.more hE4).more hE6) (Sl.own hH6 rfl) ints_ones (by rw [ints_length, ints_length, List.length_singleton]; omega) (by rw [ints_length, ints_length, List.length_singleton]; omega) fun v7 H7 hp7 => ?_
      rw [ints_app, ← gs] at hp7
      simp (disch := first | assumption | omega) only [↓RP, RQ, TY, loadT, reduceIte, Nat.reduceEqDiff, Nat.reduceAdd, g25, g24, g7, g8, g18, g17, g6, g5, g1, o1]
      refine ⟨(t + 1, v7, k ||| 2 ^ x), ?_, by dsimp only; omega⟩
      simp (disch := first | assumption | omega) only [↓RP, RQ, TY, loadT, reduceIte, Nat.reduceEqDiff, Nat.reduceAdd, g25, g24, g7, g8, g18, g17, g6, g5, g1]
      exact ⟨by omega, o2, by rw [gs]; exact testBit_push hbit, hp7⟩
  · rw [show t = n.toNat by omega] at hp3
    simp (disch := first | assumption | omega) only [↓RP, RQ, TY, loadT, reduceIte, Nat.reduceEqDiff, Nat.reduceAdd, e18, e17, e6, e5, e1, hlt]
    exact hQ h0 w H3 hp3.ext hp3.head
end Go.Proofs.Yteijojnahpeglaa.AM
/-! The reference's words: Compare, Same; its greedy order. -/
namespace Go.Proofs.Yteijojnahpeglaa.AM
open Go Go.RowKit
set_option linter.unusedVariables false
set_option linter.unusedSimpArgs false
set_option maxRecDepth 20000
theorem c_Compare {a b : AV} {xs ys : List Int} {H : AH} {Q : AV → AH → Prop} (ha : Ints H a xs) (hb : Ints H b ys) (hla : xs.length ≤ 9223372036854775807) (hlb : ys.length ≤ 9223372036854775807) (hQ : ∀ c : Int, (c = 0 ↔ xs = ys) → Q (.int .i64 c) H) : AC Try.prog 34 [a, b] H Q := by
  refine at34 (by simp) ?_
  simp (disch := first | assumption | omega) only [↓RP, RQ, TY, loadT, s34, reduceIte, Nat.reduceEqDiff, Nat.reduceAdd]
  refine sw_loop (σ := Nat) (fun i e H' => e 5 = .int .i64 i ∧ e 0 = a ∧ e 1 = b ∧ i ≤ xs.length ∧ i ≤ ys.length ∧ xs.take i = ys.take i ∧ H' = H) (fun i => xs.length - i) 0 ?_ ?_
  · simp (disch := first | assumption | omega) only [↓RP, RQ, TY, loadT, reduceIte, Nat.reduceEqDiff, Nat.reduceAdd]
    exact ⟨by omega, by omega, rfl⟩
  rintro i e H' ⟨e5, e0, e1, hi, hj, ht, rfl⟩
  by_cases h1 : (i : Int) < xs.length
  · by_cases h2 : (i : Int) < ys.length
    · by_cases g1 : xs.getD i 0 < ys.getD i 0
      · simp (disch := first | assumption | omega) only [↓RP, RQ, TY, loadT, reduceIte, Nat.reduceEqDiff, Nat.reduceAdd, e5, e0, e1, h1, h2, ha.ints, hb.ints, g1]
        exact hQ (-1) ⟨fun q => by omega, fun q => by rw [q] at g1; omega⟩
      by_cases g2 : ys.getD i 0 < xs.getD i 0
      · simp (disch := first | assumption | omega) only [↓RP, RQ, TY, loadT, reduceIte, Nat.reduceEqDiff, Nat.reduceAdd, e5, e0, e1, h1, h2, ha.ints, hb.ints, g1, g2]
        exact hQ 1 ⟨fun q => by omega, fun q => by rw [q] at g2; omega⟩
      simp (disch := first | assumption | omega) only [↓RP, RQ, TY, loadT, reduceIte, Nat.reduceEqDiff, Nat.reduceAdd, e5, e0, e1, h1, h2, ha.ints, hb.ints, g1, g2]
      refine ⟨i + 1, ?_, by dsimp only; omega⟩
      simp (disch := first | assumption | omega) only [↓RP, RQ, TY, loadT, reduceIte, Nat.reduceEqDiff, Nat.reduceAdd, e5, e0, e1]
      refine ⟨by omega, by omega, ?_⟩
      have q1 : i < xs.length := by omega
      have q2 : i < ys.length := by omega
      rw [← take_push 0 q1, ← take_push 0 q2, ht, show xs.getD i 0 = ys.getD i 0 by omega]
    · simp (disch := first | assumption | omega) only [↓RP, RQ, TY, loadT, reduceIte, Nat.reduceEqDiff, Nat.reduceAdd, e5, e0, e1, h1, h2, ha.ints, hb.ints]
      have g1 : ¬ (xs.length : Int) < ys.length := by omega
      have g2 : (ys.length : Int) < xs.length := by omega
      simp (disch := first | assumption | omega) only [↓RP, RQ, TY, loadT, reduceIte, Nat.reduceEqDiff, Nat.reduceAdd, e5, e0, e1, ha.ints, hb.ints, g1, g2]
      exact hQ 1 ⟨fun q => by omega, fun q => by rw [q] at g2; omega⟩
  · by_cases g1 : (xs.length : Int) < ys.length
    · simp (disch := first | assumption | omega) only [↓RP, RQ, TY, loadT, reduceIte, Nat.reduceEqDiff, Nat.reduceAdd, e5, e0, e1, h1, ha.ints, hb.ints, g1]
      exact hQ (-1) ⟨fun q => by omega, fun q => by rw [q] at g1; omega⟩
    have g2 : ¬ (ys.length : Int) < xs.length := by omega
    simp (disch := first | assumption | omega) only [↓RP, RQ, TY, loadT, reduceIte, Nat.reduceEqDiff, Nat.reduceAdd, e5, e0, e1, h1, ha.ints, hb.ints, g1, g2]
    refine hQ 0 ⟨fun _ => ?_, fun _ => rfl⟩
    rw [List.take_of_length_le (by omega), List.take_of_length_le (by omega)] at ht
    exact ht
theorem c_Same {a b : AV} {xs ys : List Int} {H : AH} {Q : AV → AH → Prop} (ha : Ints H a xs) (hb : Ints H b ys) (hla : xs.length ≤ 9223372036854775807) (hlb : ys.length ≤ 9223372036854775807) (hQ : Q (.bool (decide (xs = ys))) H) : AC Try.prog 18 [a, b] H Q := by
  refine at18 (by simp) ?_
  simp (disch := first | assumption | omega) only [↓RP, RQ, TY, loadT, s18, reduceIte, Nat.reduceEqDiff, Nat.reduceAdd]
  refine c_Compare ha hb hla hlb fun c hc => ?_
  by_cases q : xs = ys
  · have c0 : c = 0 := hc.mpr q
    rw [decide_eq_true q] at hQ
    simp (disch := first | assumption | omega) only [↓RP, RQ, TY, loadT, reduceIte, Nat.reduceEqDiff, Nat.reduceAdd, c0]
    exact hQ
  · have c0 : ¬ c = 0 := fun h => q (hc.mp h)
    rw [decide_eq_false q] at hQ
    simp (disch := first | assumption | omega) only [↓RP, RQ, TY, loadT, reduceIte, Nat.reduceEqDiff, Nat.reduceAdd, c0]
    exact hQ
theorem natsI_getDn {l : List Nat} {i : Nat} (h : i < l.length) : (natsI l).getD i 0 = ((l.getD i 0 : Nat) : Int) := by
  simp [natsI, List.getD_eq_getElem?_getD, h]
theorem getD_mem' {l : List Nat} {i : Nat} (h : i < l.length) : l.getD i 0 ∈ l := by
  simp [List.getD_eq_getElem?_getD, h]
theorem c_Greedy48 (A : Alg) {p m n : Int} {md v : AV} {mod : List Int} {us : List AV} {rows : List (List Int)} {H : AH} {Q : AV → AH → Prop} (hm : Ints H md mod) (hv : Rows H v us rows) (h0 : codeErr p m mod n rows = 0)
    (hQ : ∀ w H', Ext H H' → Own H H' w (ints (grL p m mod n rows n.toNat)) → Q w H') : AC Try.prog 19 [codeV p m md n v] H Q := by
  have ca := A.fo.ca h0 hm hv
  have n1 := ca.n1
  have n64 := ca.n64
  have ok := ca.fa.ok
  have els := ca.els
  refine at19 (by simp) ?_
  simp (disch := first | assumption | omega) only [↓RP, RQ, TY, loadT, s19, reduceIte, Nat.reduceEqDiff, Nat.reduceAdd]
  refine kNew_intro fun b H1 hb hE1 hH1 => ?_
  simp (disch := first | assumption | omega) only [↓RP, RQ, TY, loadT, reduceIte, Nat.reduceEqDiff, Nat.reduceAdd]
  refine kNew_intro fun b2 H2 hb2 hE2 hH2 => ?_
  simp (disch := first | assumption | omega) only [↓RP, RQ, TY, loadT, reduceIte, Nat.reduceEqDiff, Nat.reduceAdd]
  have hp2 := ((Hp.nil (Ext.refl H)).new hb hE1 hH1 rfl).new hb2 hE2 hH2 rfl
  refine sw_loop (σ := Nat × AV) (fun s e H' => e 3 = s.2 ∧ e 1 = .ptr b 0 ∧ s.1 ≤ n.toNat ∧ Hp H H' [(s.2, ints (grL p m mod n rows s.1)), (.sl b 0 5 (.own 1), [.int .i64 p, .int .i64 m, md, .int .i64 n, v])]) (fun s => n.toNat - s.1) (0, .sl b2 0 0 (.own 1)) ?_ ?_
  · simp (disch := first | assumption | omega) only [↓RP, RQ, TY, loadT, reduceIte, Nat.reduceEqDiff, Nat.reduceAdd]
    exact ⟨by omega, hp2⟩
  rintro ⟨t, w⟩ e H3 ⟨e3, e1, ht, hp3⟩
  dsimp only at *
  have h3 := (hp3.blkOf (y := (.sl b 0 5 (.own 1), [.int .i64 p, .int .i64 m, md, .int .i64 n, v])) (by simp) rfl).1
  have gok := grL_ok ok n1 els t ht
  have gl := gok.1
  by_cases hlt : (t : Int) < n
  · obtain ⟨x, hx1, hx2⟩ := grL_step ok n1 els (k := t) (by omega)
    have gs : grL p m mod n rows (t + 1) = grL p m mod n rows t ++ [(x : Int)] := by rw [grL, hx2]
    generalize hd : grD p m mod n rows (grL p m mod n rows t) = d at hx2
    generalize hg : grL p m mod n rows t = g at *
    have glt : (g.length : Int) < n := by omega
    simp (disch := first | assumption | omega) only [↓RP, RQ, TY, loadT, reduceIte, Nat.reduceEqDiff, Nat.reduceAdd, e3, e1, h3, hp3.head.sl.ints, glt]
    refine c_Others (by omega) (by omega) hp3.head.sl (by omega) gok.2.1 fun w4 H4 hE4 ho4 => ?_
    have hp4 := hp3.made (H1 := H) hE4 ho4
    have hol := othersN_len (n := n.toNat) (by rw [Int.toNat_of_nonneg (by omega)]; exact gok.2.1) gok.2.2
    have h4 := (hp4.blkOf (y := (.sl b 0 5 (.own 1), [.int .i64 p, .int .i64 m, md, .int .i64 n, v])) (by simp) rfl).1
    have hnl := natsI_length (othersN n.toNat g)
    have hdl : ∀ y, y ∈ othersN n.toNat g → d y < n + 1 := fun y _ => hd ▸ dimP_lt ok n1 els _
    have hne : othersN n.toNat g ≠ [] := fun q => by rw [q] at hol; simp at hol; omega
    have hx3 : (pickB d (othersN n.toNat g) ((natsI (othersN n.toNat g)).getD 0 0, n + 1)).1 = x := by rw [← hx2, pickB_ind hne hdl]
    have hmo : ∀ y, y ∈ othersN n.toNat g → (y : Int) < n ∧ (y : Int) ∉ g := fun y hy => by
      obtain ⟨q1, q2⟩ := mem_others.mp hy
      exact ⟨by omega, q2⟩
    generalize hO : othersN n.toNat g = O at *
    have hO0 : (0 : Int) < (natsI O).length := by omega
    simp (disch := first | assumption | omega) only [↓RP, RQ, TY, loadT, reduceIte, Nat.reduceEqDiff, Nat.reduceAdd, e3, e1, h4, ho4.sl.ints]
    refine sw_loop (σ := Nat × Int × Int) (fun s e H' => e 7 = .int .i64 s.1 ∧ e 5 = .int .i64 s.2.1 ∧ e 6 = .int .i64 s.2.2 ∧ e 4 = w4 ∧ e 3 = w ∧ e 1 = .ptr b 0 ∧ s.1 ≤ O.length ∧ Ext H4 H' ∧ s.2 = pickB d (O.take s.1) ((natsI O).getD 0 0, n + 1)) (fun s => O.length - s.1) (0, (natsI O).getD 0 0, n + 1) ?_ ?_
    · simp (disch := first | assumption | omega) only [↓RP, RQ, TY, loadT, reduceIte, Nat.reduceEqDiff, Nat.reduceAdd, e3, e1]
      exact ⟨rfl, by omega, Ext.refl _, rfl⟩
    rintro ⟨i, bst, lst⟩ e' H5 ⟨g7, g5, g6, g4, g3, g1, hi, hE5, hs⟩
    dsimp only at *
    have hp5 := hp4.more hE5
    have h5 := hE5.rw h4
    have s4 := (hp5.sl (y := (w4, ints (natsI O))) (by simp))
    have s3 := (hp5.sl (y := (w, ints g)) (by simp))
    by_cases hin : (i : Int) < O.length
    · have hin2 : (i : Int) < (natsI O).length := by omega
      have hgd := natsI_getDn (l := O) (i := i) (by omega)
      obtain ⟨y, hy⟩ : ∃ y, O.getD i 0 = y := ⟨_, rfl⟩
      have hym : y ∈ O := hy ▸ getD_mem' (by omega)
      obtain ⟨y1, y2⟩ := hmo y hym
      rw [hy] at hgd
      simp (disch := first | assumption | omega) only [↓RP, RQ, TY, loadT, reduceIte, Nat.reduceEqDiff, Nat.reduceAdd, g7, g5, g6, g4, g3, g1, hin2, h5, s4.ints, hgd]
      refine kNew_intro fun b6 H6 hb6 hE6 hH6 => ?_
      simp (disch := first | assumption | omega) only [↓RP, RQ, TY, loadT, reduceIte, Nat.reduceEqDiff, Nat.reduceAdd, g7, g5, g6, g4, g3, g1]
      refine kApp_hp (us := ints g) ((Hp.nil (Ext.refl H5)).new hb6 hE6 hH6 rfl) (s3.ext hE6) ints_ones (by simp [ints_length]; omega) (by simp [ints_length]; omega) fun v7 H7 hp7 => ?_
      rw [List.nil_append] at hp7
      simp (disch := first | assumption | omega) only [↓RP, RQ, TY, loadT, reduceIte, Nat.reduceEqDiff, Nat.reduceAdd, g7, g5, g6, g4, g3, g1, (s4.ext hp7.ext).ints, hp7.ext.rw h5, hgd, hin2]
      refine kNew_intro fun b8 H8 hb8 hE8 hH8 => ?_
      simp (disch := first | assumption | omega) only [↓RP, RQ, TY, loadT, reduceIte, Nat.reduceEqDiff, Nat.reduceAdd, g7, g5, g6, g4, g3, g1]
      refine kApp_hp (us := ints [(y : Int)]) (hp7.more hE8) (Sl.own hH8 rfl) ints_ones (by rw [ints_length, ints_length, List.length_singleton]; omega) (by rw [ints_length, ints_length, List.length_singleton]; omega) fun v9 H9 hp9 => ?_
      rw [ints_app] at hp9
      have hE9 := hp5.ext.trans hp9.ext
      have hpo : Poss n (g ++ [(y : Int)]) := poss_mem.mpr fun z hz => by
        rcases List.mem_append.mp hz with q | q
        · exact poss_mem.mp gok.2.1 z q
        · simp at q; omega
      have hyv : dimS p m mod n rows (g ++ [(y : Int)]) = d y := by
        rw [dimS_eq ok (by omega) els hpo (nodup_push gok.2.2 y2), ← hd]; rfl
      simp (disch := first | assumption | omega) only [↓RP, RQ, TY, loadT, reduceIte, Nat.reduceEqDiff, Nat.reduceAdd, g7, g5, g6, g4, g3, g1, (s4.ext hp9.ext).ints, hp9.ext.rw h5, hgd, hin2]
      refine c_Of (A.fo.ca h0 (hm.ext hE9) (hv.ext hE9)) hp9.head.sl hpo (by rw [List.length_append, List.length_singleton]; omega) fun H10 hE10 => ?_
      rw [hyv]
      have hE510 : Ext H4 H10 := (hE5.trans hp9.ext).trans hE10
      have s4 := s4.ext (hp9.ext.trans hE10)
      by_cases hc2 : d y < lst
      · simp (disch := first | assumption | omega) only [↓RP, RQ, TY, loadT, reduceIte, Nat.reduceEqDiff, Nat.reduceAdd, g7, g5, g6, g4, g3, g1, hc2, s4.ints, hin2, hgd]
        refine ⟨(i + 1, (y : Int), d y), ?_, by dsimp only; omega⟩
        simp (disch := first | assumption | omega) only [↓RP, RQ, TY, loadT, reduceIte, Nat.reduceEqDiff, Nat.reduceAdd, g7, g5, g6, g4, g3, g1]
        refine ⟨by omega, hE510, ?_⟩
        rw [← take_push (l := O) (i := i) 0 (by omega), hy, pickB_app, ← hs, pickB_one, if_pos hc2]
      · simp (disch := first | assumption | omega) only [↓RP, RQ, TY, loadT, reduceIte, Nat.reduceEqDiff, Nat.reduceAdd, g7, g5, g6, g4, g3, g1, hc2]
        refine ⟨(i + 1, bst, lst), ?_, by dsimp only; omega⟩
        simp (disch := first | assumption | omega) only [↓RP, RQ, TY, loadT, reduceIte, Nat.reduceEqDiff, Nat.reduceAdd, g7, g5, g6, g4, g3, g1]
        refine ⟨by omega, hE510, ?_⟩
        rw [← take_push (l := O) (i := i) 0 (by omega), hy, pickB_app, ← hs, pickB_one, if_neg hc2]
    · have hin2 : ¬ (i : Int) < (natsI O).length := by omega
      rw [List.take_of_length_le (by omega)] at hs
      have hbx : bst = x := by rw [← hx3, ← hs]
      rw [hbx] at g5
      simp (disch := first | assumption | omega) only [↓RP, RQ, TY, loadT, reduceIte, Nat.reduceEqDiff, Nat.reduceAdd, g7, g5, g6, g4, g3, g1, hin2, s4.ints]
      refine kNew_intro fun b6 H6 hb6 hE6 hH6 => ?_
      simp (disch := first | assumption | omega) only [↓RP, RQ, TY, loadT, reduceIte, Nat.reduceEqDiff, Nat.reduceAdd, g7, g5, g6, g4, g3, g1]
      refine kApp_hp (us := ints [(x : Int)]) ((hp5.tail).more hE6) (Sl.own hH6 rfl) ints_ones (by rw [ints_length, ints_length, List.length_singleton]; omega) (by rw [ints_length, ints_length, List.length_singleton]; omega) fun v7 H7 hp7 => ?_
      rw [ints_app, ← gs] at hp7
      simp (disch := first | assumption | omega) only [↓RP, RQ, TY, loadT, reduceIte, Nat.reduceEqDiff, Nat.reduceAdd, g7, g5, g6, g4, g3, g1]
      refine ⟨(t + 1, v7), ?_, by dsimp only; omega⟩
      simp (disch := first | assumption | omega) only [↓RP, RQ, TY, loadT, reduceIte, Nat.reduceEqDiff, Nat.reduceAdd, g7, g5, g6, g4, g3, g1]
      exact ⟨by omega, hp7⟩
  · rw [show t = n.toNat by omega] at hp3
    have glt : ¬ (((grL p m mod n rows n.toNat).length : Nat) : Int) < n := by rw [(grL_ok ok n1 els n.toNat (Nat.le_refl _)).1]; omega
    simp (disch := first | assumption | omega) only [↓RP, RQ, TY, loadT, reduceIte, Nat.reduceEqDiff, Nat.reduceAdd, e3, e1, h3, glt, hp3.head.sl.ints]
    exact hQ w H3 hp3.ext hp3.head
end Go.Proofs.Yteijojnahpeglaa.AM
/-! The law OrderingGreedy. -/
namespace Go.Proofs.Yteijojnahpeglaa.AM
open Go Go.RowKit
set_option linter.unusedVariables false
set_option linter.unusedSimpArgs false
set_option maxRecDepth 20000
theorem law_Greedy (A : Alg) {p m n : Int} {md v : AV} {mod : List Int} {us : List AV} {rows : List (List Int)} {H : AH} (hm : Ints H md mod) (hlm : mod.length ≤ 9223372036854775807) (hv : Rows H v us rows) (hl : rows.length ≤ 9223372036854775807) (hlr : ∀ i, i < rows.length → (rowAt rows i).length ≤ 9223372036854775807) :
    AC Try.prog 6 [codeV p m md n v] H fun r H' => r = .bool true ∧ Ext H H' := by
  refine at6 (by simp) ?_
  simp (disch := first | assumption | omega) only [↓RP, RQ, TY, loadT, s6, reduceIte, Nat.reduceEqDiff, Nat.reduceAdd]
  refine kNew_intro fun b H1 hb hE1 hH1 => ?_
  simp (disch := first | assumption | omega) only [↓RP, RQ, TY, loadT, reduceIte, Nat.reduceEqDiff, Nat.reduceAdd, hH1]
  refine c_Check12 A.fo (hm.ext hE1) (hv.ext hE1) hl hlr fun H2 hE2 => ?_
  have hE12 := hE1.trans hE2
  have h2 := hE2.rw hH1
  by_cases h0 : codeErr p m mod n rows = 0
  · by_cases hb12 : 12 < n
    · simp (disch := first | assumption | omega) only [↓RP, RQ, TY, loadT, reduceIte, Nat.reduceEqDiff, Nat.reduceAdd, eq_true h0, h2, hb12]
      refine c_alive A fun H3 hE3 => ?_
      simp (disch := first | assumption | omega) only [↓RP, RQ, TY, loadT, reduceIte, Nat.reduceEqDiff, Nat.reduceAdd]
      exact ⟨rfl, hE12.trans hE3⟩
    · have ca := A.fo.ca h0 (hm.ext hE12) (hv.ext hE12)
      have n1 := ca.n1
      have n64 := ca.n64
      have gl := (grL_ok ca.fa.ok n1 ca.els n.toNat (Nat.le_refl _)).1
      simp (disch := first | assumption | omega) only [↓RP, RQ, TY, loadT, reduceIte, Nat.reduceEqDiff, Nat.reduceAdd, eq_true h0, h2, hb12]
      refine c_OGreedy A (hm.ext hE12) hlm (hv.ext hE12) hl hlr (fun q => absurd h0 q) fun _ w H3 hE3 ho3 => ?_
      have hE13 := hE12.trans hE3
      have h3 := hE3.rw h2
      simp (disch := first | assumption | omega) only [↓RP, RQ, TY, loadT, reduceIte, Nat.reduceEqDiff, Nat.reduceAdd, h3]
      refine c_Check12 A.fo (hm.ext hE13) (hv.ext hE13) hl hlr fun H4 hE4 => ?_
      have hE14 := hE13.trans hE4
      have h4 := hE4.rw h3
      simp (disch := first | assumption | omega) only [↓RP, RQ, TY, loadT, reduceIte, Nat.reduceEqDiff, Nat.reduceAdd, eq_true h0, h0, h4]
      refine c_alive A fun H5 hE5 => ?_
      have hE15 := hE14.trans hE5
      have h5 := hE5.rw h4
      simp (disch := first | assumption | omega) only [↓RP, RQ, TY, loadT, reduceIte, Nat.reduceEqDiff, Nat.reduceAdd, eq_true h0, h0, h5]
      refine c_Greedy48 A (hm.ext hE15) (hv.ext hE15) h0 fun w6 H6 hE6 ho6 => ?_
      simp (disch := first | assumption | omega) only [↓RP, RQ, TY, loadT, reduceIte, Nat.reduceEqDiff, Nat.reduceAdd]
      refine c_Same (ho3.sl.ext (hE4.trans (hE5.trans hE6))) ho6.sl (by omega) (by omega) ?_
      simp (disch := first | assumption | omega) only [↓RP, RQ, TY, loadT, reduceIte, Nat.reduceEqDiff, Nat.reduceAdd]
      exact ⟨rfl, hE15.trans hE6⟩
  · simp (disch := first | assumption | omega) only [↓RP, RQ, TY, loadT, reduceIte, Nat.reduceEqDiff, Nat.reduceAdd, eq_false h0, h2]
    refine c_OGreedy A (hm.ext hE12) hlm (hv.ext hE12) hl hlr (fun q H3 hE3 => ?_) fun q => absurd q h0
    have hE13 := hE12.trans hE3
    have h3 := hE3.rw h2
    simp (disch := first | assumption | omega) only [↓RP, RQ, TY, loadT, reduceIte, Nat.reduceEqDiff, Nat.reduceAdd, h3]
    refine c_Check12 A.fo (hm.ext hE13) (hv.ext hE13) hl hlr fun H4 hE4 => ?_
    have hE14 := hE13.trans hE4
    have h4 := hE4.rw h3
    simp (disch := first | assumption | omega) only [↓RP, RQ, TY, loadT, reduceIte, Nat.reduceEqDiff, Nat.reduceAdd, eq_false h0, h4, eq_false (show ¬ codeErr p m mod n rows ≠ codeErr p m mod n rows by simp)]
    refine c_alive A fun H5 hE5 => ?_
    simp (disch := first | assumption | omega) only [↓RP, RQ, TY, loadT, reduceIte, Nat.reduceEqDiff, Nat.reduceAdd, eq_false h0]
    exact ⟨rfl, hE14.trans hE5⟩
end Go.Proofs.Yteijojnahpeglaa.AM
