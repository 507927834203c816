/- Helpers. The program's matrices, fourth part: eliminate. · The program's matrices, fifth part: clone, canon, open. · The program's matrices, sixth part: Canonical; the program's spaces and codes: Check. · The program's spaces and codes: Check. · Lists of slices of the call's own in blocks of their own. · The program's information sets, first part: IndexFunc, basis.add. · The program's information sets, second part: column, greedy, sets, Rank. · The program's information sets, third part: sets, open, Rank. · The program's orderings, first part: rank, dimension, Dimension. · The program's orderings, second part: Dimension. · The rank that greedy counts and the rank that elimination counts (plain law). · Both ranks are one; bounds of dimensions (plain law). · The laws' check that the program is alive. · From the abstract machine to the rows: the heap that a call finds; what its arguments read as. · Residues as vectors of whole numbers: the shift T, what a list of digits does to a vector (plain Lean). · The products of the program and of the reference, as vectors (plain Lean). · The residues are a commutative ring; both products are one (plain Lean). · Powers of a generator; the algebra from: every field has a generator, and only fields have (plain Lean). · What has a generator has no divisors (plain Lean). · Products, powers and divisions of lists of digits that the kernel can work out (plain Lean). · The check of a certificate, and what it shows (plain Lean). · PRINTED by mkfld.py: for each size of field a list of certificates, one for each modulus: a generator, or a divisor; the kernel checks them. · PRINTED by mkfld.py: every field has a generator: by the tables. · The row's wrap and the algebra of the small fields, together: what each law's proof imports. · A block laid aside over a call. · Two matrices in standard form, each the other's kernel: their ranks (plain law). · Reduced matrices stay as they are; the kernel's matrix and its ranks (plain law). · The program's matrices, eighth part: Contains, Kernel. · The program's codes, first part: own, of, Dual. · The library's slices.Values and slices.AppendSeq over it (after the kit's worked text on ranges over a function). -/
import Derived.Test.YtbkpebmcagdgmaaGreatK5
import Derived.Test.YtbkpebmcagdgmaaGreatChecked
import Derived.Below
import Derived.Carry
import Derived.SizedLaws
import Derived.OpenShut
import Derived.WalkKit
import Derived.ProofKit
import Derived.Deep.Matrix
import Derived.Deep.Strs
import Derived.WideShapes
import Derived.KernelRfl
import Derived.Test.YtbkpebmcagdgmaaGreatK1
import Derived.RangeFuncBox
import Derived.RangeFuncWrites
import Derived.RangeFuncLeaves
import Derived.Shelf.Abstract
import Derived.Maps.AppendAt
import Derived.OwnWalkIn
import Derived.TacticsInMore
import Derived.LoopNIn
import Derived.LoopIn
import Derived.Test.YtbkpebmcagdgmaaGreatProg
/-! The program's matrices, fourth part: eliminate. -/
namespace Go.Proofs.YtbkpebmcagdgmaaGreat.AM
open Go Go.RowKit
set_option linter.unusedVariables false
set_option linter.unusedSimpArgs false
set_option maxRecDepth 20000
theorem u_st1I {P : Program} {K : Kt} {e : Env} {H : AH} {d : Option Nat} {r : Rst} {ds : List Nat} {blk : Nat} {k : IntKind} {n : Int} {x : AV} : kSt P ds blk 0 r e H K d (.int k n) (.rw [x]) = kRet P ds r e (H.upd blk (.rw [.int k n])) K d (.tup []) :=
  st_put rfl (by simp)
theorem c_elimP (A : Alg) {bg : Nat} {p m : Int} {lv : AV} {mod : List Int} {us : List AV} {rows : List (List Int)} {n cols : Nat} {H0 H : AH} {Q : AV → AH → Prop} (hg : GFA H0 bg p m mod) (hE0 : Ext H0 H) (hF : FieldOk p m mod)
    (hs : Sl H lv us) (hul : us.length = rows.length) (hr : Rect n rows) (he : Els (fF p m mod) rows) (hn : n ≤ 1000) (hk : rows.length ≤ 1000) (hc : cols ≤ n)
    (hP : 0 < n → 0 < rows.length → PM H0 H lv us rows .nils [] [])
    (hQ0 : n = 0 ∨ rows.length = 0 → ∀ H' d, Ext H H' → Q (.tup [.nils, .int .i64 d]) H')
    (hQ : ∀ pv us' H' d, 0 < n → 0 < rows.length → PM H0 H' lv us' (elim (fF p m mod) rows cols).1 pv (natsI (elim (fF p m mod) rows cols).2) [] → Q (.tup [pv, .int .i64 d]) H') :
    AC Tryz.prog 130 [.ptr bg 0, lv, .int .i64 cols, .nils] H Q := by
  have ok := A.fo _ _ _ hF
  obtain ⟨hcl, hsu⟩ := one_cells hs.one
  refine at130 (by simp) ?_
  simp (disch := first | assumption | omega) only [↓RP, RQ, TY, loadT, s130, reduceIte, Nat.reduceEqDiff, Nat.reduceAdd, hcl, hsu, true_and]
  refine kNew_intro fun b4 H1 hb4 hE1 hH1 => ?_
  simp (disch := first | assumption | omega) only [↓RP, RQ, TY, loadT, reduceIte, Nat.reduceEqDiff, Nat.reduceAdd, hcl, hsu, true_and]
  refine kNew_intro fun b5 H2 hb5 hE2 hH2 => ?_
  simp (disch := first | assumption | omega) only [↓RP, RQ, TY, loadT, reduceIte, Nat.reduceEqDiff, Nat.reduceAdd]
  refine kNew_intro fun b7 H3 hb7 hE3 hH3 => ?_
  simp (disch := first | assumption | omega) only [↓RP, RQ, TY, loadT, reduceIte, Nat.reduceEqDiff, Nat.reduceAdd]
  have h43 := hE3.rw (hE2.rw hH1)
  have h53 := hE3.rw hH2
  have hE03 := (hE1.trans hE2).trans hE3
  by_cases hne : n = 0 ∨ rows.length = 0
  · -- nothing to do
    refine sw_loop (σ := Unit) (fun _ e H' => e 12 = .nils ∧ e 13 = .int .i64 0 ∧ e 10 = .int .i64 1 ∧ e 5 = .ptr b5 0 ∧ e 2 = .int .i64 cols ∧ H' = H3) (fun _ => 0) () ?_ ?_
    · simp (disch := first | assumption | omega) only [↓RP, RQ, TY, loadT, reduceIte, Nat.reduceEqDiff, Nat.reduceAdd]
    rintro _ e H' ⟨e12, e13, e10, e5, e2, rfl⟩
    by_cases hc0 : (0 : Int) < cols
    · have hr0 : rows.length = 0 := by omega
      have hsr := hs.run
      rw [hul, hr0] at hsr
      simp (disch := first | assumption | omega) only [↓RP, RQ, TY, loadT, reduceIte, Nat.reduceEqDiff, Nat.reduceAdd, e12, e13, e10, e5, e2, hc0, h53, hsr, m_cast0, Int.lt_irrefl]
      exact hQ0 hne _ _ hE03
    · simp (disch := first | assumption | omega) only [↓RP, RQ, TY, loadT, reduceIte, Nat.reduceEqDiff, Nat.reduceAdd, e12, e13, e10, e5, e2, hc0]
      exact hQ0 hne _ _ hE03
  have hn0 : 0 < n := by omega
  have hr0 : 0 < rows.length := by omega
  have P0 := (((hP hn0 hr0).box hb4 hE1 hH1).box hb5 hE2 hH2).box hb7 hE3 hH3
  have key : ∀ c s, s = elim (fF p m mod) rows c → EInv ok n rows c s := fun c s hs => hs ▸ elim_inv ok hr he c
  refine sw_loop (σ := Nat × List (List Int) × List Nat × AV × List AV × Int) (fun s e H' => e 13 = .int .i64 s.1 ∧ e 12 = s.2.2.2.1 ∧ e 11 = .fn 177 [.ptr b5 0, .ptr b7 0] ∧ e 10 = .int .i64 s.2.2.2.2.2 ∧ e 5 = .ptr b5 0 ∧ e 4 = .ptr b4 0 ∧ e 2 = .int .i64 cols ∧ s.1 ≤ cols ∧ (fF p m mod).El s.2.2.2.2.2 ∧
    PM H0 H' lv s.2.2.2.2.1 s.2.1 s.2.2.2.1 (natsI s.2.2.1) [(b7, [.nils]), (b5, [lv]), (b4, [.ptr bg 0])] ∧ (s.2.1, s.2.2.1) = elim (fF p m mod) rows s.1) (fun s => cols - s.1) (0, rows, [], .nils, us, 1) ?_ ?_
  · simp (disch := first | assumption | omega) only [↓RP, RQ, TY, loadT, reduceIte, Nat.reduceEqDiff, Nat.reduceAdd]
    exact ⟨by omega, ok.el1, P0, rfl⟩
  rintro ⟨c, l, piv, pv, ws, d⟩ e H' ⟨e13, e12, e11, e10, e5, e4, e2, hcc, hd, hM, hs⟩
  dsimp only at *
  have inv := key c _ hs
  obtain ⟨rect, els, len, le, -, lt, -, -, -, -⟩ := inv
  dsimp only at *
  have x5 := (hM.bx (b5, [lv]) (by simp)).1
  have x4 := (hM.bx (b4, [.ptr bg 0]) (by simp)).1
  have x7 := (hM.bx (b7, [.nils]) (by simp)).1
  dsimp only at x5 x4 x7
  have hlr := hM.rows.run
  have hpi := hM.piv.sl.ints
  rw [natsI_length] at hpi
  by_cases hlt : (c : Int) < cols
  rotate_left
  · simp (disch := first | assumption | omega) only [↓RP, RQ, TY, loadT, reduceIte, Nat.reduceEqDiff, Nat.reduceAdd, e13, e12, e11, e10, e5, e4, e2, hlt]
    rw [show c = cols by omega] at hs
    rw [← hs] at hQ
    exact hQ _ _ _ _ hn0 hr0 (hM.drop (by simp))
  by_cases hat : (piv.length : Int) < l.length
  rotate_left
  · simp (disch := first | assumption | omega) only [↓RP, RQ, TY, loadT, reduceIte, Nat.reduceEqDiff, Nat.reduceAdd, e13, e12, e11, e10, e5, e4, e2, hlt, hat, x5, hlr, hpi]
    have hst := elim_stop (F := fF p m mod) (rows := rows) (c := c) (by rw [← hs]; dsimp only; omega) (cols - c)
    rw [show c + (cols - c) = cols by omega, ← hs] at hst
    rw [hst] at hQ
    exact hQ _ _ _ _ hn0 hr0 (hM.drop (by simp))
  simp (disch := first | assumption | omega) only [↓RP, RQ, TY, loadT, reduceIte, Nat.reduceEqDiff, Nat.reduceAdd, e13, e12, e11, e10, e5, e4, e2, hlt, hat, x5, hlr, hpi]
  refine kNew_intro fun b14 H4 hb14 hE4 hH4 => ?_
  have hM4 := hM.box (c := [.int .i64 piv.length]) hb14 (hE4.upd hb14 (.rw [.int .i64 piv.length])) updEq
  have f14 := hM.fresh hb14
  simp (disch := first | assumption | omega) only [↓RP, RQ, TY, loadT, reduceIte, Nat.reduceEqDiff, Nat.reduceAdd, hH4, u_st1I]
  generalize AH.upd H4 b14 (.rw [.int .i64 piv.length]) = H5 at hM4 ⊢
  have x14 := (hM4.bx (b14, [.int .i64 piv.length]) (by simp)).1
  dsimp only at x14
  refine kNew_intro fun b15 H6 hb15 hE6 hH6 => ?_
  have hM6 := hM4.box (c := [.int .i64 piv.length]) hb15 (hE6.upd hb15 (.rw [.int .i64 piv.length])) updEq
  have f15 := hM4.fresh hb15
  simp (disch := first | assumption | omega) only [↓RP, RQ, TY, loadT, reduceIte, Nat.reduceEqDiff, Nat.reduceAdd, hH6, u_st1I, e13, e12, e11, e10, e5, e4, e2]
  generalize AH.upd H6 b15 (.rw [.int .i64 piv.length]) = H7 at hM6 ⊢
  have hcn : c < n := by omega
  have hrow : ∀ i, i < l.length → (rowAt l i).length = n := rect
  -- the search for a pivot
  refine sw_loop (σ := Nat) (fun k e H2 => e 15 = .ptr b15 0 ∧ e 14 = .ptr b14 0 ∧ e 13 = .int .i64 c ∧ e 12 = pv ∧ e 11 = .fn 177 [.ptr b5 0, .ptr b7 0] ∧ e 10 = .int .i64 d ∧ e 5 = .ptr b5 0 ∧ e 4 = .ptr b4 0 ∧ e 2 = .int .i64 cols ∧ piv.length ≤ k ∧ k ≤ l.length ∧ (∀ i, piv.length ≤ i → i < k → ent l i c = 0) ∧
    PM H0 H2 lv ws l pv (natsI piv) [(b15, [.int .i64 k]), (b14, [.int .i64 piv.length]), (b7, [.nils]), (b5, [lv]), (b4, [.ptr bg 0])]) (fun k => l.length - k) piv.length ?_ ?_
  · simp (disch := first | assumption | omega) only [↓RP, RQ, TY, loadT, reduceIte, Nat.reduceEqDiff, Nat.reduceAdd, e13, e12, e11, e10, e5, e4, e2]
    exact ⟨by omega, by omega, fun i h1 h2 => by omega, hM6⟩
  rintro k e H2 ⟨e15, e14, e13, e12, e11, e10, e5, e4, e2, hk1, hk2, hk3, hMk⟩
  have x15 := (hMk.bx (b15, [.int .i64 k]) (by simp)).1
  have x14 := (hMk.bx (b14, [.int .i64 piv.length]) (by simp)).1
  have x5 := (hMk.bx (b5, [lv]) (by simp)).1
  have x4 := (hMk.bx (b4, [.ptr bg 0]) (by simp)).1
  have x7 := (hMk.bx (b7, [.nils]) (by simp)).1
  dsimp only at x15 x14 x5 x4 x7
  have hlr := hMk.rows.run
  by_cases hkl : (k : Int) < l.length
  rotate_left
  · -- no pivot in this column
    simp (disch := first | assumption | omega) only [↓RP, RQ, TY, loadT, reduceIte, Nat.reduceEqDiff, Nat.reduceAdd, e15, e14, e13, e12, e11, e10, e5, e4, e2, hkl, x15, x5, hlr, eq_true (show (k : Int) = l.length by omega)]
    refine ⟨(c + 1, l, piv, pv, ws, d), ?_, by dsimp only; omega⟩
    simp (disch := first | assumption | omega) only [↓RP, RQ, TY, loadT, reduceIte, Nat.reduceEqDiff, Nat.reduceAdd, e15, e14, e13, e12, e11, e10, e5, e4, e2]
    refine ⟨by omega, hd, hMk.drop (by simp), ?_⟩
    rw [elim_succ, ← hs]
    simp only [elimStep]
    rw [firstNZ_eq l.length (by omega) (fun i h1 h2 => hk3 i h1 (by omega)) (fun q => by omega) (Nat.le_refl _), if_neg (by omega)]
  have k1 : k < l.length := by omega
  have hrk := hMk.ri k1
  have hrkl := hrow k k1
  by_cases hz : (rowAt l k).getD c 0 = 0
  · simp (disch := first | assumption | omega) only [↓RP, RQ, TY, loadT, reduceIte, Nat.reduceEqDiff, Nat.reduceAdd, e15, e14, e13, e12, e11, e10, e5, e4, e2, hkl, x15, x5, hlr, hrk.ints, hz, u_st1I]
    refine ⟨k + 1, ?_, by dsimp only; omega⟩
    simp (disch := first | assumption | omega) only [↓RP, RQ, TY, loadT, reduceIte, Nat.reduceEqDiff, Nat.reduceAdd, e15, e14, e13, e12, e11, e10, e5, e4, e2]
    refine ⟨by omega, by omega, fun i h1 h2 => ?_, ?_⟩
    · by_cases hik : i = k
      · rw [hik]; exact hz
      · exact hk3 i h1 (by omega)
    · exact hMk.upbox (c' := [.int .i64 ((k + 1 : Nat) : Int)]) f15.2.2.2.1 f15.2.2.2.2
  have hstep : elim (fF p m mod) rows (c + 1) = (clearL (fF p m mod) c piv.length (unitL (fF p m mod) c piv.length (swapL l piv.length k)), piv ++ [c]) := by
    rw [elim_succ, ← hs]
    simp only [elimStep]
    rw [firstNZ_eq k hk1 hk3 (fun _ => hz) hk2, if_pos (by omega)]
  have a1 : piv.length < l.length := by omega
  -- the exchange
  simp (disch := first | assumption | omega) only [↓RP, RQ, TY, loadT, reduceIte, Nat.reduceEqDiff, Nat.reduceAdd, e15, e14, e13, e12, e11, e10, e5, e4, e2, hkl, x15, x14, x5, hlr, hrk.ints, hz, eq_false (show ¬ (k : Int) = l.length by omega)]
  refine kIf_cut (M := fun e H3 => e 14 = .ptr b14 0 ∧ e 13 = .int .i64 c ∧ e 12 = pv ∧ e 11 = .fn 177 [.ptr b5 0, .ptr b7 0] ∧ e 5 = .ptr b5 0 ∧ e 4 = .ptr b4 0 ∧ e 2 = .int .i64 cols ∧ (∃ d, e 10 = .int .i64 d ∧ (fF p m mod).El d) ∧
    ∃ ws2, PM H0 H3 lv ws2 (swapL l piv.length k) pv (natsI piv) [(b14, [.int .i64 piv.length]), (b7, [.nils]), (b5, [lv]), (b4, [.ptr bg 0])]) ?_ ?_
  · by_cases hka : (k : Int) = piv.length
    · simp (disch := first | assumption | omega) only [↓RP, RQ, TY, loadT, reduceIte, Nat.reduceEqDiff, Nat.reduceAdd, eq_true hka, e15, e14, e13, e12, e11, e10, e5, e4, e2]
      refine ⟨⟨d, rfl, hd⟩, ws, ?_⟩
      have : swapL l piv.length k = l := by
        rw [show k = piv.length by omega, swapL]
        rw [rowAt, set_self, set_self]
      rw [this]
      exact hMk.drop (by simp)
    · simp (disch := first | assumption | omega) only [↓RP, RQ, TY, loadT, reduceIte, Nat.reduceEqDiff, Nat.reduceAdd, eq_false hka, e15, e14, e13, e12, e11, e10, e5, e4, e2]
      refine c_each (R := fun H' => ∃ ws', PM H0 H' lv ws' (swapL l piv.length k) pv (natsI piv) [(b15, [.int .i64 k]), (b14, [.int .i64 piv.length]), (b7, [.nils]), (b5, [lv]), (b4, [.ptr bg 0])]) x5 x7 (fun H' ⟨ws', hr⟩ => (hr.bx (b7, [.nils]) (by simp)).1)
        (fun Q' hQ' => c_sw hMk (by simp) (by simp) k1 a1 fun H' ws' hr => hQ' H' ⟨ws', hr⟩) ?_
      rintro H' ⟨ws', hr⟩
      have x4' := (hr.bx (b4, [.ptr bg 0]) (by simp)).1
      dsimp only at x4'
      simp (disch := first | assumption | omega) only [↓RP, RQ, TY, loadT, reduceIte, Nat.reduceEqDiff, Nat.reduceAdd, e15, e14, e13, e12, e11, e10, e5, e4, e2, x4']
      refine c_GNeg (hg.ext hr.ext) hd.1 hd.2 ?_
      simp (disch := first | assumption | omega) only [↓RP, RQ, TY, loadT, reduceIte, Nat.reduceEqDiff, Nat.reduceAdd, e15, e14, e13, e12, e11, e10, e5, e4, e2]
      exact ⟨⟨_, rfl, ok.neg_el hd⟩, ws', hr.drop (by simp)⟩
  rintro e H3 ⟨e14, e13, e12, e11, e5, e4, e2, ⟨d2, e10, hd2⟩, ws2, hM2⟩
  have rect2 := swapL_rect rect a1 k1
  have els2 := swapL_els els a1 k1
  have len2 := swapL_length l piv.length k
  have z2 : ent (swapL l piv.length k) piv.length c ≠ 0 := by rw [ent, rowAt_swap a1 k1, if_pos rfl]; exact hz
  clear hrk hlr
  generalize hL2 : swapL l piv.length k = l2 at *
  have a2 : piv.length < l2.length := by omega
  have x14 := (hM2.bx (b14, [.int .i64 piv.length]) (by simp)).1
  have x5 := (hM2.bx (b5, [lv]) (by simp)).1
  have x4 := (hM2.bx (b4, [.ptr bg 0]) (by simp)).1
  have x7 := (hM2.bx (b7, [.nils]) (by simp)).1
  dsimp only at x14 x5 x4 x7
  have hlr2 := hM2.rows.run
  have hra2 := hM2.ri a2
  have lra2 := rect2 piv.length a2
  have elx := els2 piv.length c
  simp (disch := first | assumption | omega) only [↓RP, RQ, TY, loadT, reduceIte, Nat.reduceEqDiff, Nat.reduceAdd, e14, e13, e12, e11, e10, e5, e4, e2, x14, x5, x4, hlr2, hra2.ints]
  refine c_GMul A (hg.ext hM2.ext) hd2.1 hd2.2 elx.1 elx.2 ?_
  simp (disch := first | assumption | omega) only [↓RP, RQ, TY, loadT, reduceIte, Nat.reduceEqDiff, Nat.reduceAdd, e14, e13, e12, e11, e10, e5, e4, e2, x14, x5, x4, hlr2, hra2.ints]
  have hinv1 : finv p m mod (ent l2 piv.length c) = 1 ↔ ent l2 piv.length c = 1 := by
    have e1 : fmul p m mod (ent l2 piv.length c) (finv p m mod (ent l2 piv.length c)) = 1 := ok.mul_inv elx z2
    constructor
    · intro q
      rw [q] at e1
      rw [← e1]
      exact (ok.mul_u elx).symm
    · intro q
      rw [q] at e1 ⊢
      have e2 : fmul p m mod 1 (finv p m mod 1) = finv p m mod 1 := (ok.mul_comm ok.el1 (ok.inv_el ok.el1)).trans (ok.mul_u (ok.inv_el ok.el1))
      rw [← e2]
      exact e1
  refine c_GInv A (hg.ext hM2.ext) (show 0 < ent l2 piv.length c by have := elx.1; omega) elx.2 ?_
  simp (disch := first | assumption | omega) only [↓RP, RQ, TY, loadT, reduceIte, Nat.reduceEqDiff, Nat.reduceAdd, e14, e13, e12, e11, e10, e5, e4, e2, x14, x5, x4, hlr2, hra2.ints]
  refine kNew_intro fun b16 H6 hb16 hE6 hH6 => ?_
  have hM6 := hM2.box (c := [.int .i64 (finv p m mod (ent l2 piv.length c))]) hb16 (hE6.upd hb16 (.rw [.int .i64 (finv p m mod (ent l2 piv.length c))])) updEq
  have hM6' := hM2.more hE6
  have y14 := (hM6'.bx (b14, [.int .i64 piv.length]) (by simp)).1
  have y5 := (hM6'.bx (b5, [lv]) (by simp)).1
  have y4 := (hM6'.bx (b4, [.ptr bg 0]) (by simp)).1
  dsimp only at y14 y5 y4
  have ylr := hM6'.rows.run
  have yra := hM6'.ri a2
  simp (disch := first | assumption | omega) only [↓RP, RQ, TY, loadT, reduceIte, Nat.reduceEqDiff, Nat.reduceAdd, hH6, u_st1I, e14, e13, e12, e11, e10, e5, e4, e2]
  generalize hH7 : AH.upd H6 b16 (.rw [.int .i64 (finv p m mod ((rowAt l2 piv.length).getD c 0))]) = H7 at ⊢
  replace hM6 : PM H0 H7 lv ws2 l2 pv (natsI piv) [(b16, [.int .i64 (finv p m mod (ent l2 piv.length c))]), (b14, [.int .i64 piv.length]), (b7, [.nils]), (b5, [lv]), (b4, [.ptr bg 0])] := hH7 ▸ hM6
  have eld3 := ok.mul_el hd2 elx
  have z5 := (hM6.bx (b5, [lv]) (by simp)).1
  have z7 := (hM6.bx (b7, [.nils]) (by simp)).1
  dsimp only at z5 z7
  refine kIf_cut (M := fun e H4 => e 14 = .ptr b14 0 ∧ e 13 = .int .i64 c ∧ e 12 = pv ∧ e 11 = .fn 177 [.ptr b5 0, .ptr b7 0] ∧ e 5 = .ptr b5 0 ∧ e 4 = .ptr b4 0 ∧ e 2 = .int .i64 cols ∧ (∃ d, e 10 = .int .i64 d ∧ (fF p m mod).El d) ∧
    ∃ ws3, PM H0 H4 lv ws3 (unitL (fF p m mod) c piv.length l2) pv (natsI piv) [(b14, [.int .i64 piv.length]), (b7, [.nils]), (b5, [lv]), (b4, [.ptr bg 0])]) ?_ ?_
  · by_cases h1 : finv p m mod (ent l2 piv.length c) = 1
    · have h1' : finv p m mod ((rowAt l2 piv.length).getD c 0) = 1 := h1
      simp (disch := first | assumption | omega) only [↓RP, RQ, TY, loadT, reduceIte, Nat.reduceEqDiff, Nat.reduceAdd, eq_true h1', e14, e13, e12, e11, e10, e5, e4, e2]
      refine ⟨⟨_, rfl, eld3⟩, ws2, ?_⟩
      rw [unitL, if_neg (by simpa using hinv1.mp h1)]
      exact hM6.drop (by simp)
    · have h1' : ¬ finv p m mod ((rowAt l2 piv.length).getD c 0) = 1 := h1
      simp (disch := first | assumption | omega) only [↓RP, RQ, TY, loadT, reduceIte, Nat.reduceEqDiff, Nat.reduceAdd, eq_false h1', e14, e13, e12, e11, e10, e5, e4, e2]
      refine c_each (R := fun H' => ∃ ws', PM H0 H' lv ws' (l2.set piv.length (scaleL (fF p m mod) (finv p m mod (ent l2 piv.length c)) (rowAt l2 piv.length))) pv (natsI piv) [(b16, [.int .i64 (finv p m mod (ent l2 piv.length c))]), (b14, [.int .i64 piv.length]), (b7, [.nils]), (b5, [lv]), (b4, [.ptr bg 0])]) z5 z7 (fun H' ⟨ws', hr⟩ => (hr.bx (b7, [.nils]) (by simp)).1)
        (fun Q' hQ' => c_sc (v := finv p m mod (ent l2 piv.length c)) A hg hM6 (by simp) (by simp) (by simp) a2 (ok.inv_el elx) els2 (by omega) fun H' ws' hr => hQ' H' ⟨ws', hr⟩) ?_
      rintro H' ⟨ws', hr⟩
      simp (disch := first | assumption | omega) only [↓RP, RQ, TY, loadT, reduceIte, Nat.reduceEqDiff, Nat.reduceAdd, e14, e13, e12, e11, e10, e5, e4, e2]
      refine ⟨⟨_, rfl, eld3⟩, ws', ?_⟩
      rw [unitL, if_pos (fun q => h1 (hinv1.mpr q))]
      exact hr.drop (by simp)
  rintro e H4 ⟨e14, e13, e12, e11, e5, e4, e2, ⟨d3, e10, hd3⟩, ws3, hM3⟩
  have rect3 := unitL_rect (F := fF p m mod) c piv.length rect2
  have els3 := unitL_els ok c piv.length els2 a2 z2
  have len3 := unitL_length (F := fF p m mod) c piv.length l2
  clear ylr yra hlr2 hra2
  generalize hL3 : unitL (fF p m mod) c piv.length l2 = l3 at *
  have lT : (clearL (fF p m mod) c piv.length l3).length = l3.length := clearL_length _ _ _
  have rectT := clearL_rect (F := fF p m mod) c piv.length rect3
  have x5 := (hM3.bx (b5, [lv]) (by simp)).1
  dsimp only at x5
  have hlr3 := hM3.rows.run
  have l3l : l3.length = l.length := by omega
  rw [l3l] at hlr3
  simp (disch := first | assumption | omega) only [↓RP, RQ, TY, loadT, reduceIte, Nat.reduceEqDiff, Nat.reduceAdd, e14, e13, e12, e11, e10, e5, e4, e2, x5, hlr3]
  refine sw_loop (σ := Nat) (fun i e H4 => e 98 = .int .i64 i ∧ e 97 = .int .i64 l.length ∧ e 14 = .ptr b14 0 ∧ e 13 = .int .i64 c ∧ e 12 = pv ∧ e 11 = .fn 177 [.ptr b5 0, .ptr b7 0] ∧ e 10 = .int .i64 d3 ∧ e 5 = .ptr b5 0 ∧ e 4 = .ptr b4 0 ∧ e 2 = .int .i64 cols ∧ i ≤ l.length ∧
    ∃ ws4, PM H0 H4 lv ws4 (mixA (clearL (fF p m mod) c piv.length l3) l3 i) pv (natsI piv) [(b14, [.int .i64 piv.length]), (b7, [.nils]), (b5, [lv]), (b4, [.ptr bg 0])]) (fun i => l.length - i) 0 ?_ ?_
  · simp (disch := first | assumption | omega) only [↓RP, RQ, TY, loadT, reduceIte, Nat.reduceEqDiff, Nat.reduceAdd, e14, e13, e12, e11, e10, e5, e4, e2, mixA_zero]
    exact ⟨by omega, ws3, hM3⟩
  rintro i e H5 ⟨e98, e97, e14, e13, e12, e11, e10, e5, e4, e2, hi, ws4, hM4⟩
  have lM := mixA_length lT i
  have e0 : ∀ j, rowAt (mixA (clearL (fF p m mod) c piv.length l3) l3 i) j = if j < i then rowAt (clearL (fF p m mod) c piv.length l3) j else rowAt l3 j := fun j => mixA_get [] lT
  have eT : ∀ j, j < l3.length → rowAt (clearL (fF p m mod) c piv.length l3) j = clearRow (fF p m mod) c piv.length l3 j := fun j hj => by rw [rowAt, clearL, tabN_getD _ hj]
  have eA : rowAt (mixA (clearL (fF p m mod) c piv.length l3) l3 i) piv.length = rowAt l3 piv.length := by
    rw [e0]
    split
    · rw [eT _ (by omega), clearRow, if_neg (by simp)]
    · rfl
  have eI : rowAt (mixA (clearL (fF p m mod) c piv.length l3) l3 i) i = rowAt l3 i := by rw [e0, if_neg (Nat.lt_irrefl i)]
  have elsT := clearL_els ok (c := c) (a := piv.length) rect3 els3 (by omega)
  have elsM : Els (fF p m mod) (mixA (clearL (fF p m mod) c piv.length l3) l3 i) := fun j j' => by
    rw [ent, e0]
    split
    · exact elsT j j'
    · exact els3 j j'
  have keepM : i < l3.length → clearRow (fF p m mod) c piv.length l3 i = rowAt l3 i → mixA (clearL (fF p m mod) c piv.length l3) l3 (i + 1) = mixA (clearL (fF p m mod) c piv.length l3) l3 i := fun hi3 q => by
    rw [← mixA_set [] lT hi3]
    have : (clearL (fF p m mod) c piv.length l3).getD i [] = (mixA (clearL (fF p m mod) c piv.length l3) l3 i).getD i [] := by
      have h2 := eT i hi3
      rw [q] at h2
      rw [rowAt] at h2
      have h1 := eI
      rw [rowAt] at h1
      rw [h1, h2]
    rw [this, set_self]
  by_cases hit : (i : Int) < l.length
  rotate_left
  · have hfull := mixA_full lT (i := i) (by omega)
    rw [hfull] at hM4
    simp (disch := first | assumption | omega) only [↓RP, RQ, TY, loadT, reduceIte, Nat.reduceEqDiff, Nat.reduceAdd, e98, e97, e14, e13, e12, e11, e10, e5, e4, e2, hit]
    refine kNew_intro fun b6 H6 hb6 hE6 hH6 => ?_
    have hM6 := hM4.more hE6
    simp (disch := first | assumption | omega) only [↓RP, RQ, TY, loadT, reduceIte, Nat.reduceEqDiff, Nat.reduceAdd, e98, e97, e14, e13, e12, e11, e10, e5, e4, e2]
    have hpl : piv.length ≤ 1000 := by omega
    refine kApp_own (H0 := H0) (us := ints [(c : Int)]) hM6.piv hM6.ext (Sl.own hH6 rfl) ints_ones (by simp [ints_length, natsI_length]; omega) (by simp [ints_length, natsI_length]; omega) fun v7 H7 hE7 ho7 keep7 => ?_
    rw [ints_app] at ho7
    have hps : natsI piv ++ [(c : Int)] = natsI (piv ++ [c]) := by simp [natsI]
    rw [hps] at ho7
    have hM7 := hM6.push hE7 ho7 keep7
    simp (disch := first | assumption | omega) only [↓RP, RQ, TY, loadT, reduceIte, Nat.reduceEqDiff, Nat.reduceAdd, e98, e97, e14, e13, e12, e11, e10, e5, e4, e2]
    refine ⟨(c + 1, clearL (fF p m mod) c piv.length l3, piv ++ [c], v7, ws4, d3), ?_, by dsimp only; omega⟩
    simp (disch := first | assumption | omega) only [↓RP, RQ, TY, loadT, reduceIte, Nat.reduceEqDiff, Nat.reduceAdd, e98, e97, e14, e13, e12, e11, e10, e5, e4, e2]
    refine ⟨by omega, hd3, hM7.drop (by simp), ?_⟩
    rw [hstep]
  have x5 := (hM4.bx (b5, [lv]) (by simp)).1
  have x14 := (hM4.bx (b14, [.int .i64 piv.length]) (by simp)).1
  dsimp only at x5 x14
  have hlr4 := hM4.rows.run
  rw [lM, l3l] at hlr4
  have hri := hM4.ri (i := i) (by omega)
  rw [eI] at hri
  have lri := rect3 i (by omega)
  simp (disch := first | assumption | omega) only [↓RP, RQ, TY, loadT, reduceIte, Nat.reduceEqDiff, Nat.reduceAdd, e98, e97, e14, e13, e12, e11, e10, e5, e4, e2, hit]
  refine kNew_intro fun b18 H6 hb18 hE6 hH6 => ?_
  have hM6 := hM4.box (c := [.int .i64 i]) hb18 (hE6.upd hb18 (.rw [.int .i64 i])) updEq
  simp (disch := first | assumption | omega) only [↓RP, RQ, TY, loadT, reduceIte, Nat.reduceEqDiff, Nat.reduceAdd, hH6, u_st1I]
  generalize AH.upd H6 b18 (.rw [.int .i64 i]) = H7 at hM6 ⊢
  have y18 := (hM6.bx (b18, [.int .i64 i]) (by simp)).1
  have y5 := (hM6.bx (b5, [lv]) (by simp)).1
  dsimp only at y18 y5
  have hlr6 := hM6.rows.run
  rw [lM, l3l] at hlr6
  have hri6 := hM6.ri (i := i) (by omega)
  rw [eI] at hri6
  simp (disch := first | assumption | omega) only [↓RP, RQ, TY, loadT, reduceIte, Nat.reduceEqDiff, Nat.reduceAdd, e98, e97, e14, e13, e12, e11, e10, e5, e4, e2, y18, y5, hlr6, hri6.ints]
  refine kNew_intro fun b19 H8 hb19 hE8 hH8 => ?_
  have hM8 := hM6.box (c := [.int .i64 (ent l3 i c)]) hb19 (hE8.upd hb19 (.rw [.int .i64 (ent l3 i c)])) updEq
  simp (disch := first | assumption | omega) only [↓RP, RQ, TY, loadT, reduceIte, Nat.reduceEqDiff, Nat.reduceAdd, hH8, u_st1I]
  generalize hH9 : AH.upd H8 b19 (.rw [.int .i64 ((rowAt l3 i).getD c 0)]) = H9 at ⊢
  have hM9 : PM H0 H9 lv ws4 (mixA (clearL (fF p m mod) c piv.length l3) l3 i) pv (natsI piv) [(b19, [.int .i64 (ent l3 i c)]), (b18, [.int .i64 i]), (b14, [.int .i64 piv.length]), (b7, [.nils]), (b5, [lv]), (b4, [.ptr bg 0])] := hH9 ▸ hM8
  have w19 := (hM9.bx (b19, [.int .i64 (ent l3 i c)]) (by simp)).1
  have w18 := (hM9.bx (b18, [.int .i64 i]) (by simp)).1
  have w14 := (hM9.bx (b14, [.int .i64 piv.length]) (by simp)).1
  have w7 := (hM9.bx (b7, [.nils]) (by simp)).1
  have w5 := (hM9.bx (b5, [lv]) (by simp)).1
  dsimp only at w19 w18 w14 w7 w5
  have nxt : ∀ {e' : Env} {H' : AH}, e' 98 = .int .i64 ((i : Int) + 1) → e' 97 = .int .i64 l.length → e' 14 = .ptr b14 0 → e' 13 = .int .i64 c → e' 12 = pv → e' 11 = .fn 177 [.ptr b5 0, .ptr b7 0] → e' 10 = .int .i64 d3 → e' 5 = .ptr b5 0 → e' 4 = .ptr b4 0 → e' 2 = .int .i64 cols →
      PM H0 H' lv ws4 (mixA (clearL (fF p m mod) c piv.length l3) l3 (i + 1)) pv (natsI piv) [(b19, [.int .i64 (ent l3 i c)]), (b18, [.int .i64 i]), (b14, [.int .i64 piv.length]), (b7, [.nils]), (b5, [lv]), (b4, [.ptr bg 0])] → kInv (fun i e H4 => e 98 = .int .i64 (i : Nat) ∧ e 97 = .int .i64 l.length ∧ e 14 = .ptr b14 0 ∧ e 13 = .int .i64 c ∧ e 12 = pv ∧ e 11 = .fn 177 [.ptr b5 0, .ptr b7 0] ∧ e 10 = .int .i64 d3 ∧ e 5 = .ptr b5 0 ∧ e 4 = .ptr b4 0 ∧ e 2 = .int .i64 cols ∧ i ≤ l.length ∧
    ∃ ws4, PM H0 H4 lv ws4 (mixA (clearL (fF p m mod) c piv.length l3) l3 i) pv (natsI piv) [(b14, [.int .i64 piv.length]), (b7, [.nils]), (b5, [lv]), (b4, [.ptr bg 0])]) (fun i => l.length - i) i e' H' := fun g1 g2 g3 g4 g5 g6 g7 g8 g9 g10 hP' =>
    ⟨i + 1, ⟨g1, g2, g3, g4, g5, g6, g7, g8, g9, g10, by omega, ws4, hP'.drop (by simp)⟩, by dsimp only; omega⟩
  by_cases hia : (i : Int) = piv.length
  · simp (disch := first | assumption | omega) only [↓RP, RQ, TY, loadT, reduceIte, Nat.reduceEqDiff, Nat.reduceAdd, e98, e97, e14, e13, e12, e11, e10, e5, e4, e2, w18, w14, eq_true hia]
    refine nxt ?_ ?_ ?_ ?_ ?_ ?_ ?_ ?_ ?_ ?_ ?_ <;> (try simp (disch := first | assumption | omega) only [↓RP, RQ, TY, loadT, reduceIte, Nat.reduceEqDiff, Nat.reduceAdd, e98, e97, e14, e13, e12, e11, e10, e5, e4, e2])
    rw [keepM (by omega) (by rw [clearRow, if_neg (by simp; omega)])]
    exact hM9
  by_cases hz0 : ent l3 i c = 0
  · simp (disch := first | assumption | omega) only [↓RP, RQ, TY, loadT, reduceIte, Nat.reduceEqDiff, Nat.reduceAdd, e98, e97, e14, e13, e12, e11, e10, e5, e4, e2, w18, w14, w19, eq_false hia, hz0]
    refine nxt ?_ ?_ ?_ ?_ ?_ ?_ ?_ ?_ ?_ ?_ ?_ <;> (try simp (disch := first | assumption | omega) only [↓RP, RQ, TY, loadT, reduceIte, Nat.reduceEqDiff, Nat.reduceAdd, e98, e97, e14, e13, e12, e11, e10, e5, e4, e2])
    rw [keepM (by omega) (by rw [clearRow, if_neg (fun q => q.2 hz0)])]
    exact hM9
  simp (disch := first | assumption | omega) only [↓RP, RQ, TY, loadT, reduceIte, Nat.reduceEqDiff, Nat.reduceAdd, e98, e97, e14, e13, e12, e11, e10, e5, e4, e2, w18, w14, w19, eq_false hia, hz0]
  have lra3 := rect3 piv.length (by omega)
  refine c_each (R := fun H' => PM H0 H' lv ws4 (mixA (clearL (fF p m mod) c piv.length l3) l3 (i + 1)) pv (natsI piv) [(b19, [.int .i64 (ent l3 i c)]), (b18, [.int .i64 i]), (b14, [.int .i64 piv.length]), (b7, [.nils]), (b5, [lv]), (b4, [.ptr bg 0])]) w5 w7 (fun H' hr => (hr.bx (b7, [.nils]) (by simp)).1)
    (fun Q' hQ' => c_ad (i := i) (a := piv.length) (x := ent l3 i c) A hg hM9 (by simp) (by simp) (by simp) (by simp) (by omega) (by omega) (by omega) ok (els3 i c) elsM (by rw [eI]; omega) (by rw [eA, eI]; omega) fun H' hr => hQ' H' ?_) ?_
  · rw [eI, eA] at hr
    rw [← mixA_set [] lT (show i < l3.length by omega)]
    have eT2 := eT i (by omega)
    rw [rowAt] at eT2
    rw [eT2, clearRow, if_pos ⟨by omega, hz0⟩]
    exact hr
  intro H' hr
  simp (disch := first | assumption | omega) only [↓RP, RQ, TY, loadT, reduceIte, Nat.reduceEqDiff, Nat.reduceAdd, e98, e97, e14, e13, e12, e11, e10, e5, e4, e2]
  refine nxt ?_ ?_ ?_ ?_ ?_ ?_ ?_ ?_ ?_ ?_ ?_ <;> (try simp (disch := first | assumption | omega) only [↓RP, RQ, TY, loadT, reduceIte, Nat.reduceEqDiff, Nat.reduceAdd, e98, e97, e14, e13, e12, e11, e10, e5, e4, e2])
  exact hr
end Go.Proofs.YtbkpebmcagdgmaaGreat.AM
/-! The program's matrices, fifth part: clone, canon, open. -/
namespace Go.Proofs.YtbkpebmcagdgmaaGreat.AM
open Go Go.RowKit
set_option linter.unusedVariables false
set_option linter.unusedSimpArgs false
set_option maxRecDepth 20000
theorem Own.offSl {H0 H : AH} {v : AV} {xs : List Int} {b : Nat} {ws : List AV} (h : Own H0 H v (ints xs)) (hb : H b = .rw ws) (hn : 0 < ws.length) (hw : ∀ u, u ∈ ws → u.isSl = true) : Off v b := fun o n c q => by
  rcases h with ⟨h, -⟩ | ⟨b2, h1, h2, -⟩
  · rw [q] at h; cases h
  · rw [q] at h1
    cases h1
    rw [hb] at h2
    cases h2
    cases xs with
    | nil => simp [ints] at hn
    | cons x xs =>
      have := hw (.int .i64 x) (by simp [ints])
      cases this
/-- v stands in no block of the heap H -/
def OffH (H : AH) (v : AV) : Prop := ∀ b o n c, v = .sl b o n c → H b = .free
theorem Own.offH {H0 H : AH} {v : AV} {us : List AV} (h : Own H0 H v us) : OffH H0 v := fun b o n c q => by
  rcases h with ⟨h, -⟩ | ⟨b2, h1, -, h3⟩
  · rw [q] at h; cases h
  · rw [q] at h1; cases h1; exact h3
theorem OffH.old {H0 H : AH} {v : AV} (h : OffH H v) (hE : Ext H0 H) : OffH H0 v := fun b o n c q => hE.free (h b o n c q)
theorem Sl.updOff {H0 H : AH} {v : AV} {us : List AV} {b : Nat} (h : Sl H v us) (hv : OffH H0 v) (hb : H0 b ≠ .free) (s : Slot) : Sl (H.upd b s) v us := by
  rcases h with h | ⟨b2, o, c, h1, h2⟩
  · exact .inl h
  · refine .inr ⟨b2, o, c, h1, fun i u hu => ?_⟩
    have : b2 ≠ b := fun q => hb (by rw [← q]; exact hv _ _ _ _ h1)
    have := h2 i u hu
    simpa [AH.cell, AH.upd, *] using this
theorem Rows.updOff {H0 H : AH} {v : AV} {us : List AV} {l : List (List Int)} {b : Nat} (h : Rows H v us l) (hv : OffH H0 v) (hu : ∀ u, u ∈ us → OffH H0 u) (hb : H0 b ≠ .free) (s : Slot) : Rows (H.upd b s) v us l := by
  refine ⟨h.sl.updOff hv hb s, h.len, fun i hi => (h.row i hi).updOff (hu _ ?_) hb s⟩
  have : i < us.length := by rw [h.len]; exact hi
  rw [List.getD_eq_getElem?_getD, List.getElem?_eq_getElem this]
  exact List.getElem_mem this
theorem getD_of_mem {us : List AV} {u : AV} (h : u ∈ us) : ∃ i, i < us.length ∧ u = us.getD i .junk := by
  obtain ⟨i, hi, rfl⟩ := List.getElem_of_mem h
  exact ⟨i, hi, by simp [List.getD_eq_getElem?_getD, hi]⟩
theorem PM.offs {H0 H : AH} {lv : AV} {ws : List AV} {l : List (List Int)} {pv : AV} {ps : List Int} {fs : List (Nat × List AV)} (h : PM H0 H lv ws l pv ps fs) : OffH H0 lv ∧ (∀ u, u ∈ ws → OffH H0 u) ∧ OffH H0 pv := by
  refine ⟨h.own.offH, fun u hu b o n c q => ?_, h.piv.offH⟩
  obtain ⟨i, hi, rfl⟩ := getD_of_mem hu
  obtain ⟨r1, r2, r3⟩ := h.rb i (by rw [← h.len]; exact hi)
  rw [q] at r1 r3
  exact r3
theorem c_clone {v : AV} {us : List AV} {rows : List (List Int)} {n : Nat} {H : AH} {Q : AV → AH → Prop} (hv : Rows H v us rows) (hr : Rect n rows) (hn : n ≤ 1000) (hk : rows.length ≤ 1000)
    (hQ : ∀ lv ws H', Ext H H' → Rows H' lv ws rows → OffH H lv → (∀ u, u ∈ ws → OffH H u) → (0 < n → 0 < rows.length → PM H H' lv ws rows .nils [] []) → Q lv H') : AC Tryz.prog 131 [v] H Q := by
  refine at131 (by simp) ?_
  simp (disch := first | assumption | omega) only [↓RP, RQ, TY, loadT, s131, reduceIte, Nat.reduceEqDiff, Nat.reduceAdd, hv.run]
  refine kNew_intro fun b H1 hb hE hH1 => ?_
  simp (disch := first | assumption | omega) only [↓RP, RQ, TY, loadT, reduceIte, Nat.reduceEqDiff, Nat.reduceAdd, hv.run]
  refine sw_loop (σ := Nat × List AV) (fun s e H' => e 11 = .int .i64 s.1 ∧ e 10 = .int .i64 rows.length ∧ e 9 = v ∧ e 3 = .sl b 0 rows.length (.own 1) ∧ s.1 ≤ rows.length ∧ Ext H H' ∧ H' b = .rw s.2 ∧ s.2.length = rows.length ∧ (∀ u, u ∈ s.2 → u.isSl = true) ∧
    (∀ j, j < s.1 → Own H H' (s.2.getD j .junk) (ints (rowAt rows j))) ∧ (∀ i j, i < j → j < s.1 → 0 < n → slB (s.2.getD i .junk) ≠ slB (s.2.getD j .junk))) (fun s => rows.length - s.1) (0, List.replicate rows.length .nils) ?_ ?_
  · simp (disch := first | assumption | omega) only [↓RP, RQ, TY, loadT, reduceIte, Nat.reduceEqDiff, Nat.reduceAdd]
    refine ⟨by omega, hE, hH1, by simp, fun u hu => ?_, fun j hj => by omega, fun i j _ hj => by omega⟩
    rw [(List.mem_replicate.mp hu).2]; rfl
  rintro ⟨i, ws⟩ e H' ⟨e11, e10, e9, e3, hi, hE', hb', hl, hsl, ho, hinj⟩
  dsimp only at *
  have hv' := hv.ext hE'
  by_cases hlt : (i : Int) < rows.length
  · have hri := hr i (by omega)
    simp (disch := first | assumption | omega) only [↓RP, RQ, TY, loadT, reduceIte, Nat.reduceEqDiff, Nat.reduceAdd, e11, e10, e9, e3, hlt, hv'.run]
    refine c_Clone (hv'.row i (by omega)) (by omega) fun w H2 hE2 ho2 => ?_
    have hb2 := hE2.rw hb'
    have hws := ho2.sl.isSl
    simp (disch := first | assumption | omega) only [↓RP, RQ, TY, loadT, reduceIte, Nat.reduceEqDiff, Nat.reduceAdd, e11, e10, e9, e3, hb2, u_storeV, u_stGV]
    refine ⟨(i + 1, ws.set i w), ?_, by dsimp only; omega⟩
    simp (disch := first | assumption | omega) only [↓RP, RQ, TY, loadT, reduceIte, Nat.reduceEqDiff, Nat.reduceAdd, e11, e10, e9, e3]
    have hn0 : 0 < ws.length := by omega
    have oold : ∀ j, j < i → Own H H2 (ws.getD j .junk) (ints (rowAt rows j)) := fun j hj => (ho j hj).ext hE2
    have onew : Own H H2 w (ints (rowAt rows i)) := ho2.old hE'
    refine ⟨by omega, (hE'.trans hE2).upd hb _, by simpa using hl, fun u hu => ?_, fun j hj => ?_, fun j j' h1 h2 h0 => ?_⟩
    · rcases List.mem_or_eq_of_mem_set hu with hu | rfl
      · exact hsl u hu
      · exact hws
    · rw [getD_setN]
      by_cases hji : j = i
      · rw [if_pos ⟨hji, by omega⟩, hji]
        exact onew.updOff (onew.offSl hb2 hn0 hsl) _
      · rw [if_neg (fun q => hji q.1)]
        exact (oold j (by omega)).updOff ((oold j (by omega)).offSl hb2 hn0 hsl) _
    · rw [getD_setN, getD_setN, if_neg (by omega : ¬ (j = i ∧ i < ws.length))]
      by_cases hji : j' = i
      · rw [if_pos ⟨hji, by omega⟩]
        have hrj := hr j (by omega)
        obtain ⟨q1, q2, q3⟩ := (ho j (by omega)).blk (by rw [ints_length]; omega)
        obtain ⟨w1, w2, w3⟩ := ho2.blk (by rw [ints_length]; omega)
        intro q
        rw [q, w3] at q1
        cases q1
      · rw [if_neg (fun q => hji q.1)]
        exact hinj j j' h1 (by omega) h0
  · have hil : i = rows.length := by omega
    subst hil
    simp (disch := first | assumption | omega) only [↓RP, RQ, TY, loadT, reduceIte, Nat.reduceEqDiff, Nat.reduceAdd, e11, e10, e9, e3, hlt]
    refine hQ (.sl b 0 rows.length (.own 1)) ws H' hE' ⟨Sl.own hb' hl.symm, hl, fun i hi => (ho i hi).sl⟩ (fun b' o n' c q => by cases q; exact hb) (fun u hu => by obtain ⟨i, hi, rfl⟩ := getD_of_mem hu; exact (ho i (by omega)).offH) fun h0 h1 => ?_
    have hrb : ∀ i, i < rows.length → ws.getD i .junk = .sl (slB (ws.getD i .junk)) 0 (rowAt rows i).length (.own 1) ∧ H' (slB (ws.getD i .junk)) = .rw (ints (rowAt rows i)) ∧ H (slB (ws.getD i .junk)) = .free := fun i hi => by
      have hri := hr i hi
      obtain ⟨b2, q1, q2, q3⟩ := (ho i hi).block (fun q => by have := congrArg List.length q; rw [ints_length] at this; simp at this; rw [this] at hri; simp at hri; omega)
      rw [ints_length] at q1
      rw [q1]
      exact ⟨rfl, q2, q3⟩
    refine ⟨hE', h1, ⟨hb', rfl, hb⟩, by rw [hl]; rfl, hl, hrb, fun i hi => by rw [hr i hi]; exact h0, fun i j hi hj hij => ?_, fun i hi o n' c q => (by cases q), fun o n' c q => (by cases q), fun i hi q => ?_, Own.nils, fun x hx => (by simp at hx)⟩
    · rcases Nat.lt_or_gt_of_ne hij with h | h
      · exact hinj i j h hj h0
      · exact Ne.symm (hinj j i h hi h0)
    · obtain ⟨q1, q2, q3⟩ := hrb i hi
      have hoff := (ho i hi).offSl hb' (by omega) hsl
      rw [q] at q1
      exact hoff _ _ _ q1
/-- the first n elements of a slice, without room -/
def slTake3 : AV → Nat → AV
  | .sl b o _ _, n => .sl b o n (.kn n)
  | v, _ => v
theorem OffH.take3 {H : AH} {v : AV} (h : OffH H v) (n : Nat) : OffH H (slTake3 v n) := fun b o n' c q => by
  cases v <;> simp only [slTake3] at q <;> first | (cases q; done) | (cases q; exact h _ _ _ _ rfl)
theorem Sl.slice3 {P : Program} {K : Kt} {e : Env} {H H' : AH} {d : Option Nat} {r : Rst} {k : IntKind} {v : AV} {us : List AV} {h : Int} (hs : Sl H v us) (h0 : 0 ≤ h) (h1 : h ≤ us.length) :
    kSlice P (some 1) r e H' K d v none (some (.int k h)) (some (.int k h)) = kPut P r e H' K d (slTake3 v h.toNat) := by
  have hh : ((h.toNat : Nat) : Int) = h := Int.toNat_of_nonneg h0
  rcases hs with ⟨rfl, rfl⟩ | ⟨b, o, c, rfl, -⟩
  · have : h = 0 := by simp at h1; omega
    subst this
    refine propext ⟨?_, ?_⟩
    · rintro ⟨s, -, -, -, -, h5⟩; exact h5
    · intro h2
      exact ⟨1, rfl, (fun v hv => by cases hv), (fun v hv => ⟨k, by cases hv; rfl⟩), (fun v hv => ⟨rfl, k, by cases hv; rfl⟩), h2⟩
  · refine propext ⟨?_, ?_⟩
    · rintro ⟨s, hs, l, hh', rfl, ⟨k', h2⟩, h3, h4, m, k2, h5, -, -, -, h6⟩
      cases hs
      cases h2
      have : m = hh' := by
        have := congrArg (fun v => match v with | AV.int _ n => n | _ => 0) h5
        simp at this
        omega
      subst this
      simpa [kPut, slTake3] using h6
    · intro h2
      refine ⟨1, rfl, 0, h.toNat, rfl, ⟨k, by rw [hh]⟩, by omega, by omega, h.toNat, k, by rw [hh], rfl, Nat.le_refl _, by omega, ?_⟩
      simpa [kPut, slTake3] using h2
theorem Sl.taken3 {H : AH} {v : AV} {us : List AV} {n : Nat} (hs : Sl H v us) (hn : n ≤ us.length) : Sl H (slTake3 v n) (us.take n) := by
  rcases hs with ⟨rfl, rfl⟩ | ⟨b, o, c, rfl, h⟩
  · exact .inl ⟨rfl, by simp⟩
  · refine .inr ⟨b, o, _, by rw [List.length_take, Nat.min_eq_left hn]; rfl, fun i u hu => ?_⟩
    rw [List.getElem?_take] at hu
    split at hu
    · exact h i u hu
    · cases hu
theorem Rows.taken3 {H : AH} {v : AV} {us : List AV} {l : List (List Int)} (h : Rows H v us l) {n : Nat} (hn : n ≤ l.length) : Rows H (slTake3 v n) (us.take n) (l.take n) := by
  refine ⟨h.sl.taken3 (by rw [h.len]; exact hn), by simp [h.len], fun i hi => ?_⟩
  rw [List.length_take] at hi
  rw [rowAt_take (by omega)]
  have := h.row i (by omega)
  simpa [List.getD_eq_getElem?_getD, List.getElem?_take, show i < n by omega] using this
theorem c_canonP (A : Alg) {bg : Nat} {p m : Int} {v : AV} {mod : List Int} {us : List AV} {rows : List (List Int)} {n cols : Nat} {H : AH} {Q : AV → AH → Prop} (hg : GFA H bg p m mod) (hF : FieldOk p m mod)
    (hv : Rows H v us rows) (hr : Rect n rows) (he : Els (fF p m mod) rows) (hn : n ≤ 1000) (hk : rows.length ≤ 1000) (hc : cols ≤ n)
    (hQ : ∀ lv pv us' H', Ext H H' → Rows H' lv us' (canon (fF p m mod) rows cols).1 → Ints H' pv (natsI (canon (fF p m mod) rows cols).2) → OffH H lv → (∀ u, u ∈ us' → OffH H u) → OffH H pv → Q (.tup [lv, pv]) H') :
    AC Tryz.prog 136 [.ptr bg 0, v, .int .i64 cols] H Q := by
  refine at136 (by simp) ?_
  simp (disch := first | assumption | omega) only [↓RP, RQ, TY, loadT, s136, reduceIte, Nat.reduceEqDiff, Nat.reduceAdd]
  refine c_clone hv hr hn hk fun lv ws H1 hE1 hr1 hO1 hO2 hP1 => ?_
  simp (disch := first | assumption | omega) only [↓RP, RQ, TY, loadT, reduceIte, Nat.reduceEqDiff, Nat.reduceAdd]
  have hle := elim_piv (F := fF p m mod) rows cols
  have hll := elim_length (F := fF p m mod) rows cols
  refine c_elimP A hg hE1 hF hr1.sl hr1.len hr he hn hk hc hP1 (fun h0 H2 d hE2 => ?_) (fun pv us' H2 d h0 h1 hM => ?_)
  · have hlen : (elim (fF p m mod) rows cols).2 = [] := by
      rcases h0 with h0 | h0
      · rw [show cols = 0 by omega]; rfl
      · exact List.length_eq_zero_iff.mp (by omega)
    have hr2 := hr1.ext hE2
    have z0 : Int.toNat 0 = 0 := rfl
    simp (disch := first | assumption | omega) only [↓RP, RQ, TY, loadT, reduceIte, Nat.reduceEqDiff, Nat.reduceAdd, hr2.sl.slice3, hr2.len, z0]
    refine hQ _ _ (ws.take 0) _ (hE1.trans hE2) ?_ ?_ (hO1.take3 _) (fun u hu => by simp at hu) (fun b o n c q => by cases q)
    · rw [canon, hlen]
      have := hr2.taken3 (n := 0) (by omega)
      simpa using this
    · rw [canon, hlen]
      exact .inl ⟨rfl, rfl⟩
  · have hpi := hM.piv.sl.ints
    rw [natsI_length] at hpi
    have hrM := hM.rows
    have hul := hM.len
    simp (disch := first | assumption | omega) only [↓RP, RQ, TY, loadT, reduceIte, Nat.reduceEqDiff, Nat.reduceAdd, hpi, hrM.sl.slice3, m_nat]
    exact hQ _ _ _ _ hM.ext (hrM.taken3 (by omega)) hM.piv.sl (hM.offs.1.take3 _) (fun u hu => hM.offs.2.1 u (List.mem_of_mem_take hu)) hM.offs.2.2
theorem u_stAgg {P : Program} {K : Kt} {e : Env} {H : AH} {d : Option Nat} {r : Rst} {ds : List Nat} {blk : Nat} {ys xs : List AV} (h : H blk = .rw xs) (hl : ys.length = xs.length) (hy : ∀ v, v ∈ ys → v.one = true) :
    kStore P ds (some ys.length) r e H K d (.ptr blk 0) (.agg ys) = kRet P ds r e (H.upd blk (.rw ys)) K d (.tup []) := by
  have hs : splice xs 0 ys = ys := by simp [splice, hl]
  refine propext ⟨?_, ?_⟩
  · rintro ⟨xs', h1, -, -, -, -, h6⟩
    rw [h] at h1
    cases h1
    have h6' : r.chk P (H.upd blk (.rw (splice xs 0 ys))) ds ∧ go P r (e.put d (.tup [])) (H.upd blk (.rw (splice xs 0 ys))) K := h6
    rw [hs] at h6'
    exact h6'
  · intro h6
    have h6' : r.chk P (H.upd blk (.rw ys)) ds ∧ go P r (e.put d (.tup [])) (H.upd blk (.rw ys)) K := h6
    rw [← hs] at h6'
    exact ⟨xs, h, rfl, rfl, hy, by show 0 + ys.length ≤ xs.length; omega, h6'⟩
theorem u_st2 {P : Program} {K : Kt} {e : Env} {H : AH} {d : Option Nat} {r : Rst} {ds : List Nat} {blk : Nat} {a b x y : AV} (h : H blk = .rw [a, b]) (hx : x.one = true) (hy : y.one = true) :
    kStore P ds (some 2) r e H K d (.ptr blk 0) (.agg [x, y]) = kRet P ds r e (H.upd blk (.rw [x, y])) K d (.tup []) :=
  u_stAgg h rfl (fun v hv => by simp at hv; rcases hv with rfl | rfl <;> assumption)
theorem c_openP (GI : GenIff) {p m cols : Int} {md v : AV} {mod : List Int} {bm : Nat} {us : List AV} {rows : List (List Int)} {H : AH} {Q : AV → AH → Prop} (hm : Ints H md mod) (hlm : mod.length ≤ 9223372036854775807) (hb : H bm = .rw [.int .i64 cols, v]) (hv : Rows H v us rows) (hl : rows.length ≤ 9223372036854775807) (hlr : ∀ i, i < rows.length → (rowAt rows i).length ≤ 9223372036854775807)
    (hQ1 : ∀ b H', Ext H H' → matErr p m mod cols rows = 0 → GFA H' b p m mod → Q (.tup [.ptr b 0, .int .i64 0]) H') (hQ0 : ∀ H', Ext H H' → matErr p m mod cols rows ≠ 0 → Q (.tup [.nilp, .int .i64 (matErr p m mod cols rows)]) H') :
    AC Tryz.prog 100 [.agg [.int .i64 p, .int .i64 m, md], .sl bm 0 1 (.own 2)] H Q := by
  refine at100 (by simp) ?_
  simp (disch := first | assumption | omega) only [↓RP, RQ, TY, loadT, s100, reduceIte, Nat.reduceEqDiff, Nat.reduceAdd]
  refine kNew_intro fun b H1 hb1 hE1 hH1 => ?_
  simp (disch := first | assumption | omega) only [↓RP, RQ, TY, loadT, reduceIte, Nat.reduceEqDiff, Nat.reduceAdd, hH1]
  refine c_New GI (hm.ext hE1) hlm (fun bg H2 hE2 hF hg => ?_) (fun H2 hE2 hF => ?_)
  rotate_left
  · have e1 : matErr p m mod cols rows = 1 := by rw [matErr, if_pos hF]
    simp (disch := first | assumption | omega) only [↓RP, RQ, TY, loadT, reduceIte, Nat.reduceEqDiff, Nat.reduceAdd, Int.reduceEq, Int.reduceNe]
    have := hQ0 H2 (hE1.trans hE2) (by rw [e1]; decide)
    rwa [e1] at this
  have hb2 := (hE1.trans hE2).rw hb
  simp (disch := first | assumption | omega) only [↓RP, RQ, TY, loadT, reduceIte, Nat.reduceEqDiff, Nat.reduceAdd, Int.reduceEq, Int.reduceNe]
  refine sw_loop (σ := Nat) (fun i e H' => e 20 = .int .i64 i ∧ e 19 = .int .i64 1 ∧ e 18 = .sl bm 0 1 (.own 2) ∧ e 6 = .ptr bg 0 ∧ i ≤ 1 ∧ Ext H2 H' ∧ (0 < i → matErr p m mod cols rows = 0)) (fun i => 1 - i) 0 ?_ ?_
  · simp (disch := first | assumption | omega) only [↓RP, RQ, TY, loadT, reduceIte, Nat.reduceEqDiff, Nat.reduceAdd]
    exact ⟨by simp, by omega, Ext.refl _, by omega⟩
  rintro i e H' ⟨e20, e19, e18, e6, hi, hE3, h0⟩
  have hb3 := hE3.rw hb2
  have hE13 := (hE1.trans hE2).trans hE3
  by_cases hlt : (i : Int) < 1
  · have i0 : i = 0 := by omega
    subst i0
    have hsl := isSl_one hv.sl.isSl
    have e20' : e 20 = .int .i64 0 := e20
    have z0 : Int.toNat 0 = 0 := rfl
    have l01 : ((0 : Int) < ((1 : Nat) : Int)) := by decide
    simp (disch := first | assumption | omega) only [↓RP, RQ, TY, loadT, reduceIte, Nat.reduceEqDiff, Nat.reduceAdd, e20', e19, e18, e6, eq_true (show (0 : Int) < 1 by decide), u_idx (Int.le_refl 0) l01, z0, Nat.zero_mul, hb3]
    refine kNew_intro fun b9 H9 hb9 hE9 hH9 => ?_
    simp (disch := first | assumption | omega) only [↓RP, RQ, TY, loadT, reduceIte, Nat.reduceEqDiff, Nat.reduceAdd, u_st2 (x := .int .i64 cols) (y := v) hH9 rfl hsl]
    have hE10 := hE9.upd hb9 (.rw [.int .i64 cols, v])
    have hH10 : (H9.upd b9 (.rw [.int .i64 cols, v])) b9 = .rw [.int .i64 cols, v] := updEq
    generalize H9.upd b9 (.rw [.int .i64 cols, v]) = H10 at *
    have hE010 := hE13.trans hE10
    simp (disch := first | assumption | omega) only [↓RP, RQ, TY, loadT, reduceIte, Nat.reduceEqDiff, Nat.reduceAdd, e20', e19, e18, e6, hH10]
    refine c_mcheck (hg.ext (hE3.trans hE10)) (by obtain ⟨_, _, _, _, _, _, _, _, _, _, _, _, _, _, hF⟩ := hg; exact hF) (hv.ext hE010) hl hlr fun H11 hE11 => ?_
    by_cases he : matErr p m mod cols rows = 0
    · simp (disch := first | assumption | omega) only [↓RP, RQ, TY, loadT, reduceIte, Nat.reduceEqDiff, Nat.reduceAdd, e20', e19, e18, e6, eq_true he]
      refine ⟨1, ?_, by dsimp only; omega⟩
      simp (disch := first | assumption | omega) only [↓RP, RQ, TY, loadT, reduceIte, Nat.reduceEqDiff, Nat.reduceAdd, e20', e19, e18, e6]
      exact ⟨by omega, (hE3.trans hE10).trans hE11, fun _ => trivial⟩
    · simp (disch := first | assumption | omega) only [↓RP, RQ, TY, loadT, reduceIte, Nat.reduceEqDiff, Nat.reduceAdd, e20', e19, e18, e6, eq_false he]
      exact hQ0 H11 (hE010.trans hE11) he
  · simp (disch := first | assumption | omega) only [↓RP, RQ, TY, loadT, reduceIte, Nat.reduceEqDiff, Nat.reduceAdd, e20, e19, e18, e6, hlt]
    exact hQ1 bg H' hE13 (h0 (by omega)) (hg.ext hE3)
end Go.Proofs.YtbkpebmcagdgmaaGreat.AM
/-! The program's matrices, sixth part: Canonical; the program's spaces and codes: Check. -/
namespace Go.Proofs.YtbkpebmcagdgmaaGreat.AM
open Go Go.RowKit
set_option linter.unusedVariables false
set_option linter.unusedSimpArgs false
set_option maxRecDepth 20000
theorem u_buildS1M {P : Program} {K : Kt} {e : Env} {H : AH} {d : Option Nat} {r : Rst} {x y a b : AV} : kBuildS P 1 r e H K d (some 2) (some [a, b]) [(0, .agg [x, y])] = kNew P (fun b => .sl b 0 1 (.own 2)) r e H K d [x, y] := by
  simp [kBuildS, aFill, reps, splice, AV.sure, AV.cells]
theorem u_fill0 {pl : Nat → Option (Nat × Nat)} {z : List AV} : aFill pl z [] = some z := rfl
theorem c_Canonical (A : Alg) {p m cols : Int} {md v : AV} {mod : List Int} {us : List AV} {rows : List (List Int)} {H : AH} {Q : AV → AH → Prop} (hm : Ints H md mod) (hlm : mod.length ≤ 9223372036854775807) (hv : Rows H v us rows) (hl : rows.length ≤ 9223372036854775807) (hlr : ∀ i, i < rows.length → (rowAt rows i).length ≤ 9223372036854775807)
    (hQ1 : ∀ lv pv us' H', Ext H H' → matErr p m mod cols rows = 0 → Rows H' lv us' (canon (fF p m mod) rows cols.toNat).1 → Ints H' pv (natsI (canon (fF p m mod) rows cols.toNat).2) → Q (.tup [.agg [.int .i64 cols, lv], pv, .int .i64 0]) H')
    (hQ0 : ∀ H', Ext H H' → matErr p m mod cols rows ≠ 0 → Q (.tup [.agg [.int .i64 0, .nils], .nils, .int .i64 (matErr p m mod cols rows)]) H') :
    AC Tryz.prog 94 [.agg [.int .i64 p, .int .i64 m, md], .agg [.int .i64 cols, v]] H Q := by
  have hsl := isSl_one hv.sl.isSl
  refine at94 (by simp) ?_
  simp (disch := first | assumption | omega) only [↓RP, RQ, TY, loadT, s94, reduceIte, Nat.reduceEqDiff, Nat.reduceAdd]
  refine kNew_intro fun b1 H1 hb1 hE1 hH1 => ?_
  simp (disch := first | assumption | omega) only [↓RP, RQ, TY, loadT, reduceIte, Nat.reduceEqDiff, Nat.reduceAdd]
  refine kNew_intro fun b2 H2 hb2 hE2 hH2 => ?_
  simp (disch := first | assumption | omega) only [↓RP, RQ, TY, loadT, reduceIte, Nat.reduceEqDiff, Nat.reduceAdd]
  refine kNew_intro fun b3 H3 hb3 hE3 hH3 => ?_
  have h13 := hE3.rw (hE2.rw hH1)
  have h23 := hE3.rw hH2
  have hE03 := (hE1.trans hE2).trans hE3
  have f3 := (hE1.trans hE2).free hb3
  simp (disch := first | assumption | omega) only [↓RP, RQ, TY, loadT, reduceIte, Nat.reduceEqDiff, Nat.reduceAdd, h13, h23, u_buildS1M]
  refine kNew_intro fun b4 H4 hb4 hE4 hH4 => ?_
  have hE04 := hE03.trans hE4
  simp (disch := first | assumption | omega) only [↓RP, RQ, TY, loadT, reduceIte, Nat.reduceEqDiff, Nat.reduceAdd]
  refine c_openP A.gi (hm.ext hE04) hlm hH4 (hv.ext hE04) hl hlr (fun bg H5 hE5 he hg => ?_) (fun H5 hE5 he => ?_)
  rotate_left
  · have h35 := hE5.rw (hE4.rw hH3)
    simp (disch := first | assumption | omega) only [↓RP, RQ, TY, loadT, reduceIte, Nat.reduceEqDiff, Nat.reduceAdd, eq_false he, h35, u_fill0, u_st2 (x := .int .i64 0) (y := .nils) h35 rfl rfl, aRes, aResL, aRes1, Option.map_some]
    exact hQ0 _ ((hE04.trans hE5).upd f3 _) he
  obtain ⟨o1, o2, o3, o4, o5, o6⟩ := mat_ok he
  have h25 := hE5.rw (hE4.rw h23)
  have h35 := hE5.rw (hE4.rw hH3)
  have hE05 := hE04.trans hE5
  obtain ⟨c, rfl⟩ : ∃ c : Nat, cols = c := ⟨cols.toNat, by omega⟩
  rw [Int.toNat_natCast] at o5 hQ1
  simp (disch := first | assumption | omega) only [↓RP, RQ, TY, loadT, reduceIte, Nat.reduceEqDiff, Nat.reduceAdd, Int.reduceEq, Int.reduceNe, h25]
  refine c_canonP A hg o1 (hv.ext hE05) o5 o6 (by omega) (by omega) (Nat.le_refl _) fun lv pv us' H6 hE6 hr6 hp6 of1 of2 of3 => ?_
  have h26 := hE6.rw h25
  have h36 := hE6.rw h35
  have i1 : (AV.int .i64 (c : Int)).one = true := rfl
  have i2 := isSl_one hr6.sl.isSl
  simp (disch := first | assumption | omega) only [↓RP, RQ, TY, loadT, reduceIte, Nat.reduceEqDiff, Nat.reduceAdd, h26, h36, fill_mat hr6.sl.isSl, u_st2 h36 i1 i2, aRes, aResL, aRes1, Option.map_some]
  refine hQ1 _ _ us' _ ((hE05.trans hE6).upd f3 _) he ?_ ?_
  · exact hr6.updOff of1 of2 (by rw [h35]; exact fun q => by cases q) _
  · exact hp6.updOff of3 (by rw [h35]; exact fun q => by cases q) _
end Go.Proofs.YtbkpebmcagdgmaaGreat.AM
/-! The program's spaces and codes: Check. -/
namespace Go.Proofs.YtbkpebmcagdgmaaGreat.AM
open Go Go.RowKit
set_option linter.unusedVariables false
set_option linter.unusedSimpArgs false
set_option maxRecDepth 20000
theorem fill_view {g x y a b c d v : AV} (hv : v.isSl = true) (hg : g.one = true) : aFill (fun i => [(0, 1), (1, 2), (3, 1)][i]?) [a, b, c, d] [(0, g), (1, .agg [x, y]), (2, v)] = some [g, x, y, v] := by
  cases v <;> cases g <;> first | rfl | (simp [AV.isSl] at hv; done) | (simp [AV.one] at hg; done)
theorem u_st4 {P : Program} {K : Kt} {e : Env} {H : AH} {d : Option Nat} {r : Rst} {ds : List Nat} {blk : Nat} {a b c f x y z w : AV} (h : H blk = .rw [a, b, c, f]) (hx : x.one = true) (hy : y.one = true) (hz : z.one = true) (hw : w.one = true) :
    kStore P ds (some 4) r e H K d (.ptr blk 0) (.agg [x, y, z, w]) = kRet P ds r e (H.upd blk (.rw [x, y, z, w])) K d (.tup []) :=
  u_stAgg h rfl (fun v hv => by simp at hv; rcases hv with rfl | rfl | rfl | rfl <;> assumption)
theorem canon_ok {F : FOps} {n cols : Nat} {rows : List (List Int)} (hr : Rect n rows) : (canon F rows cols).1.length ≤ rows.length ∧ ∀ i, i < (canon F rows cols).1.length → (rowAt (canon F rows cols).1 i).length = n := by
  have hl := elim_length (F := F) rows cols
  refine ⟨by rw [canon]; simp [hl]; omega, fun i hi => ?_⟩
  have h5 := elim_rect (F := F) hr cols i
  rw [canon] at hi ⊢
  dsimp only at hi ⊢
  rw [List.length_take] at hi
  rw [rowAt_take (by omega), h5 (by omega)]
theorem c_sopen (A : Alg) {p m cols : Int} {md v : AV} {mod : List Int} {us : List AV} {rows : List (List Int)} {H : AH} {Q : AV → AH → Prop} (hm : Ints H md mod) (hlm : mod.length ≤ 9223372036854775807) (hv : Rows H v us rows) (hl : rows.length ≤ 9223372036854775807) (hlr : ∀ i, i < rows.length → (rowAt rows i).length ≤ 9223372036854775807)
    (hQ : ∀ x y z w H', Ext H H' → x.one = true → y.one = true → z.one = true → w.one = true → Q (.tup [.agg [x, y, z, w], .int .i64 (spcErr p m mod cols rows)]) H') :
    AC Tryz.prog 114 [.agg [.int .i64 p, .int .i64 m, md], .agg [.int .i64 cols, v]] H Q := by
  have hsl := isSl_one hv.sl.isSl
  refine at114 (by simp) ?_
  simp (disch := first | assumption | omega) only [↓RP, RQ, TY, loadT, s114, reduceIte, Nat.reduceEqDiff, Nat.reduceAdd]
  refine kNew_intro fun b1 H1 hb1 hE1 hH1 => ?_
  simp (disch := first | assumption | omega) only [↓RP, RQ, TY, loadT, reduceIte, Nat.reduceEqDiff, Nat.reduceAdd]
  refine kNew_intro fun b2 H2 hb2 hE2 hH2 => ?_
  simp (disch := first | assumption | omega) only [↓RP, RQ, TY, loadT, reduceIte, Nat.reduceEqDiff, Nat.reduceAdd]
  refine kNew_intro fun b3 H3 hb3 hE3 hH3 => ?_
  have h13 := hE3.rw (hE2.rw hH1)
  have h23 := hE3.rw hH2
  have hE03 := (hE1.trans hE2).trans hE3
  have f3 := (hE1.trans hE2).free hb3
  simp (disch := first | assumption | omega) only [↓RP, RQ, TY, loadT, reduceIte, Nat.reduceEqDiff, Nat.reduceAdd, h13, h23]
  refine c_Canonical A (hm.ext hE03) hlm (hv.ext hE03) hl hlr (fun lv pv us' H4 hE4 he hr4 hp4 => ?_) (fun H4 hE4 he => ?_)
  rotate_left
  · have h34 := hE4.rw hH3
    simp (disch := first | assumption | omega) only [↓RP, RQ, TY, loadT, reduceIte, Nat.reduceEqDiff, Nat.reduceAdd]
    refine kNew_intro fun b5 H5 hb5 hE5 hH5 => ?_
    have hE05 := (hE03.trans hE4).trans hE5
    simp (disch := first | assumption | omega) only [↓RP, RQ, TY, loadT, reduceIte, Nat.reduceEqDiff, Nat.reduceAdd, u_st2 (x := .int .i64 0) (y := .nils) hH5 rfl rfl]
    have hE6 := hE5.upd hb5 (.rw [.int .i64 0, .nils])
    have h36 := hE6.rw h34
    generalize H5.upd b5 (.rw [.int .i64 0, .nils]) = H6 at *
    simp (disch := first | assumption | omega) only [↓RP, RQ, TY, loadT, reduceIte, Nat.reduceEqDiff, Nat.reduceAdd, eq_false he, u_fill0, u_st4 (x := .nilp) (y := .int .i64 0) (z := .nils) (w := .nils) h36 rfl rfl rfl rfl, aRes, aResL, aRes1, Option.map_some]
    have := hQ .nilp (.int .i64 0) .nils .nils _ (((hE03.trans hE4).trans hE6).upd f3 (.rw [.nilp, .int .i64 0, .nils, .nils])) rfl rfl rfl rfl
    rwa [spcErr, if_pos he] at this
  obtain ⟨o1, o2, o3, o4, o5, o6⟩ := mat_ok he
  have h34 := hE4.rw hH3
  have h24 := hE4.rw h23
  have h14 := hE4.rw h13
  have i1 : (AV.int .i64 cols).one = true := rfl
  have i2 := isSl_one hr4.sl.isSl
  have i3 := isSl_one hp4.isSl
  simp (disch := first | assumption | omega) only [↓RP, RQ, TY, loadT, reduceIte, Nat.reduceEqDiff, Nat.reduceAdd]
  refine kNew_intro fun b5 H5 hb5 hE5 hH5 => ?_
  have hE05 := (hE03.trans hE4).trans hE5
  simp (disch := first | assumption | omega) only [↓RP, RQ, TY, loadT, reduceIte, Nat.reduceEqDiff, Nat.reduceAdd, u_st2 hH5 i1 i2]
  have hE6 := hE5.upd hb5 (.rw [.int .i64 cols, lv])
  have h56 : (H5.upd b5 (.rw [.int .i64 cols, lv])) b5 = .rw [.int .i64 cols, lv] := updEq
  have h36 := hE6.rw h34
  have h26 := hE6.rw h24
  have h16 := hE6.rw h14
  generalize H5.upd b5 (.rw [.int .i64 cols, lv]) = H6 at *
  have hE06 := (hE03.trans hE4).trans hE6
  simp (disch := first | assumption | omega) only [↓RP, RQ, TY, loadT, reduceIte, Nat.reduceEqDiff, Nat.reduceAdd, Int.reduceEq, Int.reduceNe, h56, h26]
  obtain ⟨k1, k2⟩ := canon_ok (F := fF p m mod) (cols := cols.toNat) o5
  refine c_EqualFunc (hr4.ext hE6) (hv.ext hE06) (by omega) (by omega) (fun i hi => by rw [k2 i hi]; omega) (fun i hi => by rw [o5 i hi]; omega) ?_
  by_cases heq : (canon (fF p m mod) rows cols.toNat).1 = rows
  rotate_left
  · simp (disch := first | assumption | omega) only [↓RP, RQ, TY, loadT, reduceIte, Nat.reduceEqDiff, Nat.reduceAdd, eq_false heq, u_fill0, u_st4 (x := .nilp) (y := .int .i64 0) (z := .nils) (w := .nils) h36 rfl rfl rfl rfl, aRes, aResL, aRes1, Option.map_some]
    have := hQ .nilp (.int .i64 0) .nils .nils _ (hE06.upd f3 (.rw [.nilp, .int .i64 0, .nils, .nils])) rfl rfl rfl rfl
    rwa [spcErr, if_neg (by simpa using he), if_neg heq] at this
  simp (disch := first | assumption | omega) only [↓RP, RQ, TY, loadT, reduceIte, Nat.reduceEqDiff, Nat.reduceAdd, eq_true heq, h16]
  refine c_New A.gi (hm.ext hE06) hlm (fun bg H7 hE7 hF hg => ?_) (fun H7 hE7 hF => absurd o1 hF)
  have h37 := hE7.rw h36
  have h27 := hE7.rw h26
  have i4 : (AV.ptr bg 0).one = true := rfl
  simp (disch := first | assumption | omega) only [↓RP, RQ, TY, loadT, reduceIte, Nat.reduceEqDiff, Nat.reduceAdd, h27, fill_view hp4.isSl i4, u_st4 h37 i4 i1 hsl i3, aRes, aResL, aRes1, Option.map_some]
  have := hQ (.ptr bg 0) (.int .i64 cols) v pv _ ((hE06.trans hE7).upd f3 (.rw [.ptr bg 0, .int .i64 cols, v, pv])) i4 i1 hsl i3
  rwa [spcErr, if_neg (by simpa using he), if_pos heq] at this
theorem c_sCheck (A : Alg) {p m cols : Int} {md v : AV} {mod : List Int} {us : List AV} {rows : List (List Int)} {H : AH} {Q : AV → AH → Prop} (hm : Ints H md mod) (hlm : mod.length ≤ 9223372036854775807) (hv : Rows H v us rows) (hl : rows.length ≤ 9223372036854775807) (hlr : ∀ i, i < rows.length → (rowAt rows i).length ≤ 9223372036854775807)
    (hQ : ∀ H', Ext H H' → Q (.int .i64 (spcErr p m mod cols rows)) H') :
    AC Tryz.prog 109 [.agg [.int .i64 p, .int .i64 m, md], .agg [.int .i64 cols, v]] H Q := by
  refine at109 (by simp) ?_
  simp (disch := first | assumption | omega) only [↓RP, RQ, TY, loadT, s109, reduceIte, Nat.reduceEqDiff, Nat.reduceAdd]
  refine kNew_intro fun b1 H1 hb1 hE1 hH1 => ?_
  simp (disch := first | assumption | omega) only [↓RP, RQ, TY, loadT, reduceIte, Nat.reduceEqDiff, Nat.reduceAdd]
  refine kNew_intro fun b2 H2 hb2 hE2 hH2 => ?_
  have hE12 := hE1.trans hE2
  simp (disch := first | assumption | omega) only [↓RP, RQ, TY, loadT, reduceIte, Nat.reduceEqDiff, Nat.reduceAdd, hE2.rw hH1, hH2]
  refine c_sopen A (hm.ext hE12) hlm (hv.ext hE12) hl hlr fun x y z w H3 hE3 hx hy hz hw => ?_
  simp (disch := first | assumption | omega) only [↓RP, RQ, TY, loadT, reduceIte, Nat.reduceEqDiff, Nat.reduceAdd]
  refine kNew_intro fun b4 H4 hb4 hE4 hH4 => ?_
  simp (disch := first | assumption | omega) only [↓RP, RQ, TY, loadT, reduceIte, Nat.reduceEqDiff, Nat.reduceAdd, u_st4 hH4 hx hy hz hw]
  exact hQ _ ((hE12.trans hE3).trans (hE4.upd hb4 _))
theorem c_clen {n : Int} {H : AH} {Q : AV → AH → Prop} (hQ : Q (.int .i64 (if n < 1 ∨ 64 < n then 4 else 0)) H) : AC Tryz.prog 95 [.int .i64 n] H Q := by
  refine at95 (by simp) ?_
  by_cases c1 : n < 1
  · rw [if_pos (.inl c1)] at hQ
    simp (disch := first | assumption | omega) only [↓RP, RQ, TY, loadT, s95, reduceIte, Nat.reduceEqDiff, Nat.reduceAdd, c1]
    exact hQ
  by_cases c2 : 64 < n
  · rw [if_pos (.inr c2)] at hQ
    simp (disch := first | assumption | omega) only [↓RP, RQ, TY, loadT, s95, reduceIte, Nat.reduceEqDiff, Nat.reduceAdd, c1, c2]
    exact hQ
  rw [if_neg (by omega)] at hQ
  simp (disch := first | assumption | omega) only [↓RP, RQ, TY, loadT, s95, reduceIte, Nat.reduceEqDiff, Nat.reduceAdd, c1, c2]
  exact hQ
theorem c_gen {p m n : Int} {md v : AV} {H : AH} {Q : AV → AH → Prop} (hv : v.isSl = true) (hQ : ∀ H', Ext H H' → Q (.agg [.int .i64 n, v]) H') : AC Tryz.prog 70 [codeV p m md n v] H Q := by
  have i1 : (AV.int .i64 n).one = true := rfl
  have i2 := isSl_one hv
  refine at70 (by simp) ?_
  simp (disch := first | assumption | omega) only [↓RP, RQ, TY, loadT, s70, reduceIte, Nat.reduceEqDiff, Nat.reduceAdd]
  refine kNew_intro fun b1 H1 hb1 hE1 hH1 => ?_
  simp (disch := first | assumption | omega) only [↓RP, RQ, TY, loadT, reduceIte, Nat.reduceEqDiff, Nat.reduceAdd]
  refine kNew_intro fun b2 H2 hb2 hE2 hH2 => ?_
  simp (disch := first | assumption | omega) only [↓RP, RQ, TY, loadT, reduceIte, Nat.reduceEqDiff, Nat.reduceAdd, hE2.rw hH1, fill_mat hv, u_st2 hH2 i1 i2, aRes, aResL, aRes1, Option.map_some]
  exact hQ _ (hE1.trans (hE2.upd hb2 _))
theorem c_cCheck (A : Alg) {p m n : Int} {md v : AV} {mod : List Int} {us : List AV} {rows : List (List Int)} {H : AH} {Q : AV → AH → Prop} (hm : Ints H md mod) (hlm : mod.length ≤ 9223372036854775807) (hv : Rows H v us rows) (hl : rows.length ≤ 9223372036854775807) (hlr : ∀ i, i < rows.length → (rowAt rows i).length ≤ 9223372036854775807)
    (hQ : ∀ H', Ext H H' → Q (.int .i64 (codeErr p m mod n rows)) H') : AC Tryz.prog 63 [codeV p m md n v] H Q := by
  refine at63 (by simp) ?_
  simp (disch := first | assumption | omega) only [↓RP, RQ, TY, loadT, s63, reduceIte, Nat.reduceEqDiff, Nat.reduceAdd]
  refine kNew_intro fun b H1 hb hE1 hH1 => ?_
  simp (disch := first | assumption | omega) only [↓RP, RQ, TY, loadT, reduceIte, Nat.reduceEqDiff, Nat.reduceAdd, hH1]
  refine c_CheckF A.gi (hm.ext hE1) hlm fun H2 hE2 => ?_
  have hE12 := hE1.trans hE2
  have h12 := hE2.rw hH1
  by_cases hF : FieldOk p m mod
  rotate_left
  · simp (disch := first | assumption | omega) only [↓RP, RQ, TY, loadT, reduceIte, Nat.reduceEqDiff, Nat.reduceAdd, hF, Int.reduceEq, Int.reduceNe]
    have := hQ H2 hE12
    rwa [codeErr, if_pos hF] at this
  simp (disch := first | assumption | omega) only [↓RP, RQ, TY, loadT, reduceIte, Nat.reduceEqDiff, Nat.reduceAdd, hF, Int.reduceEq, Int.reduceNe, h12]
  refine c_clen ?_
  by_cases c1 : n < 1 ∨ 64 < n
  · simp (disch := first | assumption | omega) only [↓RP, RQ, TY, loadT, reduceIte, Nat.reduceEqDiff, Nat.reduceAdd, eq_true c1, Int.reduceEq, Int.reduceNe]
    have := hQ H2 hE12
    rwa [codeErr, if_neg (by simpa using hF), if_pos c1] at this
  simp (disch := first | assumption | omega) only [↓RP, RQ, TY, loadT, reduceIte, Nat.reduceEqDiff, Nat.reduceAdd, eq_false c1, Int.reduceEq, Int.reduceNe, h12]
  refine c_gen hv.sl.isSl fun H3 hE3 => ?_
  have h13 := hE3.rw h12
  simp (disch := first | assumption | omega) only [↓RP, RQ, TY, loadT, reduceIte, Nat.reduceEqDiff, Nat.reduceAdd, h13]
  refine c_sCheck A (hm.ext (hE12.trans hE3)) hlm (hv.ext (hE12.trans hE3)) hl hlr fun H4 hE4 => ?_
  simp (disch := first | assumption | omega) only [↓RP, RQ, TY, loadT, reduceIte, Nat.reduceEqDiff, Nat.reduceAdd]
  have := hQ H4 ((hE12.trans hE3).trans hE4)
  rwa [codeErr, if_neg (by simpa using hF), if_neg c1] at this
end Go.Proofs.YtbkpebmcagdgmaaGreat.AM
/-! Lists of slices of the call's own in blocks of their own. -/
namespace Go.Proofs.YtbkpebmcagdgmaaGreat.AM
open Go Go.RowKit
set_option linter.unusedVariables false
set_option linter.unusedSimpArgs false
set_option maxRecDepth 20000
def blockOf : AV → Option Nat
  | .sl b _ _ _ => some b
  | _ => none
def blocksL (L : List (AV × List AV)) : List Nat := L.filterMap fun x => blockOf x.1
/-- each slice of L is nil or a block made since H0, no two the same block -/
structure Hp (H0 H : AH) (L : List (AV × List AV)) : Prop where
  ext : Ext H0 H
  own : ∀ x, x ∈ L → Own H0 H x.1 x.2
  nd : (blocksL L).Nodup
section
variable {H0 H H' : AH} {L L' : List (AV × List AV)} {x : AV} {us : List AV}
theorem Hp.nil (hE : Ext H0 H) : Hp H0 H [] := ⟨hE, fun x hx => by simp at hx, by simp [blocksL]⟩
theorem Hp.more (h : Hp H0 H L) (hE : Ext H H') : Hp H0 H' L := ⟨h.ext.trans hE, fun x hx => (h.own x hx).ext hE, h.nd⟩
theorem Hp.perm (h : Hp H0 H L) (hp : L.Perm L') : Hp H0 H L' := ⟨h.ext, fun x hx => h.own x (hp.mem_iff.mpr hx), (hp.filterMap _).nodup_iff.mp h.nd⟩
theorem Hp.sub (h : Hp H0 H L) (hs : L'.Sublist L) : Hp H0 H L' := ⟨h.ext, fun x hx => h.own x (hs.subset hx), h.nd.sublist (hs.filterMap _)⟩
theorem Hp.tail (h : Hp H0 H ((x, us) :: L)) : Hp H0 H L := h.sub (List.sublist_cons_self _ _)
theorem Hp.sl (h : Hp H0 H L) {y : AV × List AV} (hy : y ∈ L) : Sl H y.1 y.2 := (h.own y hy).sl
theorem Hp.head (h : Hp H0 H ((x, us) :: L)) : Own H0 H x us := h.own (x, us) (by simp)
theorem Hp.off (h : Hp H0 H ((x, us) :: L)) {y : AV × List AV} (hy : y ∈ L) {b : Nat} (hb : blockOf y.1 = some b) : Off x b := fun o n c q => by
  have := h.nd
  simp only [blocksL, q, List.filterMap_cons, blockOf, List.nodup_cons] at this
  exact this.1 (List.mem_filterMap.mpr ⟨y, hy, hb⟩)
theorem Hp.cons (h : Hp H0 H L) (ho : Own H0 H x us) (hoff : ∀ y, y ∈ L → ∀ b, blockOf y.1 = some b → Off x b) : Hp H0 H ((x, us) :: L) := by
  refine ⟨h.ext, fun y hy => ?_, ?_⟩
  · rcases List.mem_cons.mp hy with rfl | hy
    · exact ho
    · exact h.own y hy
  · have hn := h.nd
    simp only [blocksL, List.filterMap_cons] at hn ⊢
    cases hb : blockOf x with
    | none => exact hn
    | some b =>
      dsimp only
      rw [List.nodup_cons]
      refine ⟨fun hm => ?_, hn⟩
      obtain ⟨y, hy, hyb⟩ := List.mem_filterMap.mp hm
      cases x <;> simp only [blockOf] at hb <;> cases hb
      exact hoff y hy b hyb _ _ _ rfl
theorem Hp.nils (h : Hp H0 H L) : Hp H0 H ((.nils, []) :: L) := h.cons Own.nils fun y _ b _ o n c q => by cases q
theorem Hp.blkOf (h : Hp H0 H L) {y : AV × List AV} (hy : y ∈ L) {b : Nat} (hb : blockOf y.1 = some b) : H b = .rw y.2 ∧ H0 b = .free := by
  rcases h.own y hy with ⟨q, -⟩ | ⟨b2, q, q2, q3⟩
  · rw [q] at hb; cases hb
  · rw [q] at hb
    cases hb
    exact ⟨q2, q3⟩
/-- a new block -/
theorem Hp.new (h : Hp H0 H L) {b n : Nat} {cs : List AV} (hb : H b = .free) (hE : Ext H H') (hc : H' b = .rw cs) (hn : n = cs.length) : Hp H0 H' ((.sl b 0 n (.own 1), cs) :: L) :=
  (h.more hE).cons (Own.mk hc (h.ext.free hb) hn) fun y hy b2 hb2 o n c q => by
    cases q
    have := (h.blkOf hy hb2).1
    rw [hb] at this
    cases this
/-- a slice made since then -/
theorem Hp.made {H1 : AH} (h : Hp H0 H L) (hE : Ext H H') (ho : Own H H' x us) : Hp H0 H' ((x, us) :: L) :=
  (h.more hE).cons (ho.old h.ext) fun y hy b hb o n c q => by
    have h1 := (h.blkOf hy hb).1
    have h2 := ho.offH _ _ _ _ q
    rw [h1] at h2
    cases h2
theorem Hp.upd {b n : Nat} {c : Cap} {us' : List AV} (h : Hp H0 H ((.sl b 0 n c, us) :: L)) (hl : us'.length = us.length) : Hp H0 (H.upd b (.rw us')) ((.sl b 0 n c, us') :: L) := by
  have ho := h.head
  have hoff := fun y hy b2 hb2 => h.off (y := y) hy (b := b2) hb2
  rcases ho with ⟨q, -⟩ | ⟨b2, q, q2, q3⟩
  · cases q
  cases q
  have ht := h.tail
  have h' : Hp H0 (H.upd b (.rw us')) L := by
    refine ⟨ht.ext.upd q3 _, fun y hy => ?_, ht.nd⟩
    rcases ht.own y hy with w | ⟨b2, w1, w2, w3⟩
    · exact .inl w
    · refine .inr ⟨b2, w1, ?_, w3⟩
      have : b2 ≠ b := fun e => by
        have := hoff y hy b2 (by rw [w1]; rfl)
        exact this 0 _ _ (by rw [e])
      simp [AH.upd, this, w2]
  exact h'.cons (.inr ⟨b, by rw [hl], by simp [AH.upd], q3⟩) hoff
/-- append -/
theorem kApp_hp {P : Program} {K : Kt} {e : Env} {d : Option Nat} {r : Rst} {ds : List Nat} {by_ : Nat} {y z : AV} {zs : List AV} (h : Hp H0 H ((x, zs) :: L)) (hy : Sl H y us) (hu : ∀ u, u ∈ us → u.one = true) (hl : (zs.length + us.length) * by_ ≤ 140737488355328) (hl' : zs.length + us.length ≤ 140737488355328)
    (hk : ∀ v H', Hp H0 H' ((v, zs ++ us) :: L) → kRet P ds r e H' K d v) : kApp P ds (some 1) (some by_) (some [z]) r e H K d x y := by
  refine kApp_own h.head h.ext hy hu hl hl' fun v H' hE ho keep => hk v H' ?_
  have ht := h.tail
  have hk' : ∀ w, w ∈ L → ∀ b, blockOf w.1 = some b → H' b = .rw w.2 ∧ Off v b := fun w hw b hb => keep b _ (ht.blkOf hw hb).1 (h.off hw hb)
  refine Hp.cons ⟨hE, fun w hw => ?_, ht.nd⟩ ho fun w hw b hb => (hk' w hw b hb).2
  rcases ht.own w hw with q | ⟨b, q1, q2, q3⟩
  · exact .inl q
  · exact .inr ⟨b, q1, (hk' w hw b (by rw [q1]; rfl)).1, q3⟩
end
/-- rows, each a slice of its own -/
def rowsL : List AV → List (List Int) → List (AV × List AV)
  | w :: ws, r :: l => (w, ints r) :: rowsL ws l
  | _, _ => []
theorem rowsL_mem : ∀ {ws : List AV} {l : List (List Int)} {i : Nat}, ws.length = l.length → i < l.length → (ws.getD i .junk, ints (rowAt l i)) ∈ rowsL ws l
  | [], [], i, _, h => by simp at h
  | w :: ws, r :: l, 0, _, _ => by simp [rowsL, rowAt]
  | w :: ws, r :: l, i + 1, hl, h => by
    have := rowsL_mem (ws := ws) (l := l) (i := i) (by simpa using hl) (by simpa using h)
    simp only [rowsL, List.mem_cons]
    right
    simpa [rowAt] using this
  | [], _ :: _, _, h, _ => by simp at h
  | _ :: _, [], _, h, _ => by simp at h
theorem rowsL_app : ∀ {ws : List AV} {l : List (List Int)} (w : AV) (r : List Int), ws.length = l.length → rowsL (ws ++ [w]) (l ++ [r]) = rowsL ws l ++ [(w, ints r)]
  | [], [], w, r, _ => rfl
  | a :: ws, b :: l, w, r, h => by
    have := rowsL_app (ws := ws) (l := l) w r (by simpa using h)
    simp only [List.cons_append, rowsL, this]
  | [], _ :: _, _, _, h => by simp at h
  | _ :: _, [], _, _, h => by simp at h
end Go.Proofs.YtbkpebmcagdgmaaGreat.AM
/-! The program's information sets, first part: IndexFunc, basis.add. -/
namespace Go.Proofs.YtbkpebmcagdgmaaGreat.AM
open Go Go.RowKit
set_option linter.unusedVariables false
set_option linter.unusedSimpArgs false
set_option maxRecDepth 20000
/-- the index of the first nonzero entry, or the length -/
def firstV : List Int → Nat
  | [] => 0
  | x :: xs => if x ≠ 0 then 0 else firstV xs + 1
theorem firstV_le : ∀ xs, firstV xs ≤ xs.length
  | [] => Nat.le_refl _
  | x :: xs => by
    have := firstV_le xs
    rw [firstV]
    split <;> simp <;> omega
theorem firstV_lt : ∀ {xs : List Int} {i : Nat}, i < firstV xs → xs.getD i 0 = 0
  | [], i, h => by simp [firstV] at h
  | x :: xs, 0, h => by
    rw [firstV] at h
    split at h
    · omega
    · rename_i q; simpa using q
  | x :: xs, i + 1, h => by
    rw [firstV] at h
    split at h
    · omega
    · simpa using firstV_lt (xs := xs) (i := i) (by omega)
theorem firstV_ne : ∀ {xs : List Int}, firstV xs < xs.length → xs.getD (firstV xs) 0 ≠ 0
  | [], h => by simp [firstV] at h
  | x :: xs, h => by
    rw [firstV] at h ⊢
    split
    · rename_i q; simpa using q
    · rename_i q
      rw [if_neg q] at h
      simpa using firstV_ne (xs := xs) (by simpa using h)
theorem firstV_eq {xs : List Int} {k : Nat} (hk : k ≤ xs.length) (h1 : ∀ i, i < k → xs.getD i 0 = 0) (h2 : k < xs.length → xs.getD k 0 ≠ 0) : firstV xs = k := by
  have g1 := firstV_le xs
  rcases Nat.lt_trichotomy (firstV xs) k with h | h | h
  · exact absurd (h1 _ h) (firstV_ne (by omega))
  · exact h
  · exact absurd (firstV_lt h) (h2 (by omega))
theorem c_nz {x : Int} {H : AH} {Q : AV → AH → Prop} (hQ : Q (.bool (decide (x ≠ 0))) H) : AC Tryz.prog 160 [.int .i64 x] H Q := by
  refine at160 (by simp) ?_
  simp (disch := first | assumption | omega) only [↓RP, RQ, TY, loadT, s160, reduceIte, Nat.reduceEqDiff, Nat.reduceAdd]
  exact hQ
theorem c_IndexFunc {v : AV} {xs : List Int} {H : AH} {Q : AV → AH → Prop} (hv : Ints H v xs) (hl : xs.length ≤ 9223372036854775807)
    (hQ : Q (.int .i64 (if firstV xs < xs.length then (firstV xs : Int) else -1)) H) : AC Tryz.prog 159 [v, .fn 160 []] H Q := by
  refine at159 (by simp) ?_
  simp (disch := first | assumption | omega) only [↓RP, RQ, TY, loadT, s159, reduceIte, Nat.reduceEqDiff, Nat.reduceAdd, hv.ints]
  refine sw_loop (σ := Nat) (fun i e H' => e 8 = .int .i64 i ∧ e 7 = .int .i64 xs.length ∧ e 0 = v ∧ e 1 = .fn 160 [] ∧ i ≤ xs.length ∧ H' = H ∧ ∀ j, j < i → xs.getD j 0 = 0) (fun i => xs.length - i) 0 ?_ ?_
  · simp (disch := first | assumption | omega) only [↓RP, RQ, TY, loadT, reduceIte, Nat.reduceEqDiff, Nat.reduceAdd]
    exact ⟨by omega, fun j hj => by omega⟩
  rintro i e H' ⟨e8, e7, e0, e1, hi, rfl, hj⟩
  by_cases hlt : (i : Int) < xs.length
  · simp (disch := first | assumption | omega) only [↓RP, RQ, TY, loadT, reduceIte, Nat.reduceEqDiff, Nat.reduceAdd, e8, e7, e0, e1, hlt, hv.ints]
    refine c_nz ?_
    by_cases hz : xs.getD i 0 = 0
    · simp (disch := first | assumption | omega) only [↓RP, RQ, TY, loadT, reduceIte, Nat.reduceEqDiff, Nat.reduceAdd, e8, e7, e0, e1, hz]
      refine ⟨i + 1, ?_, by dsimp only; omega⟩
      simp (disch := first | assumption | omega) only [↓RP, RQ, TY, loadT, reduceIte, Nat.reduceEqDiff, Nat.reduceAdd, e8, e7, e0, e1]
      refine ⟨by omega, fun j h => ?_⟩
      by_cases hji : j = i
      · rw [hji]; exact hz
      · exact hj j (by omega)
    · simp (disch := first | assumption | omega) only [↓RP, RQ, TY, loadT, reduceIte, Nat.reduceEqDiff, Nat.reduceAdd, e8, e7, e0, e1, hz]
      have := firstV_eq (xs := xs) (k := i) (by omega) hj (fun _ => hz)
      rwa [this, if_pos (by omega)] at hQ
  · simp (disch := first | assumption | omega) only [↓RP, RQ, TY, loadT, reduceIte, Nat.reduceEqDiff, Nat.reduceAdd, e8, e7, e0, e1, hlt]
    have := firstV_eq (xs := xs) (k := i) (by omega) hj (fun q => by omega)
    rwa [this, if_neg (by omega)] at hQ
/-- x times a row is taken away -/
def subRow (F : FOps) (v : List Int) (x : Int) (row : List Int) : List Int := tabN v.length fun j => F.add (v.getD j 0) (F.neg (F.mul x (row.getD j 0)))
def redStep (F : FOps) (l : List (List Int)) (places : List Nat) (i : Nat) (v : List Int) : List Int :=
  if v.getD (places.getD i 0) 0 ≠ 0 then subRow F v (v.getD (places.getD i 0) 0) (rowAt l i) else v
/-- reduced by a basis -/
def redB (F : FOps) (l : List (List Int)) (places : List Nat) (v : List Int) : List Int := uptoN (redStep F l places) l.length v
/-- a basis takes a vector -/
def bTake (F : FOps) (l : List (List Int)) (places : List Nat) (v : List Int) : List (List Int) × List Nat :=
  if firstV (redB F l places v) < (redB F l places v).length then (l ++ [scaleL F (F.inv ((redB F l places v).getD (firstV (redB F l places v)) 0)) (redB F l places v)], places ++ [firstV (redB F l places v)]) else (l, places)
theorem subRow_length (F : FOps) (v : List Int) (x : Int) (row : List Int) : (subRow F v x row).length = v.length := tabN_length _ _
theorem redStep_ok {F : FOps} (h : F.Ok) {n : Nat} {l : List (List Int)} {places : List Nat} (he : Els F l) (i : Nat) {v : List Int} (hv : v.length = n ∧ ∀ j, F.El (v.getD j 0)) : (redStep F l places i v).length = n ∧ ∀ j, F.El ((redStep F l places i v).getD j 0) := by
  rw [redStep]
  split
  · refine ⟨by rw [subRow_length, hv.1], fun j => ?_⟩
    by_cases hj : j < v.length
    · rw [subRow, tabN_getD _ hj]
      exact h.add_el (hv.2 j) (h.neg_el (h.mul_el (hv.2 _) (he i j)))
    · rw [getD_len _ (by rw [subRow_length]; omega)]; exact h.el0
  · exact hv
theorem red_ok {F : FOps} (h : F.Ok) {n : Nat} {l : List (List Int)} {places : List Nat} (he : Els F l) {v : List Int} (hv : v.length = n ∧ ∀ j, F.El (v.getD j 0)) : ∀ i, (uptoN (redStep F l places) i v).length = n ∧ ∀ j, F.El ((uptoN (redStep F l places) i v).getD j 0)
  | 0 => hv
  | i + 1 => redStep_ok h he i (red_ok h he hv i)
theorem swap2 {α : Type} (a b : α) (l : List α) : (a :: b :: l).Perm (b :: a :: l) := List.Perm.swap b a l
theorem c_badd (A : Alg) {bg bb bv : Nat} {p m : Int} {mod : List Int} {rv pv : AV} {ws : List AV} {l : List (List Int)} {places : List Nat} {xs : List Int} {n : Nat} {R : List (AV × List AV)} {H0 H : AH} {Q : AV → AH → Prop}
    (hg : GFA H0 bg p m mod) (hF : FieldOk p m mod) (hr : Rect n l) (he : Els (fF p m mod) l) (hx : xs.length = n ∧ ∀ j, (fF p m mod).El (xs.getD j 0)) (hp : ∀ i, i < l.length → places.getD i 0 < n) (hpl : places.length = l.length) (hwl : ws.length = l.length) (hn : n ≤ 1000) (hl : l.length ≤ 1000)
    (hsl : ∀ u, u ∈ ws → u.isSl = true)
    (hH : Hp H0 H ((.sl bv 0 n (.own 1), ints xs) :: (.sl bb 0 3 (.own 1), [.ptr bg 0, rv, pv]) :: (rv, ws) :: (pv, ints (natsI places)) :: (rowsL ws l ++ R)))
    (hQ : ∀ rv' pv' ws' H', ws'.length = (bTake (fF p m mod) l places xs).1.length → (∀ u, u ∈ ws' → u.isSl = true) →
      Hp H0 H' ((.sl bb 0 3 (.own 1), [.ptr bg 0, rv', pv']) :: (rv', ws') :: (pv', ints (natsI (bTake (fF p m mod) l places xs).2)) :: (rowsL ws' (bTake (fF p m mod) l places xs).1 ++ R)) →
      Q (.bool (decide (firstV (redB (fF p m mod) l places xs) < n))) H') :
    AC Tryz.prog 119 [.ptr bb 0, .sl bv 0 n (.own 1)] H Q := by
  have ok := A.fo _ _ _ hF
  have hbb := (hH.blkOf (y := (.sl bb 0 3 (.own 1), [.ptr bg 0, rv, pv])) (by simp) rfl).1
  have nbv : bb ≠ bv := fun q => hH.off (y := (.sl bb 0 3 (.own 1), [.ptr bg 0, rv, pv])) (by simp) (b := bb) rfl _ _ _ (by rw [q])
  dsimp only at hbb
  have hrs := (hH.sl (y := (rv, ws)) (by simp)).run
  have hps := (hH.sl (y := (pv, ints (natsI places))) (by simp))
  have hpi := Sl.ints hps
  dsimp only at hrs hpi
  rw [natsI_length] at hpi
  refine at119 (by simp) ?_
  simp (disch := first | assumption | omega) only [↓RP, RQ, TY, loadT, s119, reduceIte, Nat.reduceEqDiff, Nat.reduceAdd, hbb, hrs.1]
  refine sw_loop (σ := Nat) (fun i e H' => e 18 = .int .i64 i ∧ e 17 = .int .i64 l.length ∧ e 16 = rv ∧ e 0 = .ptr bb 0 ∧ e 1 = .sl bv 0 n (.own 1) ∧ i ≤ l.length ∧
    Hp H0 H' ((.sl bv 0 n (.own 1), ints (uptoN (redStep (fF p m mod) l places) i xs)) :: (.sl bb 0 3 (.own 1), [.ptr bg 0, rv, pv]) :: (rv, ws) :: (pv, ints (natsI places)) :: (rowsL ws l ++ R))) (fun i => l.length - i) 0 ?_ ?_
  · simp (disch := first | assumption | omega) only [↓RP, RQ, TY, loadT, reduceIte, Nat.reduceEqDiff, Nat.reduceAdd, hwl]
    exact ⟨by omega, hH⟩
  rintro i e H' ⟨e18, e17, e16, e0, e1, hi, hHi⟩
  obtain ⟨u1, u2⟩ := red_ok (places := places) ok he hx i
  have hstep : uptoN (redStep (fF p m mod) l places) (i + 1) xs = redStep (fF p m mod) l places i (uptoN (redStep (fF p m mod) l places) i xs) := rfl
  generalize hU : uptoN (redStep (fF p m mod) l places) i xs = U at *
  have hbb' := (hHi.blkOf (y := (.sl bb 0 3 (.own 1), [.ptr bg 0, rv, pv])) (by simp) rfl).1
  have hbv' := (hHi.blkOf (y := (.sl bv 0 n (.own 1), ints U)) (by simp) rfl).1
  have hrs' := (hHi.sl (y := (rv, ws)) (by simp)).run
  have hpi' := Sl.ints (hHi.sl (y := (pv, ints (natsI places))) (by simp))
  dsimp only at hbb' hbv' hrs' hpi'
  rw [hwl] at hrs'
  rw [natsI_length] at hpi'
  by_cases hlt : (i : Int) < l.length
  · have hri := hHi.sl (y := (ws.getD i .junk, ints (rowAt l i))) (List.mem_cons_of_mem _ (List.mem_cons_of_mem _ (List.mem_cons_of_mem _ (List.mem_cons_of_mem _ (List.mem_append_left _ (rowsL_mem (ws := ws) (l := l) (i := i) hwl (by omega)))))))
    dsimp only at hri
    have hril := hr i (by omega)
    have hpk := hp i (by omega)
    have gp : (natsI places).getD i 0 = (places.getD i 0 : Nat) := by
      simp [natsI, List.getD_eq_getElem?_getD, show i < places.length by omega]
    by_cases hz : U.getD (places.getD i 0) 0 = 0
    · simp (disch := first | assumption | omega) only [↓RP, RQ, TY, loadT, reduceIte, Nat.reduceEqDiff, Nat.reduceAdd, e18, e17, e16, e0, e1, hlt, hbb', hbv', hrs', hpi', gp, hz]
      refine ⟨i + 1, ?_, by dsimp only; omega⟩
      simp (disch := first | assumption | omega) only [↓RP, RQ, TY, loadT, reduceIte, Nat.reduceEqDiff, Nat.reduceAdd, e18, e17, e16, e0, e1]
      refine ⟨by omega, ?_⟩
      rw [hstep, redStep, if_neg (by simpa using hz)]
      exact hHi
    · simp (disch := first | assumption | omega) only [↓RP, RQ, TY, loadT, reduceIte, Nat.reduceEqDiff, Nat.reduceAdd, e18, e17, e16, e0, e1, hlt, hbb', hbv', hrs', hpi', gp, hz, Sl.ints hri]
      have lT : (subRow (fF p m mod) U (U.getD (places.getD i 0) 0) (rowAt l i)).length = U.length := subRow_length _ _ _ _
      refine sw_loop (σ := Nat) (fun j e H2 => e 37 = .int .i64 j ∧ e 36 = .int .i64 n ∧ e 35 = ws.getD i .junk ∧ e 7 = .int .i64 (U.getD (places.getD i 0) 0) ∧ e 18 = .int .i64 i ∧ e 17 = .int .i64 l.length ∧ e 16 = rv ∧ e 0 = .ptr bb 0 ∧ e 1 = .sl bv 0 n (.own 1) ∧ j ≤ n ∧
        Hp H0 H2 ((.sl bv 0 n (.own 1), ints (mix (subRow (fF p m mod) U (U.getD (places.getD i 0) 0) (rowAt l i)) U j)) :: (.sl bb 0 3 (.own 1), [.ptr bg 0, rv, pv]) :: (rv, ws) :: (pv, ints (natsI places)) :: (rowsL ws l ++ R))) (fun j => n - j) 0 ?_ ?_
      · simp (disch := first | assumption | omega) only [↓RP, RQ, TY, loadT, reduceIte, Nat.reduceEqDiff, Nat.reduceAdd, e18, e17, e16, e0, e1, mix_zero, hril]
        exact ⟨by omega, hHi⟩
      clear hbb' hbv' hrs' hpi' hri hHi
      rintro j e H2 ⟨e37, e36, e35, e7, e18, e17, e16, e0, e1, hj, hHj⟩
      have lM := mix_length lT j
      have hbb' := (hHj.blkOf (y := (.sl bb 0 3 (.own 1), [.ptr bg 0, rv, pv])) (by simp) rfl).1
      have hbv' := (hHj.blkOf (y := (.sl bv 0 n (.own 1), ints (mix (subRow (fF p m mod) U (U.getD (places.getD i 0) 0) (rowAt l i)) U j))) (by simp) rfl).1
      have hri := hHj.sl (y := (ws.getD i .junk, ints (rowAt l i))) (List.mem_cons_of_mem _ (List.mem_cons_of_mem _ (List.mem_cons_of_mem _ (List.mem_cons_of_mem _ (List.mem_append_left _ (rowsL_mem (ws := ws) (l := l) (i := i) hwl (by omega)))))))
      dsimp only at hbb' hbv' hri
      by_cases hjt : (j : Int) < n
      · have gM : (mix (subRow (fF p m mod) U (U.getD (places.getD i 0) 0) (rowAt l i)) U j).getD j 0 = U.getD j 0 := mix_get lT (Nat.le_refl j)
        have gg := hg.ext hHj.ext
        have ey := he i j
        have ex := u2 (places.getD i 0)
        have exy := ok.mul_el ex ey
        have enx := ok.neg_el exy
        have euj := u2 j
        simp (disch := first | assumption | omega) only [↓RP, RQ, TY, loadT, reduceIte, Nat.reduceEqDiff, Nat.reduceAdd, e37, e36, e35, e7, e18, e17, e16, e0, e1, hjt, hbb', hbv', Sl.ints hri, gM]
        refine c_GMul A gg ex.1 ex.2 ey.1 ey.2 ?_
        simp (disch := first | assumption | omega) only [↓RP, RQ, TY, loadT, reduceIte, Nat.reduceEqDiff, Nat.reduceAdd, e37, e36, e35, e7, e18, e17, e16, e0, e1, hjt, hbb', hbv', Sl.ints hri, gM]
        refine c_GSub gg euj.1 euj.2 exy.1 exy.2 ⟨enx.1, enx.2⟩ ?_
        simp (disch := first | assumption | omega) only [↓RP, RQ, TY, loadT, reduceIte, Nat.reduceEqDiff, Nat.reduceAdd, e37, e36, e35, e7, e18, e17, e16, e0, e1, hjt, hbb', hbv', Sl.ints hri, gM]
        refine ⟨j + 1, ?_, by dsimp only; omega⟩
        simp (disch := first | assumption | omega) only [↓RP, RQ, TY, loadT, reduceIte, Nat.reduceEqDiff, Nat.reduceAdd, e37, e36, e35, e7, e18, e17, e16, e0, e1]
        refine ⟨by omega, ?_⟩
        rw [← mix_set lT (by omega)]
        have gT : (subRow (fF p m mod) U (U.getD (places.getD i 0) 0) (rowAt l i)).getD j 0 = fadd p m (U.getD j 0) (fneg p m (fmul p m mod (U.getD (places.getD i 0) 0) (ent l i j))) := by
          rw [subRow, tabN_getD _ (by omega)]; rfl
        rw [gT]
        exact hHj.upd (by simp [ints_length])
      · simp (disch := first | assumption | omega) only [↓RP, RQ, TY, loadT, reduceIte, Nat.reduceEqDiff, Nat.reduceAdd, e37, e36, e35, e7, e18, e17, e16, e0, e1, hjt]
        refine ⟨i + 1, ?_, by dsimp only; omega⟩
        simp (disch := first | assumption | omega) only [↓RP, RQ, TY, loadT, reduceIte, Nat.reduceEqDiff, Nat.reduceAdd, e37, e36, e35, e7, e18, e17, e16, e0, e1]
        refine ⟨by omega, ?_⟩
        rw [hstep, redStep, if_pos (by simpa using hz)]
        rw [mix_full lT (by omega)] at hHj
        exact hHj
  · have hil : i = l.length := by omega
    subst hil
    have hred : redB (fF p m mod) l places xs = U := hU
    have hUi := Sl.ints (Sl.own (c := .own 1) hbv' (show n = (ints U).length by rw [ints_length, u1]))
    simp (disch := first | assumption | omega) only [↓RP, RQ, TY, loadT, reduceIte, Nat.reduceEqDiff, Nat.reduceAdd, e18, e17, e16, e0, e1, hlt]
    refine c_IndexFunc (xs := U) (Sl.own hbv' (by rw [ints_length, u1])) (by omega) ?_
    have fle := firstV_le U
    have hB : bTake (fF p m mod) l places xs = if firstV U < U.length then (l ++ [scaleL (fF p m mod) (finv p m mod (U.getD (firstV U) 0)) U], places ++ [firstV U]) else (l, places) := by
      rw [bTake, hred]; rfl
    rw [hred] at hQ
    by_cases hk : firstV U < U.length
    rotate_left
    · rw [hB, if_neg hk] at hQ
      simp (disch := first | assumption | omega) only [↓RP, RQ, TY, loadT, reduceIte, Nat.reduceEqDiff, Nat.reduceAdd, e18, e17, e16, e0, e1, hk, Int.reduceLT, Int.reduceNeg]
      have := hQ rv pv ws H' hwl hsl hHi.tail
      rwa [decide_eq_false (by omega)] at this
    rw [hB, if_pos hk] at hQ
    have hne := firstV_ne hk
    have elk := u2 (firstV U)
    have k0 : ¬ ((firstV U : Int) < 0) := by omega
    simp (disch := first | assumption | omega) only [↓RP, RQ, TY, loadT, reduceIte, Nat.reduceEqDiff, Nat.reduceAdd, e18, e17, e16, e0, e1, hk, k0, hbb', hbv']
    have gg := hg.ext hHi.ext
    refine c_GInv A gg (show 0 < U.getD (firstV U) 0 by have := elk.1; omega) elk.2 ?_
    simp (disch := first | assumption | omega) only [↓RP, RQ, TY, loadT, reduceIte, Nat.reduceEqDiff, Nat.reduceAdd, e18, e17, e16, e0, e1, hbb', hbv']
    refine c_GScale A gg (ok.inv_el elk) (Sl.own hbv' (by rw [ints_length, u1])) (by omega) u2 fun b1 H1 hb1 hE1 hH1 => ?_
    have hN1 := hHi.new (n := U.length) hb1 hE1 hH1 (by rw [ints_length, scaleL_length])
    have hbb1 := hE1.rw hbb'
    have hs1 : (AV.sl b1 0 U.length (.own 1)).isSl = true := rfl
    simp (disch := first | assumption | omega) only [↓RP, RQ, TY, loadT, reduceIte, Nat.reduceEqDiff, Nat.reduceAdd, e18, e17, e16, e0, e1, hbb1, u_buildS1V]
    refine kNew_intro fun b2 H2 hb2 hE2 hH2 => ?_
    have hN2 := hN1.more hE2
    simp (disch := first | assumption | omega) only [↓RP, RQ, TY, loadT, reduceIte, Nat.reduceEqDiff, Nat.reduceAdd, e18, e17, e16, e0, e1]
    have hP2 := hN2.perm (List.perm_middle (l₁ := [_, _, _]))
    refine kApp_hp hP2 (Sl.own hH2 rfl) (fun u hu => by rw [List.mem_singleton.mp hu]; rfl) (by simp; omega) (by simp; omega) fun v3 H3 hN3 => ?_
    have hP3 := hN3.perm (List.perm_middle (l₁ := [_, _, _]))
    have hbb3 := (hP3.blkOf (y := (.sl bb 0 3 (.own 1), [.ptr bg 0, rv, pv])) (by simp) rfl).1
    dsimp only at hbb3
    have hv3 := (hN3.sl (y := (v3, ws ++ [.sl b1 0 U.length (.own 1)])) (by simp)).isSl
    have l3 : ([.ptr bg 0, rv, pv] : List AV).length = 3 := rfl
    simp (disch := first | assumption | omega) only [↓RP, RQ, TY, loadT, reduceIte, Nat.reduceEqDiff, Nat.reduceAdd, e18, e17, e16, e0, e1, hbb3, u_storeV, u_stGV]
    have hP4 := hP3.upd (us' := [.ptr bg 0, v3, pv]) rfl
    have hset1 : ([.ptr bg 0, rv, pv] : List AV).set 1 v3 = [.ptr bg 0, v3, pv] := rfl
    rw [hset1]
    have hbb4 := (hP4.blkOf (y := (.sl bb 0 3 (.own 1), [.ptr bg 0, v3, pv])) (by simp) rfl).1
    dsimp only at hbb4
    generalize H3.upd bb (.rw [.ptr bg 0, v3, pv]) = H4 at *
    simp (disch := first | assumption | omega) only [↓RP, RQ, TY, loadT, reduceIte, Nat.reduceEqDiff, Nat.reduceAdd, e18, e17, e16, e0, e1, hbb4]
    refine kNew_intro fun b5 H5 hb5 hE5 hH5 => ?_
    have hP5 := (hP4.more hE5).perm (List.perm_middle (l₁ := [_, _, _, _]))
    simp (disch := first | assumption | omega) only [↓RP, RQ, TY, loadT, reduceIte, Nat.reduceEqDiff, Nat.reduceAdd, e18, e17, e16, e0, e1]
    refine kApp_hp (us := ints [(firstV U : Int)]) hP5 (Sl.own hH5 rfl) ints_ones (by simp [ints_length, natsI_length]; omega) (by simp [ints_length, natsI_length]; omega) fun v6 H6 hN6 => ?_
    rw [ints_app, show natsI places ++ [(firstV U : Int)] = natsI (places ++ [firstV U]) by simp [natsI]] at hN6
    have hP6 := hN6.perm (List.perm_middle (l₁ := [_]))
    have hbb6 := (hP6.blkOf (y := (.sl bb 0 3 (.own 1), [.ptr bg 0, v3, pv])) (by simp) rfl).1
    dsimp only at hbb6
    have hv6 := (hN6.sl (y := (v6, ints (natsI (places ++ [firstV U])))) (by simp)).isSl
    have l6 : ([.ptr bg 0, v3, pv] : List AV).length = 3 := rfl
    simp (disch := first | assumption | omega) only [↓RP, RQ, TY, loadT, reduceIte, Nat.reduceEqDiff, Nat.reduceAdd, e18, e17, e16, e0, e1, hbb6, u_storeV, u_stGV]
    have hset2 : ([.ptr bg 0, v3, pv] : List AV).set 2 v6 = [.ptr bg 0, v3, v6] := rfl
    rw [hset2]
    have hP7 := hP6.upd (us' := [.ptr bg 0, v3, v6]) rfl
    refine (decide_eq_true (show firstV U < n by omega)) ▸ hQ v3 v6 (ws ++ [.sl b1 0 U.length (.own 1)]) _ (by simp [hwl]) (fun u hu => ?_) ?_
    · rcases List.mem_append.mp hu with hu | hu
      · exact hsl u hu
      · rw [List.mem_singleton.mp hu]; rfl
    · rw [rowsL_app _ _ hwl, List.append_assoc]
      have q1 := (hP7.perm (.cons _ (.swap _ _ _))).perm (List.perm_middle (l₁ := [_, _, _, _]))
      have pm : ((AV.sl b1 0 U.length (.own 1), ints (scaleL (fF p m mod) (finv p m mod (U.getD (firstV U) 0)) U)) :: (rowsL ws l ++ R)).Perm (rowsL ws l ++ ([(AV.sl b1 0 U.length (.own 1), ints (scaleL (fF p m mod) (finv p m mod (U.getD (firstV U) 0)) U))] ++ R)) := List.perm_middle.symm
      exact q1.tail.perm (.cons _ (.cons _ (.cons _ pm)))
end Go.Proofs.YtbkpebmcagdgmaaGreat.AM
/-! The program's information sets, second part: column, greedy, sets, Rank. -/
namespace Go.Proofs.YtbkpebmcagdgmaaGreat.AM
open Go Go.RowKit
set_option linter.unusedVariables false
set_option linter.unusedSimpArgs false
set_option maxRecDepth 20000
/-- a column -/
def colL (rows : List (List Int)) (i : Nat) : List Int := tabN rows.length fun k => ent rows k i
theorem c_column {p m n i : Int} {md v : AV} {mod : List Int} {us : List AV} {rows : List (List Int)} {H : AH} {Q : AV → AH → Prop} (hc : CA H p m md mod n v us rows) (hi : 0 ≤ i) (hi' : i < n)
    (hQ : ∀ b H', H b = .free → Ext H H' → H' b = .rw (ints (colL rows i.toNat)) → Q (.sl b 0 rows.length (.own 1)) H') : AC Tryz.prog 120 [codeV p m md n v, .int .i64 i] H Q := by
  have k64 : rows.length ≤ 64 := by have := hc.kn; have := hc.n64; omega
  refine at120 (by simp) ?_
  simp (disch := first | assumption | omega) only [↓RP, RQ, TY, loadT, s120, reduceIte, Nat.reduceEqDiff, Nat.reduceAdd]
  refine kNew_intro fun b1 H1 hb1 hE1 hH1 => ?_
  have hr1 := hc.rv.ext hE1
  simp (disch := first | assumption | omega) only [↓RP, RQ, TY, loadT, reduceIte, Nat.reduceEqDiff, Nat.reduceAdd, hH1, hr1.run]
  refine kNew_intro fun b H2 hb hE2 hH2 => ?_
  have hH12 := hE2.rw hH1
  have hr2 := hr1.ext hE2
  rw [ints_repl] at hH2
  have f2 := hE1.free hb
  have n1 : b1 ≠ b := fun q => by rw [← q, hH1] at hb; cases hb
  have lT : (colL rows i.toNat).length = (List.replicate rows.length (0 : Int)).length := by rw [colL, tabN_length, rep_length]
  simp (disch := first | assumption | omega) only [↓RP, RQ, TY, loadT, reduceIte, Nat.reduceEqDiff, Nat.reduceAdd, hH12, hr2.run]
  refine sw_loop (σ := Nat) (fun k e H' => e 15 = .int .i64 k ∧ e 14 = .int .i64 rows.length ∧ e 13 = v ∧ e 5 = .sl b 0 rows.length (.own 1) ∧ e 1 = .int .i64 i ∧ k ≤ rows.length ∧ Ext H H' ∧ H' b = .rw (ints (mix (colL rows i.toNat) (List.replicate rows.length 0) k))) (fun k => rows.length - k) 0 ?_ ?_
  · simp (disch := first | assumption | omega) only [↓RP, RQ, TY, loadT, reduceIte, Nat.reduceEqDiff, Nat.reduceAdd, mix_zero]
    exact ⟨by omega, hE1.trans hE2, hH2⟩
  rintro k e H' ⟨e15, e14, e13, e5, e1, hk, hE, hb'⟩
  have lM := mix_length lT k
  rw [rep_length] at lM
  have hr' := hc.rv.ext hE
  by_cases hlt : (k : Int) < rows.length
  · have hrk := hr'.row k (by omega)
    have hrl := hc.rect k (by omega)
    simp (disch := first | assumption | omega) only [↓RP, RQ, TY, loadT, reduceIte, Nat.reduceEqDiff, Nat.reduceAdd, e15, e14, e13, e5, e1, hlt, hb', hr'.run, hrk.ints]
    refine ⟨k + 1, ?_, by dsimp only; omega⟩
    simp (disch := first | assumption | omega) only [↓RP, RQ, TY, loadT, reduceIte, Nat.reduceEqDiff, Nat.reduceAdd, e15, e14, e13, e5, e1]
    refine ⟨by omega, hE.upd f2 _, ?_⟩
    rw [← mix_set lT (show k < _ by rw [rep_length]; omega), colL, tabN_getD _ (show k < rows.length by omega)]
    rfl
  · simp (disch := first | assumption | omega) only [↓RP, RQ, TY, loadT, reduceIte, Nat.reduceEqDiff, Nat.reduceAdd, e15, e14, e13, e5, e1, hlt]
    rw [mix_full lT (show _ ≤ k by rw [rep_length]; omega)] at hb'
    exact hQ b H' f2 hE hb'
/-- a round of greedy: the basis, its places, the positions taken -/
def gStep (F : FOps) (rows : List (List Int)) (order : List Int) (t : Nat) (s : List (List Int) × List Nat × List Int) : List (List Int) × List Nat × List Int :=
  ((bTake F s.1 s.2.1 (colL rows (order.getD t 0).toNat)).1, (bTake F s.1 s.2.1 (colL rows (order.getD t 0).toNat)).2,
    if firstV (redB F s.1 s.2.1 (colL rows (order.getD t 0).toNat)) < rows.length then s.2.2 ++ [order.getD t 0] else s.2.2)
def gAll (F : FOps) (rows : List (List Int)) (order : List Int) (t : Nat) : List (List Int) × List Nat × List Int := uptoN (gStep F rows order) t ([], [], [])
/-- the positions that raise the rank -/
def greedyL (F : FOps) (rows : List (List Int)) (order : List Int) : List Int := (gAll F rows order order.length).2.2
theorem colL_ok {F : FOps} {rows : List (List Int)} (he : Els F rows) (h0 : F.El 0) (i : Nat) : (colL rows i).length = rows.length ∧ ∀ j, F.El ((colL rows i).getD j 0) := by
  refine ⟨tabN_length _ _, fun j => ?_⟩
  by_cases hj : j < rows.length
  · rw [colL, tabN_getD _ hj]; exact he _ _
  · rw [getD_len _ (by rw [colL, tabN_length]; omega)]; exact h0
/-- what holds of a basis -/
structure BOk (F : FOps) (n : Nat) (l : List (List Int)) (places : List Nat) : Prop where
  rect : Rect n l
  els : Els F l
  pl : places.length = l.length
  lt : ∀ i, i < l.length → places.getD i 0 < n
theorem rowAt_app {l : List (List Int)} {r : List Int} (i : Nat) : rowAt (l ++ [r]) i = if i < l.length then rowAt l i else if i = l.length then r else [] := by
  split
  · rename_i h; simp [rowAt, List.getD_eq_getElem?_getD, List.getElem?_append_left h]
  · split
    · rename_i h; subst h; simp [rowAt, List.getD_eq_getElem?_getD]
    · rw [rowAt_ge]; simp; omega
theorem getD_app {l : List Nat} {r : Nat} (i : Nat) : (l ++ [r]).getD i 0 = if i < l.length then l.getD i 0 else if i = l.length then r else 0 := by
  split
  · rename_i h; simp [List.getD_eq_getElem?_getD, List.getElem?_append_left h]
  · split
    · rename_i h; subst h; simp [List.getD_eq_getElem?_getD]
    · rw [getD_len]; simp; omega
theorem red_len {F : FOps} (ok : F.Ok) {n : Nat} {l : List (List Int)} {places : List Nat} (h : Els F l) {v : List Int} (hv : v.length = n ∧ ∀ j, F.El (v.getD j 0)) : (redB F l places v).length = n ∧ ∀ j, F.El ((redB F l places v).getD j 0) := red_ok ok h hv l.length
theorem bTake_pos {F : FOps} {l : List (List Int)} {places : List Nat} {v : List Int} (hk : firstV (redB F l places v) < (redB F l places v).length) :
    bTake F l places v = (l ++ [scaleL F (F.inv ((redB F l places v).getD (firstV (redB F l places v)) 0)) (redB F l places v)], places ++ [firstV (redB F l places v)]) := if_pos hk
theorem bTake_neg {F : FOps} {l : List (List Int)} {places : List Nat} {v : List Int} (hk : ¬ firstV (redB F l places v) < (redB F l places v).length) : bTake F l places v = (l, places) := if_neg hk
theorem BOk.take {F : FOps} (ok : F.Ok) {n : Nat} {l : List (List Int)} {places : List Nat} (h : BOk F n l places) {v : List Int} (hv : v.length = n ∧ ∀ j, F.El (v.getD j 0)) : BOk F n (bTake F l places v).1 (bTake F l places v).2 := by
  obtain ⟨u1, u2⟩ := red_len (places := places) ok h.els hv
  by_cases hk : firstV (redB F l places v) < (redB F l places v).length
  · rw [bTake_pos hk]
    generalize redB F l places v = u at *
    refine ⟨fun i hi => ?_, fun i j => ?_, by simp [h.pl], fun i hi => ?_⟩
    · simp at hi
      rw [rowAt_app]
      split
      · rename_i q; exact h.rect i q
      · rw [if_pos (by omega), scaleL_length, u1]
    · rw [ent, rowAt_app]
      split
      · exact h.els i j
      · split
        · rw [scaleL_get ok (ok.inv_el (u2 _))]
          exact ok.mul_el (ok.inv_el (u2 _)) (u2 _)
        · exact ok.el0
    · simp at hi
      rw [getD_app, h.pl]
      split
      · rename_i q; exact h.lt i q
      · rw [if_pos (by omega)]; omega
  · rw [bTake_neg hk]; exact h
theorem gAll_succ (F : FOps) (rows : List (List Int)) (order : List Int) (t : Nat) : gAll F rows order (t + 1) = gStep F rows order t (gAll F rows order t) := rfl
theorem gAll_ok {F : FOps} (ok : F.Ok) {rows : List (List Int)} (he : Els F rows) (order : List Int) : ∀ t, BOk F rows.length (gAll F rows order t).1 (gAll F rows order t).2.1 ∧ (gAll F rows order t).2.2.length = (gAll F rows order t).1.length ∧ (gAll F rows order t).1.length ≤ t
  | 0 => ⟨⟨fun i hi => by simp [gAll, uptoN] at hi, fun i j => by rw [ent_ge _ (by simp [gAll, uptoN])]; exact ok.el0, rfl, fun i hi => by simp [gAll, uptoN] at hi⟩, rfl, Nat.le_refl _⟩
  | t + 1 => by
    obtain ⟨h1, h2, h3⟩ := gAll_ok ok he order t
    rw [gAll_succ]
    generalize gAll F rows order t = s at *
    have hv := colL_ok he ok.el0 (order.getD t 0).toNat
    have hu := (red_len (places := s.2.1) ok h1.els hv).1
    refine ⟨h1.take ok hv, ?_⟩
    simp only [gStep]
    by_cases hk : firstV (redB F s.1 s.2.1 (colL rows (order.getD t 0).toNat)) < rows.length
    · rw [bTake_pos (by rw [hu]; exact hk), if_pos hk]
      refine ⟨?_, ?_⟩
      · rw [List.length_append, List.length_append, h2]; rfl
      · rw [List.length_append, List.length_singleton]; omega
    · rw [bTake_neg (by rw [hu]; exact hk), if_neg hk]
      exact ⟨h2, Nat.le_succ_of_le h3⟩
theorem c_greedy (A : Alg) {bg : Nat} {p m n : Int} {md v ov : AV} {mod order : List Int} {us : List AV} {rows : List (List Int)} {H : AH} {Q : AV → AH → Prop} (hg : GFA H bg p m mod) (hF : FieldOk p m mod) (hc : CA H p m md mod n v us rows) (ho : Ints H ov order) (hp : Poss n order) (hl : order.length ≤ 1000)
    (hQ : ∀ w H', Ext H H' → Own H H' w (ints (greedyL (fF p m mod) rows order)) → Q w H') : AC Tryz.prog 74 [.ptr bg 0, codeV p m md n v, ov] H Q := by
  have ok := A.fo _ _ _ hF
  have k64 : rows.length ≤ 64 := by have := hc.kn; have := hc.n64; omega
  refine at74 (by simp) ?_
  simp (disch := first | assumption | omega) only [↓RP, RQ, TY, loadT, s74, reduceIte, Nat.reduceEqDiff, Nat.reduceAdd]
  refine kNew_intro fun b1 H1 hb1 hE1 hH1 => ?_
  have ho1 := ho.ext hE1
  have i0 : (AV.ptr bg 0).one = true := rfl
  have fill_b : aFill (fun i => [(0, 1), (1, 1), (2, 1)][i]?) [.nilp, .nils, .nils] [(0, .ptr bg 0)] = some [.ptr bg 0, .nils, .nils] := rfl
  simp (disch := first | assumption | omega) only [↓RP, RQ, TY, loadT, reduceIte, Nat.reduceEqDiff, Nat.reduceAdd, fill_b]
  refine kNew_intro fun bb H2 hb2 hE2 hH2 => ?_
  have hP2 : Hp H1 H2 ((.sl bb 0 3 (.own 1), [.ptr bg 0, .nils, .nils]) :: (.nils, []) :: (.nils, []) :: (rowsL [] [] ++ [(.nils, [])])) := by
    have q := (((Hp.nil (Ext.refl H1)).nils.nils.nils).new hb2 hE2 hH2 rfl)
    exact q
  have ho2 := ho1.ext hE2
  simp (disch := first | assumption | omega) only [↓RP, RQ, TY, loadT, reduceIte, Nat.reduceEqDiff, Nat.reduceAdd, ho2.ints]
  refine sw_loop (σ := Nat × AV × AV × List AV × AV) (fun s e H' => e 16 = .int .i64 s.1 ∧ e 15 = .int .i64 order.length ∧ e 14 = ov ∧ e 8 = s.2.2.2.2 ∧ e 7 = .ptr bb 0 ∧ e 4 = .ptr b1 0 ∧ s.1 ≤ order.length ∧ s.2.2.2.1.length = (gAll (fF p m mod) rows order s.1).1.length ∧ (∀ u, u ∈ s.2.2.2.1 → u.isSl = true) ∧
    Hp H1 H' ((.sl bb 0 3 (.own 1), [.ptr bg 0, s.2.1, s.2.2.1]) :: (s.2.1, s.2.2.2.1) :: (s.2.2.1, ints (natsI (gAll (fF p m mod) rows order s.1).2.1)) :: (rowsL s.2.2.2.1 (gAll (fF p m mod) rows order s.1).1 ++ [(s.2.2.2.2, ints (gAll (fF p m mod) rows order s.1).2.2)]))) (fun s => order.length - s.1) (0, .nils, .nils, [], .nils) ?_ ?_
  · simp (disch := first | assumption | omega) only [↓RP, RQ, TY, loadT, reduceIte, Nat.reduceEqDiff, Nat.reduceAdd]
    exact ⟨by omega, rfl, fun u hu => by simp at hu, hP2⟩
  rintro ⟨t, rv, pv, ws, ou⟩ e H' ⟨e16, e15, e14, e8, e7, e4, ht, hwl, hsl, hP⟩
  dsimp only at *
  obtain ⟨g1, g2, g3⟩ := gAll_ok ok hc.els order t
  have gs := gAll_succ (fF p m mod) rows order t
  generalize hG : gAll (fF p m mod) rows order t = G at *
  obtain ⟨l, pl, out⟩ := G
  dsimp only at *
  have hE := hE1.trans hP.ext
  by_cases hlt : (t : Int) < order.length
  rotate_left
  · simp (disch := first | assumption | omega) only [↓RP, RQ, TY, loadT, reduceIte, Nat.reduceEqDiff, Nat.reduceAdd, e16, e15, e14, e8, e7, e4, hlt]
    have htl : t = order.length := by omega
    have := (hP.own (ou, ints out) (by simp)).old hE1
    refine hQ ou H' hE ?_
    rw [greedyL, ← htl, hG]
    exact this
  have hpt := hp t (by omega)
  have hb1' := hP.ext.rw hH1
  have hE' := hE
  simp (disch := first | assumption | omega) only [↓RP, RQ, TY, loadT, reduceIte, Nat.reduceEqDiff, Nat.reduceAdd, e16, e15, e14, e8, e7, e4, hlt, (ho.ext hE).ints, hb1']
  refine c_column (hc.ext hE) hpt.1 hpt.2 fun b3 H3 hb3 hE3 hH3 => ?_
  have hcol := colL_ok hc.els ok.el0 (order.getD t 0).toNat
  have hN := hP.new (n := rows.length) hb3 hE3 hH3 (by rw [ints_length, hcol.1])
  simp (disch := first | assumption | omega) only [↓RP, RQ, TY, loadT, reduceIte, Nat.reduceEqDiff, Nat.reduceAdd, e16, e15, e14, e8, e7, e4]
  refine c_badd A (hg.ext hE1) hF g1.rect g1.els hcol g1.lt g1.pl hwl (by omega) (by omega) hsl hN fun rv' pv' ws' H4 hwl' hsl' hP4 => ?_
  by_cases hk : firstV (redB (fF p m mod) l pl (colL rows (order.getD t 0).toNat)) < rows.length
  · have gs2 : gAll (fF p m mod) rows order (t + 1) = ((bTake (fF p m mod) l pl (colL rows (order.getD t 0).toNat)).1, (bTake (fF p m mod) l pl (colL rows (order.getD t 0).toNat)).2, out ++ [order.getD t 0]) := by
      rw [gs]
      show (_, _, _) = (_, _, _)
      rw [if_pos hk]
    simp (disch := first | assumption | omega) only [↓RP, RQ, TY, loadT, reduceIte, Nat.reduceEqDiff, Nat.reduceAdd, e16, e15, e14, e8, e7, e4, eq_true hk]
    refine kNew_intro fun b5 H5 hb5 hE5 hH5 => ?_
    have hout : out.length ≤ 1000 := by omega
    have hP5 := (hP4.more hE5).perm (List.perm_middle (l₁ := [_, _, _] ++ rowsL ws' _) (l₂ := []))
    simp (disch := first | assumption | omega) only [↓RP, RQ, TY, loadT, reduceIte, Nat.reduceEqDiff, Nat.reduceAdd, e16, e15, e14, e8, e7, e4]
    refine kApp_hp (us := ints [order.getD t 0]) hP5 (Sl.own hH5 rfl) ints_ones (by simp [ints_length]; omega) (by simp [ints_length]; omega) fun v6 H6 hN6 => ?_
    rw [ints_app] at hN6
    have hP6 := hN6.perm (List.perm_middle (l₁ := [_, _, _] ++ rowsL ws' _) (l₂ := [])).symm
    simp (disch := first | assumption | omega) only [↓RP, RQ, TY, loadT, reduceIte, Nat.reduceEqDiff, Nat.reduceAdd, e16, e15, e14, e8, e7, e4]
    refine ⟨(t + 1, rv', pv', ws', v6), ?_, by dsimp only; omega⟩
    simp (disch := first | assumption | omega) only [↓RP, RQ, TY, loadT, reduceIte, Nat.reduceEqDiff, Nat.reduceAdd, e16, e15, e14, e8, e7, e4]
    rw [gs2]
    exact ⟨by omega, hwl', hsl', hP6⟩
  · have gs2 : gAll (fF p m mod) rows order (t + 1) = ((bTake (fF p m mod) l pl (colL rows (order.getD t 0).toNat)).1, (bTake (fF p m mod) l pl (colL rows (order.getD t 0).toNat)).2, out) := by
      rw [gs]
      show (_, _, _) = (_, _, _)
      rw [if_neg hk]
    simp (disch := first | assumption | omega) only [↓RP, RQ, TY, loadT, reduceIte, Nat.reduceEqDiff, Nat.reduceAdd, e16, e15, e14, e8, e7, e4, eq_false hk]
    refine ⟨(t + 1, rv', pv', ws', ou), ?_, by dsimp only; omega⟩
    simp (disch := first | assumption | omega) only [↓RP, RQ, TY, loadT, reduceIte, Nat.reduceEqDiff, Nat.reduceAdd, e16, e15, e14, e8, e7, e4]
    rw [gs2]
    exact ⟨by omega, hwl', hsl', hP4⟩
end Go.Proofs.YtbkpebmcagdgmaaGreat.AM
/-! The program's information sets, third part: sets, open, Rank. -/
namespace Go.Proofs.YtbkpebmcagdgmaaGreat.AM
open Go Go.RowKit
set_option linter.unusedVariables false
set_option linter.unusedSimpArgs false
set_option maxRecDepth 20000
open Classical in
theorem c_sets {p m n : Int} {md v sv : AV} {b : Nat} {set : List Int} {H : AH} {Q : AV → AH → Prop} (hb : H b = .rw [sv]) (hs : Ints H sv set) (hl : set.length ≤ 9223372036854775807)
    (hQ : ∀ H', Ext H H' → Q (.int .i64 (if Subset n set then 0 else 6)) H') : AC Tryz.prog 73 [codeV p m md n v, .sl b 0 1 (.own 1)] H Q := by
  refine at73 (by simp) ?_
  simp (disch := first | assumption | omega) only [↓RP, RQ, TY, loadT, s73, reduceIte, Nat.reduceEqDiff, Nat.reduceAdd]
  refine kNew_intro fun b1 H1 hb1 hE1 hH1 => ?_
  have hb' := hE1.rw hb
  have hs1 := hs.ext hE1
  simp (disch := first | assumption | omega) only [↓RP, RQ, TY, loadT, reduceIte, Nat.reduceEqDiff, Nat.reduceAdd]
  refine sw_loop (σ := Nat) (fun i e H' => e 11 = .int .i64 i ∧ e 10 = .int .i64 1 ∧ e 9 = .sl b 0 1 (.own 1) ∧ e 2 = .ptr b1 0 ∧ i ≤ 1 ∧ H' = H1 ∧ (0 < i → Subset n set)) (fun i => 1 - i) 0 ?_ ?_
  · simp (disch := first | assumption | omega) only [↓RP, RQ, TY, loadT, reduceIte, Nat.reduceEqDiff, Nat.reduceAdd]
    exact ⟨by simp, by omega, by omega⟩
  rintro i e H' ⟨e11, e10, e9, e2, hi, rfl, h0⟩
  by_cases hi1 : i = 1
  · subst hi1
    have e11' : e 11 = .int .i64 1 := e11
    simp (disch := first | assumption | omega) only [↓RP, RQ, TY, loadT, reduceIte, Nat.reduceEqDiff, Nat.reduceAdd, e11', e10, e9, e2, Int.lt_irrefl]
    have := hQ H' hE1
    rwa [if_pos (h0 (by omega))] at this
  have i0 : i = 0 := by omega
  subst i0
  have e11' : e 11 = .int .i64 0 := e11
  have z0 : Int.toNat 0 = 0 := rfl
  have l01 : ((0 : Int) < ((1 : Nat) : Int)) := by decide
  simp (disch := first | assumption | omega) only [↓RP, RQ, TY, loadT, reduceIte, Nat.reduceEqDiff, Nat.reduceAdd, e11', e10, e9, e2, eq_true (show (0 : Int) < 1 by decide), u_idx (Int.le_refl 0) l01, z0, Nat.zero_mul, hb', hs1.ints]
  refine sw_loop (σ := Nat) (fun k e H2 => e 17 = .int .i64 k ∧ e 16 = .int .i64 set.length ∧ e 15 = sv ∧ e 6 = sv ∧ e 11 = .int .i64 0 ∧ e 10 = .int .i64 1 ∧ e 9 = .sl b 0 1 (.own 1) ∧ e 2 = .ptr b1 0 ∧ k ≤ set.length ∧ H2 = H' ∧ ∀ j, j < k → 0 ≤ set.getD j 0 ∧ set.getD j 0 < n ∧ (0 < j → set.getD (j - 1) 0 < set.getD j 0)) (fun k => set.length - k) 0 ?_ ?_
  · simp (disch := first | assumption | omega) only [↓RP, RQ, TY, loadT, reduceIte, Nat.reduceEqDiff, Nat.reduceAdd, e11', e10, e9, e2]
    exact ⟨by omega, fun j hj => by omega⟩
  clear e11' e11 e10 e9 e2
  rintro k e H2 ⟨e17, e16, e15, e6, e11, e10, e9, e2, hk, rfl, hj⟩
  have no : ¬ Subset n set → Q (.int .i64 6) H2 := fun h => by
    have := hQ H2 hE1
    rwa [if_neg h] at this
  by_cases hlt : (k : Int) < set.length
  · by_cases c1 : set.getD k 0 < 0
    · simp (disch := first | assumption | omega) only [↓RP, RQ, TY, loadT, reduceIte, Nat.reduceEqDiff, Nat.reduceAdd, e17, e16, e15, e6, e11, e10, e9, e2, hlt, hs1.ints, hH1, c1]
      exact no (fun q => absurd (q k (by omega)).1 (by omega))
    by_cases c2 : n ≤ set.getD k 0
    · simp (disch := first | assumption | omega) only [↓RP, RQ, TY, loadT, reduceIte, Nat.reduceEqDiff, Nat.reduceAdd, e17, e16, e15, e6, e11, e10, e9, e2, hlt, hs1.ints, hH1, c1, c2]
      exact no (fun q => absurd (q k (by omega)).2.1 (by omega))
    by_cases c3 : (0 : Int) < k
    · have ei : ((k : Int) - 1).toNat = k - 1 := by omega
      by_cases c4 : set.getD k 0 ≤ set.getD (k - 1) 0
      · simp (disch := first | assumption | omega) only [↓RP, RQ, TY, loadT, reduceIte, Nat.reduceEqDiff, Nat.reduceAdd, e17, e16, e15, e6, e11, e10, e9, e2, hlt, hs1.ints, hH1, c1, c2, c3, ei, c4]
        exact no (fun q => absurd ((q k (by omega)).2.2 (by omega)) (by omega))
      · simp (disch := first | assumption | omega) only [↓RP, RQ, TY, loadT, reduceIte, Nat.reduceEqDiff, Nat.reduceAdd, e17, e16, e15, e6, e11, e10, e9, e2, hlt, hs1.ints, hH1, c1, c2, c3, ei, c4]
        refine ⟨k + 1, ?_, by dsimp only; omega⟩
        simp (disch := first | assumption | omega) only [↓RP, RQ, TY, loadT, reduceIte, Nat.reduceEqDiff, Nat.reduceAdd, e17, e16, e15, e6, e11, e10, e9, e2]
        refine ⟨by omega, fun j h => ?_⟩
        by_cases hjk : j = k
        · rw [hjk]; exact ⟨by omega, by omega, fun _ => by omega⟩
        · exact hj j (by omega)
    · simp (disch := first | assumption | omega) only [↓RP, RQ, TY, loadT, reduceIte, Nat.reduceEqDiff, Nat.reduceAdd, e17, e16, e15, e6, e11, e10, e9, e2, hlt, hs1.ints, hH1, c1, c2, c3]
      refine ⟨k + 1, ?_, by dsimp only; omega⟩
      simp (disch := first | assumption | omega) only [↓RP, RQ, TY, loadT, reduceIte, Nat.reduceEqDiff, Nat.reduceAdd, e17, e16, e15, e6, e11, e10, e9, e2]
      refine ⟨by omega, fun j h => ?_⟩
      by_cases hjk : j = k
      · rw [hjk]; exact ⟨by omega, by omega, fun _ => by omega⟩
      · exact hj j (by omega)
  · have hS : Subset n set := fun j hj' => hj j (by omega)
    simp (disch := first | assumption | omega) only [↓RP, RQ, TY, loadT, reduceIte, Nat.reduceEqDiff, Nat.reduceAdd, e17, e16, e15, e6, e11, e10, e9, e2, hlt]
    refine ⟨1, ?_, by dsimp only; omega⟩
    simp (disch := first | assumption | omega) only [↓RP, RQ, TY, loadT, reduceIte, Nat.reduceEqDiff, Nat.reduceAdd, e17, e16, e15, e6, e11, e10, e9, e2]
    exact ⟨by omega, fun _ => hS⟩
theorem c_iopen (A : Alg) {p m n : Int} {md v : AV} {mod : List Int} {us : List AV} {rows : List (List Int)} {H : AH} {Q : AV → AH → Prop} (hm : Ints H md mod) (hlm : mod.length ≤ 9223372036854775807) (hv : Rows H v us rows) (hl : rows.length ≤ 9223372036854775807) (hlr : ∀ i, i < rows.length → (rowAt rows i).length ≤ 9223372036854775807)
    (hQ1 : ∀ b H', Ext H H' → codeErr p m mod n rows = 0 → GFA H' b p m mod → Q (.tup [.ptr b 0, .int .i64 0]) H') (hQ0 : ∀ H', Ext H H' → codeErr p m mod n rows ≠ 0 → Q (.tup [.nilp, .int .i64 (codeErr p m mod n rows)]) H') :
    AC Tryz.prog 72 [codeV p m md n v] H Q := by
  refine at72 (by simp) ?_
  simp (disch := first | assumption | omega) only [↓RP, RQ, TY, loadT, s72, reduceIte, Nat.reduceEqDiff, Nat.reduceAdd]
  refine kNew_intro fun b H1 hb hE1 hH1 => ?_
  simp (disch := first | assumption | omega) only [↓RP, RQ, TY, loadT, reduceIte, Nat.reduceEqDiff, Nat.reduceAdd, hH1]
  refine c_cCheck A (hm.ext hE1) hlm (hv.ext hE1) hl hlr fun H2 hE2 => ?_
  have hE12 := hE1.trans hE2
  by_cases h0 : codeErr p m mod n rows = 0
  · obtain ⟨h1, -⟩ := code_ok A.fo h0
    simp (disch := first | assumption | omega) only [↓RP, RQ, TY, loadT, reduceIte, Nat.reduceEqDiff, Nat.reduceAdd, eq_true h0, hE2.rw hH1]
    refine c_New A.gi (hm.ext hE12) hlm (fun bg H7 hE7 hF hg => ?_) (fun H7 hE7 hF => absurd h1 hF)
    simp (disch := first | assumption | omega) only [↓RP, RQ, TY, loadT, reduceIte, Nat.reduceEqDiff, Nat.reduceAdd]
    exact hQ1 bg H7 (hE12.trans hE7) h0 hg
  · simp (disch := first | assumption | omega) only [↓RP, RQ, TY, loadT, reduceIte, Nat.reduceEqDiff, Nat.reduceAdd, eq_false h0]
    exact hQ0 H2 hE12 h0
open Classical in
/-- the error of Rank -/
noncomputable def rkErr (p m : Int) (mod : List Int) (n : Int) (rows : List (List Int)) (set : List Int) : Int := if codeErr p m mod n rows ≠ 0 then codeErr p m mod n rows else if Subset n set then 0 else 6
open Classical in
noncomputable def rkVal (p m : Int) (mod : List Int) (n : Int) (rows : List (List Int)) (set : List Int) : Int := if rkErr p m mod n rows set = 0 then ((greedyL (fF p m mod) rows set).length : Int) else 0
theorem c_Rank (A : Alg) {p m n : Int} {md v sv : AV} {mod set : List Int} {us : List AV} {rows : List (List Int)} {H : AH} {Q : AV → AH → Prop} (hm : Ints H md mod) (hlm : mod.length ≤ 9223372036854775807) (hv : Rows H v us rows) (hl : rows.length ≤ 9223372036854775807) (hlr : ∀ i, i < rows.length → (rowAt rows i).length ≤ 9223372036854775807) (hs : Ints H sv set) (hls : set.length ≤ 9223372036854775807)
    (hQ : ∀ H', Ext H H' → Q (.tup [.int .i64 (rkVal p m mod n rows set), .int .i64 (rkErr p m mod n rows set)]) H') : AC Tryz.prog 26 [codeV p m md n v, sv] H Q := by
  refine at26 (by simp) ?_
  simp (disch := first | assumption | omega) only [↓RP, RQ, TY, loadT, s26, reduceIte, Nat.reduceEqDiff, Nat.reduceAdd]
  refine kNew_intro fun b H1 hb hE1 hH1 => ?_
  simp (disch := first | assumption | omega) only [↓RP, RQ, TY, loadT, reduceIte, Nat.reduceEqDiff, Nat.reduceAdd, hH1]
  refine c_iopen A (hm.ext hE1) hlm (hv.ext hE1) hl hlr (fun bg H2 hE2 h0 hg => ?_) (fun H2 hE2 h0 => ?_)
  rotate_left
  · simp (disch := first | assumption | omega) only [↓RP, RQ, TY, loadT, reduceIte, Nat.reduceEqDiff, Nat.reduceAdd, eq_false h0]
    have := hQ H2 (hE1.trans hE2)
    have e1 : rkErr p m mod n rows set = codeErr p m mod n rows := by rw [rkErr, if_pos h0]
    rwa [rkVal, if_neg (by rw [e1]; exact h0), e1] at this
  have hE12 := hE1.trans hE2
  have h12 := hE2.rw hH1
  obtain ⟨hF, -⟩ := code_ok A.fo h0
  have hsl := hs.isSl
  simp (disch := first | assumption | omega) only [↓RP, RQ, TY, loadT, reduceIte, Nat.reduceEqDiff, Nat.reduceAdd, h12, u_buildS1V]
  refine kNew_intro fun b3 H3 hb3 hE3 hH3 => ?_
  have h13 := hE3.rw h12
  simp (disch := first | assumption | omega) only [↓RP, RQ, TY, loadT, reduceIte, Nat.reduceEqDiff, Nat.reduceAdd]
  refine c_sets hH3 ((hs.ext hE12).ext hE3) hls fun H4 hE4 => ?_
  have h14 := hE4.rw h13
  have hE14 := (hE12.trans hE3).trans hE4
  by_cases hS : Subset n set
  rotate_left
  · simp (disch := first | assumption | omega) only [↓RP, RQ, TY, loadT, reduceIte, Nat.reduceEqDiff, Nat.reduceAdd, eq_false hS, Int.reduceEq, Int.reduceNe]
    have := hQ H4 hE14
    have e1 : rkErr p m mod n rows set = 6 := by rw [rkErr, if_neg (by simpa using h0), if_neg hS]
    rwa [rkVal, if_neg (by rw [e1]; decide), e1] at this
  have ca := A.fo.ca h0 (hm.ext hE14) (hv.ext hE14)
  have n1 := ca.n1
  have n64 := ca.n64
  have hsn := hS.length (by omega)
  simp (disch := first | assumption | omega) only [↓RP, RQ, TY, loadT, reduceIte, Nat.reduceEqDiff, Nat.reduceAdd, eq_true hS, Int.reduceEq, Int.reduceNe, h14]
  refine c_greedy A ((hg.ext hE3).ext hE4) hF ca (hs.ext hE14) hS.poss (by omega) fun w H5 hE5 ho5 => ?_
  simp (disch := first | assumption | omega) only [↓RP, RQ, TY, loadT, reduceIte, Nat.reduceEqDiff, Nat.reduceAdd, ho5.sl.ints]
  have := hQ H5 (hE14.trans hE5)
  have e1 : rkErr p m mod n rows set = 0 := by rw [rkErr, if_neg (by simpa using h0), if_pos hS]
  rwa [rkVal, if_pos e1, e1] at this
end Go.Proofs.YtbkpebmcagdgmaaGreat.AM
/-! The program's orderings, first part: rank, dimension, Dimension. -/
namespace Go.Proofs.YtbkpebmcagdgmaaGreat.AM
open Go Go.RowKit
set_option linter.unusedVariables false
set_option linter.unusedSimpArgs false
set_option maxRecDepth 20000
/-- the positions below n in a mask -/
def maskL (n : Nat) (s : Nat → Bool) : List Int := natsI ((List.range n).filter s)
theorem maskL_succ (n : Nat) (s : Nat → Bool) : maskL (n + 1) s = maskL n s ++ if s n = true then [(n : Int)] else [] := by
  simp only [maskL, natsI, List.range_succ, List.filter_append, List.filter_cons, List.filter_nil, List.map_append]
  cases s n <;> rfl
theorem maskL_length (n : Nat) (s : Nat → Bool) : (maskL n s).length ≤ n := by
  have := List.length_filter_le s (List.range n)
  simpa [maskL, natsI_length] using this
theorem getD_appI {l : List Int} {r : Int} (i : Nat) : (l ++ [r]).getD i 0 = if i < l.length then l.getD i 0 else if i = l.length then r else 0 := by
  split
  · rename_i h; simp [List.getD_eq_getElem?_getD, List.getElem?_append_left h]
  · split
    · rename_i h; subst h; simp [List.getD_eq_getElem?_getD]
    · rw [getD_len]; simp; omega
theorem maskL_subset (s : Nat → Bool) : ∀ n : Nat, Subset n (maskL n s)
  | 0 => fun i hi => by simp [maskL, natsI] at hi
  | n + 1 => by
    have ih := maskL_subset s n
    rw [maskL_succ]
    split
    · intro i hi
      rw [List.length_append, List.length_singleton] at hi
      rw [getD_appI, getD_appI]
      by_cases h : i < (maskL n s).length
      · rw [if_pos h, if_pos (show i - 1 < _ by omega)]
        have := ih i h
        exact ⟨this.1, by omega, this.2.2⟩
      · rw [if_neg h, if_pos (by omega)]
        refine ⟨by omega, by omega, fun h0 => ?_⟩
        rw [if_pos (by omega)]
        exact (ih (i - 1) (by omega)).2.1
    · rw [List.append_nil]
      intro i hi
      have := ih i hi
      exact ⟨this.1, by omega, this.2.2⟩
theorem ofInt_nat {a : Nat} (h : a < 18446744073709551616) : (BitVec.ofInt IntKind.u64.bits (a : Int)).toNat = a := by
  simp only [IntKind.bits, BitVec.toNat_ofInt]
  omega
theorem bit_and {k i : Nat} (hk : k < 18446744073709551616) (hi : i < 64) : IntKind.u64.wrap ((BitVec.ofInt IntKind.u64.bits ((k : Int).fdiv (2 ^ min i IntKind.u64.bits)) &&& BitVec.ofInt IntKind.u64.bits 1).toNat : Int) = if k.testBit i = true then 1 else 0 := by
  have e0 : min i IntKind.u64.bits = i := Nat.min_eq_left (by simp only [IntKind.bits]; omega)
  have e1 : (k : Int).fdiv (2 ^ i) = ((k / 2 ^ i : Nat) : Int) := by
    rw [Int.fdiv_eq_ediv_of_nonneg _ (Int.pow_nonneg (by omega))]
    simp
  have h1 : k / 2 ^ i < 18446744073709551616 := Nat.lt_of_le_of_lt (Nat.div_le_self _ _) hk
  have e2 : (BitVec.ofInt IntKind.u64.bits (1 : Int)).toNat = 1 := ofInt_nat (a := 1) (by omega)
  rw [e0, e1, BitVec.toNat_and, ofInt_nat h1, e2, Nat.and_one_is_mod, Nat.testBit_eq_decide_div_mod_eq]
  rw [u_wrapU (by omega)]
  simp only [decide_eq_true_eq]
  split <;> omega
theorem bit_or {k x : Nat} (hk : k < 18446744073709551616) (hx : x < 64) : IntKind.u64.wrap ((BitVec.ofInt IntKind.u64.bits (k : Int) ||| BitVec.ofInt IntKind.u64.bits (IntKind.u64.wrap (1 * 2 ^ min x IntKind.u64.bits))).toNat : Int) = ((k ||| 2 ^ x : Nat) : Int) ∧ k ||| 2 ^ x < 18446744073709551616 := by
  have e0 : min x IntKind.u64.bits = x := Nat.min_eq_left (by simp only [IntKind.bits]; omega)
  have hp : 2 ^ x < 2 ^ 64 := Nat.pow_lt_pow_right (by omega) hx
  have e1 : (1 : Int) * 2 ^ x = ((2 ^ x : Nat) : Int) := by simp
  have ho : k ||| 2 ^ x < 2 ^ 64 := Nat.or_lt_two_pow (by omega) hp
  refine ⟨?_, by omega⟩
  rw [e0, e1]
  generalize 2 ^ x = q at *
  rw [u_wrapU (x := (q : Int)) (by omega), BitVec.toNat_or, ofInt_nat hk, ofInt_nat (by omega), u_wrapU (by omega)]
theorem bit_not {k : Nat} (hk : k < 18446744073709551616) : IntKind.u64.wrap ((BitVec.ofInt IntKind.u64.bits (if IntKind.u64.signed = true then -1 else IntKind.u64.max) ^^^ BitVec.ofInt IntKind.u64.bits (k : Int)).toNat : Int) = ((2 ^ 64 - (k + 1) : Nat) : Int) := by
  have e1 : (BitVec.ofInt IntKind.u64.bits (if IntKind.u64.signed = true then -1 else IntKind.u64.max)).toNat = 2 ^ 64 - 1 := by decide
  rw [BitVec.toNat_xor, e1, ofInt_nat hk]
  have e2 : (2 ^ 64 - 1) ^^^ k = 2 ^ 64 - (k + 1) := by
    apply Nat.eq_of_testBit_eq
    intro i
    rw [Nat.testBit_xor, Nat.testBit_two_pow_sub_one, Nat.testBit_two_pow_sub_succ (by omega)]
    by_cases hi : i < 64
    · simp [hi]
    · have : k.testBit i = false := Nat.testBit_lt_two_pow (Nat.lt_of_lt_of_le (show k < 2 ^ 64 by omega) (Nat.pow_le_pow_right (by omega) (by omega)))
      simp [hi, this]
  rw [e2]
  exact u_wrapU (by omega)
theorem c_orank (A : Alg) {p m n : Int} {md v : AV} {mod : List Int} {us : List AV} {rows : List (List Int)} {k : Nat} {H : AH} {Q : AV → AH → Prop} (hm : Ints H md mod) (hlm : mod.length ≤ 9223372036854775807) (hv : Rows H v us rows) (h0 : codeErr p m mod n rows = 0) (hk : k < 18446744073709551616)
    (hQ : ∀ H', Ext H H' → Q (.int .i64 ((greedyL (fF p m mod) rows (maskL n.toNat k.testBit)).length : Nat)) H') : AC Tryz.prog 145 [codeV p m md n v, .int .u64 k] H Q := by
  have ca := A.fo.ca h0 hm hv
  have n1 := ca.n1
  have n64 := ca.n64
  have kn := ca.kn
  refine at145 (by simp) ?_
  simp (disch := first | assumption | omega) only [↓RP, RQ, TY, loadT, s145, reduceIte, Nat.reduceEqDiff, Nat.reduceAdd]
  refine kNew_intro fun b H1 hb hE1 hH1 => ?_
  simp (disch := first | assumption | omega) only [↓RP, RQ, TY, loadT, reduceIte, Nat.reduceEqDiff, Nat.reduceAdd, hH1]
  refine sw_loop (σ := Nat × AV) (fun s e H' => e 11 = .int .i64 s.1 ∧ e 10 = .int .i64 n ∧ e 5 = s.2 ∧ e 1 = .int .u64 k ∧ e 2 = .ptr b 0 ∧ s.1 ≤ n.toNat ∧ Hp H1 H' [(s.2, ints (maskL s.1 k.testBit))]) (fun s => n.toNat - s.1) (0, .nils) ?_ ?_
  · simp (disch := first | assumption | omega) only [↓RP, RQ, TY, loadT, reduceIte, Nat.reduceEqDiff, Nat.reduceAdd]
    exact ⟨by omega, (Hp.nil (Ext.refl H1)).nils⟩
  rintro ⟨i, w⟩ e H' ⟨e11, e10, e5, e1, e2, hi, hP⟩
  dsimp only at *
  by_cases hlt : (i : Int) < n
  · simp (disch := first | assumption | omega) only [↓RP, RQ, TY, loadT, reduceIte, Nat.reduceEqDiff, Nat.reduceAdd, e11, e10, e5, e1, e2, hlt]
    rw [bit_and hk (by omega)]
    have ms := maskL_succ i k.testBit
    have ml := maskL_length i k.testBit
    cases hb2 : k.testBit i
    · rw [hb2] at ms
      simp (disch := first | assumption | omega) only [↓RP, RQ, TY, loadT, reduceIte, Nat.reduceEqDiff, Nat.reduceAdd, e11, e10, e5, e1, e2, Bool.false_eq_true, Int.reduceEq]
      refine ⟨(i + 1, w), ?_, by dsimp only; omega⟩
      simp (disch := first | assumption | omega) only [↓RP, RQ, TY, loadT, reduceIte, Nat.reduceEqDiff, Nat.reduceAdd, e11, e10, e5, e1, e2]
      refine ⟨by omega, ?_⟩
      rw [ms]
      simpa using hP
    · rw [hb2] at ms
      simp (disch := first | assumption | omega) only [↓RP, RQ, TY, loadT, reduceIte, Nat.reduceEqDiff, Nat.reduceAdd, e11, e10, e5, e1, e2, Int.reduceEq]
      refine kNew_intro fun b2 H2 hb2 hE2 hH2 => ?_
      simp (disch := first | assumption | omega) only [↓RP, RQ, TY, loadT, reduceIte, Nat.reduceEqDiff, Nat.reduceAdd, e11, e10, e5, e1, e2]
      refine kApp_hp (us := ints [(i : Int)]) (hP.more hE2) (Sl.own hH2 rfl) ints_ones (by simp [ints_length]; omega) (by simp [ints_length]; omega) fun v3 H3 hP3 => ?_
      rw [ints_app] at hP3
      simp (disch := first | assumption | omega) only [↓RP, RQ, TY, loadT, reduceIte, Nat.reduceEqDiff, Nat.reduceAdd, e11, e10, e5, e1, e2]
      refine ⟨(i + 1, v3), ?_, by dsimp only; omega⟩
      simp (disch := first | assumption | omega) only [↓RP, RQ, TY, loadT, reduceIte, Nat.reduceEqDiff, Nat.reduceAdd, e11, e10, e5, e1, e2]
      refine ⟨by omega, ?_⟩
      rw [ms]
      exact hP3
  · have hin : i = n.toNat := by omega
    rw [hin] at hP
    have ml := maskL_length n.toNat k.testBit
    have hE := hE1.trans hP.ext
    have hr' := hv.ext hE
    simp (disch := first | assumption | omega) only [↓RP, RQ, TY, loadT, reduceIte, Nat.reduceEqDiff, Nat.reduceAdd, e11, e10, e5, e1, e2, hlt, hP.ext.rw hH1]
    refine c_Rank A (hm.ext hE) hlm (hv.ext hE) (by omega) (fun j hj => by rw [ca.rect j hj]; omega) hP.head.sl (by omega) fun H4 hE4 => ?_
    simp (disch := first | assumption | omega) only [↓RP, RQ, TY, loadT, reduceIte, Nat.reduceEqDiff, Nat.reduceAdd]
    have := hQ H4 (hE.trans hE4)
    have hS : Subset n (maskL n.toNat k.testBit) := by
      have := maskL_subset k.testBit n.toNat
      rwa [show ((n.toNat : Nat) : Int) = n by omega] at this
    have e1 : rkErr p m mod n rows (maskL n.toNat k.testBit) = 0 := by rw [rkErr, if_neg (by simpa using h0), if_pos hS]
    rwa [rkVal, if_pos e1]
/-- the rank of a set of positions, as the program counts it -/
noncomputable def rankP (p m : Int) (mod : List Int) (n : Int) (rows : List (List Int)) (s : Nat → Bool) : Nat := (greedyL (fF p m mod) rows (maskL n.toNat s)).length
theorem greedyL_le {F : FOps} (ok : F.Ok) {rows : List (List Int)} (he : Els F rows) (order : List Int) : (greedyL F rows order).length ≤ order.length := by
  obtain ⟨h1, h2, h3⟩ := gAll_ok ok he order order.length
  rw [greedyL]; omega
theorem maskL_congr {n : Nat} {s t : Nat → Bool} (h : ∀ i, i < n → s i = t i) : maskL n s = maskL n t := by
  rw [maskL, maskL, List.filter_congr fun i hi => h i (by simpa using hi)]
theorem c_odim (A : Alg) {p m n : Int} {md v : AV} {mod : List Int} {us : List AV} {rows : List (List Int)} {k : Nat} {H : AH} {Q : AV → AH → Prop} (hm : Ints H md mod) (hlm : mod.length ≤ 9223372036854775807) (hv : Rows H v us rows) (h0 : codeErr p m mod n rows = 0) (hk : k < 18446744073709551616)
    (hQ : ∀ H', Ext H H' → Q (.int .i64 ((rankP p m mod n rows k.testBit : Int) + rankP p m mod n rows (fun i => !k.testBit i) - rows.length)) H') : AC Tryz.prog 103 [codeV p m md n v, .int .u64 k] H Q := by
  have ca := A.fo.ca h0 hm hv
  have n1 := ca.n1
  have n64 := ca.n64
  have kn := ca.kn
  refine at103 (by simp) ?_
  simp (disch := first | assumption | omega) only [↓RP, RQ, TY, loadT, s103, reduceIte, Nat.reduceEqDiff, Nat.reduceAdd]
  refine kNew_intro fun b H1 hb hE1 hH1 => ?_
  have hr1 := hv.ext hE1
  simp (disch := first | assumption | omega) only [↓RP, RQ, TY, loadT, reduceIte, Nat.reduceEqDiff, Nat.reduceAdd, hH1, hr1.run]
  refine c_orank A (hm.ext hE1) hlm hr1 h0 hk fun H2 hE2 => ?_
  have hE12 := hE1.trans hE2
  have h12 := hE2.rw hH1
  have hr2 := hv.ext hE12
  simp (disch := first | assumption | omega) only [↓RP, RQ, TY, loadT, reduceIte, Nat.reduceEqDiff, Nat.reduceAdd, h12, hr2.run]
  rw [bit_not hk]
  refine c_orank A (hm.ext hE12) hlm hr2 h0 (by omega) fun H3 hE3 => ?_
  have h13 := hE3.rw h12
  have hr3 := hr2.ext hE3
  have e1 : maskL n.toNat (2 ^ 64 - (k + 1)).testBit = maskL n.toNat (fun i => !k.testBit i) := maskL_congr fun i hi => by
    rw [Nat.testBit_two_pow_sub_succ (by omega)]
    simp [show i < 64 by omega]
  have l1 := greedyL_le ca.fa.ok ca.els (maskL n.toNat k.testBit)
  have l2 := greedyL_le ca.fa.ok ca.els (maskL n.toNat (fun i => !k.testBit i))
  have l3 := maskL_length n.toNat k.testBit
  have l4 := maskL_length n.toNat (fun i => !k.testBit i)
  rw [e1]
  simp (disch := first | assumption | omega) only [↓RP, RQ, TY, loadT, reduceIte, Nat.reduceEqDiff, Nat.reduceAdd, h13, hr3.run]
  exact hQ H3 (hE12.trans hE3)
end Go.Proofs.YtbkpebmcagdgmaaGreat.AM
/-! The program's orderings, second part: Dimension. -/
namespace Go.Proofs.YtbkpebmcagdgmaaGreat.AM
open Go Go.RowKit
set_option linter.unusedVariables false
set_option linter.unusedSimpArgs false
set_option maxRecDepth 20000
/-- the dimension of a set of positions, as the program counts it -/
noncomputable def dimP (p m : Int) (mod : List Int) (n : Int) (rows : List (List Int)) (s : Nat → Bool) : Int := (rankP p m mod n rows s : Int) + rankP p m mod n rows (fun i => !s i) - rows.length
/-- the positions of a list -/
def inL (set : List Int) : Nat → Bool := fun i => set.contains (i : Int)
open Classical in
noncomputable def dimValP (p m : Int) (mod : List Int) (n : Int) (rows : List (List Int)) (set : List Int) : Int := if dimErr p m mod n rows set = 0 then dimP p m mod n rows (inL set) else 0
theorem c_ODim (A : Alg) {p m n : Int} {md v sv : AV} {mod set : List Int} {us : List AV} {rows : List (List Int)} {H : AH} {Q : AV → AH → Prop} (hm : Ints H md mod) (hlm : mod.length ≤ 9223372036854775807) (hv : Rows H v us rows) (hs : Ints H sv set) (hl : rows.length ≤ 9223372036854775807) (hlr : ∀ i, i < rows.length → (rowAt rows i).length ≤ 9223372036854775807) (hls : set.length ≤ 9223372036854775807)
    (hQ : ∀ H', Ext H H' → Q (.tup [.int .i64 (dimValP p m mod n rows set), .int .i64 (dimErr p m mod n rows set)]) H') : AC Tryz.prog 61 [codeV p m md n v, sv] H Q := by
  refine at61 (by simp) ?_
  simp (disch := first | assumption | omega) only [↓RP, RQ, TY, loadT, s61, reduceIte, Nat.reduceEqDiff, Nat.reduceAdd]
  refine kNew_intro fun b H1 hb hE1 hH1 => ?_
  simp (disch := first | assumption | omega) only [↓RP, RQ, TY, loadT, reduceIte, Nat.reduceEqDiff, Nat.reduceAdd, hH1]
  refine c_cCheck A (hm.ext hE1) hlm (hv.ext hE1) hl hlr fun H2 hE2 => ?_
  have hE12 := hE1.trans hE2
  have h2 := hE2.rw hH1
  by_cases h0 : codeErr p m mod n rows = 0
  rotate_left
  · simp (disch := first | assumption | omega) only [↓RP, RQ, TY, loadT, reduceIte, Nat.reduceEqDiff, Nat.reduceAdd, eq_false h0]
    have := hQ H2 hE12
    have e1 : dimErr p m mod n rows set = codeErr p m mod n rows := by rw [dimErr, if_pos h0]
    rwa [dimValP, if_neg (by rw [e1]; exact h0), e1] at this
  have ca := A.fo.ca h0 (hm.ext hE12) (hv.ext hE12)
  have n1 := ca.n1
  have n64 := ca.n64
  have hs2 := hs.ext hE12
  have no : ¬ Subset n set → Q (.tup [.int .i64 0, .int .i64 5]) H2 := fun h => by
    have := hQ H2 hE12
    have e1 : dimErr p m mod n rows set = 5 := by rw [dimErr, if_neg (by simpa using h0), if_neg h]
    rwa [dimValP, if_neg (by rw [e1]; decide), e1] at this
  simp (disch := first | assumption | omega) only [↓RP, RQ, TY, loadT, reduceIte, Nat.reduceEqDiff, Nat.reduceAdd, eq_true h0, h2, hs2.ints]
  refine sw_loop (σ := Nat × Nat) (fun s e H' => e 17 = .int .i64 s.1 ∧ e 16 = .int .i64 set.length ∧ e 15 = sv ∧ e 7 = .int .u64 (s.2 : Nat) ∧ e 1 = sv ∧ e 2 = .ptr b 0 ∧ s.1 ≤ set.length ∧ H' = H2 ∧ s.2 < 18446744073709551616 ∧ (∀ i : Nat, s.2.testBit i = true ↔ (i : Int) ∈ set.take s.1) ∧ ∀ j, j < s.1 → 0 ≤ set.getD j 0 ∧ set.getD j 0 < n ∧ (0 < j → set.getD (j - 1) 0 < set.getD j 0)) (fun s => set.length - s.1) (0, 0) ?_ ?_
  · simp (disch := first | assumption | omega) only [↓RP, RQ, TY, loadT, reduceIte, Nat.reduceEqDiff, Nat.reduceAdd]
    exact ⟨by omega, by omega, fun i => by simp, fun j hj => by omega⟩
  rintro ⟨t, k⟩ e H' ⟨e17, e16, e15, e7, e1, e2, ht, rfl, hk, hbit, hj⟩
  dsimp only at *
  by_cases hlt : (t : Int) < set.length
  · by_cases c1 : set.getD t 0 < 0
    · simp (disch := first | assumption | omega) only [↓RP, RQ, TY, loadT, reduceIte, Nat.reduceEqDiff, Nat.reduceAdd, e17, e16, e15, e7, e1, e2, hlt, hs2.ints, h2, c1]
      exact no (fun q => absurd (q t (by omega)).1 (by omega))
    by_cases c2 : n ≤ set.getD t 0
    · simp (disch := first | assumption | omega) only [↓RP, RQ, TY, loadT, reduceIte, Nat.reduceEqDiff, Nat.reduceAdd, e17, e16, e15, e7, e1, e2, hlt, hs2.ints, h2, c1, c2]
      exact no (fun q => absurd (q t (by omega)).2.1 (by omega))
    obtain ⟨x, hx⟩ : ∃ x : Nat, set.getD t 0 = x := ⟨(set.getD t 0).toNat, by omega⟩
    obtain ⟨o1, o2⟩ := bit_or (k := k) (x := x) hk (by omega)
    have hbit' : ∀ i : Nat, (k ||| 2 ^ x).testBit i = true ↔ (i : Int) ∈ set.take (t + 1) := fun i => by
      rw [mem_take_succ (by omega), ← hbit i, Nat.testBit_or, Nat.testBit_two_pow, hx]
      simp only [Bool.or_eq_true, decide_eq_true_eq]
      exact or_congr Iff.rfl (by omega)
    have xn : x < 64 := by omega
    by_cases c3 : (0 : Int) < t
    · have ei : ((t : Int) - 1).toNat = t - 1 := by omega
      by_cases c4 : set.getD t 0 ≤ set.getD (t - 1) 0
      · simp (disch := first | assumption | omega) only [↓RP, RQ, TY, loadT, reduceIte, Nat.reduceEqDiff, Nat.reduceAdd, e17, e16, e15, e7, e1, e2, hlt, hs2.ints, h2, c1, c2, c3, ei, c4]
        exact no (fun q => absurd ((q t (by omega)).2.2 (by omega)) (by omega))
      · rw [hx] at c1 c2 c4
        simp (disch := first | assumption | omega) only [↓RP, RQ, TY, loadT, reduceIte, Nat.reduceEqDiff, Nat.reduceAdd, e17, e16, e15, e7, e1, e2, hlt, hs2.ints, h2, hx, c1, c2, c3, ei, c4, o1]
        refine ⟨(t + 1, k ||| 2 ^ x), ?_, by dsimp only; omega⟩
        simp (disch := first | assumption | omega) only [↓RP, RQ, TY, loadT, reduceIte, Nat.reduceEqDiff, Nat.reduceAdd, e17, e16, e15, e7, e1, e2]
        refine ⟨by omega, by omega, hbit', fun j h => ?_⟩
        by_cases hjt : j = t
        · rw [hjt]; exact ⟨by omega, by omega, fun _ => by omega⟩
        · exact hj j (by omega)
    · rw [hx] at c1 c2
      simp (disch := first | assumption | omega) only [↓RP, RQ, TY, loadT, reduceIte, Nat.reduceEqDiff, Nat.reduceAdd, e17, e16, e15, e7, e1, e2, hlt, hs2.ints, h2, hx, c1, c2, c3, o1]
      refine ⟨(t + 1, k ||| 2 ^ x), ?_, by dsimp only; omega⟩
      simp (disch := first | assumption | omega) only [↓RP, RQ, TY, loadT, reduceIte, Nat.reduceEqDiff, Nat.reduceAdd, e17, e16, e15, e7, e1, e2]
      refine ⟨by omega, by omega, hbit', fun j h => ?_⟩
      by_cases hjt : j = t
      · rw [hjt]; exact ⟨by omega, by omega, fun _ => by omega⟩
      · exact hj j (by omega)
  · have hS : Subset n set := fun j hj' => hj j (by omega)
    rw [List.take_of_length_le (by omega)] at hbit
    simp (disch := first | assumption | omega) only [↓RP, RQ, TY, loadT, reduceIte, Nat.reduceEqDiff, Nat.reduceAdd, e17, e16, e15, e7, e1, e2, hlt, h2]
    refine c_odim A (hm.ext hE12) hlm (hv.ext hE12) h0 hk fun H3 hE3 => ?_
    simp (disch := first | assumption | omega) only [↓RP, RQ, TY, loadT, reduceIte, Nat.reduceEqDiff, Nat.reduceAdd]
    have := hQ H3 (hE12.trans hE3)
    have e1 : dimErr p m mod n rows set = 0 := by rw [dimErr, if_neg (by simpa using h0), if_pos hS]
    have e2 : k.testBit = inL set := funext fun i => by
      rw [Bool.eq_iff_iff, hbit i, inL]; simp
    have e3 : (fun i => !k.testBit i) = fun i => !(inL set) i := by rw [← e2]
    rw [e3, e2]
    rwa [dimValP, if_pos e1, e1, dimP] at this
end Go.Proofs.YtbkpebmcagdgmaaGreat.AM
/-! The rank that greedy counts and the rank that elimination counts (plain law). -/
namespace Go.Proofs.YtbkpebmcagdgmaaGreat.AM
open Go Go.RowKit
set_option linter.unusedVariables false
set_option linter.unusedSimpArgs false
section
variable {F : FOps} (h : F.Ok)
/-- a list as a vector -/
noncomputable def vecL (v : List Int) : Vc F.K := fun j => h.k (v.getD j 0)
theorem Spn.congrV {K : Type} [Fd K] {V V' : Nat → Vc K} {S : Nat → Prop} {v : Vc K} (hv : Spn V S v) (he : ∀ j, S j → V j = V' j) : Spn V' S v := by
  induction hv with
  | zero => exact .zero
  | step c hj _ ih => rw [he _ hj]; exact .step c hj ih
theorem Spn.none {K : Type} [Fd K] {V : Nat → Vc K} {S : Nat → Prop} {v : Vc K} (hv : Spn V S v) (he : ∀ j, ¬ S j) : v = vz := by
  induction hv with
  | zero => rfl
  | step c hj _ ih => exact absurd hj (he _)
/-- what holds of a basis of the columns in S -/
structure BInv (V : Nat → Vc F.K) (S : Nat → Prop) (n : Nat) (l : List (List Int)) (places : List Nat) : Prop where
  ok : BOk F n l places
  one : ∀ i, i < l.length → ent l i (places.getD i 0) = 1
  zero : ∀ i j, j < i → i < l.length → ent l i (places.getD j 0) = 0
  inS : letI := h.fd; ∀ i, i < l.length → Spn V S (vecL h (rowAt l i))
  sp : letI := h.fd; ∀ j, S j → Spn (fun i => vecL h (rowAt l i)) (fun i => i < l.length) (V j)
theorem red_vec {n : Nat} {l : List (List Int)} {places : List Nat} (hb : BOk F n l places) (one : ∀ i, i < l.length → ent l i (places.getD i 0) = 1) (zero : ∀ i j, j < i → i < l.length → ent l i (places.getD j 0) = 0)
    {v : List Int} (hv : v.length = n ∧ ∀ j, F.El (v.getD j 0)) : letI := h.fd; ∀ t, t ≤ l.length →
    (∃ w, Spn (fun i => vecL h (rowAt l i)) (fun i => i < l.length) w ∧ vecL h (uptoN (redStep F l places) t v) = va (vecL h v) w) ∧ ∀ i, i < t → (uptoN (redStep F l places) t v).getD (places.getD i 0) 0 = 0 := by
  letI := h.fd
  intro t
  induction t with
  | zero => exact fun _ => ⟨⟨vz, .zero, (va_vz _).symm⟩, fun i hi => by omega⟩
  | succ t ih =>
    intro ht
    obtain ⟨⟨w, hw, hu⟩, hz⟩ := ih (by omega)
    obtain ⟨u1, u2⟩ := red_ok (places := places) h hb.els hv t
    have e : uptoN (redStep F l places) (t + 1) v = redStep F l places t (uptoN (redStep F l places) t v) := rfl
    rw [e]
    generalize uptoN (redStep F l places) t v = u at *
    have hlt := hb.lt t (by omega)
    rw [redStep]
    split
    · rename_i hx
      have g : ∀ j, (subRow F u (u.getD (places.getD t 0) 0) (rowAt l t)).getD j 0 = F.add (u.getD j 0) (F.neg (F.mul (u.getD (places.getD t 0) 0) (ent l t j))) := fun j => by
        by_cases hj : j < u.length
        · rw [subRow, tabN_getD _ hj]; rfl
        · rw [getD_len _ (by rw [subRow_length]; omega), getD_len _ (show u.length ≤ j by omega), ent_col hb.rect t (by omega)]
          apply h.k_inj h.el0 (h.add_el h.el0 (h.neg_el (h.mul_el (u2 _) h.el0)))
          rw [h.k_add h.el0 (h.neg_el (h.mul_el (u2 _) h.el0)), h.k_neg (h.mul_el (u2 _) h.el0), h.k_mul (u2 _) h.el0, h.k_zero, Fd.mul_z, Fd.neg_z, Fd.add_z]
      refine ⟨⟨va w (vs (Fd.neg (h.k (u.getD (places.getD t 0) 0))) (vecL h (rowAt l t))), .step (V := fun i => vecL h (rowAt l i)) _ (show t < l.length by omega) hw, ?_⟩, fun i hi => ?_⟩
      · rw [← va_assoc, ← hu]
        funext j
        simp only [vecL, va, vs]
        rw [g j, h.k_add (u2 _) (h.neg_el (h.mul_el (u2 _) (hb.els _ _))), h.k_neg (h.mul_el (u2 _) (hb.els _ _)), h.k_mul (u2 _) (hb.els _ _), Fd.neg_mul]
        rfl
      · rw [g]
        by_cases hit : i = t
        · subst hit
          rw [one i (by omega)]
          apply h.k_inj (h.add_el (u2 _) (h.neg_el (h.mul_el (u2 _) h.el1))) h.el0
          rw [h.k_add (u2 _) (h.neg_el (h.mul_el (u2 _) h.el1)), h.k_neg (h.mul_el (u2 _) h.el1), h.k_mul (u2 _) h.el1, h.k_one, Fd.mul_u, Fd.add_neg, h.k_zero]
        · rw [zero t i (by omega) (by omega), hz i (by omega)]
          apply h.k_inj (h.add_el h.el0 (h.neg_el (h.mul_el (u2 _) h.el0))) h.el0
          rw [h.k_add h.el0 (h.neg_el (h.mul_el (u2 _) h.el0)), h.k_neg (h.mul_el (u2 _) h.el0), h.k_mul (u2 _) h.el0, h.k_zero, Fd.mul_z, Fd.neg_z, Fd.add_z]
    · rename_i hx
      refine ⟨⟨w, hw, hu⟩, fun i hi => ?_⟩
      by_cases hit : i = t
      · subst hit; simpa using hx
      · exact hz i (by omega)
/-- a combination of a basis that is 0 at its places is 0 -/
theorem basis_zero {l : List (List Int)} {places : List Nat} (one : ∀ i, i < l.length → ent l i (places.getD i 0) = 1) (zero : ∀ i j, j < i → i < l.length → ent l i (places.getD j 0) = 0) : letI := h.fd;
    ∀ {u : Vc F.K}, Spn (fun i => vecL h (rowAt l i)) (fun i => i < l.length) u → (∀ i, i < l.length → u (places.getD i 0) = Fd.z) → u = vz := by
  letI := h.fd
  intro u hu hz
  have : ∀ a, a ≤ l.length → Spn (fun i => vecL h (rowAt l i)) (fun i => a ≤ i ∧ i < l.length) u := fun a => by
    induction a with
    | zero => exact fun _ => hu.mono fun j hj => ⟨Nat.zero_le _, hj⟩
    | succ a ih =>
      intro ha
      have h1 := ih (by omega)
      have h2 : Spn (fun i => vecL h (rowAt l i)) (fun z => (a + 1 ≤ z ∧ z < l.length) ∨ z = a) u := h1.mono fun j hj => by omega
      obtain ⟨w, c, hw, rfl⟩ := h2.split
      have h3 := hw.coord (i := places.getD a 0) (fun j hj => by
        show h.k (ent l j _) = _
        rw [zero j a (by omega) (by omega), h.k_zero])
      have h4 := hz a (by omega)
      simp only [va, vs, h3, Fd.z_add] at h4
      have h5 : vecL h (rowAt l a) (places.getD a 0) = Fd.u := by
        show h.k (ent l a _) = _
        rw [one a (by omega), h.k_one]
      rw [h5, Fd.mul_u] at h4
      rw [h4, vs_z, va_vz]
      exact hw
  exact (this l.length (Nat.le_refl _)).none fun j hj => by omega
theorem vecL_zero {v : List Int} (he : ∀ j, F.El (v.getD j 0)) : letI := h.fd; vecL h v = vz ↔ ∀ j, v.getD j 0 = 0 := by
  letI := h.fd
  constructor
  · intro q j
    exact (h.k_z_iff (he j)).mp (congrFun q j)
  · intro q
    funext j
    show h.k _ = _
    rw [q j, h.k_zero]; rfl
theorem firstV_full {v : List Int} : ¬ firstV v < v.length ↔ ∀ j, v.getD j 0 = 0 := by
  constructor
  · intro q j
    by_cases hj : j < firstV v
    · exact firstV_lt hj
    · exact getD_len _ (by omega)
  · intro q hlt
    exact firstV_ne hlt (q _)
theorem BInv.take {V : Nat → Vc F.K} {S : Nat → Prop} {n : Nat} {l : List (List Int)} {places : List Nat} (hb : BInv h V S n l places) {x : Nat} {v : List Int} (hv : v.length = n ∧ ∀ j, F.El (v.getD j 0)) (hx : vecL h v = V x) :
    BInv h V (with_ S x) n (bTake F l places v).1 (bTake F l places v).2 ∧ (firstV (redB F l places v) < (redB F l places v).length ↔ letI := h.fd; ¬ Spn V S (V x)) := by
  letI := h.fd
  obtain ⟨⟨w, hw, hu⟩, hz⟩ := red_vec h hb.ok hb.one hb.zero hv l.length (Nat.le_refl _)
  obtain ⟨u1, u2⟩ := red_len (places := places) h hb.ok.els hv
  have hbt := hb.ok.take h hv
  change vecL h (redB F l places v) = va (vecL h v) w at hu
  change ∀ i, i < l.length → (redB F l places v).getD (places.getD i 0) 0 = 0 at hz
  have keyz : ¬ firstV (redB F l places v) < (redB F l places v).length ↔ Spn V S (V x) := by
    rw [firstV_full, ← vecL_zero h u2, hu]
    constructor
    · intro q
      have hs := (hw.smul (Fd.neg Fd.u)).trans (T := S) (V' := V) hb.inS
      have : V x = vs (Fd.neg Fd.u) w := by
        rw [← hx]
        funext j
        have := congrFun q j
        simp only [va, vs, vz] at this ⊢
        rw [Fd.neg_mul, Fd.u_mul]
        rw [Fd.add_comm] at this
        exact Fd.neg_of this
      rw [this]
      exact hs
    · intro q
      rw [← hx] at q
      have q2 : Spn (fun i => vecL h (rowAt l i)) (fun i => i < l.length) (va (vecL h v) w) := (q.trans hb.sp).add hw
      refine basis_zero h hb.one hb.zero q2 fun i hi => ?_
      rw [← hu]
      show h.k _ = _
      rw [hz i hi, h.k_zero]
  have key : firstV (redB F l places v) < (redB F l places v).length ↔ ¬ Spn V S (V x) := ⟨fun q hs => keyz.mpr hs q, fun q => Classical.byContradiction fun hk => q (keyz.mp hk)⟩
  refine ⟨?_, key⟩
  have wS : Spn V (with_ S x) w := (hw.trans (T := S) (V' := V) hb.inS).mono fun j hj => .inl hj
  by_cases hk : firstV (redB F l places v) < (redB F l places v).length
  · rw [bTake_pos hk] at hbt ⊢
    generalize hU : redB F l places v = u at *
    have elk := u2 (firstV u)
    have hne := firstV_ne hk
    have sg := scaleL_get h (h.inv_el elk) u
    have vsc : vecL h (scaleL F (F.inv (u.getD (firstV u) 0)) u) = vs (Fd.inv (h.k (u.getD (firstV u) 0))) (vecL h u) := funext fun j => by
      simp only [vecL, vs]
      rw [sg j, h.k_mul (h.inv_el elk) (u2 _), h.k_inv elk]
    have kne : h.k (u.getD (firstV u) 0) ≠ Fd.z := fun q => hne ((h.k_z_iff elk).mp q)
    refine ⟨hbt, fun i hi => ?_, fun i j hji hi => ?_, fun i hi => ?_, fun j hj => ?_⟩
    · rw [List.length_append, List.length_singleton] at hi
      rw [ent, rowAt_app, getD_app, hb.ok.pl]
      by_cases hil : i < l.length
      · rw [if_pos hil, if_pos hil]; exact hb.one i hil
      · have : i = l.length := by omega
        rw [if_neg hil, if_neg hil, if_pos this, if_pos this, sg]
        apply h.k_inj (h.mul_el (h.inv_el elk) elk) h.el1
        rw [h.k_mul (h.inv_el elk) elk, h.k_inv elk, Fd.mul_comm, Fd.mul_inv _ kne, h.k_one]
    · rw [List.length_append, List.length_singleton] at hi
      rw [ent, rowAt_app, getD_app, hb.ok.pl, if_pos (show j < l.length by omega)]
      by_cases hil : i < l.length
      · rw [if_pos hil]; exact hb.zero i j hji hil
      · rw [if_neg hil, if_pos (by omega), sg, hz j (by omega)]
        apply h.k_inj (h.mul_el (h.inv_el elk) h.el0) h.el0
        rw [h.k_mul (h.inv_el elk) h.el0, h.k_zero, Fd.mul_z]
    · rw [List.length_append, List.length_singleton] at hi
      rw [rowAt_app]
      by_cases hil : i < l.length
      · rw [if_pos hil]; exact (hb.inS i hil).mono fun j hj => .inl hj
      · rw [if_neg hil, if_pos (by omega), vsc, hu, hx]
        exact ((Spn.one (.inr rfl)).add wS).smul _
    · have old : ∀ {y : Vc F.K}, Spn (fun i => vecL h (rowAt l i)) (fun i => i < l.length) y → Spn (fun i => vecL h (rowAt (l ++ [scaleL F (F.inv (u.getD (firstV u) 0)) u]) i)) (fun i => i < (l ++ [scaleL F (F.inv (u.getD (firstV u) 0)) u]).length) y := fun hy => by
        refine (hy.congrV (V' := fun i => vecL h (rowAt (l ++ [scaleL F (F.inv (u.getD (firstV u) 0)) u]) i)) fun j hj => ?_).mono fun j hj => ?_
        · rw [rowAt_app, if_pos hj]
        · simp; omega
      rcases hj with hj | rfl
      · exact old (hb.sp j hj)
      · have e : V j = va (vs (h.k (u.getD (firstV u) 0)) (vecL h (scaleL F (F.inv (u.getD (firstV u) 0)) u))) (vs (Fd.neg Fd.u) w) := by
          rw [vsc, vs_vs, Fd.mul_inv _ kne, vs_u, hu, hx]
          funext i
          simp only [va, vs]
          rw [Fd.neg_mul, Fd.u_mul, Fd.add_add_neg]
        rw [e]
        have last : vecL h (scaleL F (F.inv (u.getD (firstV u) 0)) u) = vecL h (rowAt (l ++ [scaleL F (F.inv (u.getD (firstV u) 0)) u]) l.length) := by
          rw [rowAt_app, if_neg (Nat.lt_irrefl _), if_pos rfl]
        refine Spn.add (Spn.smul _ ?_) ((old hw).smul _)
        rw [last]
        exact Spn.one (V := fun i => vecL h (rowAt (l ++ [scaleL F (F.inv (u.getD (firstV u) 0)) u]) i)) (show l.length < _ by simp)
  · rw [bTake_neg hk] at hbt ⊢
    have hin : Spn V S (V x) := Classical.byContradiction fun q => hk (key.mpr q)
    refine ⟨hbt, hb.one, hb.zero, fun i hi => (hb.inS i hi).mono fun j hj => .inl hj, fun j hj => ?_⟩
    rcases hj with hj | rfl
    · exact hb.sp j hj
    · exact hin.trans hb.sp
end
end Go.Proofs.YtbkpebmcagdgmaaGreat.AM
/-! Both ranks are one; bounds of dimensions (plain law). -/
namespace Go.Proofs.YtbkpebmcagdgmaaGreat.AM
open Go Go.RowKit
set_option linter.unusedVariables false
set_option linter.unusedSimpArgs false
theorem rk_pull {K : Type} [Fd K] {V V' : Nat → Vc K} (f : Nat → Nat) : ∀ (l : List Nat) (S : Nat → Prop), (∀ j, j ∈ l → V' j = V (f j)) → (∀ j, S j → V' j = V (f j)) → (clo V').rk S l = (clo V).rk (fun z => ∃ j, S j ∧ z = f j) (l.map f)
  | [], S, _, _ => rfl
  | x :: l, S, hl, hS => by
    have hx := hl x (by simp)
    have e : Spn V' S (V' x) ↔ Spn V (fun z => ∃ j, S j ∧ z = f j) (V (f x)) := by
      rw [← hx]
      constructor
      · intro q
        exact (q.congrV (V' := fun j => V (f j)) hS).trans (T := fun z => ∃ j, S j ∧ z = f j) (V' := V) fun j hj => Spn.one ⟨j, hj, rfl⟩
      · intro q
        refine q.trans (T := S) (V' := V') fun z hz => ?_
        obtain ⟨j, hj, rfl⟩ := hz
        rw [← hS j hj]
        exact Spn.one hj
    have ih := rk_pull f l (with_ S x) (fun j hj => hl j (by simp [hj])) (fun j hj => hj.elim (hS j) fun q => q ▸ hx)
    have e2 : (clo V).rk (fun z => ∃ j, with_ S x j ∧ z = f j) (l.map f) = (clo V).rk (with_ (fun z => ∃ j, S j ∧ z = f j) (f x)) (l.map f) := Clo.rk_ext _ (fun z => by
      simp only [with_]
      constructor
      · rintro ⟨j, hj | rfl, rfl⟩
        · exact .inl ⟨j, hj, rfl⟩
        · exact .inr rfl
      · rintro (⟨j, hj, rfl⟩ | rfl)
        · exact ⟨j, .inl hj, rfl⟩
        · exact ⟨x, .inr rfl, rfl⟩) _
    rw [List.map_cons]
    by_cases q : Spn V' S (V' x)
    · rw [Clo.rk_in (clo V') q, Clo.rk_in (clo V) (e.mp q), ih, e2]
    · rw [Clo.rk_out (clo V') q, Clo.rk_out (clo V) (fun w => q (e.mpr w)), ih, e2]
section
variable {p m : Int} {mod : List Int} (h : (fF p m mod).Ok)
theorem map_toNat_eq (set : List Int) : (List.range set.length).map (fun j => (set.getD j 0).toNat) = set.map Int.toNat := by
  refine List.ext_getElem (by simp) fun j h1 h2 => ?_
  simp at h1
  simp [List.getD_eq_getElem?_getD, h1]
theorem rankS_rk {rows : List (List Int)} (he : Els (fF p m mod) rows) (set : List Int) : rankS p m mod rows set = letI := h.fd; (clo (colV h rows)).rk (fun _ => False) (set.map Int.toNat) := by
  letI := h.fd
  have inv := (elim_inv h (pick_rect rows set) (pick_els h.el0 set he) set.length).rk
  rw [rankS, inv]
  rw [rk_pull (V := colV h rows) (fun j => (set.getD j 0).toNat) (List.range set.length) _ (fun j hj => ?_) (fun j hj => hj.elim), map_toNat_eq]
  · exact Clo.rk_ext _ (fun z => by simp) _
  · funext i
    show h.k _ = h.k _
    rw [pick_ent i (by simpa using hj)]
theorem filter_nodup (n : Nat) (s : Nat → Bool) : ((List.range n).filter s).Nodup := List.Nodup.sublist List.filter_sublist List.nodup_range
/-- a list without repetition counts as its set -/
theorem rankS_set {n : Nat} {rows : List (List Int)} (he : Els (fF p m mod) rows) {set : List Int} (hp : Poss n set) (hn : set.Nodup) : rankS p m mod rows set = letI := h.fd; (clo (colV h rows)).R n (inL set) := by
  letI := h.fd
  rw [rankS_rk h he, Clo.R]
  refine Clo.rk_perm _ ((List.perm_ext_iff_of_nodup ?_ (filter_nodup _ _)).mpr fun a => ?_) _
  · rw [List.Nodup, List.pairwise_iff_getElem] at hn ⊢
    intro i j hi hj hij q
    simp only [List.length_map] at hi hj
    simp only [List.getElem_map] at q
    have h1 := hp i hi
    have h2 := hp j hj
    simp only [List.getD_eq_getElem?_getD, List.getElem?_eq_getElem hi, List.getElem?_eq_getElem hj, Option.getD_some] at h1 h2
    exact hn i j hi hj hij (by omega)
  · simp only [List.mem_map, List.mem_filter, List.mem_range, inL, List.contains_iff_mem]
    constructor
    · rintro ⟨x, hx, rfl⟩
      obtain ⟨i, hi, rfl⟩ := List.getElem_of_mem hx
      have h1 := hp i hi
      simp only [List.getD_eq_getElem?_getD, List.getElem?_eq_getElem hi, Option.getD_some] at h1
      exact ⟨by omega, by rw [Int.toNat_of_nonneg h1.1]; exact hx⟩
    · rintro ⟨h1, h2⟩
      exact ⟨a, h2, rfl⟩
theorem Subset.nodup {n : Int} {s : List Int} (hS : Subset n s) : s.Nodup := by
  have mono : ∀ i j, i < j → j < s.length → s.getD i 0 < s.getD j 0 := fun i j hij => by
    induction j with
    | zero => omega
    | succ j ih =>
      intro hj
      have h1 := (hS (j + 1) hj).2.2 (by omega)
      simp only [Nat.add_sub_cancel] at h1
      by_cases q : i = j
      · rw [q]; exact h1
      · have := ih (by omega) (by omega)
        omega
  rw [List.Nodup, List.pairwise_iff_getElem]
  intro i j hi hj hij q
  have := mono i j hij hj
  simp only [List.getD_eq_getElem?_getD, List.getElem?_eq_getElem hi, List.getElem?_eq_getElem hj, Option.getD_some] at this
  omega
theorem filter_len (n : Nat) (s : Nat → Bool) : ((List.range n).filter s).length + ((List.range n).filter fun i => !s i).length = n := by
  have := (List.filter_append_perm s (List.range n)).length_eq
  simpa using this
end
end Go.Proofs.YtbkpebmcagdgmaaGreat.AM
/-! The laws' check that the program is alive. -/
namespace Go.Proofs.YtbkpebmcagdgmaaGreat.AM
open Go Go.RowKit
set_option linter.unusedVariables false
set_option linter.unusedSimpArgs false
set_option maxRecDepth 20000
theorem prm2 : prm 2 := fun d h1 h2 => by omega
theorem ordr2 : ordr 2 1 = 2 := by
  rw [ordr, if_pos (by decide)]; decide
theorem field2 : FieldOk 2 1 [] := ⟨by rw [ordr2]; decide, prm2, .inl ⟨rfl, rfl⟩⟩
theorem code2 : codeErr 2 1 [] 2 [[1, 1]] = 0 := by
  have h1 : matErr 2 1 [] 2 [[1, 1]] = 0 := by
    rw [matErr, if_neg (by simpa using field2), if_neg, if_neg]
    · rintro ⟨i, hi, hn⟩
      have : i = 0 := by simp at hi; exact hi
      subst this
      refine hn fun j hj => ?_
      rw [ordr2]
      have : j = 0 ∨ j = 1 := by simp [rowAt] at hj; omega
      rcases this with rfl | rfl <;> decide
    · rintro (h | h | h | ⟨i, hi, hn⟩)
      · omega
      · omega
      · simp at h
      · have : i = 0 := by simp at hi; exact hi
        subst this
        exact hn rfl
  have h2 : (canon (fF 2 1 []) [[1, 1]] (2 : Int).toNat).1 = [[1, 1]] := rfl
  rw [codeErr, if_neg (by simpa using field2), if_neg (by omega), spcErr, if_neg (by simpa using h1), if_pos h2]
theorem sub2 : Subset 2 [0] := fun i hi => by
  have : i = 0 := by simpa using hi
  subst this
  exact ⟨by decide, by decide, fun h => by omega⟩
theorem dimE2 : dimErr 2 1 [] 2 [[1, 1]] [0] = 0 := by
  rw [dimErr, if_neg (by simpa using code2), if_pos sub2]
theorem dimV2 : dimValP 2 1 [] 2 [[1, 1]] [0] = 1 := by
  rw [dimValP, if_pos dimE2]
  rfl
theorem u_buildS2I {P : Program} {K : Kt} {e : Env} {H : AH} {d : Option Nat} {r : Rst} {x y : Int} {z : AV} : kBuildS P 2 r e H K d (some 1) (some [z]) [(0, .int .i64 x), (1, .int .i64 y)] = kNew P (fun b => .sl b 0 2 (.own 1)) r e H K d [.int .i64 x, .int .i64 y] := by
  simp [kBuildS, aFill, reps, splice, AV.sure, AV.cells]
theorem c_alive (A : Alg) {H : AH} {Q : AV → AH → Prop} (hQ : ∀ H', Ext H H' → Q (.bool true) H') : AC Tryz.prog 16 [] H Q := by
  refine at16 (by simp) ?_
  have f1 : aFill (fun i => [(0, 1), (1, 1), (2, 1)][i]?) [.int .i64 0, .int .i64 0, .nils] [(0, .int .i64 2), (1, .int .i64 1)] = some [.int .i64 2, .int .i64 1, .nils] := rfl
  simp (disch := first | assumption | omega) only [↓RP, RQ, TY, loadT, s16, reduceIte, Nat.reduceEqDiff, Nat.reduceAdd, f1, u_buildS2I]
  refine kNew_intro fun b1 H1 hb1 hE1 hH1 => ?_
  have s1 : (AV.sl b1 0 2 (.own 1)).isSl = true := rfl
  simp (disch := first | assumption | omega) only [↓RP, RQ, TY, loadT, reduceIte, Nat.reduceEqDiff, Nat.reduceAdd, u_buildS1V]
  refine kNew_intro fun b2 H2 hb2 hE2 hH2 => ?_
  have hH12 := hE2.rw hH1
  have f2 : aFill (fun i => [(0, 3), (3, 1), (4, 1)][i]?) [.int .i64 0, .int .i64 0, .nils, .int .i64 0, .nils] [(0, .agg [.int .i64 2, .int .i64 1, .nils]), (1, .int .i64 2), (2, .sl b2 0 1 (.own 1))] = some [.int .i64 2, .int .i64 1, .nils, .int .i64 2, .sl b2 0 1 (.own 1)] := rfl
  simp (disch := first | assumption | omega) only [↓RP, RQ, TY, loadT, reduceIte, Nat.reduceEqDiff, Nat.reduceAdd, f2]
  refine kNew_intro fun b3 H3 hb3 hE3 hH3 => ?_
  simp (disch := first | assumption | omega) only [↓RP, RQ, TY, loadT, reduceIte, Nat.reduceEqDiff, Nat.reduceAdd]
  have hr : Rows H3 (.sl b2 0 1 (.own 1)) [.sl b1 0 2 (.own 1)] [[1, 1]] := by
    refine ⟨Sl.own (hE3.rw hH2) rfl, rfl, fun i hi => ?_⟩
    have : i = 0 := by simpa using hi
    subst this
    exact Sl.own (hE3.rw hH12) rfl
  refine c_ODim A (p := 2) (m := 1) (n := 2) (mod := []) (rows := [[1, 1]]) (set := [0]) (.inl ⟨rfl, rfl⟩) (by simp) hr (Sl.own hH3 rfl) (by simp) (fun i hi => by
    have : i = 0 := by simpa using hi
    subst this
    decide) (by simp) fun H4 hE4 => ?_
  rw [dimV2, dimE2]
  simp (disch := first | assumption | omega) only [↓RP, RQ, TY, loadT, reduceIte, Nat.reduceEqDiff, Nat.reduceAdd, Int.reduceEq]
  exact hQ _ (((hE1.trans hE2).trans hE3).trans hE4)
end Go.Proofs.YtbkpebmcagdgmaaGreat.AM
/-! From the abstract machine to the rows: the heap that a call finds; what its arguments read as. -/
namespace Go.Proofs.YtbkpebmcagdgmaaGreat.AM
open Go Go.RowKit Go.ChangeShapes Go.WideShapes Go.ChangeAt Go.Deep
set_option linter.unusedVariables false
set_option linter.unusedSimpArgs false
set_option maxRecDepth 20000
open Classical in
/-- a value as the abstract machine sees it -/
noncomputable def avOf (W : World) : Value → AV
  | .int k n => .int k n
  | .slice none 0 0 => .nils
  | .slice (some a) n c => if n ≤ c ∧ c ≤ maxLen ∧ ((a.spot = none ∧ a.block < W.heap.size) ∨ n = 0) then .sl a.block a.off n .any else .junk
  | _ => .junk
theorem avOf_rv (W : World) (v : Value) : RV W (avOf W v) v := by
  unfold avOf
  split
  · exact .int _ _
  · exact .nils
  · rename_i a n c
    split
    · rename_i h
      obtain ⟨h1, h2, h3⟩ := h
      refine .sl _ _ _ _ _ _ h1 h2 trivial ?_
      rcases h3 with ⟨h3, h4⟩ | h3
      · obtain ⟨b, o, s⟩ := a
        cases h3
        exact .inl ⟨rfl, h4⟩
      · exact .inr ⟨h3, fun s q => by cases q⟩
    · exact .junk _
  · exact .junk _
open Classical in
theorem avOf_sl (W : World) (a : Addr) (n c : Nat) : avOf W (.slice (some a) n c) = if n ≤ c ∧ c ≤ maxLen ∧ ((a.spot = none ∧ a.block < W.heap.size) ∨ n = 0) then .sl a.block a.off n .any else .junk := rfl
/-- the heap that a call finds -/
noncomputable def heap0 (W : World) : AH := fun b => if b < W.heap.size then .ro (fun o => match W.heap[b]? with | some (.cells arr _ _) => (arr[o]?).map (avOf W) | _ => none) else .free
theorem heap0_rep (W : World) : Rep (heap0 W) W := by
  refine ⟨fun b hb => ?_, fun b o v hc => ?_, fun b xs hb => ?_⟩
  · simp only [heap0, if_neg (show ¬ b < W.heap.size by omega)]
  · simp only [AH.cell, heap0] at hc
    split at hc
    · rename_i f hf
      split at hf
      · cases hf
        dsimp only at hc
        split at hc
        · rename_i arr ty fr hh
          cases hu : arr[o]? with
          | none => rw [hu] at hc; simp at hc
          | some u =>
            rw [hu] at hc
            simp at hc
            subst hc
            exact ⟨arr, ty, fr, u, hh, hu, avOf_rv W u⟩
        · cases hc
      · cases hf
    · rename_i xs hf
      split at hf <;> cases hf
    · cases hc
  · simp only [heap0] at hb
    split at hb <;> cases hb
theorem heap0_cell {W : World} {a : Addr} {v : Value} (h : W.cell? a = some v) : a.spot = none ∧ a.block < W.heap.size ∧ (heap0 W).cell a.block a.off = some (avOf W v) := by
  unfold World.cell? at h
  split at h
  · rename_i c ty fr hh
    have hb : a.block < W.heap.size := (Array.getElem?_eq_some_iff.1 hh).1
    split at h
    · cases h
    · rename_i hs
      refine ⟨by simpa using hs, hb, ?_⟩
      simp only [AH.cell, heap0, if_pos hb, hh, h]
      rfl
  · cases h
theorem add_bo (a : Addr) (i : Nat) : (a.add i).block = a.block ∧ (a.add i).off = a.off + i := by
  unfold Addr.add
  split
  · rename_i h; subst h; exact ⟨rfl, rfl⟩
  · exact ⟨rfl, rfl⟩
theorem add_zero' (a : Addr) : a.add 0 = a := by simp [Addr.add]
theorem heap0_add {W : World} {a : Addr} {i : Nat} {v : Value} (h : W.cell? (a.add i) = some v) : (heap0 W).cell a.block (a.off + i) = some (avOf W v) := by
  have := (heap0_cell h).2.2
  rwa [(add_bo a i).1, (add_bo a i).2] at this
theorem heap0_head {W : World} {a : Addr} {v : Value} (h : W.cell? (a.add 0) = some v) : a.spot = none ∧ a.block < W.heap.size := by
  rw [add_zero'] at h
  have := heap0_cell h
  exact ⟨this.1, this.2.1⟩
/-- a slice of ints -/
theorem ints_at {W : World} {k0 : Nat} {a : Addr} {len cap : Nat} {zs : List Int} (hl : len ≤ cap) (hm : cap ≤ maxLen) (hz : zs.length = cap) (hcell : ∀ i, i < zs.length → W.cell? (a.add i) = some (.int .i64 (zs.getD i 0))) :
    Ints (heap0 W) (avOf W (.slice (some a) len cap)) (zs.take len) := by
  have hav : avOf W (.slice (some a) len cap) = .sl a.block a.off len .any := by
    rw [avOf_sl, if_pos]
    refine ⟨hl, hm, ?_⟩
    by_cases h0 : len = 0
    · exact .inr h0
    · exact .inl (heap0_head (hcell 0 (by omega)))
  rw [hav]
  have hlen : (ints (zs.take len)).length = len := by rw [ints_length, List.length_take]; omega
  refine .inr ⟨a.block, a.off, .any, by rw [hlen], fun i u hu => ?_⟩
  have hi : i < len := by rw [← hlen]; exact (List.getElem?_eq_some_iff.1 hu).1
  have h2 := heap0_add (hcell i (by omega))
  rw [ints_get (by rw [List.length_take]; omega)] at hu
  cases hu
  have e : (zs.take len).getD i 0 = zs.getD i 0 := by simp [List.getD_eq_getElem?_getD, List.getElem?_take, hi]
  rw [e]
  exact h2
section
variable {H : Type} {enc : TypeId × Value → H} {P : Program} {W : World} {held : Bool}
theorem ints_of {t e : TypeId} {fuel : Nat} {v : Value} {x : DataW H × List MemPlace} (ht : P.underlying t = some (.slice e)) (he : P.underlying e = some (.int .i64)) (hc : P.cellsOf e = 1) (h : DataW.trod enc P W 0 (fun _ => true) held fuel t [v] = some x) :
    ∃ xs, Ints (heap0 W) (avOf W v) xs ∧ xs.length ≤ 9223372036854775807 := by
  rcases open_ints ht he hc h with ⟨hcs, -⟩ | ⟨a, len, cap, zs, hcs, hb, hl, hm, hz, -, hcell, -⟩
  · simp only [List.cons.injEq, and_true] at hcs
    subst hcs
    exact ⟨[], .inl ⟨rfl, rfl⟩, by simp⟩
  · simp only [List.cons.injEq, and_true] at hcs
    subst hcs
    simp only [if_true] at hz
    refine ⟨zs.take len, ints_at (k0 := 0) hl hm hz hcell, ?_⟩
    rw [List.length_take]
    have : maxLen = 9223372036854775807 := rfl
    omega
theorem rows_of {t e q : TypeId} {fuel : Nat} {v : Value} {x : DataW H × List MemPlace} (ht : P.underlying t = some (.slice e)) (he : P.underlying e = some (.slice q)) (hq : P.underlying q = some (.int .i64)) (ce : P.cellsOf e = 1) (cq : P.cellsOf q = 1)
    (h : DataW.trod enc P W 0 (fun _ => true) held fuel t [v] = some x) :
    ∃ us xss, Rows (heap0 W) (avOf W v) us xss ∧ xss.length ≤ 9223372036854775807 ∧ ∀ i, i < xss.length → (rowAt xss i).length ≤ 9223372036854775807 := by
  have mx : maxLen = 9223372036854775807 := rfl
  rcases open_int_rows ht he hq ce cq h with ⟨hcs, -⟩ | ⟨a, len, cap, A, L, C, Z, hcs, hb, hl, hm, -, hr⟩
  · simp only [List.cons.injEq, and_true] at hcs
    subst hcs
    exact ⟨[], [], ⟨.inl ⟨rfl, rfl⟩, rfl, fun i hi => by simp at hi⟩, by simp, fun i hi => by simp at hi⟩
  · simp only [List.cons.injEq, and_true] at hcs
    subst hcs
    have hav : avOf W (.slice (some a) len cap) = .sl a.block a.off len .any := by
      rw [avOf_sl, if_pos]
      refine ⟨hl, hm, ?_⟩
      by_cases h0 : len = 0
      · exact .inr h0
      · exact .inl (heap0_head (hr 0 (by omega)).1)
    refine ⟨tabN len fun r => avOf W (.slice (A r) (L r) (C r)), tabN len fun r => (Z r).take (L r), ⟨?_, by rw [tabN_length, tabN_length], fun i hi => ?_⟩, by rw [tabN_length]; omega, fun i hi => ?_⟩
    · rw [hav]
      refine .inr ⟨a.block, a.off, .any, by rw [tabN_length], fun i u hu => ?_⟩
      have hi : i < len := by rw [← tabN_length len fun r => avOf W (.slice (A r) (L r) (C r))]; exact (List.getElem?_eq_some_iff.1 hu).1
      have e : (tabN len fun r => avOf W (.slice (A r) (L r) (C r)))[i]? = some (avOf W (.slice (A i) (L i) (C i))) := by simp [tabN, hi]
      rw [e] at hu
      cases hu
      exact heap0_add (hr i (by omega)).1
    · rw [tabN_length] at hi
      rw [rowAt, tabN_getD _ hi, tabN_getD _ hi]
      obtain ⟨h1, h2, h3, h4, h5, h6, h7⟩ := hr i (by omega)
      cases hA : A i with
      | none =>
        have c0 := h6 hA
        have l0 : L i = 0 := by omega
        rw [c0, l0]
        exact .inl ⟨rfl, by simp [ints]⟩
      | some a' =>
        obtain ⟨-, h8⟩ := h7 a' hA
        exact ints_at (k0 := 0) h2 h3 h4 (fun j hj => h8 j (by omega))
    · rw [tabN_length] at hi
      rw [rowAt, tabN_getD _ hi, List.length_take]
      obtain ⟨h1, h2, h3, h4, -⟩ := hr i (by omega)
      omega
end
theorem stp_below {W W' : World} {H' : AH} (h : Stp (heap0 W) H' W W') : Below W.heap.size W W' := by
  refine ⟨h.os, h.tape, h.output, h.pres.1, fun k hk => h.keep k hk fun xs q => ?_⟩
  simp only [heap0, if_pos hk] at q
  cases q
theorem size5 {cs : Array Value} (h : cs.size = 5) : ∃ a b c d e, cs = #[a, b, c, d, e] := by
  obtain ⟨l⟩ := cs
  match l, h with
  | [a, b, c, d, e], _ => exact ⟨a, b, c, d, e, rfl⟩
/-- a code that a law is called with -/
theorem code_of {H : Type} {enc : TypeId × Value → H} {W : World} {base : Nat} {v : Value} {d : DataW H} {ps : List MemPlace} (hv : Value.okWide Tryz.prog W .any base 27 v) (h : DataW.Trod enc Tryz.prog W 0 (fun _ => true) true 27 v d ps) :
    ∃ p m n md g mod us rows, RV W (codeV p m md n g) v ∧ Ints (heap0 W) md mod ∧ mod.length ≤ 9223372036854775807 ∧ Rows (heap0 W) g us rows ∧ rows.length ≤ 9223372036854775807 ∧ ∀ i, i < rows.length → (rowAt rows i).length ≤ 9223372036854775807 := by
  obtain ⟨cs, rfl, hsz⟩ := okWide_struct Tryz.underlying27 hv
  have h27 : Tryz.prog.cellsOf 27 = 5 := by kernel_rfl
  have h24 : Tryz.prog.cellsOf 24 = 3 := by kernel_rfl
  have h3 : Tryz.prog.cellsOf 3 = 1 := by kernel_rfl
  have h22 : Tryz.prog.cellsOf 22 = 1 := by kernel_rfl
  have h25 : Tryz.prog.cellsOf 25 = 1 := by kernel_rfl
  obtain ⟨c0, c1, c2, c3, c4, rfl⟩ := size5 (hsz.trans h27)
  obtain ⟨fuel, hf⟩ := h
  obtain ⟨y0, y1, y2, k, -, -, t0, t1, t2⟩ := trod_struct3 Tryz.underlying27 hf
  simp only [Value.cells, h24, h3, h25, List.drop_zero, List.drop_succ_cons, List.take_succ_cons, List.take_zero] at t0 t1 t2
  obtain ⟨z0, z1, z2, k', -, -, s0, s1, s2⟩ := trod_struct3 Tryz.underlying24 t0
  simp only [h3, h22, List.drop_zero, List.drop_succ_cons, List.take_succ_cons, List.take_zero] at s0 s1 s2
  obtain ⟨p, e0, -, -⟩ := DataW.trod_int Tryz.underlying3 s0
  obtain ⟨m, e1, -, -⟩ := DataW.trod_int Tryz.underlying3 s1
  obtain ⟨n, e3, -, -⟩ := DataW.trod_int Tryz.underlying3 t1
  obtain ⟨mod, i1, i2⟩ := ints_of Tryz.underlying22 Tryz.underlying3 h3 s2
  obtain ⟨us, rows, r1, r2, r3⟩ := rows_of Tryz.underlying25 Tryz.underlying22 Tryz.underlying3 h22 h3 t2
  simp only [List.cons.injEq, and_true] at e0 e1 e3
  subst e0 e1 e3
  refine ⟨p, m, n, _, _, mod, us, rows, .agg _ _ rfl fun i c v hc hv => ?_, i1, i2, r1, r2, r3⟩
  match i with
  | 0 => simp at hc hv; subst hc hv; exact .int _ _
  | 1 => simp at hc hv; subst hc hv; exact .int _ _
  | 2 => simp at hc hv; subst hc hv; exact avOf_rv _ _
  | 3 => simp at hc hv; subst hc hv; exact .int _ _
  | 4 => simp at hc hv; subst hc hv; exact avOf_rv _ _
  | i + 5 => simp at hc
theorem arg_ints {H : Type} {enc : TypeId × Value → H} {P : Program} {W : World} {base : Nat} {r : Reach} {t e : TypeId} {v : Value} {d : DataW H} {ps : List MemPlace} (ht : P.underlying t = some (.slice e)) (he : P.underlying e = some (.int .i64)) (hc : P.cellsOf e = 1)
    (hv : Value.okWide P W r base t v) (h : DataW.Trod enc P W 0 (fun _ => true) true t v d ps) : ∃ xs, Ints (heap0 W) (avOf W v) xs ∧ xs.length ≤ 9223372036854775807 := by
  obtain ⟨a, len, cap, rfl⟩ := okWide_slice ht hv
  obtain ⟨fuel, hf⟩ := h
  exact ints_of ht he hc hf
theorem rvs3 {W : World} {a b c : AV} {u v w : Value} (h : RV W a u) (h' : RV W b v) (h2 : RV W c w) : RVs W [a, b, c] [u, v, w] := ⟨rfl, fun i c w hc hw => by
  match i with
  | 0 => simp at hc hw; subst hc hw; exact h
  | 1 => simp at hc hw; subst hc hw; exact h'
  | 2 => simp at hc hw; subst hc hw; exact h2
  | i + 3 => simp at hc⟩
end Go.Proofs.YtbkpebmcagdgmaaGreat.AM
/-! Residues as vectors of whole numbers: the shift T, what a list of digits does to a vector (plain Lean). -/
namespace Go.Proofs.YtbkpebmcagdgmaaGreat.AM
open Go Go.RowKit
set_option linter.unusedVariables false
set_option linter.unusedSimpArgs false
abbrev ZV := Nat → Int
def zzv : ZV := fun _ => 0
def zadd (v w : ZV) : ZV := fun j => v j + w j
def zsm (c : Int) (v : ZV) : ZV := fun j => c * v j
/-- times X -/
def Tm (n : Nat) (mod : List Int) (v : ZV) : ZV := fun j => if j < n then (if j = 0 then 0 else v (j - 1)) - mod.getD j 0 * v (n - 1) else 0
/-- d0 + d1 T + .. -/
def act (n : Nat) (mod : List Int) : List Int → ZV → ZV
  | [], _ => zzv
  | d :: ds, v => zadd (zsm d v) (Tm n mod (act n mod ds v))
def Tp (n : Nat) (mod : List Int) : Nat → ZV → ZV
  | 0, v => v
  | k + 1, v => Tm n mod (Tp n mod k v)
section
variable {n : Nat} {mod : List Int}
theorem Tm_add (v w : ZV) : Tm n mod (zadd v w) = zadd (Tm n mod v) (Tm n mod w) := funext fun j => by
  simp only [Tm, zadd]
  split
  · split <;> grind
  · rfl
theorem Tm_sm (c : Int) (v : ZV) : Tm n mod (zsm c v) = zsm c (Tm n mod v) := funext fun j => by
  simp only [Tm, zsm]
  split
  · split <;> grind
  · grind
theorem Tm_zero : Tm n mod zzv = zzv := funext fun j => by
  simp only [Tm, zzv]
  split
  · split <;> simp
  · rfl
theorem act_add (ds : List Int) (v w : ZV) : act n mod ds (zadd v w) = zadd (act n mod ds v) (act n mod ds w) := by
  induction ds with
  | nil => funext j; simp [act, zzv, zadd]
  | cons d ds ih =>
    rw [act, act, act, ih, Tm_add]
    funext j
    simp only [zadd, zsm]
    grind
theorem act_sm (ds : List Int) (c : Int) (v : ZV) : act n mod ds (zsm c v) = zsm c (act n mod ds v) := by
  induction ds with
  | nil => funext j; simp [act, zzv, zsm]
  | cons d ds ih =>
    rw [act, act, ih, Tm_sm]
    funext j
    simp only [zadd, zsm]
    grind
theorem act_T (ds : List Int) (v : ZV) : act n mod ds (Tm n mod v) = Tm n mod (act n mod ds v) := by
  induction ds with
  | nil => rw [act, act, Tm_zero]
  | cons d ds ih => rw [act, act, ih, Tm_add, Tm_sm]
theorem act_comm (a b : List Int) (v : ZV) : act n mod a (act n mod b v) = act n mod b (act n mod a v) := by
  induction a with
  | nil =>
    rw [act, act]
    have := act_sm (n := n) (mod := mod) b 0 v
    have e : zsm 0 v = zzv := funext fun j => by simp [zsm, zzv]
    have e2 : zsm 0 (act n mod b v) = zzv := funext fun j => by simp [zsm, zzv]
    rw [e, e2] at this
    exact this.symm
  | cons d a ih => rw [act, act, act_add, act_sm, act_T, ih]
theorem Tp_add (k : Nat) (v w : ZV) : Tp n mod k (zadd v w) = zadd (Tp n mod k v) (Tp n mod k w) := by
  induction k with
  | zero => rfl
  | succ k ih => rw [Tp, ih, Tm_add]; rfl
theorem Tp_sm (k : Nat) (c : Int) (v : ZV) : Tp n mod k (zsm c v) = zsm c (Tp n mod k v) := by
  induction k with
  | zero => rfl
  | succ k ih => rw [Tp, ih, Tm_sm]; rfl
theorem Tp_Tp (i j : Nat) (v : ZV) : Tp n mod i (Tp n mod j v) = Tp n mod (i + j) v := by
  induction i with
  | zero => rw [Nat.zero_add]; rfl
  | succ i ih => rw [Tp, ih, Nat.add_right_comm]; rfl
theorem act_set : ∀ (ds : List Int) (k : Nat) (x : Int) (v : ZV), k < ds.length → act n mod (ds.set k x) v = zadd (act n mod ds v) (zsm (x - ds.getD k 0) (Tp n mod k v))
  | [], k, x, v, h => by simp at h
  | d :: ds, 0, x, v, h => by
    funext j
    simp only [List.set_cons_zero, act, zadd, zsm, Tp, List.getD_cons_zero]
    grind
  | d :: ds, k + 1, x, v, h => by
    rw [List.set_cons_succ, act, act_set ds k x v (by simpa using h), Tm_add, Tm_sm, act, List.getD_cons_succ]
    funext j
    simp only [zadd, zsm, Tp]
    grind
theorem act_app (l : List Int) (d : Int) (v : ZV) : act n mod (l ++ [d]) v = zadd (act n mod l v) (zsm d (Tp n mod l.length v)) := by
  induction l with
  | nil =>
    simp only [List.nil_append, act, Tm_zero, List.length_nil, Tp]
    funext j
    simp only [zadd, zsm, zzv]
    grind
  | cons c l ih =>
    rw [List.cons_append, act, ih, Tm_add, Tm_sm, act]
    funext j
    simp only [zadd, zsm, Tp, List.length_cons]
    grind
theorem act_take {ds : List Int} {k : Nat} (h : k < ds.length) (v : ZV) : act n mod (ds.take (k + 1)) v = zadd (act n mod (ds.take k) v) (zsm (ds.getD k 0) (Tp n mod k v)) := by
  rw [← take_push 0 h, act_app, List.length_take, Nat.min_eq_left (by omega)]
theorem act_zeros (k : Nat) (v : ZV) : act n mod (List.replicate k 0) v = zzv := by
  induction k with
  | zero => rfl
  | succ k ih =>
    rw [List.replicate_succ, act, ih, Tm_zero]
    funext j
    simp [zadd, zsm, zzv]
/-- the number 1 -/
def e0v : ZV := fun j => if j = 0 then 1 else 0
theorem Tp_e0 : ∀ {k : Nat}, k < n → Tp n mod k e0v = fun j => if j = k then 1 else 0
  | 0, _ => rfl
  | k + 1, h => by
    rw [Tp, Tp_e0 (by omega)]
    funext j
    simp only [Tm]
    by_cases hj : j < n
    · rw [if_pos hj, if_neg (show ¬ n - 1 = k by omega), Int.mul_zero, Int.sub_zero]
      by_cases h0 : j = 0
      · rw [if_pos h0, if_neg (by omega)]
      · rw [if_neg h0]
        by_cases h1 : j = k + 1
        · rw [if_pos h1, if_pos (by omega)]
        · rw [if_neg h1, if_neg (by omega)]
    · rw [if_neg hj, if_neg (by omega)]
theorem Tn_e0 (hn : 1 ≤ n) : Tp n mod n e0v = fun j => if j < n then - mod.getD j 0 else 0 := by
  obtain ⟨k, rfl⟩ : ∃ k, n = k + 1 := ⟨n - 1, by omega⟩
  rw [Tp, Tp_e0 (by omega)]
  funext j
  simp only [Tm, Nat.add_sub_cancel, if_true, Int.mul_one]
  by_cases hj : j < k + 1
  · rw [if_pos hj, if_pos hj]
    by_cases h0 : j = 0
    · rw [if_pos h0]; omega
    · rw [if_neg h0, if_neg (by omega)]; omega
  · rw [if_neg hj, if_neg hj]
theorem act_e0 {ds : List Int} (h : ds.length ≤ n) : act n mod ds e0v = fun j => ds.getD j 0 := by
  have : ∀ k, k ≤ ds.length → act n mod (ds.take k) e0v = fun j => if j < k then ds.getD j 0 else 0 := fun k => by
    induction k with
    | zero => intro _; funext j; simp [act, zzv]
    | succ k ih =>
      intro hk
      rw [act_take (by omega), ih (by omega), Tp_e0 (by omega)]
      funext j
      simp only [zadd, zsm]
      by_cases h1 : j < k
      · rw [if_pos h1, if_neg (by omega), if_pos (by omega)]; omega
      · by_cases h2 : j = k
        · subst h2; rw [if_neg h1, if_pos rfl, if_pos (by omega)]; omega
        · rw [if_neg h1, if_neg h2, if_neg (by omega)]; omega
  have h1 := this ds.length (Nat.le_refl _)
  rw [List.take_length] at h1
  rw [h1]
  funext j
  split
  · rfl
  · exact (getD_len _ (by omega)).symm
/-- equal modulo p -/
def cg (p : Int) (n : Nat) (v w : ZV) : Prop := ∀ j, j < n → p ∣ v j - w j
theorem cg.refl {p : Int} (v : ZV) : cg p n v v := fun j _ => by simp
theorem cg.symm {p : Int} {v w : ZV} (h : cg p n v w) : cg p n w v := fun j hj => by
  obtain ⟨k, hk⟩ := h j hj
  exact ⟨-k, by grind⟩
theorem cg.trans {p : Int} {u v w : ZV} (h : cg p n u v) (h' : cg p n v w) : cg p n u w := fun j hj => by
  obtain ⟨k, hk⟩ := h j hj
  obtain ⟨k', hk'⟩ := h' j hj
  exact ⟨k + k', by grind⟩
theorem cg.add {p : Int} {u v u' v' : ZV} (h : cg p n u v) (h' : cg p n u' v') : cg p n (zadd u u') (zadd v v') := fun j hj => by
  obtain ⟨k, hk⟩ := h j hj
  obtain ⟨k', hk'⟩ := h' j hj
  exact ⟨k + k', by simp only [zadd]; grind⟩
theorem cg.sm {p : Int} {c d : Int} {u v : ZV} (hc : p ∣ c - d) (h : cg p n u v) : cg p n (zsm c u) (zsm d v) := fun j hj => by
  obtain ⟨k, hk⟩ := h j hj
  obtain ⟨k', hk'⟩ := hc
  have e : c = d + p * k' := by grind
  exact ⟨d * k + k' * u j, by simp only [zsm]; rw [e]; grind⟩
theorem cg.T {p : Int} (hn : 1 ≤ n) {u v : ZV} (h : cg p n u v) : cg p n (Tm n mod u) (Tm n mod v) := fun j hj => by
  obtain ⟨k, hk⟩ := h (n - 1) (by omega)
  simp only [Tm, if_pos hj]
  by_cases h0 : j = 0
  · rw [if_pos h0, if_pos h0]
    exact ⟨- (mod.getD j 0 * k), by grind⟩
  · rw [if_neg h0, if_neg h0]
    obtain ⟨k', hk'⟩ := h (j - 1) (by omega)
    exact ⟨k' - mod.getD j 0 * k, by grind⟩
theorem cg.Tp {p : Int} (hn : 1 ≤ n) {u v : ZV} (h : cg p n u v) : ∀ k, cg p n (Tp n mod k u) (Tp n mod k v)
  | 0 => h
  | k + 1 => (cg.Tp hn h k).T hn
theorem cg.act {p : Int} (hn : 1 ≤ n) {u v : ZV} (h : cg p n u v) : ∀ ds, cg p n (act n mod ds u) (act n mod ds v)
  | [] => cg.refl _
  | d :: ds => (cg.sm (by simp) h).add ((cg.act hn h ds).T hn)
theorem emod_cg (p x : Int) : p ∣ x % p - x := ⟨-(x / p), by have := Int.emod_add_mul_ediv x p; grind⟩
end
end Go.Proofs.YtbkpebmcagdgmaaGreat.AM
/-! The products of the program and of the reference, as vectors (plain Lean). -/
namespace Go.Proofs.YtbkpebmcagdgmaaGreat.AM
open Go Go.RowKit
set_option linter.unusedVariables false
set_option linter.unusedSimpArgs false
def vecZ (l : List Int) : ZV := fun j => l.getD j 0
/-- the digits of x, as a vector -/
def vecX (p : Int) (n : Nat) (x : Int) : ZV := vecZ (digs p n x)
theorem digs_val {p : Int} (hp : 0 < p) : ∀ {ds : List Int}, Rng p ds → digs p ds.length (val p ds) = ds
  | [], _ => rfl
  | d :: ds, h => by
    have h0 := h 0
    simp only [List.getD_cons_zero] at h0
    have e1 : (d + p * val p ds) % p = d := by
      rw [Int.add_mul_emod_self_left]
      exact Int.emod_eq_of_lt h0.1 h0.2
    have e2 : (d + p * val p ds) / p = val p ds := by
      rw [Int.add_mul_ediv_left _ _ (by omega), Int.ediv_eq_zero_of_lt h0.1 h0.2, Int.zero_add]
    rw [val, List.length_cons, digs, e1, e2, digs_val hp h.tail]
theorem val_digs {p : Int} (hp : 0 < p) : ∀ (n : Nat) {x : Int}, 0 ≤ x → x < p ^ n → val p (digs p n x) = x
  | 0, x, h0, h1 => by simp at h1; simp [digs, val]; omega
  | n + 1, x, h0, h1 => by
    obtain ⟨h2, h3⟩ := div_pow hp h0 h1
    rw [digs, val, val_digs hp n h2 h3]
    have := Int.emod_add_mul_ediv x p
    omega
theorem vec_inj {p : Int} (hp : 0 < p) {n : Nat} {x y : Int} (hx : 0 ≤ x) (hx' : x < p ^ n) (hy : 0 ≤ y) (hy' : y < p ^ n) (h : cg p n (vecX p n x) (vecX p n y)) : x = y := by
  rw [← val_digs hp n hx hx', ← val_digs hp n hy hy']
  congr 1
  refine List.ext_getElem (by rw [digs_length, digs_length]) fun j h1 h2 => ?_
  rw [digs_length] at h1
  have h3 := digs_rng hp n x j
  have h4 := digs_rng hp n y j
  obtain ⟨k, hk⟩ := h j h1
  simp only [vecX, vecZ] at hk
  have : (digs p n x).getD j 0 = (digs p n y).getD j 0 := by
    have k0 : k = 0 := by
      by_cases hk0 : k = 0
      · exact hk0
      · exfalso
        rcases Int.lt_or_gt_of_ne hk0 with hlt | hgt
        · have : p * k ≤ p * (-1) := Int.mul_le_mul_of_nonneg_left (by omega) (by omega)
          omega
        · have : p * 1 ≤ p * k := Int.mul_le_mul_of_nonneg_left (by omega) (by omega)
          omega
    rw [k0] at hk
    omega
  simpa [List.getD_eq_getElem?_getD, h1, h2, digs_length] using this
theorem vec_val {p : Int} (hp : 0 < p) {n : Nat} {ds : List Int} (hl : ds.length = n) (hr : Rng p ds) : vecX p n (val p ds) = vecZ ds := by
  rw [vecX, ← hl, digs_val hp hr]
section
variable {p : Int} {n : Nat} {mod : List Int}
theorem horn_cg (hp : 0 < p) (hn : 1 ≤ n) {a b : List Int} (hb : b.length = n) : ∀ k, k ≤ n → cg p n (vecZ (horn p n mod a b k)) (act n mod (b.drop (n - k)) (vecZ a))
  | 0, _ => by
    rw [Nat.sub_zero, List.drop_of_length_le (by omega)]
    intro j hj
    have : vecZ (horn p n mod a b 0) j = 0 := by
      show (List.replicate n (0 : Int)).getD j 0 = 0
      simp [List.getD_eq_getElem?_getD, hj]
    rw [this]
    exact ⟨0, by simp [act, zzv]⟩
  | k + 1, hk => by
    have ih := horn_cg hp hn (a := a) hb k (by omega)
    rw [show horn p n mod a b (k + 1) = hornStep p n mod a (b.getD (n - 1 - k) 0) (horn p n mod a b k) from rfl]
    rw [show n - (k + 1) = n - 1 - k by omega, drop_getD (show n - 1 - k < b.length by omega), show n - 1 - k + 1 = n - k by omega, act]
    generalize horn p n mod a b k = out at *
    generalize b.getD (n - 1 - k) 0 = bi
    refine cg.trans (v := zadd (zsm bi (vecZ a)) (Tm n mod (vecZ out))) (fun j hj => ?_) ((cg.refl _).add (ih.T hn))
    have e : vecZ (hornStep p n mod a bi out) j = ((if j = 0 then 0 else out.getD (j - 1) 0) + (p - out.getD (n - 1) 0) * mod.getD j 0 + bi * a.getD j 0) % p := by
      show (hornStep p n mod a bi out).getD j 0 = _
      rw [hornStep, tab_get hj]
    rw [e]
    obtain ⟨q, hq⟩ := emod_cg p ((if j = 0 then 0 else out.getD (j - 1) 0) + (p - out.getD (n - 1) 0) * mod.getD j 0 + bi * a.getD j 0)
    simp only [zadd, zsm, Tm, if_pos hj, vecZ]
    exact ⟨q + mod.getD j 0, by grind⟩
theorem pmul_vec {m : Int} (hp : 0 < p) (hn : 1 ≤ m.toNat) (x y : Int) : cg p m.toNat (vecX p m.toNat (pmul p m mod x y)) (act m.toNat mod (digs p m.toNat y) (vecX p m.toNat x)) := by
  rw [pmul, vec_val hp (horn_length _ _ _ _ _ _) (horn_rng hp _ _ _ _ _)]
  have := horn_cg (mod := mod) hp hn (a := digs p m.toNat x) (b := digs p m.toNat y) (digs_length _ _ _) m.toNat (Nat.le_refl _)
  rw [Nat.sub_self, List.drop_zero] at this
  exact this
/-- one entry changes -/
theorem set_cg (hn : 1 ≤ n) {c : List Int} {k : Nat} (hk : k < c.length) (s : Int) (v : ZV) : cg p n (act n mod (c.set k ((c.getD k 0 + s) % p)) v) (zadd (act n mod c v) (zsm s (Tp n mod k v))) := by
  rw [act_set _ _ _ _ hk]
  refine (cg.refl _).add (cg.sm ?_ (cg.refl _))
  obtain ⟨q, hq⟩ := emod_cg p (c.getD k 0 + s)
  exact ⟨q, by grind⟩
theorem mulIn_cg (hn : 1 ≤ n) {a b : List Int} (hb : b.length = n) {i : Nat} (hi : i < n) {c : List Int} (hc : c.length = 2 * n - 1) : ∀ j, j ≤ n →
    (upto (mulIn p a b i) j c).length = 2 * n - 1 ∧ cg p n (act n mod (upto (mulIn p a b i) j c) e0v) (zadd (act n mod c e0v) (zsm (a.getD i 0) (Tp n mod i (act n mod (b.take j) e0v))))
  | 0, _ => by
    refine ⟨hc, ?_⟩
    have : zadd (act n mod c e0v) (zsm (a.getD i 0) (Tp n mod i (act n mod (b.take 0) e0v))) = act n mod c e0v := by
      have e : ∀ k, Tp n mod k zzv = zzv := fun k => by
        induction k with
        | zero => rfl
        | succ k ih => rw [Tp, ih, Tm_zero]
      rw [List.take_zero, act, e]
      funext j
      simp [zadd, zsm, zzv]
    rw [this]
    exact cg.refl _
  | j + 1, hj => by
    obtain ⟨h1, h2⟩ := mulIn_cg hn hb hi hc j (by omega)
    rw [upto_succ, mulIn]
    refine ⟨by rw [List.length_set, h1], (set_cg hn (by omega) _ _).trans ?_⟩
    refine (h2.add (cg.refl _)).trans ?_
    rw [act_take (by omega), Tp_add, Tp_sm, Tp_Tp]
    intro q hq
    simp only [zadd, zsm]
    exact ⟨0, by grind⟩
theorem mulP_cg (hn : 1 ≤ n) {a b : List Int} (ha : a.length = n) (hb : b.length = n) : ∀ i, i ≤ n →
    (upto (fun i c => upto (mulIn p a b i) n c) i (List.replicate (2 * n - 1) 0)).length = 2 * n - 1 ∧ cg p n (act n mod (upto (fun i c => upto (mulIn p a b i) n c) i (List.replicate (2 * n - 1) 0)) e0v) (act n mod (a.take i) (act n mod b e0v))
  | 0, _ => by
    refine ⟨by simp [upto], ?_⟩
    rw [upto_zero, act_zeros, List.take_zero, act]
    exact cg.refl _
  | i + 1, hi => by
    obtain ⟨h1, h2⟩ := mulP_cg hn ha hb i (by omega)
    rw [upto_succ]
    obtain ⟨h3, h4⟩ := mulIn_cg (p := p) (mod := mod) hn (a := a) hb (show i < n by omega) h1 n (Nat.le_refl _)
    refine ⟨h3, h4.trans ?_⟩
    rw [List.take_of_length_le (show b.length ≤ n by omega), act_take (show i < a.length by omega)]
    exact h2.add (cg.refl _)
theorem redIn_cg (hn : 1 ≤ n) {I : Nat} (hI : n ≤ I) {c : List Int} (hc : I < c.length) : ∀ j, j ≤ n →
    (upto (redIn p n mod I) j c).length = c.length ∧ (upto (redIn p n mod I) j c).getD I 0 = c.getD I 0 ∧
      cg p n (act n mod ((upto (redIn p n mod I) j c).take I) e0v) (zadd (act n mod (c.take I) e0v) (zsm (- c.getD I 0) (Tp n mod (I - n) (fun q => if q < j then mod.getD q 0 else 0))))
  | 0, _ => by
    refine ⟨rfl, rfl, ?_⟩
    have e : (fun q => if q < 0 then mod.getD q 0 else 0 : ZV) = zzv := funext fun q => by simp [zzv]
    have e2 : ∀ k, Tp n mod k zzv = zzv := fun k => by
      induction k with
      | zero => rfl
      | succ k ih => rw [Tp, ih, Tm_zero]
    rw [upto_zero, e, e2]
    intro q hq
    simp only [zadd, zsm, zzv]
    exact ⟨0, by grind⟩
  | j + 1, hj => by
    obtain ⟨h1, h2, h3⟩ := redIn_cg hn hI hc j (by omega)
    rw [upto_succ, redIn]
    generalize upto (redIn p n mod I) j c = d at *
    have hk : I - n + j < I := by omega
    refine ⟨by rw [List.length_set, h1], ?_, ?_⟩
    · rw [getD_set, if_neg (by omega), h2]
    · rw [List.take_set, h2]
      have hkt : I - n + j < (d.take I).length := by rw [List.length_take]; omega
      have eg : d.getD (I - n + j) 0 = (d.take I).getD (I - n + j) 0 := by simp [List.getD_eq_getElem?_getD, List.getElem?_take, hk]
      rw [eg]
      refine (set_cg hn hkt _ _).trans ?_
      refine (h3.add (cg.refl _)).trans ?_
      have e3 : (fun q => if q < j + 1 then mod.getD q 0 else 0 : ZV) = zadd (fun q => if q < j then mod.getD q 0 else 0) (zsm (mod.getD j 0) (Tp n mod j e0v)) := by
        rw [Tp_e0 (by omega)]
        funext q
        simp only [zadd, zsm]
        by_cases h4 : q < j
        · rw [if_pos (by omega), if_pos h4, if_neg (by omega)]; omega
        · by_cases h5 : q = j
          · subst h5; rw [if_pos (by omega), if_neg h4, if_pos rfl]; omega
          · rw [if_neg (by omega), if_neg h4, if_neg h5]; omega
      rw [e3, Tp_add, Tp_sm, Tp_Tp]
      intro q hq
      simp only [zadd, zsm]
      exact ⟨mod.getD j 0 * Tp n mod (I - n + j) e0v q, by grind⟩
theorem redP_cg (hn : 1 ≤ n) {c : List Int} (hc : c.length = 2 * n - 1) : ∀ k, k ≤ n - 1 →
    (upto (fun k c => upto (redIn p n mod (2 * n - 2 - k)) n c) k c).length = 2 * n - 1 ∧
      cg p n (act n mod ((upto (fun k c => upto (redIn p n mod (2 * n - 2 - k)) n c) k c).take (2 * n - 1 - k)) e0v) (act n mod c e0v)
  | 0, _ => by
    refine ⟨hc, ?_⟩
    rw [upto_zero, Nat.sub_zero, List.take_of_length_le (by omega)]
    exact cg.refl _
  | k + 1, hk => by
    obtain ⟨h1, h2⟩ := redP_cg hn hc k (by omega)
    rw [upto_succ]
    generalize upto (fun k c => upto (redIn p n mod (2 * n - 2 - k)) n c) k c = d at *
    obtain ⟨h3, h4, h5⟩ := redIn_cg (p := p) (mod := mod) hn (I := 2 * n - 2 - k) (by omega) (c := d) (by omega) n (Nat.le_refl _)
    refine ⟨by rw [h3, h1], ?_⟩
    rw [show 2 * n - 1 - (k + 1) = 2 * n - 2 - k by omega]
    refine h5.trans (cg.trans ?_ h2)
    rw [show 2 * n - 1 - k = (2 * n - 2 - k) + 1 by omega, act_take (by omega)]
    refine (cg.refl _).add ?_
    have e : Tp n mod (2 * n - 2 - k) e0v = zsm (-1) (Tp n mod (2 * n - 2 - k - n) (fun q => if q < n then mod.getD q 0 else 0)) := by
      rw [← Tp_sm]
      have : (zsm (-1) (fun q => if q < n then mod.getD q 0 else 0) : ZV) = Tp n mod n e0v := by
        rw [Tn_e0 hn]
        funext q
        simp only [zsm]
        split <;> omega
      rw [this, Tp_Tp]
      congr 1
      omega
    rw [e]
    intro q hq
    simp only [zsm]
    exact ⟨0, by grind⟩
theorem fmul_vec {m : Int} (hp : 0 < p) (hn : 1 ≤ m.toNat) (x y : Int) : cg p m.toNat (vecX p m.toNat (fmul p m mod x y)) (act m.toNat mod (digs p m.toNat x) (vecX p m.toNat y)) := by
  have l1 := digs_length p m.toNat x
  have l2 := digs_length p m.toNat y
  have r1 := digs_rng hp m.toNat x
  have r2 := digs_rng hp m.toNat y
  rw [fmul, vecX]
  generalize digs p m.toNat x = a at *
  rw [show vecX p m.toNat y = act m.toNat mod (digs p m.toNat y) e0v by rw [act_e0 (by omega)]; rfl]
  generalize digs p m.toNat y = b at *
  generalize m.toNat = n at *
  obtain ⟨h1, h2⟩ := mulP_cg (p := p) (mod := mod) hn l1 l2 n (Nat.le_refl _)
  have hok := upto_ok (L := 2 * n - 1) _ (fun i c' hc' => upto_ok _ (mulIn_ok hp a b i) hc' n) (show (List.replicate (2 * n - 1) (0 : Int)).length = 2 * n - 1 ∧ Rng p (List.replicate (2 * n - 1) 0) from ⟨by simp, Rng.rep hp _⟩) n
  obtain ⟨h3, h4⟩ := redP_cg (p := p) (mod := mod) hn h1 (n - 1) (Nat.le_refl _)
  have hok2 := upto_ok (L := 2 * n - 1) _ (fun k c' hc' => upto_ok _ (redIn_ok hp (n := n) mod (2 * n - 2 - k)) hc' n) hok (n - 1)
  rw [show 2 * n - 1 - (n - 1) = n by omega] at h4
  change (redP p n mod (mulP p n a b)).length = _ at h3
  change cg p n (act n mod ((redP p n mod (mulP p n a b)).take n) e0v) _ at h4
  change _ ∧ Rng p (redP p n mod (mulP p n a b)) at hok2
  generalize redP p n mod (mulP p n a b) = c at *
  have t6 : (c.take n).length = n := by simp; omega
  have t5 : Rng p (c.take n) := fun q => by
    by_cases hq : q < n
    · have := hok2.2 q
      simpa [List.getD_eq_getElem?_getD, List.getElem?_take, hq] using this
    · rw [getD_len _ (by omega)]
      exact ⟨by omega, hp⟩
  have e := vec_val hp t6 t5
  rw [vecX] at e
  rw [e]
  have e2 : vecZ (c.take n) = act n mod (c.take n) e0v := by rw [act_e0 (by omega)]; rfl
  rw [e2]
  refine h4.trans (h2.trans ?_)
  rw [List.take_of_length_le (by omega)]
  exact cg.refl _
end
end Go.Proofs.YtbkpebmcagdgmaaGreat.AM
/-! The residues are a commutative ring; both products are one (plain Lean). -/
namespace Go.Proofs.YtbkpebmcagdgmaaGreat.AM
open Go Go.RowKit
set_option linter.unusedVariables false
set_option linter.unusedSimpArgs false
/-- sizes that are in range -/
structure PM8 (p m : Int) : Prop where
  p2 : 2 ≤ p
  m1 : 1 ≤ m.toNat
  q : ordr p m = p ^ m.toNat
theorem pm8 {p m : Int} (h : ordr p m ≠ 0) : PM8 p m := by
  obtain ⟨o1, o2, o3, o4, o5⟩ := ordr_pos h
  exact ⟨o1, by omega, o5⟩
section
variable {p m : Int} {mod : List Int} (h : PM8 p m)
def El (p m x : Int) : Prop := 0 ≤ x ∧ x < ordr p m
theorem PM8.inj (h : PM8 p m) {x y : Int} (hx : El p m x) (hy : El p m y) (hv : cg p m.toNat (vecX p m.toNat x) (vecX p m.toNat y)) : x = y := by
  have := h.q
  exact vec_inj (by have := h.p2; omega) hx.1 (by rw [← this]; exact hx.2) hy.1 (by rw [← this]; exact hy.2) hv
theorem PM8.pos (h : PM8 p m) : 0 < p := by have := h.p2; omega
theorem PM8.val_el (h : PM8 p m) {ds : List Int} (hl : ds.length = m.toNat) (hr : Rng p ds) : El p m (val p ds) := by
  have := val_lt h.pos hr
  rw [hl, ← h.q] at this
  exact this
theorem addL_ok (h : PM8 p m) (x y : Int) : (addL p (digs p m.toNat x) (digs p m.toNat y)).length = m.toNat ∧ Rng p (addL p (digs p m.toNat x) (digs p m.toNat y)) :=
  ⟨by rw [addL, tab_length, digs_length], tab_rng h.pos fun i _ => ⟨Int.emod_nonneg _ (by have := h.pos; omega), Int.emod_lt_of_pos _ h.pos⟩⟩
theorem negL_ok (h : PM8 p m) (x : Int) : (negL p (digs p m.toNat x)).length = m.toNat ∧ Rng p (negL p (digs p m.toNat x)) :=
  ⟨by rw [negL, tab_length, digs_length], tab_rng h.pos fun i _ => ⟨Int.emod_nonneg _ (by have := h.pos; omega), Int.emod_lt_of_pos _ h.pos⟩⟩
theorem fadd_el (h : PM8 p m) (x y : Int) : El p m (fadd p m x y) := h.val_el (addL_ok h x y).1 (addL_ok h x y).2
theorem fneg_el (h : PM8 p m) (x : Int) : El p m (fneg p m x) := h.val_el (negL_ok h x).1 (negL_ok h x).2
theorem fmul_el (h : PM8 p m) (x y : Int) : El p m (fmul p m mod x y) := by
  have hp := h.pos
  have hn := h.m1
  rw [fmul]
  have l1 := digs_length p m.toNat x
  have l2 := digs_length p m.toNat y
  have q0 := h.q
  refine h.val_el ?_ ?_
  · have hok := upto_ok (L := 2 * m.toNat - 1) _ (fun i c' hc' => upto_ok _ (mulIn_ok hp (digs p m.toNat x) (digs p m.toNat y) i) hc' m.toNat) (show (List.replicate (2 * m.toNat - 1) (0 : Int)).length = 2 * m.toNat - 1 ∧ Rng p (List.replicate (2 * m.toNat - 1) 0) from ⟨by simp, Rng.rep hp _⟩) m.toNat
    have hok2 := upto_ok (L := 2 * m.toNat - 1) _ (fun k c' hc' => upto_ok _ (redIn_ok hp (n := m.toNat) mod (2 * m.toNat - 2 - k)) hc' m.toNat) hok (m.toNat - 1)
    change (redP p m.toNat mod (mulP p m.toNat _ _)).length = _ ∧ _ at hok2
    rw [List.length_take, hok2.1]
    omega
  · have hok := upto_ok (L := 2 * m.toNat - 1) _ (fun i c' hc' => upto_ok _ (mulIn_ok hp (digs p m.toNat x) (digs p m.toNat y) i) hc' m.toNat) (show (List.replicate (2 * m.toNat - 1) (0 : Int)).length = 2 * m.toNat - 1 ∧ Rng p (List.replicate (2 * m.toNat - 1) 0) from ⟨by simp, Rng.rep hp _⟩) m.toNat
    have hok2 := upto_ok (L := 2 * m.toNat - 1) _ (fun k c' hc' => upto_ok _ (redIn_ok hp (n := m.toNat) mod (2 * m.toNat - 2 - k)) hc' m.toNat) hok (m.toNat - 1)
    intro q
    by_cases hq : q < m.toNat
    · have := hok2.2 q
      simpa [redP, mulP, List.getD_eq_getElem?_getD, List.getElem?_take, hq] using this
    · rw [getD_len _ (by simp; omega)]
      exact ⟨by omega, hp⟩
theorem fadd_vec (h : PM8 p m) (x y : Int) : cg p m.toNat (vecX p m.toNat (fadd p m x y)) (zadd (vecX p m.toNat x) (vecX p m.toNat y)) := by
  rw [fadd, vec_val h.pos (addL_ok h x y).1 (addL_ok h x y).2]
  intro j hj
  show p ∣ (addL p _ _).getD j 0 - _
  rw [addL, tab_get (by rw [digs_length]; exact hj)]
  exact emod_cg _ _
theorem fneg_vec (h : PM8 p m) (x : Int) : cg p m.toNat (vecX p m.toNat (fneg p m x)) (zsm (-1) (vecX p m.toNat x)) := by
  rw [fneg, vec_val h.pos (negL_ok h x).1 (negL_ok h x).2]
  intro j hj
  show p ∣ (negL p _).getD j 0 - _
  rw [negL, tab_get (by rw [digs_length]; exact hj)]
  obtain ⟨k, hk⟩ := emod_cg p (p - (digs p m.toNat x).getD j 0)
  exact ⟨k + 1, by simp only [zsm, vecX, vecZ]; grind⟩
theorem act_x (h : PM8 p m) (x : Int) : act m.toNat mod (digs p m.toNat x) e0v = vecX p m.toNat x := by
  rw [act_e0 (by rw [digs_length]; exact Nat.le_refl _)]; rfl
theorem fmul_comm (h : PM8 p m) (x y : Int) : fmul p m mod x y = fmul p m mod y x := by
  refine h.inj (fmul_el h _ _) (fmul_el h _ _) ((fmul_vec h.pos h.m1 x y).trans (cg.trans ?_ (fmul_vec h.pos h.m1 y x).symm))
  rw [← act_x h (mod := mod) y, ← act_x h (mod := mod) x, act_comm]
  exact cg.refl _
theorem pmul_eq (ho : ordr p m ≠ 0) (x y : Int) : pmul p m mod x y = fmul p m mod x y := by
  have h := pm8 ho
  refine h.inj (pmul_el ho x y) (fmul_el h _ _) ?_
  rw [fmul_comm h]
  exact (pmul_vec h.pos h.m1 x y).trans (fmul_vec h.pos h.m1 y x).symm
theorem fmul_assoc (h : PM8 p m) (x y z : Int) : fmul p m mod (fmul p m mod x y) z = fmul p m mod x (fmul p m mod y z) := by
  rw [fmul_comm h _ z, fmul_comm h y z]
  refine h.inj (fmul_el h _ _) (fmul_el h _ _) ?_
  refine (fmul_vec h.pos h.m1 _ _).trans (cg.trans ?_ (fmul_vec h.pos h.m1 _ _).symm)
  refine ((fmul_vec h.pos h.m1 x y).act h.m1 _).trans (cg.trans ?_ ((fmul_vec h.pos h.m1 z y).act h.m1 _).symm)
  rw [act_comm]
  exact cg.refl _
theorem fmul_add (h : PM8 p m) (x y z : Int) : fmul p m mod x (fadd p m y z) = fadd p m (fmul p m mod x y) (fmul p m mod x z) := by
  refine h.inj (fmul_el h _ _) (fadd_el h _ _) ?_
  refine (fmul_vec h.pos h.m1 _ _).trans (cg.trans ?_ (fadd_vec h _ _).symm)
  refine ((fadd_vec h y z).act h.m1 _).trans (cg.trans ?_ ((fmul_vec h.pos h.m1 x y).add (fmul_vec h.pos h.m1 x z)).symm)
  rw [act_add]
  exact cg.refl _
theorem fadd_comm (h : PM8 p m) (x y : Int) : fadd p m x y = fadd p m y x := by
  refine h.inj (fadd_el h _ _) (fadd_el h _ _) ((fadd_vec h x y).trans (cg.trans ?_ (fadd_vec h y x).symm))
  intro j _
  exact ⟨0, by simp only [zadd]; grind⟩
theorem fadd_assoc (h : PM8 p m) (x y z : Int) : fadd p m (fadd p m x y) z = fadd p m x (fadd p m y z) := by
  refine h.inj (fadd_el h _ _) (fadd_el h _ _) ((fadd_vec h _ z).trans (((fadd_vec h x y).add (cg.refl _)).trans (cg.trans ?_ ((cg.refl _).add (fadd_vec h y z)).symm)) |>.trans (fadd_vec h x _).symm)
  intro j _
  exact ⟨0, by simp only [zadd]; grind⟩
theorem zero_el (h : PM8 p m) : El p m 0 := ⟨Int.le_refl _, by rw [h.q]; exact Int.pow_pos h.pos⟩
theorem one_el (h : PM8 p m) : El p m 1 := by
  refine ⟨by omega, ?_⟩
  have h1 : p ^ 1 ≤ p ^ m.toNat := ipow_mono (by have := h.p2; omega) h.m1
  rw [show p ^ 1 = p by rw [Int.pow_succ, Int.pow_zero, Int.one_mul]] at h1
  have := h.p2
  rw [h.q]; omega
theorem digs_zero (p : Int) : ∀ n, digs p n 0 = List.replicate n 0
  | 0 => rfl
  | n + 1 => by rw [digs, Int.zero_ediv, digs_zero p n, List.replicate_succ]; simp
theorem vec_zero (n : Nat) : vecX p n 0 = zzv := by
  rw [vecX, digs_zero]
  funext j
  show (List.replicate n (0 : Int)).getD j 0 = 0
  rw [List.getD_eq_getElem?_getD, List.getElem?_replicate]
  split <;> rfl
theorem vec_one (h : PM8 p m) : vecX p m.toNat 1 = e0v := by
  obtain ⟨k, hk⟩ : ∃ k, m.toNat = k + 1 := ⟨m.toNat - 1, by have := h.m1; omega⟩
  have h1 : (1 : Int) % p = 1 := Int.emod_eq_of_lt (by omega) (by have := h.p2; omega)
  have h2 : (1 : Int) / p = 0 := Int.ediv_eq_zero_of_lt (by omega) (by have := h.p2; omega)
  rw [vecX, hk, digs, h1, h2, digs_zero]
  funext j
  cases j with
  | zero => rfl
  | succ j =>
    show (List.replicate k (0 : Int)).getD j 0 = _
    rw [List.getD_eq_getElem?_getD, List.getElem?_replicate]
    simp only [e0v]
    split <;> rfl
theorem fadd_zero (h : PM8 p m) {x : Int} (hx : El p m x) : fadd p m x 0 = x := by
  refine h.inj (fadd_el h _ _) hx ((fadd_vec h x 0).trans ?_)
  rw [vec_zero]
  intro j _
  exact ⟨0, by simp only [zadd, zzv]; grind⟩
theorem fadd_neg (h : PM8 p m) (x : Int) : fadd p m x (fneg p m x) = 0 := by
  refine h.inj (fadd_el h _ _) (zero_el h) ((fadd_vec h x _).trans (((cg.refl _).add (fneg_vec h x)).trans ?_))
  rw [vec_zero]
  intro j _
  exact ⟨0, by simp only [zadd, zsm, zzv]; grind⟩
theorem fmul_one (h : PM8 p m) {x : Int} (hx : El p m x) : fmul p m mod x 1 = x := by
  refine h.inj (fmul_el h _ _) hx ((fmul_vec h.pos h.m1 x 1).trans ?_)
  rw [vec_one h, act_x h]
  exact cg.refl _
theorem fmul_zero (h : PM8 p m) (x : Int) : fmul p m mod x 0 = 0 := by
  refine h.inj (fmul_el h _ _) (zero_el h) ((fmul_vec h.pos h.m1 x 0).trans ?_)
  rw [vec_zero]
  have := act_sm (n := m.toNat) (mod := mod) (digs p m.toNat x) 0 zzv
  have e : ∀ v : ZV, zsm 0 v = zzv := fun v => funext fun j => by simp [zsm, zzv]
  rw [e, e] at this
  rw [this]
  exact cg.refl _
end
end Go.Proofs.YtbkpebmcagdgmaaGreat.AM
/-! Powers of a generator; the algebra from: every field has a generator, and only fields have (plain Lean). -/
namespace Go.Proofs.YtbkpebmcagdgmaaGreat.AM
open Go Go.RowKit
set_option linter.unusedVariables false
set_option linter.unusedSimpArgs false
theorem nodup_len {l : List Nat} {N : Nat} (hn : l.Nodup) (hl : ∀ x, x ∈ l → x < N) : l.length ≤ N := by
  have : l.Perm ((List.range N).filter fun x => l.contains x) := (List.perm_ext_iff_of_nodup hn (filter_nodup' _ _)).mpr fun a => by
    simp only [List.mem_filter, List.mem_range, List.contains_iff_mem]
    exact ⟨fun h => ⟨hl a h, h⟩, fun h => h.2⟩
  have h2 := List.length_filter_le (fun x => l.contains x) (List.range N)
  rw [this.length_eq]
  simpa using h2 where
  filter_nodup' (n : Nat) (s : Nat → Bool) : ((List.range n).filter s).Nodup := List.Nodup.sublist List.filter_sublist List.nodup_range
theorem pigeon {N : Nat} {f : Nat → Nat} (hf : ∀ i, i < N → f i < N) (hi : ∀ i j, i < j → j < N → f i ≠ f j) {y : Nat} (hy : y < N) : ∃ i, i < N ∧ f i = y := by
  apply Classical.byContradiction
  intro hc
  have hnd : (y :: (List.range N).map f).Nodup := by
    rw [List.nodup_cons]
    refine ⟨fun hm => ?_, ?_⟩
    · obtain ⟨i, h1, h2⟩ := List.mem_map.mp hm
      exact hc ⟨i, by simpa using h1, h2⟩
    · rw [List.Nodup, List.pairwise_iff_getElem]
      intro i j h1 h2 hij
      simp at h1 h2
      simpa using hi i j hij h2
  have := nodup_len (N := N) hnd fun x hx => by
    rcases List.mem_cons.mp hx with rfl | hx
    · exact hy
    · obtain ⟨i, h1, rfl⟩ := List.mem_map.mp hx
      exact hf i (by simpa using h1)
  simp at this
  omega
section
variable {p m : Int} {mod : List Int}
theorem pw_succ (h : PM8 p m) (ho : ordr p m ≠ 0) {x : Int} (hx : El p m x) : ∀ i, pw p m mod x (i + 1) = fmul p m mod (pw p m mod x i) x
  | 0 => by
    show x = fmul p m mod 1 x
    rw [fmul_comm h, fmul_one h hx]
  | i + 1 => pmul_eq ho _ _
theorem pw_elm (ho : ordr p m ≠ 0) {x : Int} (hx : El p m x) (i : Nat) : El p m (pw p m mod x i) := pw_el ho hx i
theorem pw_add (h : PM8 p m) (ho : ordr p m ≠ 0) {x : Int} (hx : El p m x) (i : Nat) : ∀ j, fmul p m mod (pw p m mod x i) (pw p m mod x j) = pw p m mod x (i + j)
  | 0 => fmul_one h (pw_elm ho hx i)
  | j + 1 => by rw [pw_succ h ho hx j, ← fmul_assoc h, pw_add h ho hx i j, ← Nat.add_assoc, pw_succ h ho hx]
/-- the number of elements but 0 -/
theorem gen_one (h : PM8 p m) (ho : ordr p m ≠ 0) {x : Int} (hx : El p m x) (hg : IsGen p m mod x) : pw p m mod x (ordr p m - 1).toNat = 1 := by
  have h1 := one_el h
  have := hg.2.2
  rw [pmul_eq ho, ← pw_succ h ho hx] at this
  rw [show (ordr p m - 1).toNat = (ordr p m - 2).toNat + 1 by have := h1.2; omega]
  exact this
theorem pw_mul (h : PM8 p m) (ho : ordr p m ≠ 0) {x : Int} (hx : El p m x) {N : Nat} (h1 : pw p m mod x N = 1) : ∀ k, pw p m mod x (N * k) = 1
  | 0 => rfl
  | k + 1 => by rw [Nat.mul_succ, ← pw_add h ho hx, pw_mul h ho hx h1 k, h1, fmul_one h (one_el h)]
theorem pw_mod (h : PM8 p m) (ho : ordr p m ≠ 0) {x : Int} (hx : El p m x) {N : Nat} (h1 : pw p m mod x N = 1) (i : Nat) : pw p m mod x (i % N) = pw p m mod x i := by
  have : pw p m mod x i = fmul p m mod (pw p m mod x (N * (i / N))) (pw p m mod x (i % N)) := by
    rw [pw_add h ho hx, Nat.div_add_mod]
  rw [this, pw_mul h ho hx h1, fmul_comm h, fmul_one h (pw_elm ho hx _)]
theorem gen_all (h : PM8 p m) (ho : ordr p m ≠ 0) {x : Int} (hx : El p m x) (hg : IsGen p m mod x) {y : Int} (hy : 1 ≤ y) (hy' : y < ordr p m) : ∃ n : Nat, (n : Int) < ordr p m - 1 ∧ y = pw p m mod x n := by
  have e1 := (one_el h).2
  obtain ⟨i, h1, h2⟩ := pigeon (N := (ordr p m - 1).toNat) (f := fun i => (pw p m mod x i - 1).toNat) (fun i hi => by
    have := pw_elm (mod := mod) ho hx i
    have h3 := hg.1 i (by omega)
    have h4 := this.1
    have h5 := this.2
    show (pw p m mod x i - 1).toNat < _
    omega) (fun i j hij hj q => by
    have a := pw_elm (mod := mod) ho hx i
    have b := pw_elm (mod := mod) ho hx j
    have h3 := hg.1 i (by omega)
    have h4 := hg.1 j (by omega)
    have a1 := a.1
    have b1 := b.1
    replace q : (pw p m mod x i - 1).toNat = (pw p m mod x j - 1).toNat := q
    exact hg.2.1 i j hij (by omega) (by omega)) (y := (y - 1).toNat) (by omega)
  have a := pw_elm (mod := mod) ho hx i
  have h3 := hg.1 i (by omega)
  have a1 := a.1
  replace h2 : (pw p m mod x i - 1).toNat = (y - 1).toNat := h2
  exact ⟨i, by omega, by omega⟩
theorem gen_inv (h : PM8 p m) (ho : ordr p m ≠ 0) {x : Int} (hx : El p m x) (hg : IsGen p m mod x) {y : Int} (hy : 1 ≤ y) (hy' : y < ordr p m) : ∃ v, 1 ≤ v ∧ v < ordr p m ∧ fmul p m mod y v = 1 := by
  have e1 := (one_el h).2
  obtain ⟨i, hi, rfl⟩ := gen_all h ho hx hg hy hy'
  have g1 := gen_one h ho hx hg
  refine ⟨pw p m mod x ((ordr p m - 1).toNat - i), ?_, (pw_elm ho hx _).2, ?_⟩
  · have := (pw_elm (mod := mod) ho hx ((ordr p m - 1).toNat - i)).1
    by_cases hi0 : i = 0
    · subst hi0; rw [Nat.sub_zero, g1]; omega
    · have := hg.1 ((ordr p m - 1).toNat - i) (by omega)
      omega
  · rw [pw_add h ho hx, show i + ((ordr p m - 1).toNat - i) = (ordr p m - 1).toNat by omega, g1]
theorem field_of_gen (h : PM8 p m) (ho : ordr p m ≠ 0) {x : Int} (hx : El p m x) (hg : IsGen p m mod x) : (fF p m mod).Ok := by
  have inv : ∀ y, (fF p m mod).El y → y ≠ 0 → fmul p m mod y (finv p m mod y) = 1 ∧ El p m (finv p m mod y) := fun y hy h0 => by
    have hex := gen_inv h ho hx hg (y := y) (by have := hy.1; omega) hy.2
    have hs := Classical.choose_spec hex
    rw [finv, dif_pos hex]
    exact ⟨hs.2.2, by have := hs.1; omega, hs.2.1⟩
  exact {
    q2 := by have := (one_el h).2; show 2 ≤ ordr p m; omega
    add_el := fun _ _ => fadd_el h _ _
    mul_el := fun _ _ => fmul_el h _ _
    neg_el := fun _ => fneg_el h _
    inv_el := fun {a} ha => by
      show El p m (finv p m mod a)
      by_cases h0 : a = 0
      · rw [finv]
        split
        · rename_i hex
          have hs := Classical.choose_spec hex
          exact ⟨by have := hs.1; omega, hs.2.1⟩
        · exact zero_el h
      · exact (inv a ha h0).2
    add_comm := fun _ _ => fadd_comm h _ _
    add_assoc := fun _ _ _ => fadd_assoc h _ _ _
    add_z := fun ha => fadd_zero h ha
    add_neg := fun _ => fadd_neg h _
    mul_comm := fun _ _ => fmul_comm h _ _
    mul_assoc := fun _ _ _ => fmul_assoc h _ _ _
    mul_u := fun ha => fmul_one h ha
    mul_add := fun _ _ _ => fmul_add h _ _ _
    mul_inv := fun ha h0 => (inv _ ha h0).1 }
end
theorem FieldOk.shape {p m : Int} {mod : List Int} (h : FieldOk p m mod) : Shape p m mod := by
  obtain ⟨h1, h2, h3⟩ := h
  rcases h3 with ⟨h4, h5⟩ | ⟨h4, h5, h6, h7⟩
  · exact ⟨h1, h2, fun _ => h5, fun q => (q h4).elim⟩
  · exact ⟨h1, h2, fun q => (h4 q).elim, fun _ => ⟨h5, h6⟩⟩
/-- every field has a generator -/
def GenEx : Prop := ∀ p m mod, FieldOk p m mod → ∃ x, 1 ≤ x ∧ x < ordr p m ∧ IsGen p m mod x
/-- what has a generator has no divisors -/
def GenIrr : Prop := ∀ p m mod x, Shape p m mod → m ≠ 1 → 1 ≤ x → x < ordr p m → IsGen p m mod x → irr p mod
theorem alg_of (h1 : GenEx) (h2 : GenIrr) : Alg where
  fo := fun p m mod hF => by
    obtain ⟨x, x1, x2, hg⟩ := h1 p m mod hF
    exact field_of_gen (pm8 hF.1) hF.1 ⟨by omega, x2⟩ hg
  gi := fun p m mod => by
    constructor
    · intro hF
      exact ⟨hF.shape, h1 p m mod hF⟩
    · rintro ⟨hS, x, x1, x2, hg⟩
      refine ⟨hS.1, hS.2.1, ?_⟩
      by_cases hm : m = 1
      · exact .inl ⟨hm, hS.2.2.1 hm⟩
      · exact .inr ⟨hm, (hS.2.2.2 hm).1, (hS.2.2.2 hm).2, h2 p m mod x hS hm x1 x2 hg⟩
  el := fun p m mod x hF x1 x2 hg => by
    have hx : El p m x := ⟨by omega, x2⟩
    refine ⟨fun y y1 y2 => gen_all (pm8 hF.1) hF.1 hx hg y1 y2, fun i j hi hj => ?_⟩
    rw [pw_add (pm8 hF.1) hF.1 hx, pw_mod (pm8 hF.1) hF.1 hx (gen_one (pm8 hF.1) hF.1 hx hg)]
end Go.Proofs.YtbkpebmcagdgmaaGreat.AM
/-! What has a generator has no divisors (plain Lean). -/
namespace Go.Proofs.YtbkpebmcagdgmaaGreat.AM
open Go Go.RowKit
set_option linter.unusedVariables false
set_option linter.unusedSimpArgs false
section
variable {p : Int} {n : Nat} {mod : List Int}
theorem divIn_cg (hn : 1 ≤ n) {low : List Int} {i : Nat} (hi : low.length ≤ i) (c : Int) {r : List Int} (hr : i < r.length) : ∀ j, j ≤ low.length →
    (upto (divIn p low i c) j r).length = r.length ∧ (upto (divIn p low i c) j r).getD i 0 = r.getD i 0 ∧
      cg p n (act n mod (upto (divIn p low i c) j r) e0v) (zadd (act n mod r e0v) (zsm (-c) (Tp n mod (i - low.length) (act n mod (low.take j) e0v))))
  | 0, _ => by
    refine ⟨rfl, rfl, ?_⟩
    have e2 : ∀ k, Tp n mod k zzv = zzv := fun k => by
      induction k with
      | zero => rfl
      | succ k ih => rw [Tp, ih, Tm_zero]
    rw [upto_zero, List.take_zero, act, e2]
    intro q hq
    simp only [zadd, zsm, zzv]
    exact ⟨0, by grind⟩
  | j + 1, hj => by
    obtain ⟨h1, h2, h3⟩ := divIn_cg hn hi c hr j (by omega)
    rw [upto_succ, divIn]
    generalize upto (divIn p low i c) j r = d at *
    have hk : i - low.length + j < i := by omega
    refine ⟨by rw [List.length_set, h1], ?_, ?_⟩
    · rw [getD_set, if_neg (by omega), h2]
    · refine (set_cg hn (by omega) _ _).trans ((h3.add (cg.refl _)).trans ?_)
      rw [act_take (by omega), Tp_add, Tp_sm, Tp_Tp]
      intro q hq
      simp only [zadd, zsm]
      exact ⟨low.getD j 0 * Tp n mod (i - low.length + j) e0v q, by grind⟩
theorem divStep_cg (hn : 1 ≤ n) {low : List Int} {i : Nat} (hi : low.length ≤ i) {r : List Int} (hr : i < r.length) :
    cg p n (act n mod (divStep p low i r) e0v) (zadd (act n mod r e0v) (zsm (- r.getD i 0) (Tp n mod (i - low.length) (zadd (act n mod low e0v) (Tp n mod low.length e0v))))) := by
  obtain ⟨h1, h2, h3⟩ := divIn_cg (p := p) (mod := mod) hn hi (r.getD i 0) hr low.length (Nat.le_refl _)
  rw [List.take_length] at h3
  rw [divStep, act_set _ _ _ _ (by omega), h2]
  refine (h3.add (cg.refl _)).trans ?_
  rw [Tp_add, Tp_Tp, show i - low.length + low.length = i by omega]
  intro q hq
  simp only [zadd, zsm]
  exact ⟨0, by grind⟩
theorem divRem_cg (hp : 1 < p) (hn : 1 ≤ n) (hm : mod.length = n) (rm : Rng p mod) {low : List Int} (hd : low.length ≤ n) : ∀ k, k ≤ n + 1 - low.length → ∃ q : List Int, q.length = n + 1 - low.length ∧ Rng p q ∧ (∀ t, t < n + 1 - low.length - k → q.getD t 0 = 0) ∧
    (0 < k → q.getD (n - low.length) 0 = 1) ∧ cg p n (zadd (act n mod (upto (fun k r => divStep p low (mod.length - k) r) k (mod ++ [1])) e0v) (act n mod q (zadd (act n mod low e0v) (Tp n mod low.length e0v)))) zzv
  | 0, _ => by
    refine ⟨List.replicate (n + 1 - low.length) 0, by simp, Rng.rep (by omega) _, fun t ht => ?_, fun h => by omega, ?_⟩
    · rw [List.getD_eq_getElem?_getD, List.getElem?_replicate]; split <;> rfl
    · rw [upto_zero, act_zeros, act_app, hm, act_e0 (by omega), Tn_e0 hn]
      intro j hj
      simp only [zadd, zsm, zzv, if_pos hj]
      exact ⟨0, by grind⟩
  | k + 1, hk => by
    obtain ⟨q, q1, q2, q3, q4, q5⟩ := divRem_cg hp hn hm rm hd k (by omega)
    obtain ⟨l1, l2⟩ := divRem_ok hp (low := low) rm k
    rw [upto_succ]
    have hlead : k = 0 → (upto (fun k r => divStep p low (mod.length - k) r) k (mod ++ [1])).getD (n - k) 0 = 1 := fun h0 => by
      subst h0
      rw [upto_zero, Nat.sub_zero, ← hm]
      simp [List.getD_eq_getElem?_getD]
    generalize upto (fun k r => divStep p low (mod.length - k) r) k (mod ++ [1]) = r at *
    have hs := divStep_cg (p := p) (mod := mod) hn (low := low) (i := n - k) (by omega) (r := r) (by omega)
    rw [hm]
    have rc := l2 (n - k)
    refine ⟨q.set (n - low.length - k) (r.getD (n - k) 0), by rw [List.length_set, q1], q2.set rc.1 rc.2 _, fun t ht => ?_, fun _ => ?_, ?_⟩
    · rw [getD_set, if_neg (by omega)]
      exact q3 t (by omega)
    · rw [getD_set]
      by_cases h0 : k = 0
      · rw [if_pos ⟨by omega, by omega⟩]; exact hlead h0
      · rw [if_neg (by omega)]; exact q4 (by omega)
    · rw [act_set _ _ _ _ (by omega), q3 _ (by omega)]
      refine (hs.add (cg.refl _)).trans (cg.trans ?_ q5)
      rw [show n - k - low.length = n - low.length - k by omega]
      intro j hj
      simp only [zadd, zsm]
      exact ⟨0, by grind⟩
end
theorem act_pad {n : Nat} {mod : List Int} (l : List Int) (v : ZV) : ∀ k, act n mod (l ++ List.replicate k 0) v = act n mod l v
  | 0 => by simp
  | k + 1 => by
    rw [List.replicate_succ', ← List.append_assoc, act_app, act_pad l v k]
    funext j
    simp [zadd, zsm]
theorem rng_pad {p : Int} (hp : 0 < p) {l : List Int} (h : Rng p l) (k : Nat) : Rng p (l ++ List.replicate k 0) := h.app (Rng.rep hp k)
theorem gen_irr : GenIrr := fun p m mod g hS hm1 g1 g2 hg => by
  have h := pm8 hS.1
  have ho := hS.1
  obtain ⟨hml, rm⟩ := hS.2.2.2 hm1
  have hn := h.m1
  have hp := h.p2
  intro d d1 d2 v v0 v1 hdiv
  generalize hnn : m.toNat = n at *
  have hmn : mod.length = n := by omega
  have ld := digs_length p d v
  have rd := digs_rng h.pos d v
  generalize digs p d v = low at *
  obtain ⟨q, q1, q2, -, q4, q5⟩ := divRem_cg (p := p) (mod := mod) (by omega) hn hmn rm (low := low) (by omega) (n + 1 - low.length) (Nat.le_refl _)
  have hz : act n mod (upto (fun k r => divStep p low (mod.length - k) r) (n + 1 - low.length) (mod ++ [1])) e0v = zzv := by
    have l1 := (divRem_ok (show 1 < p by omega) (low := low) rm (n + 1 - low.length)).1
    have : upto (fun k r => divStep p low (mod.length - k) r) (n + 1 - low.length) (mod ++ [1]) = List.replicate (n + 1) 0 := by
      refine List.ext_getElem (by rw [l1, hmn]; simp) fun j h1 h2 => ?_
      have := hdiv j
      rw [divRem, hmn] at this
      simp only [List.getElem_replicate]
      rw [hmn] at h1
      simpa [List.getD_eq_getElem?_getD, h1, hmn] using this
    rw [this, act_zeros]
  rw [hz] at q5
  have qlead := q4 (by omega)
  -- the two elements
  have rl : Rng p (low ++ [1]) := rd.app (Rng.one (by omega) (by omega))
  have xl : ((low ++ [1]) ++ List.replicate (n - d - 1) 0).length = m.toNat := by simp; omega
  have yl : (q ++ List.replicate (d - 1) 0).length = m.toNat := by simp; omega
  have xr := rng_pad h.pos rl (n - d - 1)
  have yr := rng_pad h.pos q2 (d - 1)
  have xe := h.val_el xl xr
  have ye := h.val_el yl yr
  have xv := vec_val h.pos xl xr
  have yd := digs_val h.pos yr
  rw [yl] at yd
  have prod : fmul p m mod (val p (q ++ List.replicate (d - 1) 0)) (val p ((low ++ [1]) ++ List.replicate (n - d - 1) 0)) = 0 := by
    refine h.inj (fmul_el h _ _) (zero_el h) ((fmul_vec h.pos h.m1 _ _).trans ?_)
    rw [yd, xv, vec_zero, act_pad]
    have e : vecZ ((low ++ [1]) ++ List.replicate (n - d - 1) 0) = zadd (act n mod low e0v) (Tp n mod low.length e0v) := by
      have e1 : vecZ ((low ++ [1]) ++ List.replicate (n - d - 1) 0) = act n mod ((low ++ [1]) ++ List.replicate (n - d - 1) 0) e0v := by
        rw [act_e0 (by rw [xl, hnn]; exact Nat.le_refl _)]; rfl
      rw [e1, act_pad, act_app]
      funext j
      simp only [zadd, zsm]
      omega
    rw [e, hnn]
    intro j hj
    obtain ⟨k, hk⟩ := q5 j hj
    simp only [zadd, zzv] at hk
    exact ⟨k, by simp only [zzv]; grind⟩
  have ne : ∀ {l : List Int} {t : Nat}, l.length = m.toNat → Rng p l → l.getD t 0 = 1 → val p l ≠ 0 := fun {l t} hl hr h1 h0 => by
    have := digs_val h.pos hr
    rw [h0, digs_zero] at this
    rw [← this, List.getD_eq_getElem?_getD, List.getElem?_replicate] at h1
    split at h1 <;> simp at h1
  have x0 := ne xl xr (t := d) (by
    have : d = low.length := ld.symm
    subst this
    simp [List.getD_eq_getElem?_getD, List.getElem?_append_left])
  have y0 := ne yl yr (t := n - low.length) (by
    rw [List.getD_eq_getElem?_getD, List.getElem?_append_left (by omega), ← List.getD_eq_getElem?_getD]
    exact qlead)
  have gx : El p m g := ⟨by omega, g2⟩
  obtain ⟨i, hi, ei⟩ := gen_all h ho gx hg (y := val p (q ++ List.replicate (d - 1) 0)) (by have := ye.1; omega) ye.2
  obtain ⟨j, hj, ej⟩ := gen_all h ho gx hg (y := val p ((low ++ [1]) ++ List.replicate (n - d - 1) 0)) (by have := xe.1; omega) xe.2
  rw [ei, ej, pw_add h ho gx, ← pw_mod h ho gx (gen_one h ho gx hg)] at prod
  refine hg.1 _ ?_ prod
  have e1 := (one_el h).2
  have := Nat.mod_lt (i + j) (show 0 < (ordr p m - 1).toNat by omega)
  omega
end Go.Proofs.YtbkpebmcagdgmaaGreat.AM
/-! Products, powers and divisions of lists of digits that the kernel can work out (plain Lean). -/
namespace Go.Proofs.YtbkpebmcagdgmaaGreat.AM
open Go Go.RowKit
set_option linter.unusedVariables false
set_option linter.unusedSimpArgs false
/-- x is worked out before f is called -/
def forceN {α : Type} (x : Nat) (f : Nat → α) : α := match x with
  | 0 => f 0
  | k + 1 => f (k + 1)
theorem forceN_eq {α : Type} (x : Nat) (f : Nat → α) : forceN x f = f x := by cases x <;> rfl
def forceL {α : Type} : List Nat → (List Nat → α) → α
  | [], f => f []
  | x :: xs, f => forceN x fun x' => forceL xs fun xs' => f (x' :: xs')
theorem forceL_eq {α : Type} : ∀ (l : List Nat) (f : List Nat → α), forceL l f = f l
  | [], f => rfl
  | x :: xs, f => by rw [forceL, forceN_eq, forceL_eq xs]
def goN (p t b : Nat) : Nat → List Nat → List Nat → List Nat → List Nat
  | prev, o :: os, ms, x :: xs => ((prev + (p - t) * ms.headD 0 + b * x) % p) :: goN p t b o os ms.tail xs
  | _, _, _, _ => []
def mulN (p n : Nat) (ms a : List Nat) : List Nat → List Nat
  | [] => List.replicate n 0
  | b :: bs => forceL (mulN p n ms a bs) fun out => goN p (out.getD (n - 1) 0) b 0 out ms a
def oneN (n : Nat) : List Nat := 1 :: List.replicate (n - 1) 0
def powN (p n : Nat) (ms g : List Nat) : Nat → Nat → List Nat
  | 0, _ => oneN n
  | f + 1, e => if e = 0 then oneN n else forceL (powN p n ms g f (e / 2)) fun h => forceL (mulN p n ms h h) fun s => if e % 2 = 1 then mulN p n ms s g else s
def divInN (p c i : Nat) (low : List Nat) (j : Nat) (r : List Nat) : List Nat := r.set (i - low.length + j) ((r.getD (i - low.length + j) 0 + (p - c) * low.getD j 0) % p)
def uptoF (f : Nat → List Nat → List Nat) : Nat → List Nat → List Nat
  | 0, a => a
  | n + 1, a => forceL (uptoF f n a) (f n)
def divStepN (p : Nat) (low : List Nat) (i : Nat) (r : List Nat) : List Nat := (uptoF (divInN p (r.getD i 0) i low) low.length r).set i 0
def divRemN (p : Nat) (low ms : List Nat) : List Nat := uptoF (fun k r => divStepN p low (ms.length - k) r) (ms.length + 1 - low.length) (ms ++ [1])
def digN (p : Nat) : Nat → Nat → List Nat
  | 0, _ => []
  | n + 1, x => x % p :: digN p n (x / p)
def allLt (p : Nat) (l : List Nat) : Prop := ∀ i, l.getD i 0 < p
theorem natsI_getD (l : List Nat) (j : Nat) : (natsI l).getD j 0 = ((l.getD j 0 : Nat) : Int) := by
  rw [natsI, List.getD_eq_getElem?_getD, List.getD_eq_getElem?_getD, List.getElem?_map]
  cases l[j]? <;> rfl
theorem natsI_set (l : List Nat) (k x : Nat) : natsI (l.set k x) = (natsI l).set k (x : Int) := by simp [natsI, List.map_set]
theorem natsI_rng {p : Nat} {l : List Nat} (h : allLt p l) : Rng (p : Int) (natsI l) := fun i => by
  rw [natsI_getD]
  have := h i
  omega
theorem natsI_inj {l l' : List Nat} (h : natsI l = natsI l') : l = l' := by
  exact (List.map_inj_right (fun a b h => by omega)).mp h
theorem digN_eq (p : Nat) : ∀ n x, natsI (digN p n x) = digs p n x
  | 0, _ => rfl
  | n + 1, x => by
    rw [digN, digs, natsI, List.map_cons, ← natsI, digN_eq p n]
    simp
theorem digN_length (p : Nat) : ∀ n x, (digN p n x).length = n
  | 0, _ => rfl
  | n + 1, x => by rw [digN, List.length_cons, digN_length p n]
theorem digN_lt {p : Nat} (hp : 0 < p) (n x : Nat) : allLt p (digN p n x) := fun i => by
  have := digs_rng (p := p) (by omega) n x i
  rw [← digN_eq, natsI_getD] at this
  omega
theorem goN_ok {p t b : Nat} (hp : 0 < p) : ∀ (prev : Nat) (os ms xs : List Nat), os.length = xs.length → (goN p t b prev os ms xs).length = os.length ∧
    ∀ j, j < os.length → (goN p t b prev os ms xs).getD j 0 = ((if j = 0 then prev else os.getD (j - 1) 0) + (p - t) * ms.getD j 0 + b * xs.getD j 0) % p
  | prev, [], ms, [], h => ⟨rfl, fun j hj => by simp at hj⟩
  | prev, o :: os, ms, x :: xs, h => by
    obtain ⟨h1, h2⟩ := goN_ok hp o os ms.tail xs (by simpa using h)
    rw [goN]
    refine ⟨by rw [List.length_cons, h1]; rfl, fun j hj => ?_⟩
    cases j with
    | zero =>
      simp only [List.getD_cons_zero, if_true]
      cases ms <;> rfl
    | succ j =>
      rw [List.getD_cons_succ, h2 j (by simpa using hj)]
      have e : ms.tail.getD j 0 = ms.getD (j + 1) 0 := by cases ms <;> rfl
      rw [e, List.getD_cons_succ]
      cases j with
      | zero => rw [if_pos rfl, if_neg (by omega)]; rfl
      | succ j => rw [if_neg (by omega), if_neg (by omega)]; rfl
  | prev, [], ms, _ :: _, h => by simp at h
  | prev, _ :: _, ms, [], h => by simp at h
theorem mulN_ok {p n : Nat} (hp : 0 < p) (hn : 1 ≤ n) {ms a : List Nat} (ha : a.length = n) : ∀ bs : List Nat, (mulN p n ms a bs).length = n ∧ allLt p (mulN p n ms a bs) ∧
    cg p n (vecZ (natsI (mulN p n ms a bs))) (act n (natsI ms) (natsI bs) (vecZ (natsI a)))
  | [] => by
    refine ⟨by simp [mulN], fun i => ?_, fun j hj => ?_⟩
    · rw [mulN, List.getD_eq_getElem?_getD, List.getElem?_replicate]
      split <;> simpa using hp
    · have : vecZ (natsI (mulN p n ms a [])) j = 0 := by
        show (natsI (List.replicate n 0)).getD j 0 = 0
        rw [natsI_getD, List.getD_eq_getElem?_getD, List.getElem?_replicate]
        split <;> rfl
      rw [this]
      exact ⟨0, by simp [natsI, act, zzv]⟩
  | b :: bs => by
    obtain ⟨h1, h2, h3⟩ := mulN_ok hp hn ha (ms := ms) bs
    rw [mulN, forceL_eq]
    generalize mulN p n ms a bs = out at *
    obtain ⟨g1, g2⟩ := goN_ok (t := out.getD (n - 1) 0) (b := b) hp 0 out ms a (by omega)
    have ht := h2 (n - 1)
    refine ⟨by rw [g1, h1], fun i => ?_, ?_⟩
    · by_cases hi : i < out.length
      · rw [g2 i hi]; exact Nat.mod_lt _ hp
      · rw [getD_len _ (by omega)]; exact hp
    · rw [show natsI (b :: bs) = (b : Int) :: natsI bs from rfl, act]
      refine cg.trans (v := zadd (zsm (b : Int) (vecZ (natsI a))) (Tm n (natsI ms) (vecZ (natsI out)))) (fun j hj => ?_) ((cg.refl _).add (h3.T hn))
      have e : vecZ (natsI (goN p (out.getD (n - 1) 0) b 0 out ms a)) j = (((if j = 0 then 0 else ((out.getD (j - 1) 0 : Nat) : Int)) + ((p : Int) - (out.getD (n - 1) 0 : Nat)) * (ms.getD j 0 : Nat) + (b : Int) * (a.getD j 0 : Nat)) % (p : Int)) := by
        show (natsI _).getD j 0 = _
        rw [natsI_getD, g2 j (by omega)]
        have : ((p - out.getD (n - 1) 0 : Nat) : Int) = (p : Int) - (out.getD (n - 1) 0 : Nat) := by omega
        rw [Int.natCast_emod, Int.natCast_add, Int.natCast_add, Int.natCast_mul, Int.natCast_mul, this]
        split <;> rfl
      rw [e]
      obtain ⟨q, hq⟩ := emod_cg (p : Int) ((if j = 0 then 0 else ((out.getD (j - 1) 0 : Nat) : Int)) + ((p : Int) - (out.getD (n - 1) 0 : Nat)) * (ms.getD j 0 : Nat) + (b : Int) * (a.getD j 0 : Nat))
      simp only [zadd, zsm, Tm, if_pos hj, vecZ, natsI_getD]
      exact ⟨q + (ms.getD j 0 : Nat), by grind⟩
section
variable {p n : Nat} {ms : List Nat}
/-- the number of a list of digits -/
theorem mulN_val (h : PM8 (p : Int) (n : Int)) {a b : List Nat} (ha : a.length = n) (hb : b.length = n) (la : allLt p a) (lb : allLt p b) :
    val p (natsI (mulN p n ms a b)) = fmul p n (natsI ms) (val p (natsI a)) (val p (natsI b)) := by
  have hp : 0 < p := by have := h.p2; omega
  have hn : 1 ≤ n := by have := h.m1; omega
  obtain ⟨h1, h2, h3⟩ := mulN_ok hp hn (ms := ms) ha b
  have hnn : ((n : Int)).toNat = n := rfl
  rw [fmul_comm h]
  refine h.inj (h.val_el (by rw [natsI_length, h1]; rfl) (natsI_rng h2)) (fmul_el h _ _) ?_
  rw [vec_val h.pos (by rw [natsI_length, h1]; rfl) (natsI_rng h2)]
  refine cg.trans ?_ (fmul_vec h.pos h.m1 _ _).symm
  have e1 : digs p ((n : Int)).toNat (val p (natsI b)) = natsI b := by
    have := digs_val h.pos (natsI_rng lb)
    rw [natsI_length, hb] at this
    exact this
  rw [e1, vec_val h.pos (by rw [natsI_length, ha]; rfl) (natsI_rng la)]
  exact h3
theorem oneN_ok (h : PM8 (p : Int) (n : Int)) : (oneN n).length = n ∧ allLt p (oneN n) ∧ val p (natsI (oneN n)) = 1 := by
  have hp := h.p2
  have hn : 1 ≤ n := by have := h.m1; omega
  refine ⟨by simp [oneN]; omega, fun i => ?_, ?_⟩
  · cases i with
    | zero => show 1 < p; omega
    | succ i =>
      show (List.replicate (n - 1) 0).getD i 0 < p
      rw [List.getD_eq_getElem?_getD, List.getElem?_replicate]
      split <;> (simp; omega)
  · have hz : ∀ k, val (p : Int) (natsI (List.replicate k 0)) = 0 := fun k => by
      induction k with
      | zero => rfl
      | succ k ih => rw [List.replicate_succ]; show (0 : Int) + p * val p (natsI (List.replicate k 0)) = 0; rw [ih]; simp
    show (1 : Int) + p * val p (natsI (List.replicate (n - 1) 0)) = 1
    rw [hz]; simp
theorem powN_ok (h : PM8 (p : Int) (n : Int)) {g : List Nat} (hg : g.length = n) (lg : allLt p g) (ho : ordr (p : Int) (n : Int) ≠ 0) : ∀ f e, e < 2 ^ f → (powN p n ms g f e).length = n ∧ allLt p (powN p n ms g f e) ∧ val p (natsI (powN p n ms g f e)) = pw p n (natsI ms) (val p (natsI g)) e
  | 0, e, he => by
    have : e = 0 := by simpa using he
    subst this
    exact oneN_ok h
  | f + 1, e, he => by
    have hp : 0 < p := by have := h.p2; omega
    have hn : 1 ≤ n := by have := h.m1; omega
    rw [powN]
    split
    · rename_i h0; subst h0; exact oneN_ok h
    · rename_i h0
      rw [Nat.pow_succ] at he
      obtain ⟨h1, h2, h3⟩ := powN_ok h hg lg ho f (e / 2) (by omega)
      rw [forceL_eq, forceL_eq]
      have gx : El (p : Int) (n : Int) (val p (natsI g)) := h.val_el (by rw [natsI_length, hg]; rfl) (natsI_rng lg)
      generalize powN p n ms g f (e / 2) = w at *
      obtain ⟨s1, s2, -⟩ := mulN_ok hp hn (ms := ms) h1 w
      have s3 := mulN_val (ms := ms) h h1 h1 h2 h2
      rw [h3, pw_add h ho gx] at s3
      split
      · rename_i hodd
        obtain ⟨t1, t2, -⟩ := mulN_ok hp hn (ms := ms) s1 g
        refine ⟨t1, t2, ?_⟩
        rw [mulN_val h s1 hg s2 lg, s3, ← pw_succ h ho gx]
        congr 1
        omega
      · rename_i heven
        refine ⟨s1, s2, ?_⟩
        rw [s3]
        congr 1
        omega
end
theorem uptoF_eq (f : Nat → List Nat → List Nat) : ∀ n a, uptoF f n a = upto f n a
  | 0, a => rfl
  | n + 1, a => by rw [uptoF, forceL_eq, uptoF_eq f n]; rfl
theorem divInN_eq {p c i : Nat} (hc : c < p) (low : List Nat) : ∀ j (r : List Nat), natsI (upto (divInN p c i low) j r) = upto (divIn (p : Int) (natsI low) i (c : Int)) j (natsI r)
  | 0, r => rfl
  | j + 1, r => by
    rw [upto_succ, upto_succ, ← divInN_eq hc low j r, divInN, divIn, natsI_set, natsI_length, natsI_getD, natsI_getD]
    congr 1
    have : ((p - c : Nat) : Int) = (p : Int) - (c : Int) := by omega
    rw [Int.natCast_emod, Int.natCast_add, Int.natCast_mul, this]
theorem divRemN_eq {p : Nat} (hp : 1 < p) {low ms : List Nat} (hm : allLt p ms) : ∀ k, natsI (upto (fun k r => divStepN p low (ms.length - k) r) k (ms ++ [1])) = upto (fun k r => divStep (p : Int) (natsI low) ((natsI ms).length - k) r) k (natsI ms ++ [1])
  | 0 => by simp [upto, natsI]
  | k + 1 => by
    have ih := divRemN_eq hp (low := low) hm k
    have hr := (divRem_ok (p := (p : Int)) (by omega) (low := natsI low) (natsI_rng hm) k).2
    rw [upto_succ, upto_succ, ← ih]
    rw [← ih] at hr
    generalize upto (fun k r => divStepN p low (ms.length - k) r) k (ms ++ [1]) = r at *
    have hc := hr (ms.length - k)
    rw [natsI_getD] at hc
    rw [divStepN, divStep, natsI_set, uptoF_eq, divInN_eq (by omega), natsI_length, natsI_length, natsI_getD]
    rfl
theorem divsN {p : Nat} (hp : 1 < p) {low ms : List Nat} (hm : allLt p ms) (h : (divRemN p low ms).all (fun x => x == 0) = true) : divs (p : Int) (natsI low) (natsI ms) := by
  intro i
  have e := divRemN_eq hp (low := low) hm (ms.length + 1 - low.length)
  rw [divRem, natsI_length, natsI_length]
  rw [natsI_length] at e
  rw [← e, natsI_getD, ← uptoF_eq]
  show ((divRemN p low ms).getD i 0 : Int) = 0
  rw [List.all_eq_true] at h
  by_cases hi : i < (divRemN p low ms).length
  · have := h _ (List.getElem_mem hi)
    simp only [beq_iff_eq] at this
    rw [List.getD_eq_getElem?_getD, List.getElem?_eq_getElem hi]
    simp [this]
  · rw [getD_len _ (by omega)]; rfl
end Go.Proofs.YtbkpebmcagdgmaaGreat.AM
/-! The check of a certificate, and what it shows (plain Lean). -/
namespace Go.Proofs.YtbkpebmcagdgmaaGreat.AM
open Go Go.RowKit
set_option linter.unusedVariables false
set_option linter.unusedSimpArgs false
def eqL : List Nat → List Nat → Bool
  | [], [] => true
  | x :: xs, y :: ys => Nat.beq x y && eqL xs ys
  | _, _ => false
theorem eqL_iff : ∀ {l l' : List Nat}, eqL l l' = true ↔ l = l'
  | [], [] => by simp [eqL]
  | x :: xs, y :: ys => by
    rw [eqL, Bool.and_eq_true, eqL_iff, List.cons.injEq, Nat.beq_eq]
  | [], y :: ys => by simp [eqL]
  | x :: xs, [] => by simp [eqL]
/-- each divisor of N divides one of Ds -/
def okDs (N : Nat) (Ds : List Nat) : Bool := (List.range N).all fun e => Nat.beq e 0 || !(Nat.beq (N % e) 0) || Ds.any fun d => Nat.beq (d % e) 0
def chkGen (p n : Nat) (ms g Ds : List Nat) (N : Nat) : Bool := eqL (powN p n ms g 8 N) (oneN n) && Ds.all fun d => !(eqL (powN p n ms g 8 d) (oneN n))
def chk1 (p n : Nat) (Ds : List Nat) (v c : Nat) : Bool :=
  if c < p ^ n then forceL (digN p n v) fun ms => forceL (digN p n c) fun g => chkGen p n ms g Ds (p ^ n - 1)
  else forceL (digN p n v) fun ms => Nat.ble 1 (c / p ^ n) && Nat.ble (2 * (c / p ^ n)) n && Nat.ble (c % p ^ n + 1) (p ^ (c / p ^ n)) && forceL (digN p (c / p ^ n) (c % p ^ n)) fun low => (divRemN p low ms).all fun x => x == 0
def chkAll (p n : Nat) (Ds : List Nat) : Nat → List Nat → Bool
  | _, [] => true
  | v, c :: cs => chk1 p n Ds v c && forceN (v + 1) fun v' => chkAll p n Ds v' cs
def chkTab (p n : Nat) (Ds : List Nat) (cs : List Nat) : Bool := Nat.beq cs.length (p ^ n) && okDs (p ^ n - 1) Ds && chkAll p n Ds 0 cs
def chkE (p : Nat) (e : Bool × Nat × List Nat) : Bool := match e.1 with
  | true => okDs (p - 1) e.2.2 && Nat.ble (e.2.1 + 1) p && (e.2.2.all fun d => Nat.ble (d + 1) 256) && chkGen p 1 [] [e.2.1] e.2.2 (p - 1)
  | false => Nat.ble 2 e.2.1 && Nat.ble (e.2.1 + 1) p && Nat.beq (p % e.2.1) 0
def chkP : Nat → List (Bool × Nat × List Nat) → Bool
  | _, [] => true
  | p, e :: l => chkE p e && forceN (p + 1) fun p' => chkP p' l
theorem chkAll_at {p n : Nat} {Ds : List Nat} : ∀ {cs : List Nat} {v i : Nat}, chkAll p n Ds v cs = true → i < cs.length → chk1 p n Ds (v + i) (cs.getD i 0) = true
  | [], v, i, _, hi => by simp at hi
  | c :: cs, v, i, h, hi => by
    rw [chkAll, forceN_eq, Bool.and_eq_true] at h
    cases i with
    | zero => exact h.1
    | succ i =>
      have := chkAll_at (i := i) h.2 (by simpa using hi)
      rwa [show v + 1 + i = v + (i + 1) by omega] at this
theorem chkP_at : ∀ {l : List (Bool × Nat × List Nat)} {p i : Nat}, chkP p l = true → i < l.length → ∃ e, chkE (p + i) e = true
  | [], p, i, _, hi => by simp at hi
  | e :: l, p, i, h, hi => by
    rw [chkP, forceN_eq, Bool.and_eq_true] at h
    cases i with
    | zero => exact ⟨e, h.1⟩
    | succ i =>
      have := chkP_at (i := i) h.2 (by simpa using hi)
      rwa [show p + 1 + i = p + (i + 1) by omega] at this
section
variable {p m : Int} {mod : List Int}
theorem pw_gcd (h : PM8 p m) (ho : ordr p m ≠ 0) {x : Int} (hx : El p m x) (a b : Nat) (ha : pw p m mod x a = 1) (hb : pw p m mod x b = 1) : pw p m mod x (Nat.gcd a b) = 1 := by
  induction a, b using Nat.gcd.induction with
  | H0 n => rw [Nat.gcd_zero_left]; exact hb
  | H1 a b ha0 ih =>
    rw [Nat.gcd_rec]
    exact ih (by rw [pw_mod h ho hx ha]; exact hb) ha
theorem pw_ne_zero (h : PM8 p m) (ho : ordr p m ≠ 0) {x : Int} (hx : El p m x) {N : Nat} (h1 : pw p m mod x N = 1) {i : Nat} (hi : i ≤ N) : pw p m mod x i ≠ 0 := fun h0 => by
  have := pw_add (mod := mod) h ho hx (N - i) i
  rw [h0, fmul_zero h, show N - i + i = N by omega, h1] at this
  omega
theorem gen_of_order (h : PM8 p m) (ho : ordr p m ≠ 0) {x : Int} (hx : El p m x) {N : Nat} (hN : (N : Int) = ordr p m - 1) (h1 : pw p m mod x N = 1) {Ds : List Nat} (hD : ∀ d, d ∈ Ds → pw p m mod x d ≠ 1) (hok : okDs N Ds = true) : IsGen p m mod x := by
  have e1 := (one_el h).2
  refine ⟨fun i hi => pw_ne_zero h ho hx h1 (by omega), fun i j hij hj q => ?_, ?_⟩
  · -- two equal powers
    have hd : pw p m mod x (j - i) = 1 := by
      have a := pw_add (mod := mod) h ho hx (N - i) j
      have b := pw_add (mod := mod) h ho hx (N - i) i
      rw [← q, b, show N - i + i = N by omega, h1] at a
      have : pw p m mod x (N - i + j) = pw p m mod x (j - i) := by
        have c := pw_add (mod := mod) h ho hx N (j - i)
        rw [h1, fmul_comm h, fmul_one h (pw_elm ho hx _)] at c
        rw [c]
        congr 1
        omega
      rw [← this, ← a]
    have he := pw_gcd h ho hx (j - i) N hd h1
    have g1 := Nat.gcd_dvd_left (j - i) N
    have g2 := Nat.gcd_dvd_right (j - i) N
    have g3 := Nat.gcd_pos_of_pos_left N (show 0 < j - i by omega)
    have g4 := Nat.le_of_dvd (by omega) g1
    generalize Nat.gcd (j - i) N = e at *
    rw [okDs, List.all_eq_true] at hok
    have := hok e (by simp; omega)
    simp only [Bool.or_eq_true, Bool.not_eq_true', Nat.beq_eq, List.any_eq_true] at this
    rcases this with (h0 | h0) | ⟨d, h2, h3⟩
    · omega
    · rw [Nat.mod_eq_zero_of_dvd g2] at h0
      cases h0
    · refine hD d h2 ?_
      obtain ⟨k, rfl⟩ := Nat.dvd_of_mod_eq_zero h3
      exact pw_mul h ho hx he k
  · rw [pmul_eq ho, ← pw_succ h ho hx, show (ordr p m - 2).toNat + 1 = N by omega, h1]
end
theorem chkGen_ok {p n : Nat} (h : PM8 (p : Int) (n : Int)) (ho : ordr (p : Int) (n : Int) ≠ 0) (hq : p ^ n ≤ 256) {ms g Ds : List Nat} (hg : g.length = n) (lg : allLt p g) (hD : ∀ d, d ∈ Ds → d < 256) (hok : okDs (p ^ n - 1) Ds = true) (hc : chkGen p n ms g Ds (p ^ n - 1) = true) :
    El (p : Int) (n : Int) (val p (natsI g)) ∧ IsGen p n (natsI ms) (val p (natsI g)) := by
  have gx : El (p : Int) (n : Int) (val p (natsI g)) := h.val_el (by rw [natsI_length, hg]; rfl) (natsI_rng lg)
  rw [chkGen, Bool.and_eq_true, eqL_iff, List.all_eq_true] at hc
  obtain ⟨h1, h2⟩ := hc
  have one := oneN_ok h
  have q0 : ordr (p : Int) (n : Int) = ((p ^ n : Nat) : Int) := by
    rw [h.q]; simp
  have qp : 0 < p ^ n := Nat.pow_pos (by have := h.p2; omega)
  refine ⟨gx, gen_of_order h ho gx (N := p ^ n - 1) (by omega) ?_ (Ds := Ds) (fun d hd he => ?_) hok⟩
  · rw [← (powN_ok (ms := ms) h hg lg ho 8 (p ^ n - 1) (by omega)).2.2, h1]
    exact one.2.2
  · have := h2 d hd
    obtain ⟨a1, a2, a3⟩ := powN_ok (ms := ms) h hg lg ho 8 d (by have := hD d hd; omega)
    rw [Bool.not_eq_true', ← Bool.not_eq_true, eqL_iff] at this
    refine this (natsI_inj ?_)
    rw [he] at a3
    have b1 := digs_val h.pos (natsI_rng a2)
    have b2 := digs_val h.pos (natsI_rng one.2.1)
    rw [natsI_length, a1] at b1
    rw [natsI_length, one.1] at b2
    rw [← b1, ← b2, a3, one.2.2]
theorem val_toNat {p : Nat} (hp : 0 < p) {mod : List Int} (hr : Rng (p : Int) mod) : natsI (digN p mod.length (val p mod).toNat) = mod := by
  have hv := (val_lt (show (0 : Int) < p by omega) hr).1
  rw [digN_eq, Int.toNat_of_nonneg hv, digs_val (by omega) hr]
/-- a table shows that its fields have generators -/
theorem tab_gen {p n : Nat} (h : PM8 (p : Int) (n : Int)) (ho : ordr (p : Int) (n : Int) ≠ 0) (hq : p ^ n ≤ 256) {Ds cs : List Nat} (hD : ∀ d, d ∈ Ds → d < 256) (ht : chkTab p n Ds cs = true) {mod : List Int} (hm : mod.length = n) (rm : Rng (p : Int) mod) (hi : irr p mod) :
    ∃ x, El (p : Int) (n : Int) x ∧ IsGen p n mod x := by
  have hp : 1 < p := by have := h.p2; omega
  rw [chkTab, Bool.and_eq_true, Bool.and_eq_true, Nat.beq_eq] at ht
  obtain ⟨⟨t1, t2⟩, t3⟩ := ht
  have hv := val_lt (show (0 : Int) < p by omega) rm
  rw [hm] at hv
  have e0 : ((p : Int)) ^ n = ((p ^ n : Nat) : Int) := by simp
  have hv1 := hv.1
  have hv2 := hv.2
  rw [e0] at hv2
  have hvn : (val p mod).toNat < cs.length := by rw [t1]; omega
  have hc := chkAll_at t3 hvn
  rw [Nat.zero_add] at hc
  have hms := val_toNat (by omega) rm
  rw [hm] at hms
  generalize cs.getD (val p mod).toNat 0 = c at *
  generalize (val p mod).toNat = v at *
  rw [chk1] at hc
  split at hc
  · rw [forceL_eq, forceL_eq] at hc
    have := chkGen_ok h ho hq (digN_length p n c) (digN_lt (by omega) n c) hD t2 hc
    rw [hms] at this
    exact ⟨_, this⟩
  · rw [forceL_eq, forceL_eq] at hc
    simp only [Bool.and_eq_true, Nat.ble_eq] at hc
    obtain ⟨⟨⟨c1, c2⟩, c3⟩, c4⟩ := hc
    exfalso
    have hd := divsN hp (digN_lt (by omega) n v) c4
    rw [hms, digN_eq] at hd
    refine hi (c / p ^ n) c1 (by omega) _ (Int.natCast_nonneg _) ?_ hd
    have : ((p : Int)) ^ (c / p ^ n) = ((p ^ (c / p ^ n) : Nat) : Int) := by simp
    rw [this]
    exact Int.ofNat_lt.mpr c3
theorem prime_gen {p : Nat} (h2 : 2 ≤ p) (h3 : p ≤ 256) (hp : prm (p : Int)) {e : Bool × Nat × List Nat} (hc : chkE p e = true) : ∃ x, El (p : Int) 1 x ∧ IsGen p 1 [] x := by
  obtain ⟨b, g, Ds⟩ := e
  have ho : ordr (p : Int) ((1 : Nat) : Int) ≠ 0 := by
    have e1 : ((p : Int)) ^ (((1 : Nat) : Int)).toNat = p := by
      show (p : Int) ^ 1 = p
      rw [Int.pow_succ, Int.pow_zero, Int.one_mul]
    rw [ordr, if_pos ⟨by omega, by omega, by omega, by rw [e1]; omega⟩, e1]
    omega
  have h := pm8 ho
  cases b with
  | true =>
    simp only [chkE, Bool.and_eq_true, Nat.ble_eq, List.all_eq_true] at hc
    obtain ⟨⟨⟨c1, c2⟩, c3⟩, c4⟩ := hc
    have q1 : p ^ 1 = p := Nat.pow_one p
    have lg : allLt p [g] := fun i => by
      cases i with
      | zero => show g < p; omega
      | succ i => show ([] : List Nat).getD i 0 < p; simp; omega
    have := chkGen_ok (n := 1) (ms := []) (g := [g]) (Ds := Ds) h ho (by omega) rfl lg (fun d hd => by have := c3 d hd; omega) (by rw [q1]; exact c1) (by rw [q1]; exact c4)
    exact ⟨_, this⟩
  | false =>
    simp only [chkE, Bool.and_eq_true, Nat.ble_eq, Nat.beq_eq] at hc
    exfalso
    refine hp g (by omega) (by omega) ?_
    omega
end Go.Proofs.YtbkpebmcagdgmaaGreat.AM
/-! PRINTED by mkfld.py: for each size of field a list of certificates, one for each modulus: a generator, or a divisor; the kernel checks them. -/
namespace Go.Proofs.YtbkpebmcagdgmaaGreat.AM
open Go Go.RowKit
set_option maxRecDepth 100000
def tab2_2 : List Nat := [4, 5, 4, 2]
theorem tabOk2_2 : chkTab 2 2 [1] tab2_2 = true := by kernel_rfl
def tab2_3 : List Nat := [8, 9, 8, 2, 8, 2, 8, 9]
theorem tabOk2_3 : chkTab 2 3 [1] tab2_3 = true := by kernel_rfl
def tab2_4 : List Nat := [16, 17, 16, 2, 16, 35, 16, 17, 16, 2, 16, 17, 16, 17, 16, 3]
theorem tabOk2_4 : chkTab 2 4 [5, 3] tab2_4 = true := by kernel_rfl
def tab2_5 : List Nat := [32, 33, 32, 67, 32, 2, 32, 33, 32, 2, 32, 33, 32, 33, 32, 2, 32, 67, 32, 33, 32, 33, 32, 2, 32, 33, 32, 2, 32, 2, 32, 33]
theorem tabOk2_5 : chkTab 2 5 [1] tab2_5 = true := by kernel_rfl
def tab2_6 : List Nat := [64, 65, 64, 2, 64, 195, 64, 65, 64, 3, 64, 65, 64, 65, 64, 131, 64, 197, 64, 65, 64, 65, 64, 3, 64, 65, 64, 2, 64, 131, 64, 65, 64, 2, 64, 65, 64, 65, 64, 2, 64, 65, 64, 131, 64, 
  2, 64, 65, 64, 65, 64, 2, 64, 3, 64, 65, 64, 131, 64, 65, 64, 65, 64, 195]
theorem tabOk2_6 : chkTab 2 6 [21, 9] tab2_6 = true := by kernel_rfl
def tab2_7 : List Nat := [128, 129, 128, 2, 128, 259, 128, 129, 128, 2, 128, 129, 128, 129, 128, 2, 128, 2, 128, 129, 128, 129, 128, 259, 128, 129, 128, 389, 128, 2, 128, 129, 128, 259, 128, 129, 128, 129, 
  128, 2, 128, 129, 128, 2, 128, 387, 128, 129, 128, 129, 128, 259, 128, 389, 128, 129, 128, 2, 128, 129, 128, 129, 128, 2, 128, 2, 128, 129, 128, 129, 128, 389, 128, 129, 128, 2, 
  128, 259, 128, 129, 128, 129, 128, 2, 128, 2, 128, 129, 128, 387, 128, 129, 128, 129, 128, 259, 128, 129, 128, 387, 128, 2, 128, 129, 128, 259, 128, 129, 128, 129, 128, 2, 128, 2, 
  128, 129, 128, 129, 128, 2, 128, 129, 128, 259, 128, 2, 128, 129]
theorem tabOk2_7 : chkTab 2 7 [1] tab2_7 = true := by kernel_rfl
def tab2_8 : List Nat := [256, 257, 256, 515, 256, 1027, 256, 257, 256, 771, 256, 257, 256, 257, 256, 773, 256, 515, 256, 257, 256, 257, 256, 1033, 256, 257, 256, 3, 256, 2, 256, 257, 256, 773, 256, 257, 
  256, 257, 256, 515, 256, 257, 256, 2, 256, 2, 256, 257, 256, 257, 256, 771, 256, 515, 256, 257, 256, 3, 256, 257, 256, 257, 256, 3, 256, 1033, 256, 257, 256, 257, 256, 771, 256, 
  257, 256, 515, 256, 2, 256, 257, 256, 257, 256, 773, 256, 1039, 256, 257, 256, 515, 256, 257, 256, 257, 256, 2, 256, 257, 256, 2, 256, 2, 256, 257, 256, 2, 256, 257, 256, 257, 
  256, 515, 256, 2, 256, 257, 256, 257, 256, 3, 256, 257, 256, 9, 256, 515, 256, 257, 256, 515, 256, 257, 256, 257, 256, 2, 256, 257, 256, 6, 256, 2, 256, 257, 256, 257, 256, 515, 
  256, 771, 256, 257, 256, 773, 256, 257, 256, 257, 256, 3, 256, 257, 256, 3, 256, 515, 256, 257, 256, 2, 256, 257, 256, 257, 256, 771, 256, 6, 256, 257, 256, 257, 256, 515, 256, 
  257, 256, 1027, 256, 7, 256, 257, 256, 257, 256, 2, 256, 773, 256, 257, 256, 515, 256, 257, 256, 257, 256, 2, 256, 1027, 256, 257, 256, 257, 256, 7, 256, 257, 256, 515, 256, 6, 
  256, 257, 256, 771, 256, 257, 256, 257, 256, 2, 256, 257, 256, 773, 256, 515, 256, 257, 256, 257, 256, 6, 256, 2, 256, 257, 256, 3, 256, 257, 256, 257, 256, 515]
theorem tabOk2_8 : chkTab 2 8 [85, 51, 15] tab2_8 = true := by kernel_rfl
def tab3_2 : List Nat := [9, 4, 10, 9, 11, 3, 9, 10, 3]
theorem tabOk3_2 : chkTab 3 2 [4] tab3_2 = true := by kernel_rfl
def tab3_3 : List Nat := [27, 28, 29, 27, 29, 28, 27, 3, 6, 27, 29, 5, 27, 28, 4, 27, 3, 28, 27, 3, 28, 27, 3, 29, 27, 28, 4]
theorem tabOk3_3 : chkTab 3 3 [13, 2] tab3_3 = true := by kernel_rfl
def tab3_4 : List Nat := [81, 167, 82, 81, 83, 3, 81, 82, 3, 81, 82, 12, 81, 4, 82, 81, 5, 83, 81, 163, 4, 81, 82, 83, 81, 83, 82, 81, 83, 3, 81, 82, 163, 81, 4, 82, 81, 10, 82, 81, 5, 83, 81, 82, 3, 81, 
  82, 83, 81, 83, 82, 81, 170, 3, 81, 82, 3, 81, 4, 82, 81, 83, 163, 81, 10, 83, 81, 82, 3, 81, 4, 82, 81, 83, 82, 81, 167, 3, 81, 82, 83]
theorem tabOk3_4 : chkTab 3 4 [40, 16] tab3_4 = true := by kernel_rfl
def tab3_5 : List Nat := [243, 244, 245, 243, 245, 244, 243, 3, 6, 243, 245, 494, 243, 244, 4, 243, 487, 244, 243, 491, 244, 243, 3, 245, 243, 244, 487, 243, 245, 244, 243, 3, 6, 243, 244, 245, 243, 244, 
  4, 243, 494, 244, 243, 245, 6, 243, 3, 245, 243, 244, 491, 243, 3, 244, 243, 494, 491, 243, 244, 245, 243, 245, 244, 243, 3, 244, 243, 245, 5, 243, 244, 4, 243, 244, 4, 243, 3, 
  244, 243, 4, 245, 243, 245, 5, 243, 244, 4, 243, 3, 244, 243, 3, 244, 243, 3, 245, 243, 244, 4, 243, 244, 245, 243, 245, 244, 243, 487, 494, 243, 244, 487, 243, 3, 244, 243, 245, 
  491, 243, 491, 245, 243, 244, 494, 243, 3, 244, 243, 245, 244, 243, 3, 6, 243, 244, 245, 243, 3, 244, 243, 245, 487, 243, 244, 6, 243, 244, 4, 243, 3, 244, 243, 494, 245, 243, 3, 
  6, 243, 244, 245, 243, 245, 244, 243, 3, 244, 243, 3, 245, 243, 244, 5, 243, 244, 245, 243, 245, 244, 243, 491, 487, 243, 245, 5, 243, 244, 4, 243, 3, 244, 243, 487, 245, 243, 
  244, 4, 243, 494, 244, 243, 245, 244, 243, 3, 6, 243, 244, 245, 243, 244, 494, 243, 491, 244, 243, 245, 5, 243, 244, 4, 243, 487, 244, 243, 3, 245, 243, 3, 6, 243, 244, 245, 243, 
  245, 244, 243, 7, 244, 243, 245, 5, 243, 244, 491]
theorem tabOk3_5 : chkTab 3 5 [121, 22] tab3_5 = true := by kernel_rfl
def tab5_2 : List Nat := [25, 27, 6, 7, 26, 25, 7, 5, 27, 28, 25, 26, 28, 5, 8, 25, 29, 26, 5, 6, 25, 6, 5, 26, 27]
theorem tabOk5_2 : chkTab 5 2 [12, 8] tab5_2 = true := by kernel_rfl
def tab5_3 : List Nat := [125, 126, 128, 127, 129, 125, 9, 126, 129, 6, 125, 6, 127, 126, 7, 125, 128, 5, 5, 126, 125, 127, 5, 5, 128, 125, 7, 5, 128, 127, 125, 126, 129, 5, 6, 125, 129, 126, 127, 128, 
  125, 6, 128, 126, 8, 125, 6, 127, 5, 126, 125, 6, 129, 5, 126, 125, 129, 127, 5, 7, 125, 126, 5, 5, 127, 125, 127, 126, 128, 129, 125, 128, 5, 126, 8, 125, 127, 5, 126, 7, 125, 6, 
  5, 127, 126, 125, 128, 5, 5, 129, 125, 126, 127, 129, 128, 125, 7, 126, 5, 127, 125, 128, 126, 5, 6, 125, 6, 5, 126, 127, 125, 127, 128, 129, 126, 125, 7, 129, 127, 9, 125, 126, 
  5, 128, 6]
theorem tabOk5_3 : chkTab 5 3 [62, 4] tab5_3 = true := by kernel_rfl
def tab7_2 : List Nat := [49, 9, 8, 51, 8, 52, 50, 49, 52, 53, 7, 10, 51, 10, 49, 50, 10, 7, 52, 7, 53, 49, 11, 50, 53, 54, 7, 11, 49, 8, 54, 50, 51, 7, 8, 49, 55, 8, 7, 50, 7, 51, 49, 51, 52, 7, 9, 50, 9]
theorem tabOk7_2 : chkTab 7 2 [24, 16] tab7_2 = true := by kernel_rfl
def tab11_2 : List Nat := [121, 15, 124, 13, 14, 12, 125, 123, 126, 13, 122, 121, 15, 126, 127, 13, 124, 13, 11, 11, 123, 125, 121, 122, 16, 125, 14, 15, 11, 126, 124, 127, 14, 121, 126, 122, 16, 127, 128, 
  11, 125, 11, 12, 12, 121, 128, 11, 122, 123, 17, 126, 11, 16, 12, 127, 121, 12, 11, 13, 122, 127, 123, 17, 128, 129, 12, 121, 12, 11, 13, 128, 122, 129, 12, 123, 124, 18, 121, 
  124, 11, 129, 130, 13, 122, 11, 12, 14, 123, 121, 123, 130, 13, 124, 125, 11, 122, 11, 12, 14, 121, 131, 14, 123, 12, 13, 11, 124, 122, 125, 12, 121, 14, 125, 126, 12, 123, 12, 
  11, 11, 122, 124]
theorem tabOk11_2 : chkTab 11 2 [60, 40, 24] tab11_2 = true := by kernel_rfl
def tab13_2 : List Nat := [169, 174, 15, 175, 172, 14, 14, 15, 17, 171, 173, 15, 170, 169, 173, 13, 17, 15, 15, 174, 172, 17, 175, 176, 171, 17, 169, 170, 175, 16, 176, 173, 13, 13, 16, 18, 172, 174, 16, 
  169, 18, 170, 174, 14, 18, 13, 13, 175, 173, 18, 176, 177, 169, 175, 13, 170, 171, 176, 13, 177, 174, 14, 14, 13, 19, 169, 19, 177, 178, 170, 19, 171, 175, 15, 19, 14, 13, 176, 
  169, 15, 13, 14, 20, 170, 176, 13, 171, 172, 177, 13, 178, 169, 16, 13, 15, 14, 177, 170, 13, 178, 179, 171, 13, 172, 169, 14, 172, 173, 178, 14, 179, 170, 16, 14, 15, 13, 171, 
  169, 171, 13, 179, 180, 172, 13, 173, 170, 17, 14, 13, 15, 169, 15, 180, 171, 17, 15, 13, 13, 172, 170, 15, 173, 174, 169, 181, 173, 14, 174, 171, 13, 13, 14, 16, 170, 172, 14, 
  169, 172, 13, 16, 14, 14, 173, 171, 16, 174, 175, 170, 16]
theorem tabOk13_2 : chkTab 13 2 [84, 56, 24] tab13_2 = true := by kernel_rfl
def tabP : List (Bool × Nat × List Nat) := [(true, 1, []), (true, 2, [1]), (false, 2, []), (true, 2, [2]), (false, 2, []), (true, 3, [3, 2]), (false, 2, []), (false, 3, []), (false, 2, []), (true, 2, [5, 2]), 
  (false, 2, []), (true, 2, [6, 4]), (false, 2, []), (false, 3, []), (false, 2, []), (true, 3, [8]), (false, 2, []), (true, 2, [9, 6]), (false, 2, []), (false, 3, []), 
  (false, 2, []), (true, 5, [11, 2]), (false, 2, []), (false, 5, []), (false, 2, []), (false, 3, []), (false, 2, []), (true, 2, [14, 4]), (false, 2, []), (true, 3, [15, 10, 6]), 
  (false, 2, []), (false, 3, []), (false, 2, []), (false, 5, []), (false, 2, []), (true, 2, [18, 12]), (false, 2, []), (false, 3, []), (false, 2, []), (true, 6, [20, 8]), 
  (false, 2, []), (true, 3, [21, 14, 6]), (false, 2, []), (false, 3, []), (false, 2, []), (true, 5, [23, 2]), (false, 2, []), (false, 7, []), (false, 2, []), (false, 3, []), 
  (false, 2, []), (true, 2, [26, 4]), (false, 2, []), (false, 5, []), (false, 2, []), (false, 3, []), (false, 2, []), (true, 2, [29, 2]), (false, 2, []), (true, 2, [30, 20, 12]), 
  (false, 2, []), (false, 3, []), (false, 2, []), (false, 5, []), (false, 2, []), (true, 2, [33, 22, 6]), (false, 2, []), (false, 3, []), (false, 2, []), (true, 7, [35, 14, 10]), 
  (false, 2, []), (true, 5, [36, 24]), (false, 2, []), (false, 3, []), (false, 2, []), (false, 7, []), (false, 2, []), (true, 3, [39, 26, 6]), (false, 2, []), (false, 3, []), 
  (false, 2, []), (true, 2, [41, 2]), (false, 2, []), (false, 5, []), (false, 2, []), (false, 3, []), (false, 2, []), (true, 3, [44, 8]), (false, 2, []), (false, 7, []), 
  (false, 2, []), (false, 3, []), (false, 2, []), (false, 5, []), (false, 2, []), (true, 5, [48, 32]), (false, 2, []), (false, 3, []), (false, 2, []), (true, 2, [50, 20]), 
  (false, 2, []), (true, 5, [51, 34, 6]), (false, 2, []), (false, 3, []), (false, 2, []), (true, 2, [53, 2]), (false, 2, []), (true, 6, [54, 36]), (false, 2, []), (false, 3, []), 
  (false, 2, []), (true, 3, [56, 16]), (false, 2, []), (false, 5, []), (false, 2, []), (false, 3, []), (false, 2, []), (false, 7, []), (false, 2, []), (false, 11, []), 
  (false, 2, []), (false, 3, []), (false, 2, []), (false, 5, []), (false, 2, []), (true, 3, [63, 42, 18]), (false, 2, []), (false, 3, []), (false, 2, []), (true, 2, [65, 26, 10]), 
  (false, 2, []), (false, 7, []), (false, 2, []), (false, 3, []), (false, 2, []), (true, 3, [68, 8]), (false, 2, []), (true, 2, [69, 46, 6]), (false, 2, []), (false, 3, []), 
  (false, 2, []), (false, 11, []), (false, 2, []), (false, 5, []), (false, 2, []), (false, 3, []), (false, 2, []), (true, 2, [74, 4]), (false, 2, []), (true, 6, [75, 50, 30]), 
  (false, 2, []), (false, 3, []), (false, 2, []), (false, 5, []), (false, 2, []), (true, 5, [78, 52, 12]), (false, 2, []), (false, 3, []), (false, 2, []), (false, 7, []), 
  (false, 2, []), (true, 2, [81, 54]), (false, 2, []), (false, 3, []), (false, 2, []), (true, 5, [83, 2]), (false, 2, []), (false, 13, []), (false, 2, []), (false, 3, []), 
  (false, 2, []), (true, 2, [86, 4]), (false, 2, []), (false, 5, []), (false, 2, []), (false, 3, []), (false, 2, []), (true, 2, [89, 2]), (false, 2, []), (true, 2, [90, 60, 36]), 
  (false, 2, []), (false, 3, []), (false, 2, []), (false, 5, []), (false, 2, []), (false, 11, []), (false, 2, []), (false, 3, []), (false, 2, []), (true, 19, [95, 38, 10]), 
  (false, 2, []), (true, 5, [96, 64]), (false, 2, []), (false, 3, []), (false, 2, []), (true, 2, [98, 28]), (false, 2, []), (true, 3, [99, 66, 18]), (false, 2, []), (false, 3, []), 
  (false, 2, []), (false, 7, []), (false, 2, []), (false, 5, []), (false, 2, []), (false, 3, []), (false, 2, []), (false, 11, []), (false, 2, []), (true, 2, [105, 70, 42, 30]), 
  (false, 2, []), (false, 3, []), (false, 2, []), (false, 5, []), (false, 2, []), (false, 7, []), (false, 2, []), (false, 3, []), (false, 2, []), (false, 13, []), (false, 2, []), 
  (true, 3, [111, 74, 6]), (false, 2, []), (false, 3, []), (false, 2, []), (true, 2, [113, 2]), (false, 2, []), (true, 6, [114, 76, 12]), (false, 2, []), (false, 3, []), 
  (false, 2, []), (true, 3, [116, 8]), (false, 2, []), (false, 5, []), (false, 2, []), (false, 3, []), (false, 2, []), (true, 7, [119, 34, 14]), (false, 2, []), 
  (true, 7, [120, 80, 48]), (false, 2, []), (false, 3, []), (false, 2, []), (false, 5, []), (false, 2, []), (false, 13, []), (false, 2, []), (false, 3, []), (false, 2, []), 
  (true, 6, [125, 50]), (false, 2, []), (false, 11, []), (false, 2, []), (false, 3, []), (false, 2, [])]
theorem tabPOk : chkP 2 tabP = true := by kernel_rfl
theorem tabP_len : tabP.length = 255 := by kernel_rfl
end Go.Proofs.YtbkpebmcagdgmaaGreat.AM
/-! PRINTED by mkfld.py: every field has a generator: by the tables. -/
namespace Go.Proofs.YtbkpebmcagdgmaaGreat.AM
open Go Go.RowKit
set_option linter.unusedVariables false
set_option linter.unusedSimpArgs false
theorem fieldTab {P M : Nat} {mod : List Int} (hF : FieldOk (P : Int) (M : Int) mod) (hM : M ≠ 1) {Ds cs : List Nat} (hD : ∀ d, d ∈ Ds → d < 256) (hq : P ^ M ≤ 256) (ht : chkTab P M Ds cs = true) : ∃ x, 1 ≤ x ∧ x < ordr (P : Int) (M : Int) ∧ IsGen P M mod x := by
  obtain ⟨h1, h2, h3⟩ := hF
  rcases h3 with ⟨h4, -⟩ | ⟨h4, h5, h6, h7⟩
  · omega
  · have h := pm8 h1
    obtain ⟨x, hx, hg⟩ := tab_gen h h1 hq hD ht (by omega) h6 h7
    refine ⟨x, ?_, hx.2, hg⟩
    have h0 := hx.1
    have e1 := (one_el h).2
    have := hg.2.2
    by_cases hz : x = 0
    · rw [hz, pmul_eq h1, fmul_zero h] at this
      omega
    · omega
theorem gen_ex : GenEx := fun p m mod hF => by
  obtain ⟨o1, o2, o3, o4, o5⟩ := ordr_pos hF.1
  have o6 := ordr_p hF.1
  have hprm := hF.2.1
  obtain ⟨P, rfl⟩ : ∃ P : Nat, p = P := ⟨p.toNat, by omega⟩
  obtain ⟨M, rfl⟩ : ∃ M : Nat, m = M := ⟨m.toNat, by omega⟩
  by_cases hM : M = 1
  · subst hM
    have hmod : mod = [] := by
      rcases hF.2.2 with ⟨-, q⟩ | ⟨q, -⟩
      · exact q
      · exact absurd rfl q
    subst hmod
    obtain ⟨e, he⟩ := chkP_at (i := P - 2) tabPOk (by rw [tabP_len]; omega)
    rw [show 2 + (P - 2) = P by omega] at he
    obtain ⟨x, hx, hg⟩ := prime_gen (by omega) (by omega) hprm he
    refine ⟨x, ?_, hx.2, hg⟩
    have h0 := hx.1
    have h := pm8 hF.1
    have := hg.2.2
    by_cases hz : x = 0
    · rw [hz, show ((1 : Int)) = ((1 : Nat) : Int) from rfl, pmul_eq hF.1, fmul_zero h] at this
      have : (0 : Int) = 1 := this
      omega
    · omega
  have o4' : (P : Int) ^ M ≤ 256 := o4
  have hP : P ≤ 16 := by
    apply Classical.byContradiction
    intro q
    have h1 : (P : Int) ^ 2 ≤ (P : Int) ^ M := ipow_mono (by omega) (by omega)
    have h2 : (P : Int) ^ 2 = P * P := by rw [Int.pow_succ, Int.pow_succ, Int.pow_zero, Int.one_mul]
    have h3 : (17 : Int) * 17 ≤ P * P := Int.mul_le_mul (by omega) (by omega) (by omega) (by omega)
    omega
  have hPs : P = 2 ∨ P = 3 ∨ P = 4 ∨ P = 5 ∨ P = 6 ∨ P = 7 ∨ P = 8 ∨ P = 9 ∨ P = 10 ∨ P = 11 ∨ P = 12 ∨ P = 13 ∨ P = 14 ∨ P = 15 ∨ P = 16 := by omega
  have hMs : M = 2 ∨ M = 3 ∨ M = 4 ∨ M = 5 ∨ M = 6 ∨ M = 7 ∨ M = 8 := by omega
  rcases hPs with rfl | rfl | rfl | rfl | rfl | rfl | rfl | rfl | rfl | rfl | rfl | rfl | rfl | rfl | rfl
  · rcases hMs with rfl | rfl | rfl | rfl | rfl | rfl | rfl
    · exact fieldTab hF (by omega) (by decide) (by decide) tabOk2_2
    · exact fieldTab hF (by omega) (by decide) (by decide) tabOk2_3
    · exact fieldTab hF (by omega) (by decide) (by decide) tabOk2_4
    · exact fieldTab hF (by omega) (by decide) (by decide) tabOk2_5
    · exact fieldTab hF (by omega) (by decide) (by decide) tabOk2_6
    · exact fieldTab hF (by omega) (by decide) (by decide) tabOk2_7
    · exact fieldTab hF (by omega) (by decide) (by decide) tabOk2_8
  · rcases hMs with rfl | rfl | rfl | rfl | rfl | rfl | rfl
    · exact fieldTab hF (by omega) (by decide) (by decide) tabOk3_2
    · exact fieldTab hF (by omega) (by decide) (by decide) tabOk3_3
    · exact fieldTab hF (by omega) (by decide) (by decide) tabOk3_4
    · exact fieldTab hF (by omega) (by decide) (by decide) tabOk3_5
    · exact absurd o4' (by decide)
    · exact absurd o4' (by decide)
    · exact absurd o4' (by decide)
  · exact absurd (by decide) (hprm 2 (by decide) (by decide))
  · rcases hMs with rfl | rfl | rfl | rfl | rfl | rfl | rfl
    · exact fieldTab hF (by omega) (by decide) (by decide) tabOk5_2
    · exact fieldTab hF (by omega) (by decide) (by decide) tabOk5_3
    · exact absurd o4' (by decide)
    · exact absurd o4' (by decide)
    · exact absurd o4' (by decide)
    · exact absurd o4' (by decide)
    · exact absurd o4' (by decide)
  · exact absurd (by decide) (hprm 2 (by decide) (by decide))
  · rcases hMs with rfl | rfl | rfl | rfl | rfl | rfl | rfl
    · exact fieldTab hF (by omega) (by decide) (by decide) tabOk7_2
    · exact absurd o4' (by decide)
    · exact absurd o4' (by decide)
    · exact absurd o4' (by decide)
    · exact absurd o4' (by decide)
    · exact absurd o4' (by decide)
    · exact absurd o4' (by decide)
  · exact absurd (by decide) (hprm 2 (by decide) (by decide))
  · exact absurd (by decide) (hprm 3 (by decide) (by decide))
  · exact absurd (by decide) (hprm 2 (by decide) (by decide))
  · rcases hMs with rfl | rfl | rfl | rfl | rfl | rfl | rfl
    · exact fieldTab hF (by omega) (by decide) (by decide) tabOk11_2
    · exact absurd o4' (by decide)
    · exact absurd o4' (by decide)
    · exact absurd o4' (by decide)
    · exact absurd o4' (by decide)
    · exact absurd o4' (by decide)
    · exact absurd o4' (by decide)
  · exact absurd (by decide) (hprm 2 (by decide) (by decide))
  · rcases hMs with rfl | rfl | rfl | rfl | rfl | rfl | rfl
    · exact fieldTab hF (by omega) (by decide) (by decide) tabOk13_2
    · exact absurd o4' (by decide)
    · exact absurd o4' (by decide)
    · exact absurd o4' (by decide)
    · exact absurd o4' (by decide)
    · exact absurd o4' (by decide)
    · exact absurd o4' (by decide)
  · exact absurd (by decide) (hprm 2 (by decide) (by decide))
  · exact absurd (by decide) (hprm 3 (by decide) (by decide))
  · exact absurd (by decide) (hprm 2 (by decide) (by decide))
theorem alg : Alg := alg_of gen_ex gen_irr
end Go.Proofs.YtbkpebmcagdgmaaGreat.AM
/-! The row's wrap and the algebra of the small fields, together: what each law's proof imports. -/

/-! A block laid aside over a call. -/
namespace Go.Proofs.YtbkpebmcagdgmaaGreat.AM
open Go Go.RowKit
set_option linter.unusedVariables false
set_option linter.unusedSimpArgs false
/-- A call cannot turn a block that it is not told of. -/
theorem AC.frame {P : Program} {f : FuncId} {args : List AV} {H : AH} {b : Nat} {xs : List AV} {Q : AV → AH → Prop} (hb : H b = .rw xs) (h : AC P f args (H.upd b .dead) fun v H' => Q v (H'.upd b (.rw xs))) : AC P f args H Q := by
  refine ⟨h.1, fun w argv hR hA => ?_⟩
  have hbl : b < w.heap.size := not_free_lt hR (by rw [hb]; exact fun q => by cases q)
  refine (h.2 w argv (hR.kill hbl) hA).mono ?_
  rintro e w' ⟨v, r, H', rfl, hQ, hR', hv, hS⟩
  have same : w'.heap[b]? = w.heap[b]? := hS.keep b hbl (fun xs q => by rw [upd_same] at q; cases q)
  refine ⟨v, r, _, rfl, hQ, ⟨fun c hc => ?_, fun c o u hc => ?_, fun c us hc => ?_⟩, hv, ⟨hS.os, hS.tape, hS.output, hS.pres, fun c hc hn => ?_, fun c hc hf => ?_, fun c hc hn => ?_⟩⟩
  · have : c ≠ b := fun q => by subst q; have := hS.pres.1; omega
    rw [upd_ne _ _ this]; exact hR'.fresh c hc
  · by_cases q : c = b
    · subst q
      have hc' : H.cell c o = some u := by simp only [AH.cell, upd_same] at hc; simp only [AH.cell, hb]; exact hc
      obtain ⟨arr, ty, fr, x, h1, h2, h3⟩ := hR.cell c o u hc'
      exact ⟨arr, ty, fr, x, same.trans h1, h2, h3.mono hS.pres⟩
    · have hc' : H'.cell c o = some u := by simpa only [AH.cell, upd_ne _ _ q] using hc
      exact hR'.cell c o u hc'
  · by_cases q : c = b
    · subst q
      rw [upd_same] at hc
      cases hc
      obtain ⟨arr, ty, h1, h2⟩ := hR.own c _ hb
      exact ⟨arr, ty, same.trans h1, h2⟩
    · rw [upd_ne _ _ q] at hc
      exact hR'.own c us hc
  · have q : c ≠ b := fun q => by subst q; exact hn _ hb
    exact hS.keep c hc (fun xs w => by rw [upd_ne _ _ q] at w; exact hn xs w)
  · have q : c ≠ b := fun q => by subst q; rw [hb] at hf; cases hf
    rw [upd_ne _ _ q]
    exact hS.free c hc (by rw [upd_ne _ _ q]; exact hf)
  · have q : c ≠ b := fun q => by subst q; exact hn _ hb
    intro xs
    rw [upd_ne _ _ q]
    exact hS.rw_ c hc (fun xs w => by rw [upd_ne _ _ q] at w; exact hn xs w) xs
section
variable {H H' : AH} {b : Nat} {s : Slot}
theorem Ext.back (hE : Ext (H.upd b .dead) H') : H' b = .dead := by
  have := hE b (by rw [upd_same]; exact fun q => by cases q)
  rwa [upd_same] at this
theorem Ext.redead (hE : Ext (H.upd b s) H') (hb : H b = .dead) : Ext H (H'.upd b .dead) := fun c hc => by
  by_cases q : c = b
  · subst q; rw [upd_same, hb]
  · rw [upd_ne _ _ q]
    have := hE c (by rw [upd_ne _ _ q]; exact hc)
    rwa [upd_ne _ _ q] at this
theorem Ext.undead (hE : Ext (H.upd b .dead) H') : Ext H (H'.upd b (H b)) := fun c hc => by
  by_cases q : c = b
  · subst q; rw [upd_same]
  · rw [upd_ne _ _ q]
    have := hE c (by rw [upd_ne _ _ q]; exact hc)
    rwa [upd_ne _ _ q] at this
theorem Sl.dead {v : AV} {us : List AV} (h : Sl H v us) (hb : H b = .dead) (s : Slot) : Sl (H.upd b s) v us := by
  rcases h with h | ⟨c, o, cp, h1, h2⟩
  · exact .inl h
  · refine .inr ⟨c, o, cp, h1, fun i u hu => ?_⟩
    have := h2 i u hu
    have q : c ≠ b := fun q => by subst q; simp only [AH.cell, hb] at this; cases this
    simpa only [AH.cell, upd_ne _ _ q] using this
theorem Rows.dead {v : AV} {us : List AV} {l : List (List Int)} (h : Rows H v us l) (hb : H b = .dead) (s : Slot) : Rows (H.upd b s) v us l := ⟨h.sl.dead hb s, h.len, fun i hi => (h.row i hi).dead hb s⟩
theorem GFA.dead {bg : Nat} {p m : Int} {mod : List Int} (h : GFA H bg p m mod) (hb : H b = .dead) (s : Slot) : GFA (H.upd b s) bg p m mod := by
  obtain ⟨md, x, ev, lv, lg, h1, h2, h3, h4, h5⟩ := h
  have q : bg ≠ b := fun q => by subst q; rw [hb] at h1; cases h1
  exact ⟨md, x, ev, lv, lg, by rw [upd_ne _ _ q]; exact h1, h2.dead hb s, h3.dead hb s, h4.dead hb s, h5⟩
end
end Go.Proofs.YtbkpebmcagdgmaaGreat.AM
/-! Two matrices in standard form, each the other's kernel: their ranks (plain law). -/
namespace Go.Proofs.YtbkpebmcagdgmaaGreat.AM
set_option linter.unusedVariables false
set_option linter.unusedSimpArgs false
section
variable {K : Type} [Fd K]
/-- a linear form -/
structure LinF (b : Vc K → K) : Prop where
  add : ∀ v w, b (va v w) = Fd.add (b v) (b w)
  smul : ∀ c v, b (vs c v) = Fd.mul c (b v)
theorem LinF.zero {b : Vc K → K} (h : LinF b) : b vz = Fd.z := by
  have := h.smul Fd.z vz
  rwa [vs_z, Fd.z_mul] at this
theorem LinF.spn {b : Vc K → K} (h : LinF b) {V : Nat → Vc K} {S : Nat → Prop} {v : Vc K} (hv : Spn V S v) (hz : ∀ j, S j → b (V j) = Fd.z) : b v = Fd.z := by
  induction hv with
  | zero => exact h.zero
  | step c hj _ ih => rw [h.add, h.smul, ih, hz _ hj, Fd.mul_z, Fd.add_z]
theorem LinF.const0 : LinF (fun _ : Vc K => Fd.z) := ⟨fun v w => (Fd.add_z _).symm, fun c v => (Fd.mul_z c).symm⟩
theorem LinF.coord (i : Nat) : LinF (fun v : Vc K => v i) := ⟨fun v w => rfl, fun c v => rfl⟩
theorem add4 (a b c d : K) : Fd.add (Fd.add a b) (Fd.add c d) = Fd.add (Fd.add a c) (Fd.add b d) := by
  rw [Fd.add_assoc, Fd.add_left_comm b, ← Fd.add_assoc]
theorem LinF.plus {b b' : Vc K → K} (h : LinF b) (h' : LinF b') (c : K) : LinF (fun v => Fd.add (b v) (Fd.mul c (b' v))) := by
  refine ⟨fun v w => ?_, fun d v => ?_⟩
  · rw [h.add, h'.add, Fd.mul_add, add4]
  · rw [h.smul, h'.smul, Fd.mul_add, ← Fd.mul_assoc, Fd.mul_comm c d, Fd.mul_assoc]
/-- V is the identity at the positions P, W at the others; there they are each other's negated transposes -/
structure Std (V W : Nat → Vc K) (n : Nat) (P : Nat → Prop) (ix : Nat → Nat) : Prop where
  vp : ∀ j, j < n → P j → ∀ r, V j r = if r = ix j then Fd.u else Fd.z
  wn : ∀ j, j < n → ¬ P j → ∀ r, W j r = if r = ix j then Fd.u else Fd.z
  vw : ∀ j c, j < n → c < n → P j → ¬ P c → W j (ix c) = Fd.neg (V c (ix j))
  ip : ∀ j k, j < n → k < n → P j → P k → ix j = ix k → j = k
  inn : ∀ j k, j < n → k < n → ¬ P j → ¬ P k → ix j = ix k → j = k
variable {V W : Nat → Vc K} {n : Nat} {P : Nat → Prop} {ix : Nat → Nat}
open Classical in
theorem Std.form (h : Std V W n P ix) {T : Nat → Prop} (hT : ∀ t, T t → t < n) {v : Vc K} (hv : Spn V T v) :
    ∃ (a : Nat → K) (b : Vc K → K), LinF b ∧ (∀ j, ¬ T j → a j = Fd.z) ∧ (∀ j, j < n → ¬ P j → b (W j) = a j) ∧ ∀ j, j < n → P j → b (W j) = Fd.add (a j) (Fd.neg (v (ix j))) := by
  induction hv with
  | zero => exact ⟨fun _ => Fd.z, fun _ => Fd.z, LinF.const0, fun _ _ => rfl, fun _ _ _ => rfl, fun j _ _ => by
      show Fd.z = Fd.add Fd.z (Fd.neg Fd.z)
      rw [Fd.add_neg]⟩
  | @step t w c ht hw ih =>
    obtain ⟨a, b, hb, ha, h1, h2⟩ := ih
    have htn := hT t ht
    have ha' : ∀ j, ¬ T j → (if j = t then Fd.add (a j) c else a j) = Fd.z := fun j hj => by
      rw [if_neg (fun q => hj (by rw [q]; exact ht))]
      exact ha j hj
    by_cases hp : P t
    · refine ⟨fun j => if j = t then Fd.add (a j) c else a j, b, hb, ha', fun j hj hn => ?_, fun j hj hpj => ?_⟩
      · dsimp only
        rw [if_neg (fun q => hn (by rw [q]; exact hp))]
        exact h1 j hj hn
      · dsimp only
        rw [h2 j hj hpj]
        simp only [va, vs]
        rw [h.vp t htn hp]
        by_cases q : j = t
        · subst q
          rw [if_pos rfl, if_pos rfl, Fd.mul_u, Fd.neg_add', add4, Fd.add_neg, Fd.add_z]
        · rw [if_neg q, if_neg (fun w => q (h.ip j t hj htn hpj hp w)), Fd.mul_z, Fd.add_z]
    · refine ⟨fun j => if j = t then Fd.add (a j) c else a j, fun v => Fd.add (b v) (Fd.mul c (v (ix t))), hb.plus (LinF.coord (ix t)) c, ha', fun j hj hn => ?_, fun j hj hpj => ?_⟩
      · dsimp only
        rw [h1 j hj hn, h.wn j hj hn]
        by_cases q : j = t
        · subst q
          rw [if_pos rfl, if_pos rfl, Fd.mul_u]
        · rw [if_neg q, if_neg (fun w => q (h.inn j t hj htn hn hp w.symm)), Fd.mul_z, Fd.add_z]
      · have hne : j ≠ t := fun q => hp (by rw [← q]; exact hpj)
        dsimp only
        rw [h2 j hj hpj, if_neg hne, h.vw j t hj htn hpj hp]
        simp only [va, vs]
        rw [Fd.neg_add', Fd.mul_neg, Fd.add_assoc]
open Classical in
/-- a position cannot be spanned in both, by sets that do not meet -/
theorem Std.apart (h : Std V W n P ix) {S T : Nat → Prop} {p : Nat} (hp : p < n) (hT : ∀ t, T t → t < n) (hpT : ¬ T p) (hS : ∀ s, S s → s < n ∧ ¬ T s ∧ s ≠ p) (hv : Spn V T (V p)) (hw : Spn W S (W p)) : False := by
  obtain ⟨a, b, hb, ha, h1, h2⟩ := h.form hT hv
  have key : ∃ b' : Vc K → K, LinF b' ∧ ∀ j, j < n → b' (W j) = Fd.add (if j = p then Fd.u else Fd.z) (Fd.neg (a j)) := by
    by_cases q : P p
    · refine ⟨fun v => Fd.add Fd.z (Fd.mul (Fd.neg Fd.u) (b v)), LinF.const0.plus hb _, fun j hj => ?_⟩
      dsimp only
      rw [Fd.z_add, Fd.neg_mul, Fd.u_mul]
      by_cases w : P j
      · rw [h2 j hj w, h.vp p hp q, Fd.neg_add', Fd.neg_neg, Fd.add_comm]
        congr 1
        by_cases e : j = p
        · rw [if_pos e, if_pos (by rw [e])]
        · rw [if_neg e, if_neg (fun x => e (h.ip j p hj hp w q x))]
      · rw [h1 j hj w, if_neg (fun e => w (by rw [e]; exact q)), Fd.z_add]
    · refine ⟨fun v => Fd.add (v (ix p)) (Fd.mul (Fd.neg Fd.u) (b v)), (LinF.coord (ix p)).plus hb _, fun j hj => ?_⟩
      dsimp only
      rw [Fd.neg_mul, Fd.u_mul]
      by_cases w : P j
      · rw [h2 j hj w, h.vw j p hj hp w q, if_neg (fun e => q (by rw [← e]; exact w)), Fd.neg_add', Fd.neg_neg, Fd.add_left_comm, Fd.neg_add, Fd.add_z, Fd.z_add]
      · rw [h1 j hj w, h.wn j hj w]
        congr 1
        by_cases e : j = p
        · rw [if_pos e, if_pos (by rw [e])]
        · rw [if_neg e, if_neg (fun x => e (h.inn j p hj hp w q x.symm))]
  obtain ⟨b', hb', hk⟩ := key
  have hz := hb'.spn hw fun s hs => by
    obtain ⟨s1, s2, s3⟩ := hS s hs
    rw [hk s s1, if_neg s3, ha s s2, Fd.neg_z, Fd.add_z]
  rw [hk p hp, if_pos rfl, ha p hpT, Fd.neg_z, Fd.add_z] at hz
  exact Fd.u_ne hz
end
end Go.Proofs.YtbkpebmcagdgmaaGreat.AM
/-! Reduced matrices stay as they are; the kernel's matrix and its ranks (plain law). -/
namespace Go.Proofs.YtbkpebmcagdgmaaGreat.AM
open Go Go.RowKit
set_option linter.unusedVariables false
set_option linter.unusedSimpArgs false
/-- a reduced matrix without zero rows, and its pivots -/
structure Red (n : Nat) (l : List (List Int)) (piv : List Nat) : Prop where
  rect : Rect n l
  len : piv.length = l.length
  lt : ∀ i, i < l.length → piv.getD i 0 < n
  asc : ∀ i j, i < j → j < l.length → piv.getD i 0 < piv.getD j 0
  pv : ∀ i r, i < l.length → r < l.length → ent l r (piv.getD i 0) = if r = i then 1 else 0
  lo : ∀ r j, r < l.length → j < piv.getD r 0 → ent l r j = 0
theorem ent_take {l : List (List Int)} {k i : Nat} (hi : i < k) (j : Nat) : ent (l.take k) i j = ent l i j := by rw [ent, rowAt_take hi]; rfl
section
variable {F : FOps} (h : F.Ok)
theorem elimStep_snd (c : Nat) (s : List (List Int) × List Nat) : (elimStep F c s).2 = s.2 ++ [c] ∨ (elimStep F c s).2 = s.2 := by
  simp only [elimStep]
  split
  · exact .inl rfl
  · exact .inr rfl
include h in
theorem elim_asc {n : Nat} {rows : List (List Int)} (hr : Rect n rows) (he : Els F rows) : ∀ c i j, i < j → j < (elim F rows c).2.length → (elim F rows c).2.getD i 0 < (elim F rows c).2.getD j 0
  | 0 => fun i j h1 h2 => by simp [elim, uptoN] at h2
  | c + 1 => fun i j h1 h2 => by
    have ih := elim_asc hr he c
    have hlt := (elim_inv h hr he c).lt
    rw [elim_succ] at h2 ⊢
    rcases elimStep_snd (F := F) c (elim F rows c) with e | e
    · rw [e] at h2 ⊢
      rw [List.length_append, List.length_singleton] at h2
      rw [getD_app, getD_app, if_pos (show i < (elim F rows c).2.length by omega)]
      by_cases q : j < (elim F rows c).2.length
      · rw [if_pos q]; exact ih i j h1 q
      · rw [if_neg q, if_pos (by omega)]; exact hlt i (by omega)
    · rw [e] at h2 ⊢
      exact ih i j h1 h2
include h in
theorem canon_red {n : Nat} {rows : List (List Int)} (hr : Rect n rows) (he : Els F rows) : Red n (canon F rows n).1 (canon F rows n).2 := by
  have inv := elim_inv h hr he n
  have hl : (canon F rows n).1.length = (elim F rows n).2.length := by
    rw [canon, List.length_take]
    have := inv.le
    omega
  have e2 : (canon F rows n).2 = (elim F rows n).2 := rfl
  have e1 : ∀ i j, i < (elim F rows n).2.length → ent (canon F rows n).1 i j = ent (elim F rows n).1 i j := fun i j hi => ent_take hi j
  refine ⟨fun i hi => ?_, by rw [hl, e2], fun i hi => ?_, fun i j h1 h2 => ?_, fun i r h1 h2 => ?_, fun r j h1 h2 => ?_⟩
  · rw [hl] at hi
    have := inv.le
    rw [canon, rowAt_take hi]
    exact inv.rect i (by omega)
  · rw [e2]; exact inv.lt i (by omega)
  · rw [e2]; exact elim_asc h hr he n i j h1 (by omega)
  · rw [e2, e1 r _ (by omega)]; exact inv.pv i r (by omega)
  · rw [e1 r _ (by omega)]; exact inv.lo r j (by omega) (by rw [← e2]; exact h2)
include h in
theorem canon_els {n : Nat} {rows : List (List Int)} (hr : Rect n rows) (he : Els F rows) : Els F (canon F rows n).1 := fun i j => by
  by_cases hi : i < (elim F rows n).2.length
  · have : ent (canon F rows n).1 i j = ent (elim F rows n).1 i j := ent_take hi j
    rw [this]
    exact (elim_inv h hr he n).els i j
  · rw [ent_ge j (by rw [canon, List.length_take]; omega)]
    exact h.el0
theorem set_rowAt {l : List (List Int)} {k : Nat} (hk : k < l.length) : l.set k (rowAt l k) = l := by
  refine List.ext_getElem (by simp) fun i h1 h2 => ?_
  rw [List.getElem_set]
  split
  · rename_i q
    subst q
    simp [rowAt, List.getD_eq_getElem?_getD, h2]
  · rfl
theorem tab_rowAt (l : List (List Int)) : tabN l.length (rowAt l) = l := by
  refine List.ext_getElem (by rw [tabN_length]) fun i h1 h2 => ?_
  simp [tabN, rowAt, List.getD_eq_getElem?_getD, h2]
theorem tabN_congr {α : Type} {n : Nat} {f g : Nat → α} (h : ∀ i, i < n → f i = g i) : tabN n f = tabN n g := List.map_congr_left fun i hi => h i (List.mem_range.mp hi)
theorem red_elim {n : Nat} {l : List (List Int)} {piv : List Nat} (hR : Red n l piv) : ∀ c, ∃ k, k ≤ l.length ∧ elim F l c = (l, piv.take k) ∧ (∀ i, i < k → piv.getD i 0 < c) ∧ ∀ i, k ≤ i → i < l.length → c ≤ piv.getD i 0
  | 0 => ⟨0, Nat.zero_le _, rfl, fun i hi => by omega, fun i _ _ => Nat.zero_le _⟩
  | c + 1 => by
    obtain ⟨k, h1, h2, h3, h4⟩ := red_elim hR c
    have hlen : (piv.take k).length = k := by rw [List.length_take, hR.len]; omega
    rw [elim_succ, h2]
    by_cases hc : k < l.length ∧ piv.getD k 0 = c
    · obtain ⟨hk, hc⟩ := hc
      have one : ent l k c = 1 := by rw [← hc, hR.pv k k hk hk, if_pos rfl]
      have hz : ∀ i, i < l.length → i ≠ k → ent l i c = 0 := fun i hi hne => by rw [← hc, hR.pv k i hk hi, if_neg hne]
      have hf : firstNZ l c (l.length - k) k = k := firstNZ_eq k (Nat.le_refl _) (fun i h1 h2 => by omega) (fun _ => by omega) (by omega)
      have hs : swapL l k k = l := by rw [swapL, set_rowAt hk, set_rowAt hk]
      have hu : unitL F c k l = l := by rw [unitL, if_neg (by simpa using one)]
      have hcl : clearL F c k l = l := by
        rw [clearL]
        refine (tabN_congr fun i hi => ?_).trans (tab_rowAt l)
        rw [clearRow, if_neg (fun q => q.2 (hz i hi q.1))]
      refine ⟨k + 1, by omega, ?_, fun i hi => ?_, fun i hi hi' => ?_⟩
      · simp only [elimStep, hlen, hf]
        rw [if_pos hk, hs, hu, hcl, ← hc, take_push 0 (by rw [hR.len]; exact hk)]
      · by_cases q : i = k
        · rw [q, hc]; omega
        · have := h3 i (by omega); omega
      · have := hR.asc k i (by omega) hi'
        omega
    · have hgt : ∀ i, k ≤ i → i < l.length → c < piv.getD i 0 := fun i hi hi' => by
        have a1 := h4 k (Nat.le_refl _) (by omega)
        have a2 : piv.getD k 0 ≠ c := fun q => hc ⟨by omega, q⟩
        by_cases q : i = k
        · rw [q]; omega
        · have := hR.asc k i (by omega) hi'
          omega
      have hf : firstNZ l c (l.length - k) k = l.length := firstNZ_eq l.length h1 (fun i h5 h6 => hR.lo i c h6 (hgt i h5 h6)) (fun q => by omega) (Nat.le_refl _)
      refine ⟨k, h1, ?_, fun i hi => by have := h3 i hi; omega, fun i hi hi' => hgt i hi hi'⟩
      simp only [elimStep, hlen, hf]
      rw [if_neg (by omega)]
theorem red_canon {n : Nat} {l : List (List Int)} {piv : List Nat} (hR : Red n l piv) : canon F l n = (l, piv) := by
  obtain ⟨k, h1, h2, h3, h4⟩ := red_elim (F := F) hR n
  have hk : k = l.length := by
    by_cases q : k < l.length
    · have a1 := h4 k (Nat.le_refl _) q
      have a2 := hR.lt k q
      omega
    · omega
  have hp : piv.take k = piv := List.take_of_length_le (by rw [hR.len]; omega)
  rw [canon, h2, hp, hR.len, List.take_length]
/-- the same relations, the same ranks -/
theorem rk_same {V V' : Nat → Vc F.K} (hs : SameRel h V V') : letI := h.fd; ∀ (l : List Nat) (S : Nat → Prop), (clo V).rk S l = (clo V').rk S l := by
  letI := h.fd
  intro l
  induction l with
  | nil => exact fun S => rfl
  | cons x l ih =>
    intro S
    rw [Clo.rk_cons, Clo.rk_cons, ih]
    congr 1
    have this : (clo V).cl S x ↔ (clo V').cl S x := hs S x
    by_cases q : (clo V).cl S x
    · rw [if_pos q, if_pos (this.mp q)]
    · rw [if_neg q, if_neg (fun w => q (this.mpr w))]
theorem canon_rel {n : Nat} {rows : List (List Int)} (hr : Rect n rows) (he : Els F rows) : SameRel h (colV h rows) (colV h (canon F rows n).1) := by
  have inv := elim_inv h hr he n
  have e : colV h (canon F rows n).1 = colV h (elim F rows n).1 := funext fun j => funext fun i => by
    show h.k _ = h.k _
    congr 1
    by_cases hi : i < (elim F rows n).2.length
    · exact ent_take hi j
    · rw [ent_ge j (by rw [canon, List.length_take]; omega)]
      by_cases hj : j < n
      · rw [inv.hi i j (by omega) hj]
      · rw [ent_col inv.rect i (by omega)]
  rw [e]
  exact inv.rel
theorem Red.nodup {n : Nat} {l : List (List Int)} {piv : List Nat} (hR : Red n l piv) : piv.Nodup := by
  rw [List.Nodup, List.pairwise_iff_getElem]
  intro i j hi hj hij q
  have h1 := hR.len
  have := hR.asc i j hij (by omega)
  simp only [List.getD_eq_getElem?_getD, List.getElem?_eq_getElem hi, List.getElem?_eq_getElem hj, Option.getD_some] at this
  omega
end
section
variable {p m : Int} {mod : List Int} (h : (fF p m mod).Ok)
/-- a reduced matrix has the rank of its rows -/
theorem red_R {n : Nat} {l : List (List Int)} {piv : List Nat} (hR : Red n l piv) (he : Els (fF p m mod) l) : letI := h.fd; (clo (colV h l)).R n (fun _ => true) = l.length := by
  letI := h.fd
  have inv := elim_inv h hR.rect he n
  have e := red_canon (F := fF p m mod) hR
  have e2 : (elim (fF p m mod) l n).2 = piv := congrArg Prod.snd e
  have := inv.rk
  rw [e2, hR.len] at this
  rw [Clo.R, List.filter_eq_self.mpr (fun _ _ => rfl)]
  exact this.symm
theorem matErr_ok {cols : Int} {rows : List (List Int)} (hF : FieldOk p m mod) (h0 : 0 ≤ cols) (h1 : cols ≤ 256) (h2 : rows.length ≤ 256) (hr : Rect cols.toNat rows) (he : Els (fF p m mod) rows) : matErr p m mod cols rows = 0 := by
  rw [matErr, if_neg (by simpa using hF), if_neg, if_neg]
  · rintro ⟨i, hi, hn⟩
    exact hn fun j hj => he i j
  · rintro (q | q | q | ⟨i, hi, hn⟩)
    · omega
    · omega
    · omega
    · exact hn (by rw [hr i hi]; omega)
theorem code_mk {n : Int} {rows : List (List Int)} (hF : FieldOk p m mod) (h0 : 1 ≤ n) (h1 : n ≤ 64) (h2 : rows.length ≤ 256) (hr : Rect n.toNat rows) (he : Els (fF p m mod) rows) (hc : (canon (fF p m mod) rows n.toNat).1 = rows) : codeErr p m mod n rows = 0 := by
  rw [codeErr, if_neg (by simpa using hF), if_neg (by omega), spcErr, if_neg (by simpa using matErr_ok hF (by omega) (by omega) h2 hr he), if_pos hc]
theorem code_canon {n : Int} {rows : List (List Int)} (h0 : codeErr p m mod n rows = 0) : (canon (fF p m mod) rows n.toNat).1 = rows := by
  rw [codeErr] at h0
  split at h0
  · cases h0
  split at h0
  · cases h0
  rw [spcErr] at h0
  split at h0
  · contradiction
  split at h0
  · assumption
  · cases h0
end
end Go.Proofs.YtbkpebmcagdgmaaGreat.AM
/-! The program's matrices, eighth part: Contains, Kernel. -/
namespace Go.Proofs.YtbkpebmcagdgmaaGreat.AM
open Go Go.RowKit
set_option linter.unusedVariables false
set_option linter.unusedSimpArgs false
set_option maxRecDepth 20000
theorem natsI_gd {l : List Nat} {i : Nat} : (natsI l).getD i 0 = (l.getD i 0 : Nat) := by
  rw [List.getD_eq_getElem?_getD, List.getD_eq_getElem?_getD, natsI, List.getElem?_map]
  cases l[i]? <;> rfl
theorem lst_tab {L : List Int} {M : Nat} {f : Nat → Int} (hl : L.length = M) (h : ∀ j, j < M → L.getD j 0 = f j) : L = tabN M f := by
  refine List.ext_getElem (by rw [hl, tabN_length]) fun i h1 h2 => ?_
  have := h i (by omega)
  rw [List.getD_eq_getElem?_getD, List.getElem?_eq_getElem h1, Option.getD_some] at this
  rw [this]
  simp [tabN]
end Go.Proofs.YtbkpebmcagdgmaaGreat.AM
/-! The program's codes, first part: own, of, Dual. -/
namespace Go.Proofs.YtbkpebmcagdgmaaGreat.AM
open Go Go.RowKit
set_option linter.unusedVariables false
set_option linter.unusedSimpArgs false
set_option maxRecDepth 20000
theorem u_st3 {P : Program} {K : Kt} {e : Env} {H : AH} {d : Option Nat} {r : Rst} {ds : List Nat} {blk : Nat} {a b c x y z : AV} (h : H blk = .rw [a, b, c]) (hx : x.one = true) (hy : y.one = true) (hz : z.one = true) :
    kStore P ds (some 3) r e H K d (.ptr blk 0) (.agg [x, y, z]) = kRet P ds r e (H.upd blk (.rw [x, y, z])) K d (.tup []) :=
  u_stAgg h rfl (fun v hv => by simp at hv; rcases hv with rfl | rfl | rfl <;> assumption)
theorem u_st5 {P : Program} {K : Kt} {e : Env} {H : AH} {d : Option Nat} {r : Rst} {ds : List Nat} {blk : Nat} {a b c f g x y z w u : AV} (h : H blk = .rw [a, b, c, f, g]) (hx : x.one = true) (hy : y.one = true) (hz : z.one = true) (hw : w.one = true) (hu : u.one = true) :
    kStore P ds (some 5) r e H K d (.ptr blk 0) (.agg [x, y, z, w, u]) = kRet P ds r e (H.upd blk (.rw [x, y, z, w, u])) K d (.tup []) :=
  u_stAgg h rfl (fun v hv => by simp at hv; rcases hv with rfl | rfl | rfl | rfl | rfl <;> assumption)
theorem u_stG3 {P : Program} {K : Kt} {e : Env} {H : AH} {d : Option Nat} {r : Rst} {ds : List Nat} {blk : Nat} {a b c w : AV} (hw : w.one = true) : kSt P ds blk 2 r e H K d w (.rw [a, b, c]) = kRet P ds r e (H.upd blk (.rw [a, b, w])) K d (.tup []) :=
  st_put hw (show 2 < [a, b, c].length by simp)
theorem c_own {p m : Int} {md : AV} {mod : List Int} {H : AH} {Q : AV → AH → Prop} (hm : Ints H md mod) (hl : mod.length ≤ 1000)
    (hQ : ∀ md' H', Ext H H' → Ints H' md' mod → OffH H md' → md'.isSl = true → Q (.agg [.int .i64 p, .int .i64 m, md']) H') : AC Tryz.prog 137 [.agg [.int .i64 p, .int .i64 m, md]] H Q := by
  refine at137 (by simp) ?_
  simp (disch := first | assumption | omega) only [↓RP, RQ, TY, loadT, s137, reduceIte, Nat.reduceEqDiff, Nat.reduceAdd]
  refine kNew_intro fun b1 H1 hb1 hE1 hH1 => ?_
  simp (disch := first | assumption | omega) only [↓RP, RQ, TY, loadT, reduceIte, Nat.reduceEqDiff, Nat.reduceAdd]
  refine kNew_intro fun b2 H2 hb2 hE2 hH2 => ?_
  have hE12 := hE1.trans hE2
  simp (disch := first | assumption | omega) only [↓RP, RQ, TY, loadT, reduceIte, Nat.reduceEqDiff, Nat.reduceAdd, hE2.rw hH1]
  refine c_Clone (hm.ext hE12) hl fun w H3 hE3 ho3 => ?_
  have h13 := hE3.rw (hE2.rw hH1)
  have h23 := hE3.rw hH2
  have hw := ho3.sl.isSl
  have i1 := isSl_one hw
  have ip : (AV.int .i64 p).one = true := rfl
  have im : (AV.int .i64 m).one = true := rfl
  have f1 : H b1 = .free := hb1
  have f2 : H b2 = .free := hE1.free hb2
  have n12 : b2 ≠ b1 := fun q => by rw [q, hH1] at hb2; cases hb2
  have h13u : (H3.upd b1 (.rw [.int .i64 p, .int .i64 m, w])) b1 = .rw [.int .i64 p, .int .i64 m, w] := updEq
  have h23u : (H3.upd b1 (.rw [.int .i64 p, .int .i64 m, w])) b2 = .rw [.int .i64 0, .int .i64 0, .nils] := by rw [updNe n12]; exact h23
  have hof := ho3.offH
  simp (disch := first | assumption | omega) only [↓RP, RQ, TY, loadT, reduceIte, Nat.reduceEqDiff, Nat.reduceAdd, h13, u_storeV hw, u_stG3 i1, h13u, u_st3 h23u ip im i1, aRes, aResL, aRes1, Option.map_some]
  refine hQ w _ (((hE12.trans hE3).upd f1 _).upd f2 _) ?_ (hof.old hE12) hw
  exact (ho3.sl.updOff hof (by rw [hE2.rw hH1]; exact fun q => by cases q) _).updOff hof (by rw [hH2]; exact fun q => by cases q) _
theorem fill_code {p m n : Int} {md v z0 z1 z2 z3 z4 : AV} (h1 : md.isSl = true) (h2 : v.isSl = true) : aFill (fun i => [(0, 3), (3, 1), (4, 1)][i]?) [z0, z1, z2, z3, z4] [(0, .agg [.int .i64 p, .int .i64 m, md]), (1, .int .i64 n), (2, v)] = some [.int .i64 p, .int .i64 m, md, .int .i64 n, v] := by
  cases md <;> cases v <;> first | rfl | (simp [AV.isSl] at h1; done) | (simp [AV.isSl] at h2; done)
theorem c_cof {p m cols er : Int} {md lv : AV} {mod : List Int} {H : AH} {Q : AV → AH → Prop} (hm : er = 0 → Ints H md mod) (hl : er = 0 → mod.length ≤ 1000) (hv : er = 0 → lv.isSl = true)
    (hQ : er = 0 → ∀ md' H', Ext H H' → Ints H' md' mod → OffH H md' → Q (.tup [codeV p m md' cols lv, .int .i64 0]) H') (hQ0 : er ≠ 0 → ∀ H', Ext H H' → Q (.tup [codeV 0 0 .nils 0 .nils, .int .i64 er]) H') :
    AC Tryz.prog 96 [.agg [.int .i64 p, .int .i64 m, md], .agg [.int .i64 cols, lv], .int .i64 er] H Q := by
  refine at96 (by simp) ?_
  simp (disch := first | assumption | omega) only [↓RP, RQ, TY, loadT, s96, reduceIte, Nat.reduceEqDiff, Nat.reduceAdd]
  refine kNew_intro fun b1 H1 hb1 hE1 hH1 => ?_
  simp (disch := first | assumption | omega) only [↓RP, RQ, TY, loadT, reduceIte, Nat.reduceEqDiff, Nat.reduceAdd]
  refine kNew_intro fun b2 H2 hb2 hE2 hH2 => ?_
  simp (disch := first | assumption | omega) only [↓RP, RQ, TY, loadT, reduceIte, Nat.reduceEqDiff, Nat.reduceAdd]
  refine kNew_intro fun b3 H3 hb3 hE3 hH3 => ?_
  have h13 := hE3.rw (hE2.rw hH1)
  have h23 := hE3.rw hH2
  have hE03 := (hE1.trans hE2).trans hE3
  have f3 := (hE1.trans hE2).free hb3
  by_cases he : er = 0
  rotate_left
  · simp (disch := first | assumption | omega) only [↓RP, RQ, TY, loadT, reduceIte, Nat.reduceEqDiff, Nat.reduceAdd, eq_true he, u_fill0, u_st5 (x := .int .i64 0) (y := .int .i64 0) (z := .nils) (w := .int .i64 0) (u := .nils) hH3 rfl rfl rfl rfl rfl, aRes, aResL, aRes1, Option.map_some]
    exact hQ0 he _ (hE03.upd f3 _)
  subst he
  have hvs := hv rfl
  simp (disch := first | assumption | omega) only [↓RP, RQ, TY, loadT, reduceIte, Nat.reduceEqDiff, Nat.reduceAdd, Int.reduceEq, Int.reduceNe, h13, h23]
  refine c_own ((hm rfl).ext hE03) (hl rfl) fun md' H4 hE4 hm4 hof hs4 => ?_
  have h34 := hE4.rw hH3
  have i1 := isSl_one hs4
  have i2 := isSl_one hvs
  have ip : (AV.int .i64 p).one = true := rfl
  have im : (AV.int .i64 m).one = true := rfl
  have ic : (AV.int .i64 cols).one = true := rfl
  simp (disch := first | assumption | omega) only [↓RP, RQ, TY, loadT, reduceIte, Nat.reduceEqDiff, Nat.reduceAdd, hE4.rw h13, hE4.rw h23, fill_code hs4 hvs, u_st5 h34 ip im i1 ic i2, aRes, aResL, aRes1, Option.map_some]
  exact hQ rfl md' _ ((hE03.trans hE4).upd f3 _) (hm4.updOff hof (by rw [hH3]; exact fun q => by cases q) _) (hof.old hE03)
theorem FieldOk.ml {p m : Int} {mod : List Int} (h : FieldOk p m mod) : mod.length ≤ 8 := by
  rcases h.2.2 with ⟨-, rfl⟩ | ⟨-, q, -⟩
  · simp
  · have := (ordr_pos h.1).2.2.1
    omega
end Go.Proofs.YtbkpebmcagdgmaaGreat.AM
/-! The library's slices.Values and slices.AppendSeq over it (after the kit's worked text on ranges over a function). -/
namespace Go.Proofs.YtbkpebmcagdgmaaGreat.Seq
open Go Go.Proofs Go.RowKit Go.Shelf
set_option linter.unusedVariables false
set_option linter.unusedSimpArgs false
attribute [local go_sem] Oper.semAt_some
/-- what has come when k rounds are over -/
def upto {α : Type} (f : Nat → α) (k : Nat) : List α := (List.range k).map f
theorem upto_succ {α : Type} (f : Nat → α) (k : Nat) : upto f (k + 1) = upto f k ++ [f k] := by simp [upto, List.range_succ]
theorem upto_length {α : Type} (f : Nat → α) (k : Nat) : (upto f k).length = k := by simp [upto]
theorem upto_all (zs : List Int) : upto (fun j => zs[j]?.getD 0) zs.length = zs := by
  apply List.ext_getElem
  · simp [upto]
  · intro i h1 h2
    simp [upto, h2]
set_option maxRecDepth 100000 in
set_option maxHeartbeats 2000000 in
theorem values1_in (F : Fence) (n : Nat) (h7 : F.fn 122) (hro : F.round = none) (hn : 1 ≤ n) (l Bs n₀ b off len cap : Nat) (zs : List Int) (hreach : len * 8 ≤ 140737488351232) (hb : b < n₀) (J Jx : List Int → World → Prop)
    (hY : ∀ pre x W, J pre W → pre.length < len → YieldAt F (n - 1) Tryz.prog l #[.int .i64 x] W fun e W' =>
      (e = .returned (.bool true) ∧ J (pre ++ [x]) W' ∧ Below n₀ W W') ∨ (e = .returned (.bool false) ∧ Jx (pre ++ [x]) W'))
    (W : World) (hBs : W.cell? ⟨Bs, 0, none⟩ = some (.slice (some ⟨b, off, none⟩) len cap)) (hc : ∀ j, j < len → W.cell? ⟨b, off + j, none⟩ = some (.int .i64 (zs[j]?.getD 0))) (h0 : J [] W) :
    CallsIn F n Tryz.prog 122 #[.func (.yield l) #[] #[], .pointer (some ⟨Bs, 0, none⟩)] W fun e W' => (∃ v, e = .returned v) ∧
      ((∃ ys, ys = upto (fun j => zs[j]?.getD 0) len ∧ J ys W') ∨ (∃ pre, (∃ k, k ≤ len ∧ pre = upto (fun j => zs[j]?.getD 0) k) ∧ Jx pre W')) := by
  refine callsIn_of_wp Tryz.func122 rfl h7 ?_ hro
  simp only [Tryz.ntmps122, List.size_toArray, List.length_cons, List.length_nil, Nat.reduceAdd, Nat.reduceSub, Array.replicate_succ, Array.replicate_zero, List.push_toArray, List.append_toArray, List.nil_append, List.cons_append]
  gi_wp2
  gi_loopw [7] (fun i wr => ∃ k : Nat, k ≤ len ∧ i = .int .i64 k ∧ J (upto (fun j => zs[j]?.getD 0) k) wr ∧ Below n₀ W wr)
    (fun i _ => len - (intOf i).toNat)
  case atStart => exact ⟨0, Nat.zero_le _, rfl, h0, Below.refl _ _⟩
  case round =>
    obtain ⟨k, hk, rfl, hJs, hnx⟩ := hrel
    have hcx : k < len → wr.cell? ⟨b, off + k, none⟩ = some (.int .i64 (zs[k]?.getD 0)) := fun h => (hnx.cell (p := ⟨b, off + k, none⟩) hb).trans (hc k h)
    by_cases hlt : k < len
    · obtain ⟨fn, tmps, assign, body, hy, hR⟩ := hY _ (zs[k]?.getD 0) wr hJs (by rw [upto_length]; exact hlt)
      have hcx' := hcx hlt
      gi_wp2
      refine hR.mono ?_
      rintro e W3 (⟨rfl, hJ3, hk3⟩ | ⟨rfl, hJx3⟩)
      · gi_wp2
        go_roundw
        case rel => exact ⟨k + 1, by omega, by simp, by rw [upto_succ]; exact hJ3, hnx.trans hk3⟩
        case measure => simp [intOf]; omega
      · gi_wp2
        refine bodyPost_ret (results_none rfl _ _ _) rfl ?_
        exact ⟨⟨_, rfl⟩, .inr ⟨_, ⟨k + 1, by omega, (upto_succ _ _).symm⟩, hJx3⟩⟩
    · obtain rfl : k = len := by omega
      gi_wp2
      go_end0
      exact ⟨⟨_, rfl⟩, .inl ⟨_, rfl, hJs⟩⟩
theorem upto_take (zs : List Int) {k : Nat} (hk : k ≤ zs.length) : upto (fun j => zs[j]?.getD 0) k = zs.take k := by
  apply List.ext_getElem
  · simp [upto, hk]
  · intro i h1 h2
    have : i < zs.length := by simp [upto] at h1; omega
    simp [upto, this]
/-- the slice value holds these numbers, in a block below n₀; or it has no entry -/
def SInts (n₀ : Nat) (W : World) (sv : Value) (zs : List Int) : Prop :=
  (zs = [] ∧ ∃ a cap, sv = .slice a 0 cap) ∨ ∃ b off cap, sv = .slice (some ⟨b, off, none⟩) zs.length cap ∧ b < n₀ ∧ ∀ j, j < zs.length → W.cell? ⟨b, off + j, none⟩ = some (.int .i64 (zs[j]?.getD 0))
theorem SInts.below {n₀ : Nat} {A B : World} (h : Below n₀ A B) {sv : Value} {zs : List Int} : SInts n₀ A sv zs → SInts n₀ B sv zs
  | .inl e => .inl e
  | .inr ⟨b, off, cap, e, hb, hc⟩ => .inr ⟨b, off, cap, e, hb, fun j hj => (h.cell (p := ⟨b, off + j, none⟩) hb).trans (hc j hj)⟩
set_option maxRecDepth 100000 in
set_option maxHeartbeats 1000000 in
theorem values1_nil_in (F : Fence) (n : Nat) (h7 : F.fn 122) (hro : F.round = none) (l Bs : Nat) (a : Option Addr) (cap : Nat) (J : List Int → World → Prop) (W : World) (hBs : W.cell? ⟨Bs, 0, none⟩ = some (.slice a 0 cap)) (h0 : J [] W) :
    CallsIn F n Tryz.prog 122 #[.func (.yield l) #[] #[], .pointer (some ⟨Bs, 0, none⟩)] W fun e W' => (∃ v, e = .returned v) ∧ J [] W' := by
  refine callsIn_of_wp Tryz.func122 rfl h7 ?_ hro
  simp only [Tryz.ntmps122, List.size_toArray, List.length_cons, List.length_nil, Nat.reduceAdd, Nat.reduceSub, Array.replicate_succ, Array.replicate_zero, List.push_toArray, List.append_toArray, List.nil_append, List.cons_append]
  gi_wp2
  gi_loopw [7] (fun i wr => i = .int .i64 0 ∧ J [] wr) (fun _ _ => 0)
  case atStart => exact ⟨rfl, h0⟩
  case round =>
    obtain ⟨rfl, hJs⟩ := hrel
    gi_wp2
    go_end0
    exact ⟨⟨_, rfl⟩, hJs⟩
theorem values_stops (F : Fence) (n : Nat) (h7 : F.fn 122) (hro : F.round = none) (hn : 1 ≤ n) (Bs n₀ : Nat) (sv : Value) (zs : List Int) (hreach : zs.length * 8 ≤ 140737488351232) (w : World) (hBs : Bs < w.heap.size) (hn₀ : n₀ ≤ w.heap.size)
    (hc : w.cell? ⟨Bs, 0, none⟩ = some sv) (hI : SInts n₀ w sv zs) :
    SeqStopsK F n Tryz.prog 122 #[.pointer (some ⟨Bs, 0, none⟩)] (fun x : Int => #[Value.int .i64 x]) (Below n₀) (fun ys => ys = zs) (fun pre => pre <+: zs) zs.length w := fun l J Jx W hW _ _ hY h0 => by
  have hc' := (hW.cell (p := ⟨Bs, 0, none⟩) hBs).trans hc
  rcases hI.below (hW.mono hn₀) with ⟨rfl, a, cap, rfl⟩ | ⟨b, off, cap, rfl, hb, hcs⟩
  · exact (values1_nil_in F n h7 hro l Bs a cap J W hc' h0).mono fun e W' ⟨he, hj⟩ => ⟨he, .inl ⟨_, rfl, hj⟩⟩
  · refine (values1_in F n h7 hro hn l Bs n₀ b off zs.length cap zs hreach hb J Jx hY W hc' hcs h0).mono ?_
    rintro e W' ⟨he, ⟨ys, rfl, hj⟩ | ⟨pre, ⟨k, hk, rfl⟩, hj⟩⟩
    · exact ⟨he, .inl ⟨_, upto_all zs, hj⟩⟩
    · exact ⟨he, .inr ⟨_, by rw [upto_take zs hk]; exact List.take_prefix _ _, hj⟩⟩
theorem info3 : (Tryz.prog.info? 3).map (fun i => (i.zero, i.size, i.bytes)) = some (some (.int .i64 0), 1, 8) := by kernel_rfl
set_option maxRecDepth 100000 in
set_option maxHeartbeats 2000000 in
theorem appendSeq_values (F : Fence) (n : Nat) (hA : F.fn 163) (hV : F.fn 122) (hro : F.round = none) (hn : 3 ≤ n) (Bs : Nat) (sv : Value) (zs : List Int) (hreach : zs.length * 8 ≤ 140737488351232) (w : World) (hBs : Bs < w.heap.size)
    (hc : w.cell? ⟨Bs, 0, none⟩ = some sv) (hI : SInts w.heap.size w sv zs) :
    CallsIn F n Tryz.prog 163 #[.slice none 0 0, .func (.func 122) #[] #[.pointer (some ⟨Bs, 0, none⟩)]] w fun e w' => ∃ v, e = .returned v ∧
      w'.ownsRow w.heap.size 3 1 v zs.length (zs.map (Value.int .i64)) ∧ (v = .slice none 0 0 ↔ zs = []) ∧ Below w.heap.size w w' := by
  have h1 : 1 ≤ n := by omega
  obtain ⟨i0, hi, hz0, hz1, hz2⟩ := info_parts info3
  refine callsIn_of_wp_marks Tryz.func163 rfl hA ?_ hro
  simp only [Tryz.ntmps163, List.size_toArray, List.length_cons, List.length_nil, Nat.reduceAdd, Nat.reduceSub, Array.replicate_succ, Array.replicate_zero, List.push_toArray, List.append_toArray, List.nil_append, List.cons_append]
  gi_wp2
  have bS := Boxed.new w 22 (.slice none 0 0)
  have hB0 : Below w.heap.size w (w.alloc (.cells #[.slice none 0 0] 22)) := (Below.refl _ w).alloc (Nat.le_refl _) _
  refine wpIn_rangeFunc_ownG hro h1 (gf := 122) (lb := #[.pointer (some ⟨Bs, 0, none⟩)]) rfl hV (enters_of Tryz.func122 (by kernel_rfl) rfl)
    (values_stops F (n - 1) hV hro (by omega) Bs w.heap.size sv zs hreach _ (by simp; omega) (by simp) ((hB0.cell (p := ⟨Bs, 0, none⟩) hBs).trans hc) (hI.below hB0)) belowK_t (belowK_b (by simp)) (Below.refl _ _) (fun _ => rfl)
    (fun pre W => (∃ v, Boxed W w.heap.size 22 v ∧ W.ownsRow w.heap.size 3 1 v pre.length (pre.map (Value.int .i64)) ∧ (v = .slice none 0 0 ↔ pre = [])) ∧ Below w.heap.size w W)
    (fun _ _ _ => False)
    (OwnFrom.and (Own.from (holdsRow_own w.heap.size w.heap.size 22 3 1 (fun pre : List Int => pre.length) (fun pre => pre.map (Value.int .i64)) (fun pre v => v = .slice none 0 0 ↔ pre = [])) _) (ownFrom_below (Nat.le_refl _) (by simp)))
    (fun _ _ _ _ _ hs _ _ => hs)
    ⟨⟨_, bS, World.ownsRow_nil _ _ _ _, by simp⟩, hB0⟩
    (fun x => { tmps := #[.slice none 0 0, .func (.func 122) #[] #[.pointer (some ⟨Bs, 0, none⟩)], .pointer (some ⟨w.heap.size, 0, none⟩), undef, .slice none 0 0, .int .i64 x, .func (.func 122) #[] #[.pointer (some ⟨Bs, 0, none⟩)], .int .i64 x, undef, undef, undef, undef, undef], defers := [] }) ?assign ?body ?done ?stop
  case assign =>
    intro l x W K hK
    gi_wp2
    exact hK
  case body =>
    rintro l pre x W ⟨⟨v, hv, hrow, hnil⟩, hB⟩ hlt
    have hcv := hv.cell
    have hle : w.heap.size ≤ w.heap.size := Nat.le_refl _
    gi_wp2_with (gi_at_builtin; refine wpListIn_append_own _ rfl _ _ 22 rfl w.heap.size 3 i0 (.int .i64 0) 1 8 Tryz.underlying22 hi hz0 hz1 hz2 rfl (by decide) _ _ _ rfl (hrow.alloc _) ⟨W.heap.size, 0, none⟩ 1 1 [.int .i64 x] rfl rfl (cell_one_new _ _ _) (by simp [Value.oneCell']) (by have : maxLen = 9223372036854775807 := rfl; omega) (by omega) (by have := hB.size; simp; omega) ?_; intro v' w1 hown' hgrow _; obtain ⟨g', cap', rfl⟩ := ownsRow_succ hown'; obtain ⟨hv1, hv2, hr2, hk2, hb2⟩ := hv.appended (by decide) hrow hB.size hle hown' hgrow; have hc1 := hv1.cell; have hf1 := hv1.frozen)
    exact ⟨hk2.from _, hb2, ⟨_, hv2, by simpa using hr2, by simp⟩, hB.trans hb2⟩
  case done =>
    rintro D ys W hD rfl ⟨⟨v, hv, hrow, hnil⟩, hB⟩ hK
    have hcv := hv.cell
    gi_wp2
    refine ⟨by simp, .inl ⟨_, _, rfl, run_takeDeferred hK, ?_⟩⟩
    exact ⟨_, results_tmp rfl _ _ _, v, rfl, ownsRow_putObj hrow _ hK rfl, hnil, hB.trans (belowK_b (w := w) (Nat.le_refl _) W D _ _ (by simp at hD; omega) hK rfl rfl)⟩
  case stop =>
    rintro D c pre W _ _ h _
    exact h.elim
end Go.Proofs.YtbkpebmcagdgmaaGreat.Seq
