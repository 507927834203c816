/- Helpers. The products of the program and of the reference, as vectors (plain Lean). · The residues are a commutative ring; both products are one (plain Lean). · Powers of a generator; the algebra from: every field has a generator, and only fields have (plain Lean). · What has a generator has no divisors (plain Lean). · Products, powers and divisions of lists of digits that the kernel can work out (plain Lean). · The check of a certificate, and what it shows (plain Lean). · PRINTED by mkfld.py: for each size of field a list of certificates, one for each modulus: a generator, or a divisor; the kernel checks them. · PRINTED by mkfld.py: every field has a generator: by the tables. · The row's wrap and the algebra of the small fields, together: what each law's proof imports. · The law OrderingSteps. · The law OrderingModular. · The program's orderings, third part: Greedy; the greedy order as a list. · The reference's words: Compare, Same; its greedy order. · The program's orderings, fourth part: ordered, width, Width; the reference's IsOrder, Order, Width. · The widths of an order: the program's width and Width, the reference's Width. · Two matrices in standard form, each the other's kernel: their ranks (plain law). · Reduced matrices stay as they are; the kernel's matrix and its ranks (plain law). · The program's matrices, eighth part: Contains, Kernel. · The program's codes, first part: own, of, Dual. · The law OrderingDual. -/
import Derived.Test.YteijojnahpeglaaK6
import Derived.KernelRfl
import Derived.Test.YteijojnahpeglaaK1
/-! The products of the program and of the reference, as vectors (plain Lean). -/
namespace Go.Proofs.Yteijojnahpeglaa.AM
open Go Go.RowKit
set_option linter.unusedVariables false
set_option linter.unusedSimpArgs false
def vecZ (l : List Int) : ZV := fun j => l.getD j 0
/-- the digits of x, as a vector -/
def vecX (p : Int) (n : Nat) (x : Int) : ZV := vecZ (digs p n x)
theorem digs_val {p : Int} (hp : 0 < p) : ∀ {ds : List Int}, Rng p ds → digs p ds.length (val p ds) = ds
  | [], _ => rfl
  | d :: ds, h => by
    have h0 := h 0
    simp only [List.getD_cons_zero] at h0
    have e1 : (d + p * val p ds) % p = d := by
      rw [Int.add_mul_emod_self_left]
      exact Int.emod_eq_of_lt h0.1 h0.2
    have e2 : (d + p * val p ds) / p = val p ds := by
      rw [Int.add_mul_ediv_left _ _ (by omega), Int.ediv_eq_zero_of_lt h0.1 h0.2, Int.zero_add]
    rw [val, List.length_cons, digs, e1, e2, digs_val hp h.tail]
theorem val_digs {p : Int} (hp : 0 < p) : ∀ (n : Nat) {x : Int}, 0 ≤ x → x < p ^ n → val p (digs p n x) = x
  | 0, x, h0, h1 => by simp at h1; simp [digs, val]; omega
  | n + 1, x, h0, h1 => by
    obtain ⟨h2, h3⟩ := div_pow hp h0 h1
    rw [digs, val, val_digs hp n h2 h3]
    have := Int.emod_add_mul_ediv x p
    omega
theorem vec_inj {p : Int} (hp : 0 < p) {n : Nat} {x y : Int} (hx : 0 ≤ x) (hx' : x < p ^ n) (hy : 0 ≤ y) (hy' : y < p ^ n) (h : cg p n (vecX p n x) (vecX p n y)) : x = y := by
  rw [← val_digs hp n hx hx', ← val_digs hp n hy hy']
  congr 1
  refine List.ext_getElem (by rw [digs_length, digs_length]) fun j h1 h2 => ?_
  rw [digs_length] at h1
  have h3 := digs_rng hp n x j
  have h4 := digs_rng hp n y j
  obtain ⟨k, hk⟩ := h j h1
  simp only [vecX, vecZ] at hk
  have : (digs p n x).getD j 0 = (digs p n y).getD j 0 := by
    have k0 : k = 0 := by
      by_cases hk0 : k = 0
      · exact hk0
      · exfalso
        rcases Int.lt_or_gt_of_ne hk0 with hlt | hgt
        · have : p * k ≤ p * (-1) := Int.mul_le_mul_of_nonneg_left (by omega) (by omega)
          omega
        · have : p * 1 ≤ p * k := Int.mul_le_mul_of_nonneg_left (by omega) (by omega)
          omega
    rw [k0] at hk
    omega
  simpa [List.getD_eq_getElem?_getD, h1, h2, digs_length] using this
theorem vec_val {p : Int} (hp : 0 < p) {n : Nat} {ds : List Int} (hl : ds.length = n) (hr : Rng p ds) : vecX p n (val p ds) = vecZ ds := by
  rw [vecX, ← hl, digs_val hp hr]
section
variable {p : Int} {n : Nat} {mod : List Int}
theorem horn_cg (hp : 0 < p) (hn : 1 ≤ n) {a b : List Int} (hb : b.length = n) : ∀ k, k ≤ n → cg p n (vecZ (horn p n mod a b k)) (act n mod (b.drop (n - k)) (vecZ a))
  | 0, _ => by
    rw [Nat.sub_zero, List.drop_of_length_le (by omega)]
    intro j hj
    have : vecZ (horn p n mod a b 0) j = 0 := by
      show (List.replicate n (0 : Int)).getD j 0 = 0
      simp [List.getD_eq_getElem?_getD, hj]
    rw [this]
    exact ⟨0, by simp [act, zzv]⟩
  | k + 1, hk => by
    have ih := horn_cg hp hn (a := a) hb k (by omega)
    rw [show horn p n mod a b (k + 1) = hornStep p n mod a (b.getD (n - 1 - k) 0) (horn p n mod a b k) from rfl]
    rw [show n - (k + 1) = n - 1 - k by omega, drop_getD (show n - 1 - k < b.length by omega), show n - 1 - k + 1 = n - k by omega, act]
    generalize horn p n mod a b k = out at *
    generalize b.getD (n - 1 - k) 0 = bi
    refine cg.trans (v := zadd (zsm bi (vecZ a)) (Tm n mod (vecZ out))) (fun j hj => ?_) ((cg.refl _).add (ih.T hn))
    have e : vecZ (hornStep p n mod a bi out) j = ((if j = 0 then 0 else out.getD (j - 1) 0) + (p - out.getD (n - 1) 0) * mod.getD j 0 + bi * a.getD j 0) % p := by
      show (hornStep p n mod a bi out).getD j 0 = _
      rw [hornStep, tab_get hj]
    rw [e]
    obtain ⟨q, hq⟩ := emod_cg p ((if j = 0 then 0 else out.getD (j - 1) 0) + (p - out.getD (n - 1) 0) * mod.getD j 0 + bi * a.getD j 0)
    simp only [zadd, zsm, Tm, if_pos hj, vecZ]
    exact ⟨q + mod.getD j 0, by grind⟩
theorem pmul_vec {m : Int} (hp : 0 < p) (hn : 1 ≤ m.toNat) (x y : Int) : cg p m.toNat (vecX p m.toNat (pmul p m mod x y)) (act m.toNat mod (digs p m.toNat y) (vecX p m.toNat x)) := by
  rw [pmul, vec_val hp (horn_length _ _ _ _ _ _) (horn_rng hp _ _ _ _ _)]
  have := horn_cg (mod := mod) hp hn (a := digs p m.toNat x) (b := digs p m.toNat y) (digs_length _ _ _) m.toNat (Nat.le_refl _)
  rw [Nat.sub_self, List.drop_zero] at this
  exact this
/-- one entry changes -/
theorem set_cg (hn : 1 ≤ n) {c : List Int} {k : Nat} (hk : k < c.length) (s : Int) (v : ZV) : cg p n (act n mod (c.set k ((c.getD k 0 + s) % p)) v) (zadd (act n mod c v) (zsm s (Tp n mod k v))) := by
  rw [act_set _ _ _ _ hk]
  refine (cg.refl _).add (cg.sm ?_ (cg.refl _))
  obtain ⟨q, hq⟩ := emod_cg p (c.getD k 0 + s)
  exact ⟨q, by grind⟩
theorem mulIn_cg (hn : 1 ≤ n) {a b : List Int} (hb : b.length = n) {i : Nat} (hi : i < n) {c : List Int} (hc : c.length = 2 * n - 1) : ∀ j, j ≤ n →
    (upto (mulIn p a b i) j c).length = 2 * n - 1 ∧ cg p n (act n mod (upto (mulIn p a b i) j c) e0v) (zadd (act n mod c e0v) (zsm (a.getD i 0) (Tp n mod i (act n mod (b.take j) e0v))))
  | 0, _ => by
    refine ⟨hc, ?_⟩
    have : zadd (act n mod c e0v) (zsm (a.getD i 0) (Tp n mod i (act n mod (b.take 0) e0v))) = act n mod c e0v := by
      have e : ∀ k, Tp n mod k zzv = zzv := fun k => by
        induction k with
        | zero => rfl
        | succ k ih => rw [Tp, ih, Tm_zero]
      rw [List.take_zero, act, e]
      funext j
      simp [zadd, zsm, zzv]
    rw [this]
    exact cg.refl _
  | j + 1, hj => by
    obtain ⟨h1, h2⟩ := mulIn_cg hn hb hi hc j (by omega)
    rw [upto_succ, mulIn]
    refine ⟨by rw [List.length_set, h1], (set_cg hn (by omega) _ _).trans ?_⟩
    refine (h2.add (cg.refl _)).trans ?_
    rw [act_take (by omega), Tp_add, Tp_sm, Tp_Tp]
    intro q hq
    simp only [zadd, zsm]
    exact ⟨0, by grind⟩
theorem mulP_cg (hn : 1 ≤ n) {a b : List Int} (ha : a.length = n) (hb : b.length = n) : ∀ i, i ≤ n →
    (upto (fun i c => upto (mulIn p a b i) n c) i (List.replicate (2 * n - 1) 0)).length = 2 * n - 1 ∧ cg p n (act n mod (upto (fun i c => upto (mulIn p a b i) n c) i (List.replicate (2 * n - 1) 0)) e0v) (act n mod (a.take i) (act n mod b e0v))
  | 0, _ => by
    refine ⟨by simp [upto], ?_⟩
    rw [upto_zero, act_zeros, List.take_zero, act]
    exact cg.refl _
  | i + 1, hi => by
    obtain ⟨h1, h2⟩ := mulP_cg hn ha hb i (by omega)
    rw [upto_succ]
    obtain ⟨h3, h4⟩ := mulIn_cg (p := p) (mod := mod) hn (a := a) hb (show i < n by omega) h1 n (Nat.le_refl _)
    refine ⟨h3, h4.trans ?_⟩
    rw [List.take_of_length_le (show b.length ≤ n by omega), act_take (show i < a.length by omega)]
    exact h2.add (cg.refl _)
theorem redIn_cg (hn : 1 ≤ n) {I : Nat} (hI : n ≤ I) {c : List Int} (hc : I < c.length) : ∀ j, j ≤ n →
    (upto (redIn p n mod I) j c).length = c.length ∧ (upto (redIn p n mod I) j c).getD I 0 = c.getD I 0 ∧
      cg p n (act n mod ((upto (redIn p n mod I) j c).take I) e0v) (zadd (act n mod (c.take I) e0v) (zsm (- c.getD I 0) (Tp n mod (I - n) (fun q => if q < j then mod.getD q 0 else 0))))
  | 0, _ => by
    refine ⟨rfl, rfl, ?_⟩
    have e : (fun q => if q < 0 then mod.getD q 0 else 0 : ZV) = zzv := funext fun q => by simp [zzv]
    have e2 : ∀ k, Tp n mod k zzv = zzv := fun k => by
      induction k with
      | zero => rfl
      | succ k ih => rw [Tp, ih, Tm_zero]
    rw [upto_zero, e, e2]
    intro q hq
    simp only [zadd, zsm, zzv]
    exact ⟨0, by grind⟩
  | j + 1, hj => by
    obtain ⟨h1, h2, h3⟩ := redIn_cg hn hI hc j (by omega)
    rw [upto_succ, redIn]
    generalize upto (redIn p n mod I) j c = d at *
    have hk : I - n + j < I := by omega
    refine ⟨by rw [List.length_set, h1], ?_, ?_⟩
    · rw [getD_set, if_neg (by omega), h2]
    · rw [List.take_set, h2]
      have hkt : I - n + j < (d.take I).length := by rw [List.length_take]; omega
      have eg : d.getD (I - n + j) 0 = (d.take I).getD (I - n + j) 0 := by simp [List.getD_eq_getElem?_getD, List.getElem?_take, hk]
      rw [eg]
      refine (set_cg hn hkt _ _).trans ?_
      refine (h3.add (cg.refl _)).trans ?_
      have e3 : (fun q => if q < j + 1 then mod.getD q 0 else 0 : ZV) = zadd (fun q => if q < j then mod.getD q 0 else 0) (zsm (mod.getD j 0) (Tp n mod j e0v)) := by
        rw [Tp_e0 (by omega)]
        funext q
        simp only [zadd, zsm]
        by_cases h4 : q < j
        · rw [if_pos (by omega), if_pos h4, if_neg (by omega)]; omega
        · by_cases h5 : q = j
          · subst h5; rw [if_pos (by omega), if_neg h4, if_pos rfl]; omega
          · rw [if_neg (by omega), if_neg h4, if_neg h5]; omega
      rw [e3, Tp_add, Tp_sm, Tp_Tp]
      intro q hq
      simp only [zadd, zsm]
      exact ⟨mod.getD j 0 * Tp n mod (I - n + j) e0v q, by grind⟩
theorem redP_cg (hn : 1 ≤ n) {c : List Int} (hc : c.length = 2 * n - 1) : ∀ k, k ≤ n - 1 →
    (upto (fun k c => upto (redIn p n mod (2 * n - 2 - k)) n c) k c).length = 2 * n - 1 ∧
      cg p n (act n mod ((upto (fun k c => upto (redIn p n mod (2 * n - 2 - k)) n c) k c).take (2 * n - 1 - k)) e0v) (act n mod c e0v)
  | 0, _ => by
    refine ⟨hc, ?_⟩
    rw [upto_zero, Nat.sub_zero, List.take_of_length_le (by omega)]
    exact cg.refl _
  | k + 1, hk => by
    obtain ⟨h1, h2⟩ := redP_cg hn hc k (by omega)
    rw [upto_succ]
    generalize upto (fun k c => upto (redIn p n mod (2 * n - 2 - k)) n c) k c = d at *
    obtain ⟨h3, h4, h5⟩ := redIn_cg (p := p) (mod := mod) hn (I := 2 * n - 2 - k) (by omega) (c := d) (by omega) n (Nat.le_refl _)
    refine ⟨by rw [h3, h1], ?_⟩
    rw [show 2 * n - 1 - (k + 1) = 2 * n - 2 - k by omega]
    refine h5.trans (cg.trans ?_ h2)
    rw [show 2 * n - 1 - k = (2 * n - 2 - k) + 1 by omega, act_take (by omega)]
    refine (cg.refl _).add ?_
    have e : Tp n mod (2 * n - 2 - k) e0v = zsm (-1) (Tp n mod (2 * n - 2 - k - n) (fun q => if q < n then mod.getD q 0 else 0)) := by
      rw [← Tp_sm]
      have : (zsm (-1) (fun q => if q < n then mod.getD q 0 else 0) : ZV) = Tp n mod n e0v := by
        rw [Tn_e0 hn]
        funext q
        simp only [zsm]
        split <;> omega
      rw [this, Tp_Tp]
      congr 1
      omega
    rw [e]
    intro q hq
    simp only [zsm]
    exact ⟨0, by grind⟩
theorem fmul_vec {m : Int} (hp : 0 < p) (hn : 1 ≤ m.toNat) (x y : Int) : cg p m.toNat (vecX p m.toNat (fmul p m mod x y)) (act m.toNat mod (digs p m.toNat x) (vecX p m.toNat y)) := by
  have l1 := digs_length p m.toNat x
  have l2 := digs_length p m.toNat y
  have r1 := digs_rng hp m.toNat x
  have r2 := digs_rng hp m.toNat y
  rw [fmul, vecX]
  generalize digs p m.toNat x = a at *
  rw [show vecX p m.toNat y = act m.toNat mod (digs p m.toNat y) e0v by rw [act_e0 (by omega)]; rfl]
  generalize digs p m.toNat y = b at *
  generalize m.toNat = n at *
  obtain ⟨h1, h2⟩ := mulP_cg (p := p) (mod := mod) hn l1 l2 n (Nat.le_refl _)
  have hok := upto_ok (L := 2 * n - 1) _ (fun i c' hc' => upto_ok _ (mulIn_ok hp a b i) hc' n) (show (List.replicate (2 * n - 1) (0 : Int)).length = 2 * n - 1 ∧ Rng p (List.replicate (2 * n - 1) 0) from ⟨by simp, Rng.rep hp _⟩) n
  obtain ⟨h3, h4⟩ := redP_cg (p := p) (mod := mod) hn h1 (n - 1) (Nat.le_refl _)
  have hok2 := upto_ok (L := 2 * n - 1) _ (fun k c' hc' => upto_ok _ (redIn_ok hp (n := n) mod (2 * n - 2 - k)) hc' n) hok (n - 1)
  rw [show 2 * n - 1 - (n - 1) = n by omega] at h4
  change (redP p n mod (mulP p n a b)).length = _ at h3
  change cg p n (act n mod ((redP p n mod (mulP p n a b)).take n) e0v) _ at h4
  change _ ∧ Rng p (redP p n mod (mulP p n a b)) at hok2
  generalize redP p n mod (mulP p n a b) = c at *
  have t6 : (c.take n).length = n := by simp; omega
  have t5 : Rng p (c.take n) := fun q => by
    by_cases hq : q < n
    · have := hok2.2 q
      simpa [List.getD_eq_getElem?_getD, List.getElem?_take, hq] using this
    · rw [getD_len _ (by omega)]
      exact ⟨by omega, hp⟩
  have e := vec_val hp t6 t5
  rw [vecX] at e
  rw [e]
  have e2 : vecZ (c.take n) = act n mod (c.take n) e0v := by rw [act_e0 (by omega)]; rfl
  rw [e2]
  refine h4.trans (h2.trans ?_)
  rw [List.take_of_length_le (by omega)]
  exact cg.refl _
end
end Go.Proofs.Yteijojnahpeglaa.AM
/-! The residues are a commutative ring; both products are one (plain Lean). -/
namespace Go.Proofs.Yteijojnahpeglaa.AM
open Go Go.RowKit
set_option linter.unusedVariables false
set_option linter.unusedSimpArgs false
/-- sizes that are in range -/
structure PM8 (p m : Int) : Prop where
  p2 : 2 ≤ p
  m1 : 1 ≤ m.toNat
  q : ordr p m = p ^ m.toNat
theorem pm8 {p m : Int} (h : ordr p m ≠ 0) : PM8 p m := by
  obtain ⟨o1, o2, o3, o4, o5⟩ := ordr_pos h
  exact ⟨o1, by omega, o5⟩
section
variable {p m : Int} {mod : List Int} (h : PM8 p m)
def El (p m x : Int) : Prop := 0 ≤ x ∧ x < ordr p m
theorem PM8.inj (h : PM8 p m) {x y : Int} (hx : El p m x) (hy : El p m y) (hv : cg p m.toNat (vecX p m.toNat x) (vecX p m.toNat y)) : x = y := by
  have := h.q
  exact vec_inj (by have := h.p2; omega) hx.1 (by rw [← this]; exact hx.2) hy.1 (by rw [← this]; exact hy.2) hv
theorem PM8.pos (h : PM8 p m) : 0 < p := by have := h.p2; omega
theorem PM8.val_el (h : PM8 p m) {ds : List Int} (hl : ds.length = m.toNat) (hr : Rng p ds) : El p m (val p ds) := by
  have := val_lt h.pos hr
  rw [hl, ← h.q] at this
  exact this
theorem addL_ok (h : PM8 p m) (x y : Int) : (addL p (digs p m.toNat x) (digs p m.toNat y)).length = m.toNat ∧ Rng p (addL p (digs p m.toNat x) (digs p m.toNat y)) :=
  ⟨by rw [addL, tab_length, digs_length], tab_rng h.pos fun i _ => ⟨Int.emod_nonneg _ (by have := h.pos; omega), Int.emod_lt_of_pos _ h.pos⟩⟩
theorem negL_ok (h : PM8 p m) (x : Int) : (negL p (digs p m.toNat x)).length = m.toNat ∧ Rng p (negL p (digs p m.toNat x)) :=
  ⟨by rw [negL, tab_length, digs_length], tab_rng h.pos fun i _ => ⟨Int.emod_nonneg _ (by have := h.pos; omega), Int.emod_lt_of_pos _ h.pos⟩⟩
theorem fadd_el (h : PM8 p m) (x y : Int) : El p m (fadd p m x y) := h.val_el (addL_ok h x y).1 (addL_ok h x y).2
theorem fneg_el (h : PM8 p m) (x : Int) : El p m (fneg p m x) := h.val_el (negL_ok h x).1 (negL_ok h x).2
theorem fmul_el (h : PM8 p m) (x y : Int) : El p m (fmul p m mod x y) := by
  have hp := h.pos
  have hn := h.m1
  rw [fmul]
  have l1 := digs_length p m.toNat x
  have l2 := digs_length p m.toNat y
  have q0 := h.q
  refine h.val_el ?_ ?_
  · have hok := upto_ok (L := 2 * m.toNat - 1) _ (fun i c' hc' => upto_ok _ (mulIn_ok hp (digs p m.toNat x) (digs p m.toNat y) i) hc' m.toNat) (show (List.replicate (2 * m.toNat - 1) (0 : Int)).length = 2 * m.toNat - 1 ∧ Rng p (List.replicate (2 * m.toNat - 1) 0) from ⟨by simp, Rng.rep hp _⟩) m.toNat
    have hok2 := upto_ok (L := 2 * m.toNat - 1) _ (fun k c' hc' => upto_ok _ (redIn_ok hp (n := m.toNat) mod (2 * m.toNat - 2 - k)) hc' m.toNat) hok (m.toNat - 1)
    change (redP p m.toNat mod (mulP p m.toNat _ _)).length = _ ∧ _ at hok2
    rw [List.length_take, hok2.1]
    omega
  · have hok := upto_ok (L := 2 * m.toNat - 1) _ (fun i c' hc' => upto_ok _ (mulIn_ok hp (digs p m.toNat x) (digs p m.toNat y) i) hc' m.toNat) (show (List.replicate (2 * m.toNat - 1) (0 : Int)).length = 2 * m.toNat - 1 ∧ Rng p (List.replicate (2 * m.toNat - 1) 0) from ⟨by simp, Rng.rep hp _⟩) m.toNat
    have hok2 := upto_ok (L := 2 * m.toNat - 1) _ (fun k c' hc' => upto_ok _ (redIn_ok hp (n := m.toNat) mod (2 * m.toNat - 2 - k)) hc' m.toNat) hok (m.toNat - 1)
    intro q
    by_cases hq : q < m.toNat
    · have := hok2.2 q
      simpa [redP, mulP, List.getD_eq_getElem?_getD, List.getElem?_take, hq] using this
    · rw [getD_len _ (by simp; omega)]
      exact ⟨by omega, hp⟩
theorem fadd_vec (h : PM8 p m) (x y : Int) : cg p m.toNat (vecX p m.toNat (fadd p m x y)) (zadd (vecX p m.toNat x) (vecX p m.toNat y)) := by
  rw [fadd, vec_val h.pos (addL_ok h x y).1 (addL_ok h x y).2]
  intro j hj
  show p ∣ (addL p _ _).getD j 0 - _
  rw [addL, tab_get (by rw [digs_length]; exact hj)]
  exact emod_cg _ _
theorem fneg_vec (h : PM8 p m) (x : Int) : cg p m.toNat (vecX p m.toNat (fneg p m x)) (zsm (-1) (vecX p m.toNat x)) := by
  rw [fneg, vec_val h.pos (negL_ok h x).1 (negL_ok h x).2]
  intro j hj
  show p ∣ (negL p _).getD j 0 - _
  rw [negL, tab_get (by rw [digs_length]; exact hj)]
  obtain ⟨k, hk⟩ := emod_cg p (p - (digs p m.toNat x).getD j 0)
  exact ⟨k + 1, by simp only [zsm, vecX, vecZ]; grind⟩
theorem act_x (h : PM8 p m) (x : Int) : act m.toNat mod (digs p m.toNat x) e0v = vecX p m.toNat x := by
  rw [act_e0 (by rw [digs_length]; exact Nat.le_refl _)]; rfl
theorem fmul_comm (h : PM8 p m) (x y : Int) : fmul p m mod x y = fmul p m mod y x := by
  refine h.inj (fmul_el h _ _) (fmul_el h _ _) ((fmul_vec h.pos h.m1 x y).trans (cg.trans ?_ (fmul_vec h.pos h.m1 y x).symm))
  rw [← act_x h (mod := mod) y, ← act_x h (mod := mod) x, act_comm]
  exact cg.refl _
theorem pmul_eq (ho : ordr p m ≠ 0) (x y : Int) : pmul p m mod x y = fmul p m mod x y := by
  have h := pm8 ho
  refine h.inj (pmul_el ho x y) (fmul_el h _ _) ?_
  rw [fmul_comm h]
  exact (pmul_vec h.pos h.m1 x y).trans (fmul_vec h.pos h.m1 y x).symm
theorem fmul_assoc (h : PM8 p m) (x y z : Int) : fmul p m mod (fmul p m mod x y) z = fmul p m mod x (fmul p m mod y z) := by
  rw [fmul_comm h _ z, fmul_comm h y z]
  refine h.inj (fmul_el h _ _) (fmul_el h _ _) ?_
  refine (fmul_vec h.pos h.m1 _ _).trans (cg.trans ?_ (fmul_vec h.pos h.m1 _ _).symm)
  refine ((fmul_vec h.pos h.m1 x y).act h.m1 _).trans (cg.trans ?_ ((fmul_vec h.pos h.m1 z y).act h.m1 _).symm)
  rw [act_comm]
  exact cg.refl _
theorem fmul_add (h : PM8 p m) (x y z : Int) : fmul p m mod x (fadd p m y z) = fadd p m (fmul p m mod x y) (fmul p m mod x z) := by
  refine h.inj (fmul_el h _ _) (fadd_el h _ _) ?_
  refine (fmul_vec h.pos h.m1 _ _).trans (cg.trans ?_ (fadd_vec h _ _).symm)
  refine ((fadd_vec h y z).act h.m1 _).trans (cg.trans ?_ ((fmul_vec h.pos h.m1 x y).add (fmul_vec h.pos h.m1 x z)).symm)
  rw [act_add]
  exact cg.refl _
theorem fadd_comm (h : PM8 p m) (x y : Int) : fadd p m x y = fadd p m y x := by
  refine h.inj (fadd_el h _ _) (fadd_el h _ _) ((fadd_vec h x y).trans (cg.trans ?_ (fadd_vec h y x).symm))
  intro j _
  exact ⟨0, by simp only [zadd]; grind⟩
theorem fadd_assoc (h : PM8 p m) (x y z : Int) : fadd p m (fadd p m x y) z = fadd p m x (fadd p m y z) := by
  refine h.inj (fadd_el h _ _) (fadd_el h _ _) ((fadd_vec h _ z).trans (((fadd_vec h x y).add (cg.refl _)).trans (cg.trans ?_ ((cg.refl _).add (fadd_vec h y z)).symm)) |>.trans (fadd_vec h x _).symm)
  intro j _
  exact ⟨0, by simp only [zadd]; grind⟩
theorem zero_el (h : PM8 p m) : El p m 0 := ⟨Int.le_refl _, by rw [h.q]; exact Int.pow_pos h.pos⟩
theorem one_el (h : PM8 p m) : El p m 1 := by
  refine ⟨by omega, ?_⟩
  have h1 : p ^ 1 ≤ p ^ m.toNat := ipow_mono (by have := h.p2; omega) h.m1
  rw [show p ^ 1 = p by rw [Int.pow_succ, Int.pow_zero, Int.one_mul]] at h1
  have := h.p2
  rw [h.q]; omega
theorem digs_zero (p : Int) : ∀ n, digs p n 0 = List.replicate n 0
  | 0 => rfl
  | n + 1 => by rw [digs, Int.zero_ediv, digs_zero p n, List.replicate_succ]; simp
theorem vec_zero (n : Nat) : vecX p n 0 = zzv := by
  rw [vecX, digs_zero]
  funext j
  show (List.replicate n (0 : Int)).getD j 0 = 0
  rw [List.getD_eq_getElem?_getD, List.getElem?_replicate]
  split <;> rfl
theorem vec_one (h : PM8 p m) : vecX p m.toNat 1 = e0v := by
  obtain ⟨k, hk⟩ : ∃ k, m.toNat = k + 1 := ⟨m.toNat - 1, by have := h.m1; omega⟩
  have h1 : (1 : Int) % p = 1 := Int.emod_eq_of_lt (by omega) (by have := h.p2; omega)
  have h2 : (1 : Int) / p = 0 := Int.ediv_eq_zero_of_lt (by omega) (by have := h.p2; omega)
  rw [vecX, hk, digs, h1, h2, digs_zero]
  funext j
  cases j with
  | zero => rfl
  | succ j =>
    show (List.replicate k (0 : Int)).getD j 0 = _
    rw [List.getD_eq_getElem?_getD, List.getElem?_replicate]
    simp only [e0v]
    split <;> rfl
theorem fadd_zero (h : PM8 p m) {x : Int} (hx : El p m x) : fadd p m x 0 = x := by
  refine h.inj (fadd_el h _ _) hx ((fadd_vec h x 0).trans ?_)
  rw [vec_zero]
  intro j _
  exact ⟨0, by simp only [zadd, zzv]; grind⟩
theorem fadd_neg (h : PM8 p m) (x : Int) : fadd p m x (fneg p m x) = 0 := by
  refine h.inj (fadd_el h _ _) (zero_el h) ((fadd_vec h x _).trans (((cg.refl _).add (fneg_vec h x)).trans ?_))
  rw [vec_zero]
  intro j _
  exact ⟨0, by simp only [zadd, zsm, zzv]; grind⟩
theorem fmul_one (h : PM8 p m) {x : Int} (hx : El p m x) : fmul p m mod x 1 = x := by
  refine h.inj (fmul_el h _ _) hx ((fmul_vec h.pos h.m1 x 1).trans ?_)
  rw [vec_one h, act_x h]
  exact cg.refl _
theorem fmul_zero (h : PM8 p m) (x : Int) : fmul p m mod x 0 = 0 := by
  refine h.inj (fmul_el h _ _) (zero_el h) ((fmul_vec h.pos h.m1 x 0).trans ?_)
  rw [vec_zero]
  have := act_sm (n := m.toNat) (mod := mod) (digs p m.toNat x) 0 zzv
  have e : ∀ v : ZV, zsm 0 v = zzv := fun v => funext fun j => by simp [zsm, zzv]
  rw [e, e] at this
  rw [this]
  exact cg.refl _
end
end Go.Proofs.Yteijojnahpeglaa.AM
/-! Powers of a generator; the algebra from: every field has a generator, and only fields have (plain Lean). -/
namespace Go.Proofs.Yteijojnahpeglaa.AM
open Go Go.RowKit
set_option linter.unusedVariables false
set_option linter.unusedSimpArgs false
theorem nodup_len {l : List Nat} {N : Nat} (hn : l.Nodup) (hl : ∀ x, x ∈ l → x < N) : l.length ≤ N := by
  have : l.Perm ((List.range N).filter fun x => l.contains x) := (List.perm_ext_iff_of_nodup hn (filter_nodup' _ _)).mpr fun a => by
    simp only [List.mem_filter, List.mem_range, List.contains_iff_mem]
    exact ⟨fun h => ⟨hl a h, h⟩, fun h => h.2⟩
  have h2 := List.length_filter_le (fun x => l.contains x) (List.range N)
  rw [this.length_eq]
  simpa using h2 where
  filter_nodup' (n : Nat) (s : Nat → Bool) : ((List.range n).filter s).Nodup := List.Nodup.sublist List.filter_sublist List.nodup_range
theorem pigeon {N : Nat} {f : Nat → Nat} (hf : ∀ i, i < N → f i < N) (hi : ∀ i j, i < j → j < N → f i ≠ f j) {y : Nat} (hy : y < N) : ∃ i, i < N ∧ f i = y := by
  apply Classical.byContradiction
  intro hc
  have hnd : (y :: (List.range N).map f).Nodup := by
    rw [List.nodup_cons]
    refine ⟨fun hm => ?_, ?_⟩
    · obtain ⟨i, h1, h2⟩ := List.mem_map.mp hm
      exact hc ⟨i, by simpa using h1, h2⟩
    · rw [List.Nodup, List.pairwise_iff_getElem]
      intro i j h1 h2 hij
      simp at h1 h2
      simpa using hi i j hij h2
  have := nodup_len (N := N) hnd fun x hx => by
    rcases List.mem_cons.mp hx with rfl | hx
    · exact hy
    · obtain ⟨i, h1, rfl⟩ := List.mem_map.mp hx
      exact hf i (by simpa using h1)
  simp at this
  omega
section
variable {p m : Int} {mod : List Int}
theorem pw_succ (h : PM8 p m) (ho : ordr p m ≠ 0) {x : Int} (hx : El p m x) : ∀ i, pw p m mod x (i + 1) = fmul p m mod (pw p m mod x i) x
  | 0 => by
    show x = fmul p m mod 1 x
    rw [fmul_comm h, fmul_one h hx]
  | i + 1 => pmul_eq ho _ _
theorem pw_elm (ho : ordr p m ≠ 0) {x : Int} (hx : El p m x) (i : Nat) : El p m (pw p m mod x i) := pw_el ho hx i
theorem pw_add (h : PM8 p m) (ho : ordr p m ≠ 0) {x : Int} (hx : El p m x) (i : Nat) : ∀ j, fmul p m mod (pw p m mod x i) (pw p m mod x j) = pw p m mod x (i + j)
  | 0 => fmul_one h (pw_elm ho hx i)
  | j + 1 => by rw [pw_succ h ho hx j, ← fmul_assoc h, pw_add h ho hx i j, ← Nat.add_assoc, pw_succ h ho hx]
/-- the number of elements but 0 -/
theorem gen_one (h : PM8 p m) (ho : ordr p m ≠ 0) {x : Int} (hx : El p m x) (hg : IsGen p m mod x) : pw p m mod x (ordr p m - 1).toNat = 1 := by
  have h1 := one_el h
  have := hg.2.2
  rw [pmul_eq ho, ← pw_succ h ho hx] at this
  rw [show (ordr p m - 1).toNat = (ordr p m - 2).toNat + 1 by have := h1.2; omega]
  exact this
theorem pw_mul (h : PM8 p m) (ho : ordr p m ≠ 0) {x : Int} (hx : El p m x) {N : Nat} (h1 : pw p m mod x N = 1) : ∀ k, pw p m mod x (N * k) = 1
  | 0 => rfl
  | k + 1 => by rw [Nat.mul_succ, ← pw_add h ho hx, pw_mul h ho hx h1 k, h1, fmul_one h (one_el h)]
theorem pw_mod (h : PM8 p m) (ho : ordr p m ≠ 0) {x : Int} (hx : El p m x) {N : Nat} (h1 : pw p m mod x N = 1) (i : Nat) : pw p m mod x (i % N) = pw p m mod x i := by
  have : pw p m mod x i = fmul p m mod (pw p m mod x (N * (i / N))) (pw p m mod x (i % N)) := by
    rw [pw_add h ho hx, Nat.div_add_mod]
  rw [this, pw_mul h ho hx h1, fmul_comm h, fmul_one h (pw_elm ho hx _)]
theorem gen_all (h : PM8 p m) (ho : ordr p m ≠ 0) {x : Int} (hx : El p m x) (hg : IsGen p m mod x) {y : Int} (hy : 1 ≤ y) (hy' : y < ordr p m) : ∃ n : Nat, (n : Int) < ordr p m - 1 ∧ y = pw p m mod x n := by
  have e1 := (one_el h).2
  obtain ⟨i, h1, h2⟩ := pigeon (N := (ordr p m - 1).toNat) (f := fun i => (pw p m mod x i - 1).toNat) (fun i hi => by
    have := pw_elm (mod := mod) ho hx i
    have h3 := hg.1 i (by omega)
    have h4 := this.1
    have h5 := this.2
    show (pw p m mod x i - 1).toNat < _
    omega) (fun i j hij hj q => by
    have a := pw_elm (mod := mod) ho hx i
    have b := pw_elm (mod := mod) ho hx j
    have h3 := hg.1 i (by omega)
    have h4 := hg.1 j (by omega)
    have a1 := a.1
    have b1 := b.1
    replace q : (pw p m mod x i - 1).toNat = (pw p m mod x j - 1).toNat := q
    exact hg.2.1 i j hij (by omega) (by omega)) (y := (y - 1).toNat) (by omega)
  have a := pw_elm (mod := mod) ho hx i
  have h3 := hg.1 i (by omega)
  have a1 := a.1
  replace h2 : (pw p m mod x i - 1).toNat = (y - 1).toNat := h2
  exact ⟨i, by omega, by omega⟩
theorem gen_inv (h : PM8 p m) (ho : ordr p m ≠ 0) {x : Int} (hx : El p m x) (hg : IsGen p m mod x) {y : Int} (hy : 1 ≤ y) (hy' : y < ordr p m) : ∃ v, 1 ≤ v ∧ v < ordr p m ∧ fmul p m mod y v = 1 := by
  have e1 := (one_el h).2
  obtain ⟨i, hi, rfl⟩ := gen_all h ho hx hg hy hy'
  have g1 := gen_one h ho hx hg
  refine ⟨pw p m mod x ((ordr p m - 1).toNat - i), ?_, (pw_elm ho hx _).2, ?_⟩
  · have := (pw_elm (mod := mod) ho hx ((ordr p m - 1).toNat - i)).1
    by_cases hi0 : i = 0
    · subst hi0; rw [Nat.sub_zero, g1]; omega
    · have := hg.1 ((ordr p m - 1).toNat - i) (by omega)
      omega
  · rw [pw_add h ho hx, show i + ((ordr p m - 1).toNat - i) = (ordr p m - 1).toNat by omega, g1]
theorem field_of_gen (h : PM8 p m) (ho : ordr p m ≠ 0) {x : Int} (hx : El p m x) (hg : IsGen p m mod x) : (fF p m mod).Ok := by
  have inv : ∀ y, (fF p m mod).El y → y ≠ 0 → fmul p m mod y (finv p m mod y) = 1 ∧ El p m (finv p m mod y) := fun y hy h0 => by
    have hex := gen_inv h ho hx hg (y := y) (by have := hy.1; omega) hy.2
    have hs := Classical.choose_spec hex
    rw [finv, dif_pos hex]
    exact ⟨hs.2.2, by have := hs.1; omega, hs.2.1⟩
  exact {
    q2 := by have := (one_el h).2; show 2 ≤ ordr p m; omega
    add_el := fun _ _ => fadd_el h _ _
    mul_el := fun _ _ => fmul_el h _ _
    neg_el := fun _ => fneg_el h _
    inv_el := fun {a} ha => by
      show El p m (finv p m mod a)
      by_cases h0 : a = 0
      · rw [finv]
        split
        · rename_i hex
          have hs := Classical.choose_spec hex
          exact ⟨by have := hs.1; omega, hs.2.1⟩
        · exact zero_el h
      · exact (inv a ha h0).2
    add_comm := fun _ _ => fadd_comm h _ _
    add_assoc := fun _ _ _ => fadd_assoc h _ _ _
    add_z := fun ha => fadd_zero h ha
    add_neg := fun _ => fadd_neg h _
    mul_comm := fun _ _ => fmul_comm h _ _
    mul_assoc := fun _ _ _ => fmul_assoc h _ _ _
    mul_u := fun ha => fmul_one h ha
    mul_add := fun _ _ _ => fmul_add h _ _ _
    mul_inv := fun ha h0 => (inv _ ha h0).1 }
end
theorem FieldOk.shape {p m : Int} {mod : List Int} (h : FieldOk p m mod) : Shape p m mod := by
  obtain ⟨h1, h2, h3⟩ := h
  rcases h3 with ⟨h4, h5⟩ | ⟨h4, h5, h6, h7⟩
  · exact ⟨h1, h2, fun _ => h5, fun q => (q h4).elim⟩
  · exact ⟨h1, h2, fun q => (h4 q).elim, fun _ => ⟨h5, h6⟩⟩
/-- every field has a generator -/
def GenEx : Prop := ∀ p m mod, FieldOk p m mod → ∃ x, 1 ≤ x ∧ x < ordr p m ∧ IsGen p m mod x
/-- what has a generator has no divisors -/
def GenIrr : Prop := ∀ p m mod x, Shape p m mod → m ≠ 1 → 1 ≤ x → x < ordr p m → IsGen p m mod x → irr p mod
theorem alg_of (h1 : GenEx) (h2 : GenIrr) : Alg where
  fo := fun p m mod hF => by
    obtain ⟨x, x1, x2, hg⟩ := h1 p m mod hF
    exact field_of_gen (pm8 hF.1) hF.1 ⟨by omega, x2⟩ hg
  gi := fun p m mod => by
    constructor
    · intro hF
      exact ⟨hF.shape, h1 p m mod hF⟩
    · rintro ⟨hS, x, x1, x2, hg⟩
      refine ⟨hS.1, hS.2.1, ?_⟩
      by_cases hm : m = 1
      · exact .inl ⟨hm, hS.2.2.1 hm⟩
      · exact .inr ⟨hm, (hS.2.2.2 hm).1, (hS.2.2.2 hm).2, h2 p m mod x hS hm x1 x2 hg⟩
  el := fun p m mod x hF x1 x2 hg => by
    have hx : El p m x := ⟨by omega, x2⟩
    refine ⟨fun y y1 y2 => gen_all (pm8 hF.1) hF.1 hx hg y1 y2, fun i j hi hj => ?_⟩
    rw [pw_add (pm8 hF.1) hF.1 hx, pw_mod (pm8 hF.1) hF.1 hx (gen_one (pm8 hF.1) hF.1 hx hg)]
end Go.Proofs.Yteijojnahpeglaa.AM
/-! What has a generator has no divisors (plain Lean). -/
namespace Go.Proofs.Yteijojnahpeglaa.AM
open Go Go.RowKit
set_option linter.unusedVariables false
set_option linter.unusedSimpArgs false
section
variable {p : Int} {n : Nat} {mod : List Int}
theorem divIn_cg (hn : 1 ≤ n) {low : List Int} {i : Nat} (hi : low.length ≤ i) (c : Int) {r : List Int} (hr : i < r.length) : ∀ j, j ≤ low.length →
    (upto (divIn p low i c) j r).length = r.length ∧ (upto (divIn p low i c) j r).getD i 0 = r.getD i 0 ∧
      cg p n (act n mod (upto (divIn p low i c) j r) e0v) (zadd (act n mod r e0v) (zsm (-c) (Tp n mod (i - low.length) (act n mod (low.take j) e0v))))
  | 0, _ => by
    refine ⟨rfl, rfl, ?_⟩
    have e2 : ∀ k, Tp n mod k zzv = zzv := fun k => by
      induction k with
      | zero => rfl
      | succ k ih => rw [Tp, ih, Tm_zero]
    rw [upto_zero, List.take_zero, act, e2]
    intro q hq
    simp only [zadd, zsm, zzv]
    exact ⟨0, by grind⟩
  | j + 1, hj => by
    obtain ⟨h1, h2, h3⟩ := divIn_cg hn hi c hr j (by omega)
    rw [upto_succ, divIn]
    generalize upto (divIn p low i c) j r = d at *
    have hk : i - low.length + j < i := by omega
    refine ⟨by rw [List.length_set, h1], ?_, ?_⟩
    · rw [getD_set, if_neg (by omega), h2]
    · refine (set_cg hn (by omega) _ _).trans ((h3.add (cg.refl _)).trans ?_)
      rw [act_take (by omega), Tp_add, Tp_sm, Tp_Tp]
      intro q hq
      simp only [zadd, zsm]
      exact ⟨low.getD j 0 * Tp n mod (i - low.length + j) e0v q, by grind⟩
theorem divStep_cg (hn : 1 ≤ n) {low : List Int} {i : Nat} (hi : low.length ≤ i) {r : List Int} (hr : i < r.length) :
    cg p n (act n mod (divStep p low i r) e0v) (zadd (act n mod r e0v) (zsm (- r.getD i 0) (Tp n mod (i - low.length) (zadd (act n mod low e0v) (Tp n mod low.length e0v))))) := by
  obtain ⟨h1, h2, h3⟩ := divIn_cg (p := p) (mod := mod) hn hi (r.getD i 0) hr low.length (Nat.le_refl _)
  rw [List.take_length] at h3
  rw [divStep, act_set _ _ _ _ (by omega), h2]
  refine (h3.add (cg.refl _)).trans ?_
  rw [Tp_add, Tp_Tp, show i - low.length + low.length = i by omega]
  intro q hq
  simp only [zadd, zsm]
  exact ⟨0, by grind⟩
theorem divRem_cg (hp : 1 < p) (hn : 1 ≤ n) (hm : mod.length = n) (rm : Rng p mod) {low : List Int} (hd : low.length ≤ n) : ∀ k, k ≤ n + 1 - low.length → ∃ q : List Int, q.length = n + 1 - low.length ∧ Rng p q ∧ (∀ t, t < n + 1 - low.length - k → q.getD t 0 = 0) ∧
    (0 < k → q.getD (n - low.length) 0 = 1) ∧ cg p n (zadd (act n mod (upto (fun k r => divStep p low (mod.length - k) r) k (mod ++ [1])) e0v) (act n mod q (zadd (act n mod low e0v) (Tp n mod low.length e0v)))) zzv
  | 0, _ => by
    refine ⟨List.replicate (n + 1 - low.length) 0, by simp, Rng.rep (by omega) _, fun t ht => ?_, fun h => by omega, ?_⟩
    · rw [List.getD_eq_getElem?_getD, List.getElem?_replicate]; split <;> rfl
    · rw [upto_zero, act_zeros, act_app, hm, act_e0 (by omega), Tn_e0 hn]
      intro j hj
      simp only [zadd, zsm, zzv, if_pos hj]
      exact ⟨0, by grind⟩
  | k + 1, hk => by
    obtain ⟨q, q1, q2, q3, q4, q5⟩ := divRem_cg hp hn hm rm hd k (by omega)
    obtain ⟨l1, l2⟩ := divRem_ok hp (low := low) rm k
    rw [upto_succ]
    have hlead : k = 0 → (upto (fun k r => divStep p low (mod.length - k) r) k (mod ++ [1])).getD (n - k) 0 = 1 := fun h0 => by
      subst h0
      rw [upto_zero, Nat.sub_zero, ← hm]
      simp [List.getD_eq_getElem?_getD]
    generalize upto (fun k r => divStep p low (mod.length - k) r) k (mod ++ [1]) = r at *
    have hs := divStep_cg (p := p) (mod := mod) hn (low := low) (i := n - k) (by omega) (r := r) (by omega)
    rw [hm]
    have rc := l2 (n - k)
    refine ⟨q.set (n - low.length - k) (r.getD (n - k) 0), by rw [List.length_set, q1], q2.set rc.1 rc.2 _, fun t ht => ?_, fun _ => ?_, ?_⟩
    · rw [getD_set, if_neg (by omega)]
      exact q3 t (by omega)
    · rw [getD_set]
      by_cases h0 : k = 0
      · rw [if_pos ⟨by omega, by omega⟩]; exact hlead h0
      · rw [if_neg (by omega)]; exact q4 (by omega)
    · rw [act_set _ _ _ _ (by omega), q3 _ (by omega)]
      refine (hs.add (cg.refl _)).trans (cg.trans ?_ q5)
      rw [show n - k - low.length = n - low.length - k by omega]
      intro j hj
      simp only [zadd, zsm]
      exact ⟨0, by grind⟩
end
theorem act_pad {n : Nat} {mod : List Int} (l : List Int) (v : ZV) : ∀ k, act n mod (l ++ List.replicate k 0) v = act n mod l v
  | 0 => by simp
  | k + 1 => by
    rw [List.replicate_succ', ← List.append_assoc, act_app, act_pad l v k]
    funext j
    simp [zadd, zsm]
theorem rng_pad {p : Int} (hp : 0 < p) {l : List Int} (h : Rng p l) (k : Nat) : Rng p (l ++ List.replicate k 0) := h.app (Rng.rep hp k)
theorem gen_irr : GenIrr := fun p m mod g hS hm1 g1 g2 hg => by
  have h := pm8 hS.1
  have ho := hS.1
  obtain ⟨hml, rm⟩ := hS.2.2.2 hm1
  have hn := h.m1
  have hp := h.p2
  intro d d1 d2 v v0 v1 hdiv
  generalize hnn : m.toNat = n at *
  have hmn : mod.length = n := by omega
  have ld := digs_length p d v
  have rd := digs_rng h.pos d v
  generalize digs p d v = low at *
  obtain ⟨q, q1, q2, -, q4, q5⟩ := divRem_cg (p := p) (mod := mod) (by omega) hn hmn rm (low := low) (by omega) (n + 1 - low.length) (Nat.le_refl _)
  have hz : act n mod (upto (fun k r => divStep p low (mod.length - k) r) (n + 1 - low.length) (mod ++ [1])) e0v = zzv := by
    have l1 := (divRem_ok (show 1 < p by omega) (low := low) rm (n + 1 - low.length)).1
    have : upto (fun k r => divStep p low (mod.length - k) r) (n + 1 - low.length) (mod ++ [1]) = List.replicate (n + 1) 0 := by
      refine List.ext_getElem (by rw [l1, hmn]; simp) fun j h1 h2 => ?_
      have := hdiv j
      rw [divRem, hmn] at this
      simp only [List.getElem_replicate]
      rw [hmn] at h1
      simpa [List.getD_eq_getElem?_getD, h1, hmn] using this
    rw [this, act_zeros]
  rw [hz] at q5
  have qlead := q4 (by omega)
  -- the two elements
  have rl : Rng p (low ++ [1]) := rd.app (Rng.one (by omega) (by omega))
  have xl : ((low ++ [1]) ++ List.replicate (n - d - 1) 0).length = m.toNat := by simp; omega
  have yl : (q ++ List.replicate (d - 1) 0).length = m.toNat := by simp; omega
  have xr := rng_pad h.pos rl (n - d - 1)
  have yr := rng_pad h.pos q2 (d - 1)
  have xe := h.val_el xl xr
  have ye := h.val_el yl yr
  have xv := vec_val h.pos xl xr
  have yd := digs_val h.pos yr
  rw [yl] at yd
  have prod : fmul p m mod (val p (q ++ List.replicate (d - 1) 0)) (val p ((low ++ [1]) ++ List.replicate (n - d - 1) 0)) = 0 := by
    refine h.inj (fmul_el h _ _) (zero_el h) ((fmul_vec h.pos h.m1 _ _).trans ?_)
    rw [yd, xv, vec_zero, act_pad]
    have e : vecZ ((low ++ [1]) ++ List.replicate (n - d - 1) 0) = zadd (act n mod low e0v) (Tp n mod low.length e0v) := by
      have e1 : vecZ ((low ++ [1]) ++ List.replicate (n - d - 1) 0) = act n mod ((low ++ [1]) ++ List.replicate (n - d - 1) 0) e0v := by
        rw [act_e0 (by rw [xl, hnn]; exact Nat.le_refl _)]; rfl
      rw [e1, act_pad, act_app]
      funext j
      simp only [zadd, zsm]
      omega
    rw [e, hnn]
    intro j hj
    obtain ⟨k, hk⟩ := q5 j hj
    simp only [zadd, zzv] at hk
    exact ⟨k, by simp only [zzv]; grind⟩
  have ne : ∀ {l : List Int} {t : Nat}, l.length = m.toNat → Rng p l → l.getD t 0 = 1 → val p l ≠ 0 := fun {l t} hl hr h1 h0 => by
    have := digs_val h.pos hr
    rw [h0, digs_zero] at this
    rw [← this, List.getD_eq_getElem?_getD, List.getElem?_replicate] at h1
    split at h1 <;> simp at h1
  have x0 := ne xl xr (t := d) (by
    have : d = low.length := ld.symm
    subst this
    simp [List.getD_eq_getElem?_getD, List.getElem?_append_left])
  have y0 := ne yl yr (t := n - low.length) (by
    rw [List.getD_eq_getElem?_getD, List.getElem?_append_left (by omega), ← List.getD_eq_getElem?_getD]
    exact qlead)
  have gx : El p m g := ⟨by omega, g2⟩
  obtain ⟨i, hi, ei⟩ := gen_all h ho gx hg (y := val p (q ++ List.replicate (d - 1) 0)) (by have := ye.1; omega) ye.2
  obtain ⟨j, hj, ej⟩ := gen_all h ho gx hg (y := val p ((low ++ [1]) ++ List.replicate (n - d - 1) 0)) (by have := xe.1; omega) xe.2
  rw [ei, ej, pw_add h ho gx, ← pw_mod h ho gx (gen_one h ho gx hg)] at prod
  refine hg.1 _ ?_ prod
  have e1 := (one_el h).2
  have := Nat.mod_lt (i + j) (show 0 < (ordr p m - 1).toNat by omega)
  omega
end Go.Proofs.Yteijojnahpeglaa.AM
/-! Products, powers and divisions of lists of digits that the kernel can work out (plain Lean). -/
namespace Go.Proofs.Yteijojnahpeglaa.AM
open Go Go.RowKit
set_option linter.unusedVariables false
set_option linter.unusedSimpArgs false
/-- x is worked out before f is called -/
def forceN {α : Type} (x : Nat) (f : Nat → α) : α := match x with
  | 0 => f 0
  | k + 1 => f (k + 1)
theorem forceN_eq {α : Type} (x : Nat) (f : Nat → α) : forceN x f = f x := by cases x <;> rfl
def forceL {α : Type} : List Nat → (List Nat → α) → α
  | [], f => f []
  | x :: xs, f => forceN x fun x' => forceL xs fun xs' => f (x' :: xs')
theorem forceL_eq {α : Type} : ∀ (l : List Nat) (f : List Nat → α), forceL l f = f l
  | [], f => rfl
  | x :: xs, f => by rw [forceL, forceN_eq, forceL_eq xs]
def goN (p t b : Nat) : Nat → List Nat → List Nat → List Nat → List Nat
  | prev, o :: os, ms, x :: xs => ((prev + (p - t) * ms.headD 0 + b * x) % p) :: goN p t b o os ms.tail xs
  | _, _, _, _ => []
def mulN (p n : Nat) (ms a : List Nat) : List Nat → List Nat
  | [] => List.replicate n 0
  | b :: bs => forceL (mulN p n ms a bs) fun out => goN p (out.getD (n - 1) 0) b 0 out ms a
def oneN (n : Nat) : List Nat := 1 :: List.replicate (n - 1) 0
def powN (p n : Nat) (ms g : List Nat) : Nat → Nat → List Nat
  | 0, _ => oneN n
  | f + 1, e => if e = 0 then oneN n else forceL (powN p n ms g f (e / 2)) fun h => forceL (mulN p n ms h h) fun s => if e % 2 = 1 then mulN p n ms s g else s
def divInN (p c i : Nat) (low : List Nat) (j : Nat) (r : List Nat) : List Nat := r.set (i - low.length + j) ((r.getD (i - low.length + j) 0 + (p - c) * low.getD j 0) % p)
def uptoF (f : Nat → List Nat → List Nat) : Nat → List Nat → List Nat
  | 0, a => a
  | n + 1, a => forceL (uptoF f n a) (f n)
def divStepN (p : Nat) (low : List Nat) (i : Nat) (r : List Nat) : List Nat := (uptoF (divInN p (r.getD i 0) i low) low.length r).set i 0
def divRemN (p : Nat) (low ms : List Nat) : List Nat := uptoF (fun k r => divStepN p low (ms.length - k) r) (ms.length + 1 - low.length) (ms ++ [1])
def digN (p : Nat) : Nat → Nat → List Nat
  | 0, _ => []
  | n + 1, x => x % p :: digN p n (x / p)
def allLt (p : Nat) (l : List Nat) : Prop := ∀ i, l.getD i 0 < p
theorem natsI_getD (l : List Nat) (j : Nat) : (natsI l).getD j 0 = ((l.getD j 0 : Nat) : Int) := by
  rw [natsI, List.getD_eq_getElem?_getD, List.getD_eq_getElem?_getD, List.getElem?_map]
  cases l[j]? <;> rfl
theorem natsI_set (l : List Nat) (k x : Nat) : natsI (l.set k x) = (natsI l).set k (x : Int) := by simp [natsI, List.map_set]
theorem natsI_rng {p : Nat} {l : List Nat} (h : allLt p l) : Rng (p : Int) (natsI l) := fun i => by
  rw [natsI_getD]
  have := h i
  omega
theorem natsI_inj {l l' : List Nat} (h : natsI l = natsI l') : l = l' := by
  exact (List.map_inj_right (fun a b h => by omega)).mp h
theorem digN_eq (p : Nat) : ∀ n x, natsI (digN p n x) = digs p n x
  | 0, _ => rfl
  | n + 1, x => by
    rw [digN, digs, natsI, List.map_cons, ← natsI, digN_eq p n]
    simp
theorem digN_length (p : Nat) : ∀ n x, (digN p n x).length = n
  | 0, _ => rfl
  | n + 1, x => by rw [digN, List.length_cons, digN_length p n]
theorem digN_lt {p : Nat} (hp : 0 < p) (n x : Nat) : allLt p (digN p n x) := fun i => by
  have := digs_rng (p := p) (by omega) n x i
  rw [← digN_eq, natsI_getD] at this
  omega
theorem goN_ok {p t b : Nat} (hp : 0 < p) : ∀ (prev : Nat) (os ms xs : List Nat), os.length = xs.length → (goN p t b prev os ms xs).length = os.length ∧
    ∀ j, j < os.length → (goN p t b prev os ms xs).getD j 0 = ((if j = 0 then prev else os.getD (j - 1) 0) + (p - t) * ms.getD j 0 + b * xs.getD j 0) % p
  | prev, [], ms, [], h => ⟨rfl, fun j hj => by simp at hj⟩
  | prev, o :: os, ms, x :: xs, h => by
    obtain ⟨h1, h2⟩ := goN_ok hp o os ms.tail xs (by simpa using h)
    rw [goN]
    refine ⟨by rw [List.length_cons, h1]; rfl, fun j hj => ?_⟩
    cases j with
    | zero =>
      simp only [List.getD_cons_zero, if_true]
      cases ms <;> rfl
    | succ j =>
      rw [List.getD_cons_succ, h2 j (by simpa using hj)]
      have e : ms.tail.getD j 0 = ms.getD (j + 1) 0 := by cases ms <;> rfl
      rw [e, List.getD_cons_succ]
      cases j with
      | zero => rw [if_pos rfl, if_neg (by omega)]; rfl
      | succ j => rw [if_neg (by omega), if_neg (by omega)]; rfl
  | prev, [], ms, _ :: _, h => by simp at h
  | prev, _ :: _, ms, [], h => by simp at h
theorem mulN_ok {p n : Nat} (hp : 0 < p) (hn : 1 ≤ n) {ms a : List Nat} (ha : a.length = n) : ∀ bs : List Nat, (mulN p n ms a bs).length = n ∧ allLt p (mulN p n ms a bs) ∧
    cg p n (vecZ (natsI (mulN p n ms a bs))) (act n (natsI ms) (natsI bs) (vecZ (natsI a)))
  | [] => by
    refine ⟨by simp [mulN], fun i => ?_, fun j hj => ?_⟩
    · rw [mulN, List.getD_eq_getElem?_getD, List.getElem?_replicate]
      split <;> simpa using hp
    · have : vecZ (natsI (mulN p n ms a [])) j = 0 := by
        show (natsI (List.replicate n 0)).getD j 0 = 0
        rw [natsI_getD, List.getD_eq_getElem?_getD, List.getElem?_replicate]
        split <;> rfl
      rw [this]
      exact ⟨0, by simp [natsI, act, zzv]⟩
  | b :: bs => by
    obtain ⟨h1, h2, h3⟩ := mulN_ok hp hn ha (ms := ms) bs
    rw [mulN, forceL_eq]
    generalize mulN p n ms a bs = out at *
    obtain ⟨g1, g2⟩ := goN_ok (t := out.getD (n - 1) 0) (b := b) hp 0 out ms a (by omega)
    have ht := h2 (n - 1)
    refine ⟨by rw [g1, h1], fun i => ?_, ?_⟩
    · by_cases hi : i < out.length
      · rw [g2 i hi]; exact Nat.mod_lt _ hp
      · rw [getD_len _ (by omega)]; exact hp
    · rw [show natsI (b :: bs) = (b : Int) :: natsI bs from rfl, act]
      refine cg.trans (v := zadd (zsm (b : Int) (vecZ (natsI a))) (Tm n (natsI ms) (vecZ (natsI out)))) (fun j hj => ?_) ((cg.refl _).add (h3.T hn))
      have e : vecZ (natsI (goN p (out.getD (n - 1) 0) b 0 out ms a)) j = (((if j = 0 then 0 else ((out.getD (j - 1) 0 : Nat) : Int)) + ((p : Int) - (out.getD (n - 1) 0 : Nat)) * (ms.getD j 0 : Nat) + (b : Int) * (a.getD j 0 : Nat)) % (p : Int)) := by
        show (natsI _).getD j 0 = _
        rw [natsI_getD, g2 j (by omega)]
        have : ((p - out.getD (n - 1) 0 : Nat) : Int) = (p : Int) - (out.getD (n - 1) 0 : Nat) := by omega
        rw [Int.natCast_emod, Int.natCast_add, Int.natCast_add, Int.natCast_mul, Int.natCast_mul, this]
        split <;> rfl
      rw [e]
      obtain ⟨q, hq⟩ := emod_cg (p : Int) ((if j = 0 then 0 else ((out.getD (j - 1) 0 : Nat) : Int)) + ((p : Int) - (out.getD (n - 1) 0 : Nat)) * (ms.getD j 0 : Nat) + (b : Int) * (a.getD j 0 : Nat))
      simp only [zadd, zsm, Tm, if_pos hj, vecZ, natsI_getD]
      exact ⟨q + (ms.getD j 0 : Nat), by grind⟩
section
variable {p n : Nat} {ms : List Nat}
/-- the number of a list of digits -/
theorem mulN_val (h : PM8 (p : Int) (n : Int)) {a b : List Nat} (ha : a.length = n) (hb : b.length = n) (la : allLt p a) (lb : allLt p b) :
    val p (natsI (mulN p n ms a b)) = fmul p n (natsI ms) (val p (natsI a)) (val p (natsI b)) := by
  have hp : 0 < p := by have := h.p2; omega
  have hn : 1 ≤ n := by have := h.m1; omega
  obtain ⟨h1, h2, h3⟩ := mulN_ok hp hn (ms := ms) ha b
  have hnn : ((n : Int)).toNat = n := rfl
  rw [fmul_comm h]
  refine h.inj (h.val_el (by rw [natsI_length, h1]; rfl) (natsI_rng h2)) (fmul_el h _ _) ?_
  rw [vec_val h.pos (by rw [natsI_length, h1]; rfl) (natsI_rng h2)]
  refine cg.trans ?_ (fmul_vec h.pos h.m1 _ _).symm
  have e1 : digs p ((n : Int)).toNat (val p (natsI b)) = natsI b := by
    have := digs_val h.pos (natsI_rng lb)
    rw [natsI_length, hb] at this
    exact this
  rw [e1, vec_val h.pos (by rw [natsI_length, ha]; rfl) (natsI_rng la)]
  exact h3
theorem oneN_ok (h : PM8 (p : Int) (n : Int)) : (oneN n).length = n ∧ allLt p (oneN n) ∧ val p (natsI (oneN n)) = 1 := by
  have hp := h.p2
  have hn : 1 ≤ n := by have := h.m1; omega
  refine ⟨by simp [oneN]; omega, fun i => ?_, ?_⟩
  · cases i with
    | zero => show 1 < p; omega
    | succ i =>
      show (List.replicate (n - 1) 0).getD i 0 < p
      rw [List.getD_eq_getElem?_getD, List.getElem?_replicate]
      split <;> (simp; omega)
  · have hz : ∀ k, val (p : Int) (natsI (List.replicate k 0)) = 0 := fun k => by
      induction k with
      | zero => rfl
      | succ k ih => rw [List.replicate_succ]; show (0 : Int) + p * val p (natsI (List.replicate k 0)) = 0; rw [ih]; simp
    show (1 : Int) + p * val p (natsI (List.replicate (n - 1) 0)) = 1
    rw [hz]; simp
theorem powN_ok (h : PM8 (p : Int) (n : Int)) {g : List Nat} (hg : g.length = n) (lg : allLt p g) (ho : ordr (p : Int) (n : Int) ≠ 0) : ∀ f e, e < 2 ^ f → (powN p n ms g f e).length = n ∧ allLt p (powN p n ms g f e) ∧ val p (natsI (powN p n ms g f e)) = pw p n (natsI ms) (val p (natsI g)) e
  | 0, e, he => by
    have : e = 0 := by simpa using he
    subst this
    exact oneN_ok h
  | f + 1, e, he => by
    have hp : 0 < p := by have := h.p2; omega
    have hn : 1 ≤ n := by have := h.m1; omega
    rw [powN]
    split
    · rename_i h0; subst h0; exact oneN_ok h
    · rename_i h0
      rw [Nat.pow_succ] at he
      obtain ⟨h1, h2, h3⟩ := powN_ok h hg lg ho f (e / 2) (by omega)
      rw [forceL_eq, forceL_eq]
      have gx : El (p : Int) (n : Int) (val p (natsI g)) := h.val_el (by rw [natsI_length, hg]; rfl) (natsI_rng lg)
      generalize powN p n ms g f (e / 2) = w at *
      obtain ⟨s1, s2, -⟩ := mulN_ok hp hn (ms := ms) h1 w
      have s3 := mulN_val (ms := ms) h h1 h1 h2 h2
      rw [h3, pw_add h ho gx] at s3
      split
      · rename_i hodd
        obtain ⟨t1, t2, -⟩ := mulN_ok hp hn (ms := ms) s1 g
        refine ⟨t1, t2, ?_⟩
        rw [mulN_val h s1 hg s2 lg, s3, ← pw_succ h ho gx]
        congr 1
        omega
      · rename_i heven
        refine ⟨s1, s2, ?_⟩
        rw [s3]
        congr 1
        omega
end
theorem uptoF_eq (f : Nat → List Nat → List Nat) : ∀ n a, uptoF f n a = upto f n a
  | 0, a => rfl
  | n + 1, a => by rw [uptoF, forceL_eq, uptoF_eq f n]; rfl
theorem divInN_eq {p c i : Nat} (hc : c < p) (low : List Nat) : ∀ j (r : List Nat), natsI (upto (divInN p c i low) j r) = upto (divIn (p : Int) (natsI low) i (c : Int)) j (natsI r)
  | 0, r => rfl
  | j + 1, r => by
    rw [upto_succ, upto_succ, ← divInN_eq hc low j r, divInN, divIn, natsI_set, natsI_length, natsI_getD, natsI_getD]
    congr 1
    have : ((p - c : Nat) : Int) = (p : Int) - (c : Int) := by omega
    rw [Int.natCast_emod, Int.natCast_add, Int.natCast_mul, this]
theorem divRemN_eq {p : Nat} (hp : 1 < p) {low ms : List Nat} (hm : allLt p ms) : ∀ k, natsI (upto (fun k r => divStepN p low (ms.length - k) r) k (ms ++ [1])) = upto (fun k r => divStep (p : Int) (natsI low) ((natsI ms).length - k) r) k (natsI ms ++ [1])
  | 0 => by simp [upto, natsI]
  | k + 1 => by
    have ih := divRemN_eq hp (low := low) hm k
    have hr := (divRem_ok (p := (p : Int)) (by omega) (low := natsI low) (natsI_rng hm) k).2
    rw [upto_succ, upto_succ, ← ih]
    rw [← ih] at hr
    generalize upto (fun k r => divStepN p low (ms.length - k) r) k (ms ++ [1]) = r at *
    have hc := hr (ms.length - k)
    rw [natsI_getD] at hc
    rw [divStepN, divStep, natsI_set, uptoF_eq, divInN_eq (by omega), natsI_length, natsI_length, natsI_getD]
    rfl
theorem divsN {p : Nat} (hp : 1 < p) {low ms : List Nat} (hm : allLt p ms) (h : (divRemN p low ms).all (fun x => x == 0) = true) : divs (p : Int) (natsI low) (natsI ms) := by
  intro i
  have e := divRemN_eq hp (low := low) hm (ms.length + 1 - low.length)
  rw [divRem, natsI_length, natsI_length]
  rw [natsI_length] at e
  rw [← e, natsI_getD, ← uptoF_eq]
  show ((divRemN p low ms).getD i 0 : Int) = 0
  rw [List.all_eq_true] at h
  by_cases hi : i < (divRemN p low ms).length
  · have := h _ (List.getElem_mem hi)
    simp only [beq_iff_eq] at this
    rw [List.getD_eq_getElem?_getD, List.getElem?_eq_getElem hi]
    simp [this]
  · rw [getD_len _ (by omega)]; rfl
end Go.Proofs.Yteijojnahpeglaa.AM
/-! The check of a certificate, and what it shows (plain Lean). -/
namespace Go.Proofs.Yteijojnahpeglaa.AM
open Go Go.RowKit
set_option linter.unusedVariables false
set_option linter.unusedSimpArgs false
def eqL : List Nat → List Nat → Bool
  | [], [] => true
  | x :: xs, y :: ys => Nat.beq x y && eqL xs ys
  | _, _ => false
theorem eqL_iff : ∀ {l l' : List Nat}, eqL l l' = true ↔ l = l'
  | [], [] => by simp [eqL]
  | x :: xs, y :: ys => by
    rw [eqL, Bool.and_eq_true, eqL_iff, List.cons.injEq, Nat.beq_eq]
  | [], y :: ys => by simp [eqL]
  | x :: xs, [] => by simp [eqL]
/-- each divisor of N divides one of Ds -/
def okDs (N : Nat) (Ds : List Nat) : Bool := (List.range N).all fun e => Nat.beq e 0 || !(Nat.beq (N % e) 0) || Ds.any fun d => Nat.beq (d % e) 0
def chkGen (p n : Nat) (ms g Ds : List Nat) (N : Nat) : Bool := eqL (powN p n ms g 8 N) (oneN n) && Ds.all fun d => !(eqL (powN p n ms g 8 d) (oneN n))
def chk1 (p n : Nat) (Ds : List Nat) (v c : Nat) : Bool :=
  if c < p ^ n then forceL (digN p n v) fun ms => forceL (digN p n c) fun g => chkGen p n ms g Ds (p ^ n - 1)
  else forceL (digN p n v) fun ms => Nat.ble 1 (c / p ^ n) && Nat.ble (2 * (c / p ^ n)) n && Nat.ble (c % p ^ n + 1) (p ^ (c / p ^ n)) && forceL (digN p (c / p ^ n) (c % p ^ n)) fun low => (divRemN p low ms).all fun x => x == 0
def chkAll (p n : Nat) (Ds : List Nat) : Nat → List Nat → Bool
  | _, [] => true
  | v, c :: cs => chk1 p n Ds v c && forceN (v + 1) fun v' => chkAll p n Ds v' cs
def chkTab (p n : Nat) (Ds : List Nat) (cs : List Nat) : Bool := Nat.beq cs.length (p ^ n) && okDs (p ^ n - 1) Ds && chkAll p n Ds 0 cs
def chkE (p : Nat) (e : Bool × Nat × List Nat) : Bool := match e.1 with
  | true => okDs (p - 1) e.2.2 && Nat.ble (e.2.1 + 1) p && (e.2.2.all fun d => Nat.ble (d + 1) 256) && chkGen p 1 [] [e.2.1] e.2.2 (p - 1)
  | false => Nat.ble 2 e.2.1 && Nat.ble (e.2.1 + 1) p && Nat.beq (p % e.2.1) 0
def chkP : Nat → List (Bool × Nat × List Nat) → Bool
  | _, [] => true
  | p, e :: l => chkE p e && forceN (p + 1) fun p' => chkP p' l
theorem chkAll_at {p n : Nat} {Ds : List Nat} : ∀ {cs : List Nat} {v i : Nat}, chkAll p n Ds v cs = true → i < cs.length → chk1 p n Ds (v + i) (cs.getD i 0) = true
  | [], v, i, _, hi => by simp at hi
  | c :: cs, v, i, h, hi => by
    rw [chkAll, forceN_eq, Bool.and_eq_true] at h
    cases i with
    | zero => exact h.1
    | succ i =>
      have := chkAll_at (i := i) h.2 (by simpa using hi)
      rwa [show v + 1 + i = v + (i + 1) by omega] at this
theorem chkP_at : ∀ {l : List (Bool × Nat × List Nat)} {p i : Nat}, chkP p l = true → i < l.length → ∃ e, chkE (p + i) e = true
  | [], p, i, _, hi => by simp at hi
  | e :: l, p, i, h, hi => by
    rw [chkP, forceN_eq, Bool.and_eq_true] at h
    cases i with
    | zero => exact ⟨e, h.1⟩
    | succ i =>
      have := chkP_at (i := i) h.2 (by simpa using hi)
      rwa [show p + 1 + i = p + (i + 1) by omega] at this
section
variable {p m : Int} {mod : List Int}
theorem pw_gcd (h : PM8 p m) (ho : ordr p m ≠ 0) {x : Int} (hx : El p m x) (a b : Nat) (ha : pw p m mod x a = 1) (hb : pw p m mod x b = 1) : pw p m mod x (Nat.gcd a b) = 1 := by
  induction a, b using Nat.gcd.induction with
  | H0 n => rw [Nat.gcd_zero_left]; exact hb
  | H1 a b ha0 ih =>
    rw [Nat.gcd_rec]
    exact ih (by rw [pw_mod h ho hx ha]; exact hb) ha
theorem pw_ne_zero (h : PM8 p m) (ho : ordr p m ≠ 0) {x : Int} (hx : El p m x) {N : Nat} (h1 : pw p m mod x N = 1) {i : Nat} (hi : i ≤ N) : pw p m mod x i ≠ 0 := fun h0 => by
  have := pw_add (mod := mod) h ho hx (N - i) i
  rw [h0, fmul_zero h, show N - i + i = N by omega, h1] at this
  omega
theorem gen_of_order (h : PM8 p m) (ho : ordr p m ≠ 0) {x : Int} (hx : El p m x) {N : Nat} (hN : (N : Int) = ordr p m - 1) (h1 : pw p m mod x N = 1) {Ds : List Nat} (hD : ∀ d, d ∈ Ds → pw p m mod x d ≠ 1) (hok : okDs N Ds = true) : IsGen p m mod x := by
  have e1 := (one_el h).2
  refine ⟨fun i hi => pw_ne_zero h ho hx h1 (by omega), fun i j hij hj q => ?_, ?_⟩
  · -- two equal powers
    have hd : pw p m mod x (j - i) = 1 := by
      have a := pw_add (mod := mod) h ho hx (N - i) j
      have b := pw_add (mod := mod) h ho hx (N - i) i
      rw [← q, b, show N - i + i = N by omega, h1] at a
      have : pw p m mod x (N - i + j) = pw p m mod x (j - i) := by
        have c := pw_add (mod := mod) h ho hx N (j - i)
        rw [h1, fmul_comm h, fmul_one h (pw_elm ho hx _)] at c
        rw [c]
        congr 1
        omega
      rw [← this, ← a]
    have he := pw_gcd h ho hx (j - i) N hd h1
    have g1 := Nat.gcd_dvd_left (j - i) N
    have g2 := Nat.gcd_dvd_right (j - i) N
    have g3 := Nat.gcd_pos_of_pos_left N (show 0 < j - i by omega)
    have g4 := Nat.le_of_dvd (by omega) g1
    generalize Nat.gcd (j - i) N = e at *
    rw [okDs, List.all_eq_true] at hok
    have := hok e (by simp; omega)
    simp only [Bool.or_eq_true, Bool.not_eq_true', Nat.beq_eq, List.any_eq_true] at this
    rcases this with (h0 | h0) | ⟨d, h2, h3⟩
    · omega
    · rw [Nat.mod_eq_zero_of_dvd g2] at h0
      cases h0
    · refine hD d h2 ?_
      obtain ⟨k, rfl⟩ := Nat.dvd_of_mod_eq_zero h3
      exact pw_mul h ho hx he k
  · rw [pmul_eq ho, ← pw_succ h ho hx, show (ordr p m - 2).toNat + 1 = N by omega, h1]
end
theorem chkGen_ok {p n : Nat} (h : PM8 (p : Int) (n : Int)) (ho : ordr (p : Int) (n : Int) ≠ 0) (hq : p ^ n ≤ 256) {ms g Ds : List Nat} (hg : g.length = n) (lg : allLt p g) (hD : ∀ d, d ∈ Ds → d < 256) (hok : okDs (p ^ n - 1) Ds = true) (hc : chkGen p n ms g Ds (p ^ n - 1) = true) :
    El (p : Int) (n : Int) (val p (natsI g)) ∧ IsGen p n (natsI ms) (val p (natsI g)) := by
  have gx : El (p : Int) (n : Int) (val p (natsI g)) := h.val_el (by rw [natsI_length, hg]; rfl) (natsI_rng lg)
  rw [chkGen, Bool.and_eq_true, eqL_iff, List.all_eq_true] at hc
  obtain ⟨h1, h2⟩ := hc
  have one := oneN_ok h
  have q0 : ordr (p : Int) (n : Int) = ((p ^ n : Nat) : Int) := by
    rw [h.q]; simp
  have qp : 0 < p ^ n := Nat.pow_pos (by have := h.p2; omega)
  refine ⟨gx, gen_of_order h ho gx (N := p ^ n - 1) (by omega) ?_ (Ds := Ds) (fun d hd he => ?_) hok⟩
  · rw [← (powN_ok (ms := ms) h hg lg ho 8 (p ^ n - 1) (by omega)).2.2, h1]
    exact one.2.2
  · have := h2 d hd
    obtain ⟨a1, a2, a3⟩ := powN_ok (ms := ms) h hg lg ho 8 d (by have := hD d hd; omega)
    rw [Bool.not_eq_true', ← Bool.not_eq_true, eqL_iff] at this
    refine this (natsI_inj ?_)
    rw [he] at a3
    have b1 := digs_val h.pos (natsI_rng a2)
    have b2 := digs_val h.pos (natsI_rng one.2.1)
    rw [natsI_length, a1] at b1
    rw [natsI_length, one.1] at b2
    rw [← b1, ← b2, a3, one.2.2]
theorem val_toNat {p : Nat} (hp : 0 < p) {mod : List Int} (hr : Rng (p : Int) mod) : natsI (digN p mod.length (val p mod).toNat) = mod := by
  have hv := (val_lt (show (0 : Int) < p by omega) hr).1
  rw [digN_eq, Int.toNat_of_nonneg hv, digs_val (by omega) hr]
/-- a table shows that its fields have generators -/
theorem tab_gen {p n : Nat} (h : PM8 (p : Int) (n : Int)) (ho : ordr (p : Int) (n : Int) ≠ 0) (hq : p ^ n ≤ 256) {Ds cs : List Nat} (hD : ∀ d, d ∈ Ds → d < 256) (ht : chkTab p n Ds cs = true) {mod : List Int} (hm : mod.length = n) (rm : Rng (p : Int) mod) (hi : irr p mod) :
    ∃ x, El (p : Int) (n : Int) x ∧ IsGen p n mod x := by
  have hp : 1 < p := by have := h.p2; omega
  rw [chkTab, Bool.and_eq_true, Bool.and_eq_true, Nat.beq_eq] at ht
  obtain ⟨⟨t1, t2⟩, t3⟩ := ht
  have hv := val_lt (show (0 : Int) < p by omega) rm
  rw [hm] at hv
  have e0 : ((p : Int)) ^ n = ((p ^ n : Nat) : Int) := by simp
  have hv1 := hv.1
  have hv2 := hv.2
  rw [e0] at hv2
  have hvn : (val p mod).toNat < cs.length := by rw [t1]; omega
  have hc := chkAll_at t3 hvn
  rw [Nat.zero_add] at hc
  have hms := val_toNat (by omega) rm
  rw [hm] at hms
  generalize cs.getD (val p mod).toNat 0 = c at *
  generalize (val p mod).toNat = v at *
  rw [chk1] at hc
  split at hc
  · rw [forceL_eq, forceL_eq] at hc
    have := chkGen_ok h ho hq (digN_length p n c) (digN_lt (by omega) n c) hD t2 hc
    rw [hms] at this
    exact ⟨_, this⟩
  · rw [forceL_eq, forceL_eq] at hc
    simp only [Bool.and_eq_true, Nat.ble_eq] at hc
    obtain ⟨⟨⟨c1, c2⟩, c3⟩, c4⟩ := hc
    exfalso
    have hd := divsN hp (digN_lt (by omega) n v) c4
    rw [hms, digN_eq] at hd
    refine hi (c / p ^ n) c1 (by omega) _ (Int.natCast_nonneg _) ?_ hd
    have : ((p : Int)) ^ (c / p ^ n) = ((p ^ (c / p ^ n) : Nat) : Int) := by simp
    rw [this]
    exact Int.ofNat_lt.mpr c3
theorem prime_gen {p : Nat} (h2 : 2 ≤ p) (h3 : p ≤ 256) (hp : prm (p : Int)) {e : Bool × Nat × List Nat} (hc : chkE p e = true) : ∃ x, El (p : Int) 1 x ∧ IsGen p 1 [] x := by
  obtain ⟨b, g, Ds⟩ := e
  have ho : ordr (p : Int) ((1 : Nat) : Int) ≠ 0 := by
    have e1 : ((p : Int)) ^ (((1 : Nat) : Int)).toNat = p := by
      show (p : Int) ^ 1 = p
      rw [Int.pow_succ, Int.pow_zero, Int.one_mul]
    rw [ordr, if_pos ⟨by omega, by omega, by omega, by rw [e1]; omega⟩, e1]
    omega
  have h := pm8 ho
  cases b with
  | true =>
    simp only [chkE, Bool.and_eq_true, Nat.ble_eq, List.all_eq_true] at hc
    obtain ⟨⟨⟨c1, c2⟩, c3⟩, c4⟩ := hc
    have q1 : p ^ 1 = p := Nat.pow_one p
    have lg : allLt p [g] := fun i => by
      cases i with
      | zero => show g < p; omega
      | succ i => show ([] : List Nat).getD i 0 < p; simp; omega
    have := chkGen_ok (n := 1) (ms := []) (g := [g]) (Ds := Ds) h ho (by omega) rfl lg (fun d hd => by have := c3 d hd; omega) (by rw [q1]; exact c1) (by rw [q1]; exact c4)
    exact ⟨_, this⟩
  | false =>
    simp only [chkE, Bool.and_eq_true, Nat.ble_eq, Nat.beq_eq] at hc
    exfalso
    refine hp g (by omega) (by omega) ?_
    omega
end Go.Proofs.Yteijojnahpeglaa.AM
/-! PRINTED by mkfld.py: for each size of field a list of certificates, one for each modulus: a generator, or a divisor; the kernel checks them. -/
namespace Go.Proofs.Yteijojnahpeglaa.AM
open Go Go.RowKit
set_option maxRecDepth 100000
def tab2_2 : List Nat := [4, 5, 4, 2]
theorem tabOk2_2 : chkTab 2 2 [1] tab2_2 = true := by kernel_rfl
def tab2_3 : List Nat := [8, 9, 8, 2, 8, 2, 8, 9]
theorem tabOk2_3 : chkTab 2 3 [1] tab2_3 = true := by kernel_rfl
def tab2_4 : List Nat := [16, 17, 16, 2, 16, 35, 16, 17, 16, 2, 16, 17, 16, 17, 16, 3]
theorem tabOk2_4 : chkTab 2 4 [5, 3] tab2_4 = true := by kernel_rfl
def tab2_5 : List Nat := [32, 33, 32, 67, 32, 2, 32, 33, 32, 2, 32, 33, 32, 33, 32, 2, 32, 67, 32, 33, 32, 33, 32, 2, 32, 33, 32, 2, 32, 2, 32, 33]
theorem tabOk2_5 : chkTab 2 5 [1] tab2_5 = true := by kernel_rfl
def tab2_6 : List Nat := [64, 65, 64, 2, 64, 195, 64, 65, 64, 3, 64, 65, 64, 65, 64, 131, 64, 197, 64, 65, 64, 65, 64, 3, 64, 65, 64, 2, 64, 131, 64, 65, 64, 2, 64, 65, 64, 65, 64, 2, 64, 65, 64, 131, 64, 
  2, 64, 65, 64, 65, 64, 2, 64, 3, 64, 65, 64, 131, 64, 65, 64, 65, 64, 195]
theorem tabOk2_6 : chkTab 2 6 [21, 9] tab2_6 = true := by kernel_rfl
def tab2_7 : List Nat := [128, 129, 128, 2, 128, 259, 128, 129, 128, 2, 128, 129, 128, 129, 128, 2, 128, 2, 128, 129, 128, 129, 128, 259, 128, 129, 128, 389, 128, 2, 128, 129, 128, 259, 128, 129, 128, 129, 
  128, 2, 128, 129, 128, 2, 128, 387, 128, 129, 128, 129, 128, 259, 128, 389, 128, 129, 128, 2, 128, 129, 128, 129, 128, 2, 128, 2, 128, 129, 128, 129, 128, 389, 128, 129, 128, 2, 
  128, 259, 128, 129, 128, 129, 128, 2, 128, 2, 128, 129, 128, 387, 128, 129, 128, 129, 128, 259, 128, 129, 128, 387, 128, 2, 128, 129, 128, 259, 128, 129, 128, 129, 128, 2, 128, 2, 
  128, 129, 128, 129, 128, 2, 128, 129, 128, 259, 128, 2, 128, 129]
theorem tabOk2_7 : chkTab 2 7 [1] tab2_7 = true := by kernel_rfl
def tab2_8 : List Nat := [256, 257, 256, 515, 256, 1027, 256, 257, 256, 771, 256, 257, 256, 257, 256, 773, 256, 515, 256, 257, 256, 257, 256, 1033, 256, 257, 256, 3, 256, 2, 256, 257, 256, 773, 256, 257, 
  256, 257, 256, 515, 256, 257, 256, 2, 256, 2, 256, 257, 256, 257, 256, 771, 256, 515, 256, 257, 256, 3, 256, 257, 256, 257, 256, 3, 256, 1033, 256, 257, 256, 257, 256, 771, 256, 
  257, 256, 515, 256, 2, 256, 257, 256, 257, 256, 773, 256, 1039, 256, 257, 256, 515, 256, 257, 256, 257, 256, 2, 256, 257, 256, 2, 256, 2, 256, 257, 256, 2, 256, 257, 256, 257, 
  256, 515, 256, 2, 256, 257, 256, 257, 256, 3, 256, 257, 256, 9, 256, 515, 256, 257, 256, 515, 256, 257, 256, 257, 256, 2, 256, 257, 256, 6, 256, 2, 256, 257, 256, 257, 256, 515, 
  256, 771, 256, 257, 256, 773, 256, 257, 256, 257, 256, 3, 256, 257, 256, 3, 256, 515, 256, 257, 256, 2, 256, 257, 256, 257, 256, 771, 256, 6, 256, 257, 256, 257, 256, 515, 256, 
  257, 256, 1027, 256, 7, 256, 257, 256, 257, 256, 2, 256, 773, 256, 257, 256, 515, 256, 257, 256, 257, 256, 2, 256, 1027, 256, 257, 256, 257, 256, 7, 256, 257, 256, 515, 256, 6, 
  256, 257, 256, 771, 256, 257, 256, 257, 256, 2, 256, 257, 256, 773, 256, 515, 256, 257, 256, 257, 256, 6, 256, 2, 256, 257, 256, 3, 256, 257, 256, 257, 256, 515]
theorem tabOk2_8 : chkTab 2 8 [85, 51, 15] tab2_8 = true := by kernel_rfl
def tab3_2 : List Nat := [9, 4, 10, 9, 11, 3, 9, 10, 3]
theorem tabOk3_2 : chkTab 3 2 [4] tab3_2 = true := by kernel_rfl
def tab3_3 : List Nat := [27, 28, 29, 27, 29, 28, 27, 3, 6, 27, 29, 5, 27, 28, 4, 27, 3, 28, 27, 3, 28, 27, 3, 29, 27, 28, 4]
theorem tabOk3_3 : chkTab 3 3 [13, 2] tab3_3 = true := by kernel_rfl
def tab3_4 : List Nat := [81, 167, 82, 81, 83, 3, 81, 82, 3, 81, 82, 12, 81, 4, 82, 81, 5, 83, 81, 163, 4, 81, 82, 83, 81, 83, 82, 81, 83, 3, 81, 82, 163, 81, 4, 82, 81, 10, 82, 81, 5, 83, 81, 82, 3, 81, 
  82, 83, 81, 83, 82, 81, 170, 3, 81, 82, 3, 81, 4, 82, 81, 83, 163, 81, 10, 83, 81, 82, 3, 81, 4, 82, 81, 83, 82, 81, 167, 3, 81, 82, 83]
theorem tabOk3_4 : chkTab 3 4 [40, 16] tab3_4 = true := by kernel_rfl
def tab3_5 : List Nat := [243, 244, 245, 243, 245, 244, 243, 3, 6, 243, 245, 494, 243, 244, 4, 243, 487, 244, 243, 491, 244, 243, 3, 245, 243, 244, 487, 243, 245, 244, 243, 3, 6, 243, 244, 245, 243, 244, 
  4, 243, 494, 244, 243, 245, 6, 243, 3, 245, 243, 244, 491, 243, 3, 244, 243, 494, 491, 243, 244, 245, 243, 245, 244, 243, 3, 244, 243, 245, 5, 243, 244, 4, 243, 244, 4, 243, 3, 
  244, 243, 4, 245, 243, 245, 5, 243, 244, 4, 243, 3, 244, 243, 3, 244, 243, 3, 245, 243, 244, 4, 243, 244, 245, 243, 245, 244, 243, 487, 494, 243, 244, 487, 243, 3, 244, 243, 245, 
  491, 243, 491, 245, 243, 244, 494, 243, 3, 244, 243, 245, 244, 243, 3, 6, 243, 244, 245, 243, 3, 244, 243, 245, 487, 243, 244, 6, 243, 244, 4, 243, 3, 244, 243, 494, 245, 243, 3, 
  6, 243, 244, 245, 243, 245, 244, 243, 3, 244, 243, 3, 245, 243, 244, 5, 243, 244, 245, 243, 245, 244, 243, 491, 487, 243, 245, 5, 243, 244, 4, 243, 3, 244, 243, 487, 245, 243, 
  244, 4, 243, 494, 244, 243, 245, 244, 243, 3, 6, 243, 244, 245, 243, 244, 494, 243, 491, 244, 243, 245, 5, 243, 244, 4, 243, 487, 244, 243, 3, 245, 243, 3, 6, 243, 244, 245, 243, 
  245, 244, 243, 7, 244, 243, 245, 5, 243, 244, 491]
theorem tabOk3_5 : chkTab 3 5 [121, 22] tab3_5 = true := by kernel_rfl
def tab5_2 : List Nat := [25, 27, 6, 7, 26, 25, 7, 5, 27, 28, 25, 26, 28, 5, 8, 25, 29, 26, 5, 6, 25, 6, 5, 26, 27]
theorem tabOk5_2 : chkTab 5 2 [12, 8] tab5_2 = true := by kernel_rfl
def tab5_3 : List Nat := [125, 126, 128, 127, 129, 125, 9, 126, 129, 6, 125, 6, 127, 126, 7, 125, 128, 5, 5, 126, 125, 127, 5, 5, 128, 125, 7, 5, 128, 127, 125, 126, 129, 5, 6, 125, 129, 126, 127, 128, 
  125, 6, 128, 126, 8, 125, 6, 127, 5, 126, 125, 6, 129, 5, 126, 125, 129, 127, 5, 7, 125, 126, 5, 5, 127, 125, 127, 126, 128, 129, 125, 128, 5, 126, 8, 125, 127, 5, 126, 7, 125, 6, 
  5, 127, 126, 125, 128, 5, 5, 129, 125, 126, 127, 129, 128, 125, 7, 126, 5, 127, 125, 128, 126, 5, 6, 125, 6, 5, 126, 127, 125, 127, 128, 129, 126, 125, 7, 129, 127, 9, 125, 126, 
  5, 128, 6]
theorem tabOk5_3 : chkTab 5 3 [62, 4] tab5_3 = true := by kernel_rfl
def tab7_2 : List Nat := [49, 9, 8, 51, 8, 52, 50, 49, 52, 53, 7, 10, 51, 10, 49, 50, 10, 7, 52, 7, 53, 49, 11, 50, 53, 54, 7, 11, 49, 8, 54, 50, 51, 7, 8, 49, 55, 8, 7, 50, 7, 51, 49, 51, 52, 7, 9, 50, 9]
theorem tabOk7_2 : chkTab 7 2 [24, 16] tab7_2 = true := by kernel_rfl
def tab11_2 : List Nat := [121, 15, 124, 13, 14, 12, 125, 123, 126, 13, 122, 121, 15, 126, 127, 13, 124, 13, 11, 11, 123, 125, 121, 122, 16, 125, 14, 15, 11, 126, 124, 127, 14, 121, 126, 122, 16, 127, 128, 
  11, 125, 11, 12, 12, 121, 128, 11, 122, 123, 17, 126, 11, 16, 12, 127, 121, 12, 11, 13, 122, 127, 123, 17, 128, 129, 12, 121, 12, 11, 13, 128, 122, 129, 12, 123, 124, 18, 121, 
  124, 11, 129, 130, 13, 122, 11, 12, 14, 123, 121, 123, 130, 13, 124, 125, 11, 122, 11, 12, 14, 121, 131, 14, 123, 12, 13, 11, 124, 122, 125, 12, 121, 14, 125, 126, 12, 123, 12, 
  11, 11, 122, 124]
theorem tabOk11_2 : chkTab 11 2 [60, 40, 24] tab11_2 = true := by kernel_rfl
def tab13_2 : List Nat := [169, 174, 15, 175, 172, 14, 14, 15, 17, 171, 173, 15, 170, 169, 173, 13, 17, 15, 15, 174, 172, 17, 175, 176, 171, 17, 169, 170, 175, 16, 176, 173, 13, 13, 16, 18, 172, 174, 16, 
  169, 18, 170, 174, 14, 18, 13, 13, 175, 173, 18, 176, 177, 169, 175, 13, 170, 171, 176, 13, 177, 174, 14, 14, 13, 19, 169, 19, 177, 178, 170, 19, 171, 175, 15, 19, 14, 13, 176, 
  169, 15, 13, 14, 20, 170, 176, 13, 171, 172, 177, 13, 178, 169, 16, 13, 15, 14, 177, 170, 13, 178, 179, 171, 13, 172, 169, 14, 172, 173, 178, 14, 179, 170, 16, 14, 15, 13, 171, 
  169, 171, 13, 179, 180, 172, 13, 173, 170, 17, 14, 13, 15, 169, 15, 180, 171, 17, 15, 13, 13, 172, 170, 15, 173, 174, 169, 181, 173, 14, 174, 171, 13, 13, 14, 16, 170, 172, 14, 
  169, 172, 13, 16, 14, 14, 173, 171, 16, 174, 175, 170, 16]
theorem tabOk13_2 : chkTab 13 2 [84, 56, 24] tab13_2 = true := by kernel_rfl
def tabP : List (Bool × Nat × List Nat) := [(true, 1, []), (true, 2, [1]), (false, 2, []), (true, 2, [2]), (false, 2, []), (true, 3, [3, 2]), (false, 2, []), (false, 3, []), (false, 2, []), (true, 2, [5, 2]), 
  (false, 2, []), (true, 2, [6, 4]), (false, 2, []), (false, 3, []), (false, 2, []), (true, 3, [8]), (false, 2, []), (true, 2, [9, 6]), (false, 2, []), (false, 3, []), 
  (false, 2, []), (true, 5, [11, 2]), (false, 2, []), (false, 5, []), (false, 2, []), (false, 3, []), (false, 2, []), (true, 2, [14, 4]), (false, 2, []), (true, 3, [15, 10, 6]), 
  (false, 2, []), (false, 3, []), (false, 2, []), (false, 5, []), (false, 2, []), (true, 2, [18, 12]), (false, 2, []), (false, 3, []), (false, 2, []), (true, 6, [20, 8]), 
  (false, 2, []), (true, 3, [21, 14, 6]), (false, 2, []), (false, 3, []), (false, 2, []), (true, 5, [23, 2]), (false, 2, []), (false, 7, []), (false, 2, []), (false, 3, []), 
  (false, 2, []), (true, 2, [26, 4]), (false, 2, []), (false, 5, []), (false, 2, []), (false, 3, []), (false, 2, []), (true, 2, [29, 2]), (false, 2, []), (true, 2, [30, 20, 12]), 
  (false, 2, []), (false, 3, []), (false, 2, []), (false, 5, []), (false, 2, []), (true, 2, [33, 22, 6]), (false, 2, []), (false, 3, []), (false, 2, []), (true, 7, [35, 14, 10]), 
  (false, 2, []), (true, 5, [36, 24]), (false, 2, []), (false, 3, []), (false, 2, []), (false, 7, []), (false, 2, []), (true, 3, [39, 26, 6]), (false, 2, []), (false, 3, []), 
  (false, 2, []), (true, 2, [41, 2]), (false, 2, []), (false, 5, []), (false, 2, []), (false, 3, []), (false, 2, []), (true, 3, [44, 8]), (false, 2, []), (false, 7, []), 
  (false, 2, []), (false, 3, []), (false, 2, []), (false, 5, []), (false, 2, []), (true, 5, [48, 32]), (false, 2, []), (false, 3, []), (false, 2, []), (true, 2, [50, 20]), 
  (false, 2, []), (true, 5, [51, 34, 6]), (false, 2, []), (false, 3, []), (false, 2, []), (true, 2, [53, 2]), (false, 2, []), (true, 6, [54, 36]), (false, 2, []), (false, 3, []), 
  (false, 2, []), (true, 3, [56, 16]), (false, 2, []), (false, 5, []), (false, 2, []), (false, 3, []), (false, 2, []), (false, 7, []), (false, 2, []), (false, 11, []), 
  (false, 2, []), (false, 3, []), (false, 2, []), (false, 5, []), (false, 2, []), (true, 3, [63, 42, 18]), (false, 2, []), (false, 3, []), (false, 2, []), (true, 2, [65, 26, 10]), 
  (false, 2, []), (false, 7, []), (false, 2, []), (false, 3, []), (false, 2, []), (true, 3, [68, 8]), (false, 2, []), (true, 2, [69, 46, 6]), (false, 2, []), (false, 3, []), 
  (false, 2, []), (false, 11, []), (false, 2, []), (false, 5, []), (false, 2, []), (false, 3, []), (false, 2, []), (true, 2, [74, 4]), (false, 2, []), (true, 6, [75, 50, 30]), 
  (false, 2, []), (false, 3, []), (false, 2, []), (false, 5, []), (false, 2, []), (true, 5, [78, 52, 12]), (false, 2, []), (false, 3, []), (false, 2, []), (false, 7, []), 
  (false, 2, []), (true, 2, [81, 54]), (false, 2, []), (false, 3, []), (false, 2, []), (true, 5, [83, 2]), (false, 2, []), (false, 13, []), (false, 2, []), (false, 3, []), 
  (false, 2, []), (true, 2, [86, 4]), (false, 2, []), (false, 5, []), (false, 2, []), (false, 3, []), (false, 2, []), (true, 2, [89, 2]), (false, 2, []), (true, 2, [90, 60, 36]), 
  (false, 2, []), (false, 3, []), (false, 2, []), (false, 5, []), (false, 2, []), (false, 11, []), (false, 2, []), (false, 3, []), (false, 2, []), (true, 19, [95, 38, 10]), 
  (false, 2, []), (true, 5, [96, 64]), (false, 2, []), (false, 3, []), (false, 2, []), (true, 2, [98, 28]), (false, 2, []), (true, 3, [99, 66, 18]), (false, 2, []), (false, 3, []), 
  (false, 2, []), (false, 7, []), (false, 2, []), (false, 5, []), (false, 2, []), (false, 3, []), (false, 2, []), (false, 11, []), (false, 2, []), (true, 2, [105, 70, 42, 30]), 
  (false, 2, []), (false, 3, []), (false, 2, []), (false, 5, []), (false, 2, []), (false, 7, []), (false, 2, []), (false, 3, []), (false, 2, []), (false, 13, []), (false, 2, []), 
  (true, 3, [111, 74, 6]), (false, 2, []), (false, 3, []), (false, 2, []), (true, 2, [113, 2]), (false, 2, []), (true, 6, [114, 76, 12]), (false, 2, []), (false, 3, []), 
  (false, 2, []), (true, 3, [116, 8]), (false, 2, []), (false, 5, []), (false, 2, []), (false, 3, []), (false, 2, []), (true, 7, [119, 34, 14]), (false, 2, []), 
  (true, 7, [120, 80, 48]), (false, 2, []), (false, 3, []), (false, 2, []), (false, 5, []), (false, 2, []), (false, 13, []), (false, 2, []), (false, 3, []), (false, 2, []), 
  (true, 6, [125, 50]), (false, 2, []), (false, 11, []), (false, 2, []), (false, 3, []), (false, 2, [])]
theorem tabPOk : chkP 2 tabP = true := by kernel_rfl
theorem tabP_len : tabP.length = 255 := by kernel_rfl
end Go.Proofs.Yteijojnahpeglaa.AM
/-! PRINTED by mkfld.py: every field has a generator: by the tables. -/
namespace Go.Proofs.Yteijojnahpeglaa.AM
open Go Go.RowKit
set_option linter.unusedVariables false
set_option linter.unusedSimpArgs false
theorem fieldTab {P M : Nat} {mod : List Int} (hF : FieldOk (P : Int) (M : Int) mod) (hM : M ≠ 1) {Ds cs : List Nat} (hD : ∀ d, d ∈ Ds → d < 256) (hq : P ^ M ≤ 256) (ht : chkTab P M Ds cs = true) : ∃ x, 1 ≤ x ∧ x < ordr (P : Int) (M : Int) ∧ IsGen P M mod x := by
  obtain ⟨h1, h2, h3⟩ := hF
  rcases h3 with ⟨h4, -⟩ | ⟨h4, h5, h6, h7⟩
  · omega
  · have h := pm8 h1
    obtain ⟨x, hx, hg⟩ := tab_gen h h1 hq hD ht (by omega) h6 h7
    refine ⟨x, ?_, hx.2, hg⟩
    have h0 := hx.1
    have e1 := (one_el h).2
    have := hg.2.2
    by_cases hz : x = 0
    · rw [hz, pmul_eq h1, fmul_zero h] at this
      omega
    · omega
theorem gen_ex : GenEx := fun p m mod hF => by
  obtain ⟨o1, o2, o3, o4, o5⟩ := ordr_pos hF.1
  have o6 := ordr_p hF.1
  have hprm := hF.2.1
  obtain ⟨P, rfl⟩ : ∃ P : Nat, p = P := ⟨p.toNat, by omega⟩
  obtain ⟨M, rfl⟩ : ∃ M : Nat, m = M := ⟨m.toNat, by omega⟩
  by_cases hM : M = 1
  · subst hM
    have hmod : mod = [] := by
      rcases hF.2.2 with ⟨-, q⟩ | ⟨q, -⟩
      · exact q
      · exact absurd rfl q
    subst hmod
    obtain ⟨e, he⟩ := chkP_at (i := P - 2) tabPOk (by rw [tabP_len]; omega)
    rw [show 2 + (P - 2) = P by omega] at he
    obtain ⟨x, hx, hg⟩ := prime_gen (by omega) (by omega) hprm he
    refine ⟨x, ?_, hx.2, hg⟩
    have h0 := hx.1
    have h := pm8 hF.1
    have := hg.2.2
    by_cases hz : x = 0
    · rw [hz, show ((1 : Int)) = ((1 : Nat) : Int) from rfl, pmul_eq hF.1, fmul_zero h] at this
      have : (0 : Int) = 1 := this
      omega
    · omega
  have o4' : (P : Int) ^ M ≤ 256 := o4
  have hP : P ≤ 16 := by
    apply Classical.byContradiction
    intro q
    have h1 : (P : Int) ^ 2 ≤ (P : Int) ^ M := ipow_mono (by omega) (by omega)
    have h2 : (P : Int) ^ 2 = P * P := by rw [Int.pow_succ, Int.pow_succ, Int.pow_zero, Int.one_mul]
    have h3 : (17 : Int) * 17 ≤ P * P := Int.mul_le_mul (by omega) (by omega) (by omega) (by omega)
    omega
  have hPs : P = 2 ∨ P = 3 ∨ P = 4 ∨ P = 5 ∨ P = 6 ∨ P = 7 ∨ P = 8 ∨ P = 9 ∨ P = 10 ∨ P = 11 ∨ P = 12 ∨ P = 13 ∨ P = 14 ∨ P = 15 ∨ P = 16 := by omega
  have hMs : M = 2 ∨ M = 3 ∨ M = 4 ∨ M = 5 ∨ M = 6 ∨ M = 7 ∨ M = 8 := by omega
  rcases hPs with rfl | rfl | rfl | rfl | rfl | rfl | rfl | rfl | rfl | rfl | rfl | rfl | rfl | rfl | rfl
  · rcases hMs with rfl | rfl | rfl | rfl | rfl | rfl | rfl
    · exact fieldTab hF (by omega) (by decide) (by decide) tabOk2_2
    · exact fieldTab hF (by omega) (by decide) (by decide) tabOk2_3
    · exact fieldTab hF (by omega) (by decide) (by decide) tabOk2_4
    · exact fieldTab hF (by omega) (by decide) (by decide) tabOk2_5
    · exact fieldTab hF (by omega) (by decide) (by decide) tabOk2_6
    · exact fieldTab hF (by omega) (by decide) (by decide) tabOk2_7
    · exact fieldTab hF (by omega) (by decide) (by decide) tabOk2_8
  · rcases hMs with rfl | rfl | rfl | rfl | rfl | rfl | rfl
    · exact fieldTab hF (by omega) (by decide) (by decide) tabOk3_2
    · exact fieldTab hF (by omega) (by decide) (by decide) tabOk3_3
    · exact fieldTab hF (by omega) (by decide) (by decide) tabOk3_4
    · exact fieldTab hF (by omega) (by decide) (by decide) tabOk3_5
    · exact absurd o4' (by decide)
    · exact absurd o4' (by decide)
    · exact absurd o4' (by decide)
  · exact absurd (by decide) (hprm 2 (by decide) (by decide))
  · rcases hMs with rfl | rfl | rfl | rfl | rfl | rfl | rfl
    · exact fieldTab hF (by omega) (by decide) (by decide) tabOk5_2
    · exact fieldTab hF (by omega) (by decide) (by decide) tabOk5_3
    · exact absurd o4' (by decide)
    · exact absurd o4' (by decide)
    · exact absurd o4' (by decide)
    · exact absurd o4' (by decide)
    · exact absurd o4' (by decide)
  · exact absurd (by decide) (hprm 2 (by decide) (by decide))
  · rcases hMs with rfl | rfl | rfl | rfl | rfl | rfl | rfl
    · exact fieldTab hF (by omega) (by decide) (by decide) tabOk7_2
    · exact absurd o4' (by decide)
    · exact absurd o4' (by decide)
    · exact absurd o4' (by decide)
    · exact absurd o4' (by decide)
    · exact absurd o4' (by decide)
    · exact absurd o4' (by decide)
  · exact absurd (by decide) (hprm 2 (by decide) (by decide))
  · exact absurd (by decide) (hprm 3 (by decide) (by decide))
  · exact absurd (by decide) (hprm 2 (by decide) (by decide))
  · rcases hMs with rfl | rfl | rfl | rfl | rfl | rfl | rfl
    · exact fieldTab hF (by omega) (by decide) (by decide) tabOk11_2
    · exact absurd o4' (by decide)
    · exact absurd o4' (by decide)
    · exact absurd o4' (by decide)
    · exact absurd o4' (by decide)
    · exact absurd o4' (by decide)
    · exact absurd o4' (by decide)
  · exact absurd (by decide) (hprm 2 (by decide) (by decide))
  · rcases hMs with rfl | rfl | rfl | rfl | rfl | rfl | rfl
    · exact fieldTab hF (by omega) (by decide) (by decide) tabOk13_2
    · exact absurd o4' (by decide)
    · exact absurd o4' (by decide)
    · exact absurd o4' (by decide)
    · exact absurd o4' (by decide)
    · exact absurd o4' (by decide)
    · exact absurd o4' (by decide)
  · exact absurd (by decide) (hprm 2 (by decide) (by decide))
  · exact absurd (by decide) (hprm 3 (by decide) (by decide))
  · exact absurd (by decide) (hprm 2 (by decide) (by decide))
theorem alg : Alg := alg_of gen_ex gen_irr
end Go.Proofs.Yteijojnahpeglaa.AM
/-! The row's wrap and the algebra of the small fields, together: what each law's proof imports. -/

/-! The law OrderingSteps. -/
namespace Go.Proofs.Yteijojnahpeglaa.AM
open Go Go.RowKit
set_option linter.unusedVariables false
set_option linter.unusedSimpArgs false
set_option maxRecDepth 20000
theorem dimP_one {p m : Int} {mod : List Int} (h : (fF p m mod).Ok) {n : Int} (hn : 0 ≤ n) {rows : List (List Int)} (he : Els (fF p m mod) rows) {s t : Nat → Bool} {x : Nat} (hst : ∀ i, i < n.toNat → t i = (s i || decide (i = x))) : dimP p m mod n rows s ≤ dimP p m mod n rows t + 1 ∧ dimP p m mod n rows t ≤ dimP p m mod n rows s + 1 := by
  letI := h.fd
  have a1 := (clo (colV h rows)).R_one (s := s) (t := t) (p := x) hst
  have a2 := (clo (colV h rows)).R_mono (n := n.toNat) (s := s) (t := t) fun i hi q => by rw [hst i hi, q]; rfl
  by_cases hx : x < n.toNat ∧ s x = false
  · have a3 := (clo (colV h rows)).R_one (n := n.toNat) (s := fun i => !t i) (t := fun i => !s i) (p := x) fun i hi => by
      rw [hst i hi]
      by_cases q : i = x
      · subst q; simp [hx.2]
      · simp [q]
    have a4 := (clo (colV h rows)).R_mono (n := n.toNat) (s := fun i => !t i) (t := fun i => !s i) fun i hi q => by
      rw [hst i hi] at q
      simp at q
      simp [q.1]
    rw [dimP, dimP, rankP_R h he, rankP_R h he, rankP_R h he, rankP_R h he]
    omega
  · have e : dimP p m mod n rows t = dimP p m mod n rows s := dimP_congr fun i hi => by
      rw [hst i (by omega)]
      by_cases q : i = x
      · subst q
        have : s i = true := by
          cases hs : s i with
          | true => rfl
          | false => exact absurd ⟨by omega, hs⟩ hx
        simp [this]
      · simp [q]
    omega
theorem dimP_ge {p m n : Int} {mod : List Int} {rows : List (List Int)} (s : Nat → Bool) : -(rows.length : Int) ≤ dimP p m mod n rows s := by rw [dimP]; omega
theorem maskL_len (k : Nat) (s : Nat → Bool) : (maskL k s).length ≤ k := by
  rw [maskL, natsI_length]
  have := List.length_filter_le s (List.range k)
  simpa using this
theorem contains_take_succ {set : List Int} {i : Nat} (hi : i < set.length) (x : Int) : (set.take (i + 1)).contains x = ((set.take i).contains x || decide (set.getD i 0 = x)) := by
  rw [Bool.eq_iff_iff]
  simp only [List.contains_iff_mem, Bool.or_eq_true, decide_eq_true_eq]
  rw [mem_take_succ hi]
  exact or_congr Iff.rfl eq_comm
theorem law_Steps (A : Alg) {p m n : Int} {md v sv : AV} {mod set : List Int} {us : List AV} {rows : List (List Int)} {H : AH} (hm : Ints H md mod) (hlm : mod.length ≤ 9223372036854775807) (hv : Rows H v us rows) (hl : rows.length ≤ 9223372036854775807) (hlr : ∀ i, i < rows.length → (rowAt rows i).length ≤ 9223372036854775807) (hs : Ints H sv set) (hls : set.length ≤ 9223372036854775807) (x : Int) :
    AC Try.prog 5 [codeV p m md n v, sv, .int .i64 x] H fun r H' => r = .bool true ∧ Ext H H' := by
  refine at5 (by simp) ?_
  simp (disch := first | assumption | omega) only [↓RP, RQ, TY, loadT, s5, reduceIte, Nat.reduceEqDiff, Nat.reduceAdd]
  refine kNew_intro fun b H1 hb hE1 hH1 => ?_
  simp (disch := first | assumption | omega) only [↓RP, RQ, TY, loadT, reduceIte, Nat.reduceEqDiff, Nat.reduceAdd, hH1]
  refine c_alive A fun H2 hE2 => ?_
  have hE12 := hE1.trans hE2
  have h2 := hE2.rw hH1
  simp (disch := first | assumption | omega) only [↓RP, RQ, TY, loadT, reduceIte, Nat.reduceEqDiff, Nat.reduceAdd, h2]
  refine c_Check12 A.fo (hm.ext hE12) (hv.ext hE12) hl hlr fun H3 hE3 => ?_
  have hE13 := hE12.trans hE3
  have h3 := hE3.rw h2
  by_cases h0 : codeErr p m mod n rows = 0
  rotate_left
  · simp (disch := first | assumption | omega) only [↓RP, RQ, TY, loadT, reduceIte, Nat.reduceEqDiff, Nat.reduceAdd, eq_false h0, h3]
    exact ⟨rfl, hE13⟩
  simp (disch := first | assumption | omega) only [↓RP, RQ, TY, loadT, reduceIte, Nat.reduceEqDiff, Nat.reduceAdd, eq_true h0, h3]
  have hs3 := hs.ext hE13
  refine c_IsSubset hs3 hls ?_
  by_cases hS : Subset n set
  rotate_left
  · simp (disch := first | assumption | omega) only [↓RP, RQ, TY, loadT, reduceIte, Nat.reduceEqDiff, Nat.reduceAdd, hS, h3]
    exact ⟨rfl, hE13⟩
  have ca := A.fo.ca h0 (hm.ext hE13) (hv.ext hE13)
  have n1 := ca.n1
  have n64 := ca.n64
  by_cases c1 : x < 0
  · simp (disch := first | assumption | omega) only [↓RP, RQ, TY, loadT, reduceIte, Nat.reduceEqDiff, Nat.reduceAdd, hS, h3, c1]
    exact ⟨rfl, hE13⟩
  by_cases c2 : n ≤ x
  · simp (disch := first | assumption | omega) only [↓RP, RQ, TY, loadT, reduceIte, Nat.reduceEqDiff, Nat.reduceAdd, hS, h3, c1, c2]
    exact ⟨rfl, hE13⟩
  simp (disch := first | assumption | omega) only [↓RP, RQ, TY, loadT, reduceIte, Nat.reduceEqDiff, Nat.reduceAdd, hS, h3, c1, c2]
  refine kNew_intro fun b4 H4 hb4 hE4 hH4 => ?_
  have hE14 := hE13.trans hE4
  have h4 := hE4.rw h3
  have f4 := hE13.free hb4
  have nb : b ≠ b4 := fun q => by rw [← q, h3] at hb4; cases hb4
  simp (disch := first | assumption | omega) only [↓RP, RQ, TY, loadT, reduceIte, Nat.reduceEqDiff, Nat.reduceAdd]
  refine sw_loop (σ := Nat × AV) (fun s e H' => e 8 = .int .i64 s.1 ∧ e 7 = s.2 ∧ e 3 = .ptr b 0 ∧ e 1 = sv ∧ e 2 = .int .i64 x ∧ s.1 ≤ n.toNat ∧ Ext H H' ∧ H' b = .rw [.int .i64 p, .int .i64 m, md, .int .i64 n, v] ∧ Off s.2 b ∧ Own H H' s.2 (ints (maskL s.1 fun i => decide ((i : Int) = x) || set.contains (i : Int)))) (fun s => n.toNat - s.1) (0, .sl b4 0 0 (.own 1)) ?_ ?_
  · simp (disch := first | assumption | omega) only [↓RP, RQ, TY, loadT, reduceIte, Nat.reduceEqDiff, Nat.reduceAdd]
    refine ⟨by omega, hE14, h4, fun o n c q => (by cases q; exact nb rfl), Own.mk hH4 f4 rfl⟩
  rintro ⟨q, w⟩ e H5 ⟨e8, e7, e3, e1, e2, hq, hE5, h5, hoff, ho⟩
  dsimp only at *
  have hs5 := hs.ext hE5
  by_cases hin : (q : Int) < n
  · simp (disch := first | assumption | omega) only [↓RP, RQ, TY, loadT, reduceIte, Nat.reduceEqDiff, Nat.reduceAdd, e8, e7, e3, e1, e2, hin, h5]
    refine sw_loop (σ := Nat) (fun i e H' => e 10 = .int .i64 i ∧ e 9 = .bool (decide ((q : Int) = x) || (set.take i).contains (q : Int)) ∧ e 8 = .int .i64 q ∧ e 7 = w ∧ e 3 = .ptr b 0 ∧ e 1 = sv ∧ e 2 = .int .i64 x ∧ i ≤ set.length ∧ H' = H5) (fun i => set.length - i) 0 ?_ ?_
    · simp (disch := first | assumption | omega) only [↓RP, RQ, TY, loadT, reduceIte, Nat.reduceEqDiff, Nat.reduceAdd, e8, e7, e3, e1, e2]
      simp
    rintro i e' H' ⟨g10, g9, g8, g7, g3, g1, g2, hi, rfl⟩
    by_cases hlt : (i : Int) < set.length
    · have hc := contains_take_succ (set := set) (i := i) (by omega) (q : Int)
      cases hB : (decide ((q : Int) = x) || (set.take i).contains (q : Int))
      · rw [hB] at g9
        simp (disch := first | assumption | omega) only [↓RP, RQ, TY, loadT, reduceIte, Nat.reduceEqDiff, Nat.reduceAdd, g10, g9, g8, g7, g3, g1, g2, hlt, hs5.ints]
        refine ⟨i + 1, ?_, by dsimp only; omega⟩
        simp (disch := first | assumption | omega) only [↓RP, RQ, TY, loadT, reduceIte, Nat.reduceEqDiff, Nat.reduceAdd, g10, g9, g8, g7, g3, g1, g2]
        refine ⟨?_, by omega⟩
        rw [hc, ← Bool.or_assoc, hB]
        simp
      · rw [hB] at g9
        simp (disch := first | assumption | omega) only [↓RP, RQ, TY, loadT, reduceIte, Nat.reduceEqDiff, Nat.reduceAdd, g10, g9, g8, g7, g3, g1, g2, hlt, hs5.ints]
        refine ⟨i + 1, ?_, by dsimp only; omega⟩
        simp (disch := first | assumption | omega) only [↓RP, RQ, TY, loadT, reduceIte, Nat.reduceEqDiff, Nat.reduceAdd, g10, g9, g8, g7, g3, g1, g2]
        refine ⟨?_, by omega⟩
        rw [hc, ← Bool.or_assoc, hB]
        simp
    · rw [List.take_of_length_le (by omega)] at g9
      have hml := maskL_len q fun i => decide ((i : Int) = x) || set.contains (i : Int)
      have hms := maskL_succ q fun i => decide ((i : Int) = x) || set.contains (i : Int)
      cases hB : (decide ((q : Int) = x) || set.contains (q : Int))
      · rw [hB] at g9 hms
        simp (disch := first | assumption | omega) only [↓RP, RQ, TY, loadT, reduceIte, Nat.reduceEqDiff, Nat.reduceAdd, g10, g9, g8, g7, g3, g1, g2, hlt, hs5.ints]
        refine ⟨(q + 1, w), ?_, by dsimp only; omega⟩
        simp (disch := first | assumption | omega) only [↓RP, RQ, TY, loadT, reduceIte, Nat.reduceEqDiff, Nat.reduceAdd, g10, g9, g8, g7, g3, g1, g2]
        refine ⟨by omega, hE5, h5, hoff, ?_⟩
        rw [hms]
        simpa using ho
      · rw [hB] at g9 hms
        simp (disch := first | assumption | omega) only [↓RP, RQ, TY, loadT, reduceIte, Nat.reduceEqDiff, Nat.reduceAdd, g10, g9, g8, g7, g3, g1, g2, hlt, hs5.ints]
        refine kNew_intro fun b6 H6 hb6 hE6 hH6 => ?_
        simp (disch := first | assumption | omega) only [↓RP, RQ, TY, loadT, reduceIte, Nat.reduceEqDiff, Nat.reduceAdd]
        refine kApp_own (H0 := H) (us := ints [(q : Int)]) (ho.ext hE6) (hE5.trans hE6) (Sl.own hH6 rfl) ints_ones (by rw [ints_length, ints_length, List.length_singleton]; omega) (by rw [ints_length, ints_length, List.length_singleton]; omega) fun v7 H7 hE7 ho7 keep7 => ?_
        simp (disch := first | assumption | omega) only [↓RP, RQ, TY, loadT, reduceIte, Nat.reduceEqDiff, Nat.reduceAdd, g10, g9, g8, g7, g3, g1, g2]
        refine ⟨(q + 1, v7), ?_, by dsimp only; omega⟩
        simp (disch := first | assumption | omega) only [↓RP, RQ, TY, loadT, reduceIte, Nat.reduceEqDiff, Nat.reduceAdd, g10, g9, g8, g7, g3, g1, g2]
        obtain ⟨k1, k2⟩ := keep7 b _ (hE6.rw h5) hoff
        refine ⟨by omega, hE7, k1, k2, ?_⟩
        rw [hms]
        rw [ints_app] at ho7
        simpa using ho7
  · rw [show q = n.toNat by omega] at ho
    have hml := maskL_len n.toNat fun i => decide ((i : Int) = x) || set.contains (i : Int)
    simp (disch := first | assumption | omega) only [↓RP, RQ, TY, loadT, reduceIte, Nat.reduceEqDiff, Nat.reduceAdd, e8, e7, e3, e1, e2, hin, h5]
    refine c_ODim A (hm.ext hE5) hlm (hv.ext hE5) hs5 hl hlr hls fun H6 hE6 => ?_
    have h6 := hE6.rw h5
    have hE16 := hE5.trans hE6
    simp (disch := first | assumption | omega) only [↓RP, RQ, TY, loadT, reduceIte, Nat.reduceEqDiff, Nat.reduceAdd, e8, e7, e3, e1, e2, h6]
    refine c_ODim A (hm.ext hE16) hlm (hv.ext hE16) (ho.ext hE6).sl hl hlr (by omega) fun H7 hE7 => ?_
    have hS2 : Subset n (maskL n.toNat fun i => decide ((i : Int) = x) || set.contains (i : Int)) := by
      have := maskL_subset (fun i => decide ((i : Int) = x) || set.contains (i : Int)) n.toNat
      rwa [show ((n.toNat : Nat) : Int) = n by omega] at this
    have e1 : dimErr p m mod n rows set = 0 := dimErr_ok h0 hS
    have e2 : dimErr p m mod n rows (maskL n.toNat fun i => decide ((i : Int) = x) || set.contains (i : Int)) = 0 := dimErr_ok h0 hS2
    have e3 : dimValP p m mod n rows set = dimP p m mod n rows (inL set) := by rw [dimValP, if_pos e1]
    have e4 : dimValP p m mod n rows (maskL n.toNat fun i => decide ((i : Int) = x) || set.contains (i : Int)) = dimP p m mod n rows (fun i => decide ((i : Int) = x) || set.contains (i : Int)) := by
      rw [dimValP, if_pos e2]
      exact dimP_congr fun i hi => inL_mask n.toNat _ i (by omega)
    obtain ⟨d1, d2⟩ := dimP_one ca.fa.ok (n := n) (by omega) ca.els (s := inL set) (t := fun i => decide ((i : Int) = x) || set.contains (i : Int)) (x := x.toNat) fun i hi => by
      rw [Bool.or_comm, inL]
      congr 1
      exact decide_eq_decide.mpr (by omega)
    obtain ⟨b1, b2⟩ := dimP_le ca.fa.ok (n := n) (by omega) ca.els (inL set)
    obtain ⟨b3, b4⟩ := dimP_le ca.fa.ok (n := n) (by omega) ca.els (fun i => decide ((i : Int) = x) || set.contains (i : Int))
    have kn := ca.kn
    have b5 := dimP_ge (p := p) (m := m) (n := n) (mod := mod) (rows := rows) (inL set)
    have b6 := dimP_ge (p := p) (m := m) (n := n) (mod := mod) (rows := rows) (fun i => decide ((i : Int) = x) || set.contains (i : Int))
    rw [e1, e2, e3, e4]
    simp (disch := first | assumption | omega) only [↓RP, RQ, TY, loadT, reduceIte, Nat.reduceEqDiff, Nat.reduceAdd, d1, d2, Int.reduceEq]
    exact ⟨rfl, hE16.trans hE7⟩
end Go.Proofs.Yteijojnahpeglaa.AM
/-! The law OrderingModular. -/
namespace Go.Proofs.Yteijojnahpeglaa.AM
open Go Go.RowKit
set_option linter.unusedVariables false
set_option linter.unusedSimpArgs false
set_option maxRecDepth 20000
theorem dimP_sub {p m : Int} {mod : List Int} (h : (fF p m mod).Ok) {n : Int} {rows : List (List Int)} (he : Els (fF p m mod) rows) (s t : Nat → Bool) : dimP p m mod n rows (fun i => s i || t i) + dimP p m mod n rows (fun i => s i && t i) ≤ dimP p m mod n rows s + dimP p m mod n rows t := by
  letI := h.fd
  have a1 := (clo (colV h rows)).R_sub n.toNat s t
  have a2 := (clo (colV h rows)).R_sub n.toNat (fun i => !s i) (fun i => !t i)
  have e1 : (fun i => !(s i || t i)) = fun i => !s i && !t i := funext fun i => by simp
  have e2 : (fun i => !(s i && t i)) = fun i => !s i || !t i := funext fun i => by simp
  rw [dimP, dimP, dimP, dimP, e1, e2]
  simp only [rankP_R h he]
  omega
theorem count_take_succ {set : List Int} {i : Nat} (hi : i < set.length) (x : Int) : (set.take (i + 1)).count x = (set.take i).count x + if set.getD i 0 = x then 1 else 0 := by
  rw [← take_push 0 hi, List.count_append, List.count_singleton]
  by_cases q : set.getD i 0 = x <;> simp [q]
theorem Subset.count {n : Int} {s : List Int} (h : Subset n s) (x : Int) : s.count x = if s.contains x = true then 1 else 0 := by
  by_cases q : s.contains x = true
  · rw [if_pos q]
    have h1 := List.nodup_iff_count.mp h.nodup x
    have h2 := List.count_pos_iff.mpr (List.contains_iff_mem.mp q)
    omega
  · rw [if_neg q]
    exact List.count_eq_zero.mpr fun w => q (List.contains_iff_mem.mpr w)
theorem maskL_yes {n : Nat} {s : Nat → Bool} (h : s n = true) : maskL (n + 1) s = maskL n s ++ [(n : Int)] := by rw [maskL_succ, if_pos h]
theorem maskL_no {n : Nat} {s : Nat → Bool} (h : s n = false) : maskL (n + 1) s = maskL n s := by rw [maskL_succ, if_neg (by simp [h]), List.append_nil]
theorem count_take_le (s : List Int) (i : Nat) (x : Int) : (s.take i).count x ≤ s.length := Nat.le_trans List.count_le_length (by rw [List.length_take]; omega)
theorem law_Modular (A : Alg) {p m n : Int} {md v sv tv : AV} {mod set tet : List Int} {us : List AV} {rows : List (List Int)} {H : AH} (hm : Ints H md mod) (hlm : mod.length ≤ 9223372036854775807) (hv : Rows H v us rows) (hl : rows.length ≤ 9223372036854775807) (hlr : ∀ i, i < rows.length → (rowAt rows i).length ≤ 9223372036854775807) (hs : Ints H sv set) (hls : set.length ≤ 9223372036854775807) (ht : Ints H tv tet) (hlt : tet.length ≤ 9223372036854775807) :
    AC Try.prog 4 [codeV p m md n v, sv, tv] H fun r H' => r = .bool true ∧ Ext H H' := by
  refine at4 (by simp) ?_
  simp (disch := first | assumption | omega) only [↓RP, RQ, TY, loadT, s4, reduceIte, Nat.reduceEqDiff, Nat.reduceAdd]
  refine kNew_intro fun b H1 hb hE1 hH1 => ?_
  simp (disch := first | assumption | omega) only [↓RP, RQ, TY, loadT, reduceIte, Nat.reduceEqDiff, Nat.reduceAdd, hH1]
  refine c_alive A fun H2 hE2 => ?_
  have hE12 := hE1.trans hE2
  have h2 := hE2.rw hH1
  simp (disch := first | assumption | omega) only [↓RP, RQ, TY, loadT, reduceIte, Nat.reduceEqDiff, Nat.reduceAdd, h2]
  refine c_Check12 A.fo (hm.ext hE12) (hv.ext hE12) hl hlr fun H3 hE3 => ?_
  have hE13 := hE12.trans hE3
  have h3 := hE3.rw h2
  by_cases h0 : codeErr p m mod n rows = 0
  rotate_left
  · simp (disch := first | assumption | omega) only [↓RP, RQ, TY, loadT, reduceIte, Nat.reduceEqDiff, Nat.reduceAdd, eq_false h0, h3]
    exact ⟨rfl, hE13⟩
  simp (disch := first | assumption | omega) only [↓RP, RQ, TY, loadT, reduceIte, Nat.reduceEqDiff, Nat.reduceAdd, eq_true h0, h3]
  have hs3 := hs.ext hE13
  have ht3 := ht.ext hE13
  refine c_IsSubset hs3 hls ?_
  by_cases hS : Subset n set
  rotate_left
  · simp (disch := first | assumption | omega) only [↓RP, RQ, TY, loadT, reduceIte, Nat.reduceEqDiff, Nat.reduceAdd, hS, h3]
    exact ⟨rfl, hE13⟩
  simp (disch := first | assumption | omega) only [↓RP, RQ, TY, loadT, reduceIte, Nat.reduceEqDiff, Nat.reduceAdd, hS, h3]
  refine c_IsSubset ht3 hlt ?_
  by_cases hT : Subset n tet
  rotate_left
  · simp (disch := first | assumption | omega) only [↓RP, RQ, TY, loadT, reduceIte, Nat.reduceEqDiff, Nat.reduceAdd, hT, h3]
    exact ⟨rfl, hE13⟩
  have ca := A.fo.ca h0 (hm.ext hE13) (hv.ext hE13)
  have n1 := ca.n1
  have n64 := ca.n64
  have hSl := hS.length (by omega)
  have hTl := hT.length (by omega)
  simp (disch := first | assumption | omega) only [↓RP, RQ, TY, loadT, reduceIte, Nat.reduceEqDiff, Nat.reduceAdd, hT, h3]
  refine kNew_intro fun b4 H4 hb4 hE4 hH4 => ?_
  rw [ints_rep] at hH4
  have hE14 := hE13.trans hE4
  have hp1 := (Hp.nil (Ext.refl H)).new hb hE1 hH1 rfl
  have hp4 := (hp1.more (hE2.trans hE3)).new (n := n.toNat) hb4 hE4 hH4 (by simp [ints_length])
  simp (disch := first | assumption | omega) only [↓RP, RQ, TY, loadT, reduceIte, Nat.reduceEqDiff, Nat.reduceAdd]
  refine sw_loop (σ := Nat × List Int) (fun s e H' => e 8 = .int .i64 s.1 ∧ e 7 = .sl b4 0 n.toNat (.own 1) ∧ e 3 = .ptr b 0 ∧ e 1 = sv ∧ e 2 = tv ∧ s.1 ≤ set.length ∧ Hp H H' [(.sl b4 0 n.toNat (.own 1), ints s.2), (.sl b 0 5 (.own 1), [.int .i64 p, .int .i64 m, md, .int .i64 n, v])] ∧ s.2.length = n.toNat ∧ ∀ j, j < n.toNat → s.2.getD j 0 = ((set.take s.1).count (j : Int) : Nat)) (fun s => set.length - s.1) (0, List.replicate n.toNat 0) ?_ ?_
  · simp (disch := first | assumption | omega) only [↓RP, RQ, TY, loadT, reduceIte, Nat.reduceEqDiff, Nat.reduceAdd]
    exact ⟨by omega, hp4, by simp, fun j hj => by simp [List.getD_eq_getElem?_getD, hj]⟩
  rintro ⟨i, L⟩ e H5 ⟨e8, e7, e3, e1, e2, hi, hp5, hLl, hLs⟩
  dsimp only at *
  have hs5 := hs.ext hp5.ext
  have hL5 := (hp5.blkOf (y := (.sl b4 0 n.toNat (.own 1), ints L)) (by simp) rfl).1
  by_cases hin : (i : Int) < set.length
  · have hp := hS.poss i (by omega)
    have hil := ints_length L
    have hx := hLs (set.getD i 0).toNat (by omega)
    have hy := count_take_le set i (((set.getD i 0).toNat : Nat) : Int)
    obtain ⟨z, hz⟩ : ∃ z : Nat, (set.take i).count (((set.getD i 0).toNat : Nat) : Int) = z := ⟨_, rfl⟩
    rw [hz] at hx hy
    simp (disch := first | assumption | omega) only [↓RP, RQ, TY, loadT, reduceIte, Nat.reduceEqDiff, Nat.reduceAdd, e8, e7, e3, e1, e2, hin, hs5.ints, hL5, ints_get, hx, ints_set]
    refine ⟨(i + 1, L.set (set.getD i 0).toNat ((z : Int) + 1)), ?_, by dsimp only; omega⟩
    simp (disch := first | assumption | omega) only [↓RP, RQ, TY, loadT, reduceIte, Nat.reduceEqDiff, Nat.reduceAdd, e8, e7, e3, e1, e2]
    refine ⟨by omega, hp5.upd (by simp [ints_length]), by simpa using hLl, fun j hj => ?_⟩
    rw [count_take_succ (by omega), getD_setN]
    by_cases hjs : j = (set.getD i 0).toNat
    · rw [if_pos ⟨hjs, by omega⟩, if_pos (by omega), hjs, hz]
      omega
    · rw [if_neg (fun q => hjs q.1), if_neg (by omega), hLs j hj]
      omega
  rw [List.take_of_length_le (by omega)] at hLs
  simp (disch := first | assumption | omega) only [↓RP, RQ, TY, loadT, reduceIte, Nat.reduceEqDiff, Nat.reduceAdd, e8, e7, e3, e1, e2, hin, hs5.ints]
  refine sw_loop (σ := Nat × List Int) (fun s e H' => e 9 = .int .i64 s.1 ∧ e 7 = .sl b4 0 n.toNat (.own 1) ∧ e 3 = .ptr b 0 ∧ e 1 = sv ∧ e 2 = tv ∧ s.1 ≤ tet.length ∧ Hp H H' [(.sl b4 0 n.toNat (.own 1), ints s.2), (.sl b 0 5 (.own 1), [.int .i64 p, .int .i64 m, md, .int .i64 n, v])] ∧ s.2.length = n.toNat ∧ ∀ j, j < n.toNat → s.2.getD j 0 = ((set.count (j : Int) + (tet.take s.1).count (j : Int) : Nat) : Int)) (fun s => tet.length - s.1) (0, L) ?_ ?_
  · simp (disch := first | assumption | omega) only [↓RP, RQ, TY, loadT, reduceIte, Nat.reduceEqDiff, Nat.reduceAdd, e8, e7, e3, e1, e2]
    exact ⟨by omega, hp5, hLl, fun j hj => by simpa using hLs j hj⟩
  clear hin hLs hL5 hs5 e8 e7 e3 e1 e2 hLl hi hp5
  rintro ⟨i', L'⟩ e' H6 ⟨e9, e7, e3, e1, e2, hi, hp6, hLl, hLs⟩
  dsimp only at *
  have ht6 := ht.ext hp6.ext
  have hL6 := (hp6.blkOf (y := (.sl b4 0 n.toNat (.own 1), ints L')) (by simp) rfl).1
  by_cases hin : (i' : Int) < tet.length
  · have hp := hT.poss i' (by omega)
    have hil := ints_length L'
    have hx := hLs (tet.getD i' 0).toNat (by omega)
    have hy := count_take_le tet i' (((tet.getD i' 0).toNat : Nat) : Int)
    have hy2 : set.count (((tet.getD i' 0).toNat : Nat) : Int) ≤ set.length := List.count_le_length
    obtain ⟨z, hz⟩ : ∃ z : Nat, set.count (((tet.getD i' 0).toNat : Nat) : Int) + (tet.take i').count (((tet.getD i' 0).toNat : Nat) : Int) = z := ⟨_, rfl⟩
    rw [hz] at hx
    simp (disch := first | assumption | omega) only [↓RP, RQ, TY, loadT, reduceIte, Nat.reduceEqDiff, Nat.reduceAdd, e9, e7, e3, e1, e2, hin, ht6.ints, hL6, ints_get, hx, ints_set]
    refine ⟨(i' + 1, L'.set (tet.getD i' 0).toNat ((z : Int) + 1)), ?_, by dsimp only; omega⟩
    simp (disch := first | assumption | omega) only [↓RP, RQ, TY, loadT, reduceIte, Nat.reduceEqDiff, Nat.reduceAdd, e9, e7, e3, e1, e2]
    refine ⟨by omega, hp6.upd (by simp [ints_length]), by simpa using hLl, fun j hj => ?_⟩
    rw [count_take_succ (by omega), getD_setN]
    by_cases hjs : j = (tet.getD i' 0).toNat
    · rw [if_pos ⟨hjs, by omega⟩, if_pos (by omega), hjs]
      omega
    · rw [if_neg (fun q => hjs q.1), if_neg (by omega), hLs j hj]
      omega
  rw [List.take_of_length_le (by omega)] at hLs
  simp (disch := first | assumption | omega) only [↓RP, RQ, TY, loadT, reduceIte, Nat.reduceEqDiff, Nat.reduceAdd, e9, e7, e3, e1, e2, hin, ht6.ints]
  refine kNew_intro fun b7 H7 hb7 hE7 hH7 => ?_
  simp (disch := first | assumption | omega) only [↓RP, RQ, TY, loadT, reduceIte, Nat.reduceEqDiff, Nat.reduceAdd]
  refine kNew_intro fun b8 H8 hb8 hE8 hH8 => ?_
  simp (disch := first | assumption | omega) only [↓RP, RQ, TY, loadT, reduceIte, Nat.reduceEqDiff, Nat.reduceAdd]
  have hp8 := (hp6.new hb7 hE7 hH7 rfl).new hb8 hE8 hH8 rfl
  refine sw_loop (σ := Nat × AV × AV) (fun s e H' => e 12 = .int .i64 s.1 ∧ e 10 = s.2.1 ∧ e 11 = s.2.2 ∧ e 7 = .sl b4 0 n.toNat (.own 1) ∧ e 3 = .ptr b 0 ∧ e 1 = sv ∧ e 2 = tv ∧ s.1 ≤ n.toNat ∧ Hp H H' [(s.2.2, ints (maskL s.1 fun i => inL set i && inL tet i)), (s.2.1, ints (maskL s.1 fun i => inL set i || inL tet i)), (.sl b4 0 n.toNat (.own 1), ints L'), (.sl b 0 5 (.own 1), [.int .i64 p, .int .i64 m, md, .int .i64 n, v])]) (fun s => n.toNat - s.1) (0, .sl b7 0 0 (.own 1), .sl b8 0 0 (.own 1)) ?_ ?_
  · simp (disch := first | assumption | omega) only [↓RP, RQ, TY, loadT, reduceIte, Nat.reduceEqDiff, Nat.reduceAdd, e9, e7, e3, e1, e2]
    exact ⟨by omega, hp8⟩
  clear hp8 hH7 hH8 hb7 hb8 hE7 hE8 hin e9 e7 e3 e1 e2 hL6 ht6 hp6 hi hp4 hp1 hE4
  rintro ⟨q, w1, w2⟩ e H9 ⟨e12, e10, e11, e7, e3, e1, e2, hq, hp⟩
  dsimp only at *
  have h9 := (hp.blkOf (y := (.sl b 0 5 (.own 1), [.int .i64 p, .int .i64 m, md, .int .i64 n, v])) (by simp) rfl).1
  have hL9 := (hp.blkOf (y := (.sl b4 0 n.toNat (.own 1), ints L')) (by simp) rfl).1
  by_cases hin : (q : Int) < n
  · have hx := hLs q (by omega)
    have hil := ints_length L'
    rw [hS.count, hT.count] at hx
    have m1 := maskL_length q fun i => inL set i && inL tet i
    have m2 := maskL_length q fun i => inL set i || inL tet i
    have hx1 : (¬ 0 < L'.getD q 0 ↔ (set.contains (q : Int) || tet.contains (q : Int)) = false) := by
      rw [hx]; cases set.contains (q : Int) <;> cases tet.contains (q : Int) <;> simp
    have hx2 : (¬ 1 < L'.getD q 0 ↔ (set.contains (q : Int) && tet.contains (q : Int)) = false) := by
      rw [hx]; cases set.contains (q : Int) <;> cases tet.contains (q : Int) <;> simp
    clear hx
    by_cases g1 : 0 < L'.getD q 0
    · have k1 : (set.contains (q : Int) || tet.contains (q : Int)) = true := by
        cases h : (set.contains (q : Int) || tet.contains (q : Int)) with
        | true => rfl
        | false => exact absurd g1 (hx1.mpr h)
      have n2 := maskL_yes (n := q) (s := fun i => inL set i || inL tet i) k1
      simp (disch := first | assumption | omega) only [↓RP, RQ, TY, loadT, reduceIte, Nat.reduceEqDiff, Nat.reduceAdd, e12, e10, e11, e7, e3, e1, e2, hin, h9, hL9, ints_get, g1]
      refine kNew_intro fun b10 H10 hb10 hE10 hH10 => ?_
      simp (disch := first | assumption | omega) only [↓RP, RQ, TY, loadT, reduceIte, Nat.reduceEqDiff, Nat.reduceAdd]
      refine kApp_hp (us := ints [(q : Int)]) (((hp.more hE10)).perm (List.Perm.swap _ _ _)) (Sl.own hH10 rfl) ints_ones (by rw [ints_length, ints_length, List.length_singleton]; omega) (by rw [ints_length, ints_length, List.length_singleton]; omega) fun v11 H11 hp11 => ?_
      rw [ints_app] at hp11
      have hL11 := (hp11.blkOf (y := (.sl b4 0 n.toNat (.own 1), ints L')) (by simp) rfl).1
      by_cases g2 : 1 < L'.getD q 0
      · have k2 : (set.contains (q : Int) && tet.contains (q : Int)) = true := by
          cases h : (set.contains (q : Int) && tet.contains (q : Int)) with
          | true => rfl
          | false => exact absurd g2 (hx2.mpr h)
        have n1 := maskL_yes (n := q) (s := fun i => inL set i && inL tet i) k2
        simp (disch := first | assumption | omega) only [↓RP, RQ, TY, loadT, reduceIte, Nat.reduceEqDiff, Nat.reduceAdd, e12, e10, e11, e7, e3, e1, e2, hin, hL11, ints_get, g2]
        refine kNew_intro fun b12 H12 hb12 hE12 hH12 => ?_
        simp (disch := first | assumption | omega) only [↓RP, RQ, TY, loadT, reduceIte, Nat.reduceEqDiff, Nat.reduceAdd]
        refine kApp_hp (us := ints [(q : Int)]) (((hp11.more hE12)).perm (List.Perm.swap _ _ _)) (Sl.own hH12 rfl) ints_ones (by rw [ints_length, ints_length, List.length_singleton]; omega) (by rw [ints_length, ints_length, List.length_singleton]; omega) fun v13 H13 hp13 => ?_
        rw [ints_app] at hp13
        simp (disch := first | assumption | omega) only [↓RP, RQ, TY, loadT, reduceIte, Nat.reduceEqDiff, Nat.reduceAdd, e12, e10, e11, e7, e3, e1, e2]
        refine ⟨(q + 1, v11, v13), ?_, by dsimp only; omega⟩
        simp (disch := first | assumption | omega) only [↓RP, RQ, TY, loadT, reduceIte, Nat.reduceEqDiff, Nat.reduceAdd, e12, e10, e11, e7, e3, e1, e2]
        refine ⟨by omega, ?_⟩
        rw [n1, n2]
        exact hp13
      · have n1 := maskL_no (n := q) (s := fun i => inL set i && inL tet i) (hx2.mp g2)
        simp (disch := first | assumption | omega) only [↓RP, RQ, TY, loadT, reduceIte, Nat.reduceEqDiff, Nat.reduceAdd, e12, e10, e11, e7, e3, e1, e2, hin, hL11, ints_get, g2]
        refine ⟨(q + 1, v11, w2), ?_, by dsimp only; omega⟩
        simp (disch := first | assumption | omega) only [↓RP, RQ, TY, loadT, reduceIte, Nat.reduceEqDiff, Nat.reduceAdd, e12, e10, e11, e7, e3, e1, e2]
        refine ⟨by omega, ?_⟩
        rw [n1, n2]
        exact hp11.perm (List.Perm.swap _ _ _)
    · have n2 := maskL_no (n := q) (s := fun i => inL set i || inL tet i) (hx1.mp g1)
      have g2 : ¬ 1 < L'.getD q 0 := by omega
      have n1 := maskL_no (n := q) (s := fun i => inL set i && inL tet i) (hx2.mp g2)
      simp (disch := first | assumption | omega) only [↓RP, RQ, TY, loadT, reduceIte, Nat.reduceEqDiff, Nat.reduceAdd, e12, e10, e11, e7, e3, e1, e2, hin, h9, hL9, ints_get, g1, g2]
      refine ⟨(q + 1, w1, w2), ?_, by dsimp only; omega⟩
      simp (disch := first | assumption | omega) only [↓RP, RQ, TY, loadT, reduceIte, Nat.reduceEqDiff, Nat.reduceAdd, e12, e10, e11, e7, e3, e1, e2]
      refine ⟨by omega, ?_⟩
      rw [n1, n2]
      exact hp
  rw [show q = n.toNat by omega] at hp
  have m1 := maskL_length n.toNat fun i => inL set i && inL tet i
  have m2 := maskL_length n.toNat fun i => inL set i || inL tet i
  have hE9 := hp.ext
  simp (disch := first | assumption | omega) only [↓RP, RQ, TY, loadT, reduceIte, Nat.reduceEqDiff, Nat.reduceAdd, e12, e10, e11, e7, e3, e1, e2, hin, h9]
  refine c_ODim A (hm.ext hE9) hlm (hv.ext hE9) (hs.ext hE9) hl hlr hls fun Ha hEa => ?_
  have hE9a := hE9.trans hEa
  have ha := hEa.rw h9
  simp (disch := first | assumption | omega) only [↓RP, RQ, TY, loadT, reduceIte, Nat.reduceEqDiff, Nat.reduceAdd, e12, e10, e11, e7, e3, e1, e2, ha]
  refine c_ODim A (hm.ext hE9a) hlm (hv.ext hE9a) (ht.ext hE9a) hl hlr hlt fun Hb hEb => ?_
  have hE9b := hE9a.trans hEb
  have hb' := hEb.rw ha
  simp (disch := first | assumption | omega) only [↓RP, RQ, TY, loadT, reduceIte, Nat.reduceEqDiff, Nat.reduceAdd, e12, e10, e11, e7, e3, e1, e2, hb']
  refine c_ODim A (hm.ext hE9b) hlm (hv.ext hE9b) ((hp.sl (y := (w1, ints (maskL n.toNat fun i => inL set i || inL tet i))) (by simp)).ext (hEa.trans hEb)) hl hlr (by omega) fun Hc hEc => ?_
  have hE9c := hE9b.trans hEc
  have hc := hEc.rw hb'
  simp (disch := first | assumption | omega) only [↓RP, RQ, TY, loadT, reduceIte, Nat.reduceEqDiff, Nat.reduceAdd, e12, e10, e11, e7, e3, e1, e2, hc]
  refine c_ODim A (hm.ext hE9c) hlm (hv.ext hE9c) ((hp.sl (y := (w2, ints (maskL n.toNat fun i => inL set i && inL tet i))) (by simp)).ext ((hEa.trans hEb).trans hEc)) hl hlr (by omega) fun Hd hEd => ?_
  have good : ∀ s : List Int, Subset n s → dimErr p m mod n rows s = 0 ∧ dimValP p m mod n rows s = dimP p m mod n rows (inL s) := fun s q => by
    have e1 := dimErr_ok h0 q
    exact ⟨e1, by rw [dimValP, if_pos e1]⟩
  have goodM : ∀ s : Nat → Bool, dimErr p m mod n rows (maskL n.toNat s) = 0 ∧ dimValP p m mod n rows (maskL n.toNat s) = dimP p m mod n rows s := fun s => by
    have hS2 := maskL_subset s n.toNat
    rw [show ((n.toNat : Nat) : Int) = n by omega] at hS2
    obtain ⟨q1, q2⟩ := good _ hS2
    exact ⟨q1, q2.trans (dimP_congr fun i hi => inL_mask n.toNat _ i (by omega))⟩
  have bd : ∀ s : Nat → Bool, -64 ≤ dimP p m mod n rows s ∧ dimP p m mod n rows s ≤ 64 := fun s => by
    have q1 := dimP_ge (p := p) (m := m) (n := n) (mod := mod) (rows := rows) s
    have q2 := (dimP_le ca.fa.ok (n := n) (by omega) ca.els s).1
    have := ca.kn
    omega
  rw [(good _ hS).1, (good _ hS).2, (good _ hT).1, (good _ hT).2, (goodM _).1, (goodM _).2, (goodM _).1, (goodM _).2]
  have t1 := bd (inL set)
  have t2 := bd (inL tet)
  have t3 := bd fun i => inL set i || inL tet i
  have t4 := bd fun i => inL set i && inL tet i
  have t5 := dimP_sub ca.fa.ok (n := n) ca.els (inL set) (inL tet)
  simp (disch := first | assumption | omega) only [↓RP, RQ, TY, loadT, reduceIte, Nat.reduceEqDiff, Nat.reduceAdd, t5, Int.reduceEq]
  exact ⟨rfl, hE9c.trans hEd⟩
end Go.Proofs.Yteijojnahpeglaa.AM
/-! The program's orderings, third part: Greedy; the greedy order as a list. -/
namespace Go.Proofs.Yteijojnahpeglaa.AM
open Go Go.RowKit
set_option linter.unusedVariables false
set_option linter.unusedSimpArgs false
set_option maxRecDepth 20000
/-- of some positions the first with the least value, and the value -/
def pickB (d : Nat → Int) (xs : List Nat) (s : Int × Int) : Int × Int := xs.foldl (fun s x => if d x < s.2 then ((x : Int), d x) else s) s
theorem pickB_app {d : Nat → Int} {xs ys : List Nat} {s : Int × Int} : pickB d (xs ++ ys) s = pickB d ys (pickB d xs s) := List.foldl_append
theorem pickB_one {d : Nat → Int} {x : Nat} {s : Int × Int} : pickB d [x] s = if d x < s.2 then ((x : Int), d x) else s := rfl
theorem pickB_ind {d : Nat → Int} {xs : List Nat} {b b' l : Int} (hx : xs ≠ []) (hd : ∀ x, x ∈ xs → d x < l) : pickB d xs (b, l) = pickB d xs (b', l) := by
  cases xs with
  | nil => exact absurd rfl hx
  | cons x xs => simp only [pickB, List.foldl_cons, if_pos (hd x (by simp))]
theorem pickB_mem {d : Nat → Int} : ∀ (xs : List Nat) (s : Int × Int), pickB d xs s = s ∨ ∃ x, x ∈ xs ∧ (pickB d xs s).1 = (x : Int)
  | [], s => .inl rfl
  | x :: xs, s => by
    have e : pickB d (x :: xs) s = pickB d xs (if d x < s.2 then ((x : Int), d x) else s) := rfl
    rw [e]
    rcases pickB_mem xs (if d x < s.2 then ((x : Int), d x) else s) with h | ⟨y, hy, h⟩
    · rw [h]
      by_cases q : d x < s.2
      · rw [if_pos q]; exact .inr ⟨x, by simp, rfl⟩
      · rw [if_neg q]; exact .inl rfl
    · exact .inr ⟨y, by simp [hy], h⟩
theorem perm_mask {n : Nat} {set : List Int} (hp : Poss n set) (hn : set.Nodup) : (set.map Int.toNat).Perm ((List.range n).filter (inL set)) := by
  refine (List.perm_ext_iff_of_nodup ?_ (filter_nodup _ _)).mpr fun a => ?_
  · rw [List.Nodup, List.pairwise_iff_getElem] at hn ⊢
    intro i j hi hj hij q
    simp only [List.length_map] at hi hj
    simp only [List.getElem_map] at q
    have h1 := hp i hi
    have h2 := hp j hj
    simp only [List.getD_eq_getElem?_getD, List.getElem?_eq_getElem hi, List.getElem?_eq_getElem hj, Option.getD_some] at h1 h2
    exact hn i j hi hj hij (by omega)
  · simp only [List.mem_map, List.mem_filter, List.mem_range, inL, List.contains_iff_mem]
    constructor
    · rintro ⟨x, hx, rfl⟩
      obtain ⟨i, hi, rfl⟩ := List.getElem_of_mem hx
      have h1 := hp i hi
      simp only [List.getD_eq_getElem?_getD, List.getElem?_eq_getElem hi, Option.getD_some] at h1
      exact ⟨by omega, by rw [Int.toNat_of_nonneg h1.1]; exact hx⟩
    · rintro ⟨h1, h2⟩
      exact ⟨a, h2, rfl⟩
theorem othersN_len {n : Nat} {set : List Int} (hp : Poss n set) (hn : set.Nodup) : set.length + (othersN n set).length = n := by
  have h1 := (perm_mask hp hn).length_eq
  have h2 := filter_len n (inL set)
  have e : othersN n set = (List.range n).filter fun i => !inL set i := rfl
  rw [e]
  rw [List.length_map] at h1
  omega
theorem mem_others {n : Nat} {set : List Int} {x : Nat} : x ∈ othersN n set ↔ x < n ∧ (x : Int) ∉ set := by
  simp [othersN]
theorem poss_mem {n : Int} {set : List Int} : Poss n set ↔ ∀ x, x ∈ set → 0 ≤ x ∧ x < n := by
  constructor
  · intro h x hx
    obtain ⟨i, hi, rfl⟩ := List.getElem_of_mem hx
    have := h i hi
    simpa only [List.getD_eq_getElem?_getD, List.getElem?_eq_getElem hi, Option.getD_some] using this
  · intro h i hi
    have := h _ (List.getElem_mem hi)
    simpa only [List.getD_eq_getElem?_getD, List.getElem?_eq_getElem hi, Option.getD_some] using this
/-- the value of one position more -/
noncomputable def grD (p m : Int) (mod : List Int) (n : Int) (rows : List (List Int)) (out : List Int) (x : Nat) : Int := dimP p m mod n rows (inL (out ++ [(x : Int)]))
/-- the greedy order's first positions -/
noncomputable def grL (p m : Int) (mod : List Int) (n : Int) (rows : List (List Int)) : Nat → List Int
  | 0 => []
  | k + 1 => grL p m mod n rows k ++ [(pickB (grD p m mod n rows (grL p m mod n rows k)) (othersN n.toNat (grL p m mod n rows k)) (-1, n + 1)).1]
theorem dimP_lt {p m : Int} {mod : List Int} (h : (fF p m mod).Ok) {n : Int} (hn : 1 ≤ n) {rows : List (List Int)} (he : Els (fF p m mod) rows) (s : Nat → Bool) : dimP p m mod n rows s < n + 1 := by
  obtain ⟨h1, h2⟩ := dimP_le h (n := n) (by omega) he s
  omega
theorem nodup_push {l : List Int} {x : Int} (h : l.Nodup) (hx : x ∉ l) : (l ++ [x]).Nodup := by
  rw [List.nodup_append]
  exact ⟨h, by simp, fun a ha b hb => by simp at hb; subst hb; exact fun q => hx (q ▸ ha)⟩
theorem grL_ok {p m : Int} {mod : List Int} (h : (fF p m mod).Ok) {n : Int} (hn : 1 ≤ n) {rows : List (List Int)} (he : Els (fF p m mod) rows) : ∀ k, k ≤ n.toNat → (grL p m mod n rows k).length = k ∧ Poss n (grL p m mod n rows k) ∧ (grL p m mod n rows k).Nodup
  | 0, _ => ⟨rfl, fun i hi => by simp [grL] at hi, by simp [grL]⟩
  | k + 1, hk => by
    obtain ⟨i1, i2, i3⟩ := grL_ok h hn he k (by omega)
    have hl := othersN_len (n := n.toNat) (by rwa [Int.toNat_of_nonneg (by omega)]) i3
    generalize hd : grD p m mod n rows (grL p m mod n rows k) = d
    have hmem : ∃ x, x ∈ othersN n.toNat (grL p m mod n rows k) ∧ (pickB d (othersN n.toNat (grL p m mod n rows k)) (-1, n + 1)).1 = (x : Int) := by
      have hne : othersN n.toNat (grL p m mod n rows k) ≠ [] := fun q => by rw [q] at hl; simp at hl; omega
      have hlt : ∀ x, x ∈ othersN n.toNat (grL p m mod n rows k) → d x < n + 1 := fun x _ => hd ▸ dimP_lt h hn he _
      cases ho : othersN n.toNat (grL p m mod n rows k) with
      | nil => exact absurd ho hne
      | cons a l =>
        have e : pickB d (a :: l) (-1, n + 1) = pickB d l ((a : Int), d a) := by
          simp only [pickB, List.foldl_cons, if_pos (show d a < n + 1 from hlt a (by rw [ho]; simp))]
        rw [e]
        rcases pickB_mem (d := d) l ((a : Int), d a) with w | ⟨y, hy, w⟩
        · exact ⟨a, by simp, by rw [w]⟩
        · exact ⟨y, by simp [hy], w⟩
    obtain ⟨x, hx, hxe⟩ := hmem
    obtain ⟨x1, x2⟩ := mem_others.mp hx
    have e : grL p m mod n rows (k + 1) = grL p m mod n rows k ++ [(x : Int)] := by rw [grL, hd, hxe]
    rw [e]
    refine ⟨by simp [i1], poss_mem.mpr fun y hy => ?_, nodup_push i3 x2⟩
    rcases List.mem_append.mp hy with q | q
    · exact poss_mem.mp i2 y q
    · simp at q; omega
theorem grL_step {p m : Int} {mod : List Int} (h : (fF p m mod).Ok) {n : Int} (hn : 1 ≤ n) {rows : List (List Int)} (he : Els (fF p m mod) rows) {k : Nat} (hk : k < n.toNat) : ∃ x : Nat, (x : Int) < n ∧ (pickB (grD p m mod n rows (grL p m mod n rows k)) (othersN n.toNat (grL p m mod n rows k)) (-1, n + 1)).1 = (x : Int) := by
  obtain ⟨i1, i2, i3⟩ := grL_ok h hn he (k + 1) (by omega)
  have := i2 k (by omega)
  rw [grL, getD_appI, if_neg (by have := (grL_ok h hn he k (by omega)).1; omega), if_pos (grL_ok h hn he k (by omega)).1.symm] at this
  exact ⟨_, by omega, (Int.toNat_of_nonneg this.1).symm⟩
theorem inL_push {l : List Int} {x i : Nat} : inL (l ++ [(x : Int)]) i = (inL l i || decide (x = i)) := by
  rw [Bool.eq_iff_iff]
  simp only [inL, List.contains_iff_mem, List.mem_append, List.mem_singleton, Bool.or_eq_true, decide_eq_true_eq]
  exact or_congr Iff.rfl (by omega)
theorem testBit_push {k x : Nat} {l : List Int} (hk : k.testBit = inL l) : (k ||| 2 ^ x).testBit = inL (l ++ [(x : Int)]) := funext fun i => by
  rw [inL_push, Nat.testBit_or, Nat.testBit_two_pow, hk]
theorem c_OGreedy (A : Alg) {p m n : Int} {md v : AV} {mod : List Int} {us : List AV} {rows : List (List Int)} {H : AH} {Q : AV → AH → Prop} (hm : Ints H md mod) (hlm : mod.length ≤ 9223372036854775807) (hv : Rows H v us rows) (hl : rows.length ≤ 9223372036854775807) (hlr : ∀ i, i < rows.length → (rowAt rows i).length ≤ 9223372036854775807)
    (hQ0 : codeErr p m mod n rows ≠ 0 → ∀ H', Ext H H' → Q (.tup [.nils, .int .i64 (codeErr p m mod n rows)]) H')
    (hQ : codeErr p m mod n rows = 0 → ∀ w H', Ext H H' → Own H H' w (ints (grL p m mod n rows n.toNat)) → Q (.tup [w, .int .i64 0]) H') : AC Try.prog 17 [codeV p m md n v] H Q := by
  refine at17 (by simp) ?_
  simp (disch := first | assumption | omega) only [↓RP, RQ, TY, loadT, s17, reduceIte, Nat.reduceEqDiff, Nat.reduceAdd]
  refine kNew_intro fun b H1 hb hE1 hH1 => ?_
  simp (disch := first | assumption | omega) only [↓RP, RQ, TY, loadT, reduceIte, Nat.reduceEqDiff, Nat.reduceAdd, hH1]
  refine c_cCheck A (hm.ext hE1) hlm (hv.ext hE1) hl hlr fun H2 hE2 => ?_
  have hE12 := hE1.trans hE2
  have h2 := hE2.rw hH1
  by_cases h0 : codeErr p m mod n rows = 0
  rotate_left
  · simp (disch := first | assumption | omega) only [↓RP, RQ, TY, loadT, reduceIte, Nat.reduceEqDiff, Nat.reduceAdd, eq_false h0]
    exact hQ0 h0 H2 hE12
  have ca := A.fo.ca h0 (hm.ext hE12) (hv.ext hE12)
  have n1 := ca.n1
  have n64 := ca.n64
  have ok := ca.fa.ok
  have els := ca.els
  have hp2 := ((Hp.nil (Ext.refl H)).new hb hE1 hH1 rfl).more hE2
  clear ca
  simp (disch := first | assumption | omega) only [↓RP, RQ, TY, loadT, reduceIte, Nat.reduceEqDiff, Nat.reduceAdd, eq_true h0, h2]
  refine sw_loop (σ := Nat × AV × Nat) (fun s e H' => e 18 = .int .i64 s.1 ∧ e 17 = .int .i64 n ∧ e 6 = s.2.1 ∧ e 5 = .int .u64 (s.2.2 : Nat) ∧ e 1 = .ptr b 0 ∧ s.1 ≤ n.toNat ∧ s.2.2 < 18446744073709551616 ∧ s.2.2.testBit = inL (grL p m mod n rows s.1) ∧ Hp H H' [(s.2.1, ints (grL p m mod n rows s.1)), (.sl b 0 5 (.own 1), [.int .i64 p, .int .i64 m, md, .int .i64 n, v])]) (fun s => n.toNat - s.1) (0, .nils, 0) ?_ ?_
  · simp (disch := first | assumption | omega) only [↓RP, RQ, TY, loadT, reduceIte, Nat.reduceEqDiff, Nat.reduceAdd]
    exact ⟨by omega, by omega, funext fun i => by simp [inL, grL], hp2.nils⟩
  rintro ⟨t, w, k⟩ e H3 ⟨e18, e17, e6, e5, e1, ht, hk, hbit, hp3⟩
  dsimp only at *
  have h3 := (hp3.blkOf (y := (.sl b 0 5 (.own 1), [.int .i64 p, .int .i64 m, md, .int .i64 n, v])) (by simp) rfl).1
  by_cases hlt : (t : Int) < n
  · obtain ⟨x, hx1, hx2⟩ := grL_step ok n1 els (k := t) (by omega)
    have gl := (grL_ok ok n1 els t ht).1
    have gs : grL p m mod n rows (t + 1) = grL p m mod n rows t ++ [(x : Int)] := by rw [grL, hx2]
    generalize hd : grD p m mod n rows (grL p m mod n rows t) = d at hx2
    generalize hg : grL p m mod n rows t = g at *
    simp (disch := first | assumption | omega) only [↓RP, RQ, TY, loadT, reduceIte, Nat.reduceEqDiff, Nat.reduceAdd, e18, e17, e6, e5, e1, hlt, h3]
    refine sw_loop (σ := Nat × Int × Int) (fun s e H' => e 25 = .int .i64 s.1 ∧ e 24 = .int .i64 n ∧ e 7 = .int .i64 s.2.1 ∧ e 8 = .int .i64 s.2.2 ∧ e 18 = .int .i64 t ∧ e 17 = .int .i64 n ∧ e 6 = w ∧ e 5 = .int .u64 (k : Nat) ∧ e 1 = .ptr b 0 ∧ s.1 ≤ n.toNat ∧ Ext H3 H' ∧ s.2 = pickB d (othersN s.1 g) (-1, n + 1)) (fun s => n.toNat - s.1) (0, -1, n + 1) ?_ ?_
    · simp (disch := first | assumption | omega) only [↓RP, RQ, TY, loadT, reduceIte, Nat.reduceEqDiff, Nat.reduceAdd, e18, e17, e6, e5, e1]
      exact ⟨by omega, Ext.refl _, rfl⟩
    rintro ⟨i, bst, lst⟩ e' H4 ⟨g25, g24, g7, g8, g18, g17, g6, g5, g1, hi, hE4, hs⟩
    dsimp only at *
    have hE04 := hp3.ext.trans hE4
    by_cases hin : (i : Int) < n
    · have hon := othersN_succ i g
      cases hb2 : k.testBit i
      · have hc : g.contains (i : Int) = false := by
          have := congrFun hbit i
          rw [hb2] at this
          exact this.symm
        rw [if_neg (by rw [hc]; simp)] at hon
        obtain ⟨o1, o2⟩ := bit_or (k := k) (x := i) hk (by omega)
        have h4 := hE4.rw h3
        have hand := bit_and (k := k) (i := i) hk (by omega)
        rw [hb2, if_neg (by simp)] at hand
        have ilt : i < 64 := by omega
        simp (disch := first | assumption | omega) only [↓RP, RQ, TY, loadT, reduceIte, Nat.reduceEqDiff, Nat.reduceAdd, g25, g24, g7, g8, g18, g17, g6, g5, g1, hin, hand, o1, h4, Int.reduceEq]
        refine c_odim A (hm.ext hE04) hlm (hv.ext hE04) h0 o2 fun H5 hE5 => ?_
        have hde : (rankP p m mod n rows (k ||| 2 ^ i).testBit : Int) + rankP p m mod n rows (fun j => !(k ||| 2 ^ i).testBit j) - rows.length = d i := by
          rw [← hd, grD, testBit_push hbit]; rfl
        rw [hde]
        have hE35 := hE4.trans hE5
        by_cases hc2 : d i < lst
        · simp (disch := first | assumption | omega) only [↓RP, RQ, TY, loadT, reduceIte, Nat.reduceEqDiff, Nat.reduceAdd, g25, g24, g7, g8, g18, g17, g6, g5, g1, hc2]
          refine ⟨(i + 1, (i : Int), d i), ?_, by dsimp only; omega⟩
          simp (disch := first | assumption | omega) only [↓RP, RQ, TY, loadT, reduceIte, Nat.reduceEqDiff, Nat.reduceAdd, g25, g24, g7, g8, g18, g17, g6, g5, g1]
          refine ⟨by omega, hE35, ?_⟩
          rw [hon, pickB_app, ← hs, pickB_one, if_pos hc2]
        · simp (disch := first | assumption | omega) only [↓RP, RQ, TY, loadT, reduceIte, Nat.reduceEqDiff, Nat.reduceAdd, g25, g24, g7, g8, g18, g17, g6, g5, g1, hc2]
          refine ⟨(i + 1, bst, lst), ?_, by dsimp only; omega⟩
          simp (disch := first | assumption | omega) only [↓RP, RQ, TY, loadT, reduceIte, Nat.reduceEqDiff, Nat.reduceAdd, g25, g24, g7, g8, g18, g17, g6, g5, g1]
          refine ⟨by omega, hE35, ?_⟩
          rw [hon, pickB_app, ← hs, pickB_one, if_neg hc2]
      · have hc : g.contains (i : Int) = true := by
          have := congrFun hbit i
          rw [hb2] at this
          exact this.symm
        rw [if_pos hc, List.append_nil] at hon
        have hand := bit_and (k := k) (i := i) hk (by omega)
        rw [hb2, if_pos rfl] at hand
        simp (disch := first | assumption | omega) only [↓RP, RQ, TY, loadT, reduceIte, Nat.reduceEqDiff, Nat.reduceAdd, g25, g24, g7, g8, g18, g17, g6, g5, g1, hin, hand, Int.reduceEq]
        refine ⟨(i + 1, bst, lst), ?_, by dsimp only; omega⟩
        simp (disch := first | assumption | omega) only [↓RP, RQ, TY, loadT, reduceIte, Nat.reduceEqDiff, Nat.reduceAdd, g25, g24, g7, g8, g18, g17, g6, g5, g1]
        refine ⟨by omega, hE4, ?_⟩
        rw [hon, hs]
    · rw [show i = n.toNat by omega] at hs
      have hbx : bst = x := by rw [← hx2, ← hs]
      rw [hbx] at g7
      obtain ⟨o1, o2⟩ := bit_or (k := k) (x := x) hk (by omega)
      have xlt : x < 64 := by omega
      simp (disch := first | assumption | omega) only [↓RP, RQ, TY, loadT, reduceIte, Nat.reduceEqDiff, Nat.reduceAdd, g25, g24, g7, g8, g18, g17, g6, g5, g1, hin]
      refine kNew_intro fun b6 H6 hb6 hE6 hH6 => ?_
      simp (disch := first | assumption | omega) only [↓RP, RQ, TY, loadT, reduceIte, Nat.reduceEqDiff, Nat.reduceAdd, g25, g24, g7, g8, g18, g17, g6, g5, g1]
      refine kApp_hp (us := ints [(x : Int)]) ((hp3.more hE4).more hE6) (Sl.own hH6 rfl) ints_ones (by rw [ints_length, ints_length, List.length_singleton]; omega) (by rw [ints_length, ints_length, List.length_singleton]; omega) fun v7 H7 hp7 => ?_
      rw [ints_app, ← gs] at hp7
      simp (disch := first | assumption | omega) only [↓RP, RQ, TY, loadT, reduceIte, Nat.reduceEqDiff, Nat.reduceAdd, g25, g24, g7, g8, g18, g17, g6, g5, g1, o1]
      refine ⟨(t + 1, v7, k ||| 2 ^ x), ?_, by dsimp only; omega⟩
      simp (disch := first | assumption | omega) only [↓RP, RQ, TY, loadT, reduceIte, Nat.reduceEqDiff, Nat.reduceAdd, g25, g24, g7, g8, g18, g17, g6, g5, g1]
      exact ⟨by omega, o2, by rw [gs]; exact testBit_push hbit, hp7⟩
  · rw [show t = n.toNat by omega] at hp3
    simp (disch := first | assumption | omega) only [↓RP, RQ, TY, loadT, reduceIte, Nat.reduceEqDiff, Nat.reduceAdd, e18, e17, e6, e5, e1, hlt]
    exact hQ h0 w H3 hp3.ext hp3.head
end Go.Proofs.Yteijojnahpeglaa.AM
/-! The reference's words: Compare, Same; its greedy order. -/
namespace Go.Proofs.Yteijojnahpeglaa.AM
open Go Go.RowKit
set_option linter.unusedVariables false
set_option linter.unusedSimpArgs false
set_option maxRecDepth 20000
theorem c_Compare {a b : AV} {xs ys : List Int} {H : AH} {Q : AV → AH → Prop} (ha : Ints H a xs) (hb : Ints H b ys) (hla : xs.length ≤ 9223372036854775807) (hlb : ys.length ≤ 9223372036854775807) (hQ : ∀ c : Int, (c = 0 ↔ xs = ys) → Q (.int .i64 c) H) : AC Try.prog 34 [a, b] H Q := by
  refine at34 (by simp) ?_
  simp (disch := first | assumption | omega) only [↓RP, RQ, TY, loadT, s34, reduceIte, Nat.reduceEqDiff, Nat.reduceAdd]
  refine sw_loop (σ := Nat) (fun i e H' => e 5 = .int .i64 i ∧ e 0 = a ∧ e 1 = b ∧ i ≤ xs.length ∧ i ≤ ys.length ∧ xs.take i = ys.take i ∧ H' = H) (fun i => xs.length - i) 0 ?_ ?_
  · simp (disch := first | assumption | omega) only [↓RP, RQ, TY, loadT, reduceIte, Nat.reduceEqDiff, Nat.reduceAdd]
    exact ⟨by omega, by omega, rfl⟩
  rintro i e H' ⟨e5, e0, e1, hi, hj, ht, rfl⟩
  by_cases h1 : (i : Int) < xs.length
  · by_cases h2 : (i : Int) < ys.length
    · by_cases g1 : xs.getD i 0 < ys.getD i 0
      · simp (disch := first | assumption | omega) only [↓RP, RQ, TY, loadT, reduceIte, Nat.reduceEqDiff, Nat.reduceAdd, e5, e0, e1, h1, h2, ha.ints, hb.ints, g1]
        exact hQ (-1) ⟨fun q => by omega, fun q => by rw [q] at g1; omega⟩
      by_cases g2 : ys.getD i 0 < xs.getD i 0
      · simp (disch := first | assumption | omega) only [↓RP, RQ, TY, loadT, reduceIte, Nat.reduceEqDiff, Nat.reduceAdd, e5, e0, e1, h1, h2, ha.ints, hb.ints, g1, g2]
        exact hQ 1 ⟨fun q => by omega, fun q => by rw [q] at g2; omega⟩
      simp (disch := first | assumption | omega) only [↓RP, RQ, TY, loadT, reduceIte, Nat.reduceEqDiff, Nat.reduceAdd, e5, e0, e1, h1, h2, ha.ints, hb.ints, g1, g2]
      refine ⟨i + 1, ?_, by dsimp only; omega⟩
      simp (disch := first | assumption | omega) only [↓RP, RQ, TY, loadT, reduceIte, Nat.reduceEqDiff, Nat.reduceAdd, e5, e0, e1]
      refine ⟨by omega, by omega, ?_⟩
      have q1 : i < xs.length := by omega
      have q2 : i < ys.length := by omega
      rw [← take_push 0 q1, ← take_push 0 q2, ht, show xs.getD i 0 = ys.getD i 0 by omega]
    · simp (disch := first | assumption | omega) only [↓RP, RQ, TY, loadT, reduceIte, Nat.reduceEqDiff, Nat.reduceAdd, e5, e0, e1, h1, h2, ha.ints, hb.ints]
      have g1 : ¬ (xs.length : Int) < ys.length := by omega
      have g2 : (ys.length : Int) < xs.length := by omega
      simp (disch := first | assumption | omega) only [↓RP, RQ, TY, loadT, reduceIte, Nat.reduceEqDiff, Nat.reduceAdd, e5, e0, e1, ha.ints, hb.ints, g1, g2]
      exact hQ 1 ⟨fun q => by omega, fun q => by rw [q] at g2; omega⟩
  · by_cases g1 : (xs.length : Int) < ys.length
    · simp (disch := first | assumption | omega) only [↓RP, RQ, TY, loadT, reduceIte, Nat.reduceEqDiff, Nat.reduceAdd, e5, e0, e1, h1, ha.ints, hb.ints, g1]
      exact hQ (-1) ⟨fun q => by omega, fun q => by rw [q] at g1; omega⟩
    have g2 : ¬ (ys.length : Int) < xs.length := by omega
    simp (disch := first | assumption | omega) only [↓RP, RQ, TY, loadT, reduceIte, Nat.reduceEqDiff, Nat.reduceAdd, e5, e0, e1, h1, ha.ints, hb.ints, g1, g2]
    refine hQ 0 ⟨fun _ => ?_, fun _ => rfl⟩
    rw [List.take_of_length_le (by omega), List.take_of_length_le (by omega)] at ht
    exact ht
theorem c_Same {a b : AV} {xs ys : List Int} {H : AH} {Q : AV → AH → Prop} (ha : Ints H a xs) (hb : Ints H b ys) (hla : xs.length ≤ 9223372036854775807) (hlb : ys.length ≤ 9223372036854775807) (hQ : Q (.bool (decide (xs = ys))) H) : AC Try.prog 18 [a, b] H Q := by
  refine at18 (by simp) ?_
  simp (disch := first | assumption | omega) only [↓RP, RQ, TY, loadT, s18, reduceIte, Nat.reduceEqDiff, Nat.reduceAdd]
  refine c_Compare ha hb hla hlb fun c hc => ?_
  by_cases q : xs = ys
  · have c0 : c = 0 := hc.mpr q
    rw [decide_eq_true q] at hQ
    simp (disch := first | assumption | omega) only [↓RP, RQ, TY, loadT, reduceIte, Nat.reduceEqDiff, Nat.reduceAdd, c0]
    exact hQ
  · have c0 : ¬ c = 0 := fun h => q (hc.mp h)
    rw [decide_eq_false q] at hQ
    simp (disch := first | assumption | omega) only [↓RP, RQ, TY, loadT, reduceIte, Nat.reduceEqDiff, Nat.reduceAdd, c0]
    exact hQ
theorem natsI_getDn {l : List Nat} {i : Nat} (h : i < l.length) : (natsI l).getD i 0 = ((l.getD i 0 : Nat) : Int) := by
  simp [natsI, List.getD_eq_getElem?_getD, h]
theorem getD_mem' {l : List Nat} {i : Nat} (h : i < l.length) : l.getD i 0 ∈ l := by
  simp [List.getD_eq_getElem?_getD, h]
theorem c_Greedy48 (A : Alg) {p m n : Int} {md v : AV} {mod : List Int} {us : List AV} {rows : List (List Int)} {H : AH} {Q : AV → AH → Prop} (hm : Ints H md mod) (hv : Rows H v us rows) (h0 : codeErr p m mod n rows = 0)
    (hQ : ∀ w H', Ext H H' → Own H H' w (ints (grL p m mod n rows n.toNat)) → Q w H') : AC Try.prog 19 [codeV p m md n v] H Q := by
  have ca := A.fo.ca h0 hm hv
  have n1 := ca.n1
  have n64 := ca.n64
  have ok := ca.fa.ok
  have els := ca.els
  refine at19 (by simp) ?_
  simp (disch := first | assumption | omega) only [↓RP, RQ, TY, loadT, s19, reduceIte, Nat.reduceEqDiff, Nat.reduceAdd]
  refine kNew_intro fun b H1 hb hE1 hH1 => ?_
  simp (disch := first | assumption | omega) only [↓RP, RQ, TY, loadT, reduceIte, Nat.reduceEqDiff, Nat.reduceAdd]
  refine kNew_intro fun b2 H2 hb2 hE2 hH2 => ?_
  simp (disch := first | assumption | omega) only [↓RP, RQ, TY, loadT, reduceIte, Nat.reduceEqDiff, Nat.reduceAdd]
  have hp2 := ((Hp.nil (Ext.refl H)).new hb hE1 hH1 rfl).new hb2 hE2 hH2 rfl
  refine sw_loop (σ := Nat × AV) (fun s e H' => e 3 = s.2 ∧ e 1 = .ptr b 0 ∧ s.1 ≤ n.toNat ∧ Hp H H' [(s.2, ints (grL p m mod n rows s.1)), (.sl b 0 5 (.own 1), [.int .i64 p, .int .i64 m, md, .int .i64 n, v])]) (fun s => n.toNat - s.1) (0, .sl b2 0 0 (.own 1)) ?_ ?_
  · simp (disch := first | assumption | omega) only [↓RP, RQ, TY, loadT, reduceIte, Nat.reduceEqDiff, Nat.reduceAdd]
    exact ⟨by omega, hp2⟩
  rintro ⟨t, w⟩ e H3 ⟨e3, e1, ht, hp3⟩
  dsimp only at *
  have h3 := (hp3.blkOf (y := (.sl b 0 5 (.own 1), [.int .i64 p, .int .i64 m, md, .int .i64 n, v])) (by simp) rfl).1
  have gok := grL_ok ok n1 els t ht
  have gl := gok.1
  by_cases hlt : (t : Int) < n
  · obtain ⟨x, hx1, hx2⟩ := grL_step ok n1 els (k := t) (by omega)
    have gs : grL p m mod n rows (t + 1) = grL p m mod n rows t ++ [(x : Int)] := by rw [grL, hx2]
    generalize hd : grD p m mod n rows (grL p m mod n rows t) = d at hx2
    generalize hg : grL p m mod n rows t = g at *
    have glt : (g.length : Int) < n := by omega
    simp (disch := first | assumption | omega) only [↓RP, RQ, TY, loadT, reduceIte, Nat.reduceEqDiff, Nat.reduceAdd, e3, e1, h3, hp3.head.sl.ints, glt]
    refine c_Others (by omega) (by omega) hp3.head.sl (by omega) gok.2.1 fun w4 H4 hE4 ho4 => ?_
    have hp4 := hp3.made (H1 := H) hE4 ho4
    have hol := othersN_len (n := n.toNat) (by rw [Int.toNat_of_nonneg (by omega)]; exact gok.2.1) gok.2.2
    have h4 := (hp4.blkOf (y := (.sl b 0 5 (.own 1), [.int .i64 p, .int .i64 m, md, .int .i64 n, v])) (by simp) rfl).1
    have hnl := natsI_length (othersN n.toNat g)
    have hdl : ∀ y, y ∈ othersN n.toNat g → d y < n + 1 := fun y _ => hd ▸ dimP_lt ok n1 els _
    have hne : othersN n.toNat g ≠ [] := fun q => by rw [q] at hol; simp at hol; omega
    have hx3 : (pickB d (othersN n.toNat g) ((natsI (othersN n.toNat g)).getD 0 0, n + 1)).1 = x := by rw [← hx2, pickB_ind hne hdl]
    have hmo : ∀ y, y ∈ othersN n.toNat g → (y : Int) < n ∧ (y : Int) ∉ g := fun y hy => by
      obtain ⟨q1, q2⟩ := mem_others.mp hy
      exact ⟨by omega, q2⟩
    generalize hO : othersN n.toNat g = O at *
    have hO0 : (0 : Int) < (natsI O).length := by omega
    simp (disch := first | assumption | omega) only [↓RP, RQ, TY, loadT, reduceIte, Nat.reduceEqDiff, Nat.reduceAdd, e3, e1, h4, ho4.sl.ints]
    refine sw_loop (σ := Nat × Int × Int) (fun s e H' => e 7 = .int .i64 s.1 ∧ e 5 = .int .i64 s.2.1 ∧ e 6 = .int .i64 s.2.2 ∧ e 4 = w4 ∧ e 3 = w ∧ e 1 = .ptr b 0 ∧ s.1 ≤ O.length ∧ Ext H4 H' ∧ s.2 = pickB d (O.take s.1) ((natsI O).getD 0 0, n + 1)) (fun s => O.length - s.1) (0, (natsI O).getD 0 0, n + 1) ?_ ?_
    · simp (disch := first | assumption | omega) only [↓RP, RQ, TY, loadT, reduceIte, Nat.reduceEqDiff, Nat.reduceAdd, e3, e1]
      exact ⟨rfl, by omega, Ext.refl _, rfl⟩
    rintro ⟨i, bst, lst⟩ e' H5 ⟨g7, g5, g6, g4, g3, g1, hi, hE5, hs⟩
    dsimp only at *
    have hp5 := hp4.more hE5
    have h5 := hE5.rw h4
    have s4 := (hp5.sl (y := (w4, ints (natsI O))) (by simp))
    have s3 := (hp5.sl (y := (w, ints g)) (by simp))
    by_cases hin : (i : Int) < O.length
    · have hin2 : (i : Int) < (natsI O).length := by omega
      have hgd := natsI_getDn (l := O) (i := i) (by omega)
      obtain ⟨y, hy⟩ : ∃ y, O.getD i 0 = y := ⟨_, rfl⟩
      have hym : y ∈ O := hy ▸ getD_mem' (by omega)
      obtain ⟨y1, y2⟩ := hmo y hym
      rw [hy] at hgd
      simp (disch := first | assumption | omega) only [↓RP, RQ, TY, loadT, reduceIte, Nat.reduceEqDiff, Nat.reduceAdd, g7, g5, g6, g4, g3, g1, hin2, h5, s4.ints, hgd]
      refine kNew_intro fun b6 H6 hb6 hE6 hH6 => ?_
      simp (disch := first | assumption | omega) only [↓RP, RQ, TY, loadT, reduceIte, Nat.reduceEqDiff, Nat.reduceAdd, g7, g5, g6, g4, g3, g1]
      refine kApp_hp (us := ints g) ((Hp.nil (Ext.refl H5)).new hb6 hE6 hH6 rfl) (s3.ext hE6) ints_ones (by simp [ints_length]; omega) (by simp [ints_length]; omega) fun v7 H7 hp7 => ?_
      rw [List.nil_append] at hp7
      simp (disch := first | assumption | omega) only [↓RP, RQ, TY, loadT, reduceIte, Nat.reduceEqDiff, Nat.reduceAdd, g7, g5, g6, g4, g3, g1, (s4.ext hp7.ext).ints, hp7.ext.rw h5, hgd, hin2]
      refine kNew_intro fun b8 H8 hb8 hE8 hH8 => ?_
      simp (disch := first | assumption | omega) only [↓RP, RQ, TY, loadT, reduceIte, Nat.reduceEqDiff, Nat.reduceAdd, g7, g5, g6, g4, g3, g1]
      refine kApp_hp (us := ints [(y : Int)]) (hp7.more hE8) (Sl.own hH8 rfl) ints_ones (by rw [ints_length, ints_length, List.length_singleton]; omega) (by rw [ints_length, ints_length, List.length_singleton]; omega) fun v9 H9 hp9 => ?_
      rw [ints_app] at hp9
      have hE9 := hp5.ext.trans hp9.ext
      have hpo : Poss n (g ++ [(y : Int)]) := poss_mem.mpr fun z hz => by
        rcases List.mem_append.mp hz with q | q
        · exact poss_mem.mp gok.2.1 z q
        · simp at q; omega
      have hyv : dimS p m mod n rows (g ++ [(y : Int)]) = d y := by
        rw [dimS_eq ok (by omega) els hpo (nodup_push gok.2.2 y2), ← hd]; rfl
      simp (disch := first | assumption | omega) only [↓RP, RQ, TY, loadT, reduceIte, Nat.reduceEqDiff, Nat.reduceAdd, g7, g5, g6, g4, g3, g1, (s4.ext hp9.ext).ints, hp9.ext.rw h5, hgd, hin2]
      refine c_Of (A.fo.ca h0 (hm.ext hE9) (hv.ext hE9)) hp9.head.sl hpo (by rw [List.length_append, List.length_singleton]; omega) fun H10 hE10 => ?_
      rw [hyv]
      have hE510 : Ext H4 H10 := (hE5.trans hp9.ext).trans hE10
      have s4 := s4.ext (hp9.ext.trans hE10)
      by_cases hc2 : d y < lst
      · simp (disch := first | assumption | omega) only [↓RP, RQ, TY, loadT, reduceIte, Nat.reduceEqDiff, Nat.reduceAdd, g7, g5, g6, g4, g3, g1, hc2, s4.ints, hin2, hgd]
        refine ⟨(i + 1, (y : Int), d y), ?_, by dsimp only; omega⟩
        simp (disch := first | assumption | omega) only [↓RP, RQ, TY, loadT, reduceIte, Nat.reduceEqDiff, Nat.reduceAdd, g7, g5, g6, g4, g3, g1]
        refine ⟨by omega, hE510, ?_⟩
        rw [← take_push (l := O) (i := i) 0 (by omega), hy, pickB_app, ← hs, pickB_one, if_pos hc2]
      · simp (disch := first | assumption | omega) only [↓RP, RQ, TY, loadT, reduceIte, Nat.reduceEqDiff, Nat.reduceAdd, g7, g5, g6, g4, g3, g1, hc2]
        refine ⟨(i + 1, bst, lst), ?_, by dsimp only; omega⟩
        simp (disch := first | assumption | omega) only [↓RP, RQ, TY, loadT, reduceIte, Nat.reduceEqDiff, Nat.reduceAdd, g7, g5, g6, g4, g3, g1]
        refine ⟨by omega, hE510, ?_⟩
        rw [← take_push (l := O) (i := i) 0 (by omega), hy, pickB_app, ← hs, pickB_one, if_neg hc2]
    · have hin2 : ¬ (i : Int) < (natsI O).length := by omega
      rw [List.take_of_length_le (by omega)] at hs
      have hbx : bst = x := by rw [← hx3, ← hs]
      rw [hbx] at g5
      simp (disch := first | assumption | omega) only [↓RP, RQ, TY, loadT, reduceIte, Nat.reduceEqDiff, Nat.reduceAdd, g7, g5, g6, g4, g3, g1, hin2, s4.ints]
      refine kNew_intro fun b6 H6 hb6 hE6 hH6 => ?_
      simp (disch := first | assumption | omega) only [↓RP, RQ, TY, loadT, reduceIte, Nat.reduceEqDiff, Nat.reduceAdd, g7, g5, g6, g4, g3, g1]
      refine kApp_hp (us := ints [(x : Int)]) ((hp5.tail).more hE6) (Sl.own hH6 rfl) ints_ones (by rw [ints_length, ints_length, List.length_singleton]; omega) (by rw [ints_length, ints_length, List.length_singleton]; omega) fun v7 H7 hp7 => ?_
      rw [ints_app, ← gs] at hp7
      simp (disch := first | assumption | omega) only [↓RP, RQ, TY, loadT, reduceIte, Nat.reduceEqDiff, Nat.reduceAdd, g7, g5, g6, g4, g3, g1]
      refine ⟨(t + 1, v7), ?_, by dsimp only; omega⟩
      simp (disch := first | assumption | omega) only [↓RP, RQ, TY, loadT, reduceIte, Nat.reduceEqDiff, Nat.reduceAdd, g7, g5, g6, g4, g3, g1]
      exact ⟨by omega, hp7⟩
  · rw [show t = n.toNat by omega] at hp3
    have glt : ¬ (((grL p m mod n rows n.toNat).length : Nat) : Int) < n := by rw [(grL_ok ok n1 els n.toNat (Nat.le_refl _)).1]; omega
    simp (disch := first | assumption | omega) only [↓RP, RQ, TY, loadT, reduceIte, Nat.reduceEqDiff, Nat.reduceAdd, e3, e1, h3, glt, hp3.head.sl.ints]
    exact hQ w H3 hp3.ext hp3.head
end Go.Proofs.Yteijojnahpeglaa.AM
/-! The program's orderings, fourth part: ordered, width, Width; the reference's IsOrder, Order, Width. -/
namespace Go.Proofs.Yteijojnahpeglaa.AM
open Go Go.RowKit
set_option linter.unusedVariables false
set_option linter.unusedSimpArgs false
set_option maxRecDepth 20000
/-- each position once -/
def IsOrd (n : Int) (order : List Int) : Prop := (order.length : Int) = n ∧ Poss n order ∧ order.Nodup
open Classical in
noncomputable def ordErr (p m : Int) (mod : List Int) (n : Int) (rows : List (List Int)) (order : List Int) : Int := if codeErr p m mod n rows ≠ 0 then codeErr p m mod n rows else if IsOrd n order then 0 else 5
/-- what both loops know of the entries so far -/
def SeenB (n : Int) (order : List Int) (i : Nat) (L : List Bool) : Prop := L.length = n.toNat ∧ (∀ j, j < n.toNat → (L.getD j false = true ↔ (j : Int) ∈ order.take i)) ∧ Poss n (order.take i) ∧ (order.take i).Nodup
theorem SeenB.zero {n : Int} {order : List Int} : SeenB n order 0 (List.replicate n.toNat false) := by
  refine ⟨by simp, fun j hj => ?_, fun i hi => by simp at hi, by simp⟩
  simp [List.getD_eq_getElem?_getD, hj]
theorem SeenB.bad {n : Int} {order : List Int} {i : Nat} {L : List Bool} (h : SeenB n order i L) (hi : i < order.length) (hb : order.getD i 0 < 0 ∨ n ≤ order.getD i 0 ∨ L.getD (order.getD i 0).toNat false = true) : ¬ IsOrd n order := by
  rintro ⟨-, q2, q3⟩
  have q := q2 i hi
  rcases hb with b | b | b
  · omega
  · omega
  · have w := (h.2.1 _ (by omega)).mp b
    rw [Int.toNat_of_nonneg q.1] at w
    have e := take_push (l := order) (i := i) 0 hi
    have nd : (order.take (i + 1)).Nodup := List.Nodup.sublist (List.take_sublist _ _) q3
    rw [← e, List.nodup_append] at nd
    exact nd.2.2 _ w _ (by simp) rfl
theorem SeenB.step {n : Int} {order : List Int} {i : Nat} {L : List Bool} (h : SeenB n order i L) (hi : i < order.length) (h0 : 0 ≤ order.getD i 0) (h1 : order.getD i 0 < n) (h2 : L.getD (order.getD i 0).toNat false = false) : SeenB n order (i + 1) (L.set (order.getD i 0).toNat true) := by
  obtain ⟨s1, s2, s3, s4⟩ := h
  have nm : order.getD i 0 ∉ order.take i := fun q => by
    have := (s2 (order.getD i 0).toNat (by omega)).mpr (by rwa [Int.toNat_of_nonneg h0])
    rw [h2] at this
    cases this
  have e := take_push (l := order) (i := i) 0 hi
  refine ⟨by simpa using s1, fun j hj => ?_, ?_, ?_⟩
  · rw [mem_take_succ hi, getD_setN, ← s2 j hj]
    by_cases hjs : j = (order.getD i 0).toNat
    · rw [if_pos ⟨hjs, by omega⟩]
      exact ⟨fun _ => .inr (by omega), fun _ => rfl⟩
    · rw [if_neg (fun q => hjs q.1)]
      constructor
      · exact .inl
      · rintro (q | q)
        · exact q
        · omega
  · rw [← e]
    refine poss_mem.mpr fun y hy => ?_
    rcases List.mem_append.mp hy with q | q
    · exact poss_mem.mp s3 y q
    · simp only [List.mem_singleton] at q; omega
  · rw [← e]
    exact nodup_push s4 nm
theorem SeenB.done {n : Int} {order : List Int} {L : List Bool} {i : Nat} (hl : (order.length : Int) = n) (hi : order.length ≤ i) (h : SeenB n order i L) : IsOrd n order := by
  obtain ⟨s1, s2, s3, s4⟩ := h
  rw [List.take_of_length_le hi] at s3 s4
  exact ⟨hl, s3, s4⟩
theorem c_ordered (A : Alg) {p m n : Int} {md v sv : AV} {mod set : List Int} {us : List AV} {rows : List (List Int)} {H : AH} {Q : AV → AH → Prop} (hm : Ints H md mod) (hlm : mod.length ≤ 9223372036854775807) (hv : Rows H v us rows) (hs : Ints H sv set) (hl : rows.length ≤ 9223372036854775807) (hlr : ∀ i, i < rows.length → (rowAt rows i).length ≤ 9223372036854775807) (hls : set.length ≤ 9223372036854775807)
    (hQ : ∀ H', Ext H H' → Q (.int .i64 (ordErr p m mod n rows set)) H') : AC Try.prog 35 [codeV p m md n v, sv] H Q := by
  refine at35 (by simp) ?_
  simp (disch := first | assumption | omega) only [↓RP, RQ, TY, loadT, s35, reduceIte, Nat.reduceEqDiff, Nat.reduceAdd]
  refine kNew_intro fun b H1 hb hE1 hH1 => ?_
  simp (disch := first | assumption | omega) only [↓RP, RQ, TY, loadT, reduceIte, Nat.reduceEqDiff, Nat.reduceAdd, hH1]
  refine c_cCheck A (hm.ext hE1) hlm (hv.ext hE1) hl hlr fun H2 hE2 => ?_
  have hE12 := hE1.trans hE2
  have h2 := hE2.rw hH1
  by_cases h0 : codeErr p m mod n rows = 0
  rotate_left
  · simp (disch := first | assumption | omega) only [↓RP, RQ, TY, loadT, reduceIte, Nat.reduceEqDiff, Nat.reduceAdd, eq_false h0]
    have := hQ H2 hE12
    rwa [ordErr, if_pos h0] at this
  have ca := A.fo.ca h0 (hm.ext hE12) (hv.ext hE12)
  have n1 := ca.n1
  have n64 := ca.n64
  have hs2 := hs.ext hE12
  have no : ¬ IsOrd n set → ∀ H3, Ext H H3 → Q (.int .i64 5) H3 := fun h H3 hE3 => by
    have := hQ H3 hE3
    rwa [ordErr, if_neg (by simpa using h0), if_neg h] at this
  by_cases hlen : (set.length : Int) = n
  rotate_left
  · simp (disch := first | assumption | omega) only [↓RP, RQ, TY, loadT, reduceIte, Nat.reduceEqDiff, Nat.reduceAdd, eq_true h0, h2, hs2.ints, hlen]
    exact no (fun q => hlen q.1) _ hE12
  simp (disch := first | assumption | omega) only [↓RP, RQ, TY, loadT, reduceIte, Nat.reduceEqDiff, Nat.reduceAdd, eq_true h0, h2, hs2.ints, hlen]
  refine kNew_intro fun b4 H4 hb4 hE4 hH4 => ?_
  rw [bools_repl] at hH4
  have hp4 := (((Hp.nil (Ext.refl H)).new hb hE1 hH1 rfl).more hE2).new (n := n.toNat) hb4 hE4 hH4 (by simp [bools_length])
  have hs4 := hs2.ext hE4
  simp (disch := first | assumption | omega) only [↓RP, RQ, TY, loadT, reduceIte, Nat.reduceEqDiff, Nat.reduceAdd, hs4.ints, hlen]
  refine sw_loop (σ := Nat × List Bool) (fun s e H' => e 24 = .int .i64 s.1 ∧ e 23 = .int .i64 n ∧ e 22 = sv ∧ e 6 = .sl b4 0 n.toNat (.own 1) ∧ e 2 = .ptr b 0 ∧ s.1 ≤ set.length ∧ Hp H H' [(.sl b4 0 n.toNat (.own 1), bools s.2), (.sl b 0 5 (.own 1), [.int .i64 p, .int .i64 m, md, .int .i64 n, v])] ∧ SeenB n set s.1 s.2) (fun s => set.length - s.1) (0, List.replicate n.toNat false) ?_ ?_
  · simp (disch := first | assumption | omega) only [↓RP, RQ, TY, loadT, reduceIte, Nat.reduceEqDiff, Nat.reduceAdd]
    exact ⟨by omega, hp4, SeenB.zero⟩
  rintro ⟨i, L⟩ e H' ⟨e24, e23, e22, e6, e2, hi, hp, hseen⟩
  dsimp only at *
  have hs5 := hs.ext hp.ext
  have h5 := (hp.blkOf (y := (.sl b 0 5 (.own 1), [.int .i64 p, .int .i64 m, md, .int .i64 n, v])) (by simp) rfl).1
  have hL5 := (hp.blkOf (y := (.sl b4 0 n.toNat (.own 1), bools L)) (by simp) rfl).1
  by_cases hlt : (i : Int) < n
  · have hi' : i < set.length := by omega
    by_cases c1 : set.getD i 0 < 0
    · simp (disch := first | assumption | omega) only [↓RP, RQ, TY, loadT, reduceIte, Nat.reduceEqDiff, Nat.reduceAdd, e24, e23, e22, e6, e2, hlt, hs5.ints, h5, c1]
      exact no (hseen.bad hi' (.inl c1)) _ hp.ext
    by_cases c2 : n ≤ set.getD i 0
    · simp (disch := first | assumption | omega) only [↓RP, RQ, TY, loadT, reduceIte, Nat.reduceEqDiff, Nat.reduceAdd, e24, e23, e22, e6, e2, hlt, hs5.ints, h5, c1, c2]
      exact no (hseen.bad hi' (.inr (.inl c2))) _ hp.ext
    have hbl := bools_length L
    have hLl := hseen.1
    cases c3 : L.getD (set.getD i 0).toNat false
    · simp (disch := first | assumption | omega) only [↓RP, RQ, TY, loadT, reduceIte, Nat.reduceEqDiff, Nat.reduceAdd, e24, e23, e22, e6, e2, hlt, hs5.ints, h5, c1, c2, hL5, bools_get, c3, bools_set]
      refine ⟨(i + 1, L.set (set.getD i 0).toNat true), ?_, by dsimp only; omega⟩
      simp (disch := first | assumption | omega) only [↓RP, RQ, TY, loadT, reduceIte, Nat.reduceEqDiff, Nat.reduceAdd, e24, e23, e22, e6, e2]
      exact ⟨by omega, hp.upd (by simp [bools_length]), hseen.step hi' (by omega) (by omega) c3⟩
    · simp (disch := first | assumption | omega) only [↓RP, RQ, TY, loadT, reduceIte, Nat.reduceEqDiff, Nat.reduceAdd, e24, e23, e22, e6, e2, hlt, hs5.ints, h5, c1, c2, hL5, bools_get, c3]
      exact no (hseen.bad hi' (.inr (.inr c3))) _ hp.ext
  · simp (disch := first | assumption | omega) only [↓RP, RQ, TY, loadT, reduceIte, Nat.reduceEqDiff, Nat.reduceAdd, e24, e23, e22, e6, e2, hlt]
    have := hQ H' hp.ext
    rwa [ordErr, if_neg (by simpa using h0), if_pos (SeenB.done hlen (by omega) hseen)] at this
theorem c_IsOrder {n : Int} {v : AV} {set : List Int} {H : AH} {Q : AV → AH → Prop} (hn : 0 ≤ n) (hn' : n ≤ 1000) (hs : Ints H v set) (hls : set.length ≤ 9223372036854775807) (hQ : ∀ H', Ext H H' → ∀ w : Bool, (w = true ↔ IsOrd n set) → Q (.bool w) H') : AC Try.prog 39 [.int .i64 n, v] H Q := by
  refine at39 (by simp) ?_
  simp (disch := first | assumption | omega) only [↓RP, RQ, TY, loadT, s39, reduceIte, Nat.reduceEqDiff, Nat.reduceAdd]
  have no : ¬ IsOrd n set → ∀ H3, Ext H H3 → Q (.bool false) H3 := fun h H3 hE3 => hQ H3 hE3 false ⟨fun q => (by cases q), fun q => absurd q h⟩
  by_cases hlen : (set.length : Int) = n
  rotate_left
  · simp (disch := first | assumption | omega) only [↓RP, RQ, TY, loadT, reduceIte, Nat.reduceEqDiff, Nat.reduceAdd, hs.ints, hlen]
    exact no (fun q => hlen q.1) _ (Ext.refl H)
  simp (disch := first | assumption | omega) only [↓RP, RQ, TY, loadT, reduceIte, Nat.reduceEqDiff, Nat.reduceAdd, hs.ints, hlen]
  refine kNew_intro fun b4 H4 hb4 hE4 hH4 => ?_
  rw [bools_repl] at hH4
  have hp4 := (Hp.nil (Ext.refl H)).new (n := n.toNat) hb4 hE4 hH4 (by simp [bools_length])
  simp (disch := first | assumption | omega) only [↓RP, RQ, TY, loadT, reduceIte, Nat.reduceEqDiff, Nat.reduceAdd]
  refine sw_loop (σ := Nat × List Bool) (fun s e H' => e 6 = .int .i64 s.1 ∧ e 0 = .int .i64 n ∧ e 1 = v ∧ e 5 = .sl b4 0 n.toNat (.own 1) ∧ s.1 ≤ set.length ∧ Hp H H' [(.sl b4 0 n.toNat (.own 1), bools s.2)] ∧ SeenB n set s.1 s.2) (fun s => set.length - s.1) (0, List.replicate n.toNat false) ?_ ?_
  · simp (disch := first | assumption | omega) only [↓RP, RQ, TY, loadT, reduceIte, Nat.reduceEqDiff, Nat.reduceAdd]
    exact ⟨by omega, hp4, SeenB.zero⟩
  rintro ⟨i, L⟩ e H' ⟨e6, e0, e1, e5, hi, hp, hseen⟩
  dsimp only at *
  have hs5 := hs.ext hp.ext
  have hL5 := (hp.blkOf (y := (.sl b4 0 n.toNat (.own 1), bools L)) (by simp) rfl).1
  by_cases hlt : (i : Int) < n
  · have hi' : i < set.length := by omega
    by_cases c1 : set.getD i 0 < 0
    · simp (disch := first | assumption | omega) only [↓RP, RQ, TY, loadT, reduceIte, Nat.reduceEqDiff, Nat.reduceAdd, e6, e0, e1, e5, hlt, hs5.ints, c1]
      exact no (hseen.bad hi' (.inl c1)) _ hp.ext
    by_cases c2 : n ≤ set.getD i 0
    · simp (disch := first | assumption | omega) only [↓RP, RQ, TY, loadT, reduceIte, Nat.reduceEqDiff, Nat.reduceAdd, e6, e0, e1, e5, hlt, hs5.ints, c1, c2]
      exact no (hseen.bad hi' (.inr (.inl c2))) _ hp.ext
    have hbl := bools_length L
    have hLl := hseen.1
    cases c3 : L.getD (set.getD i 0).toNat false
    · simp (disch := first | assumption | omega) only [↓RP, RQ, TY, loadT, reduceIte, Nat.reduceEqDiff, Nat.reduceAdd, e6, e0, e1, e5, hlt, hs5.ints, c1, c2, hL5, bools_get, c3, bools_set]
      refine ⟨(i + 1, L.set (set.getD i 0).toNat true), ?_, by dsimp only; omega⟩
      simp (disch := first | assumption | omega) only [↓RP, RQ, TY, loadT, reduceIte, Nat.reduceEqDiff, Nat.reduceAdd, e6, e0, e1, e5]
      exact ⟨by omega, hp.upd (by simp [bools_length]), hseen.step hi' (by omega) (by omega) c3⟩
    · simp (disch := first | assumption | omega) only [↓RP, RQ, TY, loadT, reduceIte, Nat.reduceEqDiff, Nat.reduceAdd, e6, e0, e1, e5, hlt, hs5.ints, c1, c2, hL5, bools_get, c3]
      exact no (hseen.bad hi' (.inr (.inr c3))) _ hp.ext
  · simp (disch := first | assumption | omega) only [↓RP, RQ, TY, loadT, reduceIte, Nat.reduceEqDiff, Nat.reduceAdd, e6, e0, e1, e5, hlt]
    exact hQ H' hp.ext true ⟨fun _ => SeenB.done hlen (by omega) hseen, fun _ => rfl⟩
theorem c_Order48 (A : Alg) {p m n : Int} {md v sv : AV} {mod set : List Int} {us : List AV} {rows : List (List Int)} {H : AH} {Q : AV → AH → Prop} (hm : Ints H md mod) (hv : Rows H v us rows) (hs : Ints H sv set) (hl : rows.length ≤ 9223372036854775807) (hlr : ∀ i, i < rows.length → (rowAt rows i).length ≤ 9223372036854775807) (hls : set.length ≤ 9223372036854775807)
    (hQ : ∀ H', Ext H H' → Q (.int .i64 (ordErr p m mod n rows set)) H') : AC Try.prog 23 [codeV p m md n v, sv] H Q := by
  refine at23 (by simp) ?_
  simp (disch := first | assumption | omega) only [↓RP, RQ, TY, loadT, s23, reduceIte, Nat.reduceEqDiff, Nat.reduceAdd]
  refine kNew_intro fun b H1 hb hE1 hH1 => ?_
  simp (disch := first | assumption | omega) only [↓RP, RQ, TY, loadT, reduceIte, Nat.reduceEqDiff, Nat.reduceAdd, hH1]
  refine c_Check12 A.fo (hm.ext hE1) (hv.ext hE1) hl hlr fun H2 hE2 => ?_
  have hE12 := hE1.trans hE2
  have h2 := hE2.rw hH1
  by_cases h0 : codeErr p m mod n rows = 0
  rotate_left
  · simp (disch := first | assumption | omega) only [↓RP, RQ, TY, loadT, reduceIte, Nat.reduceEqDiff, Nat.reduceAdd, eq_false h0]
    have := hQ H2 hE12
    rwa [ordErr, if_pos h0] at this
  have ca := A.fo.ca h0 (hm.ext hE12) (hv.ext hE12)
  have n1 := ca.n1
  have n64 := ca.n64
  simp (disch := first | assumption | omega) only [↓RP, RQ, TY, loadT, reduceIte, Nat.reduceEqDiff, Nat.reduceAdd, eq_true h0, h2]
  refine c_IsOrder (by omega) (by omega) (hs.ext hE12) hls fun H3 hE3 w hw => ?_
  have := hQ H3 (hE12.trans hE3)
  cases w
  · simp (disch := first | assumption | omega) only [↓RP, RQ, TY, loadT, reduceIte, Nat.reduceEqDiff, Nat.reduceAdd, eq_true h0]
    rwa [ordErr, if_neg (by simpa using h0), if_neg (fun q => by have := hw.mpr q; cases this)] at this
  · simp (disch := first | assumption | omega) only [↓RP, RQ, TY, loadT, reduceIte, Nat.reduceEqDiff, Nat.reduceAdd, eq_true h0]
    rw [ordErr, if_neg (by simpa using h0), if_pos (hw.mp rfl)] at this
    rw [h0]
    exact this
end Go.Proofs.Yteijojnahpeglaa.AM
/-! The widths of an order: the program's width and Width, the reference's Width. -/
namespace Go.Proofs.Yteijojnahpeglaa.AM
open Go Go.RowKit
set_option linter.unusedVariables false
set_option linter.unusedSimpArgs false
set_option maxRecDepth 20000
/-- the width of an order's beginnings up to one -/
noncomputable def widL (p m : Int) (mod : List Int) (n : Int) (rows : List (List Int)) (order : List Int) : Nat → Int
  | 0 => 0
  | k + 1 => max (widL p m mod n rows order k) (dimP p m mod n rows (inL (order.take (k + 1))))
open Classical in
noncomputable def widVal (p m : Int) (mod : List Int) (n : Int) (rows : List (List Int)) (order : List Int) : Int := if ordErr p m mod n rows order = 0 then widL p m mod n rows order order.length else 0
theorem ordErr_iff {p m n : Int} {mod set : List Int} {rows : List (List Int)} : ordErr p m mod n rows set = 0 ↔ codeErr p m mod n rows = 0 ∧ IsOrd n set := by
  constructor
  · intro h
    rw [ordErr] at h
    split at h
    · contradiction
    · rename_i q
      split at h
      · rename_i w; exact ⟨by simpa using q, w⟩
      · cases h
  · rintro ⟨h1, h2⟩
    rw [ordErr, if_neg (by simpa using h1), if_pos h2]
theorem IsOrd.take {n : Int} {order : List Int} (h : IsOrd n order) (i : Nat) : Poss n (order.take i) ∧ (order.take i).Nodup := ⟨poss_mem.mpr fun y hy => poss_mem.mp h.2.1 y (List.mem_of_mem_take hy), List.Nodup.sublist (List.take_sublist _ _) h.2.2⟩
theorem widL_bd {p m : Int} {mod : List Int} (h : (fF p m mod).Ok) {n : Int} (hn : 1 ≤ n) {rows : List (List Int)} (he : Els (fF p m mod) rows) (order : List Int) : ∀ k, 0 ≤ widL p m mod n rows order k ∧ widL p m mod n rows order k ≤ n
  | 0 => ⟨by rw [widL]; omega, by rw [widL]; omega⟩
  | k + 1 => by
    obtain ⟨h1, h2⟩ := widL_bd h hn he order k
    have := dimP_lt h hn he (inL (order.take (k + 1)))
    rw [widL]
    omega
theorem dimP_empty {p m : Int} {mod : List Int} (h : (fF p m mod).Ok) {n : Int} {rows : List (List Int)} (he : Els (fF p m mod) rows) : dimP p m mod n rows (inL []) ≤ 0 := by
  letI := h.fd
  have a1 := (clo (colV h rows)).R_le n.toNat (inL [])
  have a2 := R_le_rows h (n := n.toNat) he (fun i => !inL [] i)
  have e : (List.range n.toNat).filter (inL []) = [] := List.filter_eq_nil_iff.mpr fun a _ => by simp [inL]
  rw [e, List.length_nil] at a1
  rw [dimP, rankP_R h he, rankP_R h he]
  omega
theorem c_owidth (A : Alg) {p m n : Int} {md v sv : AV} {mod set : List Int} {us : List AV} {rows : List (List Int)} {H : AH} {Q : AV → AH → Prop} (hm : Ints H md mod) (hlm : mod.length ≤ 9223372036854775807) (hv : Rows H v us rows) (hs : Ints H sv set) (h0 : codeErr p m mod n rows = 0) (ho : IsOrd n set)
    (hQ : ∀ H', Ext H H' → Q (.int .i64 (widL p m mod n rows set set.length)) H') : AC Try.prog 38 [codeV p m md n v, sv] H Q := by
  have ca := A.fo.ca h0 hm hv
  have n1 := ca.n1
  have n64 := ca.n64
  have ok := ca.fa.ok
  have els := ca.els
  have hl := ho.1
  refine at38 (by simp) ?_
  simp (disch := first | assumption | omega) only [↓RP, RQ, TY, loadT, s38, reduceIte, Nat.reduceEqDiff, Nat.reduceAdd]
  refine kNew_intro fun b H1 hb hE1 hH1 => ?_
  have hs1 := hs.ext hE1
  simp (disch := first | assumption | omega) only [↓RP, RQ, TY, loadT, reduceIte, Nat.reduceEqDiff, Nat.reduceAdd, hs1.ints]
  refine sw_loop (σ := Nat × Nat) (fun s e H' => e 11 = .int .i64 s.1 ∧ e 10 = .int .i64 set.length ∧ e 9 = sv ∧ e 2 = .ptr b 0 ∧ e 6 = .int .i64 (widL p m mod n rows set s.1) ∧ e 5 = .int .u64 (s.2 : Nat) ∧ s.1 ≤ set.length ∧ s.2 < 18446744073709551616 ∧ s.2.testBit = inL (set.take s.1) ∧ Ext H1 H') (fun s => set.length - s.1) (0, 0) ?_ ?_
  · simp (disch := first | assumption | omega) only [↓RP, RQ, TY, loadT, reduceIte, Nat.reduceEqDiff, Nat.reduceAdd]
    exact ⟨rfl, by omega, by omega, funext fun i => by simp [inL], Ext.refl _⟩
  rintro ⟨t, k⟩ e H2 ⟨e11, e10, e9, e2, e6, e5, ht, hk, hbit, hE2⟩
  dsimp only at *
  have hE12 := hE1.trans hE2
  have h2 := hE2.rw hH1
  have hs2 := hs1.ext hE2
  by_cases hlt : (t : Int) < set.length
  · have hp := ho.2.1 t (by omega)
    obtain ⟨x, hx⟩ : ∃ x : Nat, set.getD t 0 = x := ⟨(set.getD t 0).toNat, by omega⟩
    obtain ⟨o1, o2⟩ := bit_or (k := k) (x := x) hk (by omega)
    have xlt : x < 64 := by omega
    have htk := take_push (l := set) (i := t) 0 (by omega)
    rw [hx] at htk
    have htb : (k ||| 2 ^ x).testBit = inL (set.take (t + 1)) := by rw [← htk]; exact testBit_push hbit
    simp (disch := first | assumption | omega) only [↓RP, RQ, TY, loadT, reduceIte, Nat.reduceEqDiff, Nat.reduceAdd, e11, e10, e9, e2, e6, e5, hlt, hs2.ints, h2, hx, o1]
    refine c_odim A (hm.ext hE12) hlm (hv.ext hE12) h0 o2 fun H3 hE3 => ?_
    have hde : (rankP p m mod n rows (k ||| 2 ^ x).testBit : Int) + rankP p m mod n rows (fun j => !(k ||| 2 ^ x).testBit j) - rows.length = dimP p m mod n rows (inL (set.take (t + 1))) := by
      rw [htb]; rfl
    rw [hde]
    simp (disch := first | assumption | omega) only [↓RP, RQ, TY, loadT, reduceIte, Nat.reduceEqDiff, Nat.reduceAdd, e11, e10, e9, e2, e6, e5]
    refine ⟨(t + 1, k ||| 2 ^ x), ?_, by dsimp only; omega⟩
    simp (disch := first | assumption | omega) only [↓RP, RQ, TY, loadT, reduceIte, Nat.reduceEqDiff, Nat.reduceAdd, e11, e10, e9, e2, e6, e5]
    exact ⟨by rw [widL]; congr 1; split <;> omega, by omega, o2, htb, hE2.trans hE3⟩
  · rw [show t = set.length by omega] at e6
    simp (disch := first | assumption | omega) only [↓RP, RQ, TY, loadT, reduceIte, Nat.reduceEqDiff, Nat.reduceAdd, e11, e10, e9, e2, e6, e5, hlt]
    exact hQ H2 hE12
theorem c_OWidth (A : Alg) {p m n : Int} {md v sv : AV} {mod set : List Int} {us : List AV} {rows : List (List Int)} {H : AH} {Q : AV → AH → Prop} (hm : Ints H md mod) (hlm : mod.length ≤ 9223372036854775807) (hv : Rows H v us rows) (hs : Ints H sv set) (hl : rows.length ≤ 9223372036854775807) (hlr : ∀ i, i < rows.length → (rowAt rows i).length ≤ 9223372036854775807) (hls : set.length ≤ 9223372036854775807)
    (hQ : ∀ H', Ext H H' → Q (.tup [.int .i64 (widVal p m mod n rows set), .int .i64 (ordErr p m mod n rows set)]) H') : AC Try.prog 24 [codeV p m md n v, sv] H Q := by
  refine at24 (by simp) ?_
  simp (disch := first | assumption | omega) only [↓RP, RQ, TY, loadT, s24, reduceIte, Nat.reduceEqDiff, Nat.reduceAdd]
  refine kNew_intro fun b H1 hb hE1 hH1 => ?_
  simp (disch := first | assumption | omega) only [↓RP, RQ, TY, loadT, reduceIte, Nat.reduceEqDiff, Nat.reduceAdd, hH1]
  refine c_ordered A (hm.ext hE1) hlm (hv.ext hE1) (hs.ext hE1) hl hlr hls fun H2 hE2 => ?_
  have hE12 := hE1.trans hE2
  have h2 := hE2.rw hH1
  by_cases h0 : ordErr p m mod n rows set = 0
  · obtain ⟨q1, q2⟩ := ordErr_iff.mp h0
    simp (disch := first | assumption | omega) only [↓RP, RQ, TY, loadT, reduceIte, Nat.reduceEqDiff, Nat.reduceAdd, eq_true h0, h0, h2]
    refine c_owidth A (hm.ext hE12) hlm (hv.ext hE12) (hs.ext hE12) q1 q2 fun H3 hE3 => ?_
    simp (disch := first | assumption | omega) only [↓RP, RQ, TY, loadT, reduceIte, Nat.reduceEqDiff, Nat.reduceAdd]
    have := hQ H3 (hE12.trans hE3)
    rwa [widVal, if_pos h0, h0] at this
  · simp (disch := first | assumption | omega) only [↓RP, RQ, TY, loadT, reduceIte, Nat.reduceEqDiff, Nat.reduceAdd, eq_false h0]
    have := hQ H2 hE12
    rwa [widVal, if_neg h0] at this
theorem c_Width48 (A : Alg) {p m n : Int} {md v sv : AV} {mod set : List Int} {us : List AV} {rows : List (List Int)} {H : AH} {Q : AV → AH → Prop} (hm : Ints H md mod) (hv : Rows H v us rows) (hs : Ints H sv set) (hl : rows.length ≤ 9223372036854775807) (hlr : ∀ i, i < rows.length → (rowAt rows i).length ≤ 9223372036854775807) (hls : set.length ≤ 9223372036854775807)
    (hQ : ∀ H', Ext H H' → Q (.tup [.int .i64 (widVal p m mod n rows set), .int .i64 (ordErr p m mod n rows set)]) H') : AC Try.prog 40 [codeV p m md n v, sv] H Q := by
  refine at40 (by simp) ?_
  simp (disch := first | assumption | omega) only [↓RP, RQ, TY, loadT, s40, reduceIte, Nat.reduceEqDiff, Nat.reduceAdd]
  refine kNew_intro fun b H1 hb hE1 hH1 => ?_
  simp (disch := first | assumption | omega) only [↓RP, RQ, TY, loadT, reduceIte, Nat.reduceEqDiff, Nat.reduceAdd, hH1]
  refine c_Order48 A (hm.ext hE1) (hv.ext hE1) (hs.ext hE1) hl hlr hls fun H2 hE2 => ?_
  have hE12 := hE1.trans hE2
  have h2 := hE2.rw hH1
  by_cases h0 : ordErr p m mod n rows set = 0
  rotate_left
  · simp (disch := first | assumption | omega) only [↓RP, RQ, TY, loadT, reduceIte, Nat.reduceEqDiff, Nat.reduceAdd, eq_false h0]
    have := hQ H2 hE12
    rwa [widVal, if_neg h0] at this
  obtain ⟨q1, q2⟩ := ordErr_iff.mp h0
  have ca := A.fo.ca q1 (hm.ext hE12) (hv.ext hE12)
  have n1 := ca.n1
  have n64 := ca.n64
  have ok := ca.fa.ok
  have els := ca.els
  have hl := q2.1
  have hs2 := hs.ext hE12
  simp (disch := first | assumption | omega) only [↓RP, RQ, TY, loadT, reduceIte, Nat.reduceEqDiff, Nat.reduceAdd, eq_true h0, h2]
  refine sw_loop (σ := Nat) (fun i e H' => e 8 = .int .i64 i ∧ e 7 = .int .i64 (widL p m mod n rows set (i - 1)) ∧ e 2 = .ptr b 0 ∧ e 1 = sv ∧ i ≤ n.toNat + 1 ∧ Ext H2 H') (fun i => n.toNat + 1 - i) 0 ?_ ?_
  · simp (disch := first | assumption | omega) only [↓RP, RQ, TY, loadT, reduceIte, Nat.reduceEqDiff, Nat.reduceAdd]
    exact ⟨rfl, by omega, Ext.refl _⟩
  rintro i e H3 ⟨e8, e7, e2, e1, hi, hE3⟩
  have h3 := hE3.rw h2
  have hE13 := hE12.trans hE3
  have hs3 := hs2.ext hE3
  by_cases hlt : (i : Int) ≤ n
  · have htn := hs3.taken (n := i) (by rw [ints_length]; omega)
    rw [show (ints set).take i = ints (set.take i) by simp [ints, List.map_take]] at htn
    obtain ⟨t1, t2⟩ := q2.take i
    have hil := ints_length set
    simp (disch := first | assumption | omega) only [↓RP, RQ, TY, loadT, reduceIte, Nat.reduceEqDiff, Nat.reduceAdd, e8, e7, e2, e1, hlt, h3, hs3.slice, m_nat]
    refine c_Of (ca.ext hE3) htn t1 (by rw [List.length_take]; omega) fun H4 hE4 => ?_
    rw [dimS_eq ok (by omega) els t1 t2]
    simp (disch := first | assumption | omega) only [↓RP, RQ, TY, loadT, reduceIte, Nat.reduceEqDiff, Nat.reduceAdd, e8, e7, e2, e1]
    refine ⟨i + 1, ?_, by dsimp only; omega⟩
    simp (disch := first | assumption | omega) only [↓RP, RQ, TY, loadT, reduceIte, Nat.reduceEqDiff, Nat.reduceAdd, e8, e7, e2, e1]
    refine ⟨?_, by omega, hE3.trans hE4⟩
    rw [Nat.add_sub_cancel]
    cases i with
    | zero =>
      have hd := dimP_empty ok (n := n) els
      rw [List.take_zero, widL]
      congr 1
      split <;> omega
    | succ i =>
      rw [Nat.add_sub_cancel, widL]
      congr 1
      split <;> omega
  · rw [show i = set.length + 1 by omega, Nat.add_sub_cancel] at e7
    simp (disch := first | assumption | omega) only [↓RP, RQ, TY, loadT, reduceIte, Nat.reduceEqDiff, Nat.reduceAdd, e8, e7, e2, e1, hlt, h3]
    have := hQ H3 hE13
    rwa [widVal, if_pos h0, h0] at this
end Go.Proofs.Yteijojnahpeglaa.AM
/-! Two matrices in standard form, each the other's kernel: their ranks (plain law). -/
namespace Go.Proofs.Yteijojnahpeglaa.AM
set_option linter.unusedVariables false
set_option linter.unusedSimpArgs false
section
variable {K : Type} [Fd K]
/-- a linear form -/
structure LinF (b : Vc K → K) : Prop where
  add : ∀ v w, b (va v w) = Fd.add (b v) (b w)
  smul : ∀ c v, b (vs c v) = Fd.mul c (b v)
theorem LinF.zero {b : Vc K → K} (h : LinF b) : b vz = Fd.z := by
  have := h.smul Fd.z vz
  rwa [vs_z, Fd.z_mul] at this
theorem LinF.spn {b : Vc K → K} (h : LinF b) {V : Nat → Vc K} {S : Nat → Prop} {v : Vc K} (hv : Spn V S v) (hz : ∀ j, S j → b (V j) = Fd.z) : b v = Fd.z := by
  induction hv with
  | zero => exact h.zero
  | step c hj _ ih => rw [h.add, h.smul, ih, hz _ hj, Fd.mul_z, Fd.add_z]
theorem LinF.const0 : LinF (fun _ : Vc K => Fd.z) := ⟨fun v w => (Fd.add_z _).symm, fun c v => (Fd.mul_z c).symm⟩
theorem LinF.coord (i : Nat) : LinF (fun v : Vc K => v i) := ⟨fun v w => rfl, fun c v => rfl⟩
theorem add4 (a b c d : K) : Fd.add (Fd.add a b) (Fd.add c d) = Fd.add (Fd.add a c) (Fd.add b d) := by
  rw [Fd.add_assoc, Fd.add_left_comm b, ← Fd.add_assoc]
theorem LinF.plus {b b' : Vc K → K} (h : LinF b) (h' : LinF b') (c : K) : LinF (fun v => Fd.add (b v) (Fd.mul c (b' v))) := by
  refine ⟨fun v w => ?_, fun d v => ?_⟩
  · rw [h.add, h'.add, Fd.mul_add, add4]
  · rw [h.smul, h'.smul, Fd.mul_add, ← Fd.mul_assoc, Fd.mul_comm c d, Fd.mul_assoc]
/-- V is the identity at the positions P, W at the others; there they are each other's negated transposes -/
structure Std (V W : Nat → Vc K) (n : Nat) (P : Nat → Prop) (ix : Nat → Nat) : Prop where
  vp : ∀ j, j < n → P j → ∀ r, V j r = if r = ix j then Fd.u else Fd.z
  wn : ∀ j, j < n → ¬ P j → ∀ r, W j r = if r = ix j then Fd.u else Fd.z
  vw : ∀ j c, j < n → c < n → P j → ¬ P c → W j (ix c) = Fd.neg (V c (ix j))
  ip : ∀ j k, j < n → k < n → P j → P k → ix j = ix k → j = k
  inn : ∀ j k, j < n → k < n → ¬ P j → ¬ P k → ix j = ix k → j = k
variable {V W : Nat → Vc K} {n : Nat} {P : Nat → Prop} {ix : Nat → Nat}
open Classical in
theorem Std.form (h : Std V W n P ix) {T : Nat → Prop} (hT : ∀ t, T t → t < n) {v : Vc K} (hv : Spn V T v) :
    ∃ (a : Nat → K) (b : Vc K → K), LinF b ∧ (∀ j, ¬ T j → a j = Fd.z) ∧ (∀ j, j < n → ¬ P j → b (W j) = a j) ∧ ∀ j, j < n → P j → b (W j) = Fd.add (a j) (Fd.neg (v (ix j))) := by
  induction hv with
  | zero => exact ⟨fun _ => Fd.z, fun _ => Fd.z, LinF.const0, fun _ _ => rfl, fun _ _ _ => rfl, fun j _ _ => by
      show Fd.z = Fd.add Fd.z (Fd.neg Fd.z)
      rw [Fd.add_neg]⟩
  | @step t w c ht hw ih =>
    obtain ⟨a, b, hb, ha, h1, h2⟩ := ih
    have htn := hT t ht
    have ha' : ∀ j, ¬ T j → (if j = t then Fd.add (a j) c else a j) = Fd.z := fun j hj => by
      rw [if_neg (fun q => hj (by rw [q]; exact ht))]
      exact ha j hj
    by_cases hp : P t
    · refine ⟨fun j => if j = t then Fd.add (a j) c else a j, b, hb, ha', fun j hj hn => ?_, fun j hj hpj => ?_⟩
      · dsimp only
        rw [if_neg (fun q => hn (by rw [q]; exact hp))]
        exact h1 j hj hn
      · dsimp only
        rw [h2 j hj hpj]
        simp only [va, vs]
        rw [h.vp t htn hp]
        by_cases q : j = t
        · subst q
          rw [if_pos rfl, if_pos rfl, Fd.mul_u, Fd.neg_add', add4, Fd.add_neg, Fd.add_z]
        · rw [if_neg q, if_neg (fun w => q (h.ip j t hj htn hpj hp w)), Fd.mul_z, Fd.add_z]
    · refine ⟨fun j => if j = t then Fd.add (a j) c else a j, fun v => Fd.add (b v) (Fd.mul c (v (ix t))), hb.plus (LinF.coord (ix t)) c, ha', fun j hj hn => ?_, fun j hj hpj => ?_⟩
      · dsimp only
        rw [h1 j hj hn, h.wn j hj hn]
        by_cases q : j = t
        · subst q
          rw [if_pos rfl, if_pos rfl, Fd.mul_u]
        · rw [if_neg q, if_neg (fun w => q (h.inn j t hj htn hn hp w.symm)), Fd.mul_z, Fd.add_z]
      · have hne : j ≠ t := fun q => hp (by rw [← q]; exact hpj)
        dsimp only
        rw [h2 j hj hpj, if_neg hne, h.vw j t hj htn hpj hp]
        simp only [va, vs]
        rw [Fd.neg_add', Fd.mul_neg, Fd.add_assoc]
open Classical in
/-- a position cannot be spanned in both, by sets that do not meet -/
theorem Std.apart (h : Std V W n P ix) {S T : Nat → Prop} {p : Nat} (hp : p < n) (hT : ∀ t, T t → t < n) (hpT : ¬ T p) (hS : ∀ s, S s → s < n ∧ ¬ T s ∧ s ≠ p) (hv : Spn V T (V p)) (hw : Spn W S (W p)) : False := by
  obtain ⟨a, b, hb, ha, h1, h2⟩ := h.form hT hv
  have key : ∃ b' : Vc K → K, LinF b' ∧ ∀ j, j < n → b' (W j) = Fd.add (if j = p then Fd.u else Fd.z) (Fd.neg (a j)) := by
    by_cases q : P p
    · refine ⟨fun v => Fd.add Fd.z (Fd.mul (Fd.neg Fd.u) (b v)), LinF.const0.plus hb _, fun j hj => ?_⟩
      dsimp only
      rw [Fd.z_add, Fd.neg_mul, Fd.u_mul]
      by_cases w : P j
      · rw [h2 j hj w, h.vp p hp q, Fd.neg_add', Fd.neg_neg, Fd.add_comm]
        congr 1
        by_cases e : j = p
        · rw [if_pos e, if_pos (by rw [e])]
        · rw [if_neg e, if_neg (fun x => e (h.ip j p hj hp w q x))]
      · rw [h1 j hj w, if_neg (fun e => w (by rw [e]; exact q)), Fd.z_add]
    · refine ⟨fun v => Fd.add (v (ix p)) (Fd.mul (Fd.neg Fd.u) (b v)), (LinF.coord (ix p)).plus hb _, fun j hj => ?_⟩
      dsimp only
      rw [Fd.neg_mul, Fd.u_mul]
      by_cases w : P j
      · rw [h2 j hj w, h.vw j p hj hp w q, if_neg (fun e => q (by rw [← e]; exact w)), Fd.neg_add', Fd.neg_neg, Fd.add_left_comm, Fd.neg_add, Fd.add_z, Fd.z_add]
      · rw [h1 j hj w, h.wn j hj w]
        congr 1
        by_cases e : j = p
        · rw [if_pos e, if_pos (by rw [e])]
        · rw [if_neg e, if_neg (fun x => e (h.inn j p hj hp w q x.symm))]
  obtain ⟨b', hb', hk⟩ := key
  have hz := hb'.spn hw fun s hs => by
    obtain ⟨s1, s2, s3⟩ := hS s hs
    rw [hk s s1, if_neg s3, ha s s2, Fd.neg_z, Fd.add_z]
  rw [hk p hp, if_pos rfl, ha p hpT, Fd.neg_z, Fd.add_z] at hz
  exact Fd.u_ne hz
theorem Std.rk_ge (h : Std V W n P ix) : ∀ (L : List Nat) (S T : Nat → Prop), L.Nodup → (∀ x, x ∈ L → x < n ∧ ¬ S x ∧ ¬ T x) → (∀ s, S s → s < n ∧ ¬ T s) → (∀ t, T t → t < n) → L.length ≤ (clo W).rk S L + (clo V).rk T L
  | [], S, T, _, _, _, _ => Nat.zero_le _
  | x :: L, S, T, hd, hL, hS, hT => by
    rw [List.nodup_cons] at hd
    obtain ⟨x1, x2, x3⟩ := hL x (by simp)
    have ih := Std.rk_ge h L (with_ S x) T hd.2 (fun y hy => ⟨(hL y (by simp [hy])).1, fun q => q.elim (hL y (by simp [hy])).2.1 (fun e => hd.1 (by rw [← e]; exact hy)), (hL y (by simp [hy])).2.2⟩) (fun s hs => hs.elim (hS s) fun e => by rw [e]; exact ⟨x1, x3⟩) hT
    have hp : (x :: L).Perm (L ++ [x]) := (List.perm_append_singleton x L).symm
    rw [(clo V).rk_perm hp, (clo V).rk_app, List.length_cons]
    have hno : ¬ ((clo W).cl S x ∧ (clo V).cl (withL T L) x) := fun ⟨q1, q2⟩ => by
      refine h.apart (S := S) (T := withL T L) x1 (fun t ht => ht.elim (hT t) fun q => (hL t (by simp [q])).1) (fun q => q.elim x3 hd.1) (fun s hs => ⟨(hS s hs).1, fun q => q.elim (hS s hs).2 (fun w => (hL s (by simp [w])).2.1 hs), fun e => x2 (by rw [← e]; exact hs)⟩) q2 q1
    rw [(clo W).rk_cons, (clo V).rk_cons, Clo.rk_nil]
    split <;> split
    · rename_i q1 q2
      exact absurd ⟨q1, q2⟩ hno
    · omega
    · omega
    · omega
theorem filter_len' (n : Nat) (s : Nat → Bool) : ((List.range n).filter s).length + ((List.range n).filter fun i => !s i).length = n := by
  have := (List.filter_append_perm s (List.range n)).length_eq
  simpa using this
/-- the ranks of a set and of the other positions -/
theorem Std.R_dual (h : Std V W n P ix) {k : Nat} (hV : (clo V).R n (fun _ => true) ≤ k) (hW : (clo W).R n (fun _ => true) + k ≤ n) (s : Nat → Bool) :
    (clo W).R n s + k = ((List.range n).filter s).length + (clo V).R n (fun i => !s i) := by
  have hd1 : ((List.range n).filter s).Nodup := List.Nodup.sublist List.filter_sublist List.nodup_range
  have hd2 : ((List.range n).filter fun i => !s i).Nodup := List.Nodup.sublist List.filter_sublist List.nodup_range
  have a1 := h.rk_ge ((List.range n).filter s) (fun _ => False) (fun z => z ∈ (List.range n).filter fun i => !s i) hd1 (fun x hx => by
    simp only [List.mem_filter, List.mem_range] at hx ⊢
    refine ⟨hx.1, fun q => q, fun q => ?_⟩
    rw [hx.2] at q
    exact absurd q.2 (by simp)) (fun s hs => hs.elim) (fun t ht => by simp only [List.mem_filter, List.mem_range] at ht; exact ht.1)
  have a2 := h.rk_ge ((List.range n).filter fun i => !s i) (fun z => z ∈ (List.range n).filter s) (fun _ => False) hd2 (fun x hx => by
    simp only [List.mem_filter, List.mem_range] at hx ⊢
    refine ⟨hx.1, fun q => ?_, fun q => q⟩
    rw [q.2] at hx
    exact absurd hx.2 (by simp)) (fun s hs => by simp only [List.mem_filter, List.mem_range] at hs; exact ⟨hs.1, fun q => q⟩) (fun t ht => ht.elim)
  have p1 := List.filter_append_perm s (List.range n)
  have e1 := (clo W).rk_perm p1 (fun _ => False)
  have e2 := (clo V).rk_perm (List.perm_append_comm.trans p1) (fun _ => False)
  rw [(clo W).rk_app] at e1
  rw [(clo V).rk_app] at e2
  have f1 : (clo W).rk (withL (fun _ => False) ((List.range n).filter s)) ((List.range n).filter fun i => !s i) = (clo W).rk (fun z => z ∈ (List.range n).filter s) ((List.range n).filter fun i => !s i) := Clo.rk_ext _ (fun y => by simp [withL]) _
  have f2 : (clo V).rk (withL (fun _ => False) ((List.range n).filter fun i => !s i)) ((List.range n).filter s) = (clo V).rk (fun z => z ∈ (List.range n).filter fun i => !s i) ((List.range n).filter s) := Clo.rk_ext _ (fun y => by simp [withL]) _
  rw [f1] at e1
  rw [f2] at e2
  have g1 : (clo W).R n (fun _ => true) = (clo W).rk (fun _ => False) (List.range n) := by rw [Clo.R, List.filter_eq_self.mpr (fun _ _ => rfl)]
  have g2 : (clo V).R n (fun _ => true) = (clo V).rk (fun _ => False) (List.range n) := by rw [Clo.R, List.filter_eq_self.mpr (fun _ _ => rfl)]
  have g3 : (clo W).R n s = (clo W).rk (fun _ => False) ((List.range n).filter s) := rfl
  have g4 : (clo V).R n (fun i => !s i) = (clo V).rk (fun _ => False) ((List.range n).filter fun i => !s i) := rfl
  have g5 := filter_len' n s
  omega
end
end Go.Proofs.Yteijojnahpeglaa.AM
/-! Reduced matrices stay as they are; the kernel's matrix and its ranks (plain law). -/
namespace Go.Proofs.Yteijojnahpeglaa.AM
open Go Go.RowKit
set_option linter.unusedVariables false
set_option linter.unusedSimpArgs false
/-- a reduced matrix without zero rows, and its pivots -/
structure Red (n : Nat) (l : List (List Int)) (piv : List Nat) : Prop where
  rect : Rect n l
  len : piv.length = l.length
  lt : ∀ i, i < l.length → piv.getD i 0 < n
  asc : ∀ i j, i < j → j < l.length → piv.getD i 0 < piv.getD j 0
  pv : ∀ i r, i < l.length → r < l.length → ent l r (piv.getD i 0) = if r = i then 1 else 0
  lo : ∀ r j, r < l.length → j < piv.getD r 0 → ent l r j = 0
theorem ent_take {l : List (List Int)} {k i : Nat} (hi : i < k) (j : Nat) : ent (l.take k) i j = ent l i j := by rw [ent, rowAt_take hi]; rfl
section
variable {F : FOps} (h : F.Ok)
theorem elimStep_snd (c : Nat) (s : List (List Int) × List Nat) : (elimStep F c s).2 = s.2 ++ [c] ∨ (elimStep F c s).2 = s.2 := by
  simp only [elimStep]
  split
  · exact .inl rfl
  · exact .inr rfl
include h in
theorem elim_asc {n : Nat} {rows : List (List Int)} (hr : Rect n rows) (he : Els F rows) : ∀ c i j, i < j → j < (elim F rows c).2.length → (elim F rows c).2.getD i 0 < (elim F rows c).2.getD j 0
  | 0 => fun i j h1 h2 => by simp [elim, uptoN] at h2
  | c + 1 => fun i j h1 h2 => by
    have ih := elim_asc hr he c
    have hlt := (elim_inv h hr he c).lt
    rw [elim_succ] at h2 ⊢
    rcases elimStep_snd (F := F) c (elim F rows c) with e | e
    · rw [e] at h2 ⊢
      rw [List.length_append, List.length_singleton] at h2
      rw [getD_app, getD_app, if_pos (show i < (elim F rows c).2.length by omega)]
      by_cases q : j < (elim F rows c).2.length
      · rw [if_pos q]; exact ih i j h1 q
      · rw [if_neg q, if_pos (by omega)]; exact hlt i (by omega)
    · rw [e] at h2 ⊢
      exact ih i j h1 h2
include h in
theorem canon_red {n : Nat} {rows : List (List Int)} (hr : Rect n rows) (he : Els F rows) : Red n (canon F rows n).1 (canon F rows n).2 := by
  have inv := elim_inv h hr he n
  have hl : (canon F rows n).1.length = (elim F rows n).2.length := by
    rw [canon, List.length_take]
    have := inv.le
    omega
  have e2 : (canon F rows n).2 = (elim F rows n).2 := rfl
  have e1 : ∀ i j, i < (elim F rows n).2.length → ent (canon F rows n).1 i j = ent (elim F rows n).1 i j := fun i j hi => ent_take hi j
  refine ⟨fun i hi => ?_, by rw [hl, e2], fun i hi => ?_, fun i j h1 h2 => ?_, fun i r h1 h2 => ?_, fun r j h1 h2 => ?_⟩
  · rw [hl] at hi
    have := inv.le
    rw [canon, rowAt_take hi]
    exact inv.rect i (by omega)
  · rw [e2]; exact inv.lt i (by omega)
  · rw [e2]; exact elim_asc h hr he n i j h1 (by omega)
  · rw [e2, e1 r _ (by omega)]; exact inv.pv i r (by omega)
  · rw [e1 r _ (by omega)]; exact inv.lo r j (by omega) (by rw [← e2]; exact h2)
include h in
theorem canon_els {n : Nat} {rows : List (List Int)} (hr : Rect n rows) (he : Els F rows) : Els F (canon F rows n).1 := fun i j => by
  by_cases hi : i < (elim F rows n).2.length
  · have : ent (canon F rows n).1 i j = ent (elim F rows n).1 i j := ent_take hi j
    rw [this]
    exact (elim_inv h hr he n).els i j
  · rw [ent_ge j (by rw [canon, List.length_take]; omega)]
    exact h.el0
theorem set_rowAt {l : List (List Int)} {k : Nat} (hk : k < l.length) : l.set k (rowAt l k) = l := by
  refine List.ext_getElem (by simp) fun i h1 h2 => ?_
  rw [List.getElem_set]
  split
  · rename_i q
    subst q
    simp [rowAt, List.getD_eq_getElem?_getD, h2]
  · rfl
theorem tab_rowAt (l : List (List Int)) : tabN l.length (rowAt l) = l := by
  refine List.ext_getElem (by rw [tabN_length]) fun i h1 h2 => ?_
  simp [tabN, rowAt, List.getD_eq_getElem?_getD, h2]
theorem tabN_congr {α : Type} {n : Nat} {f g : Nat → α} (h : ∀ i, i < n → f i = g i) : tabN n f = tabN n g := List.map_congr_left fun i hi => h i (List.mem_range.mp hi)
theorem red_elim {n : Nat} {l : List (List Int)} {piv : List Nat} (hR : Red n l piv) : ∀ c, ∃ k, k ≤ l.length ∧ elim F l c = (l, piv.take k) ∧ (∀ i, i < k → piv.getD i 0 < c) ∧ ∀ i, k ≤ i → i < l.length → c ≤ piv.getD i 0
  | 0 => ⟨0, Nat.zero_le _, rfl, fun i hi => by omega, fun i _ _ => Nat.zero_le _⟩
  | c + 1 => by
    obtain ⟨k, h1, h2, h3, h4⟩ := red_elim hR c
    have hlen : (piv.take k).length = k := by rw [List.length_take, hR.len]; omega
    rw [elim_succ, h2]
    by_cases hc : k < l.length ∧ piv.getD k 0 = c
    · obtain ⟨hk, hc⟩ := hc
      have one : ent l k c = 1 := by rw [← hc, hR.pv k k hk hk, if_pos rfl]
      have hz : ∀ i, i < l.length → i ≠ k → ent l i c = 0 := fun i hi hne => by rw [← hc, hR.pv k i hk hi, if_neg hne]
      have hf : firstNZ l c (l.length - k) k = k := firstNZ_eq k (Nat.le_refl _) (fun i h1 h2 => by omega) (fun _ => by omega) (by omega)
      have hs : swapL l k k = l := by rw [swapL, set_rowAt hk, set_rowAt hk]
      have hu : unitL F c k l = l := by rw [unitL, if_neg (by simpa using one)]
      have hcl : clearL F c k l = l := by
        rw [clearL]
        refine (tabN_congr fun i hi => ?_).trans (tab_rowAt l)
        rw [clearRow, if_neg (fun q => q.2 (hz i hi q.1))]
      refine ⟨k + 1, by omega, ?_, fun i hi => ?_, fun i hi hi' => ?_⟩
      · simp only [elimStep, hlen, hf]
        rw [if_pos hk, hs, hu, hcl, ← hc, take_push 0 (by rw [hR.len]; exact hk)]
      · by_cases q : i = k
        · rw [q, hc]; omega
        · have := h3 i (by omega); omega
      · have := hR.asc k i (by omega) hi'
        omega
    · have hgt : ∀ i, k ≤ i → i < l.length → c < piv.getD i 0 := fun i hi hi' => by
        have a1 := h4 k (Nat.le_refl _) (by omega)
        have a2 : piv.getD k 0 ≠ c := fun q => hc ⟨by omega, q⟩
        by_cases q : i = k
        · rw [q]; omega
        · have := hR.asc k i (by omega) hi'
          omega
      have hf : firstNZ l c (l.length - k) k = l.length := firstNZ_eq l.length h1 (fun i h5 h6 => hR.lo i c h6 (hgt i h5 h6)) (fun q => by omega) (Nat.le_refl _)
      refine ⟨k, h1, ?_, fun i hi => by have := h3 i hi; omega, fun i hi hi' => hgt i hi hi'⟩
      simp only [elimStep, hlen, hf]
      rw [if_neg (by omega)]
theorem red_canon {n : Nat} {l : List (List Int)} {piv : List Nat} (hR : Red n l piv) : canon F l n = (l, piv) := by
  obtain ⟨k, h1, h2, h3, h4⟩ := red_elim (F := F) hR n
  have hk : k = l.length := by
    by_cases q : k < l.length
    · have a1 := h4 k (Nat.le_refl _) q
      have a2 := hR.lt k q
      omega
    · omega
  have hp : piv.take k = piv := List.take_of_length_le (by rw [hR.len]; omega)
  rw [canon, h2, hp, hR.len, List.take_length]
include h in
theorem canon_idem {n : Nat} {rows : List (List Int)} (hr : Rect n rows) (he : Els F rows) : canon F (canon F rows n).1 n = canon F rows n := red_canon (canon_red h hr he)
/-- the same relations, the same ranks -/
theorem rk_same {V V' : Nat → Vc F.K} (hs : SameRel h V V') : letI := h.fd; ∀ (l : List Nat) (S : Nat → Prop), (clo V).rk S l = (clo V').rk S l := by
  letI := h.fd
  intro l
  induction l with
  | nil => exact fun S => rfl
  | cons x l ih =>
    intro S
    rw [Clo.rk_cons, Clo.rk_cons, ih]
    congr 1
    have this : (clo V).cl S x ↔ (clo V').cl S x := hs S x
    by_cases q : (clo V).cl S x
    · rw [if_pos q, if_pos (this.mp q)]
    · rw [if_neg q, if_neg (fun w => q (this.mpr w))]
theorem canon_rel {n : Nat} {rows : List (List Int)} (hr : Rect n rows) (he : Els F rows) : SameRel h (colV h rows) (colV h (canon F rows n).1) := by
  have inv := elim_inv h hr he n
  have e : colV h (canon F rows n).1 = colV h (elim F rows n).1 := funext fun j => funext fun i => by
    show h.k _ = h.k _
    congr 1
    by_cases hi : i < (elim F rows n).2.length
    · exact ent_take hi j
    · rw [ent_ge j (by rw [canon, List.length_take]; omega)]
      by_cases hj : j < n
      · rw [inv.hi i j (by omega) hj]
      · rw [ent_col inv.rect i (by omega)]
  rw [e]
  exact inv.rel
/-- the positions that are no pivots -/
def freeN (piv : List Nat) (n : Nat) : List Nat := (List.range n).filter fun c => !piv.contains c
/-- the word of the kernel that is 1 at c and 0 at the other positions that are no pivots -/
def freeRow (F : FOps) (l : List (List Int)) (piv : List Nat) (n c : Nat) : List Int := tabN n fun j => if j ∈ piv then F.neg (ent l (piv.idxOf j) c) else if j = c then 1 else 0
def freeL (F : FOps) (l : List (List Int)) (piv : List Nat) (n : Nat) : List (List Int) := (freeN piv n).map (freeRow F l piv n)
/-- the kernel's matrix -/
def kerL (F : FOps) (rows : List (List Int)) (n : Nat) : List (List Int) := (canon F (freeL F (canon F rows n).1 (canon F rows n).2 n) n).1
theorem mem_freeN {piv : List Nat} {n c : Nat} : c ∈ freeN piv n ↔ c < n ∧ c ∉ piv := by simp [freeN]
theorem freeN_nodup (piv : List Nat) (n : Nat) : (freeN piv n).Nodup := List.Nodup.sublist List.filter_sublist List.nodup_range
theorem idx_get {l : List Nat} {j : Nat} (hj : j ∈ l) : l.idxOf j < l.length ∧ l.getD (l.idxOf j) 0 = j := by
  have h1 := List.idxOf_lt_length_iff.mpr hj
  exact ⟨h1, by rw [List.getD_eq_getElem?_getD, List.getElem?_eq_getElem h1, Option.getD_some, List.getElem_idxOf h1]⟩
theorem idx_of {l : List Nat} (hd : l.Nodup) {i : Nat} (hi : i < l.length) : l.idxOf (l.getD i 0) = i := by
  have hm : l.getD i 0 ∈ l := by
    rw [List.getD_eq_getElem?_getD, List.getElem?_eq_getElem hi, Option.getD_some]
    exact List.getElem_mem hi
  obtain ⟨h1, h2⟩ := idx_get hm
  generalize l.idxOf (l.getD i 0) = k at h1 h2 ⊢
  rw [List.Nodup, List.pairwise_iff_getElem] at hd
  rw [List.getD_eq_getElem?_getD, List.getElem?_eq_getElem h1, Option.getD_some, List.getD_eq_getElem?_getD, List.getElem?_eq_getElem hi, Option.getD_some] at h2
  rcases Nat.lt_trichotomy k i with q | q | q
  · exact absurd h2 (hd _ _ h1 hi q)
  · exact q
  · exact absurd h2.symm (hd _ _ hi h1 q)
theorem Red.nodup {n : Nat} {l : List (List Int)} {piv : List Nat} (hR : Red n l piv) : piv.Nodup := by
  rw [List.Nodup, List.pairwise_iff_getElem]
  intro i j hi hj hij q
  have h1 := hR.len
  have := hR.asc i j hij (by omega)
  simp only [List.getD_eq_getElem?_getD, List.getElem?_eq_getElem hi, List.getElem?_eq_getElem hj, Option.getD_some] at this
  omega
theorem Red.mem_lt {n : Nat} {l : List (List Int)} {piv : List Nat} (hR : Red n l piv) {j : Nat} (hj : j ∈ piv) : j < n := by
  obtain ⟨h1, h2⟩ := idx_get hj
  have := hR.lt (piv.idxOf j) (by rw [← hR.len]; exact h1)
  omega
theorem Red.free_len {n : Nat} {l : List (List Int)} {piv : List Nat} (hR : Red n l piv) : (freeN piv n).length + l.length = n := by
  have h1 := filter_len n piv.contains
  have h2 : ((List.range n).filter piv.contains).Perm piv := (List.perm_ext_iff_of_nodup (filter_nodup _ _) hR.nodup).mpr fun a => by
    simp only [List.mem_filter, List.mem_range, List.contains_iff_mem]
    exact ⟨fun q => q.2, fun q => ⟨hR.mem_lt q, q⟩⟩
  have h3 := h2.length_eq
  have h4 := hR.len
  have e : freeN piv n = (List.range n).filter fun i => !piv.contains i := rfl
  rw [e]
  omega
theorem rowAt_mapN {f : Nat → List Int} {l : List Nat} {i : Nat} (h : i < l.length) : rowAt (l.map f) i = f (l.getD i 0) := by
  simp [rowAt, List.getD_eq_getElem?_getD, h]
theorem free_rect (l : List (List Int)) (piv : List Nat) (n : Nat) : Rect n (freeL F l piv n) := fun i hi => by
  rw [freeL, List.length_map] at hi
  rw [freeL, rowAt_mapN hi, freeRow, tabN_length]
theorem free_ent {l : List (List Int)} {piv : List Nat} {n i j : Nat} (hi : i < (freeN piv n).length) (hj : j < n) : ent (freeL F l piv n) i j = if j ∈ piv then F.neg (ent l (piv.idxOf j) ((freeN piv n).getD i 0)) else if j = (freeN piv n).getD i 0 then 1 else 0 := by
  rw [ent, freeL, rowAt_mapN hi, freeRow, tabN_getD _ hj]
include h in
theorem free_els {l : List (List Int)} (he : Els F l) (piv : List Nat) (n : Nat) : Els F (freeL F l piv n) := fun i j => by
  by_cases hj : j < n
  · by_cases hi : i < (freeN piv n).length
    · rw [free_ent hi hj]
      split
      · exact h.neg_el (he _ _)
      · split
        · exact h.el1
        · exact h.el0
    · rw [ent_ge j (by rw [freeL, List.length_map]; omega)]; exact h.el0
  · rw [ent_col (free_rect l piv n) i (by omega)]; exact h.el0
open Classical in
theorem free_std {n : Nat} {l : List (List Int)} {piv : List Nat} (hR : Red n l piv) (he : Els F l) : letI := h.fd; Std (colV h l) (colV h (freeL F l piv n)) n (fun j => j ∈ piv) (fun j => if j ∈ piv then piv.idxOf j else (freeN piv n).idxOf j) := by
  letI := h.fd
  have ku : ∀ (p : Prop) [Decidable p], h.k (if p then 1 else 0) = if p then Fd.u else Fd.z := fun p _ => by
    split
    · exact h.k_one
    · exact h.k_zero
  have hl := hR.len
  refine ⟨fun j hj hp r => ?_, fun j hj hn r => ?_, fun j c hj hc hp hn => ?_, fun j k hj hk hp hq e => ?_, fun j k hj hk hp hq e => ?_⟩
  · obtain ⟨h1, h2⟩ := idx_get hp
    rw [if_pos hp]
    show h.k (ent l r j) = _
    by_cases hr : r < l.length
    · have := hR.pv (piv.idxOf j) r (by omega) hr
      rw [h2] at this
      rw [this, ku]
    · rw [ent_ge j (by omega), if_neg (by omega), h.k_zero]
  · obtain ⟨h1, h2⟩ := idx_get (mem_freeN.mpr ⟨hj, hn⟩)
    rw [if_neg hn]
    show h.k (ent _ r j) = _
    by_cases hr : r < (freeN piv n).length
    · rw [free_ent hr hj, if_neg hn, ku]
      by_cases q : r = (freeN piv n).idxOf j
      · rw [if_pos q, if_pos (by rw [q]; exact h2.symm)]
      · rw [if_neg q, if_neg (fun w => q (by rw [w, idx_of (freeN_nodup _ _) hr]))]
    · rw [ent_ge j (by rw [freeL, List.length_map]; omega), if_neg (by omega), h.k_zero]
  · obtain ⟨h1, h2⟩ := idx_get (mem_freeN.mpr ⟨hc, hn⟩)
    rw [if_pos hp, if_neg hn]
    show h.k (ent _ _ j) = Fd.neg (h.k (ent l _ c))
    rw [free_ent h1 hj, if_pos hp, h2, h.k_neg (he _ _)]
  · rw [if_pos hp, if_pos hq] at e
    rw [← (idx_get hp).2, ← (idx_get hq).2, e]
  · rw [if_neg hp, if_neg hq] at e
    rw [← (idx_get (mem_freeN.mpr ⟨hj, hp⟩)).2, ← (idx_get (mem_freeN.mpr ⟨hk, hq⟩)).2, e]
end
section
variable {p m : Int} {mod : List Int} (h : (fF p m mod).Ok)
/-- the ranks of a reduced matrix and of its kernel -/
theorem ker_R {n : Nat} {rows : List (List Int)} (he : Els (fF p m mod) rows) (hr : Rect n rows) (hc : (canon (fF p m mod) rows n).1 = rows) (s : Nat → Bool) : letI := h.fd;
    (clo (colV h (kerL (fF p m mod) rows n))).R n s + rows.length = ((List.range n).filter s).length + (clo (colV h rows)).R n (fun i => !s i) := by
  letI := h.fd
  have hR := canon_red h hr he
  rw [hc] at hR
  have hfl := hR.free_len
  have fe := free_els h he (canon (fF p m mod) rows n).2 n
  have fr := free_rect (F := fF p m mod) rows (canon (fF p m mod) rows n).2 n
  have hst := free_std h hR he
  have e : (clo (colV h (kerL (fF p m mod) rows n))).R n s = (clo (colV h (freeL (fF p m mod) rows (canon (fF p m mod) rows n).2 n))).R n s := by
    rw [kerL, hc]
    exact (rk_same h (canon_rel h fr fe) _ _).symm
  rw [e]
  refine hst.R_dual (R_le_rows h he _) ?_ s
  have := R_le_rows h (n := n) fe (fun _ => true)
  rw [show (freeL (fF p m mod) rows (canon (fF p m mod) rows n).2 n).length = (freeN (canon (fF p m mod) rows n).2 n).length from List.length_map _] at this
  omega
include h in
theorem ker_red {n : Nat} {rows : List (List Int)} (he : Els (fF p m mod) rows) (hr : Rect n rows) : Red n (kerL (fF p m mod) rows n) (canon (fF p m mod) (freeL (fF p m mod) (canon (fF p m mod) rows n).1 (canon (fF p m mod) rows n).2 n) n).2 :=
  canon_red h (free_rect _ _ _) (free_els h (canon_els h hr he) _ _)
include h in
theorem ker_els {n : Nat} {rows : List (List Int)} (he : Els (fF p m mod) rows) (hr : Rect n rows) : Els (fF p m mod) (kerL (fF p m mod) rows n) := canon_els h (free_rect _ _ _) (free_els h (canon_els h hr he) _ _)
/-- a reduced matrix has the rank of its rows -/
theorem red_R {n : Nat} {l : List (List Int)} {piv : List Nat} (hR : Red n l piv) (he : Els (fF p m mod) l) : letI := h.fd; (clo (colV h l)).R n (fun _ => true) = l.length := by
  letI := h.fd
  have inv := elim_inv h hR.rect he n
  have e := red_canon (F := fF p m mod) hR
  have e2 : (elim (fF p m mod) l n).2 = piv := congrArg Prod.snd e
  have := inv.rk
  rw [e2, hR.len] at this
  rw [Clo.R, List.filter_eq_self.mpr (fun _ _ => rfl)]
  exact this.symm
theorem R_none {n : Nat} {l : List (List Int)} : letI := h.fd; (clo (colV h l)).R n (fun _ => false) = 0 := by
  letI := h.fd
  have := (clo (colV h l)).R_le n (fun _ => false)
  have e : (List.range n).filter (fun _ => false) = [] := List.filter_eq_nil_iff.mpr fun _ _ => by simp
  rw [e] at this
  simpa using this
include h in
theorem ker_len {n : Nat} {rows : List (List Int)} (he : Els (fF p m mod) rows) (hr : Rect n rows) (hc : (canon (fF p m mod) rows n).1 = rows) : (kerL (fF p m mod) rows n).length + rows.length = n := by
  letI := h.fd
  have h1 := ker_R h he hr hc (fun _ => true)
  rw [red_R h (ker_red h he hr) (ker_els h he hr), List.filter_eq_self.mpr (fun _ _ => rfl)] at h1
  have h2 := R_none h (n := n) (l := rows)
  simp only [Bool.not_true, List.length_range] at h1
  omega
include h in
/-- the dimensions of the dual code -/
theorem ker_dim {n : Int} (hn : 0 ≤ n) {rows : List (List Int)} (he : Els (fF p m mod) rows) (hr : Rect n.toNat rows) (hc : (canon (fF p m mod) rows n.toNat).1 = rows) (s : Nat → Bool) :
    dimP p m mod n (kerL (fF p m mod) rows n.toNat) s = dimP p m mod n rows s := by
  letI := h.fd
  have h1 := ker_R h he hr hc s
  have h2 := ker_R h he hr hc (fun i => !s i)
  have h3 := ker_len h he hr hc
  have h4 := filter_len n.toNat s
  have e : (fun i => !(!s i)) = s := funext fun i => by cases s i <;> rfl
  rw [e] at h2
  rw [dimP, dimP, rankP_R h he, rankP_R h he, rankP_R h (ker_els h he hr), rankP_R h (ker_els h he hr)]
  omega
theorem matErr_ok {cols : Int} {rows : List (List Int)} (hF : FieldOk p m mod) (h0 : 0 ≤ cols) (h1 : cols ≤ 256) (h2 : rows.length ≤ 256) (hr : Rect cols.toNat rows) (he : Els (fF p m mod) rows) : matErr p m mod cols rows = 0 := by
  rw [matErr, if_neg (by simpa using hF), if_neg, if_neg]
  · rintro ⟨i, hi, hn⟩
    exact hn fun j hj => he i j
  · rintro (q | q | q | ⟨i, hi, hn⟩)
    · omega
    · omega
    · omega
    · exact hn (by rw [hr i hi]; omega)
theorem code_mk {n : Int} {rows : List (List Int)} (hF : FieldOk p m mod) (h0 : 1 ≤ n) (h1 : n ≤ 64) (h2 : rows.length ≤ 256) (hr : Rect n.toNat rows) (he : Els (fF p m mod) rows) (hc : (canon (fF p m mod) rows n.toNat).1 = rows) : codeErr p m mod n rows = 0 := by
  rw [codeErr, if_neg (by simpa using hF), if_neg (by omega), spcErr, if_neg (by simpa using matErr_ok hF (by omega) (by omega) h2 hr he), if_pos hc]
theorem code_canon {n : Int} {rows : List (List Int)} (h0 : codeErr p m mod n rows = 0) : (canon (fF p m mod) rows n.toNat).1 = rows := by
  rw [codeErr] at h0
  split at h0
  · cases h0
  split at h0
  · cases h0
  rw [spcErr] at h0
  split at h0
  · contradiction
  split at h0
  · assumption
  · cases h0
end
end Go.Proofs.Yteijojnahpeglaa.AM
/-! The program's matrices, eighth part: Contains, Kernel. -/
namespace Go.Proofs.Yteijojnahpeglaa.AM
open Go Go.RowKit
set_option linter.unusedVariables false
set_option linter.unusedSimpArgs false
set_option maxRecDepth 20000
/-- the first index of an entry, or -1 -/
def ixI (x : Int) (xs : List Int) : Int := if xs.contains x = true then (xs.idxOf x : Int) else -1
theorem idxI_eq : ∀ {xs : List Int} {x : Int} {i : Nat}, i < xs.length → xs.getD i 0 = x → (∀ j, j < i → xs.getD j 0 ≠ x) → xs.idxOf x = i
  | [], x, i, h, _, _ => by simp at h
  | a :: xs, x, 0, h, h1, h2 => by
    have : a = x := by simpa using h1
    rw [this, List.idxOf_cons_self]
  | a :: xs, x, i + 1, h, h1, h2 => by
    have h0 : a ≠ x := by simpa using h2 0 (by omega)
    have ih := idxI_eq (xs := xs) (x := x) (i := i) (by simpa using h) (by simpa using h1) (fun j hj => by simpa using h2 (j + 1) (by omega))
    have hb : (a == x) = false := by simpa using h0
    rw [List.idxOf_cons, hb, ih]
    rfl
theorem ixI_hit {xs : List Int} {x : Int} {i : Nat} (h : i < xs.length) (h1 : xs.getD i 0 = x) (h2 : ∀ j, j < i → xs.getD j 0 ≠ x) : ixI x xs = i := by
  have hm : x ∈ xs := by
    rw [← h1, List.getD_eq_getElem?_getD, List.getElem?_eq_getElem h, Option.getD_some]
    exact List.getElem_mem h
  rw [ixI, if_pos (List.contains_iff_mem.mpr hm), idxI_eq h h1 h2]
theorem ixI_no {xs : List Int} {x : Int} (h : ∀ j, j < xs.length → xs.getD j 0 ≠ x) : ixI x xs = -1 := by
  rw [ixI, if_neg]
  intro q
  obtain ⟨i, hi, e⟩ := List.getElem_of_mem (List.contains_iff_mem.mp q)
  have := h i hi
  rw [List.getD_eq_getElem?_getD, List.getElem?_eq_getElem hi, Option.getD_some] at this
  exact this e
theorem c_Index {v : AV} {xs : List Int} {x : Int} {H : AH} {Q : AV → AH → Prop} (hv : Ints H v xs) (hl : xs.length ≤ 9223372036854775807) (hQ : Q (.int .i64 (ixI x xs)) H) : AC Try.prog 77 [v, .int .i64 x] H Q := by
  refine at77 (by simp) ?_
  simp (disch := first | assumption | omega) only [↓RP, RQ, TY, loadT, s77, reduceIte, Nat.reduceEqDiff, Nat.reduceAdd, hv.ints]
  refine sw_loop (σ := Nat) (fun i e H' => e 8 = .int .i64 i ∧ e 7 = .int .i64 xs.length ∧ e 0 = v ∧ e 1 = .int .i64 x ∧ i ≤ xs.length ∧ H' = H ∧ ∀ j, j < i → xs.getD j 0 ≠ x) (fun i => xs.length - i) 0 ?_ ?_
  · simp (disch := first | assumption | omega) only [↓RP, RQ, TY, loadT, reduceIte, Nat.reduceEqDiff, Nat.reduceAdd]
    exact ⟨by omega, fun j hj => by omega⟩
  rintro i e H' ⟨e8, e7, e0, e1, hi, rfl, hj⟩
  by_cases hlt : (i : Int) < xs.length
  · by_cases hx : x = xs.getD i 0
    · simp (disch := first | assumption | omega) only [↓RP, RQ, TY, loadT, reduceIte, Nat.reduceEqDiff, Nat.reduceAdd, e8, e7, e0, e1, hlt, hv.ints, eq_true hx]
      rwa [ixI_hit (by omega) hx.symm hj] at hQ
    · simp (disch := first | assumption | omega) only [↓RP, RQ, TY, loadT, reduceIte, Nat.reduceEqDiff, Nat.reduceAdd, e8, e7, e0, e1, hlt, hv.ints, eq_false hx]
      refine ⟨i + 1, ?_, by dsimp only; omega⟩
      simp (disch := first | assumption | omega) only [↓RP, RQ, TY, loadT, reduceIte, Nat.reduceEqDiff, Nat.reduceAdd, e8, e7, e0, e1]
      refine ⟨by omega, fun j h => ?_⟩
      by_cases hji : j = i
      · rw [hji]; exact fun q => hx q.symm
      · exact hj j (by omega)
  · simp (disch := first | assumption | omega) only [↓RP, RQ, TY, loadT, reduceIte, Nat.reduceEqDiff, Nat.reduceAdd, e8, e7, e0, e1, hlt]
    rwa [ixI_no (fun j h => hj j (by omega))] at hQ
theorem ixI_ge {x : Int} {xs : List Int} : (0 ≤ ixI x xs) ↔ xs.contains x = true := by
  rw [ixI]
  by_cases q : xs.contains x = true
  · rw [if_pos q]; exact ⟨fun _ => q, fun _ => by omega⟩
  · rw [if_neg q]; exact ⟨fun w => by omega, fun w => absurd w q⟩
theorem c_Contains {v : AV} {xs : List Int} {x : Int} {H : AH} {Q : AV → AH → Prop} (hv : Ints H v xs) (hl : xs.length ≤ 9223372036854775807) (hQ : Q (.bool (xs.contains x)) H) : AC Try.prog 58 [v, .int .i64 x] H Q := by
  refine at58 (by simp) ?_
  simp (disch := first | assumption | omega) only [↓RP, RQ, TY, loadT, s58, reduceIte, Nat.reduceEqDiff, Nat.reduceAdd]
  refine c_Index hv hl ?_
  by_cases q : xs.contains x = true
  · have := ixI_ge.mpr q
    rw [q] at hQ
    simp (disch := first | assumption | omega) only [↓RP, RQ, TY, loadT, reduceIte, Nat.reduceEqDiff, Nat.reduceAdd, this]
    exact hQ
  · have : ¬ 0 ≤ ixI x xs := fun w => q (ixI_ge.mp w)
    rw [Bool.eq_false_iff.mpr q] at hQ
    simp (disch := first | assumption | omega) only [↓RP, RQ, TY, loadT, reduceIte, Nat.reduceEqDiff, Nat.reduceAdd, this]
    exact hQ
theorem natsI_contains {l : List Nat} {c : Nat} : (natsI l).contains (c : Int) = l.contains c := by
  rw [Bool.eq_iff_iff]
  simp only [List.contains_iff_mem, natsI, List.mem_map]
  exact ⟨fun ⟨a, h, e⟩ => by rwa [show a = c by omega] at h, fun h => ⟨c, h, rfl⟩⟩
theorem natsI_gd {l : List Nat} {i : Nat} : (natsI l).getD i 0 = (l.getD i 0 : Nat) := by
  rw [List.getD_eq_getElem?_getD, List.getD_eq_getElem?_getD, natsI, List.getElem?_map]
  cases l[i]? <;> rfl
/-- the first rows of the kernel's words -/
def freeP (F : FOps) (l : List (List Int)) (piv : List Nat) (n c : Nat) : List (List Int) := ((List.range c).filter fun c => !piv.contains c).map (freeRow F l piv n)
theorem freeP_succ {F : FOps} {l : List (List Int)} {piv : List Nat} {n c : Nat} : freeP F l piv n (c + 1) = freeP F l piv n c ++ if piv.contains c = true then [] else [freeRow F l piv n c] := by
  rw [freeP, freeP, List.range_succ, List.filter_append, List.map_append]
  congr 1
  rw [List.filter_cons]
  cases h : piv.contains c
  · simp only [Bool.not_false, if_true, List.filter_nil, List.map_cons, List.map_nil, Bool.false_eq_true, if_false]
  · simp only [Bool.not_true, if_true, List.filter_nil, List.map_nil, Bool.false_eq_true, if_false]
theorem lst_tab {L : List Int} {M : Nat} {f : Nat → Int} (hl : L.length = M) (h : ∀ j, j < M → L.getD j 0 = f j) : L = tabN M f := by
  refine List.ext_getElem (by rw [hl, tabN_length]) fun i h1 h2 => ?_
  have := h i (by omega)
  rw [List.getD_eq_getElem?_getD, List.getElem?_eq_getElem h1, Option.getD_some] at this
  rw [this]
  simp [tabN]
theorem freeP_len {F : FOps} {l : List (List Int)} {piv : List Nat} {n c : Nat} : (freeP F l piv n c).length ≤ c := by
  rw [freeP, List.length_map]
  have := List.length_filter_le (fun c => !piv.contains c) (List.range c)
  simpa using this
theorem mem_take_get {l : List Nat} {t j : Nat} (ht : t < l.length) : (j ∈ l.take (t + 1)) ↔ (j ∈ l.take t ∨ j = l.getD t 0) := by
  rw [← take_push 0 ht, List.mem_append, List.mem_singleton]
set_option maxHeartbeats 2000000 in
theorem c_Kernel (A : Alg) {p m cols : Int} {md v : AV} {mod : List Int} {us : List AV} {rows : List (List Int)} {H : AH} {Q : AV → AH → Prop} (hm : Ints H md mod) (hlm : mod.length ≤ 9223372036854775807) (hv : Rows H v us rows) (hl : rows.length ≤ 9223372036854775807) (hlr : ∀ i, i < rows.length → (rowAt rows i).length ≤ 9223372036854775807)
    (hQ1 : ∀ lv us' H', Ext H H' → matErr p m mod cols rows = 0 → Rows H' lv us' (kerL (fF p m mod) rows cols.toNat) → OffH H lv → (∀ u, u ∈ us' → OffH H u) → Q (.tup [.agg [.int .i64 cols, lv], .int .i64 0]) H')
    (hQ0 : ∀ H', Ext H H' → matErr p m mod cols rows ≠ 0 → Q (.tup [.agg [.int .i64 0, .nils], .int .i64 (matErr p m mod cols rows)]) H') :
    AC Try.prog 41 [.agg [.int .i64 p, .int .i64 m, md], .agg [.int .i64 cols, v]] H Q := by
  have hsl := isSl_one hv.sl.isSl
  refine at41 (by simp) ?_
  simp (disch := first | assumption | omega) only [↓RP, RQ, TY, loadT, s41, reduceIte, Nat.reduceEqDiff, Nat.reduceAdd]
  refine kNew_intro fun b1 H1 hb1 hE1 hH1 => ?_
  simp (disch := first | assumption | omega) only [↓RP, RQ, TY, loadT, reduceIte, Nat.reduceEqDiff, Nat.reduceAdd]
  refine kNew_intro fun b2 H2 hb2 hE2 hH2 => ?_
  simp (disch := first | assumption | omega) only [↓RP, RQ, TY, loadT, reduceIte, Nat.reduceEqDiff, Nat.reduceAdd]
  refine kNew_intro fun b3 H3 hb3 hE3 hH3 => ?_
  have h13 := hE3.rw (hE2.rw hH1)
  have h23 := hE3.rw hH2
  have hE03 := (hE1.trans hE2).trans hE3
  have f3 := (hE1.trans hE2).free hb3
  simp (disch := first | assumption | omega) only [↓RP, RQ, TY, loadT, reduceIte, Nat.reduceEqDiff, Nat.reduceAdd, h13, h23, u_buildS1M]
  refine kNew_intro fun b4 H4 hb4 hE4 hH4 => ?_
  have hE04 := hE03.trans hE4
  simp (disch := first | assumption | omega) only [↓RP, RQ, TY, loadT, reduceIte, Nat.reduceEqDiff, Nat.reduceAdd]
  refine c_openP A.gi (hm.ext hE04) hlm hH4 (hv.ext hE04) hl hlr (fun bg H5 hE5 he hg => ?_) (fun H5 hE5 he => ?_)
  rotate_left
  · have h35 := hE5.rw (hE4.rw hH3)
    simp (disch := first | assumption | omega) only [↓RP, RQ, TY, loadT, reduceIte, Nat.reduceEqDiff, Nat.reduceAdd, eq_false he, h35, u_fill0, u_st2 (x := .int .i64 0) (y := .nils) h35 rfl rfl, aRes, aResL, aRes1, Option.map_some]
    exact hQ0 _ ((hE04.trans hE5).upd f3 _) he
  obtain ⟨o1, o2, o3, o4, o5, o6⟩ := mat_ok he
  have h25 := hE5.rw (hE4.rw h23)
  have h35 := hE5.rw (hE4.rw hH3)
  have hE05 := hE04.trans hE5
  obtain ⟨n, rfl⟩ : ∃ c : Nat, cols = c := ⟨cols.toNat, by omega⟩
  rw [Int.toNat_natCast] at o5 hQ1
  simp (disch := first | assumption | omega) only [↓RP, RQ, TY, loadT, reduceIte, Nat.reduceEqDiff, Nat.reduceAdd, Int.reduceEq, Int.reduceNe, h25]
  refine c_canonP A hg o1 (hv.ext hE05) o5 o6 (by omega) (by omega) (Nat.le_refl _) fun lv pv us6 H6 hE6 hr6 hp6 of1 of2 of3 => ?_
  have h26 := hE6.rw h25
  have h36 := hE6.rw h35
  have hE06 := hE05.trans hE6
  have hg6 := hg.ext hE6
  have ok := A.fo _ _ _ o1
  have hR := canon_red ok o5 o6
  have hel := canon_els ok o5 o6
  have hker : kerL (fF p m mod) rows n = (canon (fF p m mod) (freeL (fF p m mod) (canon (fF p m mod) rows n).1 (canon (fF p m mod) rows n).2 n) n).1 := rfl
  generalize hl6 : (canon (fF p m mod) rows n).1 = l at *
  generalize hpv : (canon (fF p m mod) rows n).2 = piv at *
  have hpn := hR.nodup
  have hpl := hR.len
  have hpi := hp6.ints
  rw [natsI_length] at hpi
  have hpk : piv.length ≤ n := by have := hR.free_len; omega
  clear hv of1 of2 of3 hE1 hE2 hE3 hE4 hE5 hH1 hH2 hH3 hH4 hb1 hb2 hb3 hb4 h13 h23 h25 h35
  simp (disch := first | assumption | omega) only [↓RP, RQ, TY, loadT, reduceIte, Nat.reduceEqDiff, Nat.reduceAdd, h26]
  refine sw_loop (σ := Nat × AV × List AV) (fun s e H' => e 37 = .int .i64 s.1 ∧ e 36 = .int .i64 n ∧ e 3 = .ptr b2 0 ∧ e 4 = .ptr b3 0 ∧ e 6 = .ptr bg 0 ∧ e 8 = lv ∧ e 9 = pv ∧ e 10 = s.2.1 ∧ s.1 ≤ n ∧ Ext H6 H' ∧ H' b2 = .rw [.int .i64 n, v] ∧ H' b3 = .rw [.int .i64 0, .nils] ∧ Own H6 H' s.2.1 s.2.2 ∧ RowsB H' s.2.2 (freeP (fF p m mod) l piv n s.1)) (fun s => n - s.1) (0, .nils, []) ?_ ?_
  · simp (disch := first | assumption | omega) only [↓RP, RQ, TY, loadT, reduceIte, Nat.reduceEqDiff, Nat.reduceAdd]
    exact ⟨by omega, Ext.refl _, h26, h36, Own.nils, RowsB.nil⟩
  rintro ⟨c, w, ws⟩ e H7 ⟨e37, e36, e3, e4, e6, e8, e9, e10, hc, hE7, h27, h37, ho, hB⟩
  dsimp only at *
  by_cases hlt : (c : Int) < n
  rotate_left
  · have hcn : c = n := by omega
    subst hcn
    have fl := freeP_len (F := fF p m mod) (l := l) (piv := piv) (n := c) (c := c)
    simp (disch := first | assumption | omega) only [↓RP, RQ, TY, loadT, reduceIte, Nat.reduceEqDiff, Nat.reduceAdd, e37, e36, e3, e4, e6, e8, e9, e10, hlt, h27]
    refine c_canonP A (hg6.ext hE7) o1 (hB.rows ho.sl) (free_rect (F := fF p m mod) l piv c) (free_els ok hel piv c) (by omega) (by omega) (Nat.le_refl _) fun lv2 pv2 us8 H8 hE8 hr8 hp8 of1 of2 of3 => ?_
    have h28 := hE8.rw h27
    have h38 := hE8.rw h37
    have i1 : (AV.int .i64 (c : Int)).one = true := rfl
    have i2 := isSl_one hr8.sl.isSl
    simp (disch := first | assumption | omega) only [↓RP, RQ, TY, loadT, reduceIte, Nat.reduceEqDiff, Nat.reduceAdd, e3, e4, h28, h38, fill_mat hr8.sl.isSl, u_st2 h38 i1 i2, aRes, aResL, aRes1, Option.map_some]
    refine hQ1 _ us8 _ (((hE06.trans hE7).trans hE8).upd f3 _) he ?_ (of1.old (hE06.trans hE7)) (fun u hu => (of2 u hu).old (hE06.trans hE7))
    rw [hker]
    exact hr8.updOff of1 of2 (by rw [h37]; exact fun q => by cases q) _
  have hcn : c < n := by omega
  have hbl := hB.len
  have fl := freeP_len (F := fF p m mod) (l := l) (piv := piv) (n := n) (c := c)
  have hfs := freeP_succ (F := fF p m mod) (l := l) (piv := piv) (n := n) (c := c)
  simp (disch := first | assumption | omega) only [↓RP, RQ, TY, loadT, reduceIte, Nat.reduceEqDiff, Nat.reduceAdd, e37, e36, e3, e4, e6, e8, e9, e10, hlt]
  refine c_Contains (hp6.ext hE7) (by rw [natsI_length]; omega) ?_
  rw [natsI_contains]
  cases hct : piv.contains c
  rotate_left
  · rw [hct, if_pos rfl, List.append_nil] at hfs
    simp (disch := first | assumption | omega) only [↓RP, RQ, TY, loadT, reduceIte, Nat.reduceEqDiff, Nat.reduceAdd, e37, e36, e3, e4, e6, e8, e9, e10]
    refine ⟨(c + 1, w, ws), ?_, by dsimp only; omega⟩
    simp (disch := first | assumption | omega) only [↓RP, RQ, TY, loadT, reduceIte, Nat.reduceEqDiff, Nat.reduceAdd, e37, e36, e3, e4, e6, e8, e9, e10]
    exact ⟨by omega, hE7, h27, h37, ho, by rw [hfs]; exact hB⟩
  rw [hct, if_neg (by simp)] at hfs
  simp (disch := first | assumption | omega) only [↓RP, RQ, TY, loadT, reduceIte, Nat.reduceEqDiff, Nat.reduceAdd, e37, e36, e3, e4, e6, e8, e9, e10, h27, Int.toNat_natCast]
  refine kNew_intro fun bx H8 hbx hE8 hH8 => ?_
  rw [ints_rep] at hH8
  have hil := ints_length (List.replicate n (0 : Int))
  rw [List.length_replicate] at hil
  simp (disch := first | assumption | omega) only [↓RP, RQ, TY, loadT, reduceIte, Nat.reduceEqDiff, Nat.reduceAdd, e37, e36, e3, e4, e6, e8, e9, e10, hH8, ints_set]
  have hE8u := hE8.upd hbx (.rw (ints ((List.replicate n 0).set c 1)))
  have h8u : (H8.upd bx (.rw (ints ((List.replicate n 0).set c 1)))) bx = .rw (ints ((List.replicate n 0).set c 1)) := updEq
  generalize H8.upd bx (.rw (ints ((List.replicate n 0).set c 1))) = H9 at *
  have hp9 := (hp6.ext hE7).ext hE8u
  have hpi9 := hp9.ints
  rw [natsI_length] at hpi9
  simp (disch := first | assumption | omega) only [↓RP, RQ, TY, loadT, reduceIte, Nat.reduceEqDiff, Nat.reduceAdd, hpi9]
  refine sw_loop (σ := Nat × List Int) (fun s e H' => e 51 = .int .i64 s.1 ∧ e 50 = .int .i64 piv.length ∧ e 49 = pv ∧ e 12 = .sl bx 0 n (.own 1) ∧ e 11 = .int .i64 c ∧ e 37 = .int .i64 c ∧ e 36 = .int .i64 n ∧ e 3 = .ptr b2 0 ∧ e 4 = .ptr b3 0 ∧ e 6 = .ptr bg 0 ∧ e 8 = lv ∧ e 9 = pv ∧ e 10 = w ∧ s.1 ≤ piv.length ∧ Ext H7 H' ∧ H' bx = .rw (ints s.2) ∧ s.2.length = n ∧
    ∀ j, j < n → s.2.getD j 0 = if j ∈ piv.take s.1 then (fF p m mod).neg (ent l (piv.idxOf j) c) else if j = c then 1 else 0) (fun s => piv.length - s.1) (0, (List.replicate n 0).set c 1) ?_ ?_
  · simp (disch := first | assumption | omega) only [↓RP, RQ, TY, loadT, reduceIte, Nat.reduceEqDiff, Nat.reduceAdd, e37, e36, e3, e4, e6, e8, e9, e10]
    refine ⟨by omega, hE8u, h8u, by simp, fun j hj => ?_⟩
    rw [getD_setN]
    by_cases q : j = c
    · rw [if_pos ⟨q, by simp; omega⟩]; simp [q]
    · rw [if_neg (fun z => q z.1)]; simp [q, List.getD_eq_getElem?_getD, hj]
  clear h8u hE8u hp9 hpi9
  rintro ⟨t, X⟩ e' H10 ⟨g51, g50, g49, g12, g11, g37, g36, g3, g4, g6, g8, g9, g10, ht, hE10, hX, hXl, hXs⟩
  dsimp only at *
  have hE610 := hE7.trans hE10
  have hiX := ints_length X
  by_cases htl : (t : Int) < piv.length
  · have htp : t < piv.length := by omega
    have hp10 := (hp6.ext hE610).ints
    rw [natsI_length] at hp10
    have hr10 := hr6.ext hE610
    have hrw := (hr10.row t (by omega)).ints
    rw [hR.rect t (by omega)] at hrw
    have hlt10 := hR.lt t (by omega)
    have htl2 : t < l.length := by omega
    have he1 : (rowAt l t).getD c 0 = ent l t c := rfl
    simp (disch := first | assumption | omega) only [↓RP, RQ, TY, loadT, reduceIte, Nat.reduceEqDiff, Nat.reduceAdd, g51, g50, g49, g12, g11, g37, g36, g3, g4, g6, g8, g9, g10, htl, hp10, natsI_gd, hr10.run, hrw, he1]
    refine c_GNeg ((hg6.ext hE610)) (hel t c).1 (hel t c).2 ?_
    simp (disch := first | assumption | omega) only [↓RP, RQ, TY, loadT, reduceIte, Nat.reduceEqDiff, Nat.reduceAdd, g51, g50, g49, g12, g11, g37, g36, g3, g4, g6, g8, g9, g10, hX, ints_set]
    refine ⟨(t + 1, X.set (piv.getD t 0) (fneg p m (ent l t c))), ?_, by dsimp only; omega⟩
    simp (disch := first | assumption | omega) only [↓RP, RQ, TY, loadT, reduceIte, Nat.reduceEqDiff, Nat.reduceAdd, g51, g50, g49, g12, g11, g37, g36, g3, g4, g6, g8, g9, g10]
    refine ⟨by omega, hE10.upd hbx _, by simpa using hXl, fun j hj => ?_⟩
    rw [getD_setN]
    by_cases q : j = piv.getD t 0
    · rw [if_pos ⟨q, by omega⟩, if_pos ((mem_take_get htp).mpr (.inr q)), q, idx_of hpn htp]
      rfl
    · rw [if_neg (fun z => q z.1), hXs j hj]
      by_cases z : j ∈ piv.take t
      · rw [if_pos z, if_pos ((mem_take_get htp).mpr (.inl z))]
      · rw [if_neg z, if_neg (fun y => ((mem_take_get htp).mp y).elim z q)]
  · rw [show t = piv.length by omega, List.take_length] at hXs
    have hXe : X = freeRow (fF p m mod) l piv n c := lst_tab hXl hXs
    have hslx : (AV.sl bx 0 n (.own 1)).isSl = true := rfl
    simp (disch := first | assumption | omega) only [↓RP, RQ, TY, loadT, reduceIte, Nat.reduceEqDiff, Nat.reduceAdd, g51, g50, g49, g12, g11, g37, g36, g3, g4, g6, g8, g9, g10, htl, u_buildS1V]
    refine kNew_intro fun b11 H11 hb11 hE11 hH11 => ?_
    have hE711 := hE10.trans hE11
    have hB11 := hB.ext hE711
    have hs11 : Ints H11 (.sl bx 0 n (.own 1)) X := Sl.own (hE11.rw hX) (by omega)
    simp (disch := first | assumption | omega) only [↓RP, RQ, TY, loadT, reduceIte, Nat.reduceEqDiff, Nat.reduceAdd, g51, g50, g49, g12, g11, g37, g36, g3, g4, g6, g8, g9, g10]
    refine kApp_rows (H0 := H6) (ho.ext hE711) (hE7.trans hE711) (Sl.own hH11 rfl) hB.sl (fun u hu => by rw [List.mem_singleton.mp hu]; rfl) (by simp at hbl ⊢; omega) (by simp at hbl ⊢; omega) fun v12 H12 hE12 ho12 keep5 keep6 => ?_
    simp (disch := first | assumption | omega) only [↓RP, RQ, TY, loadT, reduceIte, Nat.reduceEqDiff, Nat.reduceAdd, g51, g50, g49, g12, g11, g37, g36, g3, g4, g6, g8, g9, g10]
    refine ⟨(c + 1, v12, ws ++ [.sl bx 0 n (.own 1)]), ?_, by dsimp only; omega⟩
    simp (disch := first | assumption | omega) only [↓RP, RQ, TY, loadT, reduceIte, Nat.reduceEqDiff, Nat.reduceAdd, g51, g50, g49, g12, g11, g37, g36, g3, g4, g6, g8, g9, g10]
    refine ⟨by omega, hE12, keep6 b2 _ (hE711.rw h27) ⟨.int .i64 n, by simp, rfl⟩, keep6 b3 _ (hE711.rw h37) ⟨.int .i64 0, by simp, rfl⟩, ho12, ?_⟩
    rw [hfs, ← hXe]
    exact (hB11.keep keep5).push (keep5 _ _ hs11)
end Go.Proofs.Yteijojnahpeglaa.AM
/-! The program's codes, first part: own, of, Dual. -/
namespace Go.Proofs.Yteijojnahpeglaa.AM
open Go Go.RowKit
set_option linter.unusedVariables false
set_option linter.unusedSimpArgs false
set_option maxRecDepth 20000
theorem u_st3 {P : Program} {K : Kt} {e : Env} {H : AH} {d : Option Nat} {r : Rst} {ds : List Nat} {blk : Nat} {a b c x y z : AV} (h : H blk = .rw [a, b, c]) (hx : x.one = true) (hy : y.one = true) (hz : z.one = true) :
    kStore P ds (some 3) r e H K d (.ptr blk 0) (.agg [x, y, z]) = kRet P ds r e (H.upd blk (.rw [x, y, z])) K d (.tup []) :=
  u_stAgg h rfl (fun v hv => by simp at hv; rcases hv with rfl | rfl | rfl <;> assumption)
theorem u_st5 {P : Program} {K : Kt} {e : Env} {H : AH} {d : Option Nat} {r : Rst} {ds : List Nat} {blk : Nat} {a b c f g x y z w u : AV} (h : H blk = .rw [a, b, c, f, g]) (hx : x.one = true) (hy : y.one = true) (hz : z.one = true) (hw : w.one = true) (hu : u.one = true) :
    kStore P ds (some 5) r e H K d (.ptr blk 0) (.agg [x, y, z, w, u]) = kRet P ds r e (H.upd blk (.rw [x, y, z, w, u])) K d (.tup []) :=
  u_stAgg h rfl (fun v hv => by simp at hv; rcases hv with rfl | rfl | rfl | rfl | rfl <;> assumption)
theorem u_stG3 {P : Program} {K : Kt} {e : Env} {H : AH} {d : Option Nat} {r : Rst} {ds : List Nat} {blk : Nat} {a b c w : AV} (hw : w.one = true) : kSt P ds blk 2 r e H K d w (.rw [a, b, c]) = kRet P ds r e (H.upd blk (.rw [a, b, w])) K d (.tup []) :=
  st_put hw (show 2 < [a, b, c].length by simp)
theorem c_own {p m : Int} {md : AV} {mod : List Int} {H : AH} {Q : AV → AH → Prop} (hm : Ints H md mod) (hl : mod.length ≤ 1000)
    (hQ : ∀ md' H', Ext H H' → Ints H' md' mod → OffH H md' → md'.isSl = true → Q (.agg [.int .i64 p, .int .i64 m, md']) H') : AC Try.prog 60 [.agg [.int .i64 p, .int .i64 m, md]] H Q := by
  refine at60 (by simp) ?_
  simp (disch := first | assumption | omega) only [↓RP, RQ, TY, loadT, s60, reduceIte, Nat.reduceEqDiff, Nat.reduceAdd]
  refine kNew_intro fun b1 H1 hb1 hE1 hH1 => ?_
  simp (disch := first | assumption | omega) only [↓RP, RQ, TY, loadT, reduceIte, Nat.reduceEqDiff, Nat.reduceAdd]
  refine kNew_intro fun b2 H2 hb2 hE2 hH2 => ?_
  have hE12 := hE1.trans hE2
  simp (disch := first | assumption | omega) only [↓RP, RQ, TY, loadT, reduceIte, Nat.reduceEqDiff, Nat.reduceAdd, hE2.rw hH1]
  refine c_Clone (hm.ext hE12) hl fun w H3 hE3 ho3 => ?_
  have h13 := hE3.rw (hE2.rw hH1)
  have h23 := hE3.rw hH2
  have hw := ho3.sl.isSl
  have i1 := isSl_one hw
  have ip : (AV.int .i64 p).one = true := rfl
  have im : (AV.int .i64 m).one = true := rfl
  have f1 : H b1 = .free := hb1
  have f2 : H b2 = .free := hE1.free hb2
  have n12 : b2 ≠ b1 := fun q => by rw [q, hH1] at hb2; cases hb2
  have h13u : (H3.upd b1 (.rw [.int .i64 p, .int .i64 m, w])) b1 = .rw [.int .i64 p, .int .i64 m, w] := updEq
  have h23u : (H3.upd b1 (.rw [.int .i64 p, .int .i64 m, w])) b2 = .rw [.int .i64 0, .int .i64 0, .nils] := by rw [updNe n12]; exact h23
  have hof := ho3.offH
  simp (disch := first | assumption | omega) only [↓RP, RQ, TY, loadT, reduceIte, Nat.reduceEqDiff, Nat.reduceAdd, h13, u_storeV hw, u_stG3 i1, h13u, u_st3 h23u ip im i1, aRes, aResL, aRes1, Option.map_some]
  refine hQ w _ (((hE12.trans hE3).upd f1 _).upd f2 _) ?_ (hof.old hE12) hw
  exact (ho3.sl.updOff hof (by rw [hE2.rw hH1]; exact fun q => by cases q) _).updOff hof (by rw [hH2]; exact fun q => by cases q) _
theorem fill_code {p m n : Int} {md v z0 z1 z2 z3 z4 : AV} (h1 : md.isSl = true) (h2 : v.isSl = true) : aFill (fun i => [(0, 3), (3, 1), (4, 1)][i]?) [z0, z1, z2, z3, z4] [(0, .agg [.int .i64 p, .int .i64 m, md]), (1, .int .i64 n), (2, v)] = some [.int .i64 p, .int .i64 m, md, .int .i64 n, v] := by
  cases md <;> cases v <;> first | rfl | (simp [AV.isSl] at h1; done) | (simp [AV.isSl] at h2; done)
theorem c_cof {p m cols er : Int} {md lv : AV} {mod : List Int} {H : AH} {Q : AV → AH → Prop} (hm : er = 0 → Ints H md mod) (hl : er = 0 → mod.length ≤ 1000) (hv : er = 0 → lv.isSl = true)
    (hQ : er = 0 → ∀ md' H', Ext H H' → Ints H' md' mod → OffH H md' → Q (.tup [codeV p m md' cols lv, .int .i64 0]) H') (hQ0 : er ≠ 0 → ∀ H', Ext H H' → Q (.tup [codeV 0 0 .nils 0 .nils, .int .i64 er]) H') :
    AC Try.prog 43 [.agg [.int .i64 p, .int .i64 m, md], .agg [.int .i64 cols, lv], .int .i64 er] H Q := by
  refine at43 (by simp) ?_
  simp (disch := first | assumption | omega) only [↓RP, RQ, TY, loadT, s43, reduceIte, Nat.reduceEqDiff, Nat.reduceAdd]
  refine kNew_intro fun b1 H1 hb1 hE1 hH1 => ?_
  simp (disch := first | assumption | omega) only [↓RP, RQ, TY, loadT, reduceIte, Nat.reduceEqDiff, Nat.reduceAdd]
  refine kNew_intro fun b2 H2 hb2 hE2 hH2 => ?_
  simp (disch := first | assumption | omega) only [↓RP, RQ, TY, loadT, reduceIte, Nat.reduceEqDiff, Nat.reduceAdd]
  refine kNew_intro fun b3 H3 hb3 hE3 hH3 => ?_
  have h13 := hE3.rw (hE2.rw hH1)
  have h23 := hE3.rw hH2
  have hE03 := (hE1.trans hE2).trans hE3
  have f3 := (hE1.trans hE2).free hb3
  by_cases he : er = 0
  rotate_left
  · simp (disch := first | assumption | omega) only [↓RP, RQ, TY, loadT, reduceIte, Nat.reduceEqDiff, Nat.reduceAdd, eq_true he, u_fill0, u_st5 (x := .int .i64 0) (y := .int .i64 0) (z := .nils) (w := .int .i64 0) (u := .nils) hH3 rfl rfl rfl rfl rfl, aRes, aResL, aRes1, Option.map_some]
    exact hQ0 he _ (hE03.upd f3 _)
  subst he
  have hvs := hv rfl
  simp (disch := first | assumption | omega) only [↓RP, RQ, TY, loadT, reduceIte, Nat.reduceEqDiff, Nat.reduceAdd, Int.reduceEq, Int.reduceNe, h13, h23]
  refine c_own ((hm rfl).ext hE03) (hl rfl) fun md' H4 hE4 hm4 hof hs4 => ?_
  have h34 := hE4.rw hH3
  have i1 := isSl_one hs4
  have i2 := isSl_one hvs
  have ip : (AV.int .i64 p).one = true := rfl
  have im : (AV.int .i64 m).one = true := rfl
  have ic : (AV.int .i64 cols).one = true := rfl
  simp (disch := first | assumption | omega) only [↓RP, RQ, TY, loadT, reduceIte, Nat.reduceEqDiff, Nat.reduceAdd, hE4.rw h13, hE4.rw h23, fill_code hs4 hvs, u_st5 h34 ip im i1 ic i2, aRes, aResL, aRes1, Option.map_some]
  exact hQ rfl md' _ ((hE03.trans hE4).upd f3 _) (hm4.updOff hof (by rw [hH3]; exact fun q => by cases q) _) (hof.old hE03)
theorem FieldOk.ml {p m : Int} {mod : List Int} (h : FieldOk p m mod) : mod.length ≤ 8 := by
  rcases h.2.2 with ⟨-, rfl⟩ | ⟨-, q, -⟩
  · simp
  · have := (ordr_pos h.1).2.2.1
    omega
theorem c_Dual (A : Alg) {p m n : Int} {md v : AV} {mod : List Int} {us : List AV} {rows : List (List Int)} {H : AH} {Q : AV → AH → Prop} (hm : Ints H md mod) (hlm : mod.length ≤ 9223372036854775807) (hv : Rows H v us rows) (hl : rows.length ≤ 9223372036854775807) (hlr : ∀ i, i < rows.length → (rowAt rows i).length ≤ 9223372036854775807)
    (hQ : codeErr p m mod n rows = 0 → ∀ md' lv us' H', Ext H H' → Ints H' md' mod → Rows H' lv us' (kerL (fF p m mod) rows n.toNat) → Q (.tup [codeV p m md' n lv, .int .i64 0]) H')
    (hQ0 : codeErr p m mod n rows ≠ 0 → ∀ H', Ext H H' → Q (.tup [codeV 0 0 .nils 0 .nils, .int .i64 (codeErr p m mod n rows)]) H') :
    AC Try.prog 25 [codeV p m md n v] H Q := by
  refine at25 (by simp) ?_
  simp (disch := first | assumption | omega) only [↓RP, RQ, TY, loadT, s25, reduceIte, Nat.reduceEqDiff, Nat.reduceAdd]
  refine kNew_intro fun b1 H1 hb1 hE1 hH1 => ?_
  simp (disch := first | assumption | omega) only [↓RP, RQ, TY, loadT, reduceIte, Nat.reduceEqDiff, Nat.reduceAdd]
  refine kNew_intro fun b2 H2 hb2 hE2 hH2 => ?_
  have h12 := hE2.rw hH1
  have hE02 := hE1.trans hE2
  have f2 := hE1.free hb2
  simp (disch := first | assumption | omega) only [↓RP, RQ, TY, loadT, reduceIte, Nat.reduceEqDiff, Nat.reduceAdd, h12]
  refine c_cCheck A (hm.ext hE02) hlm (hv.ext hE02) hl hlr fun H3 hE3 => ?_
  have h13 := hE3.rw h12
  have h23 := hE3.rw hH2
  have hE03 := hE02.trans hE3
  by_cases h0 : codeErr p m mod n rows = 0
  rotate_left
  · simp (disch := first | assumption | omega) only [↓RP, RQ, TY, loadT, reduceIte, Nat.reduceEqDiff, Nat.reduceAdd, eq_true h0, u_fill0, u_st5 (x := .int .i64 0) (y := .int .i64 0) (z := .nils) (w := .int .i64 0) (u := .nils) h23 rfl rfl rfl rfl rfl, aRes, aResL, aRes1, Option.map_some]
    exact hQ0 h0 _ (hE03.upd f2 _)
  obtain ⟨hF, n1, n64, hr, els, kn, -⟩ := code_ok A.fo h0
  have me := matErr_ok hF (by omega) (by omega) (show rows.length ≤ 256 by omega) hr els
  simp (disch := first | assumption | omega) only [↓RP, RQ, TY, loadT, reduceIte, Nat.reduceEqDiff, Nat.reduceAdd, eq_false (show ¬ codeErr p m mod n rows ≠ 0 from fun q => q h0), h13]
  refine c_gen hv.sl.isSl fun H4 hE4 => ?_
  have h14 := hE4.rw h13
  have hE04 := hE03.trans hE4
  simp (disch := first | assumption | omega) only [↓RP, RQ, TY, loadT, reduceIte, Nat.reduceEqDiff, Nat.reduceAdd, h14]
  refine c_Kernel A (hm.ext hE04) hlm (hv.ext hE04) hl hlr (fun lv us' H5 hE5 _ hr5 of1 of2 => ?_) (fun H5 hE5 he => absurd me he)
  have h15 := hE5.rw h14
  have hE05 := hE04.trans hE5
  have hls := hr5.sl.isSl
  have i0 : (AV.int .i64 n).one = true := rfl
  have i1 := isSl_one hls
  simp (disch := first | assumption | omega) only [↓RP, RQ, TY, loadT, reduceIte, Nat.reduceEqDiff, Nat.reduceAdd, h15]
  refine kNew_intro fun b6 H6 hb6 hE6 hH6 => ?_
  have h16 := hE6.rw h15
  have h66 : (H6.upd b6 (.rw [.int .i64 n, lv])) b6 = .rw [.int .i64 n, lv] := updEq
  have hE6u := hE6.upd hb6 (.rw [.int .i64 n, lv])
  have h16u := hE6u.rw h15
  simp (disch := first | assumption | omega) only [↓RP, RQ, TY, loadT, reduceIte, Nat.reduceEqDiff, Nat.reduceAdd, h16, u_st2 hH6 i0 i1, h16u]
  generalize H6.upd b6 (.rw [.int .i64 n, lv]) = H7 at *
  have hE07 := hE05.trans hE6u
  refine c_cof (fun _ => hm.ext hE07) (fun _ => by have := hF.ml; omega) (fun _ => hls) (fun _ md' H8 hE8 hm8 of3 => ?_) (fun q => absurd rfl q)
  have h28 := hE8.rw (hE6u.rw (hE5.rw (hE4.rw h23)))
  have i2 := isSl_one hm8.isSl
  have ip : (AV.int .i64 p).one = true := rfl
  have im : (AV.int .i64 m).one = true := rfl
  simp (disch := first | assumption | omega) only [↓RP, RQ, TY, loadT, reduceIte, Nat.reduceEqDiff, Nat.reduceAdd, u_st5 h28 ip im i2 i0 i1, aRes, aResL, aRes1, Option.map_some]
  have b2n : H4 b2 ≠ .free := by rw [hE4.rw h23]; exact fun q => by cases q
  have b2m : H7 b2 ≠ .free := by rw [hE6u.rw (hE5.rw (hE4.rw h23))]; exact fun q => by cases q
  exact hQ h0 md' lv us' _ ((hE07.trans hE8).upd f2 _) (hm8.updOff of3 b2m _) ((hr5.ext (hE6u.trans hE8)).updOff of1 of2 b2n _)
end Go.Proofs.Yteijojnahpeglaa.AM
/-! The law OrderingDual. -/
namespace Go.Proofs.Yteijojnahpeglaa.AM
open Go Go.RowKit
set_option linter.unusedVariables false
set_option linter.unusedSimpArgs false
set_option maxRecDepth 20000
theorem widL_congr {p m : Int} {mod : List Int} {n : Int} {rows rows' : List (List Int)} (h : ∀ s, dimP p m mod n rows' s = dimP p m mod n rows s) (order : List Int) : ∀ k, widL p m mod n rows' order k = widL p m mod n rows order k
  | 0 => rfl
  | k + 1 => by rw [widL, widL, widL_congr h order k, h]
theorem law_Dual (A : Alg) {p m n : Int} {md v sv : AV} {mod set : List Int} {us : List AV} {rows : List (List Int)} {H : AH} (hm : Ints H md mod) (hlm : mod.length ≤ 9223372036854775807) (hv : Rows H v us rows) (hl : rows.length ≤ 9223372036854775807) (hlr : ∀ i, i < rows.length → (rowAt rows i).length ≤ 9223372036854775807) (hs : Ints H sv set) (hls : set.length ≤ 9223372036854775807) :
    AC Try.prog 9 [codeV p m md n v, sv] H fun r H' => r = .bool true ∧ Ext H H' := by
  refine at9 (by simp) ?_
  simp (disch := first | assumption | omega) only [↓RP, RQ, TY, loadT, s9, reduceIte, Nat.reduceEqDiff, Nat.reduceAdd]
  refine kNew_intro fun b H1 hb hE1 hH1 => ?_
  simp (disch := first | assumption | omega) only [↓RP, RQ, TY, loadT, reduceIte, Nat.reduceEqDiff, Nat.reduceAdd]
  refine c_alive A fun H2 hE2 => ?_
  have hE12 := hE1.trans hE2
  have h2 := hE2.rw hH1
  simp (disch := first | assumption | omega) only [↓RP, RQ, TY, loadT, reduceIte, Nat.reduceEqDiff, Nat.reduceAdd, h2]
  refine c_OWidth A (hm.ext hE12) hlm (hv.ext hE12) (hs.ext hE12) hl hlr hls fun H3 hE3 => ?_
  have hE13 := hE12.trans hE3
  have h3 := hE3.rw h2
  simp (disch := first | assumption | omega) only [↓RP, RQ, TY, loadT, reduceIte, Nat.reduceEqDiff, Nat.reduceAdd, h3]
  refine c_Order48 A (hm.ext hE13) (hv.ext hE13) (hs.ext hE13) hl hlr hls fun H4 hE4 => ?_
  have hE14 := hE13.trans hE4
  have h4 := hE4.rw h3
  by_cases h0 : ordErr p m mod n rows set = 0
  rotate_left
  · simp (disch := first | assumption | omega) only [↓RP, RQ, TY, loadT, reduceIte, Nat.reduceEqDiff, Nat.reduceAdd, eq_true h0]
    exact ⟨rfl, hE14⟩
  obtain ⟨hc, ho⟩ := ordErr_iff.mp h0
  simp (disch := first | assumption | omega) only [↓RP, RQ, TY, loadT, reduceIte, Nat.reduceEqDiff, Nat.reduceAdd, eq_false (show ¬ ordErr p m mod n rows set ≠ 0 from fun q => q h0), h4]
  refine c_Dual A (hm.ext hE14) hlm (hv.ext hE14) hl hlr (fun _ md' lv us' H5 hE5 hm5 hr5 => ?_) (fun q => absurd hc q)
  obtain ⟨hF, n1, n64, hr, els, kn, -⟩ := code_ok A.fo hc
  have ok := A.fo _ _ _ hF
  have hcan := code_canon hc
  have kl := ker_len ok els hr hcan
  have ke := ker_els ok els hr
  have kr := ker_red ok els hr
  have hc' : codeErr p m mod n (kerL (fF p m mod) rows n.toNat) = 0 := code_mk hF n1 n64 (by omega) kr.rect ke (congrArg Prod.fst (red_canon (F := fF p m mod) kr))
  have h0' : ordErr p m mod n (kerL (fF p m mod) rows n.toNat) set = 0 := ordErr_iff.mpr ⟨hc', ho⟩
  have hw : widVal p m mod n (kerL (fF p m mod) rows n.toNat) set = widVal p m mod n rows set := by
    rw [widVal, widVal, if_pos h0, if_pos h0']
    exact widL_congr (fun s => ker_dim ok (by omega) els hr hcan s) set _
  have i1 := isSl_one hr5.sl.isSl
  have i2 := isSl_one hm5.isSl
  have ip : (AV.int .i64 p).one = true := rfl
  have im : (AV.int .i64 m).one = true := rfl
  have i0 : (AV.int .i64 n).one = true := rfl
  have hE15 := hE14.trans hE5
  simp (disch := first | assumption | omega) only [↓RP, RQ, TY, loadT, reduceIte, Nat.reduceEqDiff, Nat.reduceAdd]
  refine kNew_intro fun b6 H6 hb6 hE6 hH6 => ?_
  have h66 : (H6.upd b6 (.rw [.int .i64 p, .int .i64 m, md', .int .i64 n, lv])) b6 = .rw [.int .i64 p, .int .i64 m, md', .int .i64 n, lv] := updEq
  have hE6u := hE6.upd hb6 (.rw [.int .i64 p, .int .i64 m, md', .int .i64 n, lv])
  simp (disch := first | assumption | omega) only [↓RP, RQ, TY, loadT, reduceIte, Nat.reduceEqDiff, Nat.reduceAdd, u_st5 hH6 ip im i2 i0 i1, h66]
  generalize H6.upd b6 (.rw [.int .i64 p, .int .i64 m, md', .int .i64 n, lv]) = H7 at *
  have hE17 := hE15.trans hE6u

  refine c_OWidth A (hm5.ext hE6u) hlm (hr5.ext hE6u) (hs.ext hE17) (by omega) (fun i hi => by rw [kr.rect i hi]; omega) hls fun H8 hE8 => ?_
  rw [h0', hw, h0]
  simp (disch := first | assumption | omega) only [↓RP, RQ, TY, loadT, reduceIte, Nat.reduceEqDiff, Nat.reduceAdd, Int.reduceEq]
  exact ⟨rfl, hE17.trans hE8⟩
end Go.Proofs.Yteijojnahpeglaa.AM
