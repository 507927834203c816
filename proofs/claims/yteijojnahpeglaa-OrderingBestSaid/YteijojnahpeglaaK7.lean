/- Helpers. The products of the program and of the reference, as vectors (plain Lean). · The residues are a commutative ring; both products are one (plain Lean). · Powers of a generator; the algebra from: every field has a generator, and only fields have (plain Lean). · What has a generator has no divisors (plain Lean). · Products, powers and divisions of lists of digits that the kernel can work out (plain Lean). · The check of a certificate, and what it shows (plain Lean). · PRINTED by mkfld.py: for each size of field a list of certificates, one for each modulus: a generator, or a divisor; the kernel checks them. · PRINTED by mkfld.py: every field has a generator: by the tables. · The row's wrap and the algebra of the small fields, together: what each law's proof imports. · The law OrderingSteps. · The law OrderingModular. · The program's orderings, third part: Greedy; the greedy order as a list. · The reference's words: Compare, Same; its greedy order. · The program's orderings, fourth part: ordered, width, Width; the reference's IsOrder, Order, Width. · The widths of an order: the program's width and Width, the reference's Width. · Bits of whole numbers: what the operators do to one bit; the lowest bit (plain law). · The table of the least widths over all sets (plain law). · The program's tables of a short code. · The reference's members, Dimensions and Table of a short code. · Check of an order with its table: the program's and the reference's. · The laws OrderingAccepts and OrderingSound. · The least order of the least width (plain law). · Best: the program's and the reference's. -/
import Derived.Test.YteijojnahpeglaaK6
import Derived.KernelRfl
/-! The products of the program and of the reference, as vectors (plain Lean). -/
namespace Go.Proofs.Yteijojnahpeglaa.AM
open Go Go.RowKit
set_option linter.unusedVariables false
set_option linter.unusedSimpArgs false
def vecZ (l : List Int) : ZV := fun j => l.getD j 0
/-- the digits of x, as a vector -/
def vecX (p : Int) (n : Nat) (x : Int) : ZV := vecZ (digs p n x)
theorem digs_val {p : Int} (hp : 0 < p) : ∀ {ds : List Int}, Rng p ds → digs p ds.length (val p ds) = ds
  | [], _ => rfl
  | d :: ds, h => by
    have h0 := h 0
    simp only [List.getD_cons_zero] at h0
    have e1 : (d + p * val p ds) % p = d := by
      rw [Int.add_mul_emod_self_left]
      exact Int.emod_eq_of_lt h0.1 h0.2
    have e2 : (d + p * val p ds) / p = val p ds := by
      rw [Int.add_mul_ediv_left _ _ (by omega), Int.ediv_eq_zero_of_lt h0.1 h0.2, Int.zero_add]
    rw [val, List.length_cons, digs, e1, e2, digs_val hp h.tail]
theorem val_digs {p : Int} (hp : 0 < p) : ∀ (n : Nat) {x : Int}, 0 ≤ x → x < p ^ n → val p (digs p n x) = x
  | 0, x, h0, h1 => by simp at h1; simp [digs, val]; omega
  | n + 1, x, h0, h1 => by
    obtain ⟨h2, h3⟩ := div_pow hp h0 h1
    rw [digs, val, val_digs hp n h2 h3]
    have := Int.emod_add_mul_ediv x p
    omega
theorem vec_inj {p : Int} (hp : 0 < p) {n : Nat} {x y : Int} (hx : 0 ≤ x) (hx' : x < p ^ n) (hy : 0 ≤ y) (hy' : y < p ^ n) (h : cg p n (vecX p n x) (vecX p n y)) : x = y := by
  rw [← val_digs hp n hx hx', ← val_digs hp n hy hy']
  congr 1
  refine List.ext_getElem (by rw [digs_length, digs_length]) fun j h1 h2 => ?_
  rw [digs_length] at h1
  have h3 := digs_rng hp n x j
  have h4 := digs_rng hp n y j
  obtain ⟨k, hk⟩ := h j h1
  simp only [vecX, vecZ] at hk
  have : (digs p n x).getD j 0 = (digs p n y).getD j 0 := by
    have k0 : k = 0 := by
      by_cases hk0 : k = 0
      · exact hk0
      · exfalso
        rcases Int.lt_or_gt_of_ne hk0 with hlt | hgt
        · have : p * k ≤ p * (-1) := Int.mul_le_mul_of_nonneg_left (by omega) (by omega)
          omega
        · have : p * 1 ≤ p * k := Int.mul_le_mul_of_nonneg_left (by omega) (by omega)
          omega
    rw [k0] at hk
    omega
  simpa [List.getD_eq_getElem?_getD, h1, h2, digs_length] using this
theorem vec_val {p : Int} (hp : 0 < p) {n : Nat} {ds : List Int} (hl : ds.length = n) (hr : Rng p ds) : vecX p n (val p ds) = vecZ ds := by
  rw [vecX, ← hl, digs_val hp hr]
section
variable {p : Int} {n : Nat} {mod : List Int}
theorem horn_cg (hp : 0 < p) (hn : 1 ≤ n) {a b : List Int} (hb : b.length = n) : ∀ k, k ≤ n → cg p n (vecZ (horn p n mod a b k)) (act n mod (b.drop (n - k)) (vecZ a))
  | 0, _ => by
    rw [Nat.sub_zero, List.drop_of_length_le (by omega)]
    intro j hj
    have : vecZ (horn p n mod a b 0) j = 0 := by
      show (List.replicate n (0 : Int)).getD j 0 = 0
      simp [List.getD_eq_getElem?_getD, hj]
    rw [this]
    exact ⟨0, by simp [act, zzv]⟩
  | k + 1, hk => by
    have ih := horn_cg hp hn (a := a) hb k (by omega)
    rw [show horn p n mod a b (k + 1) = hornStep p n mod a (b.getD (n - 1 - k) 0) (horn p n mod a b k) from rfl]
    rw [show n - (k + 1) = n - 1 - k by omega, drop_getD (show n - 1 - k < b.length by omega), show n - 1 - k + 1 = n - k by omega, act]
    generalize horn p n mod a b k = out at *
    generalize b.getD (n - 1 - k) 0 = bi
    refine cg.trans (v := zadd (zsm bi (vecZ a)) (Tm n mod (vecZ out))) (fun j hj => ?_) ((cg.refl _).add (ih.T hn))
    have e : vecZ (hornStep p n mod a bi out) j = ((if j = 0 then 0 else out.getD (j - 1) 0) + (p - out.getD (n - 1) 0) * mod.getD j 0 + bi * a.getD j 0) % p := by
      show (hornStep p n mod a bi out).getD j 0 = _
      rw [hornStep, tab_get hj]
    rw [e]
    obtain ⟨q, hq⟩ := emod_cg p ((if j = 0 then 0 else out.getD (j - 1) 0) + (p - out.getD (n - 1) 0) * mod.getD j 0 + bi * a.getD j 0)
    simp only [zadd, zsm, Tm, if_pos hj, vecZ]
    exact ⟨q + mod.getD j 0, by grind⟩
theorem pmul_vec {m : Int} (hp : 0 < p) (hn : 1 ≤ m.toNat) (x y : Int) : cg p m.toNat (vecX p m.toNat (pmul p m mod x y)) (act m.toNat mod (digs p m.toNat y) (vecX p m.toNat x)) := by
  rw [pmul, vec_val hp (horn_length _ _ _ _ _ _) (horn_rng hp _ _ _ _ _)]
  have := horn_cg (mod := mod) hp hn (a := digs p m.toNat x) (b := digs p m.toNat y) (digs_length _ _ _) m.toNat (Nat.le_refl _)
  rw [Nat.sub_self, List.drop_zero] at this
  exact this
/-- one entry changes -/
theorem set_cg (hn : 1 ≤ n) {c : List Int} {k : Nat} (hk : k < c.length) (s : Int) (v : ZV) : cg p n (act n mod (c.set k ((c.getD k 0 + s) % p)) v) (zadd (act n mod c v) (zsm s (Tp n mod k v))) := by
  rw [act_set _ _ _ _ hk]
  refine (cg.refl _).add (cg.sm ?_ (cg.refl _))
  obtain ⟨q, hq⟩ := emod_cg p (c.getD k 0 + s)
  exact ⟨q, by grind⟩
theorem mulIn_cg (hn : 1 ≤ n) {a b : List Int} (hb : b.length = n) {i : Nat} (hi : i < n) {c : List Int} (hc : c.length = 2 * n - 1) : ∀ j, j ≤ n →
    (upto (mulIn p a b i) j c).length = 2 * n - 1 ∧ cg p n (act n mod (upto (mulIn p a b i) j c) e0v) (zadd (act n mod c e0v) (zsm (a.getD i 0) (Tp n mod i (act n mod (b.take j) e0v))))
  | 0, _ => by
    refine ⟨hc, ?_⟩
    have : zadd (act n mod c e0v) (zsm (a.getD i 0) (Tp n mod i (act n mod (b.take 0) e0v))) = act n mod c e0v := by
      have e : ∀ k, Tp n mod k zzv = zzv := fun k => by
        induction k with
        | zero => rfl
        | succ k ih => rw [Tp, ih, Tm_zero]
      rw [List.take_zero, act, e]
      funext j
      simp [zadd, zsm, zzv]
    rw [this]
    exact cg.refl _
  | j + 1, hj => by
    obtain ⟨h1, h2⟩ := mulIn_cg hn hb hi hc j (by omega)
    rw [upto_succ, mulIn]
    refine ⟨by rw [List.length_set, h1], (set_cg hn (by omega) _ _).trans ?_⟩
    refine (h2.add (cg.refl _)).trans ?_
    rw [act_take (by omega), Tp_add, Tp_sm, Tp_Tp]
    intro q hq
    simp only [zadd, zsm]
    exact ⟨0, by grind⟩
theorem mulP_cg (hn : 1 ≤ n) {a b : List Int} (ha : a.length = n) (hb : b.length = n) : ∀ i, i ≤ n →
    (upto (fun i c => upto (mulIn p a b i) n c) i (List.replicate (2 * n - 1) 0)).length = 2 * n - 1 ∧ cg p n (act n mod (upto (fun i c => upto (mulIn p a b i) n c) i (List.replicate (2 * n - 1) 0)) e0v) (act n mod (a.take i) (act n mod b e0v))
  | 0, _ => by
    refine ⟨by simp [upto], ?_⟩
    rw [upto_zero, act_zeros, List.take_zero, act]
    exact cg.refl _
  | i + 1, hi => by
    obtain ⟨h1, h2⟩ := mulP_cg hn ha hb i (by omega)
    rw [upto_succ]
    obtain ⟨h3, h4⟩ := mulIn_cg (p := p) (mod := mod) hn (a := a) hb (show i < n by omega) h1 n (Nat.le_refl _)
    refine ⟨h3, h4.trans ?_⟩
    rw [List.take_of_length_le (show b.length ≤ n by omega), act_take (show i < a.length by omega)]
    exact h2.add (cg.refl _)
theorem redIn_cg (hn : 1 ≤ n) {I : Nat} (hI : n ≤ I) {c : List Int} (hc : I < c.length) : ∀ j, j ≤ n →
    (upto (redIn p n mod I) j c).length = c.length ∧ (upto (redIn p n mod I) j c).getD I 0 = c.getD I 0 ∧
      cg p n (act n mod ((upto (redIn p n mod I) j c).take I) e0v) (zadd (act n mod (c.take I) e0v) (zsm (- c.getD I 0) (Tp n mod (I - n) (fun q => if q < j then mod.getD q 0 else 0))))
  | 0, _ => by
    refine ⟨rfl, rfl, ?_⟩
    have e : (fun q => if q < 0 then mod.getD q 0 else 0 : ZV) = zzv := funext fun q => by simp [zzv]
    have e2 : ∀ k, Tp n mod k zzv = zzv := fun k => by
      induction k with
      | zero => rfl
      | succ k ih => rw [Tp, ih, Tm_zero]
    rw [upto_zero, e, e2]
    intro q hq
    simp only [zadd, zsm, zzv]
    exact ⟨0, by grind⟩
  | j + 1, hj => by
    obtain ⟨h1, h2, h3⟩ := redIn_cg hn hI hc j (by omega)
    rw [upto_succ, redIn]
    generalize upto (redIn p n mod I) j c = d at *
    have hk : I - n + j < I := by omega
    refine ⟨by rw [List.length_set, h1], ?_, ?_⟩
    · rw [getD_set, if_neg (by omega), h2]
    · rw [List.take_set, h2]
      have hkt : I - n + j < (d.take I).length := by rw [List.length_take]; omega
      have eg : d.getD (I - n + j) 0 = (d.take I).getD (I - n + j) 0 := by simp [List.getD_eq_getElem?_getD, List.getElem?_take, hk]
      rw [eg]
      refine (set_cg hn hkt _ _).trans ?_
      refine (h3.add (cg.refl _)).trans ?_
      have e3 : (fun q => if q < j + 1 then mod.getD q 0 else 0 : ZV) = zadd (fun q => if q < j then mod.getD q 0 else 0) (zsm (mod.getD j 0) (Tp n mod j e0v)) := by
        rw [Tp_e0 (by omega)]
        funext q
        simp only [zadd, zsm]
        by_cases h4 : q < j
        · rw [if_pos (by omega), if_pos h4, if_neg (by omega)]; omega
        · by_cases h5 : q = j
          · subst h5; rw [if_pos (by omega), if_neg h4, if_pos rfl]; omega
          · rw [if_neg (by omega), if_neg h4, if_neg h5]; omega
      rw [e3, Tp_add, Tp_sm, Tp_Tp]
      intro q hq
      simp only [zadd, zsm]
      exact ⟨mod.getD j 0 * Tp n mod (I - n + j) e0v q, by grind⟩
theorem redP_cg (hn : 1 ≤ n) {c : List Int} (hc : c.length = 2 * n - 1) : ∀ k, k ≤ n - 1 →
    (upto (fun k c => upto (redIn p n mod (2 * n - 2 - k)) n c) k c).length = 2 * n - 1 ∧
      cg p n (act n mod ((upto (fun k c => upto (redIn p n mod (2 * n - 2 - k)) n c) k c).take (2 * n - 1 - k)) e0v) (act n mod c e0v)
  | 0, _ => by
    refine ⟨hc, ?_⟩
    rw [upto_zero, Nat.sub_zero, List.take_of_length_le (by omega)]
    exact cg.refl _
  | k + 1, hk => by
    obtain ⟨h1, h2⟩ := redP_cg hn hc k (by omega)
    rw [upto_succ]
    generalize upto (fun k c => upto (redIn p n mod (2 * n - 2 - k)) n c) k c = d at *
    obtain ⟨h3, h4, h5⟩ := redIn_cg (p := p) (mod := mod) hn (I := 2 * n - 2 - k) (by omega) (c := d) (by omega) n (Nat.le_refl _)
    refine ⟨by rw [h3, h1], ?_⟩
    rw [show 2 * n - 1 - (k + 1) = 2 * n - 2 - k by omega]
    refine h5.trans (cg.trans ?_ h2)
    rw [show 2 * n - 1 - k = (2 * n - 2 - k) + 1 by omega, act_take (by omega)]
    refine (cg.refl _).add ?_
    have e : Tp n mod (2 * n - 2 - k) e0v = zsm (-1) (Tp n mod (2 * n - 2 - k - n) (fun q => if q < n then mod.getD q 0 else 0)) := by
      rw [← Tp_sm]
      have : (zsm (-1) (fun q => if q < n then mod.getD q 0 else 0) : ZV) = Tp n mod n e0v := by
        rw [Tn_e0 hn]
        funext q
        simp only [zsm]
        split <;> omega
      rw [this, Tp_Tp]
      congr 1
      omega
    rw [e]
    intro q hq
    simp only [zsm]
    exact ⟨0, by grind⟩
theorem fmul_vec {m : Int} (hp : 0 < p) (hn : 1 ≤ m.toNat) (x y : Int) : cg p m.toNat (vecX p m.toNat (fmul p m mod x y)) (act m.toNat mod (digs p m.toNat x) (vecX p m.toNat y)) := by
  have l1 := digs_length p m.toNat x
  have l2 := digs_length p m.toNat y
  have r1 := digs_rng hp m.toNat x
  have r2 := digs_rng hp m.toNat y
  rw [fmul, vecX]
  generalize digs p m.toNat x = a at *
  rw [show vecX p m.toNat y = act m.toNat mod (digs p m.toNat y) e0v by rw [act_e0 (by omega)]; rfl]
  generalize digs p m.toNat y = b at *
  generalize m.toNat = n at *
  obtain ⟨h1, h2⟩ := mulP_cg (p := p) (mod := mod) hn l1 l2 n (Nat.le_refl _)
  have hok := upto_ok (L := 2 * n - 1) _ (fun i c' hc' => upto_ok _ (mulIn_ok hp a b i) hc' n) (show (List.replicate (2 * n - 1) (0 : Int)).length = 2 * n - 1 ∧ Rng p (List.replicate (2 * n - 1) 0) from ⟨by simp, Rng.rep hp _⟩) n
  obtain ⟨h3, h4⟩ := redP_cg (p := p) (mod := mod) hn h1 (n - 1) (Nat.le_refl _)
  have hok2 := upto_ok (L := 2 * n - 1) _ (fun k c' hc' => upto_ok _ (redIn_ok hp (n := n) mod (2 * n - 2 - k)) hc' n) hok (n - 1)
  rw [show 2 * n - 1 - (n - 1) = n by omega] at h4
  change (redP p n mod (mulP p n a b)).length = _ at h3
  change cg p n (act n mod ((redP p n mod (mulP p n a b)).take n) e0v) _ at h4
  change _ ∧ Rng p (redP p n mod (mulP p n a b)) at hok2
  generalize redP p n mod (mulP p n a b) = c at *
  have t6 : (c.take n).length = n := by simp; omega
  have t5 : Rng p (c.take n) := fun q => by
    by_cases hq : q < n
    · have := hok2.2 q
      simpa [List.getD_eq_getElem?_getD, List.getElem?_take, hq] using this
    · rw [getD_len _ (by omega)]
      exact ⟨by omega, hp⟩
  have e := vec_val hp t6 t5
  rw [vecX] at e
  rw [e]
  have e2 : vecZ (c.take n) = act n mod (c.take n) e0v := by rw [act_e0 (by omega)]; rfl
  rw [e2]
  refine h4.trans (h2.trans ?_)
  rw [List.take_of_length_le (by omega)]
  exact cg.refl _
end
end Go.Proofs.Yteijojnahpeglaa.AM
/-! The residues are a commutative ring; both products are one (plain Lean). -/
namespace Go.Proofs.Yteijojnahpeglaa.AM
open Go Go.RowKit
set_option linter.unusedVariables false
set_option linter.unusedSimpArgs false
/-- sizes that are in range -/
structure PM8 (p m : Int) : Prop where
  p2 : 2 ≤ p
  m1 : 1 ≤ m.toNat
  q : ordr p m = p ^ m.toNat
theorem pm8 {p m : Int} (h : ordr p m ≠ 0) : PM8 p m := by
  obtain ⟨o1, o2, o3, o4, o5⟩ := ordr_pos h
  exact ⟨o1, by omega, o5⟩
section
variable {p m : Int} {mod : List Int} (h : PM8 p m)
def El (p m x : Int) : Prop := 0 ≤ x ∧ x < ordr p m
theorem PM8.inj (h : PM8 p m) {x y : Int} (hx : El p m x) (hy : El p m y) (hv : cg p m.toNat (vecX p m.toNat x) (vecX p m.toNat y)) : x = y := by
  have := h.q
  exact vec_inj (by have := h.p2; omega) hx.1 (by rw [← this]; exact hx.2) hy.1 (by rw [← this]; exact hy.2) hv
theorem PM8.pos (h : PM8 p m) : 0 < p := by have := h.p2; omega
theorem PM8.val_el (h : PM8 p m) {ds : List Int} (hl : ds.length = m.toNat) (hr : Rng p ds) : El p m (val p ds) := by
  have := val_lt h.pos hr
  rw [hl, ← h.q] at this
  exact this
theorem addL_ok (h : PM8 p m) (x y : Int) : (addL p (digs p m.toNat x) (digs p m.toNat y)).length = m.toNat ∧ Rng p (addL p (digs p m.toNat x) (digs p m.toNat y)) :=
  ⟨by rw [addL, tab_length, digs_length], tab_rng h.pos fun i _ => ⟨Int.emod_nonneg _ (by have := h.pos; omega), Int.emod_lt_of_pos _ h.pos⟩⟩
theorem negL_ok (h : PM8 p m) (x : Int) : (negL p (digs p m.toNat x)).length = m.toNat ∧ Rng p (negL p (digs p m.toNat x)) :=
  ⟨by rw [negL, tab_length, digs_length], tab_rng h.pos fun i _ => ⟨Int.emod_nonneg _ (by have := h.pos; omega), Int.emod_lt_of_pos _ h.pos⟩⟩
theorem fadd_el (h : PM8 p m) (x y : Int) : El p m (fadd p m x y) := h.val_el (addL_ok h x y).1 (addL_ok h x y).2
theorem fneg_el (h : PM8 p m) (x : Int) : El p m (fneg p m x) := h.val_el (negL_ok h x).1 (negL_ok h x).2
theorem fmul_el (h : PM8 p m) (x y : Int) : El p m (fmul p m mod x y) := by
  have hp := h.pos
  have hn := h.m1
  rw [fmul]
  have l1 := digs_length p m.toNat x
  have l2 := digs_length p m.toNat y
  have q0 := h.q
  refine h.val_el ?_ ?_
  · have hok := upto_ok (L := 2 * m.toNat - 1) _ (fun i c' hc' => upto_ok _ (mulIn_ok hp (digs p m.toNat x) (digs p m.toNat y) i) hc' m.toNat) (show (List.replicate (2 * m.toNat - 1) (0 : Int)).length = 2 * m.toNat - 1 ∧ Rng p (List.replicate (2 * m.toNat - 1) 0) from ⟨by simp, Rng.rep hp _⟩) m.toNat
    have hok2 := upto_ok (L := 2 * m.toNat - 1) _ (fun k c' hc' => upto_ok _ (redIn_ok hp (n := m.toNat) mod (2 * m.toNat - 2 - k)) hc' m.toNat) hok (m.toNat - 1)
    change (redP p m.toNat mod (mulP p m.toNat _ _)).length = _ ∧ _ at hok2
    rw [List.length_take, hok2.1]
    omega
  · have hok := upto_ok (L := 2 * m.toNat - 1) _ (fun i c' hc' => upto_ok _ (mulIn_ok hp (digs p m.toNat x) (digs p m.toNat y) i) hc' m.toNat) (show (List.replicate (2 * m.toNat - 1) (0 : Int)).length = 2 * m.toNat - 1 ∧ Rng p (List.replicate (2 * m.toNat - 1) 0) from ⟨by simp, Rng.rep hp _⟩) m.toNat
    have hok2 := upto_ok (L := 2 * m.toNat - 1) _ (fun k c' hc' => upto_ok _ (redIn_ok hp (n := m.toNat) mod (2 * m.toNat - 2 - k)) hc' m.toNat) hok (m.toNat - 1)
    intro q
    by_cases hq : q < m.toNat
    · have := hok2.2 q
      simpa [redP, mulP, List.getD_eq_getElem?_getD, List.getElem?_take, hq] using this
    · rw [getD_len _ (by simp; omega)]
      exact ⟨by omega, hp⟩
theorem fadd_vec (h : PM8 p m) (x y : Int) : cg p m.toNat (vecX p m.toNat (fadd p m x y)) (zadd (vecX p m.toNat x) (vecX p m.toNat y)) := by
  rw [fadd, vec_val h.pos (addL_ok h x y).1 (addL_ok h x y).2]
  intro j hj
  show p ∣ (addL p _ _).getD j 0 - _
  rw [addL, tab_get (by rw [digs_length]; exact hj)]
  exact emod_cg _ _
theorem fneg_vec (h : PM8 p m) (x : Int) : cg p m.toNat (vecX p m.toNat (fneg p m x)) (zsm (-1) (vecX p m.toNat x)) := by
  rw [fneg, vec_val h.pos (negL_ok h x).1 (negL_ok h x).2]
  intro j hj
  show p ∣ (negL p _).getD j 0 - _
  rw [negL, tab_get (by rw [digs_length]; exact hj)]
  obtain ⟨k, hk⟩ := emod_cg p (p - (digs p m.toNat x).getD j 0)
  exact ⟨k + 1, by simp only [zsm, vecX, vecZ]; grind⟩
theorem act_x (h : PM8 p m) (x : Int) : act m.toNat mod (digs p m.toNat x) e0v = vecX p m.toNat x := by
  rw [act_e0 (by rw [digs_length]; exact Nat.le_refl _)]; rfl
theorem fmul_comm (h : PM8 p m) (x y : Int) : fmul p m mod x y = fmul p m mod y x := by
  refine h.inj (fmul_el h _ _) (fmul_el h _ _) ((fmul_vec h.pos h.m1 x y).trans (cg.trans ?_ (fmul_vec h.pos h.m1 y x).symm))
  rw [← act_x h (mod := mod) y, ← act_x h (mod := mod) x, act_comm]
  exact cg.refl _
theorem pmul_eq (ho : ordr p m ≠ 0) (x y : Int) : pmul p m mod x y = fmul p m mod x y := by
  have h := pm8 ho
  refine h.inj (pmul_el ho x y) (fmul_el h _ _) ?_
  rw [fmul_comm h]
  exact (pmul_vec h.pos h.m1 x y).trans (fmul_vec h.pos h.m1 y x).symm
theorem fmul_assoc (h : PM8 p m) (x y z : Int) : fmul p m mod (fmul p m mod x y) z = fmul p m mod x (fmul p m mod y z) := by
  rw [fmul_comm h _ z, fmul_comm h y z]
  refine h.inj (fmul_el h _ _) (fmul_el h _ _) ?_
  refine (fmul_vec h.pos h.m1 _ _).trans (cg.trans ?_ (fmul_vec h.pos h.m1 _ _).symm)
  refine ((fmul_vec h.pos h.m1 x y).act h.m1 _).trans (cg.trans ?_ ((fmul_vec h.pos h.m1 z y).act h.m1 _).symm)
  rw [act_comm]
  exact cg.refl _
theorem fmul_add (h : PM8 p m) (x y z : Int) : fmul p m mod x (fadd p m y z) = fadd p m (fmul p m mod x y) (fmul p m mod x z) := by
  refine h.inj (fmul_el h _ _) (fadd_el h _ _) ?_
  refine (fmul_vec h.pos h.m1 _ _).trans (cg.trans ?_ (fadd_vec h _ _).symm)
  refine ((fadd_vec h y z).act h.m1 _).trans (cg.trans ?_ ((fmul_vec h.pos h.m1 x y).add (fmul_vec h.pos h.m1 x z)).symm)
  rw [act_add]
  exact cg.refl _
theorem fadd_comm (h : PM8 p m) (x y : Int) : fadd p m x y = fadd p m y x := by
  refine h.inj (fadd_el h _ _) (fadd_el h _ _) ((fadd_vec h x y).trans (cg.trans ?_ (fadd_vec h y x).symm))
  intro j _
  exact ⟨0, by simp only [zadd]; grind⟩
theorem fadd_assoc (h : PM8 p m) (x y z : Int) : fadd p m (fadd p m x y) z = fadd p m x (fadd p m y z) := by
  refine h.inj (fadd_el h _ _) (fadd_el h _ _) ((fadd_vec h _ z).trans (((fadd_vec h x y).add (cg.refl _)).trans (cg.trans ?_ ((cg.refl _).add (fadd_vec h y z)).symm)) |>.trans (fadd_vec h x _).symm)
  intro j _
  exact ⟨0, by simp only [zadd]; grind⟩
theorem zero_el (h : PM8 p m) : El p m 0 := ⟨Int.le_refl _, by rw [h.q]; exact Int.pow_pos h.pos⟩
theorem one_el (h : PM8 p m) : El p m 1 := by
  refine ⟨by omega, ?_⟩
  have h1 : p ^ 1 ≤ p ^ m.toNat := ipow_mono (by have := h.p2; omega) h.m1
  rw [show p ^ 1 = p by rw [Int.pow_succ, Int.pow_zero, Int.one_mul]] at h1
  have := h.p2
  rw [h.q]; omega
theorem digs_zero (p : Int) : ∀ n, digs p n 0 = List.replicate n 0
  | 0 => rfl
  | n + 1 => by rw [digs, Int.zero_ediv, digs_zero p n, List.replicate_succ]; simp
theorem vec_zero (n : Nat) : vecX p n 0 = zzv := by
  rw [vecX, digs_zero]
  funext j
  show (List.replicate n (0 : Int)).getD j 0 = 0
  rw [List.getD_eq_getElem?_getD, List.getElem?_replicate]
  split <;> rfl
theorem vec_one (h : PM8 p m) : vecX p m.toNat 1 = e0v := by
  obtain ⟨k, hk⟩ : ∃ k, m.toNat = k + 1 := ⟨m.toNat - 1, by have := h.m1; omega⟩
  have h1 : (1 : Int) % p = 1 := Int.emod_eq_of_lt (by omega) (by have := h.p2; omega)
  have h2 : (1 : Int) / p = 0 := Int.ediv_eq_zero_of_lt (by omega) (by have := h.p2; omega)
  rw [vecX, hk, digs, h1, h2, digs_zero]
  funext j
  cases j with
  | zero => rfl
  | succ j =>
    show (List.replicate k (0 : Int)).getD j 0 = _
    rw [List.getD_eq_getElem?_getD, List.getElem?_replicate]
    simp only [e0v]
    split <;> rfl
theorem fadd_zero (h : PM8 p m) {x : Int} (hx : El p m x) : fadd p m x 0 = x := by
  refine h.inj (fadd_el h _ _) hx ((fadd_vec h x 0).trans ?_)
  rw [vec_zero]
  intro j _
  exact ⟨0, by simp only [zadd, zzv]; grind⟩
theorem fadd_neg (h : PM8 p m) (x : Int) : fadd p m x (fneg p m x) = 0 := by
  refine h.inj (fadd_el h _ _) (zero_el h) ((fadd_vec h x _).trans (((cg.refl _).add (fneg_vec h x)).trans ?_))
  rw [vec_zero]
  intro j _
  exact ⟨0, by simp only [zadd, zsm, zzv]; grind⟩
theorem fmul_one (h : PM8 p m) {x : Int} (hx : El p m x) : fmul p m mod x 1 = x := by
  refine h.inj (fmul_el h _ _) hx ((fmul_vec h.pos h.m1 x 1).trans ?_)
  rw [vec_one h, act_x h]
  exact cg.refl _
theorem fmul_zero (h : PM8 p m) (x : Int) : fmul p m mod x 0 = 0 := by
  refine h.inj (fmul_el h _ _) (zero_el h) ((fmul_vec h.pos h.m1 x 0).trans ?_)
  rw [vec_zero]
  have := act_sm (n := m.toNat) (mod := mod) (digs p m.toNat x) 0 zzv
  have e : ∀ v : ZV, zsm 0 v = zzv := fun v => funext fun j => by simp [zsm, zzv]
  rw [e, e] at this
  rw [this]
  exact cg.refl _
end
end Go.Proofs.Yteijojnahpeglaa.AM
/-! Powers of a generator; the algebra from: every field has a generator, and only fields have (plain Lean). -/
namespace Go.Proofs.Yteijojnahpeglaa.AM
open Go Go.RowKit
set_option linter.unusedVariables false
set_option linter.unusedSimpArgs false
theorem nodup_len {l : List Nat} {N : Nat} (hn : l.Nodup) (hl : ∀ x, x ∈ l → x < N) : l.length ≤ N := by
  have : l.Perm ((List.range N).filter fun x => l.contains x) := (List.perm_ext_iff_of_nodup hn (filter_nodup' _ _)).mpr fun a => by
    simp only [List.mem_filter, List.mem_range, List.contains_iff_mem]
    exact ⟨fun h => ⟨hl a h, h⟩, fun h => h.2⟩
  have h2 := List.length_filter_le (fun x => l.contains x) (List.range N)
  rw [this.length_eq]
  simpa using h2 where
  filter_nodup' (n : Nat) (s : Nat → Bool) : ((List.range n).filter s).Nodup := List.Nodup.sublist List.filter_sublist List.nodup_range
theorem pigeon {N : Nat} {f : Nat → Nat} (hf : ∀ i, i < N → f i < N) (hi : ∀ i j, i < j → j < N → f i ≠ f j) {y : Nat} (hy : y < N) : ∃ i, i < N ∧ f i = y := by
  apply Classical.byContradiction
  intro hc
  have hnd : (y :: (List.range N).map f).Nodup := by
    rw [List.nodup_cons]
    refine ⟨fun hm => ?_, ?_⟩
    · obtain ⟨i, h1, h2⟩ := List.mem_map.mp hm
      exact hc ⟨i, by simpa using h1, h2⟩
    · rw [List.Nodup, List.pairwise_iff_getElem]
      intro i j h1 h2 hij
      simp at h1 h2
      simpa using hi i j hij h2
  have := nodup_len (N := N) hnd fun x hx => by
    rcases List.mem_cons.mp hx with rfl | hx
    · exact hy
    · obtain ⟨i, h1, rfl⟩ := List.mem_map.mp hx
      exact hf i (by simpa using h1)
  simp at this
  omega
section
variable {p m : Int} {mod : List Int}
theorem pw_succ (h : PM8 p m) (ho : ordr p m ≠ 0) {x : Int} (hx : El p m x) : ∀ i, pw p m mod x (i + 1) = fmul p m mod (pw p m mod x i) x
  | 0 => by
    show x = fmul p m mod 1 x
    rw [fmul_comm h, fmul_one h hx]
  | i + 1 => pmul_eq ho _ _
theorem pw_elm (ho : ordr p m ≠ 0) {x : Int} (hx : El p m x) (i : Nat) : El p m (pw p m mod x i) := pw_el ho hx i
theorem pw_add (h : PM8 p m) (ho : ordr p m ≠ 0) {x : Int} (hx : El p m x) (i : Nat) : ∀ j, fmul p m mod (pw p m mod x i) (pw p m mod x j) = pw p m mod x (i + j)
  | 0 => fmul_one h (pw_elm ho hx i)
  | j + 1 => by rw [pw_succ h ho hx j, ← fmul_assoc h, pw_add h ho hx i j, ← Nat.add_assoc, pw_succ h ho hx]
/-- the number of elements but 0 -/
theorem gen_one (h : PM8 p m) (ho : ordr p m ≠ 0) {x : Int} (hx : El p m x) (hg : IsGen p m mod x) : pw p m mod x (ordr p m - 1).toNat = 1 := by
  have h1 := one_el h
  have := hg.2.2
  rw [pmul_eq ho, ← pw_succ h ho hx] at this
  rw [show (ordr p m - 1).toNat = (ordr p m - 2).toNat + 1 by have := h1.2; omega]
  exact this
theorem pw_mul (h : PM8 p m) (ho : ordr p m ≠ 0) {x : Int} (hx : El p m x) {N : Nat} (h1 : pw p m mod x N = 1) : ∀ k, pw p m mod x (N * k) = 1
  | 0 => rfl
  | k + 1 => by rw [Nat.mul_succ, ← pw_add h ho hx, pw_mul h ho hx h1 k, h1, fmul_one h (one_el h)]
theorem pw_mod (h : PM8 p m) (ho : ordr p m ≠ 0) {x : Int} (hx : El p m x) {N : Nat} (h1 : pw p m mod x N = 1) (i : Nat) : pw p m mod x (i % N) = pw p m mod x i := by
  have : pw p m mod x i = fmul p m mod (pw p m mod x (N * (i / N))) (pw p m mod x (i % N)) := by
    rw [pw_add h ho hx, Nat.div_add_mod]
  rw [this, pw_mul h ho hx h1, fmul_comm h, fmul_one h (pw_elm ho hx _)]
theorem gen_all (h : PM8 p m) (ho : ordr p m ≠ 0) {x : Int} (hx : El p m x) (hg : IsGen p m mod x) {y : Int} (hy : 1 ≤ y) (hy' : y < ordr p m) : ∃ n : Nat, (n : Int) < ordr p m - 1 ∧ y = pw p m mod x n := by
  have e1 := (one_el h).2
  obtain ⟨i, h1, h2⟩ := pigeon (N := (ordr p m - 1).toNat) (f := fun i => (pw p m mod x i - 1).toNat) (fun i hi => by
    have := pw_elm (mod := mod) ho hx i
    have h3 := hg.1 i (by omega)
    have h4 := this.1
    have h5 := this.2
    show (pw p m mod x i - 1).toNat < _
    omega) (fun i j hij hj q => by
    have a := pw_elm (mod := mod) ho hx i
    have b := pw_elm (mod := mod) ho hx j
    have h3 := hg.1 i (by omega)
    have h4 := hg.1 j (by omega)
    have a1 := a.1
    have b1 := b.1
    replace q : (pw p m mod x i - 1).toNat = (pw p m mod x j - 1).toNat := q
    exact hg.2.1 i j hij (by omega) (by omega)) (y := (y - 1).toNat) (by omega)
  have a := pw_elm (mod := mod) ho hx i
  have h3 := hg.1 i (by omega)
  have a1 := a.1
  replace h2 : (pw p m mod x i - 1).toNat = (y - 1).toNat := h2
  exact ⟨i, by omega, by omega⟩
theorem gen_inv (h : PM8 p m) (ho : ordr p m ≠ 0) {x : Int} (hx : El p m x) (hg : IsGen p m mod x) {y : Int} (hy : 1 ≤ y) (hy' : y < ordr p m) : ∃ v, 1 ≤ v ∧ v < ordr p m ∧ fmul p m mod y v = 1 := by
  have e1 := (one_el h).2
  obtain ⟨i, hi, rfl⟩ := gen_all h ho hx hg hy hy'
  have g1 := gen_one h ho hx hg
  refine ⟨pw p m mod x ((ordr p m - 1).toNat - i), ?_, (pw_elm ho hx _).2, ?_⟩
  · have := (pw_elm (mod := mod) ho hx ((ordr p m - 1).toNat - i)).1
    by_cases hi0 : i = 0
    · subst hi0; rw [Nat.sub_zero, g1]; omega
    · have := hg.1 ((ordr p m - 1).toNat - i) (by omega)
      omega
  · rw [pw_add h ho hx, show i + ((ordr p m - 1).toNat - i) = (ordr p m - 1).toNat by omega, g1]
theorem field_of_gen (h : PM8 p m) (ho : ordr p m ≠ 0) {x : Int} (hx : El p m x) (hg : IsGen p m mod x) : (fF p m mod).Ok := by
  have inv : ∀ y, (fF p m mod).El y → y ≠ 0 → fmul p m mod y (finv p m mod y) = 1 ∧ El p m (finv p m mod y) := fun y hy h0 => by
    have hex := gen_inv h ho hx hg (y := y) (by have := hy.1; omega) hy.2
    have hs := Classical.choose_spec hex
    rw [finv, dif_pos hex]
    exact ⟨hs.2.2, by have := hs.1; omega, hs.2.1⟩
  exact {
    q2 := by have := (one_el h).2; show 2 ≤ ordr p m; omega
    add_el := fun _ _ => fadd_el h _ _
    mul_el := fun _ _ => fmul_el h _ _
    neg_el := fun _ => fneg_el h _
    inv_el := fun {a} ha => by
      show El p m (finv p m mod a)
      by_cases h0 : a = 0
      · rw [finv]
        split
        · rename_i hex
          have hs := Classical.choose_spec hex
          exact ⟨by have := hs.1; omega, hs.2.1⟩
        · exact zero_el h
      · exact (inv a ha h0).2
    add_comm := fun _ _ => fadd_comm h _ _
    add_assoc := fun _ _ _ => fadd_assoc h _ _ _
    add_z := fun ha => fadd_zero h ha
    add_neg := fun _ => fadd_neg h _
    mul_comm := fun _ _ => fmul_comm h _ _
    mul_assoc := fun _ _ _ => fmul_assoc h _ _ _
    mul_u := fun ha => fmul_one h ha
    mul_add := fun _ _ _ => fmul_add h _ _ _
    mul_inv := fun ha h0 => (inv _ ha h0).1 }
end
theorem FieldOk.shape {p m : Int} {mod : List Int} (h : FieldOk p m mod) : Shape p m mod := by
  obtain ⟨h1, h2, h3⟩ := h
  rcases h3 with ⟨h4, h5⟩ | ⟨h4, h5, h6, h7⟩
  · exact ⟨h1, h2, fun _ => h5, fun q => (q h4).elim⟩
  · exact ⟨h1, h2, fun q => (h4 q).elim, fun _ => ⟨h5, h6⟩⟩
/-- every field has a generator -/
def GenEx : Prop := ∀ p m mod, FieldOk p m mod → ∃ x, 1 ≤ x ∧ x < ordr p m ∧ IsGen p m mod x
/-- what has a generator has no divisors -/
def GenIrr : Prop := ∀ p m mod x, Shape p m mod → m ≠ 1 → 1 ≤ x → x < ordr p m → IsGen p m mod x → irr p mod
theorem alg_of (h1 : GenEx) (h2 : GenIrr) : Alg where
  fo := fun p m mod hF => by
    obtain ⟨x, x1, x2, hg⟩ := h1 p m mod hF
    exact field_of_gen (pm8 hF.1) hF.1 ⟨by omega, x2⟩ hg
  gi := fun p m mod => by
    constructor
    · intro hF
      exact ⟨hF.shape, h1 p m mod hF⟩
    · rintro ⟨hS, x, x1, x2, hg⟩
      refine ⟨hS.1, hS.2.1, ?_⟩
      by_cases hm : m = 1
      · exact .inl ⟨hm, hS.2.2.1 hm⟩
      · exact .inr ⟨hm, (hS.2.2.2 hm).1, (hS.2.2.2 hm).2, h2 p m mod x hS hm x1 x2 hg⟩
  el := fun p m mod x hF x1 x2 hg => by
    have hx : El p m x := ⟨by omega, x2⟩
    refine ⟨fun y y1 y2 => gen_all (pm8 hF.1) hF.1 hx hg y1 y2, fun i j hi hj => ?_⟩
    rw [pw_add (pm8 hF.1) hF.1 hx, pw_mod (pm8 hF.1) hF.1 hx (gen_one (pm8 hF.1) hF.1 hx hg)]
end Go.Proofs.Yteijojnahpeglaa.AM
/-! What has a generator has no divisors (plain Lean). -/
namespace Go.Proofs.Yteijojnahpeglaa.AM
open Go Go.RowKit
set_option linter.unusedVariables false
set_option linter.unusedSimpArgs false
section
variable {p : Int} {n : Nat} {mod : List Int}
theorem divIn_cg (hn : 1 ≤ n) {low : List Int} {i : Nat} (hi : low.length ≤ i) (c : Int) {r : List Int} (hr : i < r.length) : ∀ j, j ≤ low.length →
    (upto (divIn p low i c) j r).length = r.length ∧ (upto (divIn p low i c) j r).getD i 0 = r.getD i 0 ∧
      cg p n (act n mod (upto (divIn p low i c) j r) e0v) (zadd (act n mod r e0v) (zsm (-c) (Tp n mod (i - low.length) (act n mod (low.take j) e0v))))
  | 0, _ => by
    refine ⟨rfl, rfl, ?_⟩
    have e2 : ∀ k, Tp n mod k zzv = zzv := fun k => by
      induction k with
      | zero => rfl
      | succ k ih => rw [Tp, ih, Tm_zero]
    rw [upto_zero, List.take_zero, act, e2]
    intro q hq
    simp only [zadd, zsm, zzv]
    exact ⟨0, by grind⟩
  | j + 1, hj => by
    obtain ⟨h1, h2, h3⟩ := divIn_cg hn hi c hr j (by omega)
    rw [upto_succ, divIn]
    generalize upto (divIn p low i c) j r = d at *
    have hk : i - low.length + j < i := by omega
    refine ⟨by rw [List.length_set, h1], ?_, ?_⟩
    · rw [getD_set, if_neg (by omega), h2]
    · refine (set_cg hn (by omega) _ _).trans ((h3.add (cg.refl _)).trans ?_)
      rw [act_take (by omega), Tp_add, Tp_sm, Tp_Tp]
      intro q hq
      simp only [zadd, zsm]
      exact ⟨low.getD j 0 * Tp n mod (i - low.length + j) e0v q, by grind⟩
theorem divStep_cg (hn : 1 ≤ n) {low : List Int} {i : Nat} (hi : low.length ≤ i) {r : List Int} (hr : i < r.length) :
    cg p n (act n mod (divStep p low i r) e0v) (zadd (act n mod r e0v) (zsm (- r.getD i 0) (Tp n mod (i - low.length) (zadd (act n mod low e0v) (Tp n mod low.length e0v))))) := by
  obtain ⟨h1, h2, h3⟩ := divIn_cg (p := p) (mod := mod) hn hi (r.getD i 0) hr low.length (Nat.le_refl _)
  rw [List.take_length] at h3
  rw [divStep, act_set _ _ _ _ (by omega), h2]
  refine (h3.add (cg.refl _)).trans ?_
  rw [Tp_add, Tp_Tp, show i - low.length + low.length = i by omega]
  intro q hq
  simp only [zadd, zsm]
  exact ⟨0, by grind⟩
theorem divRem_cg (hp : 1 < p) (hn : 1 ≤ n) (hm : mod.length = n) (rm : Rng p mod) {low : List Int} (hd : low.length ≤ n) : ∀ k, k ≤ n + 1 - low.length → ∃ q : List Int, q.length = n + 1 - low.length ∧ Rng p q ∧ (∀ t, t < n + 1 - low.length - k → q.getD t 0 = 0) ∧
    (0 < k → q.getD (n - low.length) 0 = 1) ∧ cg p n (zadd (act n mod (upto (fun k r => divStep p low (mod.length - k) r) k (mod ++ [1])) e0v) (act n mod q (zadd (act n mod low e0v) (Tp n mod low.length e0v)))) zzv
  | 0, _ => by
    refine ⟨List.replicate (n + 1 - low.length) 0, by simp, Rng.rep (by omega) _, fun t ht => ?_, fun h => by omega, ?_⟩
    · rw [List.getD_eq_getElem?_getD, List.getElem?_replicate]; split <;> rfl
    · rw [upto_zero, act_zeros, act_app, hm, act_e0 (by omega), Tn_e0 hn]
      intro j hj
      simp only [zadd, zsm, zzv, if_pos hj]
      exact ⟨0, by grind⟩
  | k + 1, hk => by
    obtain ⟨q, q1, q2, q3, q4, q5⟩ := divRem_cg hp hn hm rm hd k (by omega)
    obtain ⟨l1, l2⟩ := divRem_ok hp (low := low) rm k
    rw [upto_succ]
    have hlead : k = 0 → (upto (fun k r => divStep p low (mod.length - k) r) k (mod ++ [1])).getD (n - k) 0 = 1 := fun h0 => by
      subst h0
      rw [upto_zero, Nat.sub_zero, ← hm]
      simp [List.getD_eq_getElem?_getD]
    generalize upto (fun k r => divStep p low (mod.length - k) r) k (mod ++ [1]) = r at *
    have hs := divStep_cg (p := p) (mod := mod) hn (low := low) (i := n - k) (by omega) (r := r) (by omega)
    rw [hm]
    have rc := l2 (n - k)
    refine ⟨q.set (n - low.length - k) (r.getD (n - k) 0), by rw [List.length_set, q1], q2.set rc.1 rc.2 _, fun t ht => ?_, fun _ => ?_, ?_⟩
    · rw [getD_set, if_neg (by omega)]
      exact q3 t (by omega)
    · rw [getD_set]
      by_cases h0 : k = 0
      · rw [if_pos ⟨by omega, by omega⟩]; exact hlead h0
      · rw [if_neg (by omega)]; exact q4 (by omega)
    · rw [act_set _ _ _ _ (by omega), q3 _ (by omega)]
      refine (hs.add (cg.refl _)).trans (cg.trans ?_ q5)
      rw [show n - k - low.length = n - low.length - k by omega]
      intro j hj
      simp only [zadd, zsm]
      exact ⟨0, by grind⟩
end
theorem act_pad {n : Nat} {mod : List Int} (l : List Int) (v : ZV) : ∀ k, act n mod (l ++ List.replicate k 0) v = act n mod l v
  | 0 => by simp
  | k + 1 => by
    rw [List.replicate_succ', ← List.append_assoc, act_app, act_pad l v k]
    funext j
    simp [zadd, zsm]
theorem rng_pad {p : Int} (hp : 0 < p) {l : List Int} (h : Rng p l) (k : Nat) : Rng p (l ++ List.replicate k 0) := h.app (Rng.rep hp k)
theorem gen_irr : GenIrr := fun p m mod g hS hm1 g1 g2 hg => by
  have h := pm8 hS.1
  have ho := hS.1
  obtain ⟨hml, rm⟩ := hS.2.2.2 hm1
  have hn := h.m1
  have hp := h.p2
  intro d d1 d2 v v0 v1 hdiv
  generalize hnn : m.toNat = n at *
  have hmn : mod.length = n := by omega
  have ld := digs_length p d v
  have rd := digs_rng h.pos d v
  generalize digs p d v = low at *
  obtain ⟨q, q1, q2, -, q4, q5⟩ := divRem_cg (p := p) (mod := mod) (by omega) hn hmn rm (low := low) (by omega) (n + 1 - low.length) (Nat.le_refl _)
  have hz : act n mod (upto (fun k r => divStep p low (mod.length - k) r) (n + 1 - low.length) (mod ++ [1])) e0v = zzv := by
    have l1 := (divRem_ok (show 1 < p by omega) (low := low) rm (n + 1 - low.length)).1
    have : upto (fun k r => divStep p low (mod.length - k) r) (n + 1 - low.length) (mod ++ [1]) = List.replicate (n + 1) 0 := by
      refine List.ext_getElem (by rw [l1, hmn]; simp) fun j h1 h2 => ?_
      have := hdiv j
      rw [divRem, hmn] at this
      simp only [List.getElem_replicate]
      rw [hmn] at h1
      simpa [List.getD_eq_getElem?_getD, h1, hmn] using this
    rw [this, act_zeros]
  rw [hz] at q5
  have qlead := q4 (by omega)
  -- the two elements
  have rl : Rng p (low ++ [1]) := rd.app (Rng.one (by omega) (by omega))
  have xl : ((low ++ [1]) ++ List.replicate (n - d - 1) 0).length = m.toNat := by simp; omega
  have yl : (q ++ List.replicate (d - 1) 0).length = m.toNat := by simp; omega
  have xr := rng_pad h.pos rl (n - d - 1)
  have yr := rng_pad h.pos q2 (d - 1)
  have xe := h.val_el xl xr
  have ye := h.val_el yl yr
  have xv := vec_val h.pos xl xr
  have yd := digs_val h.pos yr
  rw [yl] at yd
  have prod : fmul p m mod (val p (q ++ List.replicate (d - 1) 0)) (val p ((low ++ [1]) ++ List.replicate (n - d - 1) 0)) = 0 := by
    refine h.inj (fmul_el h _ _) (zero_el h) ((fmul_vec h.pos h.m1 _ _).trans ?_)
    rw [yd, xv, vec_zero, act_pad]
    have e : vecZ ((low ++ [1]) ++ List.replicate (n - d - 1) 0) = zadd (act n mod low e0v) (Tp n mod low.length e0v) := by
      have e1 : vecZ ((low ++ [1]) ++ List.replicate (n - d - 1) 0) = act n mod ((low ++ [1]) ++ List.replicate (n - d - 1) 0) e0v := by
        rw [act_e0 (by rw [xl, hnn]; exact Nat.le_refl _)]; rfl
      rw [e1, act_pad, act_app]
      funext j
      simp only [zadd, zsm]
      omega
    rw [e, hnn]
    intro j hj
    obtain ⟨k, hk⟩ := q5 j hj
    simp only [zadd, zzv] at hk
    exact ⟨k, by simp only [zzv]; grind⟩
  have ne : ∀ {l : List Int} {t : Nat}, l.length = m.toNat → Rng p l → l.getD t 0 = 1 → val p l ≠ 0 := fun {l t} hl hr h1 h0 => by
    have := digs_val h.pos hr
    rw [h0, digs_zero] at this
    rw [← this, List.getD_eq_getElem?_getD, List.getElem?_replicate] at h1
    split at h1 <;> simp at h1
  have x0 := ne xl xr (t := d) (by
    have : d = low.length := ld.symm
    subst this
    simp [List.getD_eq_getElem?_getD, List.getElem?_append_left])
  have y0 := ne yl yr (t := n - low.length) (by
    rw [List.getD_eq_getElem?_getD, List.getElem?_append_left (by omega), ← List.getD_eq_getElem?_getD]
    exact qlead)
  have gx : El p m g := ⟨by omega, g2⟩
  obtain ⟨i, hi, ei⟩ := gen_all h ho gx hg (y := val p (q ++ List.replicate (d - 1) 0)) (by have := ye.1; omega) ye.2
  obtain ⟨j, hj, ej⟩ := gen_all h ho gx hg (y := val p ((low ++ [1]) ++ List.replicate (n - d - 1) 0)) (by have := xe.1; omega) xe.2
  rw [ei, ej, pw_add h ho gx, ← pw_mod h ho gx (gen_one h ho gx hg)] at prod
  refine hg.1 _ ?_ prod
  have e1 := (one_el h).2
  have := Nat.mod_lt (i + j) (show 0 < (ordr p m - 1).toNat by omega)
  omega
end Go.Proofs.Yteijojnahpeglaa.AM
/-! Products, powers and divisions of lists of digits that the kernel can work out (plain Lean). -/
namespace Go.Proofs.Yteijojnahpeglaa.AM
open Go Go.RowKit
set_option linter.unusedVariables false
set_option linter.unusedSimpArgs false
/-- x is worked out before f is called -/
def forceN {α : Type} (x : Nat) (f : Nat → α) : α := match x with
  | 0 => f 0
  | k + 1 => f (k + 1)
theorem forceN_eq {α : Type} (x : Nat) (f : Nat → α) : forceN x f = f x := by cases x <;> rfl
def forceL {α : Type} : List Nat → (List Nat → α) → α
  | [], f => f []
  | x :: xs, f => forceN x fun x' => forceL xs fun xs' => f (x' :: xs')
theorem forceL_eq {α : Type} : ∀ (l : List Nat) (f : List Nat → α), forceL l f = f l
  | [], f => rfl
  | x :: xs, f => by rw [forceL, forceN_eq, forceL_eq xs]
def goN (p t b : Nat) : Nat → List Nat → List Nat → List Nat → List Nat
  | prev, o :: os, ms, x :: xs => ((prev + (p - t) * ms.headD 0 + b * x) % p) :: goN p t b o os ms.tail xs
  | _, _, _, _ => []
def mulN (p n : Nat) (ms a : List Nat) : List Nat → List Nat
  | [] => List.replicate n 0
  | b :: bs => forceL (mulN p n ms a bs) fun out => goN p (out.getD (n - 1) 0) b 0 out ms a
def oneN (n : Nat) : List Nat := 1 :: List.replicate (n - 1) 0
def powN (p n : Nat) (ms g : List Nat) : Nat → Nat → List Nat
  | 0, _ => oneN n
  | f + 1, e => if e = 0 then oneN n else forceL (powN p n ms g f (e / 2)) fun h => forceL (mulN p n ms h h) fun s => if e % 2 = 1 then mulN p n ms s g else s
def divInN (p c i : Nat) (low : List Nat) (j : Nat) (r : List Nat) : List Nat := r.set (i - low.length + j) ((r.getD (i - low.length + j) 0 + (p - c) * low.getD j 0) % p)
def uptoF (f : Nat → List Nat → List Nat) : Nat → List Nat → List Nat
  | 0, a => a
  | n + 1, a => forceL (uptoF f n a) (f n)
def divStepN (p : Nat) (low : List Nat) (i : Nat) (r : List Nat) : List Nat := (uptoF (divInN p (r.getD i 0) i low) low.length r).set i 0
def divRemN (p : Nat) (low ms : List Nat) : List Nat := uptoF (fun k r => divStepN p low (ms.length - k) r) (ms.length + 1 - low.length) (ms ++ [1])
def digN (p : Nat) : Nat → Nat → List Nat
  | 0, _ => []
  | n + 1, x => x % p :: digN p n (x / p)
def allLt (p : Nat) (l : List Nat) : Prop := ∀ i, l.getD i 0 < p
theorem natsI_getD (l : List Nat) (j : Nat) : (natsI l).getD j 0 = ((l.getD j 0 : Nat) : Int) := by
  rw [natsI, List.getD_eq_getElem?_getD, List.getD_eq_getElem?_getD, List.getElem?_map]
  cases l[j]? <;> rfl
theorem natsI_set (l : List Nat) (k x : Nat) : natsI (l.set k x) = (natsI l).set k (x : Int) := by simp [natsI, List.map_set]
theorem natsI_rng {p : Nat} {l : List Nat} (h : allLt p l) : Rng (p : Int) (natsI l) := fun i => by
  rw [natsI_getD]
  have := h i
  omega
theorem natsI_inj {l l' : List Nat} (h : natsI l = natsI l') : l = l' := by
  exact (List.map_inj_right (fun a b h => by omega)).mp h
theorem digN_eq (p : Nat) : ∀ n x, natsI (digN p n x) = digs p n x
  | 0, _ => rfl
  | n + 1, x => by
    rw [digN, digs, natsI, List.map_cons, ← natsI, digN_eq p n]
    simp
theorem digN_length (p : Nat) : ∀ n x, (digN p n x).length = n
  | 0, _ => rfl
  | n + 1, x => by rw [digN, List.length_cons, digN_length p n]
theorem digN_lt {p : Nat} (hp : 0 < p) (n x : Nat) : allLt p (digN p n x) := fun i => by
  have := digs_rng (p := p) (by omega) n x i
  rw [← digN_eq, natsI_getD] at this
  omega
theorem goN_ok {p t b : Nat} (hp : 0 < p) : ∀ (prev : Nat) (os ms xs : List Nat), os.length = xs.length → (goN p t b prev os ms xs).length = os.length ∧
    ∀ j, j < os.length → (goN p t b prev os ms xs).getD j 0 = ((if j = 0 then prev else os.getD (j - 1) 0) + (p - t) * ms.getD j 0 + b * xs.getD j 0) % p
  | prev, [], ms, [], h => ⟨rfl, fun j hj => by simp at hj⟩
  | prev, o :: os, ms, x :: xs, h => by
    obtain ⟨h1, h2⟩ := goN_ok hp o os ms.tail xs (by simpa using h)
    rw [goN]
    refine ⟨by rw [List.length_cons, h1]; rfl, fun j hj => ?_⟩
    cases j with
    | zero =>
      simp only [List.getD_cons_zero, if_true]
      cases ms <;> rfl
    | succ j =>
      rw [List.getD_cons_succ, h2 j (by simpa using hj)]
      have e : ms.tail.getD j 0 = ms.getD (j + 1) 0 := by cases ms <;> rfl
      rw [e, List.getD_cons_succ]
      cases j with
      | zero => rw [if_pos rfl, if_neg (by omega)]; rfl
      | succ j => rw [if_neg (by omega), if_neg (by omega)]; rfl
  | prev, [], ms, _ :: _, h => by simp at h
  | prev, _ :: _, ms, [], h => by simp at h
theorem mulN_ok {p n : Nat} (hp : 0 < p) (hn : 1 ≤ n) {ms a : List Nat} (ha : a.length = n) : ∀ bs : List Nat, (mulN p n ms a bs).length = n ∧ allLt p (mulN p n ms a bs) ∧
    cg p n (vecZ (natsI (mulN p n ms a bs))) (act n (natsI ms) (natsI bs) (vecZ (natsI a)))
  | [] => by
    refine ⟨by simp [mulN], fun i => ?_, fun j hj => ?_⟩
    · rw [mulN, List.getD_eq_getElem?_getD, List.getElem?_replicate]
      split <;> simpa using hp
    · have : vecZ (natsI (mulN p n ms a [])) j = 0 := by
        show (natsI (List.replicate n 0)).getD j 0 = 0
        rw [natsI_getD, List.getD_eq_getElem?_getD, List.getElem?_replicate]
        split <;> rfl
      rw [this]
      exact ⟨0, by simp [natsI, act, zzv]⟩
  | b :: bs => by
    obtain ⟨h1, h2, h3⟩ := mulN_ok hp hn ha (ms := ms) bs
    rw [mulN, forceL_eq]
    generalize mulN p n ms a bs = out at *
    obtain ⟨g1, g2⟩ := goN_ok (t := out.getD (n - 1) 0) (b := b) hp 0 out ms a (by omega)
    have ht := h2 (n - 1)
    refine ⟨by rw [g1, h1], fun i => ?_, ?_⟩
    · by_cases hi : i < out.length
      · rw [g2 i hi]; exact Nat.mod_lt _ hp
      · rw [getD_len _ (by omega)]; exact hp
    · rw [show natsI (b :: bs) = (b : Int) :: natsI bs from rfl, act]
      refine cg.trans (v := zadd (zsm (b : Int) (vecZ (natsI a))) (Tm n (natsI ms) (vecZ (natsI out)))) (fun j hj => ?_) ((cg.refl _).add (h3.T hn))
      have e : vecZ (natsI (goN p (out.getD (n - 1) 0) b 0 out ms a)) j = (((if j = 0 then 0 else ((out.getD (j - 1) 0 : Nat) : Int)) + ((p : Int) - (out.getD (n - 1) 0 : Nat)) * (ms.getD j 0 : Nat) + (b : Int) * (a.getD j 0 : Nat)) % (p : Int)) := by
        show (natsI _).getD j 0 = _
        rw [natsI_getD, g2 j (by omega)]
        have : ((p - out.getD (n - 1) 0 : Nat) : Int) = (p : Int) - (out.getD (n - 1) 0 : Nat) := by omega
        rw [Int.natCast_emod, Int.natCast_add, Int.natCast_add, Int.natCast_mul, Int.natCast_mul, this]
        split <;> rfl
      rw [e]
      obtain ⟨q, hq⟩ := emod_cg (p : Int) ((if j = 0 then 0 else ((out.getD (j - 1) 0 : Nat) : Int)) + ((p : Int) - (out.getD (n - 1) 0 : Nat)) * (ms.getD j 0 : Nat) + (b : Int) * (a.getD j 0 : Nat))
      simp only [zadd, zsm, Tm, if_pos hj, vecZ, natsI_getD]
      exact ⟨q + (ms.getD j 0 : Nat), by grind⟩
section
variable {p n : Nat} {ms : List Nat}
/-- the number of a list of digits -/
theorem mulN_val (h : PM8 (p : Int) (n : Int)) {a b : List Nat} (ha : a.length = n) (hb : b.length = n) (la : allLt p a) (lb : allLt p b) :
    val p (natsI (mulN p n ms a b)) = fmul p n (natsI ms) (val p (natsI a)) (val p (natsI b)) := by
  have hp : 0 < p := by have := h.p2; omega
  have hn : 1 ≤ n := by have := h.m1; omega
  obtain ⟨h1, h2, h3⟩ := mulN_ok hp hn (ms := ms) ha b
  have hnn : ((n : Int)).toNat = n := rfl
  rw [fmul_comm h]
  refine h.inj (h.val_el (by rw [natsI_length, h1]; rfl) (natsI_rng h2)) (fmul_el h _ _) ?_
  rw [vec_val h.pos (by rw [natsI_length, h1]; rfl) (natsI_rng h2)]
  refine cg.trans ?_ (fmul_vec h.pos h.m1 _ _).symm
  have e1 : digs p ((n : Int)).toNat (val p (natsI b)) = natsI b := by
    have := digs_val h.pos (natsI_rng lb)
    rw [natsI_length, hb] at this
    exact this
  rw [e1, vec_val h.pos (by rw [natsI_length, ha]; rfl) (natsI_rng la)]
  exact h3
theorem oneN_ok (h : PM8 (p : Int) (n : Int)) : (oneN n).length = n ∧ allLt p (oneN n) ∧ val p (natsI (oneN n)) = 1 := by
  have hp := h.p2
  have hn : 1 ≤ n := by have := h.m1; omega
  refine ⟨by simp [oneN]; omega, fun i => ?_, ?_⟩
  · cases i with
    | zero => show 1 < p; omega
    | succ i =>
      show (List.replicate (n - 1) 0).getD i 0 < p
      rw [List.getD_eq_getElem?_getD, List.getElem?_replicate]
      split <;> (simp; omega)
  · have hz : ∀ k, val (p : Int) (natsI (List.replicate k 0)) = 0 := fun k => by
      induction k with
      | zero => rfl
      | succ k ih => rw [List.replicate_succ]; show (0 : Int) + p * val p (natsI (List.replicate k 0)) = 0; rw [ih]; simp
    show (1 : Int) + p * val p (natsI (List.replicate (n - 1) 0)) = 1
    rw [hz]; simp
theorem powN_ok (h : PM8 (p : Int) (n : Int)) {g : List Nat} (hg : g.length = n) (lg : allLt p g) (ho : ordr (p : Int) (n : Int) ≠ 0) : ∀ f e, e < 2 ^ f → (powN p n ms g f e).length = n ∧ allLt p (powN p n ms g f e) ∧ val p (natsI (powN p n ms g f e)) = pw p n (natsI ms) (val p (natsI g)) e
  | 0, e, he => by
    have : e = 0 := by simpa using he
    subst this
    exact oneN_ok h
  | f + 1, e, he => by
    have hp : 0 < p := by have := h.p2; omega
    have hn : 1 ≤ n := by have := h.m1; omega
    rw [powN]
    split
    · rename_i h0; subst h0; exact oneN_ok h
    · rename_i h0
      rw [Nat.pow_succ] at he
      obtain ⟨h1, h2, h3⟩ := powN_ok h hg lg ho f (e / 2) (by omega)
      rw [forceL_eq, forceL_eq]
      have gx : El (p : Int) (n : Int) (val p (natsI g)) := h.val_el (by rw [natsI_length, hg]; rfl) (natsI_rng lg)
      generalize powN p n ms g f (e / 2) = w at *
      obtain ⟨s1, s2, -⟩ := mulN_ok hp hn (ms := ms) h1 w
      have s3 := mulN_val (ms := ms) h h1 h1 h2 h2
      rw [h3, pw_add h ho gx] at s3
      split
      · rename_i hodd
        obtain ⟨t1, t2, -⟩ := mulN_ok hp hn (ms := ms) s1 g
        refine ⟨t1, t2, ?_⟩
        rw [mulN_val h s1 hg s2 lg, s3, ← pw_succ h ho gx]
        congr 1
        omega
      · rename_i heven
        refine ⟨s1, s2, ?_⟩
        rw [s3]
        congr 1
        omega
end
theorem uptoF_eq (f : Nat → List Nat → List Nat) : ∀ n a, uptoF f n a = upto f n a
  | 0, a => rfl
  | n + 1, a => by rw [uptoF, forceL_eq, uptoF_eq f n]; rfl
theorem divInN_eq {p c i : Nat} (hc : c < p) (low : List Nat) : ∀ j (r : List Nat), natsI (upto (divInN p c i low) j r) = upto (divIn (p : Int) (natsI low) i (c : Int)) j (natsI r)
  | 0, r => rfl
  | j + 1, r => by
    rw [upto_succ, upto_succ, ← divInN_eq hc low j r, divInN, divIn, natsI_set, natsI_length, natsI_getD, natsI_getD]
    congr 1
    have : ((p - c : Nat) : Int) = (p : Int) - (c : Int) := by omega
    rw [Int.natCast_emod, Int.natCast_add, Int.natCast_mul, this]
theorem divRemN_eq {p : Nat} (hp : 1 < p) {low ms : List Nat} (hm : allLt p ms) : ∀ k, natsI (upto (fun k r => divStepN p low (ms.length - k) r) k (ms ++ [1])) = upto (fun k r => divStep (p : Int) (natsI low) ((natsI ms).length - k) r) k (natsI ms ++ [1])
  | 0 => by simp [upto, natsI]
  | k + 1 => by
    have ih := divRemN_eq hp (low := low) hm k
    have hr := (divRem_ok (p := (p : Int)) (by omega) (low := natsI low) (natsI_rng hm) k).2
    rw [upto_succ, upto_succ, ← ih]
    rw [← ih] at hr
    generalize upto (fun k r => divStepN p low (ms.length - k) r) k (ms ++ [1]) = r at *
    have hc := hr (ms.length - k)
    rw [natsI_getD] at hc
    rw [divStepN, divStep, natsI_set, uptoF_eq, divInN_eq (by omega), natsI_length, natsI_length, natsI_getD]
    rfl
theorem divsN {p : Nat} (hp : 1 < p) {low ms : List Nat} (hm : allLt p ms) (h : (divRemN p low ms).all (fun x => x == 0) = true) : divs (p : Int) (natsI low) (natsI ms) := by
  intro i
  have e := divRemN_eq hp (low := low) hm (ms.length + 1 - low.length)
  rw [divRem, natsI_length, natsI_length]
  rw [natsI_length] at e
  rw [← e, natsI_getD, ← uptoF_eq]
  show ((divRemN p low ms).getD i 0 : Int) = 0
  rw [List.all_eq_true] at h
  by_cases hi : i < (divRemN p low ms).length
  · have := h _ (List.getElem_mem hi)
    simp only [beq_iff_eq] at this
    rw [List.getD_eq_getElem?_getD, List.getElem?_eq_getElem hi]
    simp [this]
  · rw [getD_len _ (by omega)]; rfl
end Go.Proofs.Yteijojnahpeglaa.AM
/-! The check of a certificate, and what it shows (plain Lean). -/
namespace Go.Proofs.Yteijojnahpeglaa.AM
open Go Go.RowKit
set_option linter.unusedVariables false
set_option linter.unusedSimpArgs false
def eqL : List Nat → List Nat → Bool
  | [], [] => true
  | x :: xs, y :: ys => Nat.beq x y && eqL xs ys
  | _, _ => false
theorem eqL_iff : ∀ {l l' : List Nat}, eqL l l' = true ↔ l = l'
  | [], [] => by simp [eqL]
  | x :: xs, y :: ys => by
    rw [eqL, Bool.and_eq_true, eqL_iff, List.cons.injEq, Nat.beq_eq]
  | [], y :: ys => by simp [eqL]
  | x :: xs, [] => by simp [eqL]
/-- each divisor of N divides one of Ds -/
def okDs (N : Nat) (Ds : List Nat) : Bool := (List.range N).all fun e => Nat.beq e 0 || !(Nat.beq (N % e) 0) || Ds.any fun d => Nat.beq (d % e) 0
def chkGen (p n : Nat) (ms g Ds : List Nat) (N : Nat) : Bool := eqL (powN p n ms g 8 N) (oneN n) && Ds.all fun d => !(eqL (powN p n ms g 8 d) (oneN n))
def chk1 (p n : Nat) (Ds : List Nat) (v c : Nat) : Bool :=
  if c < p ^ n then forceL (digN p n v) fun ms => forceL (digN p n c) fun g => chkGen p n ms g Ds (p ^ n - 1)
  else forceL (digN p n v) fun ms => Nat.ble 1 (c / p ^ n) && Nat.ble (2 * (c / p ^ n)) n && Nat.ble (c % p ^ n + 1) (p ^ (c / p ^ n)) && forceL (digN p (c / p ^ n) (c % p ^ n)) fun low => (divRemN p low ms).all fun x => x == 0
def chkAll (p n : Nat) (Ds : List Nat) : Nat → List Nat → Bool
  | _, [] => true
  | v, c :: cs => chk1 p n Ds v c && forceN (v + 1) fun v' => chkAll p n Ds v' cs
def chkTab (p n : Nat) (Ds : List Nat) (cs : List Nat) : Bool := Nat.beq cs.length (p ^ n) && okDs (p ^ n - 1) Ds && chkAll p n Ds 0 cs
def chkE (p : Nat) (e : Bool × Nat × List Nat) : Bool := match e.1 with
  | true => okDs (p - 1) e.2.2 && Nat.ble (e.2.1 + 1) p && (e.2.2.all fun d => Nat.ble (d + 1) 256) && chkGen p 1 [] [e.2.1] e.2.2 (p - 1)
  | false => Nat.ble 2 e.2.1 && Nat.ble (e.2.1 + 1) p && Nat.beq (p % e.2.1) 0
def chkP : Nat → List (Bool × Nat × List Nat) → Bool
  | _, [] => true
  | p, e :: l => chkE p e && forceN (p + 1) fun p' => chkP p' l
theorem chkAll_at {p n : Nat} {Ds : List Nat} : ∀ {cs : List Nat} {v i : Nat}, chkAll p n Ds v cs = true → i < cs.length → chk1 p n Ds (v + i) (cs.getD i 0) = true
  | [], v, i, _, hi => by simp at hi
  | c :: cs, v, i, h, hi => by
    rw [chkAll, forceN_eq, Bool.and_eq_true] at h
    cases i with
    | zero => exact h.1
    | succ i =>
      have := chkAll_at (i := i) h.2 (by simpa using hi)
      rwa [show v + 1 + i = v + (i + 1) by omega] at this
theorem chkP_at : ∀ {l : List (Bool × Nat × List Nat)} {p i : Nat}, chkP p l = true → i < l.length → ∃ e, chkE (p + i) e = true
  | [], p, i, _, hi => by simp at hi
  | e :: l, p, i, h, hi => by
    rw [chkP, forceN_eq, Bool.and_eq_true] at h
    cases i with
    | zero => exact ⟨e, h.1⟩
    | succ i =>
      have := chkP_at (i := i) h.2 (by simpa using hi)
      rwa [show p + 1 + i = p + (i + 1) by omega] at this
section
variable {p m : Int} {mod : List Int}
theorem pw_gcd (h : PM8 p m) (ho : ordr p m ≠ 0) {x : Int} (hx : El p m x) (a b : Nat) (ha : pw p m mod x a = 1) (hb : pw p m mod x b = 1) : pw p m mod x (Nat.gcd a b) = 1 := by
  induction a, b using Nat.gcd.induction with
  | H0 n => rw [Nat.gcd_zero_left]; exact hb
  | H1 a b ha0 ih =>
    rw [Nat.gcd_rec]
    exact ih (by rw [pw_mod h ho hx ha]; exact hb) ha
theorem pw_ne_zero (h : PM8 p m) (ho : ordr p m ≠ 0) {x : Int} (hx : El p m x) {N : Nat} (h1 : pw p m mod x N = 1) {i : Nat} (hi : i ≤ N) : pw p m mod x i ≠ 0 := fun h0 => by
  have := pw_add (mod := mod) h ho hx (N - i) i
  rw [h0, fmul_zero h, show N - i + i = N by omega, h1] at this
  omega
theorem gen_of_order (h : PM8 p m) (ho : ordr p m ≠ 0) {x : Int} (hx : El p m x) {N : Nat} (hN : (N : Int) = ordr p m - 1) (h1 : pw p m mod x N = 1) {Ds : List Nat} (hD : ∀ d, d ∈ Ds → pw p m mod x d ≠ 1) (hok : okDs N Ds = true) : IsGen p m mod x := by
  have e1 := (one_el h).2
  refine ⟨fun i hi => pw_ne_zero h ho hx h1 (by omega), fun i j hij hj q => ?_, ?_⟩
  · -- two equal powers
    have hd : pw p m mod x (j - i) = 1 := by
      have a := pw_add (mod := mod) h ho hx (N - i) j
      have b := pw_add (mod := mod) h ho hx (N - i) i
      rw [← q, b, show N - i + i = N by omega, h1] at a
      have : pw p m mod x (N - i + j) = pw p m mod x (j - i) := by
        have c := pw_add (mod := mod) h ho hx N (j - i)
        rw [h1, fmul_comm h, fmul_one h (pw_elm ho hx _)] at c
        rw [c]
        congr 1
        omega
      rw [← this, ← a]
    have he := pw_gcd h ho hx (j - i) N hd h1
    have g1 := Nat.gcd_dvd_left (j - i) N
    have g2 := Nat.gcd_dvd_right (j - i) N
    have g3 := Nat.gcd_pos_of_pos_left N (show 0 < j - i by omega)
    have g4 := Nat.le_of_dvd (by omega) g1
    generalize Nat.gcd (j - i) N = e at *
    rw [okDs, List.all_eq_true] at hok
    have := hok e (by simp; omega)
    simp only [Bool.or_eq_true, Bool.not_eq_true', Nat.beq_eq, List.any_eq_true] at this
    rcases this with (h0 | h0) | ⟨d, h2, h3⟩
    · omega
    · rw [Nat.mod_eq_zero_of_dvd g2] at h0
      cases h0
    · refine hD d h2 ?_
      obtain ⟨k, rfl⟩ := Nat.dvd_of_mod_eq_zero h3
      exact pw_mul h ho hx he k
  · rw [pmul_eq ho, ← pw_succ h ho hx, show (ordr p m - 2).toNat + 1 = N by omega, h1]
end
theorem chkGen_ok {p n : Nat} (h : PM8 (p : Int) (n : Int)) (ho : ordr (p : Int) (n : Int) ≠ 0) (hq : p ^ n ≤ 256) {ms g Ds : List Nat} (hg : g.length = n) (lg : allLt p g) (hD : ∀ d, d ∈ Ds → d < 256) (hok : okDs (p ^ n - 1) Ds = true) (hc : chkGen p n ms g Ds (p ^ n - 1) = true) :
    El (p : Int) (n : Int) (val p (natsI g)) ∧ IsGen p n (natsI ms) (val p (natsI g)) := by
  have gx : El (p : Int) (n : Int) (val p (natsI g)) := h.val_el (by rw [natsI_length, hg]; rfl) (natsI_rng lg)
  rw [chkGen, Bool.and_eq_true, eqL_iff, List.all_eq_true] at hc
  obtain ⟨h1, h2⟩ := hc
  have one := oneN_ok h
  have q0 : ordr (p : Int) (n : Int) = ((p ^ n : Nat) : Int) := by
    rw [h.q]; simp
  have qp : 0 < p ^ n := Nat.pow_pos (by have := h.p2; omega)
  refine ⟨gx, gen_of_order h ho gx (N := p ^ n - 1) (by omega) ?_ (Ds := Ds) (fun d hd he => ?_) hok⟩
  · rw [← (powN_ok (ms := ms) h hg lg ho 8 (p ^ n - 1) (by omega)).2.2, h1]
    exact one.2.2
  · have := h2 d hd
    obtain ⟨a1, a2, a3⟩ := powN_ok (ms := ms) h hg lg ho 8 d (by have := hD d hd; omega)
    rw [Bool.not_eq_true', ← Bool.not_eq_true, eqL_iff] at this
    refine this (natsI_inj ?_)
    rw [he] at a3
    have b1 := digs_val h.pos (natsI_rng a2)
    have b2 := digs_val h.pos (natsI_rng one.2.1)
    rw [natsI_length, a1] at b1
    rw [natsI_length, one.1] at b2
    rw [← b1, ← b2, a3, one.2.2]
theorem val_toNat {p : Nat} (hp : 0 < p) {mod : List Int} (hr : Rng (p : Int) mod) : natsI (digN p mod.length (val p mod).toNat) = mod := by
  have hv := (val_lt (show (0 : Int) < p by omega) hr).1
  rw [digN_eq, Int.toNat_of_nonneg hv, digs_val (by omega) hr]
/-- a table shows that its fields have generators -/
theorem tab_gen {p n : Nat} (h : PM8 (p : Int) (n : Int)) (ho : ordr (p : Int) (n : Int) ≠ 0) (hq : p ^ n ≤ 256) {Ds cs : List Nat} (hD : ∀ d, d ∈ Ds → d < 256) (ht : chkTab p n Ds cs = true) {mod : List Int} (hm : mod.length = n) (rm : Rng (p : Int) mod) (hi : irr p mod) :
    ∃ x, El (p : Int) (n : Int) x ∧ IsGen p n mod x := by
  have hp : 1 < p := by have := h.p2; omega
  rw [chkTab, Bool.and_eq_true, Bool.and_eq_true, Nat.beq_eq] at ht
  obtain ⟨⟨t1, t2⟩, t3⟩ := ht
  have hv := val_lt (show (0 : Int) < p by omega) rm
  rw [hm] at hv
  have e0 : ((p : Int)) ^ n = ((p ^ n : Nat) : Int) := by simp
  have hv1 := hv.1
  have hv2 := hv.2
  rw [e0] at hv2
  have hvn : (val p mod).toNat < cs.length := by rw [t1]; omega
  have hc := chkAll_at t3 hvn
  rw [Nat.zero_add] at hc
  have hms := val_toNat (by omega) rm
  rw [hm] at hms
  generalize cs.getD (val p mod).toNat 0 = c at *
  generalize (val p mod).toNat = v at *
  rw [chk1] at hc
  split at hc
  · rw [forceL_eq, forceL_eq] at hc
    have := chkGen_ok h ho hq (digN_length p n c) (digN_lt (by omega) n c) hD t2 hc
    rw [hms] at this
    exact ⟨_, this⟩
  · rw [forceL_eq, forceL_eq] at hc
    simp only [Bool.and_eq_true, Nat.ble_eq] at hc
    obtain ⟨⟨⟨c1, c2⟩, c3⟩, c4⟩ := hc
    exfalso
    have hd := divsN hp (digN_lt (by omega) n v) c4
    rw [hms, digN_eq] at hd
    refine hi (c / p ^ n) c1 (by omega) _ (Int.natCast_nonneg _) ?_ hd
    have : ((p : Int)) ^ (c / p ^ n) = ((p ^ (c / p ^ n) : Nat) : Int) := by simp
    rw [this]
    exact Int.ofNat_lt.mpr c3
theorem prime_gen {p : Nat} (h2 : 2 ≤ p) (h3 : p ≤ 256) (hp : prm (p : Int)) {e : Bool × Nat × List Nat} (hc : chkE p e = true) : ∃ x, El (p : Int) 1 x ∧ IsGen p 1 [] x := by
  obtain ⟨b, g, Ds⟩ := e
  have ho : ordr (p : Int) ((1 : Nat) : Int) ≠ 0 := by
    have e1 : ((p : Int)) ^ (((1 : Nat) : Int)).toNat = p := by
      show (p : Int) ^ 1 = p
      rw [Int.pow_succ, Int.pow_zero, Int.one_mul]
    rw [ordr, if_pos ⟨by omega, by omega, by omega, by rw [e1]; omega⟩, e1]
    omega
  have h := pm8 ho
  cases b with
  | true =>
    simp only [chkE, Bool.and_eq_true, Nat.ble_eq, List.all_eq_true] at hc
    obtain ⟨⟨⟨c1, c2⟩, c3⟩, c4⟩ := hc
    have q1 : p ^ 1 = p := Nat.pow_one p
    have lg : allLt p [g] := fun i => by
      cases i with
      | zero => show g < p; omega
      | succ i => show ([] : List Nat).getD i 0 < p; simp; omega
    have := chkGen_ok (n := 1) (ms := []) (g := [g]) (Ds := Ds) h ho (by omega) rfl lg (fun d hd => by have := c3 d hd; omega) (by rw [q1]; exact c1) (by rw [q1]; exact c4)
    exact ⟨_, this⟩
  | false =>
    simp only [chkE, Bool.and_eq_true, Nat.ble_eq, Nat.beq_eq] at hc
    exfalso
    refine hp g (by omega) (by omega) ?_
    omega
end Go.Proofs.Yteijojnahpeglaa.AM
/-! PRINTED by mkfld.py: for each size of field a list of certificates, one for each modulus: a generator, or a divisor; the kernel checks them. -/
namespace Go.Proofs.Yteijojnahpeglaa.AM
open Go Go.RowKit
set_option maxRecDepth 100000
def tab2_2 : List Nat := [4, 5, 4, 2]
theorem tabOk2_2 : chkTab 2 2 [1] tab2_2 = true := by kernel_rfl
def tab2_3 : List Nat := [8, 9, 8, 2, 8, 2, 8, 9]
theorem tabOk2_3 : chkTab 2 3 [1] tab2_3 = true := by kernel_rfl
def tab2_4 : List Nat := [16, 17, 16, 2, 16, 35, 16, 17, 16, 2, 16, 17, 16, 17, 16, 3]
theorem tabOk2_4 : chkTab 2 4 [5, 3] tab2_4 = true := by kernel_rfl
def tab2_5 : List Nat := [32, 33, 32, 67, 32, 2, 32, 33, 32, 2, 32, 33, 32, 33, 32, 2, 32, 67, 32, 33, 32, 33, 32, 2, 32, 33, 32, 2, 32, 2, 32, 33]
theorem tabOk2_5 : chkTab 2 5 [1] tab2_5 = true := by kernel_rfl
def tab2_6 : List Nat := [64, 65, 64, 2, 64, 195, 64, 65, 64, 3, 64, 65, 64, 65, 64, 131, 64, 197, 64, 65, 64, 65, 64, 3, 64, 65, 64, 2, 64, 131, 64, 65, 64, 2, 64, 65, 64, 65, 64, 2, 64, 65, 64, 131, 64, 
  2, 64, 65, 64, 65, 64, 2, 64, 3, 64, 65, 64, 131, 64, 65, 64, 65, 64, 195]
theorem tabOk2_6 : chkTab 2 6 [21, 9] tab2_6 = true := by kernel_rfl
def tab2_7 : List Nat := [128, 129, 128, 2, 128, 259, 128, 129, 128, 2, 128, 129, 128, 129, 128, 2, 128, 2, 128, 129, 128, 129, 128, 259, 128, 129, 128, 389, 128, 2, 128, 129, 128, 259, 128, 129, 128, 129, 
  128, 2, 128, 129, 128, 2, 128, 387, 128, 129, 128, 129, 128, 259, 128, 389, 128, 129, 128, 2, 128, 129, 128, 129, 128, 2, 128, 2, 128, 129, 128, 129, 128, 389, 128, 129, 128, 2, 
  128, 259, 128, 129, 128, 129, 128, 2, 128, 2, 128, 129, 128, 387, 128, 129, 128, 129, 128, 259, 128, 129, 128, 387, 128, 2, 128, 129, 128, 259, 128, 129, 128, 129, 128, 2, 128, 2, 
  128, 129, 128, 129, 128, 2, 128, 129, 128, 259, 128, 2, 128, 129]
theorem tabOk2_7 : chkTab 2 7 [1] tab2_7 = true := by kernel_rfl
def tab2_8 : List Nat := [256, 257, 256, 515, 256, 1027, 256, 257, 256, 771, 256, 257, 256, 257, 256, 773, 256, 515, 256, 257, 256, 257, 256, 1033, 256, 257, 256, 3, 256, 2, 256, 257, 256, 773, 256, 257, 
  256, 257, 256, 515, 256, 257, 256, 2, 256, 2, 256, 257, 256, 257, 256, 771, 256, 515, 256, 257, 256, 3, 256, 257, 256, 257, 256, 3, 256, 1033, 256, 257, 256, 257, 256, 771, 256, 
  257, 256, 515, 256, 2, 256, 257, 256, 257, 256, 773, 256, 1039, 256, 257, 256, 515, 256, 257, 256, 257, 256, 2, 256, 257, 256, 2, 256, 2, 256, 257, 256, 2, 256, 257, 256, 257, 
  256, 515, 256, 2, 256, 257, 256, 257, 256, 3, 256, 257, 256, 9, 256, 515, 256, 257, 256, 515, 256, 257, 256, 257, 256, 2, 256, 257, 256, 6, 256, 2, 256, 257, 256, 257, 256, 515, 
  256, 771, 256, 257, 256, 773, 256, 257, 256, 257, 256, 3, 256, 257, 256, 3, 256, 515, 256, 257, 256, 2, 256, 257, 256, 257, 256, 771, 256, 6, 256, 257, 256, 257, 256, 515, 256, 
  257, 256, 1027, 256, 7, 256, 257, 256, 257, 256, 2, 256, 773, 256, 257, 256, 515, 256, 257, 256, 257, 256, 2, 256, 1027, 256, 257, 256, 257, 256, 7, 256, 257, 256, 515, 256, 6, 
  256, 257, 256, 771, 256, 257, 256, 257, 256, 2, 256, 257, 256, 773, 256, 515, 256, 257, 256, 257, 256, 6, 256, 2, 256, 257, 256, 3, 256, 257, 256, 257, 256, 515]
theorem tabOk2_8 : chkTab 2 8 [85, 51, 15] tab2_8 = true := by kernel_rfl
def tab3_2 : List Nat := [9, 4, 10, 9, 11, 3, 9, 10, 3]
theorem tabOk3_2 : chkTab 3 2 [4] tab3_2 = true := by kernel_rfl
def tab3_3 : List Nat := [27, 28, 29, 27, 29, 28, 27, 3, 6, 27, 29, 5, 27, 28, 4, 27, 3, 28, 27, 3, 28, 27, 3, 29, 27, 28, 4]
theorem tabOk3_3 : chkTab 3 3 [13, 2] tab3_3 = true := by kernel_rfl
def tab3_4 : List Nat := [81, 167, 82, 81, 83, 3, 81, 82, 3, 81, 82, 12, 81, 4, 82, 81, 5, 83, 81, 163, 4, 81, 82, 83, 81, 83, 82, 81, 83, 3, 81, 82, 163, 81, 4, 82, 81, 10, 82, 81, 5, 83, 81, 82, 3, 81, 
  82, 83, 81, 83, 82, 81, 170, 3, 81, 82, 3, 81, 4, 82, 81, 83, 163, 81, 10, 83, 81, 82, 3, 81, 4, 82, 81, 83, 82, 81, 167, 3, 81, 82, 83]
theorem tabOk3_4 : chkTab 3 4 [40, 16] tab3_4 = true := by kernel_rfl
def tab3_5 : List Nat := [243, 244, 245, 243, 245, 244, 243, 3, 6, 243, 245, 494, 243, 244, 4, 243, 487, 244, 243, 491, 244, 243, 3, 245, 243, 244, 487, 243, 245, 244, 243, 3, 6, 243, 244, 245, 243, 244, 
  4, 243, 494, 244, 243, 245, 6, 243, 3, 245, 243, 244, 491, 243, 3, 244, 243, 494, 491, 243, 244, 245, 243, 245, 244, 243, 3, 244, 243, 245, 5, 243, 244, 4, 243, 244, 4, 243, 3, 
  244, 243, 4, 245, 243, 245, 5, 243, 244, 4, 243, 3, 244, 243, 3, 244, 243, 3, 245, 243, 244, 4, 243, 244, 245, 243, 245, 244, 243, 487, 494, 243, 244, 487, 243, 3, 244, 243, 245, 
  491, 243, 491, 245, 243, 244, 494, 243, 3, 244, 243, 245, 244, 243, 3, 6, 243, 244, 245, 243, 3, 244, 243, 245, 487, 243, 244, 6, 243, 244, 4, 243, 3, 244, 243, 494, 245, 243, 3, 
  6, 243, 244, 245, 243, 245, 244, 243, 3, 244, 243, 3, 245, 243, 244, 5, 243, 244, 245, 243, 245, 244, 243, 491, 487, 243, 245, 5, 243, 244, 4, 243, 3, 244, 243, 487, 245, 243, 
  244, 4, 243, 494, 244, 243, 245, 244, 243, 3, 6, 243, 244, 245, 243, 244, 494, 243, 491, 244, 243, 245, 5, 243, 244, 4, 243, 487, 244, 243, 3, 245, 243, 3, 6, 243, 244, 245, 243, 
  245, 244, 243, 7, 244, 243, 245, 5, 243, 244, 491]
theorem tabOk3_5 : chkTab 3 5 [121, 22] tab3_5 = true := by kernel_rfl
def tab5_2 : List Nat := [25, 27, 6, 7, 26, 25, 7, 5, 27, 28, 25, 26, 28, 5, 8, 25, 29, 26, 5, 6, 25, 6, 5, 26, 27]
theorem tabOk5_2 : chkTab 5 2 [12, 8] tab5_2 = true := by kernel_rfl
def tab5_3 : List Nat := [125, 126, 128, 127, 129, 125, 9, 126, 129, 6, 125, 6, 127, 126, 7, 125, 128, 5, 5, 126, 125, 127, 5, 5, 128, 125, 7, 5, 128, 127, 125, 126, 129, 5, 6, 125, 129, 126, 127, 128, 
  125, 6, 128, 126, 8, 125, 6, 127, 5, 126, 125, 6, 129, 5, 126, 125, 129, 127, 5, 7, 125, 126, 5, 5, 127, 125, 127, 126, 128, 129, 125, 128, 5, 126, 8, 125, 127, 5, 126, 7, 125, 6, 
  5, 127, 126, 125, 128, 5, 5, 129, 125, 126, 127, 129, 128, 125, 7, 126, 5, 127, 125, 128, 126, 5, 6, 125, 6, 5, 126, 127, 125, 127, 128, 129, 126, 125, 7, 129, 127, 9, 125, 126, 
  5, 128, 6]
theorem tabOk5_3 : chkTab 5 3 [62, 4] tab5_3 = true := by kernel_rfl
def tab7_2 : List Nat := [49, 9, 8, 51, 8, 52, 50, 49, 52, 53, 7, 10, 51, 10, 49, 50, 10, 7, 52, 7, 53, 49, 11, 50, 53, 54, 7, 11, 49, 8, 54, 50, 51, 7, 8, 49, 55, 8, 7, 50, 7, 51, 49, 51, 52, 7, 9, 50, 9]
theorem tabOk7_2 : chkTab 7 2 [24, 16] tab7_2 = true := by kernel_rfl
def tab11_2 : List Nat := [121, 15, 124, 13, 14, 12, 125, 123, 126, 13, 122, 121, 15, 126, 127, 13, 124, 13, 11, 11, 123, 125, 121, 122, 16, 125, 14, 15, 11, 126, 124, 127, 14, 121, 126, 122, 16, 127, 128, 
  11, 125, 11, 12, 12, 121, 128, 11, 122, 123, 17, 126, 11, 16, 12, 127, 121, 12, 11, 13, 122, 127, 123, 17, 128, 129, 12, 121, 12, 11, 13, 128, 122, 129, 12, 123, 124, 18, 121, 
  124, 11, 129, 130, 13, 122, 11, 12, 14, 123, 121, 123, 130, 13, 124, 125, 11, 122, 11, 12, 14, 121, 131, 14, 123, 12, 13, 11, 124, 122, 125, 12, 121, 14, 125, 126, 12, 123, 12, 
  11, 11, 122, 124]
theorem tabOk11_2 : chkTab 11 2 [60, 40, 24] tab11_2 = true := by kernel_rfl
def tab13_2 : List Nat := [169, 174, 15, 175, 172, 14, 14, 15, 17, 171, 173, 15, 170, 169, 173, 13, 17, 15, 15, 174, 172, 17, 175, 176, 171, 17, 169, 170, 175, 16, 176, 173, 13, 13, 16, 18, 172, 174, 16, 
  169, 18, 170, 174, 14, 18, 13, 13, 175, 173, 18, 176, 177, 169, 175, 13, 170, 171, 176, 13, 177, 174, 14, 14, 13, 19, 169, 19, 177, 178, 170, 19, 171, 175, 15, 19, 14, 13, 176, 
  169, 15, 13, 14, 20, 170, 176, 13, 171, 172, 177, 13, 178, 169, 16, 13, 15, 14, 177, 170, 13, 178, 179, 171, 13, 172, 169, 14, 172, 173, 178, 14, 179, 170, 16, 14, 15, 13, 171, 
  169, 171, 13, 179, 180, 172, 13, 173, 170, 17, 14, 13, 15, 169, 15, 180, 171, 17, 15, 13, 13, 172, 170, 15, 173, 174, 169, 181, 173, 14, 174, 171, 13, 13, 14, 16, 170, 172, 14, 
  169, 172, 13, 16, 14, 14, 173, 171, 16, 174, 175, 170, 16]
theorem tabOk13_2 : chkTab 13 2 [84, 56, 24] tab13_2 = true := by kernel_rfl
def tabP : List (Bool × Nat × List Nat) := [(true, 1, []), (true, 2, [1]), (false, 2, []), (true, 2, [2]), (false, 2, []), (true, 3, [3, 2]), (false, 2, []), (false, 3, []), (false, 2, []), (true, 2, [5, 2]), 
  (false, 2, []), (true, 2, [6, 4]), (false, 2, []), (false, 3, []), (false, 2, []), (true, 3, [8]), (false, 2, []), (true, 2, [9, 6]), (false, 2, []), (false, 3, []), 
  (false, 2, []), (true, 5, [11, 2]), (false, 2, []), (false, 5, []), (false, 2, []), (false, 3, []), (false, 2, []), (true, 2, [14, 4]), (false, 2, []), (true, 3, [15, 10, 6]), 
  (false, 2, []), (false, 3, []), (false, 2, []), (false, 5, []), (false, 2, []), (true, 2, [18, 12]), (false, 2, []), (false, 3, []), (false, 2, []), (true, 6, [20, 8]), 
  (false, 2, []), (true, 3, [21, 14, 6]), (false, 2, []), (false, 3, []), (false, 2, []), (true, 5, [23, 2]), (false, 2, []), (false, 7, []), (false, 2, []), (false, 3, []), 
  (false, 2, []), (true, 2, [26, 4]), (false, 2, []), (false, 5, []), (false, 2, []), (false, 3, []), (false, 2, []), (true, 2, [29, 2]), (false, 2, []), (true, 2, [30, 20, 12]), 
  (false, 2, []), (false, 3, []), (false, 2, []), (false, 5, []), (false, 2, []), (true, 2, [33, 22, 6]), (false, 2, []), (false, 3, []), (false, 2, []), (true, 7, [35, 14, 10]), 
  (false, 2, []), (true, 5, [36, 24]), (false, 2, []), (false, 3, []), (false, 2, []), (false, 7, []), (false, 2, []), (true, 3, [39, 26, 6]), (false, 2, []), (false, 3, []), 
  (false, 2, []), (true, 2, [41, 2]), (false, 2, []), (false, 5, []), (false, 2, []), (false, 3, []), (false, 2, []), (true, 3, [44, 8]), (false, 2, []), (false, 7, []), 
  (false, 2, []), (false, 3, []), (false, 2, []), (false, 5, []), (false, 2, []), (true, 5, [48, 32]), (false, 2, []), (false, 3, []), (false, 2, []), (true, 2, [50, 20]), 
  (false, 2, []), (true, 5, [51, 34, 6]), (false, 2, []), (false, 3, []), (false, 2, []), (true, 2, [53, 2]), (false, 2, []), (true, 6, [54, 36]), (false, 2, []), (false, 3, []), 
  (false, 2, []), (true, 3, [56, 16]), (false, 2, []), (false, 5, []), (false, 2, []), (false, 3, []), (false, 2, []), (false, 7, []), (false, 2, []), (false, 11, []), 
  (false, 2, []), (false, 3, []), (false, 2, []), (false, 5, []), (false, 2, []), (true, 3, [63, 42, 18]), (false, 2, []), (false, 3, []), (false, 2, []), (true, 2, [65, 26, 10]), 
  (false, 2, []), (false, 7, []), (false, 2, []), (false, 3, []), (false, 2, []), (true, 3, [68, 8]), (false, 2, []), (true, 2, [69, 46, 6]), (false, 2, []), (false, 3, []), 
  (false, 2, []), (false, 11, []), (false, 2, []), (false, 5, []), (false, 2, []), (false, 3, []), (false, 2, []), (true, 2, [74, 4]), (false, 2, []), (true, 6, [75, 50, 30]), 
  (false, 2, []), (false, 3, []), (false, 2, []), (false, 5, []), (false, 2, []), (true, 5, [78, 52, 12]), (false, 2, []), (false, 3, []), (false, 2, []), (false, 7, []), 
  (false, 2, []), (true, 2, [81, 54]), (false, 2, []), (false, 3, []), (false, 2, []), (true, 5, [83, 2]), (false, 2, []), (false, 13, []), (false, 2, []), (false, 3, []), 
  (false, 2, []), (true, 2, [86, 4]), (false, 2, []), (false, 5, []), (false, 2, []), (false, 3, []), (false, 2, []), (true, 2, [89, 2]), (false, 2, []), (true, 2, [90, 60, 36]), 
  (false, 2, []), (false, 3, []), (false, 2, []), (false, 5, []), (false, 2, []), (false, 11, []), (false, 2, []), (false, 3, []), (false, 2, []), (true, 19, [95, 38, 10]), 
  (false, 2, []), (true, 5, [96, 64]), (false, 2, []), (false, 3, []), (false, 2, []), (true, 2, [98, 28]), (false, 2, []), (true, 3, [99, 66, 18]), (false, 2, []), (false, 3, []), 
  (false, 2, []), (false, 7, []), (false, 2, []), (false, 5, []), (false, 2, []), (false, 3, []), (false, 2, []), (false, 11, []), (false, 2, []), (true, 2, [105, 70, 42, 30]), 
  (false, 2, []), (false, 3, []), (false, 2, []), (false, 5, []), (false, 2, []), (false, 7, []), (false, 2, []), (false, 3, []), (false, 2, []), (false, 13, []), (false, 2, []), 
  (true, 3, [111, 74, 6]), (false, 2, []), (false, 3, []), (false, 2, []), (true, 2, [113, 2]), (false, 2, []), (true, 6, [114, 76, 12]), (false, 2, []), (false, 3, []), 
  (false, 2, []), (true, 3, [116, 8]), (false, 2, []), (false, 5, []), (false, 2, []), (false, 3, []), (false, 2, []), (true, 7, [119, 34, 14]), (false, 2, []), 
  (true, 7, [120, 80, 48]), (false, 2, []), (false, 3, []), (false, 2, []), (false, 5, []), (false, 2, []), (false, 13, []), (false, 2, []), (false, 3, []), (false, 2, []), 
  (true, 6, [125, 50]), (false, 2, []), (false, 11, []), (false, 2, []), (false, 3, []), (false, 2, [])]
theorem tabPOk : chkP 2 tabP = true := by kernel_rfl
theorem tabP_len : tabP.length = 255 := by kernel_rfl
end Go.Proofs.Yteijojnahpeglaa.AM
/-! PRINTED by mkfld.py: every field has a generator: by the tables. -/
namespace Go.Proofs.Yteijojnahpeglaa.AM
open Go Go.RowKit
set_option linter.unusedVariables false
set_option linter.unusedSimpArgs false
theorem fieldTab {P M : Nat} {mod : List Int} (hF : FieldOk (P : Int) (M : Int) mod) (hM : M ≠ 1) {Ds cs : List Nat} (hD : ∀ d, d ∈ Ds → d < 256) (hq : P ^ M ≤ 256) (ht : chkTab P M Ds cs = true) : ∃ x, 1 ≤ x ∧ x < ordr (P : Int) (M : Int) ∧ IsGen P M mod x := by
  obtain ⟨h1, h2, h3⟩ := hF
  rcases h3 with ⟨h4, -⟩ | ⟨h4, h5, h6, h7⟩
  · omega
  · have h := pm8 h1
    obtain ⟨x, hx, hg⟩ := tab_gen h h1 hq hD ht (by omega) h6 h7
    refine ⟨x, ?_, hx.2, hg⟩
    have h0 := hx.1
    have e1 := (one_el h).2
    have := hg.2.2
    by_cases hz : x = 0
    · rw [hz, pmul_eq h1, fmul_zero h] at this
      omega
    · omega
theorem gen_ex : GenEx := fun p m mod hF => by
  obtain ⟨o1, o2, o3, o4, o5⟩ := ordr_pos hF.1
  have o6 := ordr_p hF.1
  have hprm := hF.2.1
  obtain ⟨P, rfl⟩ : ∃ P : Nat, p = P := ⟨p.toNat, by omega⟩
  obtain ⟨M, rfl⟩ : ∃ M : Nat, m = M := ⟨m.toNat, by omega⟩
  by_cases hM : M = 1
  · subst hM
    have hmod : mod = [] := by
      rcases hF.2.2 with ⟨-, q⟩ | ⟨q, -⟩
      · exact q
      · exact absurd rfl q
    subst hmod
    obtain ⟨e, he⟩ := chkP_at (i := P - 2) tabPOk (by rw [tabP_len]; omega)
    rw [show 2 + (P - 2) = P by omega] at he
    obtain ⟨x, hx, hg⟩ := prime_gen (by omega) (by omega) hprm he
    refine ⟨x, ?_, hx.2, hg⟩
    have h0 := hx.1
    have h := pm8 hF.1
    have := hg.2.2
    by_cases hz : x = 0
    · rw [hz, show ((1 : Int)) = ((1 : Nat) : Int) from rfl, pmul_eq hF.1, fmul_zero h] at this
      have : (0 : Int) = 1 := this
      omega
    · omega
  have o4' : (P : Int) ^ M ≤ 256 := o4
  have hP : P ≤ 16 := by
    apply Classical.byContradiction
    intro q
    have h1 : (P : Int) ^ 2 ≤ (P : Int) ^ M := ipow_mono (by omega) (by omega)
    have h2 : (P : Int) ^ 2 = P * P := by rw [Int.pow_succ, Int.pow_succ, Int.pow_zero, Int.one_mul]
    have h3 : (17 : Int) * 17 ≤ P * P := Int.mul_le_mul (by omega) (by omega) (by omega) (by omega)
    omega
  have hPs : P = 2 ∨ P = 3 ∨ P = 4 ∨ P = 5 ∨ P = 6 ∨ P = 7 ∨ P = 8 ∨ P = 9 ∨ P = 10 ∨ P = 11 ∨ P = 12 ∨ P = 13 ∨ P = 14 ∨ P = 15 ∨ P = 16 := by omega
  have hMs : M = 2 ∨ M = 3 ∨ M = 4 ∨ M = 5 ∨ M = 6 ∨ M = 7 ∨ M = 8 := by omega
  rcases hPs with rfl | rfl | rfl | rfl | rfl | rfl | rfl | rfl | rfl | rfl | rfl | rfl | rfl | rfl | rfl
  · rcases hMs with rfl | rfl | rfl | rfl | rfl | rfl | rfl
    · exact fieldTab hF (by omega) (by decide) (by decide) tabOk2_2
    · exact fieldTab hF (by omega) (by decide) (by decide) tabOk2_3
    · exact fieldTab hF (by omega) (by decide) (by decide) tabOk2_4
    · exact fieldTab hF (by omega) (by decide) (by decide) tabOk2_5
    · exact fieldTab hF (by omega) (by decide) (by decide) tabOk2_6
    · exact fieldTab hF (by omega) (by decide) (by decide) tabOk2_7
    · exact fieldTab hF (by omega) (by decide) (by decide) tabOk2_8
  · rcases hMs with rfl | rfl | rfl | rfl | rfl | rfl | rfl
    · exact fieldTab hF (by omega) (by decide) (by decide) tabOk3_2
    · exact fieldTab hF (by omega) (by decide) (by decide) tabOk3_3
    · exact fieldTab hF (by omega) (by decide) (by decide) tabOk3_4
    · exact fieldTab hF (by omega) (by decide) (by decide) tabOk3_5
    · exact absurd o4' (by decide)
    · exact absurd o4' (by decide)
    · exact absurd o4' (by decide)
  · exact absurd (by decide) (hprm 2 (by decide) (by decide))
  · rcases hMs with rfl | rfl | rfl | rfl | rfl | rfl | rfl
    · exact fieldTab hF (by omega) (by decide) (by decide) tabOk5_2
    · exact fieldTab hF (by omega) (by decide) (by decide) tabOk5_3
    · exact absurd o4' (by decide)
    · exact absurd o4' (by decide)
    · exact absurd o4' (by decide)
    · exact absurd o4' (by decide)
    · exact absurd o4' (by decide)
  · exact absurd (by decide) (hprm 2 (by decide) (by decide))
  · rcases hMs with rfl | rfl | rfl | rfl | rfl | rfl | rfl
    · exact fieldTab hF (by omega) (by decide) (by decide) tabOk7_2
    · exact absurd o4' (by decide)
    · exact absurd o4' (by decide)
    · exact absurd o4' (by decide)
    · exact absurd o4' (by decide)
    · exact absurd o4' (by decide)
    · exact absurd o4' (by decide)
  · exact absurd (by decide) (hprm 2 (by decide) (by decide))
  · exact absurd (by decide) (hprm 3 (by decide) (by decide))
  · exact absurd (by decide) (hprm 2 (by decide) (by decide))
  · rcases hMs with rfl | rfl | rfl | rfl | rfl | rfl | rfl
    · exact fieldTab hF (by omega) (by decide) (by decide) tabOk11_2
    · exact absurd o4' (by decide)
    · exact absurd o4' (by decide)
    · exact absurd o4' (by decide)
    · exact absurd o4' (by decide)
    · exact absurd o4' (by decide)
    · exact absurd o4' (by decide)
  · exact absurd (by decide) (hprm 2 (by decide) (by decide))
  · rcases hMs with rfl | rfl | rfl | rfl | rfl | rfl | rfl
    · exact fieldTab hF (by omega) (by decide) (by decide) tabOk13_2
    · exact absurd o4' (by decide)
    · exact absurd o4' (by decide)
    · exact absurd o4' (by decide)
    · exact absurd o4' (by decide)
    · exact absurd o4' (by decide)
    · exact absurd o4' (by decide)
  · exact absurd (by decide) (hprm 2 (by decide) (by decide))
  · exact absurd (by decide) (hprm 3 (by decide) (by decide))
  · exact absurd (by decide) (hprm 2 (by decide) (by decide))
theorem alg : Alg := alg_of gen_ex gen_irr
end Go.Proofs.Yteijojnahpeglaa.AM
/-! The row's wrap and the algebra of the small fields, together: what each law's proof imports. -/

/-! The law OrderingSteps. -/
namespace Go.Proofs.Yteijojnahpeglaa.AM
open Go Go.RowKit
set_option linter.unusedVariables false
set_option linter.unusedSimpArgs false
set_option maxRecDepth 20000
theorem dimP_one {p m : Int} {mod : List Int} (h : (fF p m mod).Ok) {n : Int} (hn : 0 ≤ n) {rows : List (List Int)} (he : Els (fF p m mod) rows) {s t : Nat → Bool} {x : Nat} (hst : ∀ i, i < n.toNat → t i = (s i || decide (i = x))) : dimP p m mod n rows s ≤ dimP p m mod n rows t + 1 ∧ dimP p m mod n rows t ≤ dimP p m mod n rows s + 1 := by
  letI := h.fd
  have a1 := (clo (colV h rows)).R_one (s := s) (t := t) (p := x) hst
  have a2 := (clo (colV h rows)).R_mono (n := n.toNat) (s := s) (t := t) fun i hi q => by rw [hst i hi, q]; rfl
  by_cases hx : x < n.toNat ∧ s x = false
  · have a3 := (clo (colV h rows)).R_one (n := n.toNat) (s := fun i => !t i) (t := fun i => !s i) (p := x) fun i hi => by
      rw [hst i hi]
      by_cases q : i = x
      · subst q; simp [hx.2]
      · simp [q]
    have a4 := (clo (colV h rows)).R_mono (n := n.toNat) (s := fun i => !t i) (t := fun i => !s i) fun i hi q => by
      rw [hst i hi] at q
      simp at q
      simp [q.1]
    rw [dimP, dimP, rankP_R h he, rankP_R h he, rankP_R h he, rankP_R h he]
    omega
  · have e : dimP p m mod n rows t = dimP p m mod n rows s := dimP_congr fun i hi => by
      rw [hst i (by omega)]
      by_cases q : i = x
      · subst q
        have : s i = true := by
          cases hs : s i with
          | true => rfl
          | false => exact absurd ⟨by omega, hs⟩ hx
        simp [this]
      · simp [q]
    omega
theorem dimP_ge {p m n : Int} {mod : List Int} {rows : List (List Int)} (s : Nat → Bool) : -(rows.length : Int) ≤ dimP p m mod n rows s := by rw [dimP]; omega
theorem maskL_len (k : Nat) (s : Nat → Bool) : (maskL k s).length ≤ k := by
  rw [maskL, natsI_length]
  have := List.length_filter_le s (List.range k)
  simpa using this
theorem contains_take_succ {set : List Int} {i : Nat} (hi : i < set.length) (x : Int) : (set.take (i + 1)).contains x = ((set.take i).contains x || decide (set.getD i 0 = x)) := by
  rw [Bool.eq_iff_iff]
  simp only [List.contains_iff_mem, Bool.or_eq_true, decide_eq_true_eq]
  rw [mem_take_succ hi]
  exact or_congr Iff.rfl eq_comm
theorem law_Steps (A : Alg) {p m n : Int} {md v sv : AV} {mod set : List Int} {us : List AV} {rows : List (List Int)} {H : AH} (hm : Ints H md mod) (hlm : mod.length ≤ 9223372036854775807) (hv : Rows H v us rows) (hl : rows.length ≤ 9223372036854775807) (hlr : ∀ i, i < rows.length → (rowAt rows i).length ≤ 9223372036854775807) (hs : Ints H sv set) (hls : set.length ≤ 9223372036854775807) (x : Int) :
    AC Try.prog 5 [codeV p m md n v, sv, .int .i64 x] H fun r H' => r = .bool true ∧ Ext H H' := by
  refine at5 (by simp) ?_
  simp (disch := first | assumption | omega) only [↓RP, RQ, TY, loadT, s5, reduceIte, Nat.reduceEqDiff, Nat.reduceAdd]
  refine kNew_intro fun b H1 hb hE1 hH1 => ?_
  simp (disch := first | assumption | omega) only [↓RP, RQ, TY, loadT, reduceIte, Nat.reduceEqDiff, Nat.reduceAdd, hH1]
  refine c_alive A fun H2 hE2 => ?_
  have hE12 := hE1.trans hE2
  have h2 := hE2.rw hH1
  simp (disch := first | assumption | omega) only [↓RP, RQ, TY, loadT, reduceIte, Nat.reduceEqDiff, Nat.reduceAdd, h2]
  refine c_Check12 A.fo (hm.ext hE12) (hv.ext hE12) hl hlr fun H3 hE3 => ?_
  have hE13 := hE12.trans hE3
  have h3 := hE3.rw h2
  by_cases h0 : codeErr p m mod n rows = 0
  rotate_left
  · simp (disch := first | assumption | omega) only [↓RP, RQ, TY, loadT, reduceIte, Nat.reduceEqDiff, Nat.reduceAdd, eq_false h0, h3]
    exact ⟨rfl, hE13⟩
  simp (disch := first | assumption | omega) only [↓RP, RQ, TY, loadT, reduceIte, Nat.reduceEqDiff, Nat.reduceAdd, eq_true h0, h3]
  have hs3 := hs.ext hE13
  refine c_IsSubset hs3 hls ?_
  by_cases hS : Subset n set
  rotate_left
  · simp (disch := first | assumption | omega) only [↓RP, RQ, TY, loadT, reduceIte, Nat.reduceEqDiff, Nat.reduceAdd, hS, h3]
    exact ⟨rfl, hE13⟩
  have ca := A.fo.ca h0 (hm.ext hE13) (hv.ext hE13)
  have n1 := ca.n1
  have n64 := ca.n64
  by_cases c1 : x < 0
  · simp (disch := first | assumption | omega) only [↓RP, RQ, TY, loadT, reduceIte, Nat.reduceEqDiff, Nat.reduceAdd, hS, h3, c1]
    exact ⟨rfl, hE13⟩
  by_cases c2 : n ≤ x
  · simp (disch := first | assumption | omega) only [↓RP, RQ, TY, loadT, reduceIte, Nat.reduceEqDiff, Nat.reduceAdd, hS, h3, c1, c2]
    exact ⟨rfl, hE13⟩
  simp (disch := first | assumption | omega) only [↓RP, RQ, TY, loadT, reduceIte, Nat.reduceEqDiff, Nat.reduceAdd, hS, h3, c1, c2]
  refine kNew_intro fun b4 H4 hb4 hE4 hH4 => ?_
  have hE14 := hE13.trans hE4
  have h4 := hE4.rw h3
  have f4 := hE13.free hb4
  have nb : b ≠ b4 := fun q => by rw [← q, h3] at hb4; cases hb4
  simp (disch := first | assumption | omega) only [↓RP, RQ, TY, loadT, reduceIte, Nat.reduceEqDiff, Nat.reduceAdd]
  refine sw_loop (σ := Nat × AV) (fun s e H' => e 8 = .int .i64 s.1 ∧ e 7 = s.2 ∧ e 3 = .ptr b 0 ∧ e 1 = sv ∧ e 2 = .int .i64 x ∧ s.1 ≤ n.toNat ∧ Ext H H' ∧ H' b = .rw [.int .i64 p, .int .i64 m, md, .int .i64 n, v] ∧ Off s.2 b ∧ Own H H' s.2 (ints (maskL s.1 fun i => decide ((i : Int) = x) || set.contains (i : Int)))) (fun s => n.toNat - s.1) (0, .sl b4 0 0 (.own 1)) ?_ ?_
  · simp (disch := first | assumption | omega) only [↓RP, RQ, TY, loadT, reduceIte, Nat.reduceEqDiff, Nat.reduceAdd]
    refine ⟨by omega, hE14, h4, fun o n c q => (by cases q; exact nb rfl), Own.mk hH4 f4 rfl⟩
  rintro ⟨q, w⟩ e H5 ⟨e8, e7, e3, e1, e2, hq, hE5, h5, hoff, ho⟩
  dsimp only at *
  have hs5 := hs.ext hE5
  by_cases hin : (q : Int) < n
  · simp (disch := first | assumption | omega) only [↓RP, RQ, TY, loadT, reduceIte, Nat.reduceEqDiff, Nat.reduceAdd, e8, e7, e3, e1, e2, hin, h5]
    refine sw_loop (σ := Nat) (fun i e H' => e 10 = .int .i64 i ∧ e 9 = .bool (decide ((q : Int) = x) || (set.take i).contains (q : Int)) ∧ e 8 = .int .i64 q ∧ e 7 = w ∧ e 3 = .ptr b 0 ∧ e 1 = sv ∧ e 2 = .int .i64 x ∧ i ≤ set.length ∧ H' = H5) (fun i => set.length - i) 0 ?_ ?_
    · simp (disch := first | assumption | omega) only [↓RP, RQ, TY, loadT, reduceIte, Nat.reduceEqDiff, Nat.reduceAdd, e8, e7, e3, e1, e2]
      simp
    rintro i e' H' ⟨g10, g9, g8, g7, g3, g1, g2, hi, rfl⟩
    by_cases hlt : (i : Int) < set.length
    · have hc := contains_take_succ (set := set) (i := i) (by omega) (q : Int)
      cases hB : (decide ((q : Int) = x) || (set.take i).contains (q : Int))
      · rw [hB] at g9
        simp (disch := first | assumption | omega) only [↓RP, RQ, TY, loadT, reduceIte, Nat.reduceEqDiff, Nat.reduceAdd, g10, g9, g8, g7, g3, g1, g2, hlt, hs5.ints]
        refine ⟨i + 1, ?_, by dsimp only; omega⟩
        simp (disch := first | assumption | omega) only [↓RP, RQ, TY, loadT, reduceIte, Nat.reduceEqDiff, Nat.reduceAdd, g10, g9, g8, g7, g3, g1, g2]
        refine ⟨?_, by omega⟩
        rw [hc, ← Bool.or_assoc, hB]
        simp
      · rw [hB] at g9
        simp (disch := first | assumption | omega) only [↓RP, RQ, TY, loadT, reduceIte, Nat.reduceEqDiff, Nat.reduceAdd, g10, g9, g8, g7, g3, g1, g2, hlt, hs5.ints]
        refine ⟨i + 1, ?_, by dsimp only; omega⟩
        simp (disch := first | assumption | omega) only [↓RP, RQ, TY, loadT, reduceIte, Nat.reduceEqDiff, Nat.reduceAdd, g10, g9, g8, g7, g3, g1, g2]
        refine ⟨?_, by omega⟩
        rw [hc, ← Bool.or_assoc, hB]
        simp
    · rw [List.take_of_length_le (by omega)] at g9
      have hml := maskL_len q fun i => decide ((i : Int) = x) || set.contains (i : Int)
      have hms := maskL_succ q fun i => decide ((i : Int) = x) || set.contains (i : Int)
      cases hB : (decide ((q : Int) = x) || set.contains (q : Int))
      · rw [hB] at g9 hms
        simp (disch := first | assumption | omega) only [↓RP, RQ, TY, loadT, reduceIte, Nat.reduceEqDiff, Nat.reduceAdd, g10, g9, g8, g7, g3, g1, g2, hlt, hs5.ints]
        refine ⟨(q + 1, w), ?_, by dsimp only; omega⟩
        simp (disch := first | assumption | omega) only [↓RP, RQ, TY, loadT, reduceIte, Nat.reduceEqDiff, Nat.reduceAdd, g10, g9, g8, g7, g3, g1, g2]
        refine ⟨by omega, hE5, h5, hoff, ?_⟩
        rw [hms]
        simpa using ho
      · rw [hB] at g9 hms
        simp (disch := first | assumption | omega) only [↓RP, RQ, TY, loadT, reduceIte, Nat.reduceEqDiff, Nat.reduceAdd, g10, g9, g8, g7, g3, g1, g2, hlt, hs5.ints]
        refine kNew_intro fun b6 H6 hb6 hE6 hH6 => ?_
        simp (disch := first | assumption | omega) only [↓RP, RQ, TY, loadT, reduceIte, Nat.reduceEqDiff, Nat.reduceAdd]
        refine kApp_own (H0 := H) (us := ints [(q : Int)]) (ho.ext hE6) (hE5.trans hE6) (Sl.own hH6 rfl) ints_ones (by rw [ints_length, ints_length, List.length_singleton]; omega) (by rw [ints_length, ints_length, List.length_singleton]; omega) fun v7 H7 hE7 ho7 keep7 => ?_
        simp (disch := first | assumption | omega) only [↓RP, RQ, TY, loadT, reduceIte, Nat.reduceEqDiff, Nat.reduceAdd, g10, g9, g8, g7, g3, g1, g2]
        refine ⟨(q + 1, v7), ?_, by dsimp only; omega⟩
        simp (disch := first | assumption | omega) only [↓RP, RQ, TY, loadT, reduceIte, Nat.reduceEqDiff, Nat.reduceAdd, g10, g9, g8, g7, g3, g1, g2]
        obtain ⟨k1, k2⟩ := keep7 b _ (hE6.rw h5) hoff
        refine ⟨by omega, hE7, k1, k2, ?_⟩
        rw [hms]
        rw [ints_app] at ho7
        simpa using ho7
  · rw [show q = n.toNat by omega] at ho
    have hml := maskL_len n.toNat fun i => decide ((i : Int) = x) || set.contains (i : Int)
    simp (disch := first | assumption | omega) only [↓RP, RQ, TY, loadT, reduceIte, Nat.reduceEqDiff, Nat.reduceAdd, e8, e7, e3, e1, e2, hin, h5]
    refine c_ODim A (hm.ext hE5) hlm (hv.ext hE5) hs5 hl hlr hls fun H6 hE6 => ?_
    have h6 := hE6.rw h5
    have hE16 := hE5.trans hE6
    simp (disch := first | assumption | omega) only [↓RP, RQ, TY, loadT, reduceIte, Nat.reduceEqDiff, Nat.reduceAdd, e8, e7, e3, e1, e2, h6]
    refine c_ODim A (hm.ext hE16) hlm (hv.ext hE16) (ho.ext hE6).sl hl hlr (by omega) fun H7 hE7 => ?_
    have hS2 : Subset n (maskL n.toNat fun i => decide ((i : Int) = x) || set.contains (i : Int)) := by
      have := maskL_subset (fun i => decide ((i : Int) = x) || set.contains (i : Int)) n.toNat
      rwa [show ((n.toNat : Nat) : Int) = n by omega] at this
    have e1 : dimErr p m mod n rows set = 0 := dimErr_ok h0 hS
    have e2 : dimErr p m mod n rows (maskL n.toNat fun i => decide ((i : Int) = x) || set.contains (i : Int)) = 0 := dimErr_ok h0 hS2
    have e3 : dimValP p m mod n rows set = dimP p m mod n rows (inL set) := by rw [dimValP, if_pos e1]
    have e4 : dimValP p m mod n rows (maskL n.toNat fun i => decide ((i : Int) = x) || set.contains (i : Int)) = dimP p m mod n rows (fun i => decide ((i : Int) = x) || set.contains (i : Int)) := by
      rw [dimValP, if_pos e2]
      exact dimP_congr fun i hi => inL_mask n.toNat _ i (by omega)
    obtain ⟨d1, d2⟩ := dimP_one ca.fa.ok (n := n) (by omega) ca.els (s := inL set) (t := fun i => decide ((i : Int) = x) || set.contains (i : Int)) (x := x.toNat) fun i hi => by
      rw [Bool.or_comm, inL]
      congr 1
      exact decide_eq_decide.mpr (by omega)
    obtain ⟨b1, b2⟩ := dimP_le ca.fa.ok (n := n) (by omega) ca.els (inL set)
    obtain ⟨b3, b4⟩ := dimP_le ca.fa.ok (n := n) (by omega) ca.els (fun i => decide ((i : Int) = x) || set.contains (i : Int))
    have kn := ca.kn
    have b5 := dimP_ge (p := p) (m := m) (n := n) (mod := mod) (rows := rows) (inL set)
    have b6 := dimP_ge (p := p) (m := m) (n := n) (mod := mod) (rows := rows) (fun i => decide ((i : Int) = x) || set.contains (i : Int))
    rw [e1, e2, e3, e4]
    simp (disch := first | assumption | omega) only [↓RP, RQ, TY, loadT, reduceIte, Nat.reduceEqDiff, Nat.reduceAdd, d1, d2, Int.reduceEq]
    exact ⟨rfl, hE16.trans hE7⟩
end Go.Proofs.Yteijojnahpeglaa.AM
/-! The law OrderingModular. -/
namespace Go.Proofs.Yteijojnahpeglaa.AM
open Go Go.RowKit
set_option linter.unusedVariables false
set_option linter.unusedSimpArgs false
set_option maxRecDepth 20000
theorem dimP_sub {p m : Int} {mod : List Int} (h : (fF p m mod).Ok) {n : Int} {rows : List (List Int)} (he : Els (fF p m mod) rows) (s t : Nat → Bool) : dimP p m mod n rows (fun i => s i || t i) + dimP p m mod n rows (fun i => s i && t i) ≤ dimP p m mod n rows s + dimP p m mod n rows t := by
  letI := h.fd
  have a1 := (clo (colV h rows)).R_sub n.toNat s t
  have a2 := (clo (colV h rows)).R_sub n.toNat (fun i => !s i) (fun i => !t i)
  have e1 : (fun i => !(s i || t i)) = fun i => !s i && !t i := funext fun i => by simp
  have e2 : (fun i => !(s i && t i)) = fun i => !s i || !t i := funext fun i => by simp
  rw [dimP, dimP, dimP, dimP, e1, e2]
  simp only [rankP_R h he]
  omega
theorem count_take_succ {set : List Int} {i : Nat} (hi : i < set.length) (x : Int) : (set.take (i + 1)).count x = (set.take i).count x + if set.getD i 0 = x then 1 else 0 := by
  rw [← take_push 0 hi, List.count_append, List.count_singleton]
  by_cases q : set.getD i 0 = x <;> simp [q]
theorem Subset.count {n : Int} {s : List Int} (h : Subset n s) (x : Int) : s.count x = if s.contains x = true then 1 else 0 := by
  by_cases q : s.contains x = true
  · rw [if_pos q]
    have h1 := List.nodup_iff_count.mp h.nodup x
    have h2 := List.count_pos_iff.mpr (List.contains_iff_mem.mp q)
    omega
  · rw [if_neg q]
    exact List.count_eq_zero.mpr fun w => q (List.contains_iff_mem.mpr w)
theorem maskL_yes {n : Nat} {s : Nat → Bool} (h : s n = true) : maskL (n + 1) s = maskL n s ++ [(n : Int)] := by rw [maskL_succ, if_pos h]
theorem maskL_no {n : Nat} {s : Nat → Bool} (h : s n = false) : maskL (n + 1) s = maskL n s := by rw [maskL_succ, if_neg (by simp [h]), List.append_nil]
theorem count_take_le (s : List Int) (i : Nat) (x : Int) : (s.take i).count x ≤ s.length := Nat.le_trans List.count_le_length (by rw [List.length_take]; omega)
theorem law_Modular (A : Alg) {p m n : Int} {md v sv tv : AV} {mod set tet : List Int} {us : List AV} {rows : List (List Int)} {H : AH} (hm : Ints H md mod) (hlm : mod.length ≤ 9223372036854775807) (hv : Rows H v us rows) (hl : rows.length ≤ 9223372036854775807) (hlr : ∀ i, i < rows.length → (rowAt rows i).length ≤ 9223372036854775807) (hs : Ints H sv set) (hls : set.length ≤ 9223372036854775807) (ht : Ints H tv tet) (hlt : tet.length ≤ 9223372036854775807) :
    AC Try.prog 4 [codeV p m md n v, sv, tv] H fun r H' => r = .bool true ∧ Ext H H' := by
  refine at4 (by simp) ?_
  simp (disch := first | assumption | omega) only [↓RP, RQ, TY, loadT, s4, reduceIte, Nat.reduceEqDiff, Nat.reduceAdd]
  refine kNew_intro fun b H1 hb hE1 hH1 => ?_
  simp (disch := first | assumption | omega) only [↓RP, RQ, TY, loadT, reduceIte, Nat.reduceEqDiff, Nat.reduceAdd, hH1]
  refine c_alive A fun H2 hE2 => ?_
  have hE12 := hE1.trans hE2
  have h2 := hE2.rw hH1
  simp (disch := first | assumption | omega) only [↓RP, RQ, TY, loadT, reduceIte, Nat.reduceEqDiff, Nat.reduceAdd, h2]
  refine c_Check12 A.fo (hm.ext hE12) (hv.ext hE12) hl hlr fun H3 hE3 => ?_
  have hE13 := hE12.trans hE3
  have h3 := hE3.rw h2
  by_cases h0 : codeErr p m mod n rows = 0
  rotate_left
  · simp (disch := first | assumption | omega) only [↓RP, RQ, TY, loadT, reduceIte, Nat.reduceEqDiff, Nat.reduceAdd, eq_false h0, h3]
    exact ⟨rfl, hE13⟩
  simp (disch := first | assumption | omega) only [↓RP, RQ, TY, loadT, reduceIte, Nat.reduceEqDiff, Nat.reduceAdd, eq_true h0, h3]
  have hs3 := hs.ext hE13
  have ht3 := ht.ext hE13
  refine c_IsSubset hs3 hls ?_
  by_cases hS : Subset n set
  rotate_left
  · simp (disch := first | assumption | omega) only [↓RP, RQ, TY, loadT, reduceIte, Nat.reduceEqDiff, Nat.reduceAdd, hS, h3]
    exact ⟨rfl, hE13⟩
  simp (disch := first | assumption | omega) only [↓RP, RQ, TY, loadT, reduceIte, Nat.reduceEqDiff, Nat.reduceAdd, hS, h3]
  refine c_IsSubset ht3 hlt ?_
  by_cases hT : Subset n tet
  rotate_left
  · simp (disch := first | assumption | omega) only [↓RP, RQ, TY, loadT, reduceIte, Nat.reduceEqDiff, Nat.reduceAdd, hT, h3]
    exact ⟨rfl, hE13⟩
  have ca := A.fo.ca h0 (hm.ext hE13) (hv.ext hE13)
  have n1 := ca.n1
  have n64 := ca.n64
  have hSl := hS.length (by omega)
  have hTl := hT.length (by omega)
  simp (disch := first | assumption | omega) only [↓RP, RQ, TY, loadT, reduceIte, Nat.reduceEqDiff, Nat.reduceAdd, hT, h3]
  refine kNew_intro fun b4 H4 hb4 hE4 hH4 => ?_
  rw [ints_rep] at hH4
  have hE14 := hE13.trans hE4
  have hp1 := (Hp.nil (Ext.refl H)).new hb hE1 hH1 rfl
  have hp4 := (hp1.more (hE2.trans hE3)).new (n := n.toNat) hb4 hE4 hH4 (by simp [ints_length])
  simp (disch := first | assumption | omega) only [↓RP, RQ, TY, loadT, reduceIte, Nat.reduceEqDiff, Nat.reduceAdd]
  refine sw_loop (σ := Nat × List Int) (fun s e H' => e 8 = .int .i64 s.1 ∧ e 7 = .sl b4 0 n.toNat (.own 1) ∧ e 3 = .ptr b 0 ∧ e 1 = sv ∧ e 2 = tv ∧ s.1 ≤ set.length ∧ Hp H H' [(.sl b4 0 n.toNat (.own 1), ints s.2), (.sl b 0 5 (.own 1), [.int .i64 p, .int .i64 m, md, .int .i64 n, v])] ∧ s.2.length = n.toNat ∧ ∀ j, j < n.toNat → s.2.getD j 0 = ((set.take s.1).count (j : Int) : Nat)) (fun s => set.length - s.1) (0, List.replicate n.toNat 0) ?_ ?_
  · simp (disch := first | assumption | omega) only [↓RP, RQ, TY, loadT, reduceIte, Nat.reduceEqDiff, Nat.reduceAdd]
    exact ⟨by omega, hp4, by simp, fun j hj => by simp [List.getD_eq_getElem?_getD, hj]⟩
  rintro ⟨i, L⟩ e H5 ⟨e8, e7, e3, e1, e2, hi, hp5, hLl, hLs⟩
  dsimp only at *
  have hs5 := hs.ext hp5.ext
  have hL5 := (hp5.blkOf (y := (.sl b4 0 n.toNat (.own 1), ints L)) (by simp) rfl).1
  by_cases hin : (i : Int) < set.length
  · have hp := hS.poss i (by omega)
    have hil := ints_length L
    have hx := hLs (set.getD i 0).toNat (by omega)
    have hy := count_take_le set i (((set.getD i 0).toNat : Nat) : Int)
    obtain ⟨z, hz⟩ : ∃ z : Nat, (set.take i).count (((set.getD i 0).toNat : Nat) : Int) = z := ⟨_, rfl⟩
    rw [hz] at hx hy
    simp (disch := first | assumption | omega) only [↓RP, RQ, TY, loadT, reduceIte, Nat.reduceEqDiff, Nat.reduceAdd, e8, e7, e3, e1, e2, hin, hs5.ints, hL5, ints_get, hx, ints_set]
    refine ⟨(i + 1, L.set (set.getD i 0).toNat ((z : Int) + 1)), ?_, by dsimp only; omega⟩
    simp (disch := first | assumption | omega) only [↓RP, RQ, TY, loadT, reduceIte, Nat.reduceEqDiff, Nat.reduceAdd, e8, e7, e3, e1, e2]
    refine ⟨by omega, hp5.upd (by simp [ints_length]), by simpa using hLl, fun j hj => ?_⟩
    rw [count_take_succ (by omega), getD_setN]
    by_cases hjs : j = (set.getD i 0).toNat
    · rw [if_pos ⟨hjs, by omega⟩, if_pos (by omega), hjs, hz]
      omega
    · rw [if_neg (fun q => hjs q.1), if_neg (by omega), hLs j hj]
      omega
  rw [List.take_of_length_le (by omega)] at hLs
  simp (disch := first | assumption | omega) only [↓RP, RQ, TY, loadT, reduceIte, Nat.reduceEqDiff, Nat.reduceAdd, e8, e7, e3, e1, e2, hin, hs5.ints]
  refine sw_loop (σ := Nat × List Int) (fun s e H' => e 9 = .int .i64 s.1 ∧ e 7 = .sl b4 0 n.toNat (.own 1) ∧ e 3 = .ptr b 0 ∧ e 1 = sv ∧ e 2 = tv ∧ s.1 ≤ tet.length ∧ Hp H H' [(.sl b4 0 n.toNat (.own 1), ints s.2), (.sl b 0 5 (.own 1), [.int .i64 p, .int .i64 m, md, .int .i64 n, v])] ∧ s.2.length = n.toNat ∧ ∀ j, j < n.toNat → s.2.getD j 0 = ((set.count (j : Int) + (tet.take s.1).count (j : Int) : Nat) : Int)) (fun s => tet.length - s.1) (0, L) ?_ ?_
  · simp (disch := first | assumption | omega) only [↓RP, RQ, TY, loadT, reduceIte, Nat.reduceEqDiff, Nat.reduceAdd, e8, e7, e3, e1, e2]
    exact ⟨by omega, hp5, hLl, fun j hj => by simpa using hLs j hj⟩
  clear hin hLs hL5 hs5 e8 e7 e3 e1 e2 hLl hi hp5
  rintro ⟨i', L'⟩ e' H6 ⟨e9, e7, e3, e1, e2, hi, hp6, hLl, hLs⟩
  dsimp only at *
  have ht6 := ht.ext hp6.ext
  have hL6 := (hp6.blkOf (y := (.sl b4 0 n.toNat (.own 1), ints L')) (by simp) rfl).1
  by_cases hin : (i' : Int) < tet.length
  · have hp := hT.poss i' (by omega)
    have hil := ints_length L'
    have hx := hLs (tet.getD i' 0).toNat (by omega)
    have hy := count_take_le tet i' (((tet.getD i' 0).toNat : Nat) : Int)
    have hy2 : set.count (((tet.getD i' 0).toNat : Nat) : Int) ≤ set.length := List.count_le_length
    obtain ⟨z, hz⟩ : ∃ z : Nat, set.count (((tet.getD i' 0).toNat : Nat) : Int) + (tet.take i').count (((tet.getD i' 0).toNat : Nat) : Int) = z := ⟨_, rfl⟩
    rw [hz] at hx
    simp (disch := first | assumption | omega) only [↓RP, RQ, TY, loadT, reduceIte, Nat.reduceEqDiff, Nat.reduceAdd, e9, e7, e3, e1, e2, hin, ht6.ints, hL6, ints_get, hx, ints_set]
    refine ⟨(i' + 1, L'.set (tet.getD i' 0).toNat ((z : Int) + 1)), ?_, by dsimp only; omega⟩
    simp (disch := first | assumption | omega) only [↓RP, RQ, TY, loadT, reduceIte, Nat.reduceEqDiff, Nat.reduceAdd, e9, e7, e3, e1, e2]
    refine ⟨by omega, hp6.upd (by simp [ints_length]), by simpa using hLl, fun j hj => ?_⟩
    rw [count_take_succ (by omega), getD_setN]
    by_cases hjs : j = (tet.getD i' 0).toNat
    · rw [if_pos ⟨hjs, by omega⟩, if_pos (by omega), hjs]
      omega
    · rw [if_neg (fun q => hjs q.1), if_neg (by omega), hLs j hj]
      omega
  rw [List.take_of_length_le (by omega)] at hLs
  simp (disch := first | assumption | omega) only [↓RP, RQ, TY, loadT, reduceIte, Nat.reduceEqDiff, Nat.reduceAdd, e9, e7, e3, e1, e2, hin, ht6.ints]
  refine kNew_intro fun b7 H7 hb7 hE7 hH7 => ?_
  simp (disch := first | assumption | omega) only [↓RP, RQ, TY, loadT, reduceIte, Nat.reduceEqDiff, Nat.reduceAdd]
  refine kNew_intro fun b8 H8 hb8 hE8 hH8 => ?_
  simp (disch := first | assumption | omega) only [↓RP, RQ, TY, loadT, reduceIte, Nat.reduceEqDiff, Nat.reduceAdd]
  have hp8 := (hp6.new hb7 hE7 hH7 rfl).new hb8 hE8 hH8 rfl
  refine sw_loop (σ := Nat × AV × AV) (fun s e H' => e 12 = .int .i64 s.1 ∧ e 10 = s.2.1 ∧ e 11 = s.2.2 ∧ e 7 = .sl b4 0 n.toNat (.own 1) ∧ e 3 = .ptr b 0 ∧ e 1 = sv ∧ e 2 = tv ∧ s.1 ≤ n.toNat ∧ Hp H H' [(s.2.2, ints (maskL s.1 fun i => inL set i && inL tet i)), (s.2.1, ints (maskL s.1 fun i => inL set i || inL tet i)), (.sl b4 0 n.toNat (.own 1), ints L'), (.sl b 0 5 (.own 1), [.int .i64 p, .int .i64 m, md, .int .i64 n, v])]) (fun s => n.toNat - s.1) (0, .sl b7 0 0 (.own 1), .sl b8 0 0 (.own 1)) ?_ ?_
  · simp (disch := first | assumption | omega) only [↓RP, RQ, TY, loadT, reduceIte, Nat.reduceEqDiff, Nat.reduceAdd, e9, e7, e3, e1, e2]
    exact ⟨by omega, hp8⟩
  clear hp8 hH7 hH8 hb7 hb8 hE7 hE8 hin e9 e7 e3 e1 e2 hL6 ht6 hp6 hi hp4 hp1 hE4
  rintro ⟨q, w1, w2⟩ e H9 ⟨e12, e10, e11, e7, e3, e1, e2, hq, hp⟩
  dsimp only at *
  have h9 := (hp.blkOf (y := (.sl b 0 5 (.own 1), [.int .i64 p, .int .i64 m, md, .int .i64 n, v])) (by simp) rfl).1
  have hL9 := (hp.blkOf (y := (.sl b4 0 n.toNat (.own 1), ints L')) (by simp) rfl).1
  by_cases hin : (q : Int) < n
  · have hx := hLs q (by omega)
    have hil := ints_length L'
    rw [hS.count, hT.count] at hx
    have m1 := maskL_length q fun i => inL set i && inL tet i
    have m2 := maskL_length q fun i => inL set i || inL tet i
    have hx1 : (¬ 0 < L'.getD q 0 ↔ (set.contains (q : Int) || tet.contains (q : Int)) = false) := by
      rw [hx]; cases set.contains (q : Int) <;> cases tet.contains (q : Int) <;> simp
    have hx2 : (¬ 1 < L'.getD q 0 ↔ (set.contains (q : Int) && tet.contains (q : Int)) = false) := by
      rw [hx]; cases set.contains (q : Int) <;> cases tet.contains (q : Int) <;> simp
    clear hx
    by_cases g1 : 0 < L'.getD q 0
    · have k1 : (set.contains (q : Int) || tet.contains (q : Int)) = true := by
        cases h : (set.contains (q : Int) || tet.contains (q : Int)) with
        | true => rfl
        | false => exact absurd g1 (hx1.mpr h)
      have n2 := maskL_yes (n := q) (s := fun i => inL set i || inL tet i) k1
      simp (disch := first | assumption | omega) only [↓RP, RQ, TY, loadT, reduceIte, Nat.reduceEqDiff, Nat.reduceAdd, e12, e10, e11, e7, e3, e1, e2, hin, h9, hL9, ints_get, g1]
      refine kNew_intro fun b10 H10 hb10 hE10 hH10 => ?_
      simp (disch := first | assumption | omega) only [↓RP, RQ, TY, loadT, reduceIte, Nat.reduceEqDiff, Nat.reduceAdd]
      refine kApp_hp (us := ints [(q : Int)]) (((hp.more hE10)).perm (List.Perm.swap _ _ _)) (Sl.own hH10 rfl) ints_ones (by rw [ints_length, ints_length, List.length_singleton]; omega) (by rw [ints_length, ints_length, List.length_singleton]; omega) fun v11 H11 hp11 => ?_
      rw [ints_app] at hp11
      have hL11 := (hp11.blkOf (y := (.sl b4 0 n.toNat (.own 1), ints L')) (by simp) rfl).1
      by_cases g2 : 1 < L'.getD q 0
      · have k2 : (set.contains (q : Int) && tet.contains (q : Int)) = true := by
          cases h : (set.contains (q : Int) && tet.contains (q : Int)) with
          | true => rfl
          | false => exact absurd g2 (hx2.mpr h)
        have n1 := maskL_yes (n := q) (s := fun i => inL set i && inL tet i) k2
        simp (disch := first | assumption | omega) only [↓RP, RQ, TY, loadT, reduceIte, Nat.reduceEqDiff, Nat.reduceAdd, e12, e10, e11, e7, e3, e1, e2, hin, hL11, ints_get, g2]
        refine kNew_intro fun b12 H12 hb12 hE12 hH12 => ?_
        simp (disch := first | assumption | omega) only [↓RP, RQ, TY, loadT, reduceIte, Nat.reduceEqDiff, Nat.reduceAdd]
        refine kApp_hp (us := ints [(q : Int)]) (((hp11.more hE12)).perm (List.Perm.swap _ _ _)) (Sl.own hH12 rfl) ints_ones (by rw [ints_length, ints_length, List.length_singleton]; omega) (by rw [ints_length, ints_length, List.length_singleton]; omega) fun v13 H13 hp13 => ?_
        rw [ints_app] at hp13
        simp (disch := first | assumption | omega) only [↓RP, RQ, TY, loadT, reduceIte, Nat.reduceEqDiff, Nat.reduceAdd, e12, e10, e11, e7, e3, e1, e2]
        refine ⟨(q + 1, v11, v13), ?_, by dsimp only; omega⟩
        simp (disch := first | assumption | omega) only [↓RP, RQ, TY, loadT, reduceIte, Nat.reduceEqDiff, Nat.reduceAdd, e12, e10, e11, e7, e3, e1, e2]
        refine ⟨by omega, ?_⟩
        rw [n1, n2]
        exact hp13
      · have n1 := maskL_no (n := q) (s := fun i => inL set i && inL tet i) (hx2.mp g2)
        simp (disch := first | assumption | omega) only [↓RP, RQ, TY, loadT, reduceIte, Nat.reduceEqDiff, Nat.reduceAdd, e12, e10, e11, e7, e3, e1, e2, hin, hL11, ints_get, g2]
        refine ⟨(q + 1, v11, w2), ?_, by dsimp only; omega⟩
        simp (disch := first | assumption | omega) only [↓RP, RQ, TY, loadT, reduceIte, Nat.reduceEqDiff, Nat.reduceAdd, e12, e10, e11, e7, e3, e1, e2]
        refine ⟨by omega, ?_⟩
        rw [n1, n2]
        exact hp11.perm (List.Perm.swap _ _ _)
    · have n2 := maskL_no (n := q) (s := fun i => inL set i || inL tet i) (hx1.mp g1)
      have g2 : ¬ 1 < L'.getD q 0 := by omega
      have n1 := maskL_no (n := q) (s := fun i => inL set i && inL tet i) (hx2.mp g2)
      simp (disch := first | assumption | omega) only [↓RP, RQ, TY, loadT, reduceIte, Nat.reduceEqDiff, Nat.reduceAdd, e12, e10, e11, e7, e3, e1, e2, hin, h9, hL9, ints_get, g1, g2]
      refine ⟨(q + 1, w1, w2), ?_, by dsimp only; omega⟩
      simp (disch := first | assumption | omega) only [↓RP, RQ, TY, loadT, reduceIte, Nat.reduceEqDiff, Nat.reduceAdd, e12, e10, e11, e7, e3, e1, e2]
      refine ⟨by omega, ?_⟩
      rw [n1, n2]
      exact hp
  rw [show q = n.toNat by omega] at hp
  have m1 := maskL_length n.toNat fun i => inL set i && inL tet i
  have m2 := maskL_length n.toNat fun i => inL set i || inL tet i
  have hE9 := hp.ext
  simp (disch := first | assumption | omega) only [↓RP, RQ, TY, loadT, reduceIte, Nat.reduceEqDiff, Nat.reduceAdd, e12, e10, e11, e7, e3, e1, e2, hin, h9]
  refine c_ODim A (hm.ext hE9) hlm (hv.ext hE9) (hs.ext hE9) hl hlr hls fun Ha hEa => ?_
  have hE9a := hE9.trans hEa
  have ha := hEa.rw h9
  simp (disch := first | assumption | omega) only [↓RP, RQ, TY, loadT, reduceIte, Nat.reduceEqDiff, Nat.reduceAdd, e12, e10, e11, e7, e3, e1, e2, ha]
  refine c_ODim A (hm.ext hE9a) hlm (hv.ext hE9a) (ht.ext hE9a) hl hlr hlt fun Hb hEb => ?_
  have hE9b := hE9a.trans hEb
  have hb' := hEb.rw ha
  simp (disch := first | assumption | omega) only [↓RP, RQ, TY, loadT, reduceIte, Nat.reduceEqDiff, Nat.reduceAdd, e12, e10, e11, e7, e3, e1, e2, hb']
  refine c_ODim A (hm.ext hE9b) hlm (hv.ext hE9b) ((hp.sl (y := (w1, ints (maskL n.toNat fun i => inL set i || inL tet i))) (by simp)).ext (hEa.trans hEb)) hl hlr (by omega) fun Hc hEc => ?_
  have hE9c := hE9b.trans hEc
  have hc := hEc.rw hb'
  simp (disch := first | assumption | omega) only [↓RP, RQ, TY, loadT, reduceIte, Nat.reduceEqDiff, Nat.reduceAdd, e12, e10, e11, e7, e3, e1, e2, hc]
  refine c_ODim A (hm.ext hE9c) hlm (hv.ext hE9c) ((hp.sl (y := (w2, ints (maskL n.toNat fun i => inL set i && inL tet i))) (by simp)).ext ((hEa.trans hEb).trans hEc)) hl hlr (by omega) fun Hd hEd => ?_
  have good : ∀ s : List Int, Subset n s → dimErr p m mod n rows s = 0 ∧ dimValP p m mod n rows s = dimP p m mod n rows (inL s) := fun s q => by
    have e1 := dimErr_ok h0 q
    exact ⟨e1, by rw [dimValP, if_pos e1]⟩
  have goodM : ∀ s : Nat → Bool, dimErr p m mod n rows (maskL n.toNat s) = 0 ∧ dimValP p m mod n rows (maskL n.toNat s) = dimP p m mod n rows s := fun s => by
    have hS2 := maskL_subset s n.toNat
    rw [show ((n.toNat : Nat) : Int) = n by omega] at hS2
    obtain ⟨q1, q2⟩ := good _ hS2
    exact ⟨q1, q2.trans (dimP_congr fun i hi => inL_mask n.toNat _ i (by omega))⟩
  have bd : ∀ s : Nat → Bool, -64 ≤ dimP p m mod n rows s ∧ dimP p m mod n rows s ≤ 64 := fun s => by
    have q1 := dimP_ge (p := p) (m := m) (n := n) (mod := mod) (rows := rows) s
    have q2 := (dimP_le ca.fa.ok (n := n) (by omega) ca.els s).1
    have := ca.kn
    omega
  rw [(good _ hS).1, (good _ hS).2, (good _ hT).1, (good _ hT).2, (goodM _).1, (goodM _).2, (goodM _).1, (goodM _).2]
  have t1 := bd (inL set)
  have t2 := bd (inL tet)
  have t3 := bd fun i => inL set i || inL tet i
  have t4 := bd fun i => inL set i && inL tet i
  have t5 := dimP_sub ca.fa.ok (n := n) ca.els (inL set) (inL tet)
  simp (disch := first | assumption | omega) only [↓RP, RQ, TY, loadT, reduceIte, Nat.reduceEqDiff, Nat.reduceAdd, t5, Int.reduceEq]
  exact ⟨rfl, hE9c.trans hEd⟩
end Go.Proofs.Yteijojnahpeglaa.AM
/-! The program's orderings, third part: Greedy; the greedy order as a list. -/
namespace Go.Proofs.Yteijojnahpeglaa.AM
open Go Go.RowKit
set_option linter.unusedVariables false
set_option linter.unusedSimpArgs false
set_option maxRecDepth 20000
/-- of some positions the first with the least value, and the value -/
def pickB (d : Nat → Int) (xs : List Nat) (s : Int × Int) : Int × Int := xs.foldl (fun s x => if d x < s.2 then ((x : Int), d x) else s) s
theorem pickB_app {d : Nat → Int} {xs ys : List Nat} {s : Int × Int} : pickB d (xs ++ ys) s = pickB d ys (pickB d xs s) := List.foldl_append
theorem pickB_one {d : Nat → Int} {x : Nat} {s : Int × Int} : pickB d [x] s = if d x < s.2 then ((x : Int), d x) else s := rfl
theorem pickB_ind {d : Nat → Int} {xs : List Nat} {b b' l : Int} (hx : xs ≠ []) (hd : ∀ x, x ∈ xs → d x < l) : pickB d xs (b, l) = pickB d xs (b', l) := by
  cases xs with
  | nil => exact absurd rfl hx
  | cons x xs => simp only [pickB, List.foldl_cons, if_pos (hd x (by simp))]
theorem pickB_mem {d : Nat → Int} : ∀ (xs : List Nat) (s : Int × Int), pickB d xs s = s ∨ ∃ x, x ∈ xs ∧ (pickB d xs s).1 = (x : Int)
  | [], s => .inl rfl
  | x :: xs, s => by
    have e : pickB d (x :: xs) s = pickB d xs (if d x < s.2 then ((x : Int), d x) else s) := rfl
    rw [e]
    rcases pickB_mem xs (if d x < s.2 then ((x : Int), d x) else s) with h | ⟨y, hy, h⟩
    · rw [h]
      by_cases q : d x < s.2
      · rw [if_pos q]; exact .inr ⟨x, by simp, rfl⟩
      · rw [if_neg q]; exact .inl rfl
    · exact .inr ⟨y, by simp [hy], h⟩
theorem perm_mask {n : Nat} {set : List Int} (hp : Poss n set) (hn : set.Nodup) : (set.map Int.toNat).Perm ((List.range n).filter (inL set)) := by
  refine (List.perm_ext_iff_of_nodup ?_ (filter_nodup _ _)).mpr fun a => ?_
  · rw [List.Nodup, List.pairwise_iff_getElem] at hn ⊢
    intro i j hi hj hij q
    simp only [List.length_map] at hi hj
    simp only [List.getElem_map] at q
    have h1 := hp i hi
    have h2 := hp j hj
    simp only [List.getD_eq_getElem?_getD, List.getElem?_eq_getElem hi, List.getElem?_eq_getElem hj, Option.getD_some] at h1 h2
    exact hn i j hi hj hij (by omega)
  · simp only [List.mem_map, List.mem_filter, List.mem_range, inL, List.contains_iff_mem]
    constructor
    · rintro ⟨x, hx, rfl⟩
      obtain ⟨i, hi, rfl⟩ := List.getElem_of_mem hx
      have h1 := hp i hi
      simp only [List.getD_eq_getElem?_getD, List.getElem?_eq_getElem hi, Option.getD_some] at h1
      exact ⟨by omega, by rw [Int.toNat_of_nonneg h1.1]; exact hx⟩
    · rintro ⟨h1, h2⟩
      exact ⟨a, h2, rfl⟩
theorem othersN_len {n : Nat} {set : List Int} (hp : Poss n set) (hn : set.Nodup) : set.length + (othersN n set).length = n := by
  have h1 := (perm_mask hp hn).length_eq
  have h2 := filter_len n (inL set)
  have e : othersN n set = (List.range n).filter fun i => !inL set i := rfl
  rw [e]
  rw [List.length_map] at h1
  omega
theorem mem_others {n : Nat} {set : List Int} {x : Nat} : x ∈ othersN n set ↔ x < n ∧ (x : Int) ∉ set := by
  simp [othersN]
theorem poss_mem {n : Int} {set : List Int} : Poss n set ↔ ∀ x, x ∈ set → 0 ≤ x ∧ x < n := by
  constructor
  · intro h x hx
    obtain ⟨i, hi, rfl⟩ := List.getElem_of_mem hx
    have := h i hi
    simpa only [List.getD_eq_getElem?_getD, List.getElem?_eq_getElem hi, Option.getD_some] using this
  · intro h i hi
    have := h _ (List.getElem_mem hi)
    simpa only [List.getD_eq_getElem?_getD, List.getElem?_eq_getElem hi, Option.getD_some] using this
/-- the value of one position more -/
noncomputable def grD (p m : Int) (mod : List Int) (n : Int) (rows : List (List Int)) (out : List Int) (x : Nat) : Int := dimP p m mod n rows (inL (out ++ [(x : Int)]))
/-- the greedy order's first positions -/
noncomputable def grL (p m : Int) (mod : List Int) (n : Int) (rows : List (List Int)) : Nat → List Int
  | 0 => []
  | k + 1 => grL p m mod n rows k ++ [(pickB (grD p m mod n rows (grL p m mod n rows k)) (othersN n.toNat (grL p m mod n rows k)) (-1, n + 1)).1]
theorem dimP_lt {p m : Int} {mod : List Int} (h : (fF p m mod).Ok) {n : Int} (hn : 1 ≤ n) {rows : List (List Int)} (he : Els (fF p m mod) rows) (s : Nat → Bool) : dimP p m mod n rows s < n + 1 := by
  obtain ⟨h1, h2⟩ := dimP_le h (n := n) (by omega) he s
  omega
theorem nodup_push {l : List Int} {x : Int} (h : l.Nodup) (hx : x ∉ l) : (l ++ [x]).Nodup := by
  rw [List.nodup_append]
  exact ⟨h, by simp, fun a ha b hb => by simp at hb; subst hb; exact fun q => hx (q ▸ ha)⟩
theorem grL_ok {p m : Int} {mod : List Int} (h : (fF p m mod).Ok) {n : Int} (hn : 1 ≤ n) {rows : List (List Int)} (he : Els (fF p m mod) rows) : ∀ k, k ≤ n.toNat → (grL p m mod n rows k).length = k ∧ Poss n (grL p m mod n rows k) ∧ (grL p m mod n rows k).Nodup
  | 0, _ => ⟨rfl, fun i hi => by simp [grL] at hi, by simp [grL]⟩
  | k + 1, hk => by
    obtain ⟨i1, i2, i3⟩ := grL_ok h hn he k (by omega)
    have hl := othersN_len (n := n.toNat) (by rwa [Int.toNat_of_nonneg (by omega)]) i3
    generalize hd : grD p m mod n rows (grL p m mod n rows k) = d
    have hmem : ∃ x, x ∈ othersN n.toNat (grL p m mod n rows k) ∧ (pickB d (othersN n.toNat (grL p m mod n rows k)) (-1, n + 1)).1 = (x : Int) := by
      have hne : othersN n.toNat (grL p m mod n rows k) ≠ [] := fun q => by rw [q] at hl; simp at hl; omega
      have hlt : ∀ x, x ∈ othersN n.toNat (grL p m mod n rows k) → d x < n + 1 := fun x _ => hd ▸ dimP_lt h hn he _
      cases ho : othersN n.toNat (grL p m mod n rows k) with
      | nil => exact absurd ho hne
      | cons a l =>
        have e : pickB d (a :: l) (-1, n + 1) = pickB d l ((a : Int), d a) := by
          simp only [pickB, List.foldl_cons, if_pos (show d a < n + 1 from hlt a (by rw [ho]; simp))]
        rw [e]
        rcases pickB_mem (d := d) l ((a : Int), d a) with w | ⟨y, hy, w⟩
        · exact ⟨a, by simp, by rw [w]⟩
        · exact ⟨y, by simp [hy], w⟩
    obtain ⟨x, hx, hxe⟩ := hmem
    obtain ⟨x1, x2⟩ := mem_others.mp hx
    have e : grL p m mod n rows (k + 1) = grL p m mod n rows k ++ [(x : Int)] := by rw [grL, hd, hxe]
    rw [e]
    refine ⟨by simp [i1], poss_mem.mpr fun y hy => ?_, nodup_push i3 x2⟩
    rcases List.mem_append.mp hy with q | q
    · exact poss_mem.mp i2 y q
    · simp at q; omega
theorem grL_step {p m : Int} {mod : List Int} (h : (fF p m mod).Ok) {n : Int} (hn : 1 ≤ n) {rows : List (List Int)} (he : Els (fF p m mod) rows) {k : Nat} (hk : k < n.toNat) : ∃ x : Nat, (x : Int) < n ∧ (pickB (grD p m mod n rows (grL p m mod n rows k)) (othersN n.toNat (grL p m mod n rows k)) (-1, n + 1)).1 = (x : Int) := by
  obtain ⟨i1, i2, i3⟩ := grL_ok h hn he (k + 1) (by omega)
  have := i2 k (by omega)
  rw [grL, getD_appI, if_neg (by have := (grL_ok h hn he k (by omega)).1; omega), if_pos (grL_ok h hn he k (by omega)).1.symm] at this
  exact ⟨_, by omega, (Int.toNat_of_nonneg this.1).symm⟩
theorem inL_push {l : List Int} {x i : Nat} : inL (l ++ [(x : Int)]) i = (inL l i || decide (x = i)) := by
  rw [Bool.eq_iff_iff]
  simp only [inL, List.contains_iff_mem, List.mem_append, List.mem_singleton, Bool.or_eq_true, decide_eq_true_eq]
  exact or_congr Iff.rfl (by omega)
theorem testBit_push {k x : Nat} {l : List Int} (hk : k.testBit = inL l) : (k ||| 2 ^ x).testBit = inL (l ++ [(x : Int)]) := funext fun i => by
  rw [inL_push, Nat.testBit_or, Nat.testBit_two_pow, hk]
theorem c_OGreedy (A : Alg) {p m n : Int} {md v : AV} {mod : List Int} {us : List AV} {rows : List (List Int)} {H : AH} {Q : AV → AH → Prop} (hm : Ints H md mod) (hlm : mod.length ≤ 9223372036854775807) (hv : Rows H v us rows) (hl : rows.length ≤ 9223372036854775807) (hlr : ∀ i, i < rows.length → (rowAt rows i).length ≤ 9223372036854775807)
    (hQ0 : codeErr p m mod n rows ≠ 0 → ∀ H', Ext H H' → Q (.tup [.nils, .int .i64 (codeErr p m mod n rows)]) H')
    (hQ : codeErr p m mod n rows = 0 → ∀ w H', Ext H H' → Own H H' w (ints (grL p m mod n rows n.toNat)) → Q (.tup [w, .int .i64 0]) H') : AC Try.prog 17 [codeV p m md n v] H Q := by
  refine at17 (by simp) ?_
  simp (disch := first | assumption | omega) only [↓RP, RQ, TY, loadT, s17, reduceIte, Nat.reduceEqDiff, Nat.reduceAdd]
  refine kNew_intro fun b H1 hb hE1 hH1 => ?_
  simp (disch := first | assumption | omega) only [↓RP, RQ, TY, loadT, reduceIte, Nat.reduceEqDiff, Nat.reduceAdd, hH1]
  refine c_cCheck A (hm.ext hE1) hlm (hv.ext hE1) hl hlr fun H2 hE2 => ?_
  have hE12 := hE1.trans hE2
  have h2 := hE2.rw hH1
  by_cases h0 : codeErr p m mod n rows = 0
  rotate_left
  · simp (disch := first | assumption | omega) only [↓RP, RQ, TY, loadT, reduceIte, Nat.reduceEqDiff, Nat.reduceAdd, eq_false h0]
    exact hQ0 h0 H2 hE12
  have ca := A.fo.ca h0 (hm.ext hE12) (hv.ext hE12)
  have n1 := ca.n1
  have n64 := ca.n64
  have ok := ca.fa.ok
  have els := ca.els
  have hp2 := ((Hp.nil (Ext.refl H)).new hb hE1 hH1 rfl).more hE2
  clear ca
  simp (disch := first | assumption | omega) only [↓RP, RQ, TY, loadT, reduceIte, Nat.reduceEqDiff, Nat.reduceAdd, eq_true h0, h2]
  refine sw_loop (σ := Nat × AV × Nat) (fun s e H' => e 18 = .int .i64 s.1 ∧ e 17 = .int .i64 n ∧ e 6 = s.2.1 ∧ e 5 = .int .u64 (s.2.2 : Nat) ∧ e 1 = .ptr b 0 ∧ s.1 ≤ n.toNat ∧ s.2.2 < 18446744073709551616 ∧ s.2.2.testBit = inL (grL p m mod n rows s.1) ∧ Hp H H' [(s.2.1, ints (grL p m mod n rows s.1)), (.sl b 0 5 (.own 1), [.int .i64 p, .int .i64 m, md, .int .i64 n, v])]) (fun s => n.toNat - s.1) (0, .nils, 0) ?_ ?_
  · simp (disch := first | assumption | omega) only [↓RP, RQ, TY, loadT, reduceIte, Nat.reduceEqDiff, Nat.reduceAdd]
    exact ⟨by omega, by omega, funext fun i => by simp [inL, grL], hp2.nils⟩
  rintro ⟨t, w, k⟩ e H3 ⟨e18, e17, e6, e5, e1, ht, hk, hbit, hp3⟩
  dsimp only at *
  have h3 := (hp3.blkOf (y := (.sl b 0 5 (.own 1), [.int .i64 p, .int .i64 m, md, .int .i64 n, v])) (by simp) rfl).1
  by_cases hlt : (t : Int) < n
  · obtain ⟨x, hx1, hx2⟩ := grL_step ok n1 els (k := t) (by omega)
    have gl := (grL_ok ok n1 els t ht).1
    have gs : grL p m mod n rows (t + 1) = grL p m mod n rows t ++ [(x : Int)] := by rw [grL, hx2]
    generalize hd : grD p m mod n rows (grL p m mod n rows t) = d at hx2
    generalize hg : grL p m mod n rows t = g at *
    simp (disch := first | assumption | omega) only [↓RP, RQ, TY, loadT, reduceIte, Nat.reduceEqDiff, Nat.reduceAdd, e18, e17, e6, e5, e1, hlt, h3]
    refine sw_loop (σ := Nat × Int × Int) (fun s e H' => e 25 = .int .i64 s.1 ∧ e 24 = .int .i64 n ∧ e 7 = .int .i64 s.2.1 ∧ e 8 = .int .i64 s.2.2 ∧ e 18 = .int .i64 t ∧ e 17 = .int .i64 n ∧ e 6 = w ∧ e 5 = .int .u64 (k : Nat) ∧ e 1 = .ptr b 0 ∧ s.1 ≤ n.toNat ∧ Ext H3 H' ∧ s.2 = pickB d (othersN s.1 g) (-1, n + 1)) (fun s => n.toNat - s.1) (0, -1, n + 1) ?_ ?_
    · simp (disch := first | assumption | omega) only [↓RP, RQ, TY, loadT, reduceIte, Nat.reduceEqDiff, Nat.reduceAdd, e18, e17, e6, e5, e1]
      exact ⟨by omega, Ext.refl _, rfl⟩
    rintro ⟨i, bst, lst⟩ e' H4 ⟨g25, g24, g7, g8, g18, g17, g6, g5, g1, hi, hE4, hs⟩
    dsimp only at *
    have hE04 := hp3.ext.trans hE4
    by_cases hin : (i : Int) < n
    · have hon := othersN_succ i g
      cases hb2 : k.testBit i
      · have hc : g.contains (i : Int) = false := by
          have := congrFun hbit i
          rw [hb2] at this
          exact this.symm
        rw [if_neg (by rw [hc]; simp)] at hon
        obtain ⟨o1, o2⟩ := bit_or (k := k) (x := i) hk (by omega)
        have h4 := hE4.rw h3
        have hand := bit_and (k := k) (i := i) hk (by omega)
        rw [hb2, if_neg (by simp)] at hand
        have ilt : i < 64 := by omega
        simp (disch := first | assumption | omega) only [↓RP, RQ, TY, loadT, reduceIte, Nat.reduceEqDiff, Nat.reduceAdd, g25, g24, g7, g8, g18, g17, g6, g5, g1, hin, hand, o1, h4, Int.reduceEq]
        refine c_odim A (hm.ext hE04) hlm (hv.ext hE04) h0 o2 fun H5 hE5 => ?_
        have hde : (rankP p m mod n rows (k ||| 2 ^ i).testBit : Int) + rankP p m mod n rows (fun j => !(k ||| 2 ^ i).testBit j) - rows.length = d i := by
          rw [← hd, grD, testBit_push hbit]; rfl
        rw [hde]
        have hE35 := hE4.trans hE5
        by_cases hc2 : d i < lst
        · simp (disch := first | assumption | omega) only [↓RP, RQ, TY, loadT, reduceIte, Nat.reduceEqDiff, Nat.reduceAdd, g25, g24, g7, g8, g18, g17, g6, g5, g1, hc2]
          refine ⟨(i + 1, (i : Int), d i), ?_, by dsimp only; omega⟩
          simp (disch := first | assumption | omega) only [↓RP, RQ, TY, loadT, reduceIte, Nat.reduceEqDiff, Nat.reduceAdd, g25, g24, g7, g8, g18, g17, g6, g5, g1]
          refine ⟨by omega, hE35, ?_⟩
          rw [hon, pickB_app, ← hs, pickB_one, if_pos hc2]
        · simp (disch := first | assumption | omega) only [↓RP, RQ, TY, loadT, reduceIte, Nat.reduceEqDiff, Nat.reduceAdd, g25, g24, g7, g8, g18, g17, g6, g5, g1, hc2]
          refine ⟨(i + 1, bst, lst), ?_, by dsimp only; omega⟩
          simp (disch := first | assumption | omega) only [↓RP, RQ, TY, loadT, reduceIte, Nat.reduceEqDiff, Nat.reduceAdd, g25, g24, g7, g8, g18, g17, g6, g5, g1]
          refine ⟨by omega, hE35, ?_⟩
          rw [hon, pickB_app, ← hs, pickB_one, if_neg hc2]
      · have hc : g.contains (i : Int) = true := by
          have := congrFun hbit i
          rw [hb2] at this
          exact this.symm
        rw [if_pos hc, List.append_nil] at hon
        have hand := bit_and (k := k) (i := i) hk (by omega)
        rw [hb2, if_pos rfl] at hand
        simp (disch := first | assumption | omega) only [↓RP, RQ, TY, loadT, reduceIte, Nat.reduceEqDiff, Nat.reduceAdd, g25, g24, g7, g8, g18, g17, g6, g5, g1, hin, hand, Int.reduceEq]
        refine ⟨(i + 1, bst, lst), ?_, by dsimp only; omega⟩
        simp (disch := first | assumption | omega) only [↓RP, RQ, TY, loadT, reduceIte, Nat.reduceEqDiff, Nat.reduceAdd, g25, g24, g7, g8, g18, g17, g6, g5, g1]
        refine ⟨by omega, hE4, ?_⟩
        rw [hon, hs]
    · rw [show i = n.toNat by omega] at hs
      have hbx : bst = x := by rw [← hx2, ← hs]
      rw [hbx] at g7
      obtain ⟨o1, o2⟩ := bit_or (k := k) (x := x) hk (by omega)
      have xlt : x < 64 := by omega
      simp (disch := first | assumption | omega) only [↓RP, RQ, TY, loadT, reduceIte, Nat.reduceEqDiff, Nat.reduceAdd, g25, g24, g7, g8, g18, g17, g6, g5, g1, hin]
      refine kNew_intro fun b6 H6 hb6 hE6 hH6 => ?_
      simp (disch := first | assumption | omega) only [↓RP, RQ, TY, loadT, reduceIte, Nat.reduceEqDiff, Nat.reduceAdd, g25, g24, g7, g8, g18, g17, g6, g5, g1]
      refine kApp_hp (us := ints [(x : Int)]) ((hp3.more hE4).more hE6) (Sl.own hH6 rfl) ints_ones (by rw [ints_length, ints_length, List.length_singleton]; omega) (by rw [ints_length, ints_length, List.length_singleton]; omega) fun v7 H7 hp7 => ?_
      rw [ints_app, ← gs] at hp7
      simp (disch := first | assumption | omega) only [↓RP, RQ, TY, loadT, reduceIte, Nat.reduceEqDiff, Nat.reduceAdd, g25, g24, g7, g8, g18, g17, g6, g5, g1, o1]
      refine ⟨(t + 1, v7, k ||| 2 ^ x), ?_, by dsimp only; omega⟩
      simp (disch := first | assumption | omega) only [↓RP, RQ, TY, loadT, reduceIte, Nat.reduceEqDiff, Nat.reduceAdd, g25, g24, g7, g8, g18, g17, g6, g5, g1]
      exact ⟨by omega, o2, by rw [gs]; exact testBit_push hbit, hp7⟩
  · rw [show t = n.toNat by omega] at hp3
    simp (disch := first | assumption | omega) only [↓RP, RQ, TY, loadT, reduceIte, Nat.reduceEqDiff, Nat.reduceAdd, e18, e17, e6, e5, e1, hlt]
    exact hQ h0 w H3 hp3.ext hp3.head
end Go.Proofs.Yteijojnahpeglaa.AM
/-! The reference's words: Compare, Same; its greedy order. -/
namespace Go.Proofs.Yteijojnahpeglaa.AM
open Go Go.RowKit
set_option linter.unusedVariables false
set_option linter.unusedSimpArgs false
set_option maxRecDepth 20000
theorem c_Compare {a b : AV} {xs ys : List Int} {H : AH} {Q : AV → AH → Prop} (ha : Ints H a xs) (hb : Ints H b ys) (hla : xs.length ≤ 9223372036854775807) (hlb : ys.length ≤ 9223372036854775807) (hQ : ∀ c : Int, (c = 0 ↔ xs = ys) → Q (.int .i64 c) H) : AC Try.prog 34 [a, b] H Q := by
  refine at34 (by simp) ?_
  simp (disch := first | assumption | omega) only [↓RP, RQ, TY, loadT, s34, reduceIte, Nat.reduceEqDiff, Nat.reduceAdd]
  refine sw_loop (σ := Nat) (fun i e H' => e 5 = .int .i64 i ∧ e 0 = a ∧ e 1 = b ∧ i ≤ xs.length ∧ i ≤ ys.length ∧ xs.take i = ys.take i ∧ H' = H) (fun i => xs.length - i) 0 ?_ ?_
  · simp (disch := first | assumption | omega) only [↓RP, RQ, TY, loadT, reduceIte, Nat.reduceEqDiff, Nat.reduceAdd]
    exact ⟨by omega, by omega, rfl⟩
  rintro i e H' ⟨e5, e0, e1, hi, hj, ht, rfl⟩
  by_cases h1 : (i : Int) < xs.length
  · by_cases h2 : (i : Int) < ys.length
    · by_cases g1 : xs.getD i 0 < ys.getD i 0
      · simp (disch := first | assumption | omega) only [↓RP, RQ, TY, loadT, reduceIte, Nat.reduceEqDiff, Nat.reduceAdd, e5, e0, e1, h1, h2, ha.ints, hb.ints, g1]
        exact hQ (-1) ⟨fun q => by omega, fun q => by rw [q] at g1; omega⟩
      by_cases g2 : ys.getD i 0 < xs.getD i 0
      · simp (disch := first | assumption | omega) only [↓RP, RQ, TY, loadT, reduceIte, Nat.reduceEqDiff, Nat.reduceAdd, e5, e0, e1, h1, h2, ha.ints, hb.ints, g1, g2]
        exact hQ 1 ⟨fun q => by omega, fun q => by rw [q] at g2; omega⟩
      simp (disch := first | assumption | omega) only [↓RP, RQ, TY, loadT, reduceIte, Nat.reduceEqDiff, Nat.reduceAdd, e5, e0, e1, h1, h2, ha.ints, hb.ints, g1, g2]
      refine ⟨i + 1, ?_, by dsimp only; omega⟩
      simp (disch := first | assumption | omega) only [↓RP, RQ, TY, loadT, reduceIte, Nat.reduceEqDiff, Nat.reduceAdd, e5, e0, e1]
      refine ⟨by omega, by omega, ?_⟩
      have q1 : i < xs.length := by omega
      have q2 : i < ys.length := by omega
      rw [← take_push 0 q1, ← take_push 0 q2, ht, show xs.getD i 0 = ys.getD i 0 by omega]
    · simp (disch := first | assumption | omega) only [↓RP, RQ, TY, loadT, reduceIte, Nat.reduceEqDiff, Nat.reduceAdd, e5, e0, e1, h1, h2, ha.ints, hb.ints]
      have g1 : ¬ (xs.length : Int) < ys.length := by omega
      have g2 : (ys.length : Int) < xs.length := by omega
      simp (disch := first | assumption | omega) only [↓RP, RQ, TY, loadT, reduceIte, Nat.reduceEqDiff, Nat.reduceAdd, e5, e0, e1, ha.ints, hb.ints, g1, g2]
      exact hQ 1 ⟨fun q => by omega, fun q => by rw [q] at g2; omega⟩
  · by_cases g1 : (xs.length : Int) < ys.length
    · simp (disch := first | assumption | omega) only [↓RP, RQ, TY, loadT, reduceIte, Nat.reduceEqDiff, Nat.reduceAdd, e5, e0, e1, h1, ha.ints, hb.ints, g1]
      exact hQ (-1) ⟨fun q => by omega, fun q => by rw [q] at g1; omega⟩
    have g2 : ¬ (ys.length : Int) < xs.length := by omega
    simp (disch := first | assumption | omega) only [↓RP, RQ, TY, loadT, reduceIte, Nat.reduceEqDiff, Nat.reduceAdd, e5, e0, e1, h1, ha.ints, hb.ints, g1, g2]
    refine hQ 0 ⟨fun _ => ?_, fun _ => rfl⟩
    rw [List.take_of_length_le (by omega), List.take_of_length_le (by omega)] at ht
    exact ht
theorem c_Same {a b : AV} {xs ys : List Int} {H : AH} {Q : AV → AH → Prop} (ha : Ints H a xs) (hb : Ints H b ys) (hla : xs.length ≤ 9223372036854775807) (hlb : ys.length ≤ 9223372036854775807) (hQ : Q (.bool (decide (xs = ys))) H) : AC Try.prog 18 [a, b] H Q := by
  refine at18 (by simp) ?_
  simp (disch := first | assumption | omega) only [↓RP, RQ, TY, loadT, s18, reduceIte, Nat.reduceEqDiff, Nat.reduceAdd]
  refine c_Compare ha hb hla hlb fun c hc => ?_
  by_cases q : xs = ys
  · have c0 : c = 0 := hc.mpr q
    rw [decide_eq_true q] at hQ
    simp (disch := first | assumption | omega) only [↓RP, RQ, TY, loadT, reduceIte, Nat.reduceEqDiff, Nat.reduceAdd, c0]
    exact hQ
  · have c0 : ¬ c = 0 := fun h => q (hc.mp h)
    rw [decide_eq_false q] at hQ
    simp (disch := first | assumption | omega) only [↓RP, RQ, TY, loadT, reduceIte, Nat.reduceEqDiff, Nat.reduceAdd, c0]
    exact hQ
theorem natsI_getDn {l : List Nat} {i : Nat} (h : i < l.length) : (natsI l).getD i 0 = ((l.getD i 0 : Nat) : Int) := by
  simp [natsI, List.getD_eq_getElem?_getD, h]
theorem getD_mem' {l : List Nat} {i : Nat} (h : i < l.length) : l.getD i 0 ∈ l := by
  simp [List.getD_eq_getElem?_getD, h]
theorem c_Greedy48 (A : Alg) {p m n : Int} {md v : AV} {mod : List Int} {us : List AV} {rows : List (List Int)} {H : AH} {Q : AV → AH → Prop} (hm : Ints H md mod) (hv : Rows H v us rows) (h0 : codeErr p m mod n rows = 0)
    (hQ : ∀ w H', Ext H H' → Own H H' w (ints (grL p m mod n rows n.toNat)) → Q w H') : AC Try.prog 19 [codeV p m md n v] H Q := by
  have ca := A.fo.ca h0 hm hv
  have n1 := ca.n1
  have n64 := ca.n64
  have ok := ca.fa.ok
  have els := ca.els
  refine at19 (by simp) ?_
  simp (disch := first | assumption | omega) only [↓RP, RQ, TY, loadT, s19, reduceIte, Nat.reduceEqDiff, Nat.reduceAdd]
  refine kNew_intro fun b H1 hb hE1 hH1 => ?_
  simp (disch := first | assumption | omega) only [↓RP, RQ, TY, loadT, reduceIte, Nat.reduceEqDiff, Nat.reduceAdd]
  refine kNew_intro fun b2 H2 hb2 hE2 hH2 => ?_
  simp (disch := first | assumption | omega) only [↓RP, RQ, TY, loadT, reduceIte, Nat.reduceEqDiff, Nat.reduceAdd]
  have hp2 := ((Hp.nil (Ext.refl H)).new hb hE1 hH1 rfl).new hb2 hE2 hH2 rfl
  refine sw_loop (σ := Nat × AV) (fun s e H' => e 3 = s.2 ∧ e 1 = .ptr b 0 ∧ s.1 ≤ n.toNat ∧ Hp H H' [(s.2, ints (grL p m mod n rows s.1)), (.sl b 0 5 (.own 1), [.int .i64 p, .int .i64 m, md, .int .i64 n, v])]) (fun s => n.toNat - s.1) (0, .sl b2 0 0 (.own 1)) ?_ ?_
  · simp (disch := first | assumption | omega) only [↓RP, RQ, TY, loadT, reduceIte, Nat.reduceEqDiff, Nat.reduceAdd]
    exact ⟨by omega, hp2⟩
  rintro ⟨t, w⟩ e H3 ⟨e3, e1, ht, hp3⟩
  dsimp only at *
  have h3 := (hp3.blkOf (y := (.sl b 0 5 (.own 1), [.int .i64 p, .int .i64 m, md, .int .i64 n, v])) (by simp) rfl).1
  have gok := grL_ok ok n1 els t ht
  have gl := gok.1
  by_cases hlt : (t : Int) < n
  · obtain ⟨x, hx1, hx2⟩ := grL_step ok n1 els (k := t) (by omega)
    have gs : grL p m mod n rows (t + 1) = grL p m mod n rows t ++ [(x : Int)] := by rw [grL, hx2]
    generalize hd : grD p m mod n rows (grL p m mod n rows t) = d at hx2
    generalize hg : grL p m mod n rows t = g at *
    have glt : (g.length : Int) < n := by omega
    simp (disch := first | assumption | omega) only [↓RP, RQ, TY, loadT, reduceIte, Nat.reduceEqDiff, Nat.reduceAdd, e3, e1, h3, hp3.head.sl.ints, glt]
    refine c_Others (by omega) (by omega) hp3.head.sl (by omega) gok.2.1 fun w4 H4 hE4 ho4 => ?_
    have hp4 := hp3.made (H1 := H) hE4 ho4
    have hol := othersN_len (n := n.toNat) (by rw [Int.toNat_of_nonneg (by omega)]; exact gok.2.1) gok.2.2
    have h4 := (hp4.blkOf (y := (.sl b 0 5 (.own 1), [.int .i64 p, .int .i64 m, md, .int .i64 n, v])) (by simp) rfl).1
    have hnl := natsI_length (othersN n.toNat g)
    have hdl : ∀ y, y ∈ othersN n.toNat g → d y < n + 1 := fun y _ => hd ▸ dimP_lt ok n1 els _
    have hne : othersN n.toNat g ≠ [] := fun q => by rw [q] at hol; simp at hol; omega
    have hx3 : (pickB d (othersN n.toNat g) ((natsI (othersN n.toNat g)).getD 0 0, n + 1)).1 = x := by rw [← hx2, pickB_ind hne hdl]
    have hmo : ∀ y, y ∈ othersN n.toNat g → (y : Int) < n ∧ (y : Int) ∉ g := fun y hy => by
      obtain ⟨q1, q2⟩ := mem_others.mp hy
      exact ⟨by omega, q2⟩
    generalize hO : othersN n.toNat g = O at *
    have hO0 : (0 : Int) < (natsI O).length := by omega
    simp (disch := first | assumption | omega) only [↓RP, RQ, TY, loadT, reduceIte, Nat.reduceEqDiff, Nat.reduceAdd, e3, e1, h4, ho4.sl.ints]
    refine sw_loop (σ := Nat × Int × Int) (fun s e H' => e 7 = .int .i64 s.1 ∧ e 5 = .int .i64 s.2.1 ∧ e 6 = .int .i64 s.2.2 ∧ e 4 = w4 ∧ e 3 = w ∧ e 1 = .ptr b 0 ∧ s.1 ≤ O.length ∧ Ext H4 H' ∧ s.2 = pickB d (O.take s.1) ((natsI O).getD 0 0, n + 1)) (fun s => O.length - s.1) (0, (natsI O).getD 0 0, n + 1) ?_ ?_
    · simp (disch := first | assumption | omega) only [↓RP, RQ, TY, loadT, reduceIte, Nat.reduceEqDiff, Nat.reduceAdd, e3, e1]
      exact ⟨rfl, by omega, Ext.refl _, rfl⟩
    rintro ⟨i, bst, lst⟩ e' H5 ⟨g7, g5, g6, g4, g3, g1, hi, hE5, hs⟩
    dsimp only at *
    have hp5 := hp4.more hE5
    have h5 := hE5.rw h4
    have s4 := (hp5.sl (y := (w4, ints (natsI O))) (by simp))
    have s3 := (hp5.sl (y := (w, ints g)) (by simp))
    by_cases hin : (i : Int) < O.length
    · have hin2 : (i : Int) < (natsI O).length := by omega
      have hgd := natsI_getDn (l := O) (i := i) (by omega)
      obtain ⟨y, hy⟩ : ∃ y, O.getD i 0 = y := ⟨_, rfl⟩
      have hym : y ∈ O := hy ▸ getD_mem' (by omega)
      obtain ⟨y1, y2⟩ := hmo y hym
      rw [hy] at hgd
      simp (disch := first | assumption | omega) only [↓RP, RQ, TY, loadT, reduceIte, Nat.reduceEqDiff, Nat.reduceAdd, g7, g5, g6, g4, g3, g1, hin2, h5, s4.ints, hgd]
      refine kNew_intro fun b6 H6 hb6 hE6 hH6 => ?_
      simp (disch := first | assumption | omega) only [↓RP, RQ, TY, loadT, reduceIte, Nat.reduceEqDiff, Nat.reduceAdd, g7, g5, g6, g4, g3, g1]
      refine kApp_hp (us := ints g) ((Hp.nil (Ext.refl H5)).new hb6 hE6 hH6 rfl) (s3.ext hE6) ints_ones (by simp [ints_length]; omega) (by simp [ints_length]; omega) fun v7 H7 hp7 => ?_
      rw [List.nil_append] at hp7
      simp (disch := first | assumption | omega) only [↓RP, RQ, TY, loadT, reduceIte, Nat.reduceEqDiff, Nat.reduceAdd, g7, g5, g6, g4, g3, g1, (s4.ext hp7.ext).ints, hp7.ext.rw h5, hgd, hin2]
      refine kNew_intro fun b8 H8 hb8 hE8 hH8 => ?_
      simp (disch := first | assumption | omega) only [↓RP, RQ, TY, loadT, reduceIte, Nat.reduceEqDiff, Nat.reduceAdd, g7, g5, g6, g4, g3, g1]
      refine kApp_hp (us := ints [(y : Int)]) (hp7.more hE8) (Sl.own hH8 rfl) ints_ones (by rw [ints_length, ints_length, List.length_singleton]; omega) (by rw [ints_length, ints_length, List.length_singleton]; omega) fun v9 H9 hp9 => ?_
      rw [ints_app] at hp9
      have hE9 := hp5.ext.trans hp9.ext
      have hpo : Poss n (g ++ [(y : Int)]) := poss_mem.mpr fun z hz => by
        rcases List.mem_append.mp hz with q | q
        · exact poss_mem.mp gok.2.1 z q
        · simp at q; omega
      have hyv : dimS p m mod n rows (g ++ [(y : Int)]) = d y := by
        rw [dimS_eq ok (by omega) els hpo (nodup_push gok.2.2 y2), ← hd]; rfl
      simp (disch := first | assumption | omega) only [↓RP, RQ, TY, loadT, reduceIte, Nat.reduceEqDiff, Nat.reduceAdd, g7, g5, g6, g4, g3, g1, (s4.ext hp9.ext).ints, hp9.ext.rw h5, hgd, hin2]
      refine c_Of (A.fo.ca h0 (hm.ext hE9) (hv.ext hE9)) hp9.head.sl hpo (by rw [List.length_append, List.length_singleton]; omega) fun H10 hE10 => ?_
      rw [hyv]
      have hE510 : Ext H4 H10 := (hE5.trans hp9.ext).trans hE10
      have s4 := s4.ext (hp9.ext.trans hE10)
      by_cases hc2 : d y < lst
      · simp (disch := first | assumption | omega) only [↓RP, RQ, TY, loadT, reduceIte, Nat.reduceEqDiff, Nat.reduceAdd, g7, g5, g6, g4, g3, g1, hc2, s4.ints, hin2, hgd]
        refine ⟨(i + 1, (y : Int), d y), ?_, by dsimp only; omega⟩
        simp (disch := first | assumption | omega) only [↓RP, RQ, TY, loadT, reduceIte, Nat.reduceEqDiff, Nat.reduceAdd, g7, g5, g6, g4, g3, g1]
        refine ⟨by omega, hE510, ?_⟩
        rw [← take_push (l := O) (i := i) 0 (by omega), hy, pickB_app, ← hs, pickB_one, if_pos hc2]
      · simp (disch := first | assumption | omega) only [↓RP, RQ, TY, loadT, reduceIte, Nat.reduceEqDiff, Nat.reduceAdd, g7, g5, g6, g4, g3, g1, hc2]
        refine ⟨(i + 1, bst, lst), ?_, by dsimp only; omega⟩
        simp (disch := first | assumption | omega) only [↓RP, RQ, TY, loadT, reduceIte, Nat.reduceEqDiff, Nat.reduceAdd, g7, g5, g6, g4, g3, g1]
        refine ⟨by omega, hE510, ?_⟩
        rw [← take_push (l := O) (i := i) 0 (by omega), hy, pickB_app, ← hs, pickB_one, if_neg hc2]
    · have hin2 : ¬ (i : Int) < (natsI O).length := by omega
      rw [List.take_of_length_le (by omega)] at hs
      have hbx : bst = x := by rw [← hx3, ← hs]
      rw [hbx] at g5
      simp (disch := first | assumption | omega) only [↓RP, RQ, TY, loadT, reduceIte, Nat.reduceEqDiff, Nat.reduceAdd, g7, g5, g6, g4, g3, g1, hin2, s4.ints]
      refine kNew_intro fun b6 H6 hb6 hE6 hH6 => ?_
      simp (disch := first | assumption | omega) only [↓RP, RQ, TY, loadT, reduceIte, Nat.reduceEqDiff, Nat.reduceAdd, g7, g5, g6, g4, g3, g1]
      refine kApp_hp (us := ints [(x : Int)]) ((hp5.tail).more hE6) (Sl.own hH6 rfl) ints_ones (by rw [ints_length, ints_length, List.length_singleton]; omega) (by rw [ints_length, ints_length, List.length_singleton]; omega) fun v7 H7 hp7 => ?_
      rw [ints_app, ← gs] at hp7
      simp (disch := first | assumption | omega) only [↓RP, RQ, TY, loadT, reduceIte, Nat.reduceEqDiff, Nat.reduceAdd, g7, g5, g6, g4, g3, g1]
      refine ⟨(t + 1, v7), ?_, by dsimp only; omega⟩
      simp (disch := first | assumption | omega) only [↓RP, RQ, TY, loadT, reduceIte, Nat.reduceEqDiff, Nat.reduceAdd, g7, g5, g6, g4, g3, g1]
      exact ⟨by omega, hp7⟩
  · rw [show t = n.toNat by omega] at hp3
    have glt : ¬ (((grL p m mod n rows n.toNat).length : Nat) : Int) < n := by rw [(grL_ok ok n1 els n.toNat (Nat.le_refl _)).1]; omega
    simp (disch := first | assumption | omega) only [↓RP, RQ, TY, loadT, reduceIte, Nat.reduceEqDiff, Nat.reduceAdd, e3, e1, h3, glt, hp3.head.sl.ints]
    exact hQ w H3 hp3.ext hp3.head
end Go.Proofs.Yteijojnahpeglaa.AM
/-! The program's orderings, fourth part: ordered, width, Width; the reference's IsOrder, Order, Width. -/
namespace Go.Proofs.Yteijojnahpeglaa.AM
open Go Go.RowKit
set_option linter.unusedVariables false
set_option linter.unusedSimpArgs false
set_option maxRecDepth 20000
/-- each position once -/
def IsOrd (n : Int) (order : List Int) : Prop := (order.length : Int) = n ∧ Poss n order ∧ order.Nodup
open Classical in
noncomputable def ordErr (p m : Int) (mod : List Int) (n : Int) (rows : List (List Int)) (order : List Int) : Int := if codeErr p m mod n rows ≠ 0 then codeErr p m mod n rows else if IsOrd n order then 0 else 5
/-- what both loops know of the entries so far -/
def SeenB (n : Int) (order : List Int) (i : Nat) (L : List Bool) : Prop := L.length = n.toNat ∧ (∀ j, j < n.toNat → (L.getD j false = true ↔ (j : Int) ∈ order.take i)) ∧ Poss n (order.take i) ∧ (order.take i).Nodup
theorem SeenB.zero {n : Int} {order : List Int} : SeenB n order 0 (List.replicate n.toNat false) := by
  refine ⟨by simp, fun j hj => ?_, fun i hi => by simp at hi, by simp⟩
  simp [List.getD_eq_getElem?_getD, hj]
theorem SeenB.bad {n : Int} {order : List Int} {i : Nat} {L : List Bool} (h : SeenB n order i L) (hi : i < order.length) (hb : order.getD i 0 < 0 ∨ n ≤ order.getD i 0 ∨ L.getD (order.getD i 0).toNat false = true) : ¬ IsOrd n order := by
  rintro ⟨-, q2, q3⟩
  have q := q2 i hi
  rcases hb with b | b | b
  · omega
  · omega
  · have w := (h.2.1 _ (by omega)).mp b
    rw [Int.toNat_of_nonneg q.1] at w
    have e := take_push (l := order) (i := i) 0 hi
    have nd : (order.take (i + 1)).Nodup := List.Nodup.sublist (List.take_sublist _ _) q3
    rw [← e, List.nodup_append] at nd
    exact nd.2.2 _ w _ (by simp) rfl
theorem SeenB.step {n : Int} {order : List Int} {i : Nat} {L : List Bool} (h : SeenB n order i L) (hi : i < order.length) (h0 : 0 ≤ order.getD i 0) (h1 : order.getD i 0 < n) (h2 : L.getD (order.getD i 0).toNat false = false) : SeenB n order (i + 1) (L.set (order.getD i 0).toNat true) := by
  obtain ⟨s1, s2, s3, s4⟩ := h
  have nm : order.getD i 0 ∉ order.take i := fun q => by
    have := (s2 (order.getD i 0).toNat (by omega)).mpr (by rwa [Int.toNat_of_nonneg h0])
    rw [h2] at this
    cases this
  have e := take_push (l := order) (i := i) 0 hi
  refine ⟨by simpa using s1, fun j hj => ?_, ?_, ?_⟩
  · rw [mem_take_succ hi, getD_setN, ← s2 j hj]
    by_cases hjs : j = (order.getD i 0).toNat
    · rw [if_pos ⟨hjs, by omega⟩]
      exact ⟨fun _ => .inr (by omega), fun _ => rfl⟩
    · rw [if_neg (fun q => hjs q.1)]
      constructor
      · exact .inl
      · rintro (q | q)
        · exact q
        · omega
  · rw [← e]
    refine poss_mem.mpr fun y hy => ?_
    rcases List.mem_append.mp hy with q | q
    · exact poss_mem.mp s3 y q
    · simp only [List.mem_singleton] at q; omega
  · rw [← e]
    exact nodup_push s4 nm
theorem SeenB.done {n : Int} {order : List Int} {L : List Bool} {i : Nat} (hl : (order.length : Int) = n) (hi : order.length ≤ i) (h : SeenB n order i L) : IsOrd n order := by
  obtain ⟨s1, s2, s3, s4⟩ := h
  rw [List.take_of_length_le hi] at s3 s4
  exact ⟨hl, s3, s4⟩
theorem c_ordered (A : Alg) {p m n : Int} {md v sv : AV} {mod set : List Int} {us : List AV} {rows : List (List Int)} {H : AH} {Q : AV → AH → Prop} (hm : Ints H md mod) (hlm : mod.length ≤ 9223372036854775807) (hv : Rows H v us rows) (hs : Ints H sv set) (hl : rows.length ≤ 9223372036854775807) (hlr : ∀ i, i < rows.length → (rowAt rows i).length ≤ 9223372036854775807) (hls : set.length ≤ 9223372036854775807)
    (hQ : ∀ H', Ext H H' → Q (.int .i64 (ordErr p m mod n rows set)) H') : AC Try.prog 35 [codeV p m md n v, sv] H Q := by
  refine at35 (by simp) ?_
  simp (disch := first | assumption | omega) only [↓RP, RQ, TY, loadT, s35, reduceIte, Nat.reduceEqDiff, Nat.reduceAdd]
  refine kNew_intro fun b H1 hb hE1 hH1 => ?_
  simp (disch := first | assumption | omega) only [↓RP, RQ, TY, loadT, reduceIte, Nat.reduceEqDiff, Nat.reduceAdd, hH1]
  refine c_cCheck A (hm.ext hE1) hlm (hv.ext hE1) hl hlr fun H2 hE2 => ?_
  have hE12 := hE1.trans hE2
  have h2 := hE2.rw hH1
  by_cases h0 : codeErr p m mod n rows = 0
  rotate_left
  · simp (disch := first | assumption | omega) only [↓RP, RQ, TY, loadT, reduceIte, Nat.reduceEqDiff, Nat.reduceAdd, eq_false h0]
    have := hQ H2 hE12
    rwa [ordErr, if_pos h0] at this
  have ca := A.fo.ca h0 (hm.ext hE12) (hv.ext hE12)
  have n1 := ca.n1
  have n64 := ca.n64
  have hs2 := hs.ext hE12
  have no : ¬ IsOrd n set → ∀ H3, Ext H H3 → Q (.int .i64 5) H3 := fun h H3 hE3 => by
    have := hQ H3 hE3
    rwa [ordErr, if_neg (by simpa using h0), if_neg h] at this
  by_cases hlen : (set.length : Int) = n
  rotate_left
  · simp (disch := first | assumption | omega) only [↓RP, RQ, TY, loadT, reduceIte, Nat.reduceEqDiff, Nat.reduceAdd, eq_true h0, h2, hs2.ints, hlen]
    exact no (fun q => hlen q.1) _ hE12
  simp (disch := first | assumption | omega) only [↓RP, RQ, TY, loadT, reduceIte, Nat.reduceEqDiff, Nat.reduceAdd, eq_true h0, h2, hs2.ints, hlen]
  refine kNew_intro fun b4 H4 hb4 hE4 hH4 => ?_
  rw [bools_repl] at hH4
  have hp4 := (((Hp.nil (Ext.refl H)).new hb hE1 hH1 rfl).more hE2).new (n := n.toNat) hb4 hE4 hH4 (by simp [bools_length])
  have hs4 := hs2.ext hE4
  simp (disch := first | assumption | omega) only [↓RP, RQ, TY, loadT, reduceIte, Nat.reduceEqDiff, Nat.reduceAdd, hs4.ints, hlen]
  refine sw_loop (σ := Nat × List Bool) (fun s e H' => e 24 = .int .i64 s.1 ∧ e 23 = .int .i64 n ∧ e 22 = sv ∧ e 6 = .sl b4 0 n.toNat (.own 1) ∧ e 2 = .ptr b 0 ∧ s.1 ≤ set.length ∧ Hp H H' [(.sl b4 0 n.toNat (.own 1), bools s.2), (.sl b 0 5 (.own 1), [.int .i64 p, .int .i64 m, md, .int .i64 n, v])] ∧ SeenB n set s.1 s.2) (fun s => set.length - s.1) (0, List.replicate n.toNat false) ?_ ?_
  · simp (disch := first | assumption | omega) only [↓RP, RQ, TY, loadT, reduceIte, Nat.reduceEqDiff, Nat.reduceAdd]
    exact ⟨by omega, hp4, SeenB.zero⟩
  rintro ⟨i, L⟩ e H' ⟨e24, e23, e22, e6, e2, hi, hp, hseen⟩
  dsimp only at *
  have hs5 := hs.ext hp.ext
  have h5 := (hp.blkOf (y := (.sl b 0 5 (.own 1), [.int .i64 p, .int .i64 m, md, .int .i64 n, v])) (by simp) rfl).1
  have hL5 := (hp.blkOf (y := (.sl b4 0 n.toNat (.own 1), bools L)) (by simp) rfl).1
  by_cases hlt : (i : Int) < n
  · have hi' : i < set.length := by omega
    by_cases c1 : set.getD i 0 < 0
    · simp (disch := first | assumption | omega) only [↓RP, RQ, TY, loadT, reduceIte, Nat.reduceEqDiff, Nat.reduceAdd, e24, e23, e22, e6, e2, hlt, hs5.ints, h5, c1]
      exact no (hseen.bad hi' (.inl c1)) _ hp.ext
    by_cases c2 : n ≤ set.getD i 0
    · simp (disch := first | assumption | omega) only [↓RP, RQ, TY, loadT, reduceIte, Nat.reduceEqDiff, Nat.reduceAdd, e24, e23, e22, e6, e2, hlt, hs5.ints, h5, c1, c2]
      exact no (hseen.bad hi' (.inr (.inl c2))) _ hp.ext
    have hbl := bools_length L
    have hLl := hseen.1
    cases c3 : L.getD (set.getD i 0).toNat false
    · simp (disch := first | assumption | omega) only [↓RP, RQ, TY, loadT, reduceIte, Nat.reduceEqDiff, Nat.reduceAdd, e24, e23, e22, e6, e2, hlt, hs5.ints, h5, c1, c2, hL5, bools_get, c3, bools_set]
      refine ⟨(i + 1, L.set (set.getD i 0).toNat true), ?_, by dsimp only; omega⟩
      simp (disch := first | assumption | omega) only [↓RP, RQ, TY, loadT, reduceIte, Nat.reduceEqDiff, Nat.reduceAdd, e24, e23, e22, e6, e2]
      exact ⟨by omega, hp.upd (by simp [bools_length]), hseen.step hi' (by omega) (by omega) c3⟩
    · simp (disch := first | assumption | omega) only [↓RP, RQ, TY, loadT, reduceIte, Nat.reduceEqDiff, Nat.reduceAdd, e24, e23, e22, e6, e2, hlt, hs5.ints, h5, c1, c2, hL5, bools_get, c3]
      exact no (hseen.bad hi' (.inr (.inr c3))) _ hp.ext
  · simp (disch := first | assumption | omega) only [↓RP, RQ, TY, loadT, reduceIte, Nat.reduceEqDiff, Nat.reduceAdd, e24, e23, e22, e6, e2, hlt]
    have := hQ H' hp.ext
    rwa [ordErr, if_neg (by simpa using h0), if_pos (SeenB.done hlen (by omega) hseen)] at this
theorem c_IsOrder {n : Int} {v : AV} {set : List Int} {H : AH} {Q : AV → AH → Prop} (hn : 0 ≤ n) (hn' : n ≤ 1000) (hs : Ints H v set) (hls : set.length ≤ 9223372036854775807) (hQ : ∀ H', Ext H H' → ∀ w : Bool, (w = true ↔ IsOrd n set) → Q (.bool w) H') : AC Try.prog 39 [.int .i64 n, v] H Q := by
  refine at39 (by simp) ?_
  simp (disch := first | assumption | omega) only [↓RP, RQ, TY, loadT, s39, reduceIte, Nat.reduceEqDiff, Nat.reduceAdd]
  have no : ¬ IsOrd n set → ∀ H3, Ext H H3 → Q (.bool false) H3 := fun h H3 hE3 => hQ H3 hE3 false ⟨fun q => (by cases q), fun q => absurd q h⟩
  by_cases hlen : (set.length : Int) = n
  rotate_left
  · simp (disch := first | assumption | omega) only [↓RP, RQ, TY, loadT, reduceIte, Nat.reduceEqDiff, Nat.reduceAdd, hs.ints, hlen]
    exact no (fun q => hlen q.1) _ (Ext.refl H)
  simp (disch := first | assumption | omega) only [↓RP, RQ, TY, loadT, reduceIte, Nat.reduceEqDiff, Nat.reduceAdd, hs.ints, hlen]
  refine kNew_intro fun b4 H4 hb4 hE4 hH4 => ?_
  rw [bools_repl] at hH4
  have hp4 := (Hp.nil (Ext.refl H)).new (n := n.toNat) hb4 hE4 hH4 (by simp [bools_length])
  simp (disch := first | assumption | omega) only [↓RP, RQ, TY, loadT, reduceIte, Nat.reduceEqDiff, Nat.reduceAdd]
  refine sw_loop (σ := Nat × List Bool) (fun s e H' => e 6 = .int .i64 s.1 ∧ e 0 = .int .i64 n ∧ e 1 = v ∧ e 5 = .sl b4 0 n.toNat (.own 1) ∧ s.1 ≤ set.length ∧ Hp H H' [(.sl b4 0 n.toNat (.own 1), bools s.2)] ∧ SeenB n set s.1 s.2) (fun s => set.length - s.1) (0, List.replicate n.toNat false) ?_ ?_
  · simp (disch := first | assumption | omega) only [↓RP, RQ, TY, loadT, reduceIte, Nat.reduceEqDiff, Nat.reduceAdd]
    exact ⟨by omega, hp4, SeenB.zero⟩
  rintro ⟨i, L⟩ e H' ⟨e6, e0, e1, e5, hi, hp, hseen⟩
  dsimp only at *
  have hs5 := hs.ext hp.ext
  have hL5 := (hp.blkOf (y := (.sl b4 0 n.toNat (.own 1), bools L)) (by simp) rfl).1
  by_cases hlt : (i : Int) < n
  · have hi' : i < set.length := by omega
    by_cases c1 : set.getD i 0 < 0
    · simp (disch := first | assumption | omega) only [↓RP, RQ, TY, loadT, reduceIte, Nat.reduceEqDiff, Nat.reduceAdd, e6, e0, e1, e5, hlt, hs5.ints, c1]
      exact no (hseen.bad hi' (.inl c1)) _ hp.ext
    by_cases c2 : n ≤ set.getD i 0
    · simp (disch := first | assumption | omega) only [↓RP, RQ, TY, loadT, reduceIte, Nat.reduceEqDiff, Nat.reduceAdd, e6, e0, e1, e5, hlt, hs5.ints, c1, c2]
      exact no (hseen.bad hi' (.inr (.inl c2))) _ hp.ext
    have hbl := bools_length L
    have hLl := hseen.1
    cases c3 : L.getD (set.getD i 0).toNat false
    · simp (disch := first | assumption | omega) only [↓RP, RQ, TY, loadT, reduceIte, Nat.reduceEqDiff, Nat.reduceAdd, e6, e0, e1, e5, hlt, hs5.ints, c1, c2, hL5, bools_get, c3, bools_set]
      refine ⟨(i + 1, L.set (set.getD i 0).toNat true), ?_, by dsimp only; omega⟩
      simp (disch := first | assumption | omega) only [↓RP, RQ, TY, loadT, reduceIte, Nat.reduceEqDiff, Nat.reduceAdd, e6, e0, e1, e5]
      exact ⟨by omega, hp.upd (by simp [bools_length]), hseen.step hi' (by omega) (by omega) c3⟩
    · simp (disch := first | assumption | omega) only [↓RP, RQ, TY, loadT, reduceIte, Nat.reduceEqDiff, Nat.reduceAdd, e6, e0, e1, e5, hlt, hs5.ints, c1, c2, hL5, bools_get, c3]
      exact no (hseen.bad hi' (.inr (.inr c3))) _ hp.ext
  · simp (disch := first | assumption | omega) only [↓RP, RQ, TY, loadT, reduceIte, Nat.reduceEqDiff, Nat.reduceAdd, e6, e0, e1, e5, hlt]
    exact hQ H' hp.ext true ⟨fun _ => SeenB.done hlen (by omega) hseen, fun _ => rfl⟩
theorem c_Order48 (A : Alg) {p m n : Int} {md v sv : AV} {mod set : List Int} {us : List AV} {rows : List (List Int)} {H : AH} {Q : AV → AH → Prop} (hm : Ints H md mod) (hv : Rows H v us rows) (hs : Ints H sv set) (hl : rows.length ≤ 9223372036854775807) (hlr : ∀ i, i < rows.length → (rowAt rows i).length ≤ 9223372036854775807) (hls : set.length ≤ 9223372036854775807)
    (hQ : ∀ H', Ext H H' → Q (.int .i64 (ordErr p m mod n rows set)) H') : AC Try.prog 23 [codeV p m md n v, sv] H Q := by
  refine at23 (by simp) ?_
  simp (disch := first | assumption | omega) only [↓RP, RQ, TY, loadT, s23, reduceIte, Nat.reduceEqDiff, Nat.reduceAdd]
  refine kNew_intro fun b H1 hb hE1 hH1 => ?_
  simp (disch := first | assumption | omega) only [↓RP, RQ, TY, loadT, reduceIte, Nat.reduceEqDiff, Nat.reduceAdd, hH1]
  refine c_Check12 A.fo (hm.ext hE1) (hv.ext hE1) hl hlr fun H2 hE2 => ?_
  have hE12 := hE1.trans hE2
  have h2 := hE2.rw hH1
  by_cases h0 : codeErr p m mod n rows = 0
  rotate_left
  · simp (disch := first | assumption | omega) only [↓RP, RQ, TY, loadT, reduceIte, Nat.reduceEqDiff, Nat.reduceAdd, eq_false h0]
    have := hQ H2 hE12
    rwa [ordErr, if_pos h0] at this
  have ca := A.fo.ca h0 (hm.ext hE12) (hv.ext hE12)
  have n1 := ca.n1
  have n64 := ca.n64
  simp (disch := first | assumption | omega) only [↓RP, RQ, TY, loadT, reduceIte, Nat.reduceEqDiff, Nat.reduceAdd, eq_true h0, h2]
  refine c_IsOrder (by omega) (by omega) (hs.ext hE12) hls fun H3 hE3 w hw => ?_
  have := hQ H3 (hE12.trans hE3)
  cases w
  · simp (disch := first | assumption | omega) only [↓RP, RQ, TY, loadT, reduceIte, Nat.reduceEqDiff, Nat.reduceAdd, eq_true h0]
    rwa [ordErr, if_neg (by simpa using h0), if_neg (fun q => by have := hw.mpr q; cases this)] at this
  · simp (disch := first | assumption | omega) only [↓RP, RQ, TY, loadT, reduceIte, Nat.reduceEqDiff, Nat.reduceAdd, eq_true h0]
    rw [ordErr, if_neg (by simpa using h0), if_pos (hw.mp rfl)] at this
    rw [h0]
    exact this
end Go.Proofs.Yteijojnahpeglaa.AM
/-! The widths of an order: the program's width and Width, the reference's Width. -/
namespace Go.Proofs.Yteijojnahpeglaa.AM
open Go Go.RowKit
set_option linter.unusedVariables false
set_option linter.unusedSimpArgs false
set_option maxRecDepth 20000
/-- the width of an order's beginnings up to one -/
noncomputable def widL (p m : Int) (mod : List Int) (n : Int) (rows : List (List Int)) (order : List Int) : Nat → Int
  | 0 => 0
  | k + 1 => max (widL p m mod n rows order k) (dimP p m mod n rows (inL (order.take (k + 1))))
open Classical in
noncomputable def widVal (p m : Int) (mod : List Int) (n : Int) (rows : List (List Int)) (order : List Int) : Int := if ordErr p m mod n rows order = 0 then widL p m mod n rows order order.length else 0
theorem ordErr_iff {p m n : Int} {mod set : List Int} {rows : List (List Int)} : ordErr p m mod n rows set = 0 ↔ codeErr p m mod n rows = 0 ∧ IsOrd n set := by
  constructor
  · intro h
    rw [ordErr] at h
    split at h
    · contradiction
    · rename_i q
      split at h
      · rename_i w; exact ⟨by simpa using q, w⟩
      · cases h
  · rintro ⟨h1, h2⟩
    rw [ordErr, if_neg (by simpa using h1), if_pos h2]
theorem IsOrd.take {n : Int} {order : List Int} (h : IsOrd n order) (i : Nat) : Poss n (order.take i) ∧ (order.take i).Nodup := ⟨poss_mem.mpr fun y hy => poss_mem.mp h.2.1 y (List.mem_of_mem_take hy), List.Nodup.sublist (List.take_sublist _ _) h.2.2⟩
theorem widL_bd {p m : Int} {mod : List Int} (h : (fF p m mod).Ok) {n : Int} (hn : 1 ≤ n) {rows : List (List Int)} (he : Els (fF p m mod) rows) (order : List Int) : ∀ k, 0 ≤ widL p m mod n rows order k ∧ widL p m mod n rows order k ≤ n
  | 0 => ⟨by rw [widL]; omega, by rw [widL]; omega⟩
  | k + 1 => by
    obtain ⟨h1, h2⟩ := widL_bd h hn he order k
    have := dimP_lt h hn he (inL (order.take (k + 1)))
    rw [widL]
    omega
theorem dimP_empty {p m : Int} {mod : List Int} (h : (fF p m mod).Ok) {n : Int} {rows : List (List Int)} (he : Els (fF p m mod) rows) : dimP p m mod n rows (inL []) ≤ 0 := by
  letI := h.fd
  have a1 := (clo (colV h rows)).R_le n.toNat (inL [])
  have a2 := R_le_rows h (n := n.toNat) he (fun i => !inL [] i)
  have e : (List.range n.toNat).filter (inL []) = [] := List.filter_eq_nil_iff.mpr fun a _ => by simp [inL]
  rw [e, List.length_nil] at a1
  rw [dimP, rankP_R h he, rankP_R h he]
  omega
theorem c_owidth (A : Alg) {p m n : Int} {md v sv : AV} {mod set : List Int} {us : List AV} {rows : List (List Int)} {H : AH} {Q : AV → AH → Prop} (hm : Ints H md mod) (hlm : mod.length ≤ 9223372036854775807) (hv : Rows H v us rows) (hs : Ints H sv set) (h0 : codeErr p m mod n rows = 0) (ho : IsOrd n set)
    (hQ : ∀ H', Ext H H' → Q (.int .i64 (widL p m mod n rows set set.length)) H') : AC Try.prog 38 [codeV p m md n v, sv] H Q := by
  have ca := A.fo.ca h0 hm hv
  have n1 := ca.n1
  have n64 := ca.n64
  have ok := ca.fa.ok
  have els := ca.els
  have hl := ho.1
  refine at38 (by simp) ?_
  simp (disch := first | assumption | omega) only [↓RP, RQ, TY, loadT, s38, reduceIte, Nat.reduceEqDiff, Nat.reduceAdd]
  refine kNew_intro fun b H1 hb hE1 hH1 => ?_
  have hs1 := hs.ext hE1
  simp (disch := first | assumption | omega) only [↓RP, RQ, TY, loadT, reduceIte, Nat.reduceEqDiff, Nat.reduceAdd, hs1.ints]
  refine sw_loop (σ := Nat × Nat) (fun s e H' => e 11 = .int .i64 s.1 ∧ e 10 = .int .i64 set.length ∧ e 9 = sv ∧ e 2 = .ptr b 0 ∧ e 6 = .int .i64 (widL p m mod n rows set s.1) ∧ e 5 = .int .u64 (s.2 : Nat) ∧ s.1 ≤ set.length ∧ s.2 < 18446744073709551616 ∧ s.2.testBit = inL (set.take s.1) ∧ Ext H1 H') (fun s => set.length - s.1) (0, 0) ?_ ?_
  · simp (disch := first | assumption | omega) only [↓RP, RQ, TY, loadT, reduceIte, Nat.reduceEqDiff, Nat.reduceAdd]
    exact ⟨rfl, by omega, by omega, funext fun i => by simp [inL], Ext.refl _⟩
  rintro ⟨t, k⟩ e H2 ⟨e11, e10, e9, e2, e6, e5, ht, hk, hbit, hE2⟩
  dsimp only at *
  have hE12 := hE1.trans hE2
  have h2 := hE2.rw hH1
  have hs2 := hs1.ext hE2
  by_cases hlt : (t : Int) < set.length
  · have hp := ho.2.1 t (by omega)
    obtain ⟨x, hx⟩ : ∃ x : Nat, set.getD t 0 = x := ⟨(set.getD t 0).toNat, by omega⟩
    obtain ⟨o1, o2⟩ := bit_or (k := k) (x := x) hk (by omega)
    have xlt : x < 64 := by omega
    have htk := take_push (l := set) (i := t) 0 (by omega)
    rw [hx] at htk
    have htb : (k ||| 2 ^ x).testBit = inL (set.take (t + 1)) := by rw [← htk]; exact testBit_push hbit
    simp (disch := first | assumption | omega) only [↓RP, RQ, TY, loadT, reduceIte, Nat.reduceEqDiff, Nat.reduceAdd, e11, e10, e9, e2, e6, e5, hlt, hs2.ints, h2, hx, o1]
    refine c_odim A (hm.ext hE12) hlm (hv.ext hE12) h0 o2 fun H3 hE3 => ?_
    have hde : (rankP p m mod n rows (k ||| 2 ^ x).testBit : Int) + rankP p m mod n rows (fun j => !(k ||| 2 ^ x).testBit j) - rows.length = dimP p m mod n rows (inL (set.take (t + 1))) := by
      rw [htb]; rfl
    rw [hde]
    simp (disch := first | assumption | omega) only [↓RP, RQ, TY, loadT, reduceIte, Nat.reduceEqDiff, Nat.reduceAdd, e11, e10, e9, e2, e6, e5]
    refine ⟨(t + 1, k ||| 2 ^ x), ?_, by dsimp only; omega⟩
    simp (disch := first | assumption | omega) only [↓RP, RQ, TY, loadT, reduceIte, Nat.reduceEqDiff, Nat.reduceAdd, e11, e10, e9, e2, e6, e5]
    exact ⟨by rw [widL]; congr 1; split <;> omega, by omega, o2, htb, hE2.trans hE3⟩
  · rw [show t = set.length by omega] at e6
    simp (disch := first | assumption | omega) only [↓RP, RQ, TY, loadT, reduceIte, Nat.reduceEqDiff, Nat.reduceAdd, e11, e10, e9, e2, e6, e5, hlt]
    exact hQ H2 hE12
theorem c_OWidth (A : Alg) {p m n : Int} {md v sv : AV} {mod set : List Int} {us : List AV} {rows : List (List Int)} {H : AH} {Q : AV → AH → Prop} (hm : Ints H md mod) (hlm : mod.length ≤ 9223372036854775807) (hv : Rows H v us rows) (hs : Ints H sv set) (hl : rows.length ≤ 9223372036854775807) (hlr : ∀ i, i < rows.length → (rowAt rows i).length ≤ 9223372036854775807) (hls : set.length ≤ 9223372036854775807)
    (hQ : ∀ H', Ext H H' → Q (.tup [.int .i64 (widVal p m mod n rows set), .int .i64 (ordErr p m mod n rows set)]) H') : AC Try.prog 24 [codeV p m md n v, sv] H Q := by
  refine at24 (by simp) ?_
  simp (disch := first | assumption | omega) only [↓RP, RQ, TY, loadT, s24, reduceIte, Nat.reduceEqDiff, Nat.reduceAdd]
  refine kNew_intro fun b H1 hb hE1 hH1 => ?_
  simp (disch := first | assumption | omega) only [↓RP, RQ, TY, loadT, reduceIte, Nat.reduceEqDiff, Nat.reduceAdd, hH1]
  refine c_ordered A (hm.ext hE1) hlm (hv.ext hE1) (hs.ext hE1) hl hlr hls fun H2 hE2 => ?_
  have hE12 := hE1.trans hE2
  have h2 := hE2.rw hH1
  by_cases h0 : ordErr p m mod n rows set = 0
  · obtain ⟨q1, q2⟩ := ordErr_iff.mp h0
    simp (disch := first | assumption | omega) only [↓RP, RQ, TY, loadT, reduceIte, Nat.reduceEqDiff, Nat.reduceAdd, eq_true h0, h0, h2]
    refine c_owidth A (hm.ext hE12) hlm (hv.ext hE12) (hs.ext hE12) q1 q2 fun H3 hE3 => ?_
    simp (disch := first | assumption | omega) only [↓RP, RQ, TY, loadT, reduceIte, Nat.reduceEqDiff, Nat.reduceAdd]
    have := hQ H3 (hE12.trans hE3)
    rwa [widVal, if_pos h0, h0] at this
  · simp (disch := first | assumption | omega) only [↓RP, RQ, TY, loadT, reduceIte, Nat.reduceEqDiff, Nat.reduceAdd, eq_false h0]
    have := hQ H2 hE12
    rwa [widVal, if_neg h0] at this
theorem c_Width48 (A : Alg) {p m n : Int} {md v sv : AV} {mod set : List Int} {us : List AV} {rows : List (List Int)} {H : AH} {Q : AV → AH → Prop} (hm : Ints H md mod) (hv : Rows H v us rows) (hs : Ints H sv set) (hl : rows.length ≤ 9223372036854775807) (hlr : ∀ i, i < rows.length → (rowAt rows i).length ≤ 9223372036854775807) (hls : set.length ≤ 9223372036854775807)
    (hQ : ∀ H', Ext H H' → Q (.tup [.int .i64 (widVal p m mod n rows set), .int .i64 (ordErr p m mod n rows set)]) H') : AC Try.prog 40 [codeV p m md n v, sv] H Q := by
  refine at40 (by simp) ?_
  simp (disch := first | assumption | omega) only [↓RP, RQ, TY, loadT, s40, reduceIte, Nat.reduceEqDiff, Nat.reduceAdd]
  refine kNew_intro fun b H1 hb hE1 hH1 => ?_
  simp (disch := first | assumption | omega) only [↓RP, RQ, TY, loadT, reduceIte, Nat.reduceEqDiff, Nat.reduceAdd, hH1]
  refine c_Order48 A (hm.ext hE1) (hv.ext hE1) (hs.ext hE1) hl hlr hls fun H2 hE2 => ?_
  have hE12 := hE1.trans hE2
  have h2 := hE2.rw hH1
  by_cases h0 : ordErr p m mod n rows set = 0
  rotate_left
  · simp (disch := first | assumption | omega) only [↓RP, RQ, TY, loadT, reduceIte, Nat.reduceEqDiff, Nat.reduceAdd, eq_false h0]
    have := hQ H2 hE12
    rwa [widVal, if_neg h0] at this
  obtain ⟨q1, q2⟩ := ordErr_iff.mp h0
  have ca := A.fo.ca q1 (hm.ext hE12) (hv.ext hE12)
  have n1 := ca.n1
  have n64 := ca.n64
  have ok := ca.fa.ok
  have els := ca.els
  have hl := q2.1
  have hs2 := hs.ext hE12
  simp (disch := first | assumption | omega) only [↓RP, RQ, TY, loadT, reduceIte, Nat.reduceEqDiff, Nat.reduceAdd, eq_true h0, h2]
  refine sw_loop (σ := Nat) (fun i e H' => e 8 = .int .i64 i ∧ e 7 = .int .i64 (widL p m mod n rows set (i - 1)) ∧ e 2 = .ptr b 0 ∧ e 1 = sv ∧ i ≤ n.toNat + 1 ∧ Ext H2 H') (fun i => n.toNat + 1 - i) 0 ?_ ?_
  · simp (disch := first | assumption | omega) only [↓RP, RQ, TY, loadT, reduceIte, Nat.reduceEqDiff, Nat.reduceAdd]
    exact ⟨rfl, by omega, Ext.refl _⟩
  rintro i e H3 ⟨e8, e7, e2, e1, hi, hE3⟩
  have h3 := hE3.rw h2
  have hE13 := hE12.trans hE3
  have hs3 := hs2.ext hE3
  by_cases hlt : (i : Int) ≤ n
  · have htn := hs3.taken (n := i) (by rw [ints_length]; omega)
    rw [show (ints set).take i = ints (set.take i) by simp [ints, List.map_take]] at htn
    obtain ⟨t1, t2⟩ := q2.take i
    have hil := ints_length set
    simp (disch := first | assumption | omega) only [↓RP, RQ, TY, loadT, reduceIte, Nat.reduceEqDiff, Nat.reduceAdd, e8, e7, e2, e1, hlt, h3, hs3.slice, m_nat]
    refine c_Of (ca.ext hE3) htn t1 (by rw [List.length_take]; omega) fun H4 hE4 => ?_
    rw [dimS_eq ok (by omega) els t1 t2]
    simp (disch := first | assumption | omega) only [↓RP, RQ, TY, loadT, reduceIte, Nat.reduceEqDiff, Nat.reduceAdd, e8, e7, e2, e1]
    refine ⟨i + 1, ?_, by dsimp only; omega⟩
    simp (disch := first | assumption | omega) only [↓RP, RQ, TY, loadT, reduceIte, Nat.reduceEqDiff, Nat.reduceAdd, e8, e7, e2, e1]
    refine ⟨?_, by omega, hE3.trans hE4⟩
    rw [Nat.add_sub_cancel]
    cases i with
    | zero =>
      have hd := dimP_empty ok (n := n) els
      rw [List.take_zero, widL]
      congr 1
      split <;> omega
    | succ i =>
      rw [Nat.add_sub_cancel, widL]
      congr 1
      split <;> omega
  · rw [show i = set.length + 1 by omega, Nat.add_sub_cancel] at e7
    simp (disch := first | assumption | omega) only [↓RP, RQ, TY, loadT, reduceIte, Nat.reduceEqDiff, Nat.reduceAdd, e8, e7, e2, e1, hlt, h3]
    have := hQ H3 hE13
    rwa [widVal, if_pos h0, h0] at this
end Go.Proofs.Yteijojnahpeglaa.AM
/-! Bits of whole numbers: what the operators do to one bit; the lowest bit (plain law). -/
namespace Go.Proofs.Yteijojnahpeglaa.AM
open Go Go.RowKit
set_option linter.unusedVariables false
set_option linter.unusedSimpArgs false
theorem tb_succ (r i : Nat) : r.testBit (i + 1) = (r / 2).testBit i := Nat.testBit_succ r i
theorem tb_zero (r : Nat) : r.testBit 0 = decide (r % 2 = 1) := Nat.testBit_zero r
theorem tb_pow_le : ∀ {i r : Nat}, r.testBit i = true → 2 ^ i ≤ r
  | 0, r, h => by rw [tb_zero] at h; simp at h; omega
  | i + 1, r, h => by
    rw [tb_succ] at h
    have := tb_pow_le h
    rw [Nat.pow_succ]; omega
theorem tb_clr : ∀ (i r j : Nat), r.testBit i = true → (r - 2 ^ i).testBit j = (r.testBit j && !decide (j = i))
  | 0, r, 0, h => by
    rw [tb_zero] at h
    simp at h
    rw [tb_zero, tb_zero]
    have : (r - 2 ^ 0) % 2 ≠ 1 := by omega
    simp [this]
  | 0, r, j + 1, h => by
    rw [tb_zero] at h
    simp at h
    rw [tb_succ, tb_succ, show (r - 2 ^ 0) / 2 = r / 2 by omega]
    simp
  | i + 1, r, 0, h => by
    have h0 := tb_pow_le h
    rw [tb_zero, tb_zero, show (r - 2 ^ (i + 1)) % 2 = r % 2 by rw [Nat.pow_succ] at h0 ⊢; omega]
    simp
  | i + 1, r, j + 1, h => by
    have h0 := tb_pow_le h
    rw [tb_succ] at h
    rw [tb_succ, tb_succ, show (r - 2 ^ (i + 1)) / 2 = r / 2 - 2 ^ i by rw [Nat.pow_succ] at h0 ⊢; omega, tb_clr i (r / 2) j h]
    simp
theorem tb_set : ∀ (i r j : Nat), r.testBit i = false → (r + 2 ^ i).testBit j = (r.testBit j || decide (j = i))
  | 0, r, 0, h => by
    rw [tb_zero] at h
    simp at h
    rw [tb_zero, tb_zero]
    have : (r + 2 ^ 0) % 2 = 1 := by omega
    simp [this]
  | 0, r, j + 1, h => by
    rw [tb_zero] at h
    simp at h
    rw [tb_succ, tb_succ, show (r + 2 ^ 0) / 2 = r / 2 by omega]
    simp
  | i + 1, r, 0, h => by
    rw [tb_zero, tb_zero, show (r + 2 ^ (i + 1)) % 2 = r % 2 by rw [Nat.pow_succ]; omega]
    simp
  | i + 1, r, j + 1, h => by
    rw [tb_succ] at h
    rw [tb_succ, tb_succ, show (r + 2 ^ (i + 1)) / 2 = r / 2 + 2 ^ i by rw [Nat.pow_succ]; omega, tb_set i (r / 2) j h]
    simp
theorem or_set {r i : Nat} (h : r.testBit i = false) : r ||| 2 ^ i = r + 2 ^ i := Nat.eq_of_testBit_eq fun j => by
  rw [tb_set i r j h, Nat.testBit_or, Nat.testBit_two_pow]
  congr 1
  exact decide_eq_decide.mpr eq_comm
/-- the lowest bit -/
def Low (r i : Nat) : Prop := r.testBit i = true ∧ ∀ j, j < i → r.testBit j = false
theorem low_ex : ∀ (r : Nat), 0 < r → ∃ i, Low r i := fun r => by
  induction r using Nat.strongRecOn with
  | ind r ih =>
    intro h
    by_cases q : r % 2 = 1
    · exact ⟨0, by rw [tb_zero]; simp [q], fun j hj => by omega⟩
    · obtain ⟨i, h1, h2⟩ := ih (r / 2) (by omega) (by omega)
      refine ⟨i + 1, by rw [tb_succ]; exact h1, fun j hj => ?_⟩
      cases j with
      | zero => rw [tb_zero]; simp [q]
      | succ j => rw [tb_succ]; exact h2 j (by omega)
theorem low_pred : ∀ (i r j : Nat), Low r i → (r - 1).testBit j = if j < i then true else if j = i then false else r.testBit j
  | 0, r, j, h => by
    have h1 := h.1
    have := tb_clr 0 r j h.1
    rw [Nat.pow_zero] at this
    rw [this]
    by_cases q : j = 0 <;> simp [q]
  | i + 1, r, j, h => by
    have h0 := tb_pow_le h.1
    have hp : 0 < 2 ^ i := Nat.pow_pos (by omega)
    have he := h.2 0 (by omega)
    rw [tb_zero] at he
    simp at he
    have hl : Low (r / 2) i := ⟨by rw [← tb_succ]; exact h.1, fun j hj => by rw [← tb_succ]; exact h.2 (j + 1) (by omega)⟩
    rw [Nat.pow_succ] at h0
    cases j with
    | zero =>
      rw [tb_zero, if_pos (by omega)]
      have : (r - 1) % 2 = 1 := by omega
      simp [this]
    | succ j =>
      rw [tb_succ, show (r - 1) / 2 = r / 2 - 1 by omega, low_pred i (r / 2) j hl, tb_succ]
      simp only [Nat.add_lt_add_iff_right, Nat.add_right_cancel_iff]
theorem and_pred {r i : Nat} (h : Low r i) : r &&& (r - 1) = r - 2 ^ i := Nat.eq_of_testBit_eq fun j => by
  rw [Nat.testBit_and, low_pred i r j h, tb_clr i r j h.1]
  by_cases q1 : j < i
  · rw [if_pos q1, h.2 j q1]; rfl
  · rw [if_neg q1]
    by_cases q2 : j = i
    · rw [if_pos q2]; simp [q2]
    · rw [if_neg q2]; simp [q2]
theorem and_neg {r i : Nat} (h : Low r i) (hr : r < 2 ^ 64) : r &&& (2 ^ 64 - r) = 2 ^ i := Nat.eq_of_testBit_eq fun j => by
  have h0 := tb_pow_le h.1
  have hp : 0 < 2 ^ i := Nat.pow_pos (by omega)
  have e := Nat.testBit_two_pow_sub_succ (x := r - 1) (n := 64) (by omega) j
  rw [show 2 ^ 64 - (r - 1 + 1) = 2 ^ 64 - r by omega] at e
  rw [Nat.testBit_and, e, low_pred i r j h, Nat.testBit_two_pow]
  by_cases q1 : j < i
  · rw [h.2 j q1]; simp; omega
  · rw [if_neg q1]
    by_cases q2 : j = i
    · subst q2
      have : j < 64 := Classical.byContradiction fun q => by
        have : 2 ^ 64 ≤ 2 ^ j := Nat.pow_le_pow_right (by omega) (by omega)
        omega
      simp [h.1, this]
    · rw [if_neg q2]
      have : ¬ i = j := fun w => q2 w.symm
      simp [this]
      intro a _
      simp [a]
theorem and_not {r i : Nat} (h : r.testBit i = true) (hr : r < 2 ^ 64) : r &&& (2 ^ 64 - 1 - 2 ^ i) = r - 2 ^ i := Nat.eq_of_testBit_eq fun j => by
  have h0 := tb_pow_le h
  have e := Nat.testBit_two_pow_sub_succ (x := 2 ^ i) (n := 64) (by omega) j
  rw [show 2 ^ 64 - (2 ^ i + 1) = 2 ^ 64 - 1 - 2 ^ i by omega] at e
  rw [Nat.testBit_and, e, tb_clr i r j h, Nat.testBit_two_pow]
  by_cases q : j < 64
  · by_cases q2 : j = i
    · simp [q2]
    · have : ¬ i = j := fun w => q2 w.symm
      simp [q, q2, this]
  · have : r.testBit j = false := Nat.testBit_lt_two_pow (Nat.lt_of_lt_of_le hr (Nat.pow_le_pow_right (by omega) (by omega)))
    simp [this]
/-- the bits below n, ascending -/
def bitL (n r : Nat) : List Nat := (List.range n).filter r.testBit
theorem bitL_zero (n : Nat) : bitL n 0 = [] := List.filter_eq_nil_iff.mpr fun a _ => by simp
theorem bitL_low {n r i : Nat} (h : Low r i) (hi : i < n) : bitL n r = i :: bitL n (r - 2 ^ i) := by
  have e : List.range n = List.range (i + 1) ++ (List.range (n - (i + 1))).map (i + 1 + ·) := by
    rw [← List.range_add, show i + 1 + (n - (i + 1)) = n by omega]
  have f1 : (List.range i).filter r.testBit = [] := List.filter_eq_nil_iff.mpr fun a ha => by simp [h.2 a (List.mem_range.mp ha)]
  have f2 : (List.range i).filter (r - 2 ^ i).testBit = [] := List.filter_eq_nil_iff.mpr fun a ha => by
    rw [tb_clr i r a h.1]; simp [h.2 a (List.mem_range.mp ha)]
  have f3 : (r - 2 ^ i).testBit i = false := by rw [tb_clr i r i h.1]; simp
  have f4 : ((List.range (n - (i + 1))).map (i + 1 + ·)).filter (r - 2 ^ i).testBit = ((List.range (n - (i + 1))).map (i + 1 + ·)).filter r.testBit := List.filter_congr fun a ha => by
    obtain ⟨j, -, rfl⟩ := List.mem_map.mp ha
    rw [tb_clr i r _ h.1]
    have : ¬ i + 1 + j = i := by omega
    simp [this]
  rw [bitL, bitL, e, List.range_succ, List.filter_append, List.filter_append, List.filter_append, List.filter_append, f1, f2, f4]
  simp [h.1, f3]
theorem tb_lt {n r i : Nat} (hr : r < 2 ^ n) (h : r.testBit i = true) : i < n := Classical.byContradiction fun q => by
  have h0 := tb_pow_le h
  have : 2 ^ n ≤ 2 ^ i := Nat.pow_le_pow_right (by omega) (by omega)
  omega
theorem mem_bitL {n r i : Nat} : i ∈ bitL n r ↔ i < n ∧ r.testBit i = true := by simp [bitL]
theorem xor_all {n r : Nat} (hr : r < 2 ^ n) : (2 ^ n - 1) ^^^ r < 2 ^ n ∧ ∀ j, j < n → ((2 ^ n - 1) ^^^ r).testBit j = !r.testBit j := by
  refine ⟨Nat.xor_lt_two_pow (by have : 0 < 2 ^ n := Nat.pow_pos (by omega); omega) hr, fun j hj => ?_⟩
  rw [Nat.testBit_xor, Nat.testBit_two_pow_sub_one]
  simp [hj]
theorem i_of {a : Nat} (h : a < 18446744073709551616) : (BitVec.ofInt IntKind.i64.bits (a : Int)).toNat = a := by
  simp only [IntKind.bits, BitVec.toNat_ofInt]
  omega
theorem i_wrap {a : Nat} (h : a < 9223372036854775808) : IntKind.i64.wrap (a : Int) = a := u_wrap ⟨by omega, by omega⟩
theorem i_and {a b : Nat} (ha : a < 9223372036854775808) (hb : b < 9223372036854775808) : IntKind.i64.wrap ((BitVec.ofInt IntKind.i64.bits (a : Int) &&& BitVec.ofInt IntKind.i64.bits (b : Int)).toNat : Int) = ((a &&& b : Nat) : Int) := by
  rw [BitVec.toNat_and, i_of (by omega), i_of (by omega)]
  exact i_wrap (Nat.lt_of_le_of_lt Nat.and_le_left ha)
theorem i_or {a b : Nat} (ha : a < 9223372036854775808) (hb : b < 9223372036854775808) : IntKind.i64.wrap ((BitVec.ofInt IntKind.i64.bits (a : Int) ||| BitVec.ofInt IntKind.i64.bits (b : Int)).toNat : Int) = ((a ||| b : Nat) : Int) := by
  rw [BitVec.toNat_or, i_of (by omega), i_of (by omega)]
  exact i_wrap (Nat.or_lt_two_pow (n := 63) (by omega) (by omega))
theorem i_xor {a b : Nat} (ha : a < 9223372036854775808) (hb : b < 9223372036854775808) : IntKind.i64.wrap ((BitVec.ofInt IntKind.i64.bits (a : Int) ^^^ BitVec.ofInt IntKind.i64.bits (b : Int)).toNat : Int) = ((a ^^^ b : Nat) : Int) := by
  rw [BitVec.toNat_xor, i_of (by omega), i_of (by omega)]
  exact i_wrap (Nat.xor_lt_two_pow (n := 63) (by omega) (by omega))
theorem i_neg {r i : Nat} (h : Low r i) (hr : r < 4611686018427387904) : IntKind.i64.wrap ((BitVec.ofInt IntKind.i64.bits (r : Int) &&& BitVec.ofInt IntKind.i64.bits (-(r : Int))).toNat : Int) = ((2 ^ i : Nat) : Int) := by
  have h0 := tb_pow_le h.1
  have hp : 0 < 2 ^ i := Nat.pow_pos (by omega)
  have e : (BitVec.ofInt IntKind.i64.bits (-(r : Int))).toNat = 2 ^ 64 - r := by
    simp only [IntKind.bits, BitVec.toNat_ofInt]
    omega
  rw [BitVec.toNat_and, i_of (by omega), e, and_neg h (by omega)]
  exact i_wrap (by omega)
theorem i_andNot {r i : Nat} (h : r.testBit i = true) (hr : r < 4611686018427387904) : IntKind.i64.wrap ((BitVec.ofInt IntKind.i64.bits (r : Int) &&& ~~~ BitVec.ofInt IntKind.i64.bits ((2 ^ i : Nat) : Int)).toNat : Int) = ((r - 2 ^ i : Nat) : Int) := by
  have h0 := tb_pow_le h
  have e : (~~~ BitVec.ofInt IntKind.i64.bits ((2 ^ i : Nat) : Int)).toNat = 2 ^ 64 - 1 - 2 ^ i := by
    rw [BitVec.toNat_not, i_of (by omega)]
    rfl
  rw [BitVec.toNat_and, i_of (by omega), e, and_not h (by omega)]
  exact i_wrap (Nat.lt_of_le_of_lt (Nat.sub_le _ _) (by omega))
theorem i_bit {k i : Nat} (hk : k < 9223372036854775808) (hi : i < 64) : IntKind.i64.wrap ((BitVec.ofInt IntKind.i64.bits ((k : Int).fdiv (2 ^ min i IntKind.i64.bits)) &&& BitVec.ofInt IntKind.i64.bits 1).toNat : Int) = if k.testBit i = true then 1 else 0 := by
  have e0 : min i IntKind.i64.bits = i := Nat.min_eq_left (by simp only [IntKind.bits]; omega)
  have e1 : (k : Int).fdiv (2 ^ i) = ((k / 2 ^ i : Nat) : Int) := by
    rw [Int.fdiv_eq_ediv_of_nonneg _ (Int.pow_nonneg (by omega))]
    simp
  have h1 : k / 2 ^ i < 9223372036854775808 := Nat.lt_of_le_of_lt (Nat.div_le_self _ _) hk
  have e2 : (BitVec.ofInt IntKind.i64.bits (1 : Int)).toNat = 1 := i_of (a := 1) (by omega)
  rw [e0, e1, BitVec.toNat_and, i_of (by omega), e2, Nat.and_one_is_mod, Nat.testBit_eq_decide_div_mod_eq]
  rw [u_wrap ⟨by omega, by omega⟩]
  simp only [decide_eq_true_eq]
  split <;> omega
theorem i_shl {x : Nat} (hx : x < 63) : IntKind.i64.wrap (1 * 2 ^ min x IntKind.i64.bits) = ((2 ^ x : Nat) : Int) := by
  have e0 : min x IntKind.i64.bits = x := Nat.min_eq_left (by simp only [IntKind.bits]; omega)
  have hp : 2 ^ x < 2 ^ 63 := Nat.pow_lt_pow_right (by omega) hx
  have e1 : (1 : Int) * 2 ^ x = ((2 ^ x : Nat) : Int) := by simp
  rw [e0, e1]
  exact i_wrap (by omega)
end Go.Proofs.Yteijojnahpeglaa.AM
/-! The table of the least widths over all sets (plain law). -/
namespace Go.Proofs.Yteijojnahpeglaa.AM
open Go Go.RowKit
set_option linter.unusedVariables false
set_option linter.unusedSimpArgs false
theorem foldl_ext' {α β : Type} {f g : α → β → α} : ∀ {l : List β} {a : α}, (∀ a x, x ∈ l → f a x = g a x) → l.foldl f a = l.foldl g a
  | [], a, h => rfl
  | x :: l, a, h => by
    rw [List.foldl_cons, List.foldl_cons, h a x (by simp)]
    exact foldl_ext' fun a y hy => h a y (by simp [hy])
/-- the table's first entries -/
def tabA (d : Nat → Int) (n : Nat) : Nat → List Int
  | 0 => [0]
  | k + 1 => tabA d n k ++ [max (d (k + 1)) ((bitL n (k + 1)).foldl (fun a i => min a ((tabA d n k).getD (k + 1 - 2 ^ i) 0)) (n : Int))]
/-- the table's entry at a set -/
def tabV (d : Nat → Int) (n k : Nat) : Int := (tabA d n k).getD k 0
/-- the least entry at the sets with one position less -/
def leastV (T : Nat → Int) (s : Nat) (l : List Nat) (a : Int) : Int := l.foldl (fun a i => min a (T (s - 2 ^ i))) a
variable {d : Nat → Int} {n : Nat}
theorem tabA_len : ∀ k, (tabA d n k).length = k + 1
  | 0 => rfl
  | k + 1 => by rw [tabA, List.length_append, tabA_len k]; rfl
theorem tabA_get {j : Nat} : ∀ {k : Nat}, j ≤ k → (tabA d n k).getD j 0 = tabV d n j
  | 0, h => by
    rw [show j = 0 by omega]; rfl
  | k + 1, h => by
    by_cases q : j = k + 1
    · subst q; rfl
    · rw [tabA, getD_appI, if_pos (by rw [tabA_len]; omega)]
      exact tabA_get (by omega)
theorem tabV_zero : tabV d n 0 = 0 := rfl
theorem tabV_succ (k : Nat) : tabV d n (k + 1) = max (d (k + 1)) (leastV (tabV d n) (k + 1) (bitL n (k + 1)) n) := by
  have e : (bitL n (k + 1)).foldl (fun a i => min a ((tabA d n k).getD (k + 1 - 2 ^ i) 0)) (n : Int) = leastV (tabV d n) (k + 1) (bitL n (k + 1)) n := by
    rw [leastV]
    refine foldl_ext' fun a i _ => ?_
    have : 0 < 2 ^ i := Nat.pow_pos (by omega)
    rw [tabA_get (by omega)]
  rw [tabV, tabA, e, getD_appI, if_neg (by rw [tabA_len]; omega), if_pos (by rw [tabA_len])]
theorem tabV_pos {s : Nat} (h : 0 < s) : tabV d n s = max (d s) (leastV (tabV d n) s (bitL n s) n) := by
  obtain ⟨k, rfl⟩ : ∃ k, s = k + 1 := ⟨s - 1, by omega⟩
  exact tabV_succ k
theorem leastV_le {T : Nat → Int} {s : Nat} : ∀ (l : List Nat) (a : Int), leastV T s l a ≤ a
  | [], a => Int.le_refl _
  | x :: l, a => Int.le_trans (leastV_le l _) (Int.min_le_left _ _)
theorem leastV_ge {T : Nat → Int} {s : Nat} {b : Int} : ∀ (l : List Nat) (a : Int), b ≤ a → (∀ i, i ∈ l → b ≤ T (s - 2 ^ i)) → b ≤ leastV T s l a
  | [], a, h, _ => h
  | x :: l, a, h, h' => leastV_ge l _ (by have := h' x (by simp); dsimp only; omega) fun i hi => h' i (by simp [hi])
theorem leastV_mem {T : Nat → Int} {s i : Nat} : ∀ (l : List Nat) (a : Int), i ∈ l → leastV T s l a ≤ T (s - 2 ^ i)
  | x :: l, a, h => by
    rcases List.mem_cons.mp h with rfl | h
    · exact Int.le_trans (leastV_le l _) (Int.min_le_right _ _)
    · exact leastV_mem l _ h
theorem tabV_nonneg : ∀ s : Nat, 0 ≤ tabV d n s := fun s => by
  induction s using Nat.strongRecOn with
  | ind s ih =>
    by_cases q : s = 0
    · rw [q, tabV_zero]; omega
    · rw [tabV_pos (by omega)]
      have := leastV_ge (T := tabV d n) (s := s) (b := 0) (bitL n s) n (by omega) fun i hi => by
        have : 0 < 2 ^ i := Nat.pow_pos (by omega)
        exact ih _ (by omega)
      omega
theorem tabV_le (hd : ∀ s, d s ≤ n) (s : Nat) : tabV d n s ≤ n := by
  by_cases q : s = 0
  · rw [q, tabV_zero]; omega
  · rw [tabV_pos (by omega)]
    have h1 := leastV_le (T := tabV d n) (s := s) (bitL n s) n
    have h2 := hd s
    omega
/-- the reference's way to the least entry -/
def bestV (T : Nat → Int) (s : Nat) (l : List Nat) (b : Int) : Int := l.foldl (fun b i => if b < 0 ∨ T (s - 2 ^ i) < b then T (s - 2 ^ i) else b) b
theorem bestV_nonneg {T : Nat → Int} {s : Nat} (hT : ∀ s, 0 ≤ T s) : ∀ (l : List Nat) (b : Int), 0 ≤ b → bestV T s l b = leastV T s l b
  | [], b, h => rfl
  | x :: l, b, h => by
    have e : (if b < 0 ∨ T (s - 2 ^ x) < b then T (s - 2 ^ x) else b) = min b (T (s - 2 ^ x)) := by
      split <;> omega
    have := hT (s - 2 ^ x)
    have ih := bestV_nonneg hT (s := s) l (min b (T (s - 2 ^ x))) (by omega)
    rw [bestV, List.foldl_cons, e]
    exact ih
theorem bestV_eq {T : Nat → Int} {s : Nat} (hT : ∀ s, 0 ≤ T s) (hn : ∀ s, T s ≤ n) {l : List Nat} (hl : l ≠ []) : bestV T s l (-1) = leastV T s l n := by
  cases l with
  | nil => exact absurd rfl hl
  | cons x l =>
    have h1 := hT (s - 2 ^ x)
    have h2 := hn (s - 2 ^ x)
    have e : min (n : Int) (T (s - 2 ^ x)) = T (s - 2 ^ x) := by omega
    rw [bestV, List.foldl_cons, if_pos (.inl (by omega)), leastV, List.foldl_cons, e]
    exact bestV_nonneg hT l _ h1
/-- the table bounds every order from below: one step -/
theorem tabV_step {s i : Nat} (hs : s < 2 ^ n) (hi : s.testBit i = false) (hin : i < n) : tabV d n (s + 2 ^ i) ≤ max (d (s + 2 ^ i)) (tabV d n s) := by
  have hp : 0 < 2 ^ i := Nat.pow_pos (by omega)
  rw [tabV_pos (by omega)]
  have h1 := leastV_mem (T := tabV d n) (s := s + 2 ^ i) (i := i) (bitL n (s + 2 ^ i)) n (mem_bitL.mpr ⟨hin, by rw [tb_set i s i hi]; simp⟩)
  rw [Nat.add_sub_cancel] at h1
  omega
end Go.Proofs.Yteijojnahpeglaa.AM
/-! The program's tables of a short code. -/
namespace Go.Proofs.Yteijojnahpeglaa.AM
open Go Go.RowKit
set_option linter.unusedVariables false
set_option linter.unusedSimpArgs false
set_option maxRecDepth 20000
/-- the dimension of the set with a number -/
noncomputable def dimN (p m : Int) (mod : List Int) (n : Int) (rows : List (List Int)) (s : Nat) : Int := dimP p m mod n rows s.testBit
/-- the dimensions as the program lays them -/
noncomputable def dimsT (p m : Int) (mod : List Int) (n : Int) (rows : List (List Int)) : List Int := tabN (2 ^ n.toNat) fun s => if s = 0 then 0 else dimN p m mod n rows s
/-- the table -/
noncomputable def tabT (p m : Int) (mod : List Int) (n : Int) (rows : List (List Int)) : List Int := tabN (2 ^ n.toNat) (tabV (dimN p m mod n rows) n.toNat)
theorem list_tabN {L : List Int} {M : Nat} {f : Nat → Int} (hl : L.length = M) (h : ∀ j, j < M → L.getD j 0 = f j) : L = tabN M f := by
  refine List.ext_getElem (by rw [hl, tabN_length]) fun i h1 h2 => ?_
  have := h i (by omega)
  rw [List.getD_eq_getElem?_getD, List.getElem?_eq_getElem h1, Option.getD_some] at this
  rw [this]
  simp [tabN]
theorem pow12 {N : Nat} (h : N ≤ 12) : 1 ≤ 2 ^ N ∧ 2 ^ N ≤ 4096 := ⟨Nat.pow_pos (by omega), by
  have : 2 ^ N ≤ 2 ^ 12 := Nat.pow_le_pow_right (by omega) h
  omega⟩
theorem rankP_le {p m : Int} {mod : List Int} (h : (fF p m mod).Ok) {n : Int} {rows : List (List Int)} (he : Els (fF p m mod) rows) (s : Nat → Bool) : rankP p m mod n rows s ≤ rows.length := by
  letI := h.fd
  rw [rankP_R h he]
  exact R_le_rows h he s
set_option maxHeartbeats 2000000 in
theorem c_tables (A : Alg) {p m n : Int} {md v : AV} {mod : List Int} {us : List AV} {rows : List (List Int)} {H : AH} {Q : AV → AH → Prop} (hm : Ints H md mod) (hlm : mod.length ≤ 9223372036854775807) (hv : Rows H v us rows) (h0 : codeErr p m mod n rows = 0) (h12 : n ≤ 12)
    (hQ : ∀ w1 w2 H', Hp H H' [(w2, ints (tabT p m mod n rows)), (w1, ints (dimsT p m mod n rows))] → Q (.tup [w1, w2]) H') : AC Try.prog 36 [codeV p m md n v] H Q := by
  have ca := A.fo.ca h0 hm hv
  have n1 := ca.n1
  have ok := ca.fa.ok
  have els := ca.els
  have kn := ca.kn
  have hpow := pow12 (N := n.toNat) (by omega)
  have hshl : IntKind.i64.wrap (1 * 2 ^ min n.toNat IntKind.i64.bits) = ((2 ^ n.toNat : Nat) : Int) := i_shl (by omega)
  have hxor := @xor_all n.toNat
  have htb := @tb_lt n.toNat
  refine at36 (by simp) ?_
  obtain ⟨M, hM⟩ : ∃ M, 2 ^ n.toNat = M := ⟨_, rfl⟩
  rw [hM] at hshl hpow hxor htb
  have hM2 : 2 ≤ M := by
    have : 2 ^ 1 ≤ 2 ^ n.toNat := Nat.pow_le_pow_right (by omega) (by omega)
    omega
  obtain ⟨a, ha⟩ : ∃ a, M = a + 1 := ⟨M - 1, by omega⟩
  have hsub : (M : Int) - 1 = (a : Int) := by omega
  have hmk : (a : Int) + 1 = (M : Int) := by omega
  simp (disch := first | assumption | omega) only [↓RP, RQ, TY, loadT, s36, reduceIte, Nat.reduceEqDiff, Nat.reduceAdd]
  refine kNew_intro fun b H1 hb hE1 hH1 => ?_
  simp (disch := first | assumption | omega) only [↓RP, RQ, TY, loadT, reduceIte, Nat.reduceEqDiff, Nat.reduceAdd, hH1, hshl, hsub, hmk, Int.toNat_natCast]
  refine kNew_intro fun b2 H2 hb2 hE2 hH2 => ?_
  rw [ints_rep] at hH2
  have hp2 := ((Hp.nil (Ext.refl H)).new hb hE1 hH1 rfl).new (n := M) hb2 hE2 hH2 (by simp [ints_length])
  simp (disch := first | assumption | omega) only [↓RP, RQ, TY, loadT, reduceIte, Nat.reduceEqDiff, Nat.reduceAdd]
  refine sw_loop (σ := Nat × List Int) (fun s e H' => e 21 = .int .i64 s.1 ∧ e 20 = .int .i64 M ∧ e 5 = .sl b2 0 M (.own 1) ∧ e 4 = .int .i64 (a : Int) ∧ e 1 = .ptr b 0 ∧ s.1 ≤ M ∧ s.2.length = M ∧ (∀ j, j < s.1 → s.2.getD j 0 = rankP p m mod n rows j.testBit) ∧ Hp H H' [(.sl b2 0 M (.own 1), ints s.2), (.sl b 0 5 (.own 1), [.int .i64 p, .int .i64 m, md, .int .i64 n, v])]) (fun s => M - s.1) (0, List.replicate M 0) ?_ ?_
  · simp (disch := first | assumption | omega) only [↓RP, RQ, TY, loadT, reduceIte, Nat.reduceEqDiff, Nat.reduceAdd]
    exact ⟨by omega, by simp, fun j hj => by omega, hp2⟩
  rintro ⟨t, L⟩ e H3 ⟨e21, e20, e5, e4, e1, ht, hL, hLs, hp3⟩
  dsimp only at *
  have h3 := (hp3.blkOf (y := (.sl b 0 5 (.own 1), [.int .i64 p, .int .i64 m, md, .int .i64 n, v])) (by simp) rfl).1
  have hE3 := hp3.ext
  by_cases hlt : (t : Int) < M
  · have hu : IntKind.u64.wrap (t : Int) = t := u_wrapU (by omega)
    simp (disch := first | assumption | omega) only [↓RP, RQ, TY, loadT, reduceIte, Nat.reduceEqDiff, Nat.reduceAdd, e21, e20, e5, e4, e1, hlt, h3, hu]
    refine c_orank A (hm.ext hE3) hlm (hv.ext hE3) h0 (by omega) fun H4 hE4 => ?_
    have hp4 := hp3.more hE4
    have hL4 := (hp4.blkOf (y := (.sl b2 0 M (.own 1), ints L)) (by simp) rfl).1
    have hil := ints_length L
    simp (disch := first | assumption | omega) only [↓RP, RQ, TY, loadT, reduceIte, Nat.reduceEqDiff, Nat.reduceAdd, e21, e20, e5, e4, e1, hL4, ints_set]
    refine ⟨(t + 1, L.set t (rankP p m mod n rows t.testBit)), ?_, by dsimp only; omega⟩
    simp (disch := first | assumption | omega) only [↓RP, RQ, TY, loadT, reduceIte, Nat.reduceEqDiff, Nat.reduceAdd, e21, e20, e5, e4, e1]
    refine ⟨by omega, by simpa using hL, fun j hj => ?_, hp4.upd (by simp [ints_length])⟩
    rw [getD_setN]
    by_cases q : j = t
    · rw [if_pos ⟨q, by omega⟩, q]
    · rw [if_neg (fun w => q w.1)]
      exact hLs j (by omega)
  rw [show t = M by omega] at hLs
  clear h3 hE3 ht
  simp (disch := first | assumption | omega) only [↓RP, RQ, TY, loadT, reduceIte, Nat.reduceEqDiff, Nat.reduceAdd, e21, e20, e5, e4, e1, hlt, hmk, Int.toNat_natCast]
  refine kNew_intro fun b4 H4 hb4 hE4 hH4 => ?_
  rw [ints_rep] at hH4
  have hp4 := hp3.new (n := M) hb4 hE4 hH4 (by simp [ints_length])
  simp (disch := first | assumption | omega) only [↓RP, RQ, TY, loadT, reduceIte, Nat.reduceEqDiff, Nat.reduceAdd, e21, e20, e5, e4, e1, hlt, hmk, Int.toNat_natCast]
  refine kNew_intro fun b5 H5 hb5 hE5 hH5 => ?_
  rw [ints_rep] at hH5
  have hp5 := hp4.new (n := M) hb5 hE5 hH5 (by simp [ints_length])
  simp (disch := first | assumption | omega) only [↓RP, RQ, TY, loadT, reduceIte, Nat.reduceEqDiff, Nat.reduceAdd, e21, e20, e5, e4, e1]
  clear hp4 hp3 hp2
  refine sw_loop (σ := Nat × List Int × List Int) (fun s e H' => e 9 = .int .i64 s.1 ∧ e 4 = .int .i64 (a : Int) ∧ e 5 = .sl b2 0 M (.own 1) ∧ e 7 = .sl b4 0 M (.own 1) ∧ e 8 = .sl b5 0 M (.own 1) ∧ e 1 = .ptr b 0 ∧ 1 ≤ s.1 ∧ s.1 ≤ M ∧ s.2.1.length = M ∧ s.2.2.length = M ∧ (∀ j, j < s.1 → s.2.1.getD j 0 = if j = 0 then 0 else dimN p m mod n rows j) ∧ (∀ j, j < s.1 → s.2.2.getD j 0 = tabV (dimN p m mod n rows) n.toNat j) ∧ Hp H H' [(.sl b5 0 M (.own 1), ints s.2.2), (.sl b4 0 M (.own 1), ints s.2.1), (.sl b2 0 M (.own 1), ints L), (.sl b 0 5 (.own 1), [.int .i64 p, .int .i64 m, md, .int .i64 n, v])]) (fun s => M - s.1) (1, List.replicate M 0, List.replicate M 0) ?_ ?_
  · simp (disch := first | assumption | omega) only [↓RP, RQ, TY, loadT, reduceIte, Nat.reduceEqDiff, Nat.reduceAdd, e21, e20, e5, e4, e1]
    refine ⟨rfl, by omega, by omega, by simp, by simp, fun j hj => ?_, fun j hj => ?_, hp5⟩
    · rw [if_pos (show j = 0 by omega)]; simp [List.getD_eq_getElem?_getD, show j < M by omega]
    · rw [show j = 0 by omega, tabV_zero]; simp [List.getD_eq_getElem?_getD, show 0 < M by omega]
  clear hp5 e21 e20 e5 e4 e1 hE4 hE5 hH4 hH5 hb4 hb5 hlt hb2 hE2 hH2
  rintro ⟨s, D, T⟩ e H6 ⟨e9, e4, e5, e7, e8, e1, hs1, hs2, hD, hT, hDs, hTs, hp6⟩
  dsimp only at *
  have h6 := (hp6.blkOf (y := (.sl b 0 5 (.own 1), [.int .i64 p, .int .i64 m, md, .int .i64 n, v])) (by simp) rfl).1
  have hL6 := (hp6.blkOf (y := (.sl b2 0 M (.own 1), ints L)) (by simp) rfl).1
  have hD6 := (hp6.blkOf (y := (.sl b4 0 M (.own 1), ints D)) (by simp) rfl).1
  have hE6 := hp6.ext
  have hv6 := hv.ext hE6
  by_cases hlt : (s : Int) ≤ a
  · obtain ⟨x1, x2⟩ := hxor (r := s) (by omega)
    have hx := i_xor (a := a) (b := s) (by omega) (by omega)
    rw [show M - 1 = a by omega] at x1 x2
    obtain ⟨x, hxx⟩ : ∃ x, a ^^^ s = x := ⟨_, rfl⟩
    rw [hxx] at hx x1 x2
    have r1 := hLs s (by omega)
    have r2 := hLs x (by omega)
    rw [rankP_congr (t := fun j => !s.testBit j) fun i hi => x2 i (by omega)] at r2
    have hdd : dimN p m mod n rows s = (rankP p m mod n rows s.testBit : Int) + rankP p m mod n rows (fun j => !s.testBit j) - rows.length := rfl
    have rb1 : rankP p m mod n rows s.testBit ≤ 64 := by have := rankP_le ok (n := n) els s.testBit; omega
    have rb2 : rankP p m mod n rows (fun j => !s.testBit j) ≤ 64 := by have := rankP_le ok (n := n) els (fun j => !s.testBit j); omega
    generalize hR1 : rankP p m mod n rows s.testBit = R1 at *
    generalize hR2 : rankP p m mod n rows (fun j => !s.testBit j) = R2 at *
    have hil := ints_length L
    have hid := ints_length D
    have hsM : s < M := by omega
    simp (disch := first | assumption | omega) only [↓RP, RQ, TY, loadT, reduceIte, Nat.reduceEqDiff, Nat.reduceAdd, e9, e4, e5, e7, e8, e1, hlt, h6, hL6, hD6, ints_get, r1, r2, hx, hv6.run, ints_set]
    rw [← hdd]
    have hdb : -64 ≤ dimN p m mod n rows s := by omega
    have hp7 : Hp H (H6.upd b4 (.rw (ints (D.set s (dimN p m mod n rows s))))) [(.sl b5 0 M (.own 1), ints T), (.sl b4 0 M (.own 1), ints (D.set s (dimN p m mod n rows s))), (.sl b2 0 M (.own 1), ints L), (.sl b 0 5 (.own 1), [.int .i64 p, .int .i64 m, md, .int .i64 n, v])] := ((hp6.perm (List.Perm.swap _ _ _)).upd (by simp [ints_length])).perm (List.Perm.swap _ _ _)
    generalize hH7 : H6.upd b4 (.rw (ints (D.set s (dimN p m mod n rows s)))) = H7 at *
    have h7 := (hp7.blkOf (y := (.sl b 0 5 (.own 1), [.int .i64 p, .int .i64 m, md, .int .i64 n, v])) (by simp) rfl).1
    have hD7 := (hp7.blkOf (y := (.sl b4 0 M (.own 1), ints (D.set s (dimN p m mod n rows s)))) (by simp) rfl).1
    have hT7 := (hp7.blkOf (y := (.sl b5 0 M (.own 1), ints T)) (by simp) rfl).1
    have hTl := ints_length T
    have hdn : ∀ z, dimN p m mod n rows z < n + 1 := fun z => dimP_lt ok n1 els _
    have hT0 : ∀ z, 0 ≤ tabV (dimN p m mod n rows) n.toNat z := tabV_nonneg
    have hTn : ∀ z, tabV (dimN p m mod n rows) n.toNat z ≤ n.toNat := tabV_le fun z => by have := hdn z; omega
    have hTs' : ∀ i, s.testBit i = true → T.getD (s - 2 ^ i) 0 = tabV (dimN p m mod n rows) n.toNat (s - 2 ^ i) := fun i hi => hTs _ (by have : 0 < 2 ^ i := Nat.pow_pos (by omega); omega)
    have hpv := tabV_pos (d := dimN p m mod n rows) (n := n.toNat) (s := s) (by omega)
    have hdns := hdn s
    generalize hd : dimN p m mod n rows = d at *
    simp (disch := first | assumption | omega) only [↓RP, RQ, TY, loadT, reduceIte, Nat.reduceEqDiff, Nat.reduceAdd, e9, e4, e5, e7, e8, e1, h7]
    refine sw_loop (σ := Nat × Int) (fun z e H' => e 11 = .int .i64 z.1 ∧ e 10 = .int .i64 z.2 ∧ e 9 = .int .i64 s ∧ e 4 = .int .i64 (a : Int) ∧ e 5 = .sl b2 0 M (.own 1) ∧ e 7 = .sl b4 0 M (.own 1) ∧ e 8 = .sl b5 0 M (.own 1) ∧ e 1 = .ptr b 0 ∧ z.1 ≤ s ∧ (∀ j, z.1.testBit j = true → s.testBit j = true) ∧ leastV (tabV d n.toNat) s (bitL n.toNat z.1) z.2 = leastV (tabV d n.toNat) s (bitL n.toNat s) n ∧ H' = H7) (fun z => z.1) (s, n) ?_ ?_
    · simp (disch := first | assumption | omega) only [↓RP, RQ, TY, loadT, reduceIte, Nat.reduceEqDiff, Nat.reduceAdd, e9, e4, e5, e7, e8, e1]
      exact ⟨by omega, fun j h => h⟩
    rintro ⟨r, lst⟩ e' H' ⟨g11, g10, g9, g4, g5, g7, g8, g1, hr, hrb, hlv, rfl⟩
    dsimp only at *
    by_cases hr0 : r = 0
    · have hri : (r : Int) = 0 := by omega
      rw [hr0, bitL_zero] at hlv
      have hlst : lst = leastV (tabV d n.toNat) s (bitL n.toNat s) n := hlv
      rw [Int.toNat_of_nonneg (by omega), ← hlst] at hpv
      have hmx : (if d s < lst then lst else d s) = tabV d n.toNat s := by rw [hpv]; split <;> omega
      have hnz : ¬ ((r : Int) ≠ 0) := fun w => w hri
      have hgd : (D.set s (d s)).getD s 0 = d s := by rw [getD_setN, if_pos ⟨rfl, by omega⟩]
      have hid2 := ints_length (D.set s (d s))
      have hDl2 : (D.set s (d s)).length = M := by simpa using hD
      simp (disch := first | assumption | omega) only [↓RP, RQ, TY, loadT, reduceIte, Nat.reduceEqDiff, Nat.reduceAdd, g11, g10, g9, g4, g5, g7, g8, g1, eq_false hnz, hT7, hD7, ints_get, hgd, ints_set, hmx]
      refine ⟨(s + 1, D.set s (d s), T.set s (tabV d n.toNat s)), ?_, by dsimp only; omega⟩
      simp (disch := first | assumption | omega) only [↓RP, RQ, TY, loadT, reduceIte, Nat.reduceEqDiff, Nat.reduceAdd, g11, g10, g9, g4, g5, g7, g8, g1]
      refine ⟨by omega, by omega, by simpa using hD, by simpa using hT, fun j hj => ?_, fun j hj => ?_, ?_⟩
      · rw [getD_setN]
        by_cases q : j = s
        · rw [if_pos ⟨q, by omega⟩, if_neg (by omega), q]
        · rw [if_neg (fun w => q w.1)]
          exact hDs j (by omega)
      · rw [getD_setN]
        by_cases q : j = s
        · rw [if_pos ⟨q, by omega⟩, q]
        · rw [if_neg (fun w => q w.1)]
          exact hTs j (by omega)
      · exact hp7.upd (by simp [ints_length])
    · have hri : ¬ (r : Int) = 0 := by omega
      obtain ⟨i, hlow⟩ := low_ex r (by omega)
      have hsi := hrb i hlow.1
      have hin : i < n.toNat := htb (by omega) hsi
      have hng : IntKind.i64.wrap (-(r : Int)) = -(r : Int) := u_wrap ⟨by omega, by omega⟩
      have hneg := i_neg hlow (by omega)
      have hnot := i_andNot hsi (by omega)
      have hgd := hTs' i hsi
      have hpi : 0 < 2 ^ i := Nat.pow_pos (by omega)
      have hle := tb_pow_le hsi
      have hle2 := tb_pow_le hlow.1
      have hand := i_and (a := r) (b := r - 1) (by omega) (by omega)
      rw [and_pred hlow] at hand
      have hr1 : (r : Int) - 1 = ((r - 1 : Nat) : Int) := by omega
      have hbl := bitL_low hlow hin
      rw [hbl] at hlv
      have b1 := hT0 (s - 2 ^ i)
      have b2' := hTn (s - 2 ^ i)
      have hlt2 : s - 2 ^ i < M := by omega
      simp (disch := first | assumption | omega) only [↓RP, RQ, TY, loadT, reduceIte, Nat.reduceEqDiff, Nat.reduceAdd, g11, g10, g9, g4, g5, g7, g8, g1, hri, hT7, hneg, hnot, ints_get, hgd, hr1, hand]
      refine ⟨(r - 2 ^ i, if tabV d n.toNat (s - 2 ^ i) < lst then tabV d n.toNat (s - 2 ^ i) else lst), ?_, by dsimp only; omega⟩
      simp (disch := first | assumption | omega) only [↓RP, RQ, TY, loadT, reduceIte, Nat.reduceEqDiff, Nat.reduceAdd, g11, g10, g9, g4, g5, g7, g8, g1]
      refine ⟨by omega, fun j hj => hrb j ?_, ?_⟩
      · rw [tb_clr i r j hlow.1] at hj
        simp only [Bool.and_eq_true] at hj
        exact hj.1
      · rw [← hlv, leastV, leastV, List.foldl_cons]
        congr 1
        split <;> omega
  · have hsM : s = M := by omega
    rw [hsM] at hDs hTs
    rw [list_tabN hD (f := fun j => if j = 0 then 0 else dimN p m mod n rows j) hDs, list_tabN hT hTs] at hp6
    simp (disch := first | assumption | omega) only [↓RP, RQ, TY, loadT, reduceIte, Nat.reduceEqDiff, Nat.reduceAdd, e9, e4, e5, e7, e8, e1, hlt]
    refine hQ _ _ H6 ?_
    rw [tabT, dimsT, hM]
    exact hp6.sub (by simp)
end Go.Proofs.Yteijojnahpeglaa.AM
/-! The reference's members, Dimensions and Table of a short code. -/
namespace Go.Proofs.Yteijojnahpeglaa.AM
open Go Go.RowKit
set_option linter.unusedVariables false
set_option linter.unusedSimpArgs false
set_option maxRecDepth 20000
theorem c_members {n : Int} {s : Nat} {H : AH} {Q : AV → AH → Prop} (hn : 0 ≤ n) (hn' : n ≤ 60) (hs : s < 4611686018427387904) (hQ : ∀ w H', Ext H H' → Own H H' w (ints (maskL n.toNat s.testBit)) → Q w H') : AC Try.prog 61 [.int .i64 n, .int .i64 s] H Q := by
  refine at61 (by simp) ?_
  simp (disch := first | assumption | omega) only [↓RP, RQ, TY, loadT, s61, reduceIte, Nat.reduceEqDiff, Nat.reduceAdd]
  refine kNew_intro fun b H1 hb hE1 hH1 => ?_
  simp (disch := first | assumption | omega) only [↓RP, RQ, TY, loadT, reduceIte, Nat.reduceEqDiff, Nat.reduceAdd]
  have hp1 := (Hp.nil (Ext.refl H)).new hb hE1 hH1 rfl
  refine sw_loop (σ := Nat × AV) (fun z e H' => e 6 = .int .i64 z.1 ∧ e 0 = .int .i64 n ∧ e 1 = .int .i64 s ∧ e 5 = z.2 ∧ z.1 ≤ n.toNat ∧ Hp H H' [(z.2, ints (maskL z.1 s.testBit))]) (fun z => n.toNat - z.1) (0, .sl b 0 0 (.own 1)) ?_ ?_
  · simp (disch := first | assumption | omega) only [↓RP, RQ, TY, loadT, reduceIte, Nat.reduceEqDiff, Nat.reduceAdd]
    exact ⟨by omega, hp1⟩
  rintro ⟨i, w⟩ e H' ⟨e6, e0, e1, e5, hi, hp⟩
  dsimp only at *
  by_cases hlt : (i : Int) < n
  · have hu : IntKind.u64.wrap (i : Int) = i := u_wrapU (by omega)
    have hbit := i_bit (k := s) (i := i) (by omega) (by omega)
    have ml := maskL_length i s.testBit
    cases hb2 : s.testBit i
    · rw [hb2, if_neg (by simp)] at hbit
      simp (disch := first | assumption | omega) only [↓RP, RQ, TY, loadT, reduceIte, Nat.reduceEqDiff, Nat.reduceAdd, e6, e0, e1, e5, hlt, hu, hbit, Int.reduceEq]
      refine ⟨(i + 1, w), ?_, by dsimp only; omega⟩
      simp (disch := first | assumption | omega) only [↓RP, RQ, TY, loadT, reduceIte, Nat.reduceEqDiff, Nat.reduceAdd, e6, e0, e1, e5]
      refine ⟨by omega, ?_⟩
      rw [maskL_no hb2]
      exact hp
    · rw [hb2, if_pos rfl] at hbit
      simp (disch := first | assumption | omega) only [↓RP, RQ, TY, loadT, reduceIte, Nat.reduceEqDiff, Nat.reduceAdd, e6, e0, e1, e5, hlt, hu, hbit, Int.reduceEq]
      refine kNew_intro fun b4 H4 hb4 hE4 hH4 => ?_
      simp (disch := first | assumption | omega) only [↓RP, RQ, TY, loadT, reduceIte, Nat.reduceEqDiff, Nat.reduceAdd, e6, e0, e1, e5]
      refine kApp_hp (us := ints [(i : Int)]) (hp.more hE4) (Sl.own hH4 rfl) ints_ones (by rw [ints_length, ints_length, List.length_singleton]; omega) (by rw [ints_length, ints_length, List.length_singleton]; omega) fun v5 H5 hp5 => ?_
      rw [ints_app, ← maskL_yes hb2] at hp5
      simp (disch := first | assumption | omega) only [↓RP, RQ, TY, loadT, reduceIte, Nat.reduceEqDiff, Nat.reduceAdd, e6, e0, e1, e5]
      refine ⟨(i + 1, v5), ?_, by dsimp only; omega⟩
      simp (disch := first | assumption | omega) only [↓RP, RQ, TY, loadT, reduceIte, Nat.reduceEqDiff, Nat.reduceAdd, e6, e0, e1, e5]
      exact ⟨by omega, hp5⟩
  · rw [show i = n.toNat by omega] at hp
    simp (disch := first | assumption | omega) only [↓RP, RQ, TY, loadT, reduceIte, Nat.reduceEqDiff, Nat.reduceAdd, e6, e0, e1, e5, hlt]
    exact hQ w H' hp.ext hp.head
/-- the dimensions as the reference lays them -/
noncomputable def dimsR (p m : Int) (mod : List Int) (n : Int) (rows : List (List Int)) : List Int := tabN (2 ^ n.toNat) (dimN p m mod n rows)
theorem c_Dims48 (A : Alg) {p m n : Int} {md v : AV} {mod : List Int} {us : List AV} {rows : List (List Int)} {H : AH} {Q : AV → AH → Prop} (hm : Ints H md mod) (hv : Rows H v us rows) (h0 : codeErr p m mod n rows = 0) (h12 : n ≤ 12)
    (hQ : ∀ w H', Ext H H' → Own H H' w (ints (dimsR p m mod n rows)) → Q w H') : AC Try.prog 44 [codeV p m md n v] H Q := by
  have ca := A.fo.ca h0 hm hv
  have n1 := ca.n1
  have ok := ca.fa.ok
  have els := ca.els
  have hpow := pow12 (N := n.toNat) (by omega)
  have hshl : IntKind.i64.wrap (1 * 2 ^ min n.toNat IntKind.i64.bits) = ((2 ^ n.toNat : Nat) : Int) := i_shl (by omega)
  have hu : IntKind.u64.wrap n = n := u_wrapU (by omega)
  refine at44 (by simp) ?_
  obtain ⟨M, hM⟩ : ∃ M, 2 ^ n.toNat = M := ⟨_, rfl⟩
  rw [hM] at hshl hpow
  simp (disch := first | assumption | omega) only [↓RP, RQ, TY, loadT, s44, reduceIte, Nat.reduceEqDiff, Nat.reduceAdd]
  refine kNew_intro fun b H1 hb hE1 hH1 => ?_
  simp (disch := first | assumption | omega) only [↓RP, RQ, TY, loadT, reduceIte, Nat.reduceEqDiff, Nat.reduceAdd, hH1, hu, hshl, Int.toNat_natCast]
  refine kNew_intro fun b2 H2 hb2 hE2 hH2 => ?_
  rw [ints_rep] at hH2
  have hp2 := ((Hp.nil (Ext.refl H)).new hb hE1 hH1 rfl).new (n := M) hb2 hE2 hH2 (by simp [ints_length])
  simp (disch := first | assumption | omega) only [↓RP, RQ, TY, loadT, reduceIte, Nat.reduceEqDiff, Nat.reduceAdd]
  refine sw_loop (σ := Nat × List Int) (fun z e H' => e 4 = .int .i64 z.1 ∧ e 3 = .sl b2 0 M (.own 1) ∧ e 1 = .ptr b 0 ∧ z.1 ≤ M ∧ z.2.length = M ∧ (∀ j, j < z.1 → z.2.getD j 0 = dimN p m mod n rows j) ∧ Hp H H' [(.sl b2 0 M (.own 1), ints z.2), (.sl b 0 5 (.own 1), [.int .i64 p, .int .i64 m, md, .int .i64 n, v])]) (fun z => M - z.1) (0, List.replicate M 0) ?_ ?_
  · simp (disch := first | assumption | omega) only [↓RP, RQ, TY, loadT, reduceIte, Nat.reduceEqDiff, Nat.reduceAdd]
    exact ⟨by omega, by simp, fun j hj => by omega, hp2⟩
  rintro ⟨t, L⟩ e H3 ⟨e4, e3, e1, ht, hL, hLs, hp3⟩
  dsimp only at *
  have h3 := (hp3.blkOf (y := (.sl b 0 5 (.own 1), [.int .i64 p, .int .i64 m, md, .int .i64 n, v])) (by simp) rfl).1
  by_cases hlt : (t : Int) < M
  · simp (disch := first | assumption | omega) only [↓RP, RQ, TY, loadT, reduceIte, Nat.reduceEqDiff, Nat.reduceAdd, e4, e3, e1, hlt, h3]
    refine c_members (by omega) (by omega) (by omega) fun w4 H4 hE4 ho4 => ?_
    have h4 := hE4.rw h3
    have hE04 := hp3.ext.trans hE4
    have hS := maskL_subset t.testBit n.toNat
    rw [show ((n.toNat : Nat) : Int) = n by omega] at hS
    have ml := maskL_length n.toNat t.testBit
    simp (disch := first | assumption | omega) only [↓RP, RQ, TY, loadT, reduceIte, Nat.reduceEqDiff, Nat.reduceAdd, e4, e3, e1, h4]
    refine c_Of (A.fo.ca h0 (hm.ext hE04) (hv.ext hE04)) ho4.sl hS.poss (by omega) fun H5 hE5 => ?_
    have hdv : dimS p m mod n rows (maskL n.toNat t.testBit) = dimN p m mod n rows t := by
      rw [dimS_eq ok (by omega) els hS.poss hS.nodup]
      exact dimP_congr fun i hi => inL_mask n.toNat _ i (by omega)
    rw [hdv]
    have hp5 := hp3.more (hE4.trans hE5)
    have hL5 := (hp5.blkOf (y := (.sl b2 0 M (.own 1), ints L)) (by simp) rfl).1
    have hil := ints_length L
    simp (disch := first | assumption | omega) only [↓RP, RQ, TY, loadT, reduceIte, Nat.reduceEqDiff, Nat.reduceAdd, e4, e3, e1, hL5, ints_set]
    refine ⟨(t + 1, L.set t (dimN p m mod n rows t)), ?_, by dsimp only; omega⟩
    simp (disch := first | assumption | omega) only [↓RP, RQ, TY, loadT, reduceIte, Nat.reduceEqDiff, Nat.reduceAdd, e4, e3, e1]
    refine ⟨by omega, by simpa using hL, fun j hj => ?_, hp5.upd (by simp [ints_length])⟩
    rw [getD_setN]
    by_cases q : j = t
    · rw [if_pos ⟨q, by omega⟩, q]
    · rw [if_neg (fun w => q w.1)]
      exact hLs j (by omega)
  · rw [show t = M by omega] at hLs
    rw [list_tabN hL hLs] at hp3
    simp (disch := first | assumption | omega) only [↓RP, RQ, TY, loadT, reduceIte, Nat.reduceEqDiff, Nat.reduceAdd, e4, e3, e1, hlt]
    refine hQ _ H3 hp3.ext ?_
    rw [dimsR, hM]
    exact hp3.head
theorem bitL_succ (n s : Nat) : bitL (n + 1) s = bitL n s ++ if s.testBit n = true then [n] else [] := by
  simp only [bitL, List.range_succ, List.filter_append, List.filter_cons, List.filter_nil]
theorem bestV_app {T : Nat → Int} {s : Nat} {l l' : List Nat} {b : Int} : bestV T s (l ++ l') b = bestV T s l' (bestV T s l b) := List.foldl_append
theorem tabN_get {M : Nat} {f : Nat → Int} {j : Nat} (h : j < M) : (tabN M f).getD j 0 = f j := by
  simp [tabN, List.getD_eq_getElem?_getD, h]
set_option maxHeartbeats 2000000 in
theorem c_Table48 (A : Alg) {p m n : Int} {md v : AV} {mod : List Int} {us : List AV} {rows : List (List Int)} {H : AH} {Q : AV → AH → Prop} (hm : Ints H md mod) (hv : Rows H v us rows) (h0 : codeErr p m mod n rows = 0) (h12 : n ≤ 12)
    (hQ : ∀ w H', Ext H H' → Own H H' w (ints (tabT p m mod n rows)) → Q w H') : AC Try.prog 28 [codeV p m md n v] H Q := by
  have ca := A.fo.ca h0 hm hv
  have n1 := ca.n1
  have ok := ca.fa.ok
  have els := ca.els
  have kn := ca.kn
  have hpow := pow12 (N := n.toNat) (by omega)
  have htb := @tb_lt n.toNat
  refine at28 (by simp) ?_
  obtain ⟨M, hM⟩ : ∃ M, 2 ^ n.toNat = M := ⟨_, rfl⟩
  rw [hM] at hpow htb
  simp (disch := first | assumption | omega) only [↓RP, RQ, TY, loadT, s28, reduceIte, Nat.reduceEqDiff, Nat.reduceAdd]
  refine kNew_intro fun b H1 hb hE1 hH1 => ?_
  simp (disch := first | assumption | omega) only [↓RP, RQ, TY, loadT, reduceIte, Nat.reduceEqDiff, Nat.reduceAdd, hH1]
  refine c_Dims48 A (hm.ext hE1) (hv.ext hE1) h0 h12 fun w2 H2 hE2 ho2 => ?_
  have hp2 := ((Hp.nil (Ext.refl H)).new hb hE1 hH1 rfl).made (H1 := H) hE2 ho2
  have hdl : (dimsR p m mod n rows).length = M := by rw [dimsR, tabN_length, hM]
  have hdg : ∀ j, j < M → (dimsR p m mod n rows).getD j 0 = dimN p m mod n rows j := fun j hj => by rw [dimsR]; exact tabN_get (by omega)
  have hdn : ∀ z, dimN p m mod n rows z < n + 1 := fun z => dimP_lt ok n1 els _
  have hdge : ∀ z, -64 ≤ dimN p m mod n rows z := fun z => by
    have := dimP_ge (p := p) (m := m) (n := n) (mod := mod) (rows := rows) z.testBit
    have e : dimN p m mod n rows z = dimP p m mod n rows z.testBit := rfl
    omega
  have hT0 : ∀ z, 0 ≤ tabV (dimN p m mod n rows) n.toNat z := tabV_nonneg
  have hTn : ∀ z, tabV (dimN p m mod n rows) n.toNat z ≤ n.toNat := tabV_le fun z => by have := hdn z; omega
  simp (disch := first | assumption | omega) only [↓RP, RQ, TY, loadT, reduceIte, Nat.reduceEqDiff, Nat.reduceAdd, ho2.sl.ints, hdl, Int.toNat_natCast]
  refine kNew_intro fun b4 H4 hb4 hE4 hH4 => ?_
  rw [ints_rep] at hH4
  have hp4 := hp2.new (n := M) hb4 hE4 hH4 (by simp [ints_length])
  simp (disch := first | assumption | omega) only [↓RP, RQ, TY, loadT, reduceIte, Nat.reduceEqDiff, Nat.reduceAdd]
  refine sw_loop (σ := Nat × List Int) (fun z e H' => e 5 = .int .i64 z.1 ∧ e 4 = .sl b4 0 M (.own 1) ∧ e 3 = w2 ∧ e 1 = .ptr b 0 ∧ 1 ≤ z.1 ∧ z.1 ≤ M ∧ z.2.length = M ∧ (∀ j, j < z.1 → z.2.getD j 0 = tabV (dimN p m mod n rows) n.toNat j) ∧ Hp H H' [(.sl b4 0 M (.own 1), ints z.2), (w2, ints (dimsR p m mod n rows)), (.sl b 0 5 (.own 1), [.int .i64 p, .int .i64 m, md, .int .i64 n, v])]) (fun z => M - z.1) (1, List.replicate M 0) ?_ ?_
  · simp (disch := first | assumption | omega) only [↓RP, RQ, TY, loadT, reduceIte, Nat.reduceEqDiff, Nat.reduceAdd]
    refine ⟨rfl, by omega, by omega, by simp, fun j hj => ?_, hp4⟩
    rw [show j = 0 by omega, tabV_zero]; simp [List.getD_eq_getElem?_getD, show 0 < M by omega]
  rintro ⟨s, T⟩ e H5 ⟨e5, e4, e3, e1, hs1, hs2, hT, hTs, hp5⟩
  dsimp only at *
  have h5 := (hp5.blkOf (y := (.sl b 0 5 (.own 1), [.int .i64 p, .int .i64 m, md, .int .i64 n, v])) (by simp) rfl).1
  have hT5 := (hp5.blkOf (y := (.sl b4 0 M (.own 1), ints T)) (by simp) rfl).1
  have hD5 := (hp5.sl (y := (w2, ints (dimsR p m mod n rows))) (by simp))
  have hTl := ints_length T
  by_cases hlt : (s : Int) < M
  · have hTs' : ∀ i, s.testBit i = true → T.getD (s - 2 ^ i) 0 = tabV (dimN p m mod n rows) n.toNat (s - 2 ^ i) := fun i hi => hTs _ (by have : 0 < 2 ^ i := Nat.pow_pos (by omega); omega)
    have hpv := tabV_pos (d := dimN p m mod n rows) (n := n.toNat) (s := s) (by omega)
    have hdns := hdn s
    have hdges := hdge s
    have hdgs := hdg s (by omega)
    have hne : bitL n.toNat s ≠ [] := fun q => by
      obtain ⟨i, hi⟩ := low_ex s (by omega)
      have := mem_bitL.mpr ⟨htb (by omega) hi.1, hi.1⟩
      rw [q] at this
      cases this
    rw [← bestV_eq hT0 hTn hne] at hpv
    generalize hd : tabV (dimN p m mod n rows) n.toNat = TV at *
    generalize hdd : dimN p m mod n rows s = ds at *
    simp (disch := first | assumption | omega) only [↓RP, RQ, TY, loadT, reduceIte, Nat.reduceEqDiff, Nat.reduceAdd, e5, e4, e3, e1, hlt, hD5.ints, hdl]
    refine sw_loop (σ := Nat × Int) (fun z e H' => e 7 = .int .i64 z.1 ∧ e 6 = .int .i64 z.2 ∧ e 5 = .int .i64 s ∧ e 4 = .sl b4 0 M (.own 1) ∧ e 3 = w2 ∧ e 1 = .ptr b 0 ∧ z.1 ≤ n.toNat ∧ z.2 = bestV TV s (bitL z.1 s) (-1) ∧ H' = H5) (fun z => n.toNat - z.1) (0, -1) ?_ ?_
    · simp (disch := first | assumption | omega) only [↓RP, RQ, TY, loadT, reduceIte, Nat.reduceEqDiff, Nat.reduceAdd, e5, e4, e3, e1]
      exact ⟨by omega, rfl⟩
    rintro ⟨i, bst⟩ e' H' ⟨g7, g6, g5, g4, g3, g1, hi, hbst, rfl⟩
    dsimp only at *
    by_cases hin : (i : Int) < n
    · have hu : IntKind.u64.wrap (i : Int) = i := u_wrapU (by omega)
      have hbit := i_bit (k := s) (i := i) (by omega) (by omega)
      have hbs := bitL_succ i s
      cases hb2 : s.testBit i
      · rw [hb2, if_neg (by simp)] at hbit hbs
        rw [List.append_nil] at hbs
        simp (disch := first | assumption | omega) only [↓RP, RQ, TY, loadT, reduceIte, Nat.reduceEqDiff, Nat.reduceAdd, g7, g6, g5, g4, g3, g1, hin, h5, hu, hbit, Int.reduceEq]
        refine ⟨(i + 1, bst), ?_, by dsimp only; omega⟩
        simp (disch := first | assumption | omega) only [↓RP, RQ, TY, loadT, reduceIte, Nat.reduceEqDiff, Nat.reduceAdd, g7, g6, g5, g4, g3, g1]
        exact ⟨by omega, by rw [hbs]; exact hbst⟩
      · rw [hb2, if_pos rfl] at hbit hbs
        have hle := tb_pow_le hb2
        have hpi : 0 < 2 ^ i := Nat.pow_pos (by omega)
        have hshl : IntKind.i64.wrap (1 * 2 ^ min i IntKind.i64.bits) = ((2 ^ i : Nat) : Int) := i_shl (by omega)
        have hsb : (s : Int) - ((2 ^ i : Nat) : Int) = ((s - 2 ^ i : Nat) : Int) := by omega
        have hgd := hTs' i hb2
        have hlt2 : s - 2 ^ i < M := by omega
        have q0 := hT0 (s - 2 ^ i)
        have hnx : bestV TV s (bitL (i + 1) s) (-1) = if bst < 0 ∨ TV (s - 2 ^ i) < bst then TV (s - 2 ^ i) else bst := by
          rw [hbs, bestV_app, ← hbst]; rfl
        by_cases c1 : bst < 0
        · rw [if_pos (.inl c1)] at hnx
          simp (disch := first | assumption | omega) only [↓RP, RQ, TY, loadT, reduceIte, Nat.reduceEqDiff, Nat.reduceAdd, g7, g6, g5, g4, g3, g1, hin, h5, hu, hbit, c1, hshl, hsb, hT5, ints_get, hgd, Int.reduceEq]
          refine ⟨(i + 1, TV (s - 2 ^ i)), ?_, by dsimp only; omega⟩
          simp (disch := first | assumption | omega) only [↓RP, RQ, TY, loadT, reduceIte, Nat.reduceEqDiff, Nat.reduceAdd, g7, g6, g5, g4, g3, g1]
          exact ⟨by omega, hnx.symm⟩
        by_cases c2 : TV (s - 2 ^ i) < bst
        · rw [if_pos (.inr c2)] at hnx
          simp (disch := first | assumption | omega) only [↓RP, RQ, TY, loadT, reduceIte, Nat.reduceEqDiff, Nat.reduceAdd, g7, g6, g5, g4, g3, g1, hin, h5, hu, hbit, c1, c2, hshl, hsb, hT5, ints_get, hgd, Int.reduceEq]
          refine ⟨(i + 1, TV (s - 2 ^ i)), ?_, by dsimp only; omega⟩
          simp (disch := first | assumption | omega) only [↓RP, RQ, TY, loadT, reduceIte, Nat.reduceEqDiff, Nat.reduceAdd, g7, g6, g5, g4, g3, g1]
          exact ⟨by omega, hnx.symm⟩
        · rw [if_neg (fun q => q.elim c1 c2)] at hnx
          simp (disch := first | assumption | omega) only [↓RP, RQ, TY, loadT, reduceIte, Nat.reduceEqDiff, Nat.reduceAdd, g7, g6, g5, g4, g3, g1, hin, h5, hu, hbit, c1, c2, hshl, hsb, hT5, ints_get, hgd, Int.reduceEq]
          refine ⟨(i + 1, bst), ?_, by dsimp only; omega⟩
          simp (disch := first | assumption | omega) only [↓RP, RQ, TY, loadT, reduceIte, Nat.reduceEqDiff, Nat.reduceAdd, g7, g6, g5, g4, g3, g1]
          exact ⟨by omega, hnx.symm⟩
    · rw [show i = n.toNat by omega] at hbst
      rw [← hbst] at hpv
      have hmx : (if ds < bst then bst else ds) = TV s := by rw [hpv]; split <;> omega
      have hsM : s < M := by omega
      simp (disch := first | assumption | omega) only [↓RP, RQ, TY, loadT, reduceIte, Nat.reduceEqDiff, Nat.reduceAdd, g7, g6, g5, g4, g3, g1, hin, h5, hD5.ints, hdl, hdgs, hmx, hT5, ints_set]
      refine ⟨(s + 1, T.set s (TV s)), ?_, by dsimp only; omega⟩
      simp (disch := first | assumption | omega) only [↓RP, RQ, TY, loadT, reduceIte, Nat.reduceEqDiff, Nat.reduceAdd, g7, g6, g5, g4, g3, g1]
      refine ⟨by omega, by omega, by simpa using hT, fun j hj => ?_, hp5.upd (by simp [ints_length])⟩
      rw [getD_setN]
      by_cases q : j = s
      · rw [if_pos ⟨q, by omega⟩, q]
      · rw [if_neg (fun w => q w.1)]
        exact hTs j (by omega)
  · rw [show s = M by omega] at hTs
    rw [list_tabN hT hTs] at hp5
    simp (disch := first | assumption | omega) only [↓RP, RQ, TY, loadT, reduceIte, Nat.reduceEqDiff, Nat.reduceAdd, e5, e4, e3, e1, hlt, hD5.ints, hdl]
    refine hQ _ H5 hp5.ext ?_
    rw [tabT, hM]
    exact hp5.head
end Go.Proofs.Yteijojnahpeglaa.AM
/-! Check of an order with its table: the program's and the reference's. -/
namespace Go.Proofs.Yteijojnahpeglaa.AM
open Go Go.RowKit
set_option linter.unusedVariables false
set_option linter.unusedSimpArgs false
set_option maxRecDepth 20000
open Classical in
/-- the answer of Check -/
noncomputable def chkErr (p m : Int) (mod : List Int) (n : Int) (rows : List (List Int)) (order table : List Int) : Int :=
  if codeErr p m mod n rows ≠ 0 then codeErr p m mod n rows else if 12 < n then 8 else if ¬ IsOrd n order then 5 else
  if table = tabT p m mod n rows ∧ tabV (dimN p m mod n rows) n.toNat (2 ^ n.toNat - 1) = widL p m mod n rows order order.length then 0 else 13
theorem c_OCheck (A : Alg) {p m n : Int} {md v sv tv : AV} {mod set tab : List Int} {us : List AV} {rows : List (List Int)} {H : AH} {Q : AV → AH → Prop} (hm : Ints H md mod) (hlm : mod.length ≤ 9223372036854775807) (hv : Rows H v us rows) (hs : Ints H sv set) (ht : Ints H tv tab) (hl : rows.length ≤ 9223372036854775807) (hlr : ∀ i, i < rows.length → (rowAt rows i).length ≤ 9223372036854775807) (hls : set.length ≤ 9223372036854775807) (hlt : tab.length ≤ 9223372036854775807)
    (hQ : ∀ H', Ext H H' → Q (.int .i64 (chkErr p m mod n rows set tab)) H') : AC Try.prog 21 [codeV p m md n v, sv, tv] H Q := by
  refine at21 (by simp) ?_
  simp (disch := first | assumption | omega) only [↓RP, RQ, TY, loadT, s21, reduceIte, Nat.reduceEqDiff, Nat.reduceAdd]
  refine kNew_intro fun b H1 hb hE1 hH1 => ?_
  simp (disch := first | assumption | omega) only [↓RP, RQ, TY, loadT, reduceIte, Nat.reduceEqDiff, Nat.reduceAdd, hH1]
  refine c_cCheck A (hm.ext hE1) hlm (hv.ext hE1) hl hlr fun H2 hE2 => ?_
  have hE12 := hE1.trans hE2
  have h2 := hE2.rw hH1
  by_cases h0 : codeErr p m mod n rows = 0
  rotate_left
  · simp (disch := first | assumption | omega) only [↓RP, RQ, TY, loadT, reduceIte, Nat.reduceEqDiff, Nat.reduceAdd, eq_false h0]
    have := hQ H2 hE12
    rwa [chkErr, if_pos h0] at this
  have ca := A.fo.ca h0 (hm.ext hE12) (hv.ext hE12)
  have n1 := ca.n1
  by_cases h12 : 12 < n
  · simp (disch := first | assumption | omega) only [↓RP, RQ, TY, loadT, reduceIte, Nat.reduceEqDiff, Nat.reduceAdd, eq_true h0, h2, h12]
    have := hQ H2 hE12
    rwa [chkErr, if_neg (by simpa using h0), if_pos h12] at this
  simp (disch := first | assumption | omega) only [↓RP, RQ, TY, loadT, reduceIte, Nat.reduceEqDiff, Nat.reduceAdd, eq_true h0, h2, h12]
  refine c_ordered A (hm.ext hE12) hlm (hv.ext hE12) (hs.ext hE12) hl hlr hls fun H3 hE3 => ?_
  have hE13 := hE12.trans hE3
  have h3 := hE3.rw h2
  by_cases h1 : IsOrd n set
  rotate_left
  · have e1 : ordErr p m mod n rows set = 5 := by rw [ordErr, if_neg (by simpa using h0), if_neg h1]
    simp (disch := first | assumption | omega) only [↓RP, RQ, TY, loadT, reduceIte, Nat.reduceEqDiff, Nat.reduceAdd, e1, h3, Int.reduceEq]
    have := hQ H3 hE13
    rwa [chkErr, if_neg (by simpa using h0), if_neg h12, if_pos h1] at this
  have e1 : ordErr p m mod n rows set = 0 := ordErr_iff.mpr ⟨h0, h1⟩
  have ht3 := ht.ext hE13
  have hpow := pow12 (N := n.toNat) (by omega)
  have hshl : IntKind.i64.wrap (1 * 2 ^ min n.toNat IntKind.i64.bits) = ((2 ^ n.toNat : Nat) : Int) := i_shl (by omega)
  have htl : (tabT p m mod n rows).length = 2 ^ n.toNat := by rw [tabT, tabN_length]
  have htg : (tabT p m mod n rows).getD (2 ^ n.toNat - 1) 0 = tabV (dimN p m mod n rows) n.toNat (2 ^ n.toNat - 1) := by rw [tabT]; exact tabN_get (by omega)
  obtain ⟨M, hM⟩ : ∃ M, 2 ^ n.toNat = M := ⟨_, rfl⟩
  have no : ∀ H4, Ext H H4 → ¬ (tab = tabT p m mod n rows ∧ tabV (dimN p m mod n rows) n.toNat (2 ^ n.toNat - 1) = widL p m mod n rows set set.length) → Q (.int .i64 13) H4 := fun H4 hE4 q => by
    have := hQ H4 hE4
    rwa [chkErr, if_neg (by simpa using h0), if_neg h12, if_neg (by simpa using h1), if_neg q] at this
  rw [hM] at hshl hpow htl htg no
  by_cases hlen : (tab.length : Int) = M
  rotate_left
  · simp (disch := first | assumption | omega) only [↓RP, RQ, TY, loadT, reduceIte, Nat.reduceEqDiff, Nat.reduceAdd, e1, h3, ht3.ints, hshl, hlen]
    exact no _ hE13 fun q => hlen (by rw [q.1, htl])
  simp (disch := first | assumption | omega) only [↓RP, RQ, TY, loadT, reduceIte, Nat.reduceEqDiff, Nat.reduceAdd, e1, h3, ht3.ints, hshl, hlen]
  refine c_tables A (hm.ext hE13) hlm (hv.ext hE13) h0 (by omega) fun w1 w2 H4 hp4 => ?_
  have hE14 := hE13.trans hp4.ext
  have h4 := hp4.ext.rw h3
  have ht4 := ht.ext hE14
  simp (disch := first | assumption | omega) only [↓RP, RQ, TY, loadT, reduceIte, Nat.reduceEqDiff, Nat.reduceAdd]
  refine c_Equal ht4 hp4.head.sl (by omega) (by omega) ?_
  by_cases heq : tab = tabT p m mod n rows
  rotate_left
  · simp (disch := first | assumption | omega) only [↓RP, RQ, TY, loadT, reduceIte, Nat.reduceEqDiff, Nat.reduceAdd, eq_false heq]
    exact no _ hE14 fun q => heq q.1
  rw [← heq] at htg
  have hm1 : ((M : Int) - 1).toNat = M - 1 := by omega
  simp (disch := first | assumption | omega) only [↓RP, RQ, TY, loadT, reduceIte, Nat.reduceEqDiff, Nat.reduceAdd, eq_true heq, ht4.ints, hlen, hm1, htg, h4]
  refine c_owidth A (hm.ext hE14) hlm (hv.ext hE14) (hs.ext hE14) h0 h1 fun H5 hE5 => ?_
  have hE15 := hE14.trans hE5
  by_cases hw : tabV (dimN p m mod n rows) n.toNat (M - 1) = widL p m mod n rows set set.length
  · have hwn : ¬ (tabV (dimN p m mod n rows) n.toNat (M - 1) ≠ widL p m mod n rows set set.length) := fun q => q hw
    simp (disch := first | assumption | omega) only [↓RP, RQ, TY, loadT, reduceIte, Nat.reduceEqDiff, Nat.reduceAdd, (ht.ext hE15).ints, hlen, hm1, htg, hE5.rw h4, eq_false hwn]
    have := hQ H5 hE15
    rwa [chkErr, if_neg (by simpa using h0), if_neg h12, if_neg (by simpa using h1), if_pos ⟨heq, by rw [hM]; exact hw⟩] at this
  · have hwn : tabV (dimN p m mod n rows) n.toNat (M - 1) ≠ widL p m mod n rows set set.length := hw
    simp (disch := first | assumption | omega) only [↓RP, RQ, TY, loadT, reduceIte, Nat.reduceEqDiff, Nat.reduceAdd, (ht.ext hE15).ints, hlen, hm1, htg, hE5.rw h4, eq_true hwn]
    exact no _ hE15 fun q => hw q.2
theorem c_Check48 (A : Alg) {p m n : Int} {md v sv tv : AV} {mod set tab : List Int} {us : List AV} {rows : List (List Int)} {H : AH} {Q : AV → AH → Prop} (hm : Ints H md mod) (hv : Rows H v us rows) (hs : Ints H sv set) (ht : Ints H tv tab) (hl : rows.length ≤ 9223372036854775807) (hlr : ∀ i, i < rows.length → (rowAt rows i).length ≤ 9223372036854775807) (hls : set.length ≤ 9223372036854775807) (hlt : tab.length ≤ 9223372036854775807)
    (hQ : ∀ H', Ext H H' → Q (.int .i64 (chkErr p m mod n rows set tab)) H') : AC Try.prog 22 [codeV p m md n v, sv, tv] H Q := by
  refine at22 (by simp) ?_
  simp (disch := first | assumption | omega) only [↓RP, RQ, TY, loadT, s22, reduceIte, Nat.reduceEqDiff, Nat.reduceAdd]
  refine kNew_intro fun b H1 hb hE1 hH1 => ?_
  simp (disch := first | assumption | omega) only [↓RP, RQ, TY, loadT, reduceIte, Nat.reduceEqDiff, Nat.reduceAdd, hH1]
  refine c_Check12 A.fo (hm.ext hE1) (hv.ext hE1) hl hlr fun H2 hE2 => ?_
  have hE12 := hE1.trans hE2
  have h2 := hE2.rw hH1
  by_cases h0 : codeErr p m mod n rows = 0
  rotate_left
  · simp (disch := first | assumption | omega) only [↓RP, RQ, TY, loadT, reduceIte, Nat.reduceEqDiff, Nat.reduceAdd, eq_false h0]
    have := hQ H2 hE12
    rwa [chkErr, if_pos h0] at this
  have ca := A.fo.ca h0 (hm.ext hE12) (hv.ext hE12)
  have n1 := ca.n1
  by_cases h12 : 12 < n
  · simp (disch := first | assumption | omega) only [↓RP, RQ, TY, loadT, reduceIte, Nat.reduceEqDiff, Nat.reduceAdd, eq_true h0, h2, h12]
    have := hQ H2 hE12
    rwa [chkErr, if_neg (by simpa using h0), if_pos h12] at this
  simp (disch := first | assumption | omega) only [↓RP, RQ, TY, loadT, reduceIte, Nat.reduceEqDiff, Nat.reduceAdd, eq_true h0, h2, h12]
  refine c_IsOrder (by omega) (by omega) (hs.ext hE12) hls fun H3 hE3 w hw => ?_
  have hE13 := hE12.trans hE3
  have h3 := hE3.rw h2
  cases w
  · have h1 : ¬ IsOrd n set := fun q => by have := hw.mpr q; cases this
    simp (disch := first | assumption | omega) only [↓RP, RQ, TY, loadT, reduceIte, Nat.reduceEqDiff, Nat.reduceAdd, h3]
    have := hQ H3 hE13
    rwa [chkErr, if_neg (by simpa using h0), if_neg h12, if_pos h1] at this
  have h1 : IsOrd n set := hw.mp rfl
  have e1 : ordErr p m mod n rows set = 0 := ordErr_iff.mpr ⟨h0, h1⟩
  have e2 : widVal p m mod n rows set = widL p m mod n rows set set.length := by rw [widVal, if_pos e1]
  simp (disch := first | assumption | omega) only [↓RP, RQ, TY, loadT, reduceIte, Nat.reduceEqDiff, Nat.reduceAdd, h3]
  refine c_Width48 A (hm.ext hE13) (hv.ext hE13) (hs.ext hE13) hl hlr hls fun H4 hE4 => ?_
  rw [e1, e2]
  have hE14 := hE13.trans hE4
  have h4 := hE4.rw h3
  have hpow := pow12 (N := n.toNat) (by omega)
  have htl : (tabT p m mod n rows).length = 2 ^ n.toNat := by rw [tabT, tabN_length]
  have htg : (tabT p m mod n rows).getD (2 ^ n.toNat - 1) 0 = tabV (dimN p m mod n rows) n.toNat (2 ^ n.toNat - 1) := by rw [tabT]; exact tabN_get (by omega)
  obtain ⟨M, hM⟩ : ∃ M, 2 ^ n.toNat = M := ⟨_, rfl⟩
  have no : ∀ H4, Ext H H4 → ¬ (tab = tabT p m mod n rows ∧ tabV (dimN p m mod n rows) n.toNat (2 ^ n.toNat - 1) = widL p m mod n rows set set.length) → Q (.int .i64 13) H4 := fun H4 hE4 q => by
    have := hQ H4 hE4
    rwa [chkErr, if_neg (by simpa using h0), if_neg h12, if_neg (by simpa using h1), if_neg q] at this
  rw [hM] at hpow htl htg no
  simp (disch := first | assumption | omega) only [↓RP, RQ, TY, loadT, reduceIte, Nat.reduceEqDiff, Nat.reduceAdd, h4]
  refine c_Table48 A (hm.ext hE14) (hv.ext hE14) h0 (by omega) fun w5 H5 hE5 ho5 => ?_
  have hE15 := hE14.trans hE5
  have ht5 := ht.ext hE15
  simp (disch := first | assumption | omega) only [↓RP, RQ, TY, loadT, reduceIte, Nat.reduceEqDiff, Nat.reduceAdd]
  refine c_Same ht5 ho5.sl hlt (by omega) ?_
  by_cases heq : tab = tabT p m mod n rows
  rotate_left
  · simp (disch := first | assumption | omega) only [↓RP, RQ, TY, loadT, reduceIte, Nat.reduceEqDiff, Nat.reduceAdd, eq_false heq]
    exact no _ hE15 fun q => heq q.1
  rw [← heq] at htg htl
  have hm1 : ((M : Int) - 1).toNat = M - 1 := by omega
  by_cases hw : tabV (dimN p m mod n rows) n.toNat (M - 1) = widL p m mod n rows set set.length
  · have hwn : ¬ (tabV (dimN p m mod n rows) n.toNat (M - 1) ≠ widL p m mod n rows set set.length) := fun q => q hw
    simp (disch := first | assumption | omega) only [↓RP, RQ, TY, loadT, reduceIte, Nat.reduceEqDiff, Nat.reduceAdd, eq_true heq, ht5.ints, htl, hm1, htg, eq_false hwn]
    have := hQ H5 hE15
    rwa [chkErr, if_neg (by simpa using h0), if_neg h12, if_neg (by simpa using h1), if_pos ⟨heq, by rw [hM]; exact hw⟩] at this
  · have hwn : tabV (dimN p m mod n rows) n.toNat (M - 1) ≠ widL p m mod n rows set set.length := hw
    simp (disch := first | assumption | omega) only [↓RP, RQ, TY, loadT, reduceIte, Nat.reduceEqDiff, Nat.reduceAdd, eq_true heq, ht5.ints, htl, hm1, htg, eq_true hwn]
    exact no _ hE15 fun q => hw q.2
open Classical in
/-- the codes whose tables the statements build -/
noncomputable def shortB (p m : Int) (mod : List Int) (n : Int) (rows : List (List Int)) : Bool := decide (codeErr p m mod n rows ≠ 0 ∨ n ≤ 8 ∨ 12 < n)
theorem c_short (A : Alg) {p m n : Int} {md v : AV} {mod : List Int} {us : List AV} {rows : List (List Int)} {H : AH} {Q : AV → AH → Prop} (hm : Ints H md mod) (hv : Rows H v us rows) (hl : rows.length ≤ 9223372036854775807) (hlr : ∀ i, i < rows.length → (rowAt rows i).length ≤ 9223372036854775807)
    (hQ : ∀ H', Ext H H' → Q (.bool (shortB p m mod n rows)) H') : AC Try.prog 20 [codeV p m md n v] H Q := by
  refine at20 (by simp) ?_
  simp (disch := first | assumption | omega) only [↓RP, RQ, TY, loadT, s20, reduceIte, Nat.reduceEqDiff, Nat.reduceAdd]
  refine kNew_intro fun b H1 hb hE1 hH1 => ?_
  simp (disch := first | assumption | omega) only [↓RP, RQ, TY, loadT, reduceIte, Nat.reduceEqDiff, Nat.reduceAdd, hH1]
  refine c_Check12 A.fo (hm.ext hE1) (hv.ext hE1) hl hlr fun H2 hE2 => ?_
  have h2 := hE2.rw hH1
  have := hQ H2 (hE1.trans hE2)
  by_cases h0 : codeErr p m mod n rows = 0
  rotate_left
  · have e : shortB p m mod n rows = true := by rw [shortB]; exact decide_eq_true (.inl h0)
    rw [e] at this
    simp (disch := first | assumption | omega) only [↓RP, RQ, TY, loadT, reduceIte, Nat.reduceEqDiff, Nat.reduceAdd, eq_false h0, h2]
    exact this
  by_cases c1 : n ≤ 8
  · have e : shortB p m mod n rows = true := by rw [shortB]; exact decide_eq_true (.inr (.inl c1))
    rw [e] at this
    simp (disch := first | assumption | omega) only [↓RP, RQ, TY, loadT, reduceIte, Nat.reduceEqDiff, Nat.reduceAdd, eq_true h0, h2, c1]
    exact this
  by_cases c2 : 12 < n
  · have e : shortB p m mod n rows = true := by rw [shortB]; exact decide_eq_true (.inr (.inr c2))
    rw [e] at this
    simp (disch := first | assumption | omega) only [↓RP, RQ, TY, loadT, reduceIte, Nat.reduceEqDiff, Nat.reduceAdd, eq_true h0, h2, c1, c2]
    exact this
  · have e : shortB p m mod n rows = false := by
      rw [shortB]
      refine decide_eq_false fun q => ?_
      rcases q with q | q | q
      · exact q h0
      · exact c1 q
      · exact c2 q
    rw [e] at this
    simp (disch := first | assumption | omega) only [↓RP, RQ, TY, loadT, reduceIte, Nat.reduceEqDiff, Nat.reduceAdd, eq_true h0, h2, c1, c2]
    exact this
end Go.Proofs.Yteijojnahpeglaa.AM
/-! The laws OrderingAccepts and OrderingSound. -/
namespace Go.Proofs.Yteijojnahpeglaa.AM
open Go Go.RowKit
set_option linter.unusedVariables false
set_option linter.unusedSimpArgs false
set_option maxRecDepth 20000
/-- a claim of the laws -/
abbrev claimV (p m : Int) (md : AV) (n : Int) (v o t u : AV) : AV := .agg [.int .i64 p, .int .i64 m, md, .int .i64 n, v, o, t, u]
theorem law_Accepts (A : Alg) {p m n : Int} {md v ov tv uv : AV} {mod ord tab oth : List Int} {us : List AV} {rows : List (List Int)} {H : AH} (hm : Ints H md mod) (hlm : mod.length ≤ 9223372036854775807) (hv : Rows H v us rows) (hl : rows.length ≤ 9223372036854775807) (hlr : ∀ i, i < rows.length → (rowAt rows i).length ≤ 9223372036854775807)
    (ho : Ints H ov ord) (hlo : ord.length ≤ 9223372036854775807) (ht : Ints H tv tab) (hlt : tab.length ≤ 9223372036854775807) (hu : Ints H uv oth) (hlu : oth.length ≤ 9223372036854775807) :
    AC Try.prog 7 [claimV p m md n v ov tv uv] H fun r H' => r = .bool true ∧ Ext H H' := by
  refine at7 (by simp) ?_
  simp (disch := first | assumption | omega) only [↓RP, RQ, TY, loadT, s7, reduceIte, Nat.reduceEqDiff, Nat.reduceAdd]
  refine kNew_intro fun b H1 hb hE1 hH1 => ?_
  simp (disch := first | assumption | omega) only [↓RP, RQ, TY, loadT, reduceIte, Nat.reduceEqDiff, Nat.reduceAdd, hH1]
  refine c_short A (hm.ext hE1) (hv.ext hE1) hl hlr fun H2 hE2 => ?_
  have hE12 := hE1.trans hE2
  have h2 := hE2.rw hH1
  cases hsh : shortB p m mod n rows
  · simp (disch := first | assumption | omega) only [↓RP, RQ, TY, loadT, reduceIte, Nat.reduceEqDiff, Nat.reduceAdd, h2]
    refine c_alive A fun H3 hE3 => ?_
    simp (disch := first | assumption | omega) only [↓RP, RQ, TY, loadT, reduceIte, Nat.reduceEqDiff, Nat.reduceAdd]
    exact ⟨rfl, hE12.trans hE3⟩
  simp (disch := first | assumption | omega) only [↓RP, RQ, TY, loadT, reduceIte, Nat.reduceEqDiff, Nat.reduceAdd, h2]
  refine c_OCheck A (hm.ext hE12) hlm (hv.ext hE12) (ho.ext hE12) (ht.ext hE12) hl hlr hlo hlt fun H3 hE3 => ?_
  have hE13 := hE12.trans hE3
  have h3 := hE3.rw h2
  simp (disch := first | assumption | omega) only [↓RP, RQ, TY, loadT, reduceIte, Nat.reduceEqDiff, Nat.reduceAdd, h3]
  refine c_Check48 A (hm.ext hE13) (hv.ext hE13) (ho.ext hE13) (ht.ext hE13) hl hlr hlo hlt fun H4 hE4 => ?_
  have hE14 := hE13.trans hE4
  have h4 := hE4.rw h3
  simp (disch := first | assumption | omega) only [↓RP, RQ, TY, loadT, reduceIte, Nat.reduceEqDiff, Nat.reduceAdd, h4]
  refine c_alive A fun H5 hE5 => ?_
  simp (disch := first | assumption | omega) only [↓RP, RQ, TY, loadT, reduceIte, Nat.reduceEqDiff, Nat.reduceAdd]
  exact ⟨rfl, hE14.trans hE5⟩
/-- the number of an order's beginning -/
def maskT (order : List Int) : Nat → Nat
  | 0 => 0
  | k + 1 => maskT order k + 2 ^ (order.getD k 0).toNat
theorem maskT_bits {n : Int} {order : List Int} (h : IsOrd n order) : ∀ k, k ≤ order.length → (maskT order k).testBit = inL (order.take k)
  | 0, _ => funext fun i => by simp [maskT, inL]
  | k + 1, hk => by
    have ih := maskT_bits h k (by omega)
    have hp := h.2.1 k (by omega)
    have htk := take_push (l := order) (i := k) 0 (by omega)
    have hnd := (h.take (k + 1)).2
    rw [← htk, List.nodup_append] at hnd
    have hni : (maskT order k).testBit (order.getD k 0).toNat = false := by
      rw [ih, inL, Int.toNat_of_nonneg hp.1]
      cases q : (order.take k).contains (order.getD k 0) with
      | false => rfl
      | true => exact absurd rfl (hnd.2.2 _ (List.contains_iff_mem.mp q) _ (by simp))
    have e : order.getD k 0 = ((order.getD k 0).toNat : Nat) := (Int.toNat_of_nonneg hp.1).symm
    rw [← htk, e]
    funext i
    rw [inL_push, maskT, tb_set _ _ _ hni, ih]
    congr 1
    exact decide_eq_decide.mpr eq_comm
theorem maskT_lt {n : Int} {order : List Int} (h : IsOrd n order) (k : Nat) (hk : k ≤ order.length) : maskT order k < 2 ^ n.toNat := Nat.lt_pow_two_of_testBit _ fun i hi => by
  rw [maskT_bits h k hk, inL]
  cases q : (order.take k).contains (i : Int) with
  | false => rfl
  | true =>
    have := poss_mem.mp (h.take k).1 _ (List.contains_iff_mem.mp q)
    omega
theorem IsOrd.all {n : Int} {order : List Int} (h : IsOrd n order) {i : Nat} (hi : i < n.toNat) : inL order i = true := by
  have hl := othersN_len (n := n.toNat) (by rw [Int.toNat_of_nonneg (by omega)]; exact h.2.1) h.2.2
  have h1 := h.1
  have e : othersN n.toNat order = [] := List.eq_nil_of_length_eq_zero (by omega)
  cases q : inL order i with
  | true => rfl
  | false =>
    have : i ∈ othersN n.toNat order := mem_others.mpr ⟨hi, fun w => by
      rw [inL] at q
      have := List.contains_iff_mem.mpr w
      rw [q] at this
      cases this⟩
    rw [e] at this
    cases this
theorem maskT_all {n : Int} {order : List Int} (h : IsOrd n order) : maskT order order.length = 2 ^ n.toNat - 1 := Nat.eq_of_testBit_eq fun i => by
  rw [maskT_bits h _ (Nat.le_refl _), List.take_length, Nat.testBit_two_pow_sub_one]
  by_cases q : i < n.toNat
  · rw [h.all q, decide_eq_true q]
  · rw [decide_eq_false q]
    cases w : inL order i with
    | false => rfl
    | true =>
      have := poss_mem.mp h.2.1 _ (List.contains_iff_mem.mp w)
      omega
theorem tab_le_wid {p m : Int} {mod : List Int} {n : Int} {rows : List (List Int)} {order : List Int} (h : IsOrd n order) : ∀ k, k ≤ order.length → tabV (dimN p m mod n rows) n.toNat (maskT order k) ≤ widL p m mod n rows order k
  | 0, _ => by rw [maskT, tabV_zero, widL]; omega
  | k + 1, hk => by
    have ih := tab_le_wid (p := p) (m := m) (mod := mod) (rows := rows) h k (by omega)
    have hp := h.2.1 k (by omega)
    have hb := maskT_bits h (k + 1) hk
    have hlt := maskT_lt h (k + 1) hk
    have hlt0 := maskT_lt h k (by omega)
    have hni : (maskT order k).testBit (order.getD k 0).toNat = false := by
      rw [maskT_bits h k (by omega), inL, Int.toNat_of_nonneg hp.1]
      have htk := take_push (l := order) (i := k) 0 (by omega)
      have hnd := (h.take (k + 1)).2
      rw [← htk, List.nodup_append] at hnd
      cases q : (order.take k).contains (order.getD k 0) with
      | false => rfl
      | true => exact absurd rfl (hnd.2.2 _ (List.contains_iff_mem.mp q) _ (by simp))
    have hst := tabV_step (d := dimN p m mod n rows) (n := n.toNat) (s := maskT order k) (i := (order.getD k 0).toNat) hlt0 hni (by omega)
    have e : maskT order k + 2 ^ (order.getD k 0).toNat = maskT order (k + 1) := rfl
    rw [e] at hst
    have ed : dimN p m mod n rows (maskT order (k + 1)) = dimP p m mod n rows (inL (order.take (k + 1))) := by rw [dimN, hb]
    rw [ed] at hst
    rw [widL]
    omega
theorem law_Sound (A : Alg) {p m n : Int} {md v ov tv uv : AV} {mod ord tab oth : List Int} {us : List AV} {rows : List (List Int)} {H : AH} (hm : Ints H md mod) (hlm : mod.length ≤ 9223372036854775807) (hv : Rows H v us rows) (hl : rows.length ≤ 9223372036854775807) (hlr : ∀ i, i < rows.length → (rowAt rows i).length ≤ 9223372036854775807)
    (ho : Ints H ov ord) (hlo : ord.length ≤ 9223372036854775807) (ht : Ints H tv tab) (hlt : tab.length ≤ 9223372036854775807) (hu : Ints H uv oth) (hlu : oth.length ≤ 9223372036854775807) :
    AC Try.prog 8 [claimV p m md n v ov tv uv] H fun r H' => r = .bool true ∧ Ext H H' := by
  refine at8 (by simp) ?_
  simp (disch := first | assumption | omega) only [↓RP, RQ, TY, loadT, s8, reduceIte, Nat.reduceEqDiff, Nat.reduceAdd]
  refine kNew_intro fun b H1 hb hE1 hH1 => ?_
  simp (disch := first | assumption | omega) only [↓RP, RQ, TY, loadT, reduceIte, Nat.reduceEqDiff, Nat.reduceAdd, hH1]
  refine c_alive A fun H2 hE2 => ?_
  have hE12 := hE1.trans hE2
  have h2 := hE2.rw hH1
  simp (disch := first | assumption | omega) only [↓RP, RQ, TY, loadT, reduceIte, Nat.reduceEqDiff, Nat.reduceAdd, h2]
  refine c_short A (hm.ext hE12) (hv.ext hE12) hl hlr fun H3 hE3 => ?_
  have hE13 := hE12.trans hE3
  have h3 := hE3.rw h2
  cases hsh : shortB p m mod n rows
  · simp (disch := first | assumption | omega) only [↓RP, RQ, TY, loadT, reduceIte, Nat.reduceEqDiff, Nat.reduceAdd, h3]
    exact ⟨rfl, hE13⟩
  simp (disch := first | assumption | omega) only [↓RP, RQ, TY, loadT, reduceIte, Nat.reduceEqDiff, Nat.reduceAdd, h3]
  refine c_OCheck A (hm.ext hE13) hlm (hv.ext hE13) (ho.ext hE13) (ht.ext hE13) hl hlr hlo hlt fun H4 hE4 => ?_
  have hE14 := hE13.trans hE4
  have h4 := hE4.rw h3
  by_cases hck : chkErr p m mod n rows ord tab = 0
  rotate_left
  · simp (disch := first | assumption | omega) only [↓RP, RQ, TY, loadT, reduceIte, Nat.reduceEqDiff, Nat.reduceAdd, eq_false hck, h4]
    exact ⟨rfl, hE14⟩
  simp (disch := first | assumption | omega) only [↓RP, RQ, TY, loadT, reduceIte, Nat.reduceEqDiff, Nat.reduceAdd, eq_true hck, h4]
  refine c_Order48 A (hm.ext hE14) (hv.ext hE14) (hu.ext hE14) hl hlr hlu fun H5 hE5 => ?_
  have hE15 := hE14.trans hE5
  have h5 := hE5.rw h4
  by_cases hor : ordErr p m mod n rows oth = 0
  rotate_left
  · simp (disch := first | assumption | omega) only [↓RP, RQ, TY, loadT, reduceIte, Nat.reduceEqDiff, Nat.reduceAdd, eq_false hor, h5]
    exact ⟨rfl, hE15⟩
  simp (disch := first | assumption | omega) only [↓RP, RQ, TY, loadT, reduceIte, Nat.reduceEqDiff, Nat.reduceAdd, eq_true hor, h5]
  refine c_OWidth A (hm.ext hE15) hlm (hv.ext hE15) (ho.ext hE15) hl hlr hlo fun H6 hE6 => ?_
  have hE16 := hE15.trans hE6
  have h6 := hE6.rw h5
  simp (disch := first | assumption | omega) only [↓RP, RQ, TY, loadT, reduceIte, Nat.reduceEqDiff, Nat.reduceAdd, h6]
  refine c_OWidth A (hm.ext hE16) hlm (hv.ext hE16) (hu.ext hE16) hl hlr hlu fun H7 hE7 => ?_
  obtain ⟨q1, q2⟩ := ordErr_iff.mp hor
  have hck' := hck
  rw [chkErr, if_neg (by simpa using q1)] at hck'
  split at hck'
  · cases hck'
  split at hck'
  · cases hck'
  rename_i q3
  split at hck'
  rotate_left
  · cases hck'
  rename_i q4
  have q3' : IsOrd n ord := Classical.byContradiction q3
  have e1 : ordErr p m mod n rows ord = 0 := ordErr_iff.mpr ⟨q1, q3'⟩
  have e2 : widVal p m mod n rows ord = widL p m mod n rows ord ord.length := by rw [widVal, if_pos e1]
  have e3 : widVal p m mod n rows oth = widL p m mod n rows oth oth.length := by rw [widVal, if_pos hor]
  have hle := tab_le_wid (p := p) (m := m) (mod := mod) (rows := rows) q2 oth.length (Nat.le_refl _)
  rw [maskT_all q2, q4.2] at hle
  rw [e1, e2, e3, hor]
  simp (disch := first | assumption | omega) only [↓RP, RQ, TY, loadT, reduceIte, Nat.reduceEqDiff, Nat.reduceAdd, hle, Int.reduceEq]
  exact ⟨rfl, hE16.trans hE7⟩
end Go.Proofs.Yteijojnahpeglaa.AM
/-! The least order of the least width (plain law). -/
namespace Go.Proofs.Yteijojnahpeglaa.AM
open Go Go.RowKit
set_option linter.unusedVariables false
set_option linter.unusedSimpArgs false
/-- from a set the positions that are left can be taken within a width -/
inductive EndsP (d : Nat → Int) (n : Nat) (W : Int) : Nat → Prop where
  | all : d (2 ^ n - 1) ≤ W → EndsP d n W (2 ^ n - 1)
  | step (s i : Nat) : i < n → s.testBit i = false → d s ≤ W → EndsP d n W (s + 2 ^ i) → EndsP d n W s
section
variable {d : Nat → Int} {n : Nat} {W : Int}
/-- the position is free, and from the set with it an order can be completed -/
def NxtP (d : Nat → Int) (n : Nat) (W : Int) (s i : Nat) : Prop := i < n ∧ s.testBit i = false ∧ EndsP d n W (s + 2 ^ i)
theorem ends_iff {s : Nat} : EndsP d n W s ↔ d s ≤ W ∧ (s = 2 ^ n - 1 ∨ ∃ i, NxtP d n W s i) := by
  constructor
  · intro h
    cases h with
    | all h => exact ⟨h, .inl rfl⟩
    | step _ i h1 h2 h3 h4 => exact ⟨h3, .inr ⟨i, h1, h2, h4⟩⟩
  · rintro ⟨h1, rfl | ⟨i, h2, h3, h4⟩⟩
    · exact .all h1
    · exact .step _ i h2 h3 h1 h4
open Classical in
noncomputable def nxtB (d : Nat → Int) (n : Nat) (W : Int) (s : Nat) : Nat := if h : ∃ m, NxtP d n W s m ∧ ∀ q, NxtP d n W s q → m ≤ q then Classical.choose h else 0
theorem nxt_ok {s : Nat} (h : EndsP d n W s) (hs : s ≠ 2 ^ n - 1) : NxtP d n W s (nxtB d n W s) ∧ ∀ j, j < nxtB d n W s → ¬ NxtP d n W s j := by
  obtain ⟨-, h2⟩ := ends_iff.mp h
  obtain ⟨i, hi⟩ := h2.resolve_left hs
  have hx : ∃ m, NxtP d n W s m ∧ ∀ q, NxtP d n W s q → m ≤ q := least_of _ i hi
  have e : nxtB d n W s = Classical.choose hx := dif_pos hx
  obtain ⟨h3, h4⟩ := Classical.choose_spec hx
  rw [e]
  exact ⟨h3, fun j hj q => by have := h4 j q; omega⟩
/-- the sets of the least order's beginnings -/
noncomputable def stB (d : Nat → Int) (n : Nat) (W : Int) : Nat → Nat
  | 0 => 0
  | k + 1 => stB d n W k + 2 ^ nxtB d n W (stB d n W k)
/-- the least order's beginnings -/
noncomputable def outB (d : Nat → Int) (n : Nat) (W : Int) : Nat → List Int
  | 0 => []
  | k + 1 => outB d n W k ++ [(nxtB d n W (stB d n W k) : Int)]
theorem bits_lt {s : Nat} {l : List Int} (hb : s.testBit = inL l) (hp : Poss n l) : s < 2 ^ n := Nat.lt_pow_two_of_testBit _ fun i hi => by
  rw [hb, inL]
  cases q : l.contains (i : Int) with
  | false => rfl
  | true =>
    have := poss_mem.mp hp _ (List.contains_iff_mem.mp q)
    omega
theorem bits_all {s : Nat} {l : List Int} (hb : s.testBit = inL l) (hp : Poss n l) (hn : l.Nodup) : s = 2 ^ n - 1 ↔ l.length = n := by
  have hl := othersN_len hp hn
  constructor
  · intro h
    have e : othersN n l = [] := List.eq_nil_iff_forall_not_mem.mpr fun x hx => by
      obtain ⟨h1, h2⟩ := mem_others.mp hx
      have h3 : s.testBit x = true := by rw [h, Nat.testBit_two_pow_sub_one]; simpa using h1
      rw [hb, inL] at h3
      exact h2 (List.contains_iff_mem.mp h3)
    rw [e] at hl
    simpa using hl
  · intro h
    have e : othersN n l = [] := List.eq_nil_of_length_eq_zero (by omega)
    refine Nat.eq_of_testBit_eq fun i => ?_
    rw [Nat.testBit_two_pow_sub_one]
    by_cases hi : i < n
    · rw [decide_eq_true hi, hb]
      cases q : inL l i with
      | true => rfl
      | false =>
        have : i ∈ othersN n l := mem_others.mpr ⟨hi, fun w => by
          rw [inL] at q
          have := List.contains_iff_mem.mpr w
          rw [q] at this
          cases this⟩
        rw [e] at this
        cases this
    · rw [decide_eq_false hi, hb]
      cases w : inL l i with
      | false => rfl
      | true =>
        have := poss_mem.mp hp _ (List.contains_iff_mem.mp w)
        omega
structure StOk (d : Nat → Int) (n : Nat) (W : Int) (k : Nat) : Prop where
  ends : EndsP d n W (stB d n W k)
  bits : (stB d n W k).testBit = inL (outB d n W k)
  poss : Poss n (outB d n W k)
  nd : (outB d n W k).Nodup
  len : (outB d n W k).length = k
theorem StOk.all {k : Nat} (h : StOk d n W k) : stB d n W k = 2 ^ n - 1 ↔ k = n := by
  rw [bits_all h.bits h.poss h.nd, h.len]
theorem StOk.lt {k : Nat} (h : StOk d n W k) : stB d n W k < 2 ^ n := bits_lt h.bits h.poss
theorem StOk.next {k : Nat} (h : StOk d n W k) (hk : k < n) : NxtP d n W (stB d n W k) (nxtB d n W (stB d n W k)) ∧ ∀ j, j < nxtB d n W (stB d n W k) → ¬ NxtP d n W (stB d n W k) j :=
  nxt_ok h.ends fun q => by have := h.all.mp q; omega
theorem st_ok (h0 : EndsP d n W 0) : ∀ k, k ≤ n → StOk d n W k
  | 0, _ => ⟨h0, funext fun i => by simp [stB, outB, inL], fun i hi => by simp [outB] at hi, by simp [outB], rfl⟩
  | k + 1, hk => by
    have ih := st_ok h0 k (by omega)
    obtain ⟨⟨h1, h2, h3⟩, -⟩ := ih.next (by omega)
    have hni : (nxtB d n W (stB d n W k) : Int) ∉ outB d n W k := fun q => by
      rw [ih.bits, inL] at h2
      have := List.contains_iff_mem.mpr q
      rw [h2] at this
      cases this
    refine ⟨h3, funext fun i => ?_, poss_mem.mpr fun y hy => ?_, nodup_push ih.nd hni, by rw [outB, List.length_append, ih.len]; rfl⟩
    · rw [outB, inL_push, stB, tb_set _ _ _ h2, ih.bits]
      congr 1
      exact decide_eq_decide.mpr eq_comm
    · rw [outB] at hy
      rcases List.mem_append.mp hy with q | q
      · exact poss_mem.mp ih.poss y q
      · simp at q; omega
theorem outB_take : ∀ {k j : Nat}, (∀ i, i ≤ k → (outB d n W i).length = i) → j ≤ k → (outB d n W k).take j = outB d n W j
  | k, j, hl, hj => by
    by_cases q : j = k
    · subst q
      rw [List.take_of_length_le (by rw [hl j (Nat.le_refl _)]; omega)]
    · obtain ⟨k', rfl⟩ : ∃ k', k = k' + 1 := ⟨k - 1, by omega⟩
      rw [outB, List.take_append_of_le_length (by rw [hl k' (by omega)]; omega)]
      exact outB_take (fun i hi => hl i (by omega)) (by omega)
theorem leastV_att {T : Nat → Int} {s : Nat} : ∀ (l : List Nat) (a : Int), leastV T s l a = a ∨ ∃ i, i ∈ l ∧ leastV T s l a = T (s - 2 ^ i)
  | [], a => .inl rfl
  | x :: l, a => by
    have e : leastV T s (x :: l) a = leastV T s l (min a (T (s - 2 ^ x))) := rfl
    rw [e]
    rcases leastV_att (T := T) (s := s) l (min a (T (s - 2 ^ x))) with h | ⟨i, h1, h2⟩
    · rw [h]
      by_cases q : a ≤ T (s - 2 ^ x)
      · exact .inl (by omega)
      · exact .inr ⟨x, by simp, by omega⟩
    · exact .inr ⟨i, by simp [h1], h2⟩
/-- the table's entry is reached -/
theorem tab_down (hd : ∀ s, d s ≤ n) {s : Nat} (hs : 0 < s) (hn : s < 2 ^ n) : d s ≤ tabV d n s ∧ ∃ i, i < n ∧ s.testBit i = true ∧ tabV d n (s - 2 ^ i) ≤ tabV d n s := by
  have e := tabV_pos (d := d) (n := n) hs
  refine ⟨by omega, ?_⟩
  rcases leastV_att (T := tabV d n) (s := s) (bitL n s) n with h | ⟨i, h1, h2⟩
  · obtain ⟨i, hi⟩ := low_ex s hs
    have h1 := tabV_le hd (s - 2 ^ i)
    exact ⟨i, tb_lt hn hi.1, hi.1, by omega⟩
  · obtain ⟨h3, h4⟩ := mem_bitL.mp h1
    exact ⟨i, h3, h4, by omega⟩
theorem ends_down (hd : ∀ s, d s ≤ n) (h0 : d 0 ≤ W) : ∀ s, s < 2 ^ n → tabV d n s ≤ W → EndsP d n W s → EndsP d n W 0 := fun s => by
  induction s using Nat.strongRecOn with
  | ind s ih =>
    intro hs ht he
    by_cases q : s = 0
    · rw [q] at he; exact he
    · obtain ⟨h1, i, h2, h3, h4⟩ := tab_down hd (s := s) (by omega) hs
      have hp : 0 < 2 ^ i := Nat.pow_pos (by omega)
      have hle := tb_pow_le h3
      have e : s - 2 ^ i + 2 ^ i = s := by omega
      have hb : (s - 2 ^ i).testBit i = false := by rw [tb_clr i s i h3]; simp
      refine ih (s - 2 ^ i) (by omega) (by omega) (by omega) (.step _ i h2 hb ?_ (by rw [e]; exact he))
      by_cases q2 : s - 2 ^ i = 0
      · rw [q2]; exact h0
      · have := (tab_down hd (s := s - 2 ^ i) (by omega) (by omega)).1
        omega
theorem ends_zero (hd : ∀ s, d s ≤ n) (h0 : d 0 ≤ 0) (hn : 0 < n) : EndsP d n (tabV d n (2 ^ n - 1)) 0 := by
  have hp : 2 ≤ 2 ^ n := by
    have : 2 ^ 1 ≤ 2 ^ n := Nat.pow_le_pow_right (by omega) hn
    omega
  refine ends_down hd (Int.le_trans h0 (tabV_nonneg _)) (2 ^ n - 1) (by omega) (Int.le_refl _) (.all ?_)
  exact (tab_down hd (s := 2 ^ n - 1) (by omega) (by omega)).1
end
theorem dimN_zero {p m : Int} {mod : List Int} (h : (fF p m mod).Ok) {n : Int} {rows : List (List Int)} (he : Els (fF p m mod) rows) : dimN p m mod n rows 0 ≤ 0 := by
  have h1 := dimP_empty h (n := n) he
  have e : inL [] = (0 : Nat).testBit := funext fun i => by simp [inL]
  rwa [e] at h1
theorem outB_wid {p m : Int} {mod : List Int} (h : (fF p m mod).Ok) {n : Int} (hn : 1 ≤ n) {rows : List (List Int)} (he : Els (fF p m mod) rows) {W : Int} (h0 : EndsP (dimN p m mod n rows) n.toNat W 0) (hW : 0 ≤ W) : ∀ k, k ≤ n.toNat → widL p m mod n rows (outB (dimN p m mod n rows) n.toNat W n.toNat) k ≤ W
  | 0, _ => by rw [widL]; exact hW
  | k + 1, hk => by
    have ih := outB_wid h hn he h0 hW k (by omega)
    have ok := st_ok h0 (k + 1) hk
    have h2 := (ends_iff.mp ok.ends).1
    have e : dimN p m mod n rows (stB (dimN p m mod n rows) n.toNat W (k + 1)) = dimP p m mod n rows (inL ((outB (dimN p m mod n rows) n.toNat W n.toNat).take (k + 1))) := by
      rw [outB_take (fun i hi => (st_ok h0 i hi).len) hk, ← ok.bits]; rfl
    rw [e] at h2
    rw [widL]
    omega
/-- the least order of the least width -/
noncomputable def bestL (p m : Int) (mod : List Int) (n : Int) (rows : List (List Int)) : List Int := outB (dimN p m mod n rows) n.toNat (tabV (dimN p m mod n rows) n.toNat (2 ^ n.toNat - 1)) n.toNat
theorem best_len {p m : Int} {mod : List Int} (h : (fF p m mod).Ok) {n : Int} (hn : 1 ≤ n) (h12 : n ≤ 12) {rows : List (List Int)} (he : Els (fF p m mod) rows) : (bestL p m mod n rows).length ≤ 64 := by
  have hd : ∀ s, dimN p m mod n rows s ≤ n.toNat := fun s => by
    have := dimP_lt h hn he s.testBit
    have e : dimN p m mod n rows s = dimP p m mod n rows s.testBit := rfl
    omega
  have hz := ends_zero hd (dimN_zero h he) (show 0 < n.toNat by omega)
  rw [bestL, (st_ok hz n.toNat (Nat.le_refl _)).len]
  omega
theorem best_chk {p m : Int} {mod : List Int} (h : (fF p m mod).Ok) {n : Int} (hn : 1 ≤ n) (h12 : n ≤ 12) {rows : List (List Int)} (he : Els (fF p m mod) rows) (h0 : codeErr p m mod n rows = 0) : chkErr p m mod n rows (bestL p m mod n rows) (tabT p m mod n rows) = 0 := by
  have hd : ∀ s, dimN p m mod n rows s ≤ n.toNat := fun s => by
    have := dimP_lt h hn he s.testBit
    have e : dimN p m mod n rows s = dimP p m mod n rows s.testBit := rfl
    omega
  have hz := ends_zero hd (dimN_zero h he) (show 0 < n.toNat by omega)
  have ok := st_ok hz n.toNat (Nat.le_refl _)
  have hp := ok.poss
  rw [Int.toNat_of_nonneg (by omega)] at hp
  have ho : IsOrd n (bestL p m mod n rows) := ⟨by rw [bestL, ok.len, Int.toNat_of_nonneg (by omega)], hp, ok.nd⟩
  have hw := outB_wid h hn he hz (tabV_nonneg _) n.toNat (Nat.le_refl _)
  have hle := tab_le_wid (p := p) (m := m) (mod := mod) (rows := rows) ho _ (Nat.le_refl _)
  rw [maskT_all ho] at hle
  have e : (bestL p m mod n rows).length = n.toNat := by rw [bestL, ok.len]
  rw [chkErr, if_neg (by simpa using h0), if_neg (by omega), if_neg (by simpa using ho), if_pos]
  refine ⟨rfl, Int.le_antisymm hle ?_⟩
  rw [e]
  exact hw
end Go.Proofs.Yteijojnahpeglaa.AM
/-! Best: the program's and the reference's. -/
namespace Go.Proofs.Yteijojnahpeglaa.AM
open Go Go.RowKit
set_option linter.unusedVariables false
set_option linter.unusedSimpArgs false
set_option maxRecDepth 20000
theorem Hp.join {H0 H H' : AH} {L L' : List (AV × List AV)} (h : Hp H0 H L) (h' : Hp H H' L') : Hp H0 H' (L' ++ L) := by
  refine ⟨h.ext.trans h'.ext, fun x hx => ?_, ?_⟩
  · rcases List.mem_append.mp hx with q | q
    · exact (h'.own x q).old h.ext
    · exact (h.own x q).ext h'.ext
  · rw [blocksL, List.filterMap_append, List.nodup_append]
    refine ⟨h'.nd, h.nd, fun a ha b hb q => ?_⟩
    subst q
    obtain ⟨y, hy, hyb⟩ := List.mem_filterMap.mp ha
    obtain ⟨z, hz, hzb⟩ := List.mem_filterMap.mp hb
    have h1 := (h'.blkOf hy hyb).2
    have h2 := (h.blkOf hz hzb).1
    rw [h1] at h2
    cases h2
open Classical in
/-- can the set be completed? -/
noncomputable def endB (d : Nat → Int) (n : Nat) (W : Int) (s : Nat) : Bool := decide (EndsP d n W s)
open Classical in
/-- one of the first positions can be taken -/
noncomputable def hasB (d : Nat → Int) (n : Nat) (W : Int) (s i : Nat) : Bool := decide (∃ j, j < i ∧ NxtP d n W s j)
open Classical in
theorem hasB_zero {d : Nat → Int} {n : Nat} {W : Int} {s : Nat} : hasB d n W s 0 = false := decide_eq_false (fun ⟨j, h, _⟩ => by omega)
open Classical in
theorem hasB_set {d : Nat → Int} {n : Nat} {W : Int} {s i : Nat} (hb : s.testBit i = true) : hasB d n W s (i + 1) = hasB d n W s i := decide_eq_decide.mpr ⟨fun ⟨j, h, q⟩ => ⟨j, by
  have : j ≠ i := fun w => by subst w; have := q.2.1; rw [hb] at this; cases this
  omega, q⟩, fun ⟨j, h, q⟩ => ⟨j, by omega, q⟩⟩
open Classical in
theorem hasB_step {d : Nat → Int} {n : Nat} {W : Int} {s i : Nat} (hi : i < n) (hb : s.testBit i = false) (h : hasB d n W s i = false) : hasB d n W s (i + 1) = endB d n W (s + 2 ^ i) := decide_eq_decide.mpr ⟨fun ⟨j, hj, q⟩ => by
  by_cases w : j = i
  · subst w; exact q.2.2
  · exact absurd ⟨j, by omega, q⟩ (of_decide_eq_false h), fun q => ⟨i, by omega, hi, hb, q⟩⟩
open Classical in
theorem endB_of {d : Nat → Int} {n : Nat} {W : Int} {s i : Nat} (hs : s ≠ 2 ^ n - 1) (hd : d s ≤ W) (h : hasB d n W s i = true) : endB d n W s = true := by
  obtain ⟨j, hj, q⟩ := of_decide_eq_true h
  exact decide_eq_true (ends_iff.mpr ⟨hd, .inr ⟨j, q⟩⟩)
open Classical in
theorem endB_no {d : Nat → Int} {n : Nat} {W : Int} {s : Nat} (hs : s ≠ 2 ^ n - 1) (h : hasB d n W s n = false) : endB d n W s = false := decide_eq_false fun q => by
  obtain ⟨j, hj⟩ := (ends_iff.mp q).2.resolve_left hs
  exact of_decide_eq_false h ⟨j, hj.1, hj⟩
open Classical in
theorem endB_big {d : Nat → Int} {n : Nat} {W : Int} {s : Nat} (h : ¬ d s ≤ W) : endB d n W s = false := decide_eq_false fun q => h (ends_iff.mp q).1
open Classical in
theorem endB_all {d : Nat → Int} {n : Nat} {W : Int} : endB d n W (2 ^ n - 1) = decide (d (2 ^ n - 1) ≤ W) := decide_eq_decide.mpr ⟨fun q => (ends_iff.mp q).1, fun q => .all q⟩
open Classical in
theorem endB_true {d : Nat → Int} {n : Nat} {W : Int} {s : Nat} (h : EndsP d n W s) : endB d n W s = true := decide_eq_true h
open Classical in
theorem endB_false {d : Nat → Int} {n : Nat} {W : Int} {s : Nat} (h : ¬ EndsP d n W s) : endB d n W s = false := decide_eq_false h
theorem getD_setB (xs : List Bool) (i j : Nat) (v : Bool) : (xs.set i v).getD j false = if j = i ∧ i < xs.length then v else xs.getD j false := by
  simp only [List.getD_eq_getElem?_getD, List.getElem?_set]
  by_cases h : i = j
  · subst h
    by_cases h2 : i < xs.length <;> simp [h2]
  · simp [h, Ne.symm h]
/-- a set with one position more -/
theorem set_lt {n r i : Nat} (hr : r < 2 ^ n) (hi : i < n) (hb : r.testBit i = false) : r + 2 ^ i < 2 ^ n := Nat.lt_pow_two_of_testBit _ fun j hj => by
  rw [tb_set i r j hb]
  have h1 : r.testBit j = false := Nat.testBit_lt_two_pow (Nat.lt_of_lt_of_le hr (Nat.pow_le_pow_right (by omega) hj))
  have h2 : ¬ j = i := by omega
  simp [h1, h2]
set_option maxHeartbeats 4000000 in
theorem c_OBest (A : Alg) {p m n : Int} {md v : AV} {mod : List Int} {us : List AV} {rows : List (List Int)} {H : AH} {Q : AV → AH → Prop} (hm : Ints H md mod) (hlm : mod.length ≤ 9223372036854775807) (hv : Rows H v us rows) (hl : rows.length ≤ 9223372036854775807) (hlr : ∀ i, i < rows.length → (rowAt rows i).length ≤ 9223372036854775807)
    (hQ0 : codeErr p m mod n rows ≠ 0 → ∀ H', Ext H H' → Q (.tup [.nils, .nils, .int .i64 (codeErr p m mod n rows)]) H')
    (hQ1 : codeErr p m mod n rows = 0 → 12 < n → ∀ H', Ext H H' → Q (.tup [.nils, .nils, .int .i64 8]) H')
    (hQ : codeErr p m mod n rows = 0 → n ≤ 12 → ∀ w t H', Hp H H' [(w, ints (bestL p m mod n rows)), (t, ints (tabT p m mod n rows))] → Q (.tup [w, t, .int .i64 0]) H') : AC Try.prog 26 [codeV p m md n v] H Q := by
  refine at26 (by simp) ?_
  simp (disch := first | assumption | omega) only [↓RP, RQ, TY, loadT, s26, reduceIte, Nat.reduceEqDiff, Nat.reduceAdd]
  refine kNew_intro fun b H1 hb hE1 hH1 => ?_
  simp (disch := first | assumption | omega) only [↓RP, RQ, TY, loadT, reduceIte, Nat.reduceEqDiff, Nat.reduceAdd, hH1]
  refine c_cCheck A (hm.ext hE1) hlm (hv.ext hE1) hl hlr fun H2 hE2 => ?_
  have hE12 := hE1.trans hE2
  have h2 := hE2.rw hH1
  by_cases h0 : codeErr p m mod n rows = 0
  rotate_left
  · simp (disch := first | assumption | omega) only [↓RP, RQ, TY, loadT, reduceIte, Nat.reduceEqDiff, Nat.reduceAdd, eq_false h0]
    exact hQ0 h0 H2 hE12
  have ca := A.fo.ca h0 (hm.ext hE12) (hv.ext hE12)
  have n1 := ca.n1
  have ok := ca.fa.ok
  have els := ca.els
  by_cases h12 : 12 < n
  · simp (disch := first | assumption | omega) only [↓RP, RQ, TY, loadT, reduceIte, Nat.reduceEqDiff, Nat.reduceAdd, eq_true h0, h2, h12]
    exact hQ1 h0 h12 H2 hE12
  have hpow := pow12 (N := n.toNat) (by omega)
  have hp2 := ((Hp.nil (Ext.refl H)).new hb hE1 hH1 rfl).more hE2
  simp (disch := first | assumption | omega) only [↓RP, RQ, TY, loadT, reduceIte, Nat.reduceEqDiff, Nat.reduceAdd, eq_true h0, h2, h12]
  refine c_tables A (hm.ext hE12) hlm (hv.ext hE12) h0 (by omega) fun w1 w2 H3 hp3 => ?_
  have hp := hp2.join hp3
  simp only [List.cons_append, List.nil_append] at hp
  clear hp3 hp2 ca
  have hdn : ∀ z, dimN p m mod n rows z < n + 1 := fun z => dimP_lt ok n1 els _
  have hd0 := dimN_zero ok (n := n) els
  have hT0 : ∀ z, 0 ≤ tabV (dimN p m mod n rows) n.toNat z := tabV_nonneg
  have hTn : ∀ z, tabV (dimN p m mod n rows) n.toNat z ≤ n.toNat := tabV_le fun z => by have := hdn z; omega
  have hz := ends_zero (d := dimN p m mod n rows) (n := n.toNat) (fun z => by have := hdn z; omega) hd0 (by omega)
  have hst := st_ok hz
  have hdl : (dimsT p m mod n rows).length = 2 ^ n.toNat := by rw [dimsT, tabN_length]
  have htl : (tabT p m mod n rows).length = 2 ^ n.toNat := by rw [tabT, tabN_length]
  have hdg : ∀ j, j < 2 ^ n.toNat → (dimsT p m mod n rows).getD j 0 = if j = 0 then 0 else dimN p m mod n rows j := fun j hj => by rw [dimsT]; exact tabN_get hj
  have htg : (tabT p m mod n rows).getD (2 ^ n.toNat - 1) 0 = tabV (dimN p m mod n rows) n.toNat (2 ^ n.toNat - 1) := by rw [tabT]; exact tabN_get (by omega)
  have hbl : bestL p m mod n rows = outB (dimN p m mod n rows) n.toNat (tabV (dimN p m mod n rows) n.toNat (2 ^ n.toNat - 1)) n.toNat := rfl
  have hW0 := hT0 (2 ^ n.toNat - 1)
  have hWn := hTn (2 ^ n.toNat - 1)
  generalize hW : tabV (dimN p m mod n rows) n.toNat (2 ^ n.toNat - 1) = W at *
  have hM2 : 2 ≤ 2 ^ n.toNat := by
    have : 2 ^ 1 ≤ 2 ^ n.toNat := Nat.pow_le_pow_right (by omega) (by omega)
    omega
  have hea : endB (dimN p m mod n rows) n.toNat W (2 ^ n.toNat - 1) = decide (dimN p m mod n rows (2 ^ n.toNat - 1) ≤ W) := by
    rw [endB_all]
  have hsl : ∀ {r i : Nat}, r < 2 ^ n.toNat → i < n.toNat → r.testBit i = false → r + 2 ^ i < 2 ^ n.toNat := fun h1 h2 h3 => set_lt h1 h2 h3
  have heof : ∀ {s i : Nat}, s ≠ 2 ^ n.toNat - 1 → dimN p m mod n rows s ≤ W → hasB (dimN p m mod n rows) n.toNat W s i = true → endB (dimN p m mod n rows) n.toNat W s = true := fun h1 h2 h3 => endB_of h1 h2 h3
  have heno : ∀ {s : Nat}, s ≠ 2 ^ n.toNat - 1 → hasB (dimN p m mod n rows) n.toNat W s n.toNat = false → endB (dimN p m mod n rows) n.toNat W s = false := fun h1 h2 => endB_no h1 h2
  have hall : ∀ k, k ≤ n.toNat → (stB (dimN p m mod n rows) n.toNat W k = 2 ^ n.toNat - 1 ↔ k = n.toNat) := fun k hk => (hst k hk).all
  have hstl : ∀ k, k ≤ n.toNat → stB (dimN p m mod n rows) n.toNat W k < 2 ^ n.toNat := fun k hk => (hst k hk).lt
  obtain ⟨M, hM⟩ : ∃ M, 2 ^ n.toNat = M := ⟨_, rfl⟩
  rw [hM] at hpow hdl htl hdg htg hM2 hea hsl heof heno hall hstl
  have hsd := hp.sl (y := (w1, ints (dimsT p m mod n rows))) (by simp)
  have hstb := hp.sl (y := (w2, ints (tabT p m mod n rows))) (by simp)
  have hm1 : ((M : Int) - 1).toNat = M - 1 := by omega
  have hmp : (M : Int) - 1 + 1 = (M : Int) := by omega
  have hda := hdg (M - 1) (by omega)
  rw [if_neg (by omega)] at hda
  simp (disch := first | assumption | omega) only [↓RP, RQ, TY, loadT, reduceIte, Nat.reduceEqDiff, Nat.reduceAdd, hstb.ints, htl, hm1, htg, hmp, Int.toNat_natCast]
  refine kNew_intro fun b4 H4 hb4 hE4 hH4 => ?_
  rw [bools_repl] at hH4
  have hp4 := hp.new (n := M) hb4 hE4 hH4 (by simp [bools_length])
  have hbl4 : (bools (List.replicate M false)).length = M := by simp [bools]
  have hsd4 := hp4.sl (y := (w1, ints (dimsT p m mod n rows))) (by simp)
  simp (disch := first | assumption | omega) only [↓RP, RQ, TY, loadT, reduceIte, Nat.reduceEqDiff, Nat.reduceAdd, hsd4.ints, hdl, hm1, hda, hH4, bools_set]
  have hp5 := hp4.upd (us' := bools ((List.replicate M false).set (M - 1) (decide (dimN p m mod n rows (M - 1) ≤ W)))) (by simp [bools])
  rw [← hea] at hp5 ⊢
  generalize hH5 : H4.upd b4 _ = H5 at *
  clear hH5 hE4 hH4 hb4 hp4 hsd hstb hsd4 hp
  generalize hd : dimN p m mod n rows = d at *
  refine sw_loop (σ := Nat × List Bool) (fun z e H' => e 10 = .int .i64 ((z.1 : Int) - 1) ∧ e 9 = .sl b4 0 M (.own 1) ∧ e 8 = .int .i64 W ∧ e 7 = .int .i64 ((M : Int) - 1) ∧ e 6 = w1 ∧ e 3 = w2 ∧ e 2 = .nils ∧ e 1 = .ptr b 0 ∧ z.1 < M ∧ z.2.length = M ∧ (∀ j, z.1 ≤ j → j < M → z.2.getD j false = endB d n.toNat W j) ∧ (∀ j, j < z.1 → z.2.getD j false = false) ∧ Hp H H' [(.sl b4 0 M (.own 1), bools z.2), (w2, ints (tabT p m mod n rows)), (w1, ints (dimsT p m mod n rows)), (.sl b 0 5 (.own 1), [.int .i64 p, .int .i64 m, md, .int .i64 n, v])]) (fun z => z.1) (M - 1, (List.replicate M false).set (M - 1) (endB d n.toNat W (M - 1))) ?_ ?_
  · simp (disch := first | assumption | omega) only [↓RP, RQ, TY, loadT, reduceIte, Nat.reduceEqDiff, Nat.reduceAdd]
    refine ⟨?_, ?_, by simp, fun j h1 h2 => ?_, fun j h1 => ?_, hp5⟩
    · congr 1; omega
    · omega
    · rw [getD_setB, if_pos ⟨by omega, by simp; omega⟩, show j = M - 1 by omega]
    · rw [getD_setB, if_neg (by omega)]
      simp [List.getD_eq_getElem?_getD, show j < M by omega]
  clear hp5
  rintro ⟨z, E⟩ e H6 ⟨e10, e9, e8, e7, e6, e3, e2, e1, hzM, hE, hEh, hEl, hp6⟩
  dsimp only at *
  have h6 := (hp6.blkOf (y := (.sl b 0 5 (.own 1), [.int .i64 p, .int .i64 m, md, .int .i64 n, v])) (by simp) rfl).1
  have hsd6 := hp6.sl (y := (w1, ints (dimsT p m mod n rows))) (by simp)
  have hE6 := (hp6.blkOf (y := (.sl b4 0 M (.own 1), bools E)) (by simp) rfl).1
  by_cases hz0 : z = 0
  rotate_left
  · obtain ⟨r, rfl⟩ : ∃ r, z = r + 1 := ⟨z - 1, by omega⟩
    have hge : (0 : Int) ≤ ((r + 1 : Nat) : Int) - 1 := by omega
    have hr1 : ((r + 1 : Nat) : Int) - 1 = (r : Int) := by omega
    have hrn : r ≠ M - 1 := by omega
    have hrg : (0 : Int) ≤ (r : Int) := by omega
    rw [hr1] at e10
    simp (disch := first | assumption | omega) only [↓RP, RQ, TY, loadT, reduceIte, Nat.reduceEqDiff, Nat.reduceAdd, e10, e9, e8, e7, e6, e3, e2, e1, hrg]
    have hdr := hdg r (by omega)
    have hdle : ((dimsT p m mod n rows).getD r 0 ≤ W) ↔ d r ≤ W := by
      rw [hdr]
      by_cases q : r = 0
      · subst q; rw [if_pos rfl]; exact ⟨fun _ => by omega, fun _ => hW0⟩
      · rw [if_neg q]
    refine sw_loop (σ := Nat × Bool) (fun y e H' => e 11 = .int .i64 y.1 ∧ e 10 = .int .i64 r ∧ e 9 = .sl b4 0 M (.own 1) ∧ e 8 = .int .i64 W ∧ e 7 = .int .i64 ((M : Int) - 1) ∧ e 6 = w1 ∧ e 3 = w2 ∧ e 2 = .nils ∧ e 1 = .ptr b 0 ∧ y.1 ≤ n.toNat ∧ (y.2 = true → d r ≤ W) ∧ (d r ≤ W → y.2 = hasB d n.toNat W r y.1) ∧ Hp H H' [(.sl b4 0 M (.own 1), bools (E.set r y.2)), (w2, ints (tabT p m mod n rows)), (w1, ints (dimsT p m mod n rows)), (.sl b 0 5 (.own 1), [.int .i64 p, .int .i64 m, md, .int .i64 n, v])]) (fun y => n.toNat - y.1) (0, false) ?_ ?_
    · simp (disch := first | assumption | omega) only [↓RP, RQ, TY, loadT, reduceIte, Nat.reduceEqDiff, Nat.reduceAdd, e10, e9, e8, e7, e6, e3, e2, e1]
      have hEs : E.set r false = E := by
        have := hEl r (by omega)
        refine List.ext_getElem (by simp) fun j h1 h2 => ?_
        rw [List.getElem_set]
        split
        · rename_i q
          subst q
          rw [List.getD_eq_getElem?_getD, List.getElem?_eq_getElem h2, Option.getD_some] at this
          rw [this]
        · rfl
      exact ⟨by omega, fun q => (Bool.noConfusion q), fun _ => hasB_zero.symm, by rw [hEs]; exact hp6⟩
    rintro ⟨i, x⟩ e' H7 ⟨g11, g10, g9, g8, g7, g6, g3, g2, g1, hi, hx1, hx2, hp7⟩
    dsimp only at *
    have h7 := (hp7.blkOf (y := (.sl b 0 5 (.own 1), [.int .i64 p, .int .i64 m, md, .int .i64 n, v])) (by simp) rfl).1
    have hsd7 := hp7.sl (y := (w1, ints (dimsT p m mod n rows))) (by simp)
    have hE7 := (hp7.blkOf (y := (.sl b4 0 M (.own 1), bools (E.set r x))) (by simp) rfl).1
    have hbE := bools_length (E.set r x)
    have hEl7 : (E.set r x).length = M := by rw [List.length_set]; exact hE
    have hgr : (E.set r x).getD r false = x := by rw [getD_setB, if_pos ⟨rfl, by omega⟩]
    have hrM : r < M := by omega
    have fin : x = endB d n.toNat W r → ∀ H8, H8 = H7 → (r : Nat) < M ∧ (E.set r x).length = M ∧ (∀ j, r ≤ j → j < M → (E.set r x).getD j false = endB d n.toNat W j) ∧ (∀ j, j < r → (E.set r x).getD j false = false) ∧ Hp H H8 [(.sl b4 0 M (.own 1), bools (E.set r x)), (w2, ints (tabT p m mod n rows)), (w1, ints (dimsT p m mod n rows)), (.sl b 0 5 (.own 1), [.int .i64 p, .int .i64 m, md, .int .i64 n, v])] := fun q H8 hH8 => by
      refine ⟨hrM, hEl7, fun j h1 h2 => ?_, fun j h1 => ?_, hH8 ▸ hp7⟩
      · rw [getD_setB]
        by_cases w : j = r
        · rw [if_pos ⟨w, by omega⟩, w, q]
        · rw [if_neg (fun q => w q.1)]
          exact hEh j (by omega) h2
      · rw [getD_setB, if_neg (by omega)]
        exact hEl j (by omega)
    by_cases hin : (i : Int) < n
    rotate_left
    · have hx : x = endB d n.toNat W r := by
        by_cases q : d r ≤ W
        · have h := hx2 q
          rw [show i = n.toNat by omega] at h
          cases x
          · exact (heno hrn h.symm).symm
          · exact (heof hrn q h.symm).symm
        · cases x
          · exact (endB_big q).symm
          · exact absurd (hx1 rfl) q
      simp (disch := first | assumption | omega) only [↓RP, RQ, TY, loadT, reduceIte, Nat.reduceEqDiff, Nat.reduceAdd, g11, g10, g9, g8, g7, g6, g3, g2, g1, hin, h7]
      refine ⟨(r, E.set r x), ?_, by dsimp only; omega⟩
      simp (disch := first | assumption | omega) only [↓RP, RQ, TY, loadT, reduceIte, Nat.reduceEqDiff, Nat.reduceAdd, g11, g10, g9, g8, g7, g6, g3, g2, g1]
      exact fin hx H7 rfl
    by_cases hdw : d r ≤ W
    rotate_left
    · have hdw' : ¬ (dimsT p m mod n rows).getD r 0 ≤ W := fun q => hdw (hdle.mp q)
      have hx : x = endB d n.toNat W r := by
        cases x
        · exact (endB_big hdw).symm
        · exact absurd (hx1 rfl) hdw
      simp (disch := first | assumption | omega) only [↓RP, RQ, TY, loadT, reduceIte, Nat.reduceEqDiff, Nat.reduceAdd, g11, g10, g9, g8, g7, g6, g3, g2, g1, hin, h7, hsd7.ints, hdl, hdw']
      refine ⟨(r, E.set r x), ?_, by dsimp only; omega⟩
      simp (disch := first | assumption | omega) only [↓RP, RQ, TY, loadT, reduceIte, Nat.reduceEqDiff, Nat.reduceAdd, g11, g10, g9, g8, g7, g6, g3, g2, g1]
      exact fin hx H7 rfl
    have hdw' : (dimsT p m mod n rows).getD r 0 ≤ W := hdle.mpr hdw
    have hxh := hx2 hdw
    cases x
    rotate_left
    · have hx : true = endB d n.toNat W r := (heof hrn hdw hxh.symm).symm
      simp (disch := first | assumption | omega) only [↓RP, RQ, TY, loadT, reduceIte, Nat.reduceEqDiff, Nat.reduceAdd, g11, g10, g9, g8, g7, g6, g3, g2, g1, hin, h7, hsd7.ints, hdl, hdw', hE7, bools_get, hgr, Bool.not_true]
      refine ⟨(r, E.set r true), ?_, by dsimp only; omega⟩
      simp (disch := first | assumption | omega) only [↓RP, RQ, TY, loadT, reduceIte, Nat.reduceEqDiff, Nat.reduceAdd, g11, g10, g9, g8, g7, g6, g3, g2, g1]
      exact fin hx H7 rfl
    have hbit := i_bit (k := r) (i := i) (by omega) (by omega)
    cases hb2 : r.testBit i
    · rw [hb2, if_neg (by simp)] at hbit
      have hshl : IntKind.i64.wrap (1 * 2 ^ min i IntKind.i64.bits) = ((2 ^ i : Nat) : Int) := i_shl (by omega)
      have hlt2 := hsl (r := r) (i := i) (by omega) (by omega) hb2
      have hpi : 0 < 2 ^ i := Nat.pow_pos (by omega)
      have hor := i_or (a := r) (b := 2 ^ i) (by omega) (by omega)
      rw [or_set hb2] at hor
      have hgx : (E.set r false).getD (r + 2 ^ i) false = endB d n.toNat W (r + 2 ^ i) := by
        rw [getD_setB, if_neg (by omega)]
        exact hEh _ (by omega) hlt2
      have hst2 := hasB_step (d := d) (W := W) (by omega) hb2 hxh.symm
      simp (disch := first | assumption | omega) only [↓RP, RQ, TY, loadT, reduceIte, Nat.reduceEqDiff, Nat.reduceAdd, g11, g10, g9, g8, g7, g6, g3, g2, g1, hin, h7, hsd7.ints, hdl, hdw', hE7, bools_get, hgr, Bool.not_false, hbit, hshl, hor, hgx, bools_set, List.set_set, Int.reduceEq]
      refine ⟨(i + 1, endB d n.toNat W (r + 2 ^ i)), ?_, by dsimp only; omega⟩
      simp (disch := first | assumption | omega) only [↓RP, RQ, TY, loadT, reduceIte, Nat.reduceEqDiff, Nat.reduceAdd, g11, g10, g9, g8, g7, g6, g3, g2, g1]
      exact ⟨by omega, fun _ => hdw, fun _ => hst2.symm, hp7.upd (by simp [bools_length])⟩
    · rw [hb2, if_pos rfl] at hbit
      have hst2 := hasB_set (d := d) (n := n.toNat) (W := W) hb2
      simp (disch := first | assumption | omega) only [↓RP, RQ, TY, loadT, reduceIte, Nat.reduceEqDiff, Nat.reduceAdd, g11, g10, g9, g8, g7, g6, g3, g2, g1, hin, h7, hsd7.ints, hdl, hdw', hE7, bools_get, hgr, Bool.not_false, hbit, bools_set, List.set_set, Int.reduceEq]
      refine ⟨(i + 1, false), ?_, by dsimp only; omega⟩
      simp (disch := first | assumption | omega) only [↓RP, RQ, TY, loadT, reduceIte, Nat.reduceEqDiff, Nat.reduceAdd, g11, g10, g9, g8, g7, g6, g3, g2, g1]
      exact ⟨by omega, fun q => (Bool.noConfusion q), fun _ => by rw [hst2]; exact hxh, hp7.upd (by simp [bools_length])⟩
  subst hz0
  have hneg : ¬ (0 : Int) ≤ ((0 : Nat) : Int) - 1 := by omega
  simp (disch := first | assumption | omega) only [↓RP, RQ, TY, loadT, reduceIte, Nat.reduceEqDiff, Nat.reduceAdd, e10, e9, e8, e7, e6, e3, e2, e1, hneg]
  refine sw_loop (σ := Nat × AV) (fun z e H' => e 12 = .int .i64 (stB d n.toNat W z.1 : Nat) ∧ e 9 = .sl b4 0 M (.own 1) ∧ e 7 = .int .i64 ((M : Int) - 1) ∧ e 3 = w2 ∧ e 2 = z.2 ∧ e 1 = .ptr b 0 ∧ z.1 ≤ n.toNat ∧ Hp H H' [(z.2, ints (outB d n.toNat W z.1)), (.sl b4 0 M (.own 1), bools E), (w2, ints (tabT p m mod n rows)), (w1, ints (dimsT p m mod n rows)), (.sl b 0 5 (.own 1), [.int .i64 p, .int .i64 m, md, .int .i64 n, v])]) (fun z => n.toNat - z.1) (0, .nils) ?_ ?_
  · simp (disch := first | assumption | omega) only [↓RP, RQ, TY, loadT, reduceIte, Nat.reduceEqDiff, Nat.reduceAdd, e10, e9, e8, e7, e6, e3, e2, e1]
    exact ⟨rfl, by omega, hp6.nils⟩
  rintro ⟨k, w⟩ f H8 ⟨f12, f9, f7, f3, f2, f1, hk, hp8⟩
  dsimp only at *
  have h8 := (hp8.blkOf (y := (.sl b 0 5 (.own 1), [.int .i64 p, .int .i64 m, md, .int .i64 n, v])) (by simp) rfl).1
  have hE8 := (hp8.blkOf (y := (.sl b4 0 M (.own 1), bools E)) (by simp) rfl).1
  have hbE := bools_length E
  have hsM := hstl k hk
  by_cases hkn : k = n.toNat
  · have hsa := (hall k hk).mpr hkn
    have hcd : ¬ (((stB d n.toNat W k : Nat) : Int) ≠ (M : Int) - 1) := by omega
    simp (disch := first | assumption | omega) only [↓RP, RQ, TY, loadT, reduceIte, Nat.reduceEqDiff, Nat.reduceAdd, f12, f9, f7, f3, f2, f1, eq_false hcd]
    refine hQ h0 (by omega) w w2 H8 ?_
    rw [hkn] at hp8
    rw [hbl]
    exact hp8.sub (.cons_cons _ (.cons _ (.cons_cons _ (.cons _ (.cons _ .slnil)))))
  have hsa : stB d n.toNat W k ≠ M - 1 := fun q => hkn ((hall k hk).mp q)
  have hcd : ((stB d n.toNat W k : Nat) : Int) ≠ (M : Int) - 1 := by omega
  obtain ⟨⟨q1, q2, q3⟩, q4⟩ := (hst k hk).next (by omega)
  have hlen := (hst k hk).len
  have hs1 : stB d n.toNat W (k + 1) = stB d n.toNat W k + 2 ^ nxtB d n.toNat W (stB d n.toNat W k) := rfl
  have ho1 : outB d n.toNat W (k + 1) = outB d n.toNat W k ++ [(nxtB d n.toNat W (stB d n.toNat W k) : Int)] := rfl
  generalize hx : nxtB d n.toNat W (stB d n.toNat W k) = x at *
  generalize hs : stB d n.toNat W k = s at *
  simp (disch := first | assumption | omega) only [↓RP, RQ, TY, loadT, reduceIte, Nat.reduceEqDiff, Nat.reduceAdd, f12, f9, f7, f3, f2, f1, eq_true hcd, h8]
  refine sw_loop (σ := Nat) (fun i e H' => e 95 = .int .i64 i ∧ e 94 = .int .i64 n ∧ e 12 = .int .i64 s ∧ e 9 = .sl b4 0 M (.own 1) ∧ e 7 = .int .i64 ((M : Int) - 1) ∧ e 3 = w2 ∧ e 2 = w ∧ e 1 = .ptr b 0 ∧ i ≤ x ∧ H' = H8) (fun i => n.toNat - i) 0 ?_ ?_
  · simp (disch := first | assumption | omega) only [↓RP, RQ, TY, loadT, reduceIte, Nat.reduceEqDiff, Nat.reduceAdd, f12, f9, f7, f3, f2, f1]
    omega
  rintro i e' H' ⟨g95, g94, g12, g9, g7, g3, g2, g1, hix, rfl⟩
  have hin : (i : Int) < n := by omega
  have hbit := i_bit (k := s) (i := i) (by omega) (by omega)
  cases hb2 : s.testBit i
  rotate_left
  · have hne : i ≠ x := fun q => by rw [q, q2] at hb2; cases hb2
    rw [hb2, if_pos rfl] at hbit
    simp (disch := first | assumption | omega) only [↓RP, RQ, TY, loadT, reduceIte, Nat.reduceEqDiff, Nat.reduceAdd, g95, g94, g12, g9, g7, g3, g2, g1, hin, hbit, Int.reduceEq]
    refine ⟨i + 1, ?_, by dsimp only; omega⟩
    simp (disch := first | assumption | omega) only [↓RP, RQ, TY, loadT, reduceIte, Nat.reduceEqDiff, Nat.reduceAdd, g95, g94, g12, g9, g7, g3, g2, g1]
    omega
  rw [hb2, if_neg (by simp)] at hbit
  have hshl : IntKind.i64.wrap (1 * 2 ^ min i IntKind.i64.bits) = ((2 ^ i : Nat) : Int) := i_shl (by omega)
  have hlt2 := hsl (r := s) (i := i) (by omega) (by omega) hb2
  have hpi : 0 < 2 ^ i := Nat.pow_pos (by omega)
  have hor := i_or (a := s) (b := 2 ^ i) (by omega) (by omega)
  rw [or_set hb2] at hor
  have hgx : E.getD (s + 2 ^ i) false = endB d n.toNat W (s + 2 ^ i) := hEh _ (by omega) hlt2
  by_cases hne : i = x
  rotate_left
  · have hef : endB d n.toNat W (s + 2 ^ i) = false := endB_false fun q => q4 i (by omega) ⟨by omega, hb2, q⟩
    rw [hef] at hgx
    simp (disch := first | assumption | omega) only [↓RP, RQ, TY, loadT, reduceIte, Nat.reduceEqDiff, Nat.reduceAdd, g95, g94, g12, g9, g7, g3, g2, g1, hin, hbit, hshl, hor, hE8, bools_get, hgx, Int.reduceEq]
    refine ⟨i + 1, ?_, by dsimp only; omega⟩
    simp (disch := first | assumption | omega) only [↓RP, RQ, TY, loadT, reduceIte, Nat.reduceEqDiff, Nat.reduceAdd, g95, g94, g12, g9, g7, g3, g2, g1]
    omega
  subst hne
  have hef : endB d n.toNat W (s + 2 ^ i) = true := endB_true q3
  rw [hef] at hgx
  simp (disch := first | assumption | omega) only [↓RP, RQ, TY, loadT, reduceIte, Nat.reduceEqDiff, Nat.reduceAdd, g95, g94, g12, g9, g7, g3, g2, g1, hin, hbit, hshl, hor, hE8, bools_get, hgx, Int.reduceEq]
  refine kNew_intro fun b9 H9 hb9 hE9 hH9 => ?_
  simp (disch := first | assumption | omega) only [↓RP, RQ, TY, loadT, reduceIte, Nat.reduceEqDiff, Nat.reduceAdd, g95, g94, g12, g9, g7, g3, g2, g1]
  refine kApp_hp (us := ints [(i : Int)]) (hp8.more hE9) (Sl.own hH9 rfl) ints_ones (by rw [ints_length, ints_length, List.length_singleton]; omega) (by rw [ints_length, ints_length, List.length_singleton]; omega) fun v10 H10 hp10 => ?_
  rw [ints_app, ← ho1] at hp10
  simp (disch := first | assumption | omega) only [↓RP, RQ, TY, loadT, reduceIte, Nat.reduceEqDiff, Nat.reduceAdd, g95, g94, g12, g9, g7, g3, g2, g1, hshl, hor]
  refine ⟨(k + 1, v10), ?_, by dsimp only; omega⟩
  simp (disch := first | assumption | omega) only [↓RP, RQ, TY, loadT, reduceIte, Nat.reduceEqDiff, Nat.reduceAdd, g95, g94, g12, g9, g7, g3, g2, g1]
  exact ⟨by rw [hs1], by omega, hp10⟩
end Go.Proofs.Yteijojnahpeglaa.AM
