/- Helpers. Residues as vectors of whole numbers: the shift T, what a list of digits does to a vector (plain Lean). · The products of the program and of the reference, as vectors (plain Lean). · The residues are a commutative ring; both products are one (plain Lean). · Powers of a generator; the algebra from: every field has a generator, and only fields have (plain Lean). · What has a generator has no divisors (plain Lean). · Products, powers and divisions of lists of digits that the kernel can work out (plain Lean). · The check of a certificate, and what it shows (plain Lean). · PRINTED by mkfld.py: for each size of field a list of certificates, one for each modulus: a generator, or a divisor; the kernel checks them. · PRINTED by mkfld.py: every field has a generator: by the tables. -/
import Derived.Test.YteijojnahpeglaaKD
import Derived.KernelRfl
/-! Residues as vectors of whole numbers: the shift T, what a list of digits does to a vector (plain Lean). -/
namespace Go.Proofs.Yteijojnahpeglaa.AM
open Go Go.RowKit
set_option linter.unusedVariables false
set_option linter.unusedSimpArgs false
abbrev ZV := Nat → Int
def zzv : ZV := fun _ => 0
def zadd (v w : ZV) : ZV := fun j => v j + w j
def zsm (c : Int) (v : ZV) : ZV := fun j => c * v j
/-- times X -/
def Tm (n : Nat) (mod : List Int) (v : ZV) : ZV := fun j => if j < n then (if j = 0 then 0 else v (j - 1)) - mod.getD j 0 * v (n - 1) else 0
/-- d0 + d1 T + .. -/
def act (n : Nat) (mod : List Int) : List Int → ZV → ZV
  | [], _ => zzv
  | d :: ds, v => zadd (zsm d v) (Tm n mod (act n mod ds v))
def Tp (n : Nat) (mod : List Int) : Nat → ZV → ZV
  | 0, v => v
  | k + 1, v => Tm n mod (Tp n mod k v)
section
variable {n : Nat} {mod : List Int}
theorem Tm_add (v w : ZV) : Tm n mod (zadd v w) = zadd (Tm n mod v) (Tm n mod w) := funext fun j => by
  simp only [Tm, zadd]
  split
  · split <;> grind
  · rfl
theorem Tm_sm (c : Int) (v : ZV) : Tm n mod (zsm c v) = zsm c (Tm n mod v) := funext fun j => by
  simp only [Tm, zsm]
  split
  · split <;> grind
  · grind
theorem Tm_zero : Tm n mod zzv = zzv := funext fun j => by
  simp only [Tm, zzv]
  split
  · split <;> simp
  · rfl
theorem act_add (ds : List Int) (v w : ZV) : act n mod ds (zadd v w) = zadd (act n mod ds v) (act n mod ds w) := by
  induction ds with
  | nil => funext j; simp [act, zzv, zadd]
  | cons d ds ih =>
    rw [act, act, act, ih, Tm_add]
    funext j
    simp only [zadd, zsm]
    grind
theorem act_sm (ds : List Int) (c : Int) (v : ZV) : act n mod ds (zsm c v) = zsm c (act n mod ds v) := by
  induction ds with
  | nil => funext j; simp [act, zzv, zsm]
  | cons d ds ih =>
    rw [act, act, ih, Tm_sm]
    funext j
    simp only [zadd, zsm]
    grind
theorem act_T (ds : List Int) (v : ZV) : act n mod ds (Tm n mod v) = Tm n mod (act n mod ds v) := by
  induction ds with
  | nil => rw [act, act, Tm_zero]
  | cons d ds ih => rw [act, act, ih, Tm_add, Tm_sm]
theorem act_comm (a b : List Int) (v : ZV) : act n mod a (act n mod b v) = act n mod b (act n mod a v) := by
  induction a with
  | nil =>
    rw [act, act]
    have := act_sm (n := n) (mod := mod) b 0 v
    have e : zsm 0 v = zzv := funext fun j => by simp [zsm, zzv]
    have e2 : zsm 0 (act n mod b v) = zzv := funext fun j => by simp [zsm, zzv]
    rw [e, e2] at this
    exact this.symm
  | cons d a ih => rw [act, act, act_add, act_sm, act_T, ih]
theorem Tp_add (k : Nat) (v w : ZV) : Tp n mod k (zadd v w) = zadd (Tp n mod k v) (Tp n mod k w) := by
  induction k with
  | zero => rfl
  | succ k ih => rw [Tp, ih, Tm_add]; rfl
theorem Tp_sm (k : Nat) (c : Int) (v : ZV) : Tp n mod k (zsm c v) = zsm c (Tp n mod k v) := by
  induction k with
  | zero => rfl
  | succ k ih => rw [Tp, ih, Tm_sm]; rfl
theorem Tp_Tm (k : Nat) (v : ZV) : Tp n mod k (Tm n mod v) = Tm n mod (Tp n mod k v) := by
  induction k with
  | zero => rfl
  | succ k ih => rw [Tp, ih]; rfl
theorem Tp_Tp (i j : Nat) (v : ZV) : Tp n mod i (Tp n mod j v) = Tp n mod (i + j) v := by
  induction i with
  | zero => rw [Nat.zero_add]; rfl
  | succ i ih => rw [Tp, ih, Nat.add_right_comm]; rfl
theorem act_Tp (ds : List Int) (k : Nat) (v : ZV) : act n mod ds (Tp n mod k v) = Tp n mod k (act n mod ds v) := by
  induction k with
  | zero => rfl
  | succ k ih => rw [Tp, act_T, ih]; rfl
theorem act_set : ∀ (ds : List Int) (k : Nat) (x : Int) (v : ZV), k < ds.length → act n mod (ds.set k x) v = zadd (act n mod ds v) (zsm (x - ds.getD k 0) (Tp n mod k v))
  | [], k, x, v, h => by simp at h
  | d :: ds, 0, x, v, h => by
    funext j
    simp only [List.set_cons_zero, act, zadd, zsm, Tp, List.getD_cons_zero]
    grind
  | d :: ds, k + 1, x, v, h => by
    rw [List.set_cons_succ, act, act_set ds k x v (by simpa using h), Tm_add, Tm_sm, act, List.getD_cons_succ]
    funext j
    simp only [zadd, zsm, Tp]
    grind
theorem act_app (l : List Int) (d : Int) (v : ZV) : act n mod (l ++ [d]) v = zadd (act n mod l v) (zsm d (Tp n mod l.length v)) := by
  induction l with
  | nil =>
    simp only [List.nil_append, act, Tm_zero, List.length_nil, Tp]
    funext j
    simp only [zadd, zsm, zzv]
    grind
  | cons c l ih =>
    rw [List.cons_append, act, ih, Tm_add, Tm_sm, act]
    funext j
    simp only [zadd, zsm, Tp, List.length_cons]
    grind
theorem act_take {ds : List Int} {k : Nat} (h : k < ds.length) (v : ZV) : act n mod (ds.take (k + 1)) v = zadd (act n mod (ds.take k) v) (zsm (ds.getD k 0) (Tp n mod k v)) := by
  rw [← take_push 0 h, act_app, List.length_take, Nat.min_eq_left (by omega)]
theorem act_zeros (k : Nat) (v : ZV) : act n mod (List.replicate k 0) v = zzv := by
  induction k with
  | zero => rfl
  | succ k ih =>
    rw [List.replicate_succ, act, ih, Tm_zero]
    funext j
    simp [zadd, zsm, zzv]
/-- the number 1 -/
def e0v : ZV := fun j => if j = 0 then 1 else 0
theorem Tp_e0 : ∀ {k : Nat}, k < n → Tp n mod k e0v = fun j => if j = k then 1 else 0
  | 0, _ => rfl
  | k + 1, h => by
    rw [Tp, Tp_e0 (by omega)]
    funext j
    simp only [Tm]
    by_cases hj : j < n
    · rw [if_pos hj, if_neg (show ¬ n - 1 = k by omega), Int.mul_zero, Int.sub_zero]
      by_cases h0 : j = 0
      · rw [if_pos h0, if_neg (by omega)]
      · rw [if_neg h0]
        by_cases h1 : j = k + 1
        · rw [if_pos h1, if_pos (by omega)]
        · rw [if_neg h1, if_neg (by omega)]
    · rw [if_neg hj, if_neg (by omega)]
theorem Tn_e0 (hn : 1 ≤ n) : Tp n mod n e0v = fun j => if j < n then - mod.getD j 0 else 0 := by
  obtain ⟨k, rfl⟩ : ∃ k, n = k + 1 := ⟨n - 1, by omega⟩
  rw [Tp, Tp_e0 (by omega)]
  funext j
  simp only [Tm, Nat.add_sub_cancel, if_true, Int.mul_one]
  by_cases hj : j < k + 1
  · rw [if_pos hj, if_pos hj]
    by_cases h0 : j = 0
    · rw [if_pos h0]; omega
    · rw [if_neg h0, if_neg (by omega)]; omega
  · rw [if_neg hj, if_neg hj]
theorem act_e0 {ds : List Int} (h : ds.length ≤ n) : act n mod ds e0v = fun j => ds.getD j 0 := by
  have : ∀ k, k ≤ ds.length → act n mod (ds.take k) e0v = fun j => if j < k then ds.getD j 0 else 0 := fun k => by
    induction k with
    | zero => intro _; funext j; simp [act, zzv]
    | succ k ih =>
      intro hk
      rw [act_take (by omega), ih (by omega), Tp_e0 (by omega)]
      funext j
      simp only [zadd, zsm]
      by_cases h1 : j < k
      · rw [if_pos h1, if_neg (by omega), if_pos (by omega)]; omega
      · by_cases h2 : j = k
        · subst h2; rw [if_neg h1, if_pos rfl, if_pos (by omega)]; omega
        · rw [if_neg h1, if_neg h2, if_neg (by omega)]; omega
  have h1 := this ds.length (Nat.le_refl _)
  rw [List.take_length] at h1
  rw [h1]
  funext j
  split
  · rfl
  · exact (getD_len _ (by omega)).symm
/-- equal modulo p -/
def cg (p : Int) (n : Nat) (v w : ZV) : Prop := ∀ j, j < n → p ∣ v j - w j
theorem cg.refl {p : Int} (v : ZV) : cg p n v v := fun j _ => by simp
theorem cg.symm {p : Int} {v w : ZV} (h : cg p n v w) : cg p n w v := fun j hj => by
  obtain ⟨k, hk⟩ := h j hj
  exact ⟨-k, by grind⟩
theorem cg.trans {p : Int} {u v w : ZV} (h : cg p n u v) (h' : cg p n v w) : cg p n u w := fun j hj => by
  obtain ⟨k, hk⟩ := h j hj
  obtain ⟨k', hk'⟩ := h' j hj
  exact ⟨k + k', by grind⟩
theorem cg.add {p : Int} {u v u' v' : ZV} (h : cg p n u v) (h' : cg p n u' v') : cg p n (zadd u u') (zadd v v') := fun j hj => by
  obtain ⟨k, hk⟩ := h j hj
  obtain ⟨k', hk'⟩ := h' j hj
  exact ⟨k + k', by simp only [zadd]; grind⟩
theorem cg.sm {p : Int} {c d : Int} {u v : ZV} (hc : p ∣ c - d) (h : cg p n u v) : cg p n (zsm c u) (zsm d v) := fun j hj => by
  obtain ⟨k, hk⟩ := h j hj
  obtain ⟨k', hk'⟩ := hc
  have e : c = d + p * k' := by grind
  exact ⟨d * k + k' * u j, by simp only [zsm]; rw [e]; grind⟩
theorem cg.T {p : Int} (hn : 1 ≤ n) {u v : ZV} (h : cg p n u v) : cg p n (Tm n mod u) (Tm n mod v) := fun j hj => by
  obtain ⟨k, hk⟩ := h (n - 1) (by omega)
  simp only [Tm, if_pos hj]
  by_cases h0 : j = 0
  · rw [if_pos h0, if_pos h0]
    exact ⟨- (mod.getD j 0 * k), by grind⟩
  · rw [if_neg h0, if_neg h0]
    obtain ⟨k', hk'⟩ := h (j - 1) (by omega)
    exact ⟨k' - mod.getD j 0 * k, by grind⟩
theorem cg.Tp {p : Int} (hn : 1 ≤ n) {u v : ZV} (h : cg p n u v) : ∀ k, cg p n (Tp n mod k u) (Tp n mod k v)
  | 0 => h
  | k + 1 => (cg.Tp hn h k).T hn
theorem cg.act {p : Int} (hn : 1 ≤ n) {u v : ZV} (h : cg p n u v) : ∀ ds, cg p n (act n mod ds u) (act n mod ds v)
  | [] => cg.refl _
  | d :: ds => (cg.sm (by simp) h).add ((cg.act hn h ds).T hn)
theorem emod_cg (p x : Int) : p ∣ x % p - x := ⟨-(x / p), by have := Int.emod_add_mul_ediv x p; grind⟩
end
end Go.Proofs.Yteijojnahpeglaa.AM
/-! The products of the program and of the reference, as vectors (plain Lean). -/
namespace Go.Proofs.Yteijojnahpeglaa.AM
open Go Go.RowKit
set_option linter.unusedVariables false
set_option linter.unusedSimpArgs false
def vecZ (l : List Int) : ZV := fun j => l.getD j 0
/-- the digits of x, as a vector -/
def vecX (p : Int) (n : Nat) (x : Int) : ZV := vecZ (digs p n x)
theorem digs_val {p : Int} (hp : 0 < p) : ∀ {ds : List Int}, Rng p ds → digs p ds.length (val p ds) = ds
  | [], _ => rfl
  | d :: ds, h => by
    have h0 := h 0
    simp only [List.getD_cons_zero] at h0
    have e1 : (d + p * val p ds) % p = d := by
      rw [Int.add_mul_emod_self_left]
      exact Int.emod_eq_of_lt h0.1 h0.2
    have e2 : (d + p * val p ds) / p = val p ds := by
      rw [Int.add_mul_ediv_left _ _ (by omega), Int.ediv_eq_zero_of_lt h0.1 h0.2, Int.zero_add]
    rw [val, List.length_cons, digs, e1, e2, digs_val hp h.tail]
theorem val_digs {p : Int} (hp : 0 < p) : ∀ (n : Nat) {x : Int}, 0 ≤ x → x < p ^ n → val p (digs p n x) = x
  | 0, x, h0, h1 => by simp at h1; simp [digs, val]; omega
  | n + 1, x, h0, h1 => by
    obtain ⟨h2, h3⟩ := div_pow hp h0 h1
    rw [digs, val, val_digs hp n h2 h3]
    have := Int.emod_add_mul_ediv x p
    omega
theorem vec_inj {p : Int} (hp : 0 < p) {n : Nat} {x y : Int} (hx : 0 ≤ x) (hx' : x < p ^ n) (hy : 0 ≤ y) (hy' : y < p ^ n) (h : cg p n (vecX p n x) (vecX p n y)) : x = y := by
  rw [← val_digs hp n hx hx', ← val_digs hp n hy hy']
  congr 1
  refine List.ext_getElem (by rw [digs_length, digs_length]) fun j h1 h2 => ?_
  rw [digs_length] at h1
  have h3 := digs_rng hp n x j
  have h4 := digs_rng hp n y j
  obtain ⟨k, hk⟩ := h j h1
  simp only [vecX, vecZ] at hk
  have : (digs p n x).getD j 0 = (digs p n y).getD j 0 := by
    have k0 : k = 0 := by
      by_cases hk0 : k = 0
      · exact hk0
      · exfalso
        rcases Int.lt_or_gt_of_ne hk0 with hlt | hgt
        · have : p * k ≤ p * (-1) := Int.mul_le_mul_of_nonneg_left (by omega) (by omega)
          omega
        · have : p * 1 ≤ p * k := Int.mul_le_mul_of_nonneg_left (by omega) (by omega)
          omega
    rw [k0] at hk
    omega
  simpa [List.getD_eq_getElem?_getD, h1, h2, digs_length] using this
theorem vec_val {p : Int} (hp : 0 < p) {n : Nat} {ds : List Int} (hl : ds.length = n) (hr : Rng p ds) : vecX p n (val p ds) = vecZ ds := by
  rw [vecX, ← hl, digs_val hp hr]
section
variable {p : Int} {n : Nat} {mod : List Int}
theorem horn_cg (hp : 0 < p) (hn : 1 ≤ n) {a b : List Int} (hb : b.length = n) : ∀ k, k ≤ n → cg p n (vecZ (horn p n mod a b k)) (act n mod (b.drop (n - k)) (vecZ a))
  | 0, _ => by
    rw [Nat.sub_zero, List.drop_of_length_le (by omega)]
    intro j hj
    have : vecZ (horn p n mod a b 0) j = 0 := by
      show (List.replicate n (0 : Int)).getD j 0 = 0
      simp [List.getD_eq_getElem?_getD, hj]
    rw [this]
    exact ⟨0, by simp [act, zzv]⟩
  | k + 1, hk => by
    have ih := horn_cg hp hn (a := a) hb k (by omega)
    rw [show horn p n mod a b (k + 1) = hornStep p n mod a (b.getD (n - 1 - k) 0) (horn p n mod a b k) from rfl]
    rw [show n - (k + 1) = n - 1 - k by omega, drop_getD (show n - 1 - k < b.length by omega), show n - 1 - k + 1 = n - k by omega, act]
    generalize horn p n mod a b k = out at *
    generalize b.getD (n - 1 - k) 0 = bi
    refine cg.trans (v := zadd (zsm bi (vecZ a)) (Tm n mod (vecZ out))) (fun j hj => ?_) ((cg.refl _).add (ih.T hn))
    have e : vecZ (hornStep p n mod a bi out) j = ((if j = 0 then 0 else out.getD (j - 1) 0) + (p - out.getD (n - 1) 0) * mod.getD j 0 + bi * a.getD j 0) % p := by
      show (hornStep p n mod a bi out).getD j 0 = _
      rw [hornStep, tab_get hj]
    rw [e]
    obtain ⟨q, hq⟩ := emod_cg p ((if j = 0 then 0 else out.getD (j - 1) 0) + (p - out.getD (n - 1) 0) * mod.getD j 0 + bi * a.getD j 0)
    simp only [zadd, zsm, Tm, if_pos hj, vecZ]
    exact ⟨q + mod.getD j 0, by grind⟩
theorem pmul_vec {m : Int} (hp : 0 < p) (hn : 1 ≤ m.toNat) (x y : Int) : cg p m.toNat (vecX p m.toNat (pmul p m mod x y)) (act m.toNat mod (digs p m.toNat y) (vecX p m.toNat x)) := by
  rw [pmul, vec_val hp (horn_length _ _ _ _ _ _) (horn_rng hp _ _ _ _ _)]
  have := horn_cg (mod := mod) hp hn (a := digs p m.toNat x) (b := digs p m.toNat y) (digs_length _ _ _) m.toNat (Nat.le_refl _)
  rw [Nat.sub_self, List.drop_zero] at this
  exact this
/-- one entry changes -/
theorem set_cg (hn : 1 ≤ n) {c : List Int} {k : Nat} (hk : k < c.length) (s : Int) (v : ZV) : cg p n (act n mod (c.set k ((c.getD k 0 + s) % p)) v) (zadd (act n mod c v) (zsm s (Tp n mod k v))) := by
  rw [act_set _ _ _ _ hk]
  refine (cg.refl _).add (cg.sm ?_ (cg.refl _))
  obtain ⟨q, hq⟩ := emod_cg p (c.getD k 0 + s)
  exact ⟨q, by grind⟩
theorem mulIn_cg (hn : 1 ≤ n) {a b : List Int} (hb : b.length = n) {i : Nat} (hi : i < n) {c : List Int} (hc : c.length = 2 * n - 1) : ∀ j, j ≤ n →
    (upto (mulIn p a b i) j c).length = 2 * n - 1 ∧ cg p n (act n mod (upto (mulIn p a b i) j c) e0v) (zadd (act n mod c e0v) (zsm (a.getD i 0) (Tp n mod i (act n mod (b.take j) e0v))))
  | 0, _ => by
    refine ⟨hc, ?_⟩
    have : zadd (act n mod c e0v) (zsm (a.getD i 0) (Tp n mod i (act n mod (b.take 0) e0v))) = act n mod c e0v := by
      have e : ∀ k, Tp n mod k zzv = zzv := fun k => by
        induction k with
        | zero => rfl
        | succ k ih => rw [Tp, ih, Tm_zero]
      rw [List.take_zero, act, e]
      funext j
      simp [zadd, zsm, zzv]
    rw [this]
    exact cg.refl _
  | j + 1, hj => by
    obtain ⟨h1, h2⟩ := mulIn_cg hn hb hi hc j (by omega)
    rw [upto_succ, mulIn]
    refine ⟨by rw [List.length_set, h1], (set_cg hn (by omega) _ _).trans ?_⟩
    refine (h2.add (cg.refl _)).trans ?_
    rw [act_take (by omega), Tp_add, Tp_sm, Tp_Tp]
    intro q hq
    simp only [zadd, zsm]
    exact ⟨0, by grind⟩
theorem mulP_cg (hn : 1 ≤ n) {a b : List Int} (ha : a.length = n) (hb : b.length = n) : ∀ i, i ≤ n →
    (upto (fun i c => upto (mulIn p a b i) n c) i (List.replicate (2 * n - 1) 0)).length = 2 * n - 1 ∧ cg p n (act n mod (upto (fun i c => upto (mulIn p a b i) n c) i (List.replicate (2 * n - 1) 0)) e0v) (act n mod (a.take i) (act n mod b e0v))
  | 0, _ => by
    refine ⟨by simp [upto], ?_⟩
    rw [upto_zero, act_zeros, List.take_zero, act]
    exact cg.refl _
  | i + 1, hi => by
    obtain ⟨h1, h2⟩ := mulP_cg hn ha hb i (by omega)
    rw [upto_succ]
    obtain ⟨h3, h4⟩ := mulIn_cg (p := p) (mod := mod) hn (a := a) hb (show i < n by omega) h1 n (Nat.le_refl _)
    refine ⟨h3, h4.trans ?_⟩
    rw [List.take_of_length_le (show b.length ≤ n by omega), act_take (show i < a.length by omega)]
    exact h2.add (cg.refl _)
theorem redIn_cg (hn : 1 ≤ n) {I : Nat} (hI : n ≤ I) {c : List Int} (hc : I < c.length) : ∀ j, j ≤ n →
    (upto (redIn p n mod I) j c).length = c.length ∧ (upto (redIn p n mod I) j c).getD I 0 = c.getD I 0 ∧
      cg p n (act n mod ((upto (redIn p n mod I) j c).take I) e0v) (zadd (act n mod (c.take I) e0v) (zsm (- c.getD I 0) (Tp n mod (I - n) (fun q => if q < j then mod.getD q 0 else 0))))
  | 0, _ => by
    refine ⟨rfl, rfl, ?_⟩
    have e : (fun q => if q < 0 then mod.getD q 0 else 0 : ZV) = zzv := funext fun q => by simp [zzv]
    have e2 : ∀ k, Tp n mod k zzv = zzv := fun k => by
      induction k with
      | zero => rfl
      | succ k ih => rw [Tp, ih, Tm_zero]
    rw [upto_zero, e, e2]
    intro q hq
    simp only [zadd, zsm, zzv]
    exact ⟨0, by grind⟩
  | j + 1, hj => by
    obtain ⟨h1, h2, h3⟩ := redIn_cg hn hI hc j (by omega)
    rw [upto_succ, redIn]
    generalize upto (redIn p n mod I) j c = d at *
    have hk : I - n + j < I := by omega
    refine ⟨by rw [List.length_set, h1], ?_, ?_⟩
    · rw [getD_set, if_neg (by omega), h2]
    · rw [List.take_set, h2]
      have hkt : I - n + j < (d.take I).length := by rw [List.length_take]; omega
      have eg : d.getD (I - n + j) 0 = (d.take I).getD (I - n + j) 0 := by simp [List.getD_eq_getElem?_getD, List.getElem?_take, hk]
      rw [eg]
      refine (set_cg hn hkt _ _).trans ?_
      refine (h3.add (cg.refl _)).trans ?_
      have e3 : (fun q => if q < j + 1 then mod.getD q 0 else 0 : ZV) = zadd (fun q => if q < j then mod.getD q 0 else 0) (zsm (mod.getD j 0) (Tp n mod j e0v)) := by
        rw [Tp_e0 (by omega)]
        funext q
        simp only [zadd, zsm]
        by_cases h4 : q < j
        · rw [if_pos (by omega), if_pos h4, if_neg (by omega)]; omega
        · by_cases h5 : q = j
          · subst h5; rw [if_pos (by omega), if_neg h4, if_pos rfl]; omega
          · rw [if_neg (by omega), if_neg h4, if_neg h5]; omega
      rw [e3, Tp_add, Tp_sm, Tp_Tp]
      intro q hq
      simp only [zadd, zsm]
      exact ⟨mod.getD j 0 * Tp n mod (I - n + j) e0v q, by grind⟩
theorem redP_cg (hn : 1 ≤ n) {c : List Int} (hc : c.length = 2 * n - 1) : ∀ k, k ≤ n - 1 →
    (upto (fun k c => upto (redIn p n mod (2 * n - 2 - k)) n c) k c).length = 2 * n - 1 ∧
      cg p n (act n mod ((upto (fun k c => upto (redIn p n mod (2 * n - 2 - k)) n c) k c).take (2 * n - 1 - k)) e0v) (act n mod c e0v)
  | 0, _ => by
    refine ⟨hc, ?_⟩
    rw [upto_zero, Nat.sub_zero, List.take_of_length_le (by omega)]
    exact cg.refl _
  | k + 1, hk => by
    obtain ⟨h1, h2⟩ := redP_cg hn hc k (by omega)
    rw [upto_succ]
    generalize upto (fun k c => upto (redIn p n mod (2 * n - 2 - k)) n c) k c = d at *
    obtain ⟨h3, h4, h5⟩ := redIn_cg (p := p) (mod := mod) hn (I := 2 * n - 2 - k) (by omega) (c := d) (by omega) n (Nat.le_refl _)
    refine ⟨by rw [h3, h1], ?_⟩
    rw [show 2 * n - 1 - (k + 1) = 2 * n - 2 - k by omega]
    refine h5.trans (cg.trans ?_ h2)
    rw [show 2 * n - 1 - k = (2 * n - 2 - k) + 1 by omega, act_take (by omega)]
    refine (cg.refl _).add ?_
    have e : Tp n mod (2 * n - 2 - k) e0v = zsm (-1) (Tp n mod (2 * n - 2 - k - n) (fun q => if q < n then mod.getD q 0 else 0)) := by
      rw [← Tp_sm]
      have : (zsm (-1) (fun q => if q < n then mod.getD q 0 else 0) : ZV) = Tp n mod n e0v := by
        rw [Tn_e0 hn]
        funext q
        simp only [zsm]
        split <;> omega
      rw [this, Tp_Tp]
      congr 1
      omega
    rw [e]
    intro q hq
    simp only [zsm]
    exact ⟨0, by grind⟩
theorem fmul_vec {m : Int} (hp : 0 < p) (hn : 1 ≤ m.toNat) (x y : Int) : cg p m.toNat (vecX p m.toNat (fmul p m mod x y)) (act m.toNat mod (digs p m.toNat x) (vecX p m.toNat y)) := by
  have l1 := digs_length p m.toNat x
  have l2 := digs_length p m.toNat y
  have r1 := digs_rng hp m.toNat x
  have r2 := digs_rng hp m.toNat y
  rw [fmul, vecX]
  generalize digs p m.toNat x = a at *
  rw [show vecX p m.toNat y = act m.toNat mod (digs p m.toNat y) e0v by rw [act_e0 (by omega)]; rfl]
  generalize digs p m.toNat y = b at *
  generalize m.toNat = n at *
  obtain ⟨h1, h2⟩ := mulP_cg (p := p) (mod := mod) hn l1 l2 n (Nat.le_refl _)
  have hok := upto_ok (L := 2 * n - 1) _ (fun i c' hc' => upto_ok _ (mulIn_ok hp a b i) hc' n) (show (List.replicate (2 * n - 1) (0 : Int)).length = 2 * n - 1 ∧ Rng p (List.replicate (2 * n - 1) 0) from ⟨by simp, Rng.rep hp _⟩) n
  obtain ⟨h3, h4⟩ := redP_cg (p := p) (mod := mod) hn h1 (n - 1) (Nat.le_refl _)
  have hok2 := upto_ok (L := 2 * n - 1) _ (fun k c' hc' => upto_ok _ (redIn_ok hp (n := n) mod (2 * n - 2 - k)) hc' n) hok (n - 1)
  rw [show 2 * n - 1 - (n - 1) = n by omega] at h4
  change (redP p n mod (mulP p n a b)).length = _ at h3
  change cg p n (act n mod ((redP p n mod (mulP p n a b)).take n) e0v) _ at h4
  change _ ∧ Rng p (redP p n mod (mulP p n a b)) at hok2
  generalize redP p n mod (mulP p n a b) = c at *
  have t6 : (c.take n).length = n := by simp; omega
  have t5 : Rng p (c.take n) := fun q => by
    by_cases hq : q < n
    · have := hok2.2 q
      simpa [List.getD_eq_getElem?_getD, List.getElem?_take, hq] using this
    · rw [getD_len _ (by omega)]
      exact ⟨by omega, hp⟩
  have e := vec_val hp t6 t5
  rw [vecX] at e
  rw [e]
  have e2 : vecZ (c.take n) = act n mod (c.take n) e0v := by rw [act_e0 (by omega)]; rfl
  rw [e2]
  refine h4.trans (h2.trans ?_)
  rw [List.take_of_length_le (by omega)]
  exact cg.refl _
end
end Go.Proofs.Yteijojnahpeglaa.AM
/-! The residues are a commutative ring; both products are one (plain Lean). -/
namespace Go.Proofs.Yteijojnahpeglaa.AM
open Go Go.RowKit
set_option linter.unusedVariables false
set_option linter.unusedSimpArgs false
/-- sizes that are in range -/
structure PM8 (p m : Int) : Prop where
  p2 : 2 ≤ p
  m1 : 1 ≤ m.toNat
  q : ordr p m = p ^ m.toNat
theorem pm8 {p m : Int} (h : ordr p m ≠ 0) : PM8 p m := by
  obtain ⟨o1, o2, o3, o4, o5⟩ := ordr_pos h
  exact ⟨o1, by omega, o5⟩
section
variable {p m : Int} {mod : List Int} (h : PM8 p m)
def El (p m x : Int) : Prop := 0 ≤ x ∧ x < ordr p m
theorem PM8.inj (h : PM8 p m) {x y : Int} (hx : El p m x) (hy : El p m y) (hv : cg p m.toNat (vecX p m.toNat x) (vecX p m.toNat y)) : x = y := by
  have := h.q
  exact vec_inj (by have := h.p2; omega) hx.1 (by rw [← this]; exact hx.2) hy.1 (by rw [← this]; exact hy.2) hv
theorem PM8.pos (h : PM8 p m) : 0 < p := by have := h.p2; omega
theorem PM8.val_el (h : PM8 p m) {ds : List Int} (hl : ds.length = m.toNat) (hr : Rng p ds) : El p m (val p ds) := by
  have := val_lt h.pos hr
  rw [hl, ← h.q] at this
  exact this
theorem addL_ok (h : PM8 p m) (x y : Int) : (addL p (digs p m.toNat x) (digs p m.toNat y)).length = m.toNat ∧ Rng p (addL p (digs p m.toNat x) (digs p m.toNat y)) :=
  ⟨by rw [addL, tab_length, digs_length], tab_rng h.pos fun i _ => ⟨Int.emod_nonneg _ (by have := h.pos; omega), Int.emod_lt_of_pos _ h.pos⟩⟩
theorem negL_ok (h : PM8 p m) (x : Int) : (negL p (digs p m.toNat x)).length = m.toNat ∧ Rng p (negL p (digs p m.toNat x)) :=
  ⟨by rw [negL, tab_length, digs_length], tab_rng h.pos fun i _ => ⟨Int.emod_nonneg _ (by have := h.pos; omega), Int.emod_lt_of_pos _ h.pos⟩⟩
theorem fadd_el (h : PM8 p m) (x y : Int) : El p m (fadd p m x y) := h.val_el (addL_ok h x y).1 (addL_ok h x y).2
theorem fneg_el (h : PM8 p m) (x : Int) : El p m (fneg p m x) := h.val_el (negL_ok h x).1 (negL_ok h x).2
theorem fmul_el (h : PM8 p m) (x y : Int) : El p m (fmul p m mod x y) := by
  have hp := h.pos
  have hn := h.m1
  rw [fmul]
  have l1 := digs_length p m.toNat x
  have l2 := digs_length p m.toNat y
  have q0 := h.q
  refine h.val_el ?_ ?_
  · have hok := upto_ok (L := 2 * m.toNat - 1) _ (fun i c' hc' => upto_ok _ (mulIn_ok hp (digs p m.toNat x) (digs p m.toNat y) i) hc' m.toNat) (show (List.replicate (2 * m.toNat - 1) (0 : Int)).length = 2 * m.toNat - 1 ∧ Rng p (List.replicate (2 * m.toNat - 1) 0) from ⟨by simp, Rng.rep hp _⟩) m.toNat
    have hok2 := upto_ok (L := 2 * m.toNat - 1) _ (fun k c' hc' => upto_ok _ (redIn_ok hp (n := m.toNat) mod (2 * m.toNat - 2 - k)) hc' m.toNat) hok (m.toNat - 1)
    change (redP p m.toNat mod (mulP p m.toNat _ _)).length = _ ∧ _ at hok2
    rw [List.length_take, hok2.1]
    omega
  · have hok := upto_ok (L := 2 * m.toNat - 1) _ (fun i c' hc' => upto_ok _ (mulIn_ok hp (digs p m.toNat x) (digs p m.toNat y) i) hc' m.toNat) (show (List.replicate (2 * m.toNat - 1) (0 : Int)).length = 2 * m.toNat - 1 ∧ Rng p (List.replicate (2 * m.toNat - 1) 0) from ⟨by simp, Rng.rep hp _⟩) m.toNat
    have hok2 := upto_ok (L := 2 * m.toNat - 1) _ (fun k c' hc' => upto_ok _ (redIn_ok hp (n := m.toNat) mod (2 * m.toNat - 2 - k)) hc' m.toNat) hok (m.toNat - 1)
    intro q
    by_cases hq : q < m.toNat
    · have := hok2.2 q
      simpa [redP, mulP, List.getD_eq_getElem?_getD, List.getElem?_take, hq] using this
    · rw [getD_len _ (by simp; omega)]
      exact ⟨by omega, hp⟩
theorem fadd_vec (h : PM8 p m) (x y : Int) : cg p m.toNat (vecX p m.toNat (fadd p m x y)) (zadd (vecX p m.toNat x) (vecX p m.toNat y)) := by
  rw [fadd, vec_val h.pos (addL_ok h x y).1 (addL_ok h x y).2]
  intro j hj
  show p ∣ (addL p _ _).getD j 0 - _
  rw [addL, tab_get (by rw [digs_length]; exact hj)]
  exact emod_cg _ _
theorem fneg_vec (h : PM8 p m) (x : Int) : cg p m.toNat (vecX p m.toNat (fneg p m x)) (zsm (-1) (vecX p m.toNat x)) := by
  rw [fneg, vec_val h.pos (negL_ok h x).1 (negL_ok h x).2]
  intro j hj
  show p ∣ (negL p _).getD j 0 - _
  rw [negL, tab_get (by rw [digs_length]; exact hj)]
  obtain ⟨k, hk⟩ := emod_cg p (p - (digs p m.toNat x).getD j 0)
  exact ⟨k + 1, by simp only [zsm, vecX, vecZ]; grind⟩
theorem act_x (h : PM8 p m) (x : Int) : act m.toNat mod (digs p m.toNat x) e0v = vecX p m.toNat x := by
  rw [act_e0 (by rw [digs_length]; exact Nat.le_refl _)]; rfl
theorem fmul_comm (h : PM8 p m) (x y : Int) : fmul p m mod x y = fmul p m mod y x := by
  refine h.inj (fmul_el h _ _) (fmul_el h _ _) ((fmul_vec h.pos h.m1 x y).trans (cg.trans ?_ (fmul_vec h.pos h.m1 y x).symm))
  rw [← act_x h (mod := mod) y, ← act_x h (mod := mod) x, act_comm]
  exact cg.refl _
theorem pmul_eq (ho : ordr p m ≠ 0) (x y : Int) : pmul p m mod x y = fmul p m mod x y := by
  have h := pm8 ho
  refine h.inj (pmul_el ho x y) (fmul_el h _ _) ?_
  rw [fmul_comm h]
  exact (pmul_vec h.pos h.m1 x y).trans (fmul_vec h.pos h.m1 y x).symm
theorem fmul_assoc (h : PM8 p m) (x y z : Int) : fmul p m mod (fmul p m mod x y) z = fmul p m mod x (fmul p m mod y z) := by
  rw [fmul_comm h _ z, fmul_comm h y z]
  refine h.inj (fmul_el h _ _) (fmul_el h _ _) ?_
  refine (fmul_vec h.pos h.m1 _ _).trans (cg.trans ?_ (fmul_vec h.pos h.m1 _ _).symm)
  refine ((fmul_vec h.pos h.m1 x y).act h.m1 _).trans (cg.trans ?_ ((fmul_vec h.pos h.m1 z y).act h.m1 _).symm)
  rw [act_comm]
  exact cg.refl _
theorem fmul_add (h : PM8 p m) (x y z : Int) : fmul p m mod x (fadd p m y z) = fadd p m (fmul p m mod x y) (fmul p m mod x z) := by
  refine h.inj (fmul_el h _ _) (fadd_el h _ _) ?_
  refine (fmul_vec h.pos h.m1 _ _).trans (cg.trans ?_ (fadd_vec h _ _).symm)
  refine ((fadd_vec h y z).act h.m1 _).trans (cg.trans ?_ ((fmul_vec h.pos h.m1 x y).add (fmul_vec h.pos h.m1 x z)).symm)
  rw [act_add]
  exact cg.refl _
theorem fadd_comm (h : PM8 p m) (x y : Int) : fadd p m x y = fadd p m y x := by
  refine h.inj (fadd_el h _ _) (fadd_el h _ _) ((fadd_vec h x y).trans (cg.trans ?_ (fadd_vec h y x).symm))
  intro j _
  exact ⟨0, by simp only [zadd]; grind⟩
theorem fadd_assoc (h : PM8 p m) (x y z : Int) : fadd p m (fadd p m x y) z = fadd p m x (fadd p m y z) := by
  refine h.inj (fadd_el h _ _) (fadd_el h _ _) ((fadd_vec h _ z).trans (((fadd_vec h x y).add (cg.refl _)).trans (cg.trans ?_ ((cg.refl _).add (fadd_vec h y z)).symm)) |>.trans (fadd_vec h x _).symm)
  intro j _
  exact ⟨0, by simp only [zadd]; grind⟩
theorem zero_el (h : PM8 p m) : El p m 0 := ⟨Int.le_refl _, by rw [h.q]; exact Int.pow_pos h.pos⟩
theorem one_el (h : PM8 p m) : El p m 1 := by
  refine ⟨by omega, ?_⟩
  have h1 : p ^ 1 ≤ p ^ m.toNat := ipow_mono (by have := h.p2; omega) h.m1
  rw [show p ^ 1 = p by rw [Int.pow_succ, Int.pow_zero, Int.one_mul]] at h1
  have := h.p2
  rw [h.q]; omega
theorem digs_zero (p : Int) : ∀ n, digs p n 0 = List.replicate n 0
  | 0 => rfl
  | n + 1 => by rw [digs, Int.zero_ediv, digs_zero p n, List.replicate_succ]; simp
theorem vec_zero (n : Nat) : vecX p n 0 = zzv := by
  rw [vecX, digs_zero]
  funext j
  show (List.replicate n (0 : Int)).getD j 0 = 0
  rw [List.getD_eq_getElem?_getD, List.getElem?_replicate]
  split <;> rfl
theorem vec_one (h : PM8 p m) : vecX p m.toNat 1 = e0v := by
  obtain ⟨k, hk⟩ : ∃ k, m.toNat = k + 1 := ⟨m.toNat - 1, by have := h.m1; omega⟩
  have h1 : (1 : Int) % p = 1 := Int.emod_eq_of_lt (by omega) (by have := h.p2; omega)
  have h2 : (1 : Int) / p = 0 := Int.ediv_eq_zero_of_lt (by omega) (by have := h.p2; omega)
  rw [vecX, hk, digs, h1, h2, digs_zero]
  funext j
  cases j with
  | zero => rfl
  | succ j =>
    show (List.replicate k (0 : Int)).getD j 0 = _
    rw [List.getD_eq_getElem?_getD, List.getElem?_replicate]
    simp only [e0v]
    split <;> rfl
theorem fadd_zero (h : PM8 p m) {x : Int} (hx : El p m x) : fadd p m x 0 = x := by
  refine h.inj (fadd_el h _ _) hx ((fadd_vec h x 0).trans ?_)
  rw [vec_zero]
  intro j _
  exact ⟨0, by simp only [zadd, zzv]; grind⟩
theorem fadd_neg (h : PM8 p m) (x : Int) : fadd p m x (fneg p m x) = 0 := by
  refine h.inj (fadd_el h _ _) (zero_el h) ((fadd_vec h x _).trans (((cg.refl _).add (fneg_vec h x)).trans ?_))
  rw [vec_zero]
  intro j _
  exact ⟨0, by simp only [zadd, zsm, zzv]; grind⟩
theorem fmul_one (h : PM8 p m) {x : Int} (hx : El p m x) : fmul p m mod x 1 = x := by
  refine h.inj (fmul_el h _ _) hx ((fmul_vec h.pos h.m1 x 1).trans ?_)
  rw [vec_one h, act_x h]
  exact cg.refl _
theorem fmul_zero (h : PM8 p m) (x : Int) : fmul p m mod x 0 = 0 := by
  refine h.inj (fmul_el h _ _) (zero_el h) ((fmul_vec h.pos h.m1 x 0).trans ?_)
  rw [vec_zero]
  have := act_sm (n := m.toNat) (mod := mod) (digs p m.toNat x) 0 zzv
  have e : ∀ v : ZV, zsm 0 v = zzv := fun v => funext fun j => by simp [zsm, zzv]
  rw [e, e] at this
  rw [this]
  exact cg.refl _
end
end Go.Proofs.Yteijojnahpeglaa.AM
/-! Powers of a generator; the algebra from: every field has a generator, and only fields have (plain Lean). -/
namespace Go.Proofs.Yteijojnahpeglaa.AM
open Go Go.RowKit
set_option linter.unusedVariables false
set_option linter.unusedSimpArgs false
theorem nodup_len {l : List Nat} {N : Nat} (hn : l.Nodup) (hl : ∀ x, x ∈ l → x < N) : l.length ≤ N := by
  have : l.Perm ((List.range N).filter fun x => l.contains x) := (List.perm_ext_iff_of_nodup hn (filter_nodup' _ _)).mpr fun a => by
    simp only [List.mem_filter, List.mem_range, List.contains_iff_mem]
    exact ⟨fun h => ⟨hl a h, h⟩, fun h => h.2⟩
  have h2 := List.length_filter_le (fun x => l.contains x) (List.range N)
  rw [this.length_eq]
  simpa using h2 where
  filter_nodup' (n : Nat) (s : Nat → Bool) : ((List.range n).filter s).Nodup := List.Nodup.sublist List.filter_sublist List.nodup_range
theorem pigeon {N : Nat} {f : Nat → Nat} (hf : ∀ i, i < N → f i < N) (hi : ∀ i j, i < j → j < N → f i ≠ f j) {y : Nat} (hy : y < N) : ∃ i, i < N ∧ f i = y := by
  apply Classical.byContradiction
  intro hc
  have hnd : (y :: (List.range N).map f).Nodup := by
    rw [List.nodup_cons]
    refine ⟨fun hm => ?_, ?_⟩
    · obtain ⟨i, h1, h2⟩ := List.mem_map.mp hm
      exact hc ⟨i, by simpa using h1, h2⟩
    · rw [List.Nodup, List.pairwise_iff_getElem]
      intro i j h1 h2 hij
      simp at h1 h2
      simpa using hi i j hij h2
  have := nodup_len (N := N) hnd fun x hx => by
    rcases List.mem_cons.mp hx with rfl | hx
    · exact hy
    · obtain ⟨i, h1, rfl⟩ := List.mem_map.mp hx
      exact hf i (by simpa using h1)
  simp at this
  omega
section
variable {p m : Int} {mod : List Int}
theorem pw_succ (h : PM8 p m) (ho : ordr p m ≠ 0) {x : Int} (hx : El p m x) : ∀ i, pw p m mod x (i + 1) = fmul p m mod (pw p m mod x i) x
  | 0 => by
    show x = fmul p m mod 1 x
    rw [fmul_comm h, fmul_one h hx]
  | i + 1 => pmul_eq ho _ _
theorem pw_elm (ho : ordr p m ≠ 0) {x : Int} (hx : El p m x) (i : Nat) : El p m (pw p m mod x i) := pw_el ho hx i
theorem pw_add (h : PM8 p m) (ho : ordr p m ≠ 0) {x : Int} (hx : El p m x) (i : Nat) : ∀ j, fmul p m mod (pw p m mod x i) (pw p m mod x j) = pw p m mod x (i + j)
  | 0 => fmul_one h (pw_elm ho hx i)
  | j + 1 => by rw [pw_succ h ho hx j, ← fmul_assoc h, pw_add h ho hx i j, ← Nat.add_assoc, pw_succ h ho hx]
/-- the number of elements but 0 -/
theorem gen_one (h : PM8 p m) (ho : ordr p m ≠ 0) {x : Int} (hx : El p m x) (hg : IsGen p m mod x) : pw p m mod x (ordr p m - 1).toNat = 1 := by
  have h1 := one_el h
  have := hg.2.2
  rw [pmul_eq ho, ← pw_succ h ho hx] at this
  rw [show (ordr p m - 1).toNat = (ordr p m - 2).toNat + 1 by have := h1.2; omega]
  exact this
theorem pw_mul (h : PM8 p m) (ho : ordr p m ≠ 0) {x : Int} (hx : El p m x) {N : Nat} (h1 : pw p m mod x N = 1) : ∀ k, pw p m mod x (N * k) = 1
  | 0 => rfl
  | k + 1 => by rw [Nat.mul_succ, ← pw_add h ho hx, pw_mul h ho hx h1 k, h1, fmul_one h (one_el h)]
theorem pw_mod (h : PM8 p m) (ho : ordr p m ≠ 0) {x : Int} (hx : El p m x) {N : Nat} (h1 : pw p m mod x N = 1) (i : Nat) : pw p m mod x (i % N) = pw p m mod x i := by
  have : pw p m mod x i = fmul p m mod (pw p m mod x (N * (i / N))) (pw p m mod x (i % N)) := by
    rw [pw_add h ho hx, Nat.div_add_mod]
  rw [this, pw_mul h ho hx h1, fmul_comm h, fmul_one h (pw_elm ho hx _)]
theorem gen_all (h : PM8 p m) (ho : ordr p m ≠ 0) {x : Int} (hx : El p m x) (hg : IsGen p m mod x) {y : Int} (hy : 1 ≤ y) (hy' : y < ordr p m) : ∃ n : Nat, (n : Int) < ordr p m - 1 ∧ y = pw p m mod x n := by
  have e1 := (one_el h).2
  obtain ⟨i, h1, h2⟩ := pigeon (N := (ordr p m - 1).toNat) (f := fun i => (pw p m mod x i - 1).toNat) (fun i hi => by
    have := pw_elm (mod := mod) ho hx i
    have h3 := hg.1 i (by omega)
    have h4 := this.1
    have h5 := this.2
    show (pw p m mod x i - 1).toNat < _
    omega) (fun i j hij hj q => by
    have a := pw_elm (mod := mod) ho hx i
    have b := pw_elm (mod := mod) ho hx j
    have h3 := hg.1 i (by omega)
    have h4 := hg.1 j (by omega)
    have a1 := a.1
    have b1 := b.1
    replace q : (pw p m mod x i - 1).toNat = (pw p m mod x j - 1).toNat := q
    exact hg.2.1 i j hij (by omega) (by omega)) (y := (y - 1).toNat) (by omega)
  have a := pw_elm (mod := mod) ho hx i
  have h3 := hg.1 i (by omega)
  have a1 := a.1
  replace h2 : (pw p m mod x i - 1).toNat = (y - 1).toNat := h2
  exact ⟨i, by omega, by omega⟩
theorem gen_inv (h : PM8 p m) (ho : ordr p m ≠ 0) {x : Int} (hx : El p m x) (hg : IsGen p m mod x) {y : Int} (hy : 1 ≤ y) (hy' : y < ordr p m) : ∃ v, 1 ≤ v ∧ v < ordr p m ∧ fmul p m mod y v = 1 := by
  have e1 := (one_el h).2
  obtain ⟨i, hi, rfl⟩ := gen_all h ho hx hg hy hy'
  have g1 := gen_one h ho hx hg
  refine ⟨pw p m mod x ((ordr p m - 1).toNat - i), ?_, (pw_elm ho hx _).2, ?_⟩
  · have := (pw_elm (mod := mod) ho hx ((ordr p m - 1).toNat - i)).1
    by_cases hi0 : i = 0
    · subst hi0; rw [Nat.sub_zero, g1]; omega
    · have := hg.1 ((ordr p m - 1).toNat - i) (by omega)
      omega
  · rw [pw_add h ho hx, show i + ((ordr p m - 1).toNat - i) = (ordr p m - 1).toNat by omega, g1]
theorem field_of_gen (h : PM8 p m) (ho : ordr p m ≠ 0) {x : Int} (hx : El p m x) (hg : IsGen p m mod x) : (fF p m mod).Ok := by
  have inv : ∀ y, (fF p m mod).El y → y ≠ 0 → fmul p m mod y (finv p m mod y) = 1 ∧ El p m (finv p m mod y) := fun y hy h0 => by
    have hex := gen_inv h ho hx hg (y := y) (by have := hy.1; omega) hy.2
    have hs := Classical.choose_spec hex
    rw [finv, dif_pos hex]
    exact ⟨hs.2.2, by have := hs.1; omega, hs.2.1⟩
  exact {
    q2 := by have := (one_el h).2; show 2 ≤ ordr p m; omega
    add_el := fun _ _ => fadd_el h _ _
    mul_el := fun _ _ => fmul_el h _ _
    neg_el := fun _ => fneg_el h _
    inv_el := fun {a} ha => by
      show El p m (finv p m mod a)
      by_cases h0 : a = 0
      · rw [finv]
        split
        · rename_i hex
          have hs := Classical.choose_spec hex
          exact ⟨by have := hs.1; omega, hs.2.1⟩
        · exact zero_el h
      · exact (inv a ha h0).2
    add_comm := fun _ _ => fadd_comm h _ _
    add_assoc := fun _ _ _ => fadd_assoc h _ _ _
    add_z := fun ha => fadd_zero h ha
    add_neg := fun _ => fadd_neg h _
    mul_comm := fun _ _ => fmul_comm h _ _
    mul_assoc := fun _ _ _ => fmul_assoc h _ _ _
    mul_u := fun ha => fmul_one h ha
    mul_add := fun _ _ _ => fmul_add h _ _ _
    mul_inv := fun ha h0 => (inv _ ha h0).1 }
end
theorem FieldOk.shape {p m : Int} {mod : List Int} (h : FieldOk p m mod) : Shape p m mod := by
  obtain ⟨h1, h2, h3⟩ := h
  rcases h3 with ⟨h4, h5⟩ | ⟨h4, h5, h6, h7⟩
  · exact ⟨h1, h2, fun _ => h5, fun q => (q h4).elim⟩
  · exact ⟨h1, h2, fun q => (h4 q).elim, fun _ => ⟨h5, h6⟩⟩
/-- every field has a generator -/
def GenEx : Prop := ∀ p m mod, FieldOk p m mod → ∃ x, 1 ≤ x ∧ x < ordr p m ∧ IsGen p m mod x
/-- what has a generator has no divisors -/
def GenIrr : Prop := ∀ p m mod x, Shape p m mod → m ≠ 1 → 1 ≤ x → x < ordr p m → IsGen p m mod x → irr p mod
theorem alg_of (h1 : GenEx) (h2 : GenIrr) : Alg where
  fo := fun p m mod hF => by
    obtain ⟨x, x1, x2, hg⟩ := h1 p m mod hF
    exact field_of_gen (pm8 hF.1) hF.1 ⟨by omega, x2⟩ hg
  gi := fun p m mod => by
    constructor
    · intro hF
      exact ⟨hF.shape, h1 p m mod hF⟩
    · rintro ⟨hS, x, x1, x2, hg⟩
      refine ⟨hS.1, hS.2.1, ?_⟩
      by_cases hm : m = 1
      · exact .inl ⟨hm, hS.2.2.1 hm⟩
      · exact .inr ⟨hm, (hS.2.2.2 hm).1, (hS.2.2.2 hm).2, h2 p m mod x hS hm x1 x2 hg⟩
  el := fun p m mod x hF x1 x2 hg => by
    have hx : El p m x := ⟨by omega, x2⟩
    refine ⟨fun y y1 y2 => gen_all (pm8 hF.1) hF.1 hx hg y1 y2, fun i j hi hj => ?_⟩
    rw [pw_add (pm8 hF.1) hF.1 hx, pw_mod (pm8 hF.1) hF.1 hx (gen_one (pm8 hF.1) hF.1 hx hg)]
end Go.Proofs.Yteijojnahpeglaa.AM
/-! What has a generator has no divisors (plain Lean). -/
namespace Go.Proofs.Yteijojnahpeglaa.AM
open Go Go.RowKit
set_option linter.unusedVariables false
set_option linter.unusedSimpArgs false
section
variable {p : Int} {n : Nat} {mod : List Int}
theorem divIn_cg (hn : 1 ≤ n) {low : List Int} {i : Nat} (hi : low.length ≤ i) (c : Int) {r : List Int} (hr : i < r.length) : ∀ j, j ≤ low.length →
    (upto (divIn p low i c) j r).length = r.length ∧ (upto (divIn p low i c) j r).getD i 0 = r.getD i 0 ∧
      cg p n (act n mod (upto (divIn p low i c) j r) e0v) (zadd (act n mod r e0v) (zsm (-c) (Tp n mod (i - low.length) (act n mod (low.take j) e0v))))
  | 0, _ => by
    refine ⟨rfl, rfl, ?_⟩
    have e2 : ∀ k, Tp n mod k zzv = zzv := fun k => by
      induction k with
      | zero => rfl
      | succ k ih => rw [Tp, ih, Tm_zero]
    rw [upto_zero, List.take_zero, act, e2]
    intro q hq
    simp only [zadd, zsm, zzv]
    exact ⟨0, by grind⟩
  | j + 1, hj => by
    obtain ⟨h1, h2, h3⟩ := divIn_cg hn hi c hr j (by omega)
    rw [upto_succ, divIn]
    generalize upto (divIn p low i c) j r = d at *
    have hk : i - low.length + j < i := by omega
    refine ⟨by rw [List.length_set, h1], ?_, ?_⟩
    · rw [getD_set, if_neg (by omega), h2]
    · refine (set_cg hn (by omega) _ _).trans ((h3.add (cg.refl _)).trans ?_)
      rw [act_take (by omega), Tp_add, Tp_sm, Tp_Tp]
      intro q hq
      simp only [zadd, zsm]
      exact ⟨low.getD j 0 * Tp n mod (i - low.length + j) e0v q, by grind⟩
theorem divStep_cg (hn : 1 ≤ n) {low : List Int} {i : Nat} (hi : low.length ≤ i) {r : List Int} (hr : i < r.length) :
    cg p n (act n mod (divStep p low i r) e0v) (zadd (act n mod r e0v) (zsm (- r.getD i 0) (Tp n mod (i - low.length) (zadd (act n mod low e0v) (Tp n mod low.length e0v))))) := by
  obtain ⟨h1, h2, h3⟩ := divIn_cg (p := p) (mod := mod) hn hi (r.getD i 0) hr low.length (Nat.le_refl _)
  rw [List.take_length] at h3
  rw [divStep, act_set _ _ _ _ (by omega), h2]
  refine (h3.add (cg.refl _)).trans ?_
  rw [Tp_add, Tp_Tp, show i - low.length + low.length = i by omega]
  intro q hq
  simp only [zadd, zsm]
  exact ⟨0, by grind⟩
theorem divRem_cg (hp : 1 < p) (hn : 1 ≤ n) (hm : mod.length = n) (rm : Rng p mod) {low : List Int} (hd : low.length ≤ n) : ∀ k, k ≤ n + 1 - low.length → ∃ q : List Int, q.length = n + 1 - low.length ∧ Rng p q ∧ (∀ t, t < n + 1 - low.length - k → q.getD t 0 = 0) ∧
    (0 < k → q.getD (n - low.length) 0 = 1) ∧ cg p n (zadd (act n mod (upto (fun k r => divStep p low (mod.length - k) r) k (mod ++ [1])) e0v) (act n mod q (zadd (act n mod low e0v) (Tp n mod low.length e0v)))) zzv
  | 0, _ => by
    refine ⟨List.replicate (n + 1 - low.length) 0, by simp, Rng.rep (by omega) _, fun t ht => ?_, fun h => by omega, ?_⟩
    · rw [List.getD_eq_getElem?_getD, List.getElem?_replicate]; split <;> rfl
    · rw [upto_zero, act_zeros, act_app, hm, act_e0 (by omega), Tn_e0 hn]
      intro j hj
      simp only [zadd, zsm, zzv, if_pos hj]
      exact ⟨0, by grind⟩
  | k + 1, hk => by
    obtain ⟨q, q1, q2, q3, q4, q5⟩ := divRem_cg hp hn hm rm hd k (by omega)
    obtain ⟨l1, l2⟩ := divRem_ok hp (low := low) rm k
    rw [upto_succ]
    have hlead : k = 0 → (upto (fun k r => divStep p low (mod.length - k) r) k (mod ++ [1])).getD (n - k) 0 = 1 := fun h0 => by
      subst h0
      rw [upto_zero, Nat.sub_zero, ← hm]
      simp [List.getD_eq_getElem?_getD]
    generalize upto (fun k r => divStep p low (mod.length - k) r) k (mod ++ [1]) = r at *
    have hs := divStep_cg (p := p) (mod := mod) hn (low := low) (i := n - k) (by omega) (r := r) (by omega)
    rw [hm]
    have rc := l2 (n - k)
    refine ⟨q.set (n - low.length - k) (r.getD (n - k) 0), by rw [List.length_set, q1], q2.set rc.1 rc.2 _, fun t ht => ?_, fun _ => ?_, ?_⟩
    · rw [getD_set, if_neg (by omega)]
      exact q3 t (by omega)
    · rw [getD_set]
      by_cases h0 : k = 0
      · rw [if_pos ⟨by omega, by omega⟩]; exact hlead h0
      · rw [if_neg (by omega)]; exact q4 (by omega)
    · rw [act_set _ _ _ _ (by omega), q3 _ (by omega)]
      refine (hs.add (cg.refl _)).trans (cg.trans ?_ q5)
      rw [show n - k - low.length = n - low.length - k by omega]
      intro j hj
      simp only [zadd, zsm]
      exact ⟨0, by grind⟩
end
theorem act_pad {n : Nat} {mod : List Int} (l : List Int) (v : ZV) : ∀ k, act n mod (l ++ List.replicate k 0) v = act n mod l v
  | 0 => by simp
  | k + 1 => by
    rw [List.replicate_succ', ← List.append_assoc, act_app, act_pad l v k]
    funext j
    simp [zadd, zsm]
theorem rng_pad {p : Int} (hp : 0 < p) {l : List Int} (h : Rng p l) (k : Nat) : Rng p (l ++ List.replicate k 0) := h.app (Rng.rep hp k)
theorem gen_irr : GenIrr := fun p m mod g hS hm1 g1 g2 hg => by
  have h := pm8 hS.1
  have ho := hS.1
  obtain ⟨hml, rm⟩ := hS.2.2.2 hm1
  have hn := h.m1
  have hp := h.p2
  intro d d1 d2 v v0 v1 hdiv
  generalize hnn : m.toNat = n at *
  have hmn : mod.length = n := by omega
  have ld := digs_length p d v
  have rd := digs_rng h.pos d v
  generalize digs p d v = low at *
  obtain ⟨q, q1, q2, -, q4, q5⟩ := divRem_cg (p := p) (mod := mod) (by omega) hn hmn rm (low := low) (by omega) (n + 1 - low.length) (Nat.le_refl _)
  have hz : act n mod (upto (fun k r => divStep p low (mod.length - k) r) (n + 1 - low.length) (mod ++ [1])) e0v = zzv := by
    have l1 := (divRem_ok (show 1 < p by omega) (low := low) rm (n + 1 - low.length)).1
    have : upto (fun k r => divStep p low (mod.length - k) r) (n + 1 - low.length) (mod ++ [1]) = List.replicate (n + 1) 0 := by
      refine List.ext_getElem (by rw [l1, hmn]; simp) fun j h1 h2 => ?_
      have := hdiv j
      rw [divRem, hmn] at this
      simp only [List.getElem_replicate]
      rw [hmn] at h1
      simpa [List.getD_eq_getElem?_getD, h1, hmn] using this
    rw [this, act_zeros]
  rw [hz] at q5
  have qlead := q4 (by omega)
  -- the two elements
  have rl : Rng p (low ++ [1]) := rd.app (Rng.one (by omega) (by omega))
  have xl : ((low ++ [1]) ++ List.replicate (n - d - 1) 0).length = m.toNat := by simp; omega
  have yl : (q ++ List.replicate (d - 1) 0).length = m.toNat := by simp; omega
  have xr := rng_pad h.pos rl (n - d - 1)
  have yr := rng_pad h.pos q2 (d - 1)
  have xe := h.val_el xl xr
  have ye := h.val_el yl yr
  have xv := vec_val h.pos xl xr
  have yd := digs_val h.pos yr
  rw [yl] at yd
  have prod : fmul p m mod (val p (q ++ List.replicate (d - 1) 0)) (val p ((low ++ [1]) ++ List.replicate (n - d - 1) 0)) = 0 := by
    refine h.inj (fmul_el h _ _) (zero_el h) ((fmul_vec h.pos h.m1 _ _).trans ?_)
    rw [yd, xv, vec_zero, act_pad]
    have e : vecZ ((low ++ [1]) ++ List.replicate (n - d - 1) 0) = zadd (act n mod low e0v) (Tp n mod low.length e0v) := by
      have e1 : vecZ ((low ++ [1]) ++ List.replicate (n - d - 1) 0) = act n mod ((low ++ [1]) ++ List.replicate (n - d - 1) 0) e0v := by
        rw [act_e0 (by rw [xl, hnn]; exact Nat.le_refl _)]; rfl
      rw [e1, act_pad, act_app]
      funext j
      simp only [zadd, zsm]
      omega
    rw [e, hnn]
    intro j hj
    obtain ⟨k, hk⟩ := q5 j hj
    simp only [zadd, zzv] at hk
    exact ⟨k, by simp only [zzv]; grind⟩
  have ne : ∀ {l : List Int} {t : Nat}, l.length = m.toNat → Rng p l → l.getD t 0 = 1 → val p l ≠ 0 := fun {l t} hl hr h1 h0 => by
    have := digs_val h.pos hr
    rw [h0, digs_zero] at this
    rw [← this, List.getD_eq_getElem?_getD, List.getElem?_replicate] at h1
    split at h1 <;> simp at h1
  have x0 := ne xl xr (t := d) (by
    have : d = low.length := ld.symm
    subst this
    simp [List.getD_eq_getElem?_getD, List.getElem?_append_left])
  have y0 := ne yl yr (t := n - low.length) (by
    rw [List.getD_eq_getElem?_getD, List.getElem?_append_left (by omega), ← List.getD_eq_getElem?_getD]
    exact qlead)
  have gx : El p m g := ⟨by omega, g2⟩
  obtain ⟨i, hi, ei⟩ := gen_all h ho gx hg (y := val p (q ++ List.replicate (d - 1) 0)) (by have := ye.1; omega) ye.2
  obtain ⟨j, hj, ej⟩ := gen_all h ho gx hg (y := val p ((low ++ [1]) ++ List.replicate (n - d - 1) 0)) (by have := xe.1; omega) xe.2
  rw [ei, ej, pw_add h ho gx, ← pw_mod h ho gx (gen_one h ho gx hg)] at prod
  refine hg.1 _ ?_ prod
  have e1 := (one_el h).2
  have := Nat.mod_lt (i + j) (show 0 < (ordr p m - 1).toNat by omega)
  omega
end Go.Proofs.Yteijojnahpeglaa.AM
/-! Products, powers and divisions of lists of digits that the kernel can work out (plain Lean). -/
namespace Go.Proofs.Yteijojnahpeglaa.AM
open Go Go.RowKit
set_option linter.unusedVariables false
set_option linter.unusedSimpArgs false
/-- x is worked out before f is called -/
def forceN {α : Type} (x : Nat) (f : Nat → α) : α := match x with
  | 0 => f 0
  | k + 1 => f (k + 1)
theorem forceN_eq {α : Type} (x : Nat) (f : Nat → α) : forceN x f = f x := by cases x <;> rfl
def forceL {α : Type} : List Nat → (List Nat → α) → α
  | [], f => f []
  | x :: xs, f => forceN x fun x' => forceL xs fun xs' => f (x' :: xs')
theorem forceL_eq {α : Type} : ∀ (l : List Nat) (f : List Nat → α), forceL l f = f l
  | [], f => rfl
  | x :: xs, f => by rw [forceL, forceN_eq, forceL_eq xs]
def goN (p t b : Nat) : Nat → List Nat → List Nat → List Nat → List Nat
  | prev, o :: os, ms, x :: xs => ((prev + (p - t) * ms.headD 0 + b * x) % p) :: goN p t b o os ms.tail xs
  | _, _, _, _ => []
def mulN (p n : Nat) (ms a : List Nat) : List Nat → List Nat
  | [] => List.replicate n 0
  | b :: bs => forceL (mulN p n ms a bs) fun out => goN p (out.getD (n - 1) 0) b 0 out ms a
def oneN (n : Nat) : List Nat := 1 :: List.replicate (n - 1) 0
def powN (p n : Nat) (ms g : List Nat) : Nat → Nat → List Nat
  | 0, _ => oneN n
  | f + 1, e => if e = 0 then oneN n else forceL (powN p n ms g f (e / 2)) fun h => forceL (mulN p n ms h h) fun s => if e % 2 = 1 then mulN p n ms s g else s
def divInN (p c i : Nat) (low : List Nat) (j : Nat) (r : List Nat) : List Nat := r.set (i - low.length + j) ((r.getD (i - low.length + j) 0 + (p - c) * low.getD j 0) % p)
def uptoF (f : Nat → List Nat → List Nat) : Nat → List Nat → List Nat
  | 0, a => a
  | n + 1, a => forceL (uptoF f n a) (f n)
def divStepN (p : Nat) (low : List Nat) (i : Nat) (r : List Nat) : List Nat := (uptoF (divInN p (r.getD i 0) i low) low.length r).set i 0
def divRemN (p : Nat) (low ms : List Nat) : List Nat := uptoF (fun k r => divStepN p low (ms.length - k) r) (ms.length + 1 - low.length) (ms ++ [1])
def digN (p : Nat) : Nat → Nat → List Nat
  | 0, _ => []
  | n + 1, x => x % p :: digN p n (x / p)
def allLt (p : Nat) (l : List Nat) : Prop := ∀ i, l.getD i 0 < p
theorem natsI_getD (l : List Nat) (j : Nat) : (natsI l).getD j 0 = ((l.getD j 0 : Nat) : Int) := by
  rw [natsI, List.getD_eq_getElem?_getD, List.getD_eq_getElem?_getD, List.getElem?_map]
  cases l[j]? <;> rfl
theorem natsI_set (l : List Nat) (k x : Nat) : natsI (l.set k x) = (natsI l).set k (x : Int) := by simp [natsI, List.map_set]
theorem natsI_rng {p : Nat} {l : List Nat} (h : allLt p l) : Rng (p : Int) (natsI l) := fun i => by
  rw [natsI_getD]
  have := h i
  omega
theorem natsI_inj {l l' : List Nat} (h : natsI l = natsI l') : l = l' := by
  exact (List.map_inj_right (fun a b h => by omega)).mp h
theorem digN_eq (p : Nat) : ∀ n x, natsI (digN p n x) = digs p n x
  | 0, _ => rfl
  | n + 1, x => by
    rw [digN, digs, natsI, List.map_cons, ← natsI, digN_eq p n]
    simp
theorem digN_length (p : Nat) : ∀ n x, (digN p n x).length = n
  | 0, _ => rfl
  | n + 1, x => by rw [digN, List.length_cons, digN_length p n]
theorem digN_lt {p : Nat} (hp : 0 < p) (n x : Nat) : allLt p (digN p n x) := fun i => by
  have := digs_rng (p := p) (by omega) n x i
  rw [← digN_eq, natsI_getD] at this
  omega
theorem goN_ok {p t b : Nat} (hp : 0 < p) : ∀ (prev : Nat) (os ms xs : List Nat), os.length = xs.length → (goN p t b prev os ms xs).length = os.length ∧
    ∀ j, j < os.length → (goN p t b prev os ms xs).getD j 0 = ((if j = 0 then prev else os.getD (j - 1) 0) + (p - t) * ms.getD j 0 + b * xs.getD j 0) % p
  | prev, [], ms, [], h => ⟨rfl, fun j hj => by simp at hj⟩
  | prev, o :: os, ms, x :: xs, h => by
    obtain ⟨h1, h2⟩ := goN_ok hp o os ms.tail xs (by simpa using h)
    rw [goN]
    refine ⟨by rw [List.length_cons, h1]; rfl, fun j hj => ?_⟩
    cases j with
    | zero =>
      simp only [List.getD_cons_zero, if_true]
      cases ms <;> rfl
    | succ j =>
      rw [List.getD_cons_succ, h2 j (by simpa using hj)]
      have e : ms.tail.getD j 0 = ms.getD (j + 1) 0 := by cases ms <;> rfl
      rw [e, List.getD_cons_succ]
      cases j with
      | zero => rw [if_pos rfl, if_neg (by omega)]; rfl
      | succ j => rw [if_neg (by omega), if_neg (by omega)]; rfl
  | prev, [], ms, _ :: _, h => by simp at h
  | prev, _ :: _, ms, [], h => by simp at h
theorem mulN_ok {p n : Nat} (hp : 0 < p) (hn : 1 ≤ n) {ms a : List Nat} (ha : a.length = n) : ∀ bs : List Nat, (mulN p n ms a bs).length = n ∧ allLt p (mulN p n ms a bs) ∧
    cg p n (vecZ (natsI (mulN p n ms a bs))) (act n (natsI ms) (natsI bs) (vecZ (natsI a)))
  | [] => by
    refine ⟨by simp [mulN], fun i => ?_, fun j hj => ?_⟩
    · rw [mulN, List.getD_eq_getElem?_getD, List.getElem?_replicate]
      split <;> simpa using hp
    · have : vecZ (natsI (mulN p n ms a [])) j = 0 := by
        show (natsI (List.replicate n 0)).getD j 0 = 0
        rw [natsI_getD, List.getD_eq_getElem?_getD, List.getElem?_replicate]
        split <;> rfl
      rw [this]
      exact ⟨0, by simp [natsI, act, zzv]⟩
  | b :: bs => by
    obtain ⟨h1, h2, h3⟩ := mulN_ok hp hn ha (ms := ms) bs
    rw [mulN, forceL_eq]
    generalize mulN p n ms a bs = out at *
    obtain ⟨g1, g2⟩ := goN_ok (t := out.getD (n - 1) 0) (b := b) hp 0 out ms a (by omega)
    have ht := h2 (n - 1)
    refine ⟨by rw [g1, h1], fun i => ?_, ?_⟩
    · by_cases hi : i < out.length
      · rw [g2 i hi]; exact Nat.mod_lt _ hp
      · rw [getD_len _ (by omega)]; exact hp
    · rw [show natsI (b :: bs) = (b : Int) :: natsI bs from rfl, act]
      refine cg.trans (v := zadd (zsm (b : Int) (vecZ (natsI a))) (Tm n (natsI ms) (vecZ (natsI out)))) (fun j hj => ?_) ((cg.refl _).add (h3.T hn))
      have e : vecZ (natsI (goN p (out.getD (n - 1) 0) b 0 out ms a)) j = (((if j = 0 then 0 else ((out.getD (j - 1) 0 : Nat) : Int)) + ((p : Int) - (out.getD (n - 1) 0 : Nat)) * (ms.getD j 0 : Nat) + (b : Int) * (a.getD j 0 : Nat)) % (p : Int)) := by
        show (natsI _).getD j 0 = _
        rw [natsI_getD, g2 j (by omega)]
        have : ((p - out.getD (n - 1) 0 : Nat) : Int) = (p : Int) - (out.getD (n - 1) 0 : Nat) := by omega
        rw [Int.natCast_emod, Int.natCast_add, Int.natCast_add, Int.natCast_mul, Int.natCast_mul, this]
        split <;> rfl
      rw [e]
      obtain ⟨q, hq⟩ := emod_cg (p : Int) ((if j = 0 then 0 else ((out.getD (j - 1) 0 : Nat) : Int)) + ((p : Int) - (out.getD (n - 1) 0 : Nat)) * (ms.getD j 0 : Nat) + (b : Int) * (a.getD j 0 : Nat))
      simp only [zadd, zsm, Tm, if_pos hj, vecZ, natsI_getD]
      exact ⟨q + (ms.getD j 0 : Nat), by grind⟩
section
variable {p n : Nat} {ms : List Nat}
/-- the number of a list of digits -/
theorem mulN_val (h : PM8 (p : Int) (n : Int)) {a b : List Nat} (ha : a.length = n) (hb : b.length = n) (la : allLt p a) (lb : allLt p b) :
    val p (natsI (mulN p n ms a b)) = fmul p n (natsI ms) (val p (natsI a)) (val p (natsI b)) := by
  have hp : 0 < p := by have := h.p2; omega
  have hn : 1 ≤ n := by have := h.m1; omega
  obtain ⟨h1, h2, h3⟩ := mulN_ok hp hn (ms := ms) ha b
  have hnn : ((n : Int)).toNat = n := rfl
  rw [fmul_comm h]
  refine h.inj (h.val_el (by rw [natsI_length, h1]; rfl) (natsI_rng h2)) (fmul_el h _ _) ?_
  rw [vec_val h.pos (by rw [natsI_length, h1]; rfl) (natsI_rng h2)]
  refine cg.trans ?_ (fmul_vec h.pos h.m1 _ _).symm
  have e1 : digs p ((n : Int)).toNat (val p (natsI b)) = natsI b := by
    have := digs_val h.pos (natsI_rng lb)
    rw [natsI_length, hb] at this
    exact this
  rw [e1, vec_val h.pos (by rw [natsI_length, ha]; rfl) (natsI_rng la)]
  exact h3
theorem oneN_ok (h : PM8 (p : Int) (n : Int)) : (oneN n).length = n ∧ allLt p (oneN n) ∧ val p (natsI (oneN n)) = 1 := by
  have hp := h.p2
  have hn : 1 ≤ n := by have := h.m1; omega
  refine ⟨by simp [oneN]; omega, fun i => ?_, ?_⟩
  · cases i with
    | zero => show 1 < p; omega
    | succ i =>
      show (List.replicate (n - 1) 0).getD i 0 < p
      rw [List.getD_eq_getElem?_getD, List.getElem?_replicate]
      split <;> (simp; omega)
  · have hz : ∀ k, val (p : Int) (natsI (List.replicate k 0)) = 0 := fun k => by
      induction k with
      | zero => rfl
      | succ k ih => rw [List.replicate_succ]; show (0 : Int) + p * val p (natsI (List.replicate k 0)) = 0; rw [ih]; simp
    show (1 : Int) + p * val p (natsI (List.replicate (n - 1) 0)) = 1
    rw [hz]; simp
theorem powN_ok (h : PM8 (p : Int) (n : Int)) {g : List Nat} (hg : g.length = n) (lg : allLt p g) (ho : ordr (p : Int) (n : Int) ≠ 0) : ∀ f e, e < 2 ^ f → (powN p n ms g f e).length = n ∧ allLt p (powN p n ms g f e) ∧ val p (natsI (powN p n ms g f e)) = pw p n (natsI ms) (val p (natsI g)) e
  | 0, e, he => by
    have : e = 0 := by simpa using he
    subst this
    exact oneN_ok h
  | f + 1, e, he => by
    have hp : 0 < p := by have := h.p2; omega
    have hn : 1 ≤ n := by have := h.m1; omega
    rw [powN]
    split
    · rename_i h0; subst h0; exact oneN_ok h
    · rename_i h0
      rw [Nat.pow_succ] at he
      obtain ⟨h1, h2, h3⟩ := powN_ok h hg lg ho f (e / 2) (by omega)
      rw [forceL_eq, forceL_eq]
      have gx : El (p : Int) (n : Int) (val p (natsI g)) := h.val_el (by rw [natsI_length, hg]; rfl) (natsI_rng lg)
      generalize powN p n ms g f (e / 2) = w at *
      obtain ⟨s1, s2, -⟩ := mulN_ok hp hn (ms := ms) h1 w
      have s3 := mulN_val (ms := ms) h h1 h1 h2 h2
      rw [h3, pw_add h ho gx] at s3
      split
      · rename_i hodd
        obtain ⟨t1, t2, -⟩ := mulN_ok hp hn (ms := ms) s1 g
        refine ⟨t1, t2, ?_⟩
        rw [mulN_val h s1 hg s2 lg, s3, ← pw_succ h ho gx]
        congr 1
        omega
      · rename_i heven
        refine ⟨s1, s2, ?_⟩
        rw [s3]
        congr 1
        omega
end
theorem uptoF_eq (f : Nat → List Nat → List Nat) : ∀ n a, uptoF f n a = upto f n a
  | 0, a => rfl
  | n + 1, a => by rw [uptoF, forceL_eq, uptoF_eq f n]; rfl
theorem divInN_eq {p c i : Nat} (hc : c < p) (low : List Nat) : ∀ j (r : List Nat), natsI (upto (divInN p c i low) j r) = upto (divIn (p : Int) (natsI low) i (c : Int)) j (natsI r)
  | 0, r => rfl
  | j + 1, r => by
    rw [upto_succ, upto_succ, ← divInN_eq hc low j r, divInN, divIn, natsI_set, natsI_length, natsI_getD, natsI_getD]
    congr 1
    have : ((p - c : Nat) : Int) = (p : Int) - (c : Int) := by omega
    rw [Int.natCast_emod, Int.natCast_add, Int.natCast_mul, this]
theorem divRemN_eq {p : Nat} (hp : 1 < p) {low ms : List Nat} (hm : allLt p ms) : ∀ k, natsI (upto (fun k r => divStepN p low (ms.length - k) r) k (ms ++ [1])) = upto (fun k r => divStep (p : Int) (natsI low) ((natsI ms).length - k) r) k (natsI ms ++ [1])
  | 0 => by simp [upto, natsI]
  | k + 1 => by
    have ih := divRemN_eq hp (low := low) hm k
    have hr := (divRem_ok (p := (p : Int)) (by omega) (low := natsI low) (natsI_rng hm) k).2
    rw [upto_succ, upto_succ, ← ih]
    rw [← ih] at hr
    generalize upto (fun k r => divStepN p low (ms.length - k) r) k (ms ++ [1]) = r at *
    have hc := hr (ms.length - k)
    rw [natsI_getD] at hc
    rw [divStepN, divStep, natsI_set, uptoF_eq, divInN_eq (by omega), natsI_length, natsI_length, natsI_getD]
    rfl
theorem divsN {p : Nat} (hp : 1 < p) {low ms : List Nat} (hm : allLt p ms) (h : (divRemN p low ms).all (fun x => x == 0) = true) : divs (p : Int) (natsI low) (natsI ms) := by
  intro i
  have e := divRemN_eq hp (low := low) hm (ms.length + 1 - low.length)
  rw [divRem, natsI_length, natsI_length]
  rw [natsI_length] at e
  rw [← e, natsI_getD, ← uptoF_eq]
  show ((divRemN p low ms).getD i 0 : Int) = 0
  rw [List.all_eq_true] at h
  by_cases hi : i < (divRemN p low ms).length
  · have := h _ (List.getElem_mem hi)
    simp only [beq_iff_eq] at this
    rw [List.getD_eq_getElem?_getD, List.getElem?_eq_getElem hi]
    simp [this]
  · rw [getD_len _ (by omega)]; rfl
end Go.Proofs.Yteijojnahpeglaa.AM
/-! The check of a certificate, and what it shows (plain Lean). -/
namespace Go.Proofs.Yteijojnahpeglaa.AM
open Go Go.RowKit
set_option linter.unusedVariables false
set_option linter.unusedSimpArgs false
def eqL : List Nat → List Nat → Bool
  | [], [] => true
  | x :: xs, y :: ys => Nat.beq x y && eqL xs ys
  | _, _ => false
theorem eqL_iff : ∀ {l l' : List Nat}, eqL l l' = true ↔ l = l'
  | [], [] => by simp [eqL]
  | x :: xs, y :: ys => by
    rw [eqL, Bool.and_eq_true, eqL_iff, List.cons.injEq, Nat.beq_eq]
  | [], y :: ys => by simp [eqL]
  | x :: xs, [] => by simp [eqL]
/-- each divisor of N divides one of Ds -/
def okDs (N : Nat) (Ds : List Nat) : Bool := (List.range N).all fun e => Nat.beq e 0 || !(Nat.beq (N % e) 0) || Ds.any fun d => Nat.beq (d % e) 0
def chkGen (p n : Nat) (ms g Ds : List Nat) (N : Nat) : Bool := eqL (powN p n ms g 8 N) (oneN n) && Ds.all fun d => !(eqL (powN p n ms g 8 d) (oneN n))
def chk1 (p n : Nat) (Ds : List Nat) (v c : Nat) : Bool :=
  if c < p ^ n then forceL (digN p n v) fun ms => forceL (digN p n c) fun g => chkGen p n ms g Ds (p ^ n - 1)
  else forceL (digN p n v) fun ms => Nat.ble 1 (c / p ^ n) && Nat.ble (2 * (c / p ^ n)) n && Nat.ble (c % p ^ n + 1) (p ^ (c / p ^ n)) && forceL (digN p (c / p ^ n) (c % p ^ n)) fun low => (divRemN p low ms).all fun x => x == 0
def chkAll (p n : Nat) (Ds : List Nat) : Nat → List Nat → Bool
  | _, [] => true
  | v, c :: cs => chk1 p n Ds v c && forceN (v + 1) fun v' => chkAll p n Ds v' cs
def chkTab (p n : Nat) (Ds : List Nat) (cs : List Nat) : Bool := Nat.beq cs.length (p ^ n) && okDs (p ^ n - 1) Ds && chkAll p n Ds 0 cs
def chkE (p : Nat) (e : Bool × Nat × List Nat) : Bool := match e.1 with
  | true => okDs (p - 1) e.2.2 && Nat.ble (e.2.1 + 1) p && (e.2.2.all fun d => Nat.ble (d + 1) 256) && chkGen p 1 [] [e.2.1] e.2.2 (p - 1)
  | false => Nat.ble 2 e.2.1 && Nat.ble (e.2.1 + 1) p && Nat.beq (p % e.2.1) 0
def chkP : Nat → List (Bool × Nat × List Nat) → Bool
  | _, [] => true
  | p, e :: l => chkE p e && forceN (p + 1) fun p' => chkP p' l
theorem chkAll_at {p n : Nat} {Ds : List Nat} : ∀ {cs : List Nat} {v i : Nat}, chkAll p n Ds v cs = true → i < cs.length → chk1 p n Ds (v + i) (cs.getD i 0) = true
  | [], v, i, _, hi => by simp at hi
  | c :: cs, v, i, h, hi => by
    rw [chkAll, forceN_eq, Bool.and_eq_true] at h
    cases i with
    | zero => exact h.1
    | succ i =>
      have := chkAll_at (i := i) h.2 (by simpa using hi)
      rwa [show v + 1 + i = v + (i + 1) by omega] at this
theorem chkP_at : ∀ {l : List (Bool × Nat × List Nat)} {p i : Nat}, chkP p l = true → i < l.length → ∃ e, chkE (p + i) e = true
  | [], p, i, _, hi => by simp at hi
  | e :: l, p, i, h, hi => by
    rw [chkP, forceN_eq, Bool.and_eq_true] at h
    cases i with
    | zero => exact ⟨e, h.1⟩
    | succ i =>
      have := chkP_at (i := i) h.2 (by simpa using hi)
      rwa [show p + 1 + i = p + (i + 1) by omega] at this
section
variable {p m : Int} {mod : List Int}
theorem pw_gcd (h : PM8 p m) (ho : ordr p m ≠ 0) {x : Int} (hx : El p m x) (a b : Nat) (ha : pw p m mod x a = 1) (hb : pw p m mod x b = 1) : pw p m mod x (Nat.gcd a b) = 1 := by
  induction a, b using Nat.gcd.induction with
  | H0 n => rw [Nat.gcd_zero_left]; exact hb
  | H1 a b ha0 ih =>
    rw [Nat.gcd_rec]
    exact ih (by rw [pw_mod h ho hx ha]; exact hb) ha
theorem pw_ne_zero (h : PM8 p m) (ho : ordr p m ≠ 0) {x : Int} (hx : El p m x) {N : Nat} (h1 : pw p m mod x N = 1) {i : Nat} (hi : i ≤ N) : pw p m mod x i ≠ 0 := fun h0 => by
  have := pw_add (mod := mod) h ho hx (N - i) i
  rw [h0, fmul_zero h, show N - i + i = N by omega, h1] at this
  omega
theorem gen_of_order (h : PM8 p m) (ho : ordr p m ≠ 0) {x : Int} (hx : El p m x) {N : Nat} (hN : (N : Int) = ordr p m - 1) (h1 : pw p m mod x N = 1) {Ds : List Nat} (hD : ∀ d, d ∈ Ds → pw p m mod x d ≠ 1) (hok : okDs N Ds = true) : IsGen p m mod x := by
  have e1 := (one_el h).2
  refine ⟨fun i hi => pw_ne_zero h ho hx h1 (by omega), fun i j hij hj q => ?_, ?_⟩
  · -- two equal powers
    have hd : pw p m mod x (j - i) = 1 := by
      have a := pw_add (mod := mod) h ho hx (N - i) j
      have b := pw_add (mod := mod) h ho hx (N - i) i
      rw [← q, b, show N - i + i = N by omega, h1] at a
      have : pw p m mod x (N - i + j) = pw p m mod x (j - i) := by
        have c := pw_add (mod := mod) h ho hx N (j - i)
        rw [h1, fmul_comm h, fmul_one h (pw_elm ho hx _)] at c
        rw [c]
        congr 1
        omega
      rw [← this, ← a]
    have he := pw_gcd h ho hx (j - i) N hd h1
    have g1 := Nat.gcd_dvd_left (j - i) N
    have g2 := Nat.gcd_dvd_right (j - i) N
    have g3 := Nat.gcd_pos_of_pos_left N (show 0 < j - i by omega)
    have g4 := Nat.le_of_dvd (by omega) g1
    generalize Nat.gcd (j - i) N = e at *
    rw [okDs, List.all_eq_true] at hok
    have := hok e (by simp; omega)
    simp only [Bool.or_eq_true, Bool.not_eq_true', Nat.beq_eq, List.any_eq_true] at this
    rcases this with (h0 | h0) | ⟨d, h2, h3⟩
    · omega
    · rw [Nat.mod_eq_zero_of_dvd g2] at h0
      cases h0
    · refine hD d h2 ?_
      obtain ⟨k, rfl⟩ := Nat.dvd_of_mod_eq_zero h3
      exact pw_mul h ho hx he k
  · rw [pmul_eq ho, ← pw_succ h ho hx, show (ordr p m - 2).toNat + 1 = N by omega, h1]
end
theorem chkGen_ok {p n : Nat} (h : PM8 (p : Int) (n : Int)) (ho : ordr (p : Int) (n : Int) ≠ 0) (hq : p ^ n ≤ 256) {ms g Ds : List Nat} (hg : g.length = n) (lg : allLt p g) (hD : ∀ d, d ∈ Ds → d < 256) (hok : okDs (p ^ n - 1) Ds = true) (hc : chkGen p n ms g Ds (p ^ n - 1) = true) :
    El (p : Int) (n : Int) (val p (natsI g)) ∧ IsGen p n (natsI ms) (val p (natsI g)) := by
  have gx : El (p : Int) (n : Int) (val p (natsI g)) := h.val_el (by rw [natsI_length, hg]; rfl) (natsI_rng lg)
  rw [chkGen, Bool.and_eq_true, eqL_iff, List.all_eq_true] at hc
  obtain ⟨h1, h2⟩ := hc
  have one := oneN_ok h
  have q0 : ordr (p : Int) (n : Int) = ((p ^ n : Nat) : Int) := by
    rw [h.q]; simp
  have qp : 0 < p ^ n := Nat.pow_pos (by have := h.p2; omega)
  refine ⟨gx, gen_of_order h ho gx (N := p ^ n - 1) (by omega) ?_ (Ds := Ds) (fun d hd he => ?_) hok⟩
  · rw [← (powN_ok (ms := ms) h hg lg ho 8 (p ^ n - 1) (by omega)).2.2, h1]
    exact one.2.2
  · have := h2 d hd
    obtain ⟨a1, a2, a3⟩ := powN_ok (ms := ms) h hg lg ho 8 d (by have := hD d hd; omega)
    rw [Bool.not_eq_true', ← Bool.not_eq_true, eqL_iff] at this
    refine this (natsI_inj ?_)
    rw [he] at a3
    have b1 := digs_val h.pos (natsI_rng a2)
    have b2 := digs_val h.pos (natsI_rng one.2.1)
    rw [natsI_length, a1] at b1
    rw [natsI_length, one.1] at b2
    rw [← b1, ← b2, a3, one.2.2]
theorem val_toNat {p : Nat} (hp : 0 < p) {mod : List Int} (hr : Rng (p : Int) mod) : natsI (digN p mod.length (val p mod).toNat) = mod := by
  have hv := (val_lt (show (0 : Int) < p by omega) hr).1
  rw [digN_eq, Int.toNat_of_nonneg hv, digs_val (by omega) hr]
/-- a table shows that its fields have generators -/
theorem tab_gen {p n : Nat} (h : PM8 (p : Int) (n : Int)) (ho : ordr (p : Int) (n : Int) ≠ 0) (hq : p ^ n ≤ 256) {Ds cs : List Nat} (hD : ∀ d, d ∈ Ds → d < 256) (ht : chkTab p n Ds cs = true) {mod : List Int} (hm : mod.length = n) (rm : Rng (p : Int) mod) (hi : irr p mod) :
    ∃ x, El (p : Int) (n : Int) x ∧ IsGen p n mod x := by
  have hp : 1 < p := by have := h.p2; omega
  rw [chkTab, Bool.and_eq_true, Bool.and_eq_true, Nat.beq_eq] at ht
  obtain ⟨⟨t1, t2⟩, t3⟩ := ht
  have hv := val_lt (show (0 : Int) < p by omega) rm
  rw [hm] at hv
  have e0 : ((p : Int)) ^ n = ((p ^ n : Nat) : Int) := by simp
  have hv1 := hv.1
  have hv2 := hv.2
  rw [e0] at hv2
  have hvn : (val p mod).toNat < cs.length := by rw [t1]; omega
  have hc := chkAll_at t3 hvn
  rw [Nat.zero_add] at hc
  have hms := val_toNat (by omega) rm
  rw [hm] at hms
  generalize cs.getD (val p mod).toNat 0 = c at *
  generalize (val p mod).toNat = v at *
  rw [chk1] at hc
  split at hc
  · rw [forceL_eq, forceL_eq] at hc
    have := chkGen_ok h ho hq (digN_length p n c) (digN_lt (by omega) n c) hD t2 hc
    rw [hms] at this
    exact ⟨_, this⟩
  · rw [forceL_eq, forceL_eq] at hc
    simp only [Bool.and_eq_true, Nat.ble_eq] at hc
    obtain ⟨⟨⟨c1, c2⟩, c3⟩, c4⟩ := hc
    exfalso
    have hd := divsN hp (digN_lt (by omega) n v) c4
    rw [hms, digN_eq] at hd
    refine hi (c / p ^ n) c1 (by omega) _ (Int.natCast_nonneg _) ?_ hd
    have : ((p : Int)) ^ (c / p ^ n) = ((p ^ (c / p ^ n) : Nat) : Int) := by simp
    rw [this]
    exact Int.ofNat_lt.mpr c3
theorem prime_gen {p : Nat} (h2 : 2 ≤ p) (h3 : p ≤ 256) (hp : prm (p : Int)) {e : Bool × Nat × List Nat} (hc : chkE p e = true) : ∃ x, El (p : Int) 1 x ∧ IsGen p 1 [] x := by
  obtain ⟨b, g, Ds⟩ := e
  have ho : ordr (p : Int) ((1 : Nat) : Int) ≠ 0 := by
    have e1 : ((p : Int)) ^ (((1 : Nat) : Int)).toNat = p := by
      show (p : Int) ^ 1 = p
      rw [Int.pow_succ, Int.pow_zero, Int.one_mul]
    rw [ordr, if_pos ⟨by omega, by omega, by omega, by rw [e1]; omega⟩, e1]
    omega
  have h := pm8 ho
  cases b with
  | true =>
    simp only [chkE, Bool.and_eq_true, Nat.ble_eq, List.all_eq_true] at hc
    obtain ⟨⟨⟨c1, c2⟩, c3⟩, c4⟩ := hc
    have q1 : p ^ 1 = p := Nat.pow_one p
    have lg : allLt p [g] := fun i => by
      cases i with
      | zero => show g < p; omega
      | succ i => show ([] : List Nat).getD i 0 < p; simp; omega
    have := chkGen_ok (n := 1) (ms := []) (g := [g]) (Ds := Ds) h ho (by omega) rfl lg (fun d hd => by have := c3 d hd; omega) (by rw [q1]; exact c1) (by rw [q1]; exact c4)
    exact ⟨_, this⟩
  | false =>
    simp only [chkE, Bool.and_eq_true, Nat.ble_eq, Nat.beq_eq] at hc
    exfalso
    refine hp g (by omega) (by omega) ?_
    omega
end Go.Proofs.Yteijojnahpeglaa.AM
/-! PRINTED by mkfld.py: for each size of field a list of certificates, one for each modulus: a generator, or a divisor; the kernel checks them. -/
namespace Go.Proofs.Yteijojnahpeglaa.AM
open Go Go.RowKit
set_option maxRecDepth 100000
def tab2_2 : List Nat := [4, 5, 4, 2]
theorem tabOk2_2 : chkTab 2 2 [1] tab2_2 = true := by kernel_rfl
def tab2_3 : List Nat := [8, 9, 8, 2, 8, 2, 8, 9]
theorem tabOk2_3 : chkTab 2 3 [1] tab2_3 = true := by kernel_rfl
def tab2_4 : List Nat := [16, 17, 16, 2, 16, 35, 16, 17, 16, 2, 16, 17, 16, 17, 16, 3]
theorem tabOk2_4 : chkTab 2 4 [5, 3] tab2_4 = true := by kernel_rfl
def tab2_5 : List Nat := [32, 33, 32, 67, 32, 2, 32, 33, 32, 2, 32, 33, 32, 33, 32, 2, 32, 67, 32, 33, 32, 33, 32, 2, 32, 33, 32, 2, 32, 2, 32, 33]
theorem tabOk2_5 : chkTab 2 5 [1] tab2_5 = true := by kernel_rfl
def tab2_6 : List Nat := [64, 65, 64, 2, 64, 195, 64, 65, 64, 3, 64, 65, 64, 65, 64, 131, 64, 197, 64, 65, 64, 65, 64, 3, 64, 65, 64, 2, 64, 131, 64, 65, 64, 2, 64, 65, 64, 65, 64, 2, 64, 65, 64, 131, 64, 
  2, 64, 65, 64, 65, 64, 2, 64, 3, 64, 65, 64, 131, 64, 65, 64, 65, 64, 195]
theorem tabOk2_6 : chkTab 2 6 [21, 9] tab2_6 = true := by kernel_rfl
def tab2_7 : List Nat := [128, 129, 128, 2, 128, 259, 128, 129, 128, 2, 128, 129, 128, 129, 128, 2, 128, 2, 128, 129, 128, 129, 128, 259, 128, 129, 128, 389, 128, 2, 128, 129, 128, 259, 128, 129, 128, 129, 
  128, 2, 128, 129, 128, 2, 128, 387, 128, 129, 128, 129, 128, 259, 128, 389, 128, 129, 128, 2, 128, 129, 128, 129, 128, 2, 128, 2, 128, 129, 128, 129, 128, 389, 128, 129, 128, 2, 
  128, 259, 128, 129, 128, 129, 128, 2, 128, 2, 128, 129, 128, 387, 128, 129, 128, 129, 128, 259, 128, 129, 128, 387, 128, 2, 128, 129, 128, 259, 128, 129, 128, 129, 128, 2, 128, 2, 
  128, 129, 128, 129, 128, 2, 128, 129, 128, 259, 128, 2, 128, 129]
theorem tabOk2_7 : chkTab 2 7 [1] tab2_7 = true := by kernel_rfl
def tab2_8 : List Nat := [256, 257, 256, 515, 256, 1027, 256, 257, 256, 771, 256, 257, 256, 257, 256, 773, 256, 515, 256, 257, 256, 257, 256, 1033, 256, 257, 256, 3, 256, 2, 256, 257, 256, 773, 256, 257, 
  256, 257, 256, 515, 256, 257, 256, 2, 256, 2, 256, 257, 256, 257, 256, 771, 256, 515, 256, 257, 256, 3, 256, 257, 256, 257, 256, 3, 256, 1033, 256, 257, 256, 257, 256, 771, 256, 
  257, 256, 515, 256, 2, 256, 257, 256, 257, 256, 773, 256, 1039, 256, 257, 256, 515, 256, 257, 256, 257, 256, 2, 256, 257, 256, 2, 256, 2, 256, 257, 256, 2, 256, 257, 256, 257, 
  256, 515, 256, 2, 256, 257, 256, 257, 256, 3, 256, 257, 256, 9, 256, 515, 256, 257, 256, 515, 256, 257, 256, 257, 256, 2, 256, 257, 256, 6, 256, 2, 256, 257, 256, 257, 256, 515, 
  256, 771, 256, 257, 256, 773, 256, 257, 256, 257, 256, 3, 256, 257, 256, 3, 256, 515, 256, 257, 256, 2, 256, 257, 256, 257, 256, 771, 256, 6, 256, 257, 256, 257, 256, 515, 256, 
  257, 256, 1027, 256, 7, 256, 257, 256, 257, 256, 2, 256, 773, 256, 257, 256, 515, 256, 257, 256, 257, 256, 2, 256, 1027, 256, 257, 256, 257, 256, 7, 256, 257, 256, 515, 256, 6, 
  256, 257, 256, 771, 256, 257, 256, 257, 256, 2, 256, 257, 256, 773, 256, 515, 256, 257, 256, 257, 256, 6, 256, 2, 256, 257, 256, 3, 256, 257, 256, 257, 256, 515]
theorem tabOk2_8 : chkTab 2 8 [85, 51, 15] tab2_8 = true := by kernel_rfl
def tab3_2 : List Nat := [9, 4, 10, 9, 11, 3, 9, 10, 3]
theorem tabOk3_2 : chkTab 3 2 [4] tab3_2 = true := by kernel_rfl
def tab3_3 : List Nat := [27, 28, 29, 27, 29, 28, 27, 3, 6, 27, 29, 5, 27, 28, 4, 27, 3, 28, 27, 3, 28, 27, 3, 29, 27, 28, 4]
theorem tabOk3_3 : chkTab 3 3 [13, 2] tab3_3 = true := by kernel_rfl
def tab3_4 : List Nat := [81, 167, 82, 81, 83, 3, 81, 82, 3, 81, 82, 12, 81, 4, 82, 81, 5, 83, 81, 163, 4, 81, 82, 83, 81, 83, 82, 81, 83, 3, 81, 82, 163, 81, 4, 82, 81, 10, 82, 81, 5, 83, 81, 82, 3, 81, 
  82, 83, 81, 83, 82, 81, 170, 3, 81, 82, 3, 81, 4, 82, 81, 83, 163, 81, 10, 83, 81, 82, 3, 81, 4, 82, 81, 83, 82, 81, 167, 3, 81, 82, 83]
theorem tabOk3_4 : chkTab 3 4 [40, 16] tab3_4 = true := by kernel_rfl
def tab3_5 : List Nat := [243, 244, 245, 243, 245, 244, 243, 3, 6, 243, 245, 494, 243, 244, 4, 243, 487, 244, 243, 491, 244, 243, 3, 245, 243, 244, 487, 243, 245, 244, 243, 3, 6, 243, 244, 245, 243, 244, 
  4, 243, 494, 244, 243, 245, 6, 243, 3, 245, 243, 244, 491, 243, 3, 244, 243, 494, 491, 243, 244, 245, 243, 245, 244, 243, 3, 244, 243, 245, 5, 243, 244, 4, 243, 244, 4, 243, 3, 
  244, 243, 4, 245, 243, 245, 5, 243, 244, 4, 243, 3, 244, 243, 3, 244, 243, 3, 245, 243, 244, 4, 243, 244, 245, 243, 245, 244, 243, 487, 494, 243, 244, 487, 243, 3, 244, 243, 245, 
  491, 243, 491, 245, 243, 244, 494, 243, 3, 244, 243, 245, 244, 243, 3, 6, 243, 244, 245, 243, 3, 244, 243, 245, 487, 243, 244, 6, 243, 244, 4, 243, 3, 244, 243, 494, 245, 243, 3, 
  6, 243, 244, 245, 243, 245, 244, 243, 3, 244, 243, 3, 245, 243, 244, 5, 243, 244, 245, 243, 245, 244, 243, 491, 487, 243, 245, 5, 243, 244, 4, 243, 3, 244, 243, 487, 245, 243, 
  244, 4, 243, 494, 244, 243, 245, 244, 243, 3, 6, 243, 244, 245, 243, 244, 494, 243, 491, 244, 243, 245, 5, 243, 244, 4, 243, 487, 244, 243, 3, 245, 243, 3, 6, 243, 244, 245, 243, 
  245, 244, 243, 7, 244, 243, 245, 5, 243, 244, 491]
theorem tabOk3_5 : chkTab 3 5 [121, 22] tab3_5 = true := by kernel_rfl
def tab5_2 : List Nat := [25, 27, 6, 7, 26, 25, 7, 5, 27, 28, 25, 26, 28, 5, 8, 25, 29, 26, 5, 6, 25, 6, 5, 26, 27]
theorem tabOk5_2 : chkTab 5 2 [12, 8] tab5_2 = true := by kernel_rfl
def tab5_3 : List Nat := [125, 126, 128, 127, 129, 125, 9, 126, 129, 6, 125, 6, 127, 126, 7, 125, 128, 5, 5, 126, 125, 127, 5, 5, 128, 125, 7, 5, 128, 127, 125, 126, 129, 5, 6, 125, 129, 126, 127, 128, 
  125, 6, 128, 126, 8, 125, 6, 127, 5, 126, 125, 6, 129, 5, 126, 125, 129, 127, 5, 7, 125, 126, 5, 5, 127, 125, 127, 126, 128, 129, 125, 128, 5, 126, 8, 125, 127, 5, 126, 7, 125, 6, 
  5, 127, 126, 125, 128, 5, 5, 129, 125, 126, 127, 129, 128, 125, 7, 126, 5, 127, 125, 128, 126, 5, 6, 125, 6, 5, 126, 127, 125, 127, 128, 129, 126, 125, 7, 129, 127, 9, 125, 126, 
  5, 128, 6]
theorem tabOk5_3 : chkTab 5 3 [62, 4] tab5_3 = true := by kernel_rfl
def tab7_2 : List Nat := [49, 9, 8, 51, 8, 52, 50, 49, 52, 53, 7, 10, 51, 10, 49, 50, 10, 7, 52, 7, 53, 49, 11, 50, 53, 54, 7, 11, 49, 8, 54, 50, 51, 7, 8, 49, 55, 8, 7, 50, 7, 51, 49, 51, 52, 7, 9, 50, 9]
theorem tabOk7_2 : chkTab 7 2 [24, 16] tab7_2 = true := by kernel_rfl
def tab11_2 : List Nat := [121, 15, 124, 13, 14, 12, 125, 123, 126, 13, 122, 121, 15, 126, 127, 13, 124, 13, 11, 11, 123, 125, 121, 122, 16, 125, 14, 15, 11, 126, 124, 127, 14, 121, 126, 122, 16, 127, 128, 
  11, 125, 11, 12, 12, 121, 128, 11, 122, 123, 17, 126, 11, 16, 12, 127, 121, 12, 11, 13, 122, 127, 123, 17, 128, 129, 12, 121, 12, 11, 13, 128, 122, 129, 12, 123, 124, 18, 121, 
  124, 11, 129, 130, 13, 122, 11, 12, 14, 123, 121, 123, 130, 13, 124, 125, 11, 122, 11, 12, 14, 121, 131, 14, 123, 12, 13, 11, 124, 122, 125, 12, 121, 14, 125, 126, 12, 123, 12, 
  11, 11, 122, 124]
theorem tabOk11_2 : chkTab 11 2 [60, 40, 24] tab11_2 = true := by kernel_rfl
def tab13_2 : List Nat := [169, 174, 15, 175, 172, 14, 14, 15, 17, 171, 173, 15, 170, 169, 173, 13, 17, 15, 15, 174, 172, 17, 175, 176, 171, 17, 169, 170, 175, 16, 176, 173, 13, 13, 16, 18, 172, 174, 16, 
  169, 18, 170, 174, 14, 18, 13, 13, 175, 173, 18, 176, 177, 169, 175, 13, 170, 171, 176, 13, 177, 174, 14, 14, 13, 19, 169, 19, 177, 178, 170, 19, 171, 175, 15, 19, 14, 13, 176, 
  169, 15, 13, 14, 20, 170, 176, 13, 171, 172, 177, 13, 178, 169, 16, 13, 15, 14, 177, 170, 13, 178, 179, 171, 13, 172, 169, 14, 172, 173, 178, 14, 179, 170, 16, 14, 15, 13, 171, 
  169, 171, 13, 179, 180, 172, 13, 173, 170, 17, 14, 13, 15, 169, 15, 180, 171, 17, 15, 13, 13, 172, 170, 15, 173, 174, 169, 181, 173, 14, 174, 171, 13, 13, 14, 16, 170, 172, 14, 
  169, 172, 13, 16, 14, 14, 173, 171, 16, 174, 175, 170, 16]
theorem tabOk13_2 : chkTab 13 2 [84, 56, 24] tab13_2 = true := by kernel_rfl
def tabP : List (Bool × Nat × List Nat) := [(true, 1, []), (true, 2, [1]), (false, 2, []), (true, 2, [2]), (false, 2, []), (true, 3, [3, 2]), (false, 2, []), (false, 3, []), (false, 2, []), (true, 2, [5, 2]), 
  (false, 2, []), (true, 2, [6, 4]), (false, 2, []), (false, 3, []), (false, 2, []), (true, 3, [8]), (false, 2, []), (true, 2, [9, 6]), (false, 2, []), (false, 3, []), 
  (false, 2, []), (true, 5, [11, 2]), (false, 2, []), (false, 5, []), (false, 2, []), (false, 3, []), (false, 2, []), (true, 2, [14, 4]), (false, 2, []), (true, 3, [15, 10, 6]), 
  (false, 2, []), (false, 3, []), (false, 2, []), (false, 5, []), (false, 2, []), (true, 2, [18, 12]), (false, 2, []), (false, 3, []), (false, 2, []), (true, 6, [20, 8]), 
  (false, 2, []), (true, 3, [21, 14, 6]), (false, 2, []), (false, 3, []), (false, 2, []), (true, 5, [23, 2]), (false, 2, []), (false, 7, []), (false, 2, []), (false, 3, []), 
  (false, 2, []), (true, 2, [26, 4]), (false, 2, []), (false, 5, []), (false, 2, []), (false, 3, []), (false, 2, []), (true, 2, [29, 2]), (false, 2, []), (true, 2, [30, 20, 12]), 
  (false, 2, []), (false, 3, []), (false, 2, []), (false, 5, []), (false, 2, []), (true, 2, [33, 22, 6]), (false, 2, []), (false, 3, []), (false, 2, []), (true, 7, [35, 14, 10]), 
  (false, 2, []), (true, 5, [36, 24]), (false, 2, []), (false, 3, []), (false, 2, []), (false, 7, []), (false, 2, []), (true, 3, [39, 26, 6]), (false, 2, []), (false, 3, []), 
  (false, 2, []), (true, 2, [41, 2]), (false, 2, []), (false, 5, []), (false, 2, []), (false, 3, []), (false, 2, []), (true, 3, [44, 8]), (false, 2, []), (false, 7, []), 
  (false, 2, []), (false, 3, []), (false, 2, []), (false, 5, []), (false, 2, []), (true, 5, [48, 32]), (false, 2, []), (false, 3, []), (false, 2, []), (true, 2, [50, 20]), 
  (false, 2, []), (true, 5, [51, 34, 6]), (false, 2, []), (false, 3, []), (false, 2, []), (true, 2, [53, 2]), (false, 2, []), (true, 6, [54, 36]), (false, 2, []), (false, 3, []), 
  (false, 2, []), (true, 3, [56, 16]), (false, 2, []), (false, 5, []), (false, 2, []), (false, 3, []), (false, 2, []), (false, 7, []), (false, 2, []), (false, 11, []), 
  (false, 2, []), (false, 3, []), (false, 2, []), (false, 5, []), (false, 2, []), (true, 3, [63, 42, 18]), (false, 2, []), (false, 3, []), (false, 2, []), (true, 2, [65, 26, 10]), 
  (false, 2, []), (false, 7, []), (false, 2, []), (false, 3, []), (false, 2, []), (true, 3, [68, 8]), (false, 2, []), (true, 2, [69, 46, 6]), (false, 2, []), (false, 3, []), 
  (false, 2, []), (false, 11, []), (false, 2, []), (false, 5, []), (false, 2, []), (false, 3, []), (false, 2, []), (true, 2, [74, 4]), (false, 2, []), (true, 6, [75, 50, 30]), 
  (false, 2, []), (false, 3, []), (false, 2, []), (false, 5, []), (false, 2, []), (true, 5, [78, 52, 12]), (false, 2, []), (false, 3, []), (false, 2, []), (false, 7, []), 
  (false, 2, []), (true, 2, [81, 54]), (false, 2, []), (false, 3, []), (false, 2, []), (true, 5, [83, 2]), (false, 2, []), (false, 13, []), (false, 2, []), (false, 3, []), 
  (false, 2, []), (true, 2, [86, 4]), (false, 2, []), (false, 5, []), (false, 2, []), (false, 3, []), (false, 2, []), (true, 2, [89, 2]), (false, 2, []), (true, 2, [90, 60, 36]), 
  (false, 2, []), (false, 3, []), (false, 2, []), (false, 5, []), (false, 2, []), (false, 11, []), (false, 2, []), (false, 3, []), (false, 2, []), (true, 19, [95, 38, 10]), 
  (false, 2, []), (true, 5, [96, 64]), (false, 2, []), (false, 3, []), (false, 2, []), (true, 2, [98, 28]), (false, 2, []), (true, 3, [99, 66, 18]), (false, 2, []), (false, 3, []), 
  (false, 2, []), (false, 7, []), (false, 2, []), (false, 5, []), (false, 2, []), (false, 3, []), (false, 2, []), (false, 11, []), (false, 2, []), (true, 2, [105, 70, 42, 30]), 
  (false, 2, []), (false, 3, []), (false, 2, []), (false, 5, []), (false, 2, []), (false, 7, []), (false, 2, []), (false, 3, []), (false, 2, []), (false, 13, []), (false, 2, []), 
  (true, 3, [111, 74, 6]), (false, 2, []), (false, 3, []), (false, 2, []), (true, 2, [113, 2]), (false, 2, []), (true, 6, [114, 76, 12]), (false, 2, []), (false, 3, []), 
  (false, 2, []), (true, 3, [116, 8]), (false, 2, []), (false, 5, []), (false, 2, []), (false, 3, []), (false, 2, []), (true, 7, [119, 34, 14]), (false, 2, []), 
  (true, 7, [120, 80, 48]), (false, 2, []), (false, 3, []), (false, 2, []), (false, 5, []), (false, 2, []), (false, 13, []), (false, 2, []), (false, 3, []), (false, 2, []), 
  (true, 6, [125, 50]), (false, 2, []), (false, 11, []), (false, 2, []), (false, 3, []), (false, 2, [])]
theorem tabPOk : chkP 2 tabP = true := by kernel_rfl
theorem tabP_len : tabP.length = 255 := by kernel_rfl
end Go.Proofs.Yteijojnahpeglaa.AM
/-! PRINTED by mkfld.py: every field has a generator: by the tables. -/
namespace Go.Proofs.Yteijojnahpeglaa.AM
open Go Go.RowKit
set_option linter.unusedVariables false
set_option linter.unusedSimpArgs false
theorem fieldTab {P M : Nat} {mod : List Int} (hF : FieldOk (P : Int) (M : Int) mod) (hM : M ≠ 1) {Ds cs : List Nat} (hD : ∀ d, d ∈ Ds → d < 256) (hq : P ^ M ≤ 256) (ht : chkTab P M Ds cs = true) : ∃ x, 1 ≤ x ∧ x < ordr (P : Int) (M : Int) ∧ IsGen P M mod x := by
  obtain ⟨h1, h2, h3⟩ := hF
  rcases h3 with ⟨h4, -⟩ | ⟨h4, h5, h6, h7⟩
  · omega
  · have h := pm8 h1
    obtain ⟨x, hx, hg⟩ := tab_gen h h1 hq hD ht (by omega) h6 h7
    refine ⟨x, ?_, hx.2, hg⟩
    have h0 := hx.1
    have e1 := (one_el h).2
    have := hg.2.2
    by_cases hz : x = 0
    · rw [hz, pmul_eq h1, fmul_zero h] at this
      omega
    · omega
theorem gen_ex : GenEx := fun p m mod hF => by
  obtain ⟨o1, o2, o3, o4, o5⟩ := ordr_pos hF.1
  have o6 := ordr_p hF.1
  have hprm := hF.2.1
  obtain ⟨P, rfl⟩ : ∃ P : Nat, p = P := ⟨p.toNat, by omega⟩
  obtain ⟨M, rfl⟩ : ∃ M : Nat, m = M := ⟨m.toNat, by omega⟩
  by_cases hM : M = 1
  · subst hM
    have hmod : mod = [] := by
      rcases hF.2.2 with ⟨-, q⟩ | ⟨q, -⟩
      · exact q
      · exact absurd rfl q
    subst hmod
    obtain ⟨e, he⟩ := chkP_at (i := P - 2) tabPOk (by rw [tabP_len]; omega)
    rw [show 2 + (P - 2) = P by omega] at he
    obtain ⟨x, hx, hg⟩ := prime_gen (by omega) (by omega) hprm he
    refine ⟨x, ?_, hx.2, hg⟩
    have h0 := hx.1
    have h := pm8 hF.1
    have := hg.2.2
    by_cases hz : x = 0
    · rw [hz, show ((1 : Int)) = ((1 : Nat) : Int) from rfl, pmul_eq hF.1, fmul_zero h] at this
      have : (0 : Int) = 1 := this
      omega
    · omega
  have o4' : (P : Int) ^ M ≤ 256 := o4
  have hP : P ≤ 16 := by
    apply Classical.byContradiction
    intro q
    have h1 : (P : Int) ^ 2 ≤ (P : Int) ^ M := ipow_mono (by omega) (by omega)
    have h2 : (P : Int) ^ 2 = P * P := by rw [Int.pow_succ, Int.pow_succ, Int.pow_zero, Int.one_mul]
    have h3 : (17 : Int) * 17 ≤ P * P := Int.mul_le_mul (by omega) (by omega) (by omega) (by omega)
    omega
  have hPs : P = 2 ∨ P = 3 ∨ P = 4 ∨ P = 5 ∨ P = 6 ∨ P = 7 ∨ P = 8 ∨ P = 9 ∨ P = 10 ∨ P = 11 ∨ P = 12 ∨ P = 13 ∨ P = 14 ∨ P = 15 ∨ P = 16 := by omega
  have hMs : M = 2 ∨ M = 3 ∨ M = 4 ∨ M = 5 ∨ M = 6 ∨ M = 7 ∨ M = 8 := by omega
  rcases hPs with rfl | rfl | rfl | rfl | rfl | rfl | rfl | rfl | rfl | rfl | rfl | rfl | rfl | rfl | rfl
  · rcases hMs with rfl | rfl | rfl | rfl | rfl | rfl | rfl
    · exact fieldTab hF (by omega) (by decide) (by decide) tabOk2_2
    · exact fieldTab hF (by omega) (by decide) (by decide) tabOk2_3
    · exact fieldTab hF (by omega) (by decide) (by decide) tabOk2_4
    · exact fieldTab hF (by omega) (by decide) (by decide) tabOk2_5
    · exact fieldTab hF (by omega) (by decide) (by decide) tabOk2_6
    · exact fieldTab hF (by omega) (by decide) (by decide) tabOk2_7
    · exact fieldTab hF (by omega) (by decide) (by decide) tabOk2_8
  · rcases hMs with rfl | rfl | rfl | rfl | rfl | rfl | rfl
    · exact fieldTab hF (by omega) (by decide) (by decide) tabOk3_2
    · exact fieldTab hF (by omega) (by decide) (by decide) tabOk3_3
    · exact fieldTab hF (by omega) (by decide) (by decide) tabOk3_4
    · exact fieldTab hF (by omega) (by decide) (by decide) tabOk3_5
    · exact absurd o4' (by decide)
    · exact absurd o4' (by decide)
    · exact absurd o4' (by decide)
  · exact absurd (by decide) (hprm 2 (by decide) (by decide))
  · rcases hMs with rfl | rfl | rfl | rfl | rfl | rfl | rfl
    · exact fieldTab hF (by omega) (by decide) (by decide) tabOk5_2
    · exact fieldTab hF (by omega) (by decide) (by decide) tabOk5_3
    · exact absurd o4' (by decide)
    · exact absurd o4' (by decide)
    · exact absurd o4' (by decide)
    · exact absurd o4' (by decide)
    · exact absurd o4' (by decide)
  · exact absurd (by decide) (hprm 2 (by decide) (by decide))
  · rcases hMs with rfl | rfl | rfl | rfl | rfl | rfl | rfl
    · exact fieldTab hF (by omega) (by decide) (by decide) tabOk7_2
    · exact absurd o4' (by decide)
    · exact absurd o4' (by decide)
    · exact absurd o4' (by decide)
    · exact absurd o4' (by decide)
    · exact absurd o4' (by decide)
    · exact absurd o4' (by decide)
  · exact absurd (by decide) (hprm 2 (by decide) (by decide))
  · exact absurd (by decide) (hprm 3 (by decide) (by decide))
  · exact absurd (by decide) (hprm 2 (by decide) (by decide))
  · rcases hMs with rfl | rfl | rfl | rfl | rfl | rfl | rfl
    · exact fieldTab hF (by omega) (by decide) (by decide) tabOk11_2
    · exact absurd o4' (by decide)
    · exact absurd o4' (by decide)
    · exact absurd o4' (by decide)
    · exact absurd o4' (by decide)
    · exact absurd o4' (by decide)
    · exact absurd o4' (by decide)
  · exact absurd (by decide) (hprm 2 (by decide) (by decide))
  · rcases hMs with rfl | rfl | rfl | rfl | rfl | rfl | rfl
    · exact fieldTab hF (by omega) (by decide) (by decide) tabOk13_2
    · exact absurd o4' (by decide)
    · exact absurd o4' (by decide)
    · exact absurd o4' (by decide)
    · exact absurd o4' (by decide)
    · exact absurd o4' (by decide)
    · exact absurd o4' (by decide)
  · exact absurd (by decide) (hprm 2 (by decide) (by decide))
  · exact absurd (by decide) (hprm 3 (by decide) (by decide))
  · exact absurd (by decide) (hprm 2 (by decide) (by decide))
theorem alg : Alg := alg_of gen_ex gen_irr
end Go.Proofs.Yteijojnahpeglaa.AM
