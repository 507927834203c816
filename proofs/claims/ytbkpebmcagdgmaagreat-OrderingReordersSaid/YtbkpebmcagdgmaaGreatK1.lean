/- Helpers. Ranks of lists of positions under a closure with exchange (plain Lean, no program). · Vectors over a field, spans, and the closure that they are (plain Lean, no program). · Field operations on numbers; elimination on lists of rows; its pivots count the rank of the columns (plain Lean, no program). -/
/-! Ranks of lists of positions under a closure with exchange (plain Lean, no program). -/
namespace Go.Proofs.YtbkpebmcagdgmaaGreat.AM
set_option linter.unusedVariables false
set_option linter.unusedSimpArgs false

/-- Which positions are spanned by a set of positions. -/
structure Clo where
  cl : (Nat → Prop) → Nat → Prop
  mono : ∀ {S T : Nat → Prop} {x : Nat}, (∀ y, S y → T y) → cl S x → cl T x
  self : ∀ {S : Nat → Prop} {x : Nat}, S x → cl S x
  idem : ∀ {S : Nat → Prop} {x : Nat}, cl (fun z => cl S z) x → cl S x
  exch : ∀ {S : Nat → Prop} {x y : Nat}, cl (fun z => S z ∨ z = y) x → ¬ cl S x → cl (fun z => S z ∨ z = x) y

def with_ (S : Nat → Prop) (x : Nat) : Nat → Prop := fun z => S z ∨ z = x
def withL (S : Nat → Prop) (l : List Nat) : Nat → Prop := fun z => S z ∨ z ∈ l

open Classical in
/-- how many positions of l raise the rank, one after the other, above S -/
noncomputable def Clo.rk (C : Clo) : (Nat → Prop) → List Nat → Nat
  | _, [] => 0
  | S, x :: l => (if C.cl S x then 0 else 1) + C.rk (with_ S x) l

namespace Clo
variable (C : Clo)

theorem rk_nil (S : Nat → Prop) : C.rk S [] = 0 := rfl
open Classical in
theorem rk_cons (S : Nat → Prop) (x : Nat) (l : List Nat) : C.rk S (x :: l) = (if C.cl S x then 0 else 1) + C.rk (with_ S x) l := rfl
theorem rk_in {S : Nat → Prop} {x : Nat} {l : List Nat} (h : C.cl S x) : C.rk S (x :: l) = C.rk (with_ S x) l := by
  rw [rk_cons, if_pos h]; omega
theorem rk_out {S : Nat → Prop} {x : Nat} {l : List Nat} (h : ¬ C.cl S x) : C.rk S (x :: l) = 1 + C.rk (with_ S x) l := by
  rw [rk_cons, if_neg h]
theorem rk_le_length : ∀ (l : List Nat) (S : Nat → Prop), C.rk S l ≤ l.length
  | [], S => Nat.le_refl _
  | x :: l, S => by
    have := rk_le_length l (with_ S x)
    rw [rk_cons, List.length_cons]
    split <;> omega
/-- the rank depends on the closure of S alone -/
theorem cl_sub {S T : Nat → Prop} (h : ∀ y, S y → C.cl T y) {x : Nat} (hx : C.cl S x) : C.cl T x := C.idem (C.mono h hx)
theorem rk_mono : ∀ (l : List Nat) {S T : Nat → Prop}, (∀ y, S y → C.cl T y) → C.rk T l ≤ C.rk S l
  | [], S, T, h => Nat.le_refl _
  | x :: l, S, T, h => by
    have := rk_mono l (S := with_ S x) (T := with_ T x) (fun y hy => hy.elim (fun q => C.mono (fun z hz => .inl hz) (h y q)) fun q => C.self (.inr q))
    rw [rk_cons, rk_cons]
    split <;> split
    · omega
    · omega
    · rename_i h1 h2
      exact absurd (C.cl_sub h h2) h1
    · omega
theorem rk_congr {S T : Nat → Prop} (h1 : ∀ y, S y → C.cl T y) (h2 : ∀ y, T y → C.cl S y) (l : List Nat) : C.rk S l = C.rk T l :=
  Nat.le_antisymm (C.rk_mono l h2) (C.rk_mono l h1)
theorem rk_ext {S T : Nat → Prop} (h : ∀ y, S y ↔ T y) (l : List Nat) : C.rk S l = C.rk T l :=
  C.rk_congr (fun y hy => C.self ((h y).mp hy)) (fun y hy => C.self ((h y).mpr hy)) l
theorem rk_app : ∀ (l l' : List Nat) (S : Nat → Prop), C.rk S (l ++ l') = C.rk S l + C.rk (withL S l) l'
  | [], l', S => by
    rw [List.nil_append, rk_nil, Nat.zero_add]
    exact C.rk_ext (fun y => ⟨.inl, fun h => h.elim id fun q => by cases q⟩) l'
  | x :: l, l', S => by
    rw [List.cons_append, rk_cons, rk_cons, rk_app l l' (with_ S x), Nat.add_assoc]
    congr 2
    refine C.rk_ext (fun y => ?_) l'
    simp only [withL, with_, List.mem_cons, or_assoc]
theorem rk_swap (x y : Nat) (l : List Nat) (S : Nat → Prop) : C.rk S (x :: y :: l) = C.rk S (y :: x :: l) := by
  rw [rk_cons, rk_cons, rk_cons, rk_cons]
  have h1 : C.rk (with_ (with_ S x) y) l = C.rk (with_ (with_ S y) x) l := C.rk_ext (fun z => by simp only [with_, or_assoc, or_comm (a := z = x)]) l
  rw [h1]
  have m1 : C.cl S x → C.cl (with_ S y) x := C.mono fun z => .inl
  have m2 : C.cl S y → C.cl (with_ S x) y := C.mono fun z => .inl
  by_cases hx : C.cl S x
  · have : C.cl (with_ S x) y → C.cl S y := C.cl_sub fun z hz => hz.elim C.self fun q => q ▸ hx
    simp only [hx, m1 hx, if_true]
    by_cases hy : C.cl S y
    · simp [hy, m2 hy]
    · have h2 : ¬ C.cl (with_ S x) y := fun q => hy (this q)
      simp [hy, h2]
  · by_cases hy : C.cl S y
    · have : C.cl (with_ S y) x → C.cl S x := C.cl_sub fun z hz => hz.elim C.self fun q => q ▸ hy
      have h2 : ¬ C.cl (with_ S y) x := fun q => hx (this q)
      simp [hx, hy, m2 hy, h2]
    · by_cases hxy : C.cl (with_ S y) x
      · have : C.cl (with_ S x) y := C.exch hxy hx
        simp [hx, hy, hxy, this]
      · have : ¬ C.cl (with_ S x) y := fun q => hxy (C.exch q hy)
        simp [hx, hy, hxy, this]
theorem rk_perm {l l' : List Nat} (h : l.Perm l') : ∀ S : Nat → Prop, C.rk S l = C.rk S l' := by
  induction h with
  | nil => exact fun S => rfl
  | cons x _ ih => exact fun S => by rw [rk_cons, rk_cons, ih]
  | swap x y l => exact fun S => C.rk_swap y x l S
  | trans _ _ ih1 ih2 => exact fun S => (ih1 S).trans (ih2 S)
/-- the rank of a set of positions below n -/
noncomputable def R (n : Nat) (s : Nat → Bool) : Nat := C.rk (fun _ => False) ((List.range n).filter s)
end Clo
end Go.Proofs.YtbkpebmcagdgmaaGreat.AM
/-! Vectors over a field, spans, and the closure that they are (plain Lean, no program). -/
namespace Go.Proofs.YtbkpebmcagdgmaaGreat.AM
set_option linter.unusedVariables false
set_option linter.unusedSimpArgs false

/-- a field -/
class Fd (K : Type) where
  z : K
  u : K
  add : K → K → K
  mul : K → K → K
  neg : K → K
  inv : K → K
  add_comm : ∀ a b, add a b = add b a
  add_assoc : ∀ a b c, add (add a b) c = add a (add b c)
  add_z : ∀ a, add a z = a
  add_neg : ∀ a, add a (neg a) = z
  mul_comm : ∀ a b, mul a b = mul b a
  mul_assoc : ∀ a b c, mul (mul a b) c = mul a (mul b c)
  mul_u : ∀ a, mul a u = a
  mul_add : ∀ a b c, mul a (add b c) = add (mul a b) (mul a c)
  mul_inv : ∀ a, a ≠ z → mul a (inv a) = u
  u_ne : u ≠ z

namespace Fd
variable {K : Type} [Fd K]
theorem z_add (a : K) : add z a = a := by rw [add_comm, add_z]
theorem neg_add (a : K) : add (neg a) a = z := by rw [add_comm, add_neg]
theorem add_left {a b c : K} (h : add a b = add a c) : b = c := by
  have := congrArg (add (neg a)) h
  rwa [← add_assoc, ← add_assoc, neg_add, z_add, z_add] at this
theorem mul_z (a : K) : mul a z = z := by
  apply add_left (a := mul a z)
  rw [← mul_add, add_z, add_z]
theorem z_mul (a : K) : mul z a = z := by rw [mul_comm, mul_z]
theorem u_mul (a : K) : mul u a = a := by rw [mul_comm, mul_u]
theorem add_mul (a b c : K) : mul (add a b) c = add (mul a c) (mul b c) := by
  rw [mul_comm, mul_add, mul_comm c a, mul_comm c b]
theorem add_left_comm (a b c : K) : add a (add b c) = add b (add a c) := by
  rw [← add_assoc, add_comm a b, add_assoc]
theorem neg_of {a b : K} (h : add a b = z) : b = neg a := add_left (a := a) (by rw [h, add_neg])
theorem neg_z : neg (z : K) = z := (neg_of (add_z z)).symm
theorem neg_neg (a : K) : neg (neg a) = a := (neg_of (neg_add a)).symm
theorem neg_mul (a b : K) : mul (neg a) b = neg (mul a b) := neg_of (by rw [← add_mul, add_neg, z_mul])
theorem mul_neg (a b : K) : mul a (neg b) = neg (mul a b) := by rw [mul_comm, neg_mul, mul_comm]
theorem neg_add' (a b : K) : neg (add a b) = add (neg a) (neg b) := (neg_of (by rw [add_assoc, add_left_comm b, ← add_assoc, add_neg, add_neg, add_z])).symm
theorem add_add_neg (a b : K) : add (add a b) (neg b) = a := by rw [add_assoc, add_neg, add_z]
theorem mul_left {a b c : K} (ha : a ≠ z) (h : mul a b = mul a c) : b = c := by
  have := congrArg (mul (inv a)) h
  rwa [← mul_assoc, ← mul_assoc, mul_comm (inv a) a, mul_inv a ha, u_mul, u_mul] at this
theorem inv_of {a b : K} (h : mul a b = u) : b = inv a := by
  have ha : a ≠ z := fun q => u_ne (K := K) (by rw [← h, q, z_mul])
  exact mul_left ha (by rw [h, mul_inv a ha])
end Fd
open Fd

/-- vectors -/
abbrev Vc (K : Type) := Nat → K
section
variable {K : Type} [Fd K]
def vz : Vc K := fun _ => z
def va (v w : Vc K) : Vc K := fun i => add (v i) (w i)
def vs (c : K) (v : Vc K) : Vc K := fun i => mul c (v i)
theorem va_comm (v w : Vc K) : va v w = va w v := funext fun i => add_comm _ _
theorem va_assoc (v w x : Vc K) : va (va v w) x = va v (va w x) := funext fun i => add_assoc _ _ _
theorem va_vz (v : Vc K) : va v vz = v := funext fun i => add_z _
theorem vz_va (v : Vc K) : va vz v = v := funext fun i => z_add _
theorem vs_va (c : K) (v w : Vc K) : vs c (va v w) = va (vs c v) (vs c w) := funext fun i => mul_add _ _ _
theorem vs_vs (c d : K) (v : Vc K) : vs c (vs d v) = vs (mul c d) v := funext fun i => (mul_assoc _ _ _).symm
theorem vs_vz (c : K) : vs c (vz : Vc K) = vz := funext fun i => mul_z _
theorem vs_u (v : Vc K) : vs u v = v := funext fun i => u_mul _
theorem vs_z (v : Vc K) : vs z v = vz := funext fun i => z_mul _
theorem vs_add (c d : K) (v : Vc K) : vs (add c d) v = va (vs c v) (vs d v) := funext fun i => add_mul _ _ _
/-- w is a combination of the vectors V j with S j -/
inductive Spn (V : Nat → Vc K) (S : Nat → Prop) : Vc K → Prop
  | zero : Spn V S vz
  | step {j : Nat} {w : Vc K} (c : K) (hj : S j) (hw : Spn V S w) : Spn V S (va w (vs c (V j)))

namespace Spn
variable {V : Nat → Vc K} {S T : Nat → Prop} {v w : Vc K} {c : K} {j : Nat}
theorem add (hv : Spn V S v) (hw : Spn V S w) : Spn V S (va v w) := by
  induction hw with
  | zero => rwa [va_vz]
  | step c hj _ ih => rw [← va_assoc]; exact .step c hj ih
theorem smul (c : K) (hv : Spn V S v) : Spn V S (vs c v) := by
  induction hv with
  | zero => rw [vs_vz]; exact .zero
  | step d hj _ ih => rw [vs_va, vs_vs]; exact .step _ hj ih
theorem one (hj : S j) : Spn V S (V j) := by
  have := Spn.step (V := V) u hj (.zero)
  rwa [vs_u, vz_va] at this
theorem mono (h : ∀ j, S j → T j) (hv : Spn V S v) : Spn V T v := by
  induction hv with
  | zero => exact .zero
  | step c hj _ ih => exact .step c (h _ hj) ih
/-- combinations of combinations -/
theorem trans {V' : Nat → Vc K} (h : ∀ j, S j → Spn V' T (V j)) (hv : Spn V S v) : Spn V' T v := by
  induction hv with
  | zero => exact .zero
  | step c hj _ ih => exact ih.add ((h _ hj).smul c)
theorem split {y : Nat} (hv : Spn V (fun z => S z ∨ z = y) v) : ∃ w c, Spn V S w ∧ v = va w (vs c (V y)) := by
  induction hv with
  | zero => exact ⟨vz, z, .zero, by rw [vs_z, va_vz]⟩
  | step c hj _ ih =>
    obtain ⟨w, d, hw, rfl⟩ := ih
    rcases hj with hj | rfl
    · exact ⟨_, d, .step c hj hw, by rw [va_assoc, va_assoc, va_comm (vs d _)]⟩
    · exact ⟨w, Fd.add d c, hw, by rw [vs_add, va_assoc]⟩
/-- what holds of all combinations at one coordinate -/
theorem coord {i : Nat} (h : ∀ j, S j → V j i = z) (hv : Spn V S v) : v i = z := by
  induction hv with
  | zero => rfl
  | step c hj _ ih => simp only [va, vs, ih, h _ hj, mul_z, add_z]
/-- a linear map -/
theorem map (A : Vc K → Vc K) (h0 : A vz = vz) (ha : ∀ v w, A (va v w) = va (A v) (A w)) (hs : ∀ c v, A (vs c v) = vs c (A v)) (hv : Spn V S v) : Spn (fun j => A (V j)) S (A v) := by
  induction hv with
  | zero => rw [h0]; exact .zero
  | step c hj _ ih => rw [ha, hs]; exact .step c hj ih
end Spn

/-- the closure of the positions of vectors -/
def clo (V : Nat → Vc K) : Clo where
  cl S x := Spn V S (V x)
  mono h := Spn.mono h
  self h := Spn.one h
  idem h := Spn.trans (fun j hj => hj) h
  exch {S x y} h hn := by
    obtain ⟨w, c, hw, hx⟩ := h.split
    have hc : c ≠ z := fun q => hn (by rw [hx, q, vs_z, va_vz]; exact hw)
    have : V y = va (vs (neg (inv c)) w) (vs (inv c) (V x)) := by
      funext i
      have := congrFun hx i
      simp only [va, vs] at this ⊢
      rw [this, mul_add, ← mul_assoc, mul_comm (inv c) c, mul_inv c hc, u_mul, ← add_assoc, neg_mul, neg_add, z_add]
    show Spn V _ (V y)
    rw [this]
    exact .step _ (.inr rfl) ((hw.mono fun j hj => .inl hj).smul _)
end
end Go.Proofs.YtbkpebmcagdgmaaGreat.AM
/-! Field operations on numbers; elimination on lists of rows; its pivots count the rank of the columns (plain Lean, no program). -/
namespace Go.Proofs.YtbkpebmcagdgmaaGreat.AM
set_option linter.unusedVariables false
set_option linter.unusedSimpArgs false

/-- rounds 0 .. n-1 -/
def uptoN {α : Type} (f : Nat → α → α) : Nat → α → α
  | 0, a => a
  | n + 1, a => f n (uptoN f n a)
/-- the list f 0, .., f (n-1) -/
def tabN {α : Type} (n : Nat) (f : Nat → α) : List α := (List.range n).map f
theorem tabN_length {α : Type} (n : Nat) (f : Nat → α) : (tabN n f).length = n := by simp [tabN]
theorem tabN_getD {α : Type} {n : Nat} {f : Nat → α} {i : Nat} (d : α) (h : i < n) : (tabN n f).getD i d = f i := by
  simp [tabN, List.getD_eq_getElem?_getD, h]
theorem getD_len {α : Type} {l : List α} {i : Nat} (d : α) (h : l.length ≤ i) : l.getD i d = d := by
  rw [List.getD_eq_getElem?_getD, List.getElem?_eq_none h]; rfl
theorem getD_setN {α : Type} (xs : List α) (i j : Nat) (v d : α) : (xs.set i v).getD j d = if j = i ∧ i < xs.length then v else xs.getD j d := by
  simp only [List.getD_eq_getElem?_getD, List.getElem?_set]
  by_cases h : i = j
  · subst h
    by_cases h2 : i < xs.length <;> simp [h2]
  · simp [h, Ne.symm h]

/-- operations of a field whose elements are 0 .. q-1 -/
structure FOps where
  q : Int
  add : Int → Int → Int
  mul : Int → Int → Int
  neg : Int → Int
  inv : Int → Int
def FOps.El (F : FOps) (x : Int) : Prop := 0 ≤ x ∧ x < F.q
structure FOps.Ok (F : FOps) : Prop where
  q2 : 2 ≤ F.q
  add_el : ∀ {a b}, F.El a → F.El b → F.El (F.add a b)
  mul_el : ∀ {a b}, F.El a → F.El b → F.El (F.mul a b)
  neg_el : ∀ {a}, F.El a → F.El (F.neg a)
  inv_el : ∀ {a}, F.El a → F.El (F.inv a)
  add_comm : ∀ {a b}, F.El a → F.El b → F.add a b = F.add b a
  add_assoc : ∀ {a b c}, F.El a → F.El b → F.El c → F.add (F.add a b) c = F.add a (F.add b c)
  add_z : ∀ {a}, F.El a → F.add a 0 = a
  add_neg : ∀ {a}, F.El a → F.add a (F.neg a) = 0
  mul_comm : ∀ {a b}, F.El a → F.El b → F.mul a b = F.mul b a
  mul_assoc : ∀ {a b c}, F.El a → F.El b → F.El c → F.mul (F.mul a b) c = F.mul a (F.mul b c)
  mul_u : ∀ {a}, F.El a → F.mul a 1 = a
  mul_add : ∀ {a b c}, F.El a → F.El b → F.El c → F.mul a (F.add b c) = F.add (F.mul a b) (F.mul a c)
  mul_inv : ∀ {a}, F.El a → a ≠ 0 → F.mul a (F.inv a) = 1
abbrev FOps.K (F : FOps) : Type := {x : Int // F.El x}
variable {F : FOps}
theorem FOps.Ok.el0 (h : F.Ok) : F.El 0 := ⟨Int.le_refl _, by have := h.q2; omega⟩
theorem FOps.Ok.el1 (h : F.Ok) : F.El 1 := ⟨by omega, by have := h.q2; omega⟩
@[reducible] def FOps.Ok.fd (h : F.Ok) : Fd F.K where
  z := ⟨0, h.el0⟩
  u := ⟨1, h.el1⟩
  add a b := ⟨F.add a.1 b.1, h.add_el a.2 b.2⟩
  mul a b := ⟨F.mul a.1 b.1, h.mul_el a.2 b.2⟩
  neg a := ⟨F.neg a.1, h.neg_el a.2⟩
  inv a := ⟨F.inv a.1, h.inv_el a.2⟩
  add_comm a b := Subtype.ext (h.add_comm a.2 b.2)
  add_assoc a b c := Subtype.ext (h.add_assoc a.2 b.2 c.2)
  add_z a := Subtype.ext (h.add_z a.2)
  add_neg a := Subtype.ext (h.add_neg a.2)
  mul_comm a b := Subtype.ext (h.mul_comm a.2 b.2)
  mul_assoc a b c := Subtype.ext (h.mul_assoc a.2 b.2 c.2)
  mul_u a := Subtype.ext (h.mul_u a.2)
  mul_add a b c := Subtype.ext (h.mul_add a.2 b.2 c.2)
  mul_inv a ha := Subtype.ext (h.mul_inv a.2 fun q => ha (Subtype.ext q))
  u_ne := fun q => by
    have : (1 : Int) = 0 := congrArg Subtype.val q
    omega
open Classical in
/-- a number as an element -/
noncomputable def FOps.Ok.k (h : F.Ok) (x : Int) : F.K := if hx : F.El x then ⟨x, hx⟩ else ⟨0, h.el0⟩
namespace FOps.Ok
variable (h : F.Ok)
theorem k_val {x : Int} (hx : F.El x) : (h.k x).1 = x := by rw [k, dif_pos hx]
theorem k_inj {x y : Int} (hx : F.El x) (hy : F.El y) (he : h.k x = h.k y) : x = y := by
  rw [← h.k_val hx, he, h.k_val hy]
theorem k_zero : h.k 0 = h.fd.z := Subtype.ext (h.k_val h.el0)
theorem k_one : h.k 1 = h.fd.u := Subtype.ext (h.k_val h.el1)
theorem k_add {x y : Int} (hx : F.El x) (hy : F.El y) : h.k (F.add x y) = h.fd.add (h.k x) (h.k y) :=
  Subtype.ext (by rw [h.k_val (h.add_el hx hy)]; show _ = F.add (h.k x).1 (h.k y).1; rw [h.k_val hx, h.k_val hy])
theorem k_mul {x y : Int} (hx : F.El x) (hy : F.El y) : h.k (F.mul x y) = h.fd.mul (h.k x) (h.k y) :=
  Subtype.ext (by rw [h.k_val (h.mul_el hx hy)]; show _ = F.mul (h.k x).1 (h.k y).1; rw [h.k_val hx, h.k_val hy])
theorem k_neg {x : Int} (hx : F.El x) : h.k (F.neg x) = h.fd.neg (h.k x) :=
  Subtype.ext (by rw [h.k_val (h.neg_el hx)]; show _ = F.neg (h.k x).1; rw [h.k_val hx])
theorem k_inv {x : Int} (hx : F.El x) : h.k (F.inv x) = h.fd.inv (h.k x) :=
  Subtype.ext (by rw [h.k_val (h.inv_el hx)]; show _ = F.inv (h.k x).1; rw [h.k_val hx])
theorem k_z_iff {x : Int} (hx : F.El x) : h.k x = h.fd.z ↔ x = 0 :=
  ⟨fun q => h.k_inj hx h.el0 (by rw [q, h.k_zero]), fun q => by rw [q, h.k_zero]⟩
end FOps.Ok

/-! ### rows -/
def rowAt (l : List (List Int)) (i : Nat) : List Int := l.getD i []
def ent (l : List (List Int)) (i j : Nat) : Int := (rowAt l i).getD j 0
def Rect (n : Nat) (l : List (List Int)) : Prop := ∀ i, i < l.length → (rowAt l i).length = n
/-- all entries are elements -/
def Els (F : FOps) (l : List (List Int)) : Prop := ∀ i j, F.El (ent l i j)
theorem rowAt_ge {l : List (List Int)} {i : Nat} (h : l.length ≤ i) : rowAt l i = [] := getD_len _ h
theorem ent_ge {l : List (List Int)} {i : Nat} (j : Nat) (h : l.length ≤ i) : ent l i j = 0 := by rw [ent, rowAt_ge h]; rfl
theorem ent_col {n : Nat} {l : List (List Int)} (hr : Rect n l) (i : Nat) {j : Nat} (h : n ≤ j) : ent l i j = 0 := by
  by_cases hi : i < l.length
  · exact getD_len _ (by rw [hr i hi]; exact h)
  · exact ent_ge j (by omega)

def scaleL (F : FOps) (a : Int) (v : List Int) : List Int := tabN v.length fun i => F.mul a (v.getD i 0)
def addToL (F : FOps) (v : List Int) (a : Int) (u : List Int) : List Int :=
  tabN v.length fun i => if u.getD i 0 ≠ 0 then F.add (v.getD i 0) (F.mul a (u.getD i 0)) else v.getD i 0
/-- the first row from at on with a nonzero entry in column c, or the number of rows -/
def firstNZ (l : List (List Int)) (c : Nat) : Nat → Nat → Nat
  | 0, k => k
  | n + 1, k => if ent l k c = 0 then firstNZ l c n (k + 1) else k
def swapL (l : List (List Int)) (i k : Nat) : List (List Int) := (l.set i (rowAt l k)).set k (rowAt l i)
def unitL (F : FOps) (c at_ : Nat) (l : List (List Int)) : List (List Int) :=
  if ent l at_ c ≠ 1 then l.set at_ (scaleL F (F.inv (ent l at_ c)) (rowAt l at_)) else l
def clearRow (F : FOps) (c at_ : Nat) (l : List (List Int)) (i : Nat) : List Int :=
  if i ≠ at_ ∧ ent l i c ≠ 0 then addToL F (rowAt l i) (F.neg (ent l i c)) (rowAt l at_) else rowAt l i
def clearL (F : FOps) (c at_ : Nat) (l : List (List Int)) : List (List Int) := tabN l.length (clearRow F c at_ l)
/-- one column of the elimination -/
def elimStep (F : FOps) (c : Nat) (s : List (List Int) × List Nat) : List (List Int) × List Nat :=
  let k := firstNZ s.1 c (s.1.length - s.2.length) s.2.length
  if k < s.1.length then (clearL F c s.2.length (unitL F c s.2.length (swapL s.1 s.2.length k)), s.2 ++ [c]) else s
def elim (F : FOps) (rows : List (List Int)) (cols : Nat) : List (List Int) × List Nat := uptoN (elimStep F) cols (rows, [])

theorem firstNZ_spec (l : List (List Int)) (c : Nat) : ∀ n k, k ≤ firstNZ l c n k ∧ firstNZ l c n k ≤ k + n ∧ (∀ i, k ≤ i → i < firstNZ l c n k → ent l i c = 0) ∧ (firstNZ l c n k < k + n → ent l (firstNZ l c n k) c ≠ 0)
  | 0, k => by simp [firstNZ]; intro i h1 h2; omega
  | n + 1, k => by
    rw [firstNZ]
    split
    · rename_i hz
      obtain ⟨h1, h2, h3, h4⟩ := firstNZ_spec l c n (k + 1)
      refine ⟨by omega, by omega, fun i hi hi' => ?_, fun hh => h4 (by omega)⟩
      by_cases hik : i = k
      · rw [hik]; exact hz
      · exact h3 i (by omega) hi'
    · rename_i hz
      exact ⟨Nat.le_refl _, by omega, fun i h1 h2 => by omega, fun _ => hz⟩
theorem firstNZ_eq {l : List (List Int)} {c k : Nat} (k' : Nat) (h1 : k ≤ k') (h2 : ∀ i, k ≤ i → i < k' → ent l i c = 0) (h3 : k' < l.length → ent l k' c ≠ 0) (h4 : k' ≤ l.length) :
    firstNZ l c (l.length - k) k = k' := by
  obtain ⟨g1, g2, g3, g4⟩ := firstNZ_spec l c (l.length - k) k
  generalize firstNZ l c (l.length - k) k = f at *
  rcases Nat.lt_trichotomy f k' with h | h | h
  · exact absurd (h2 f g1 h) (g4 (by omega))
  · exact h
  · exact absurd (g3 k' h1 h) (h3 (by omega))

/-! ### what a step does to the entries -/
theorem swapL_length (l : List (List Int)) (i k : Nat) : (swapL l i k).length = l.length := by simp [swapL]
theorem rowAt_swap {l : List (List Int)} {a k : Nat} (ha : a < l.length) (hk : k < l.length) (i : Nat) : rowAt (swapL l a k) i = rowAt l (if i = a then k else if i = k then a else i) := by
  simp only [rowAt, swapL, getD_setN, List.length_set]
  by_cases h1 : i = k
  · subst h1
    by_cases h2 : i = a
    · subst h2; simp [hk]
    · simp [h2, hk]
  · by_cases h2 : i = a
    · subst h2; simp [h1, ha]
    · simp [h1, h2]
theorem unitL_length (c a : Nat) (l : List (List Int)) : (unitL F c a l).length = l.length := by
  rw [unitL]; split <;> simp
theorem clearL_length (c a : Nat) (l : List (List Int)) : (clearL F c a l).length = l.length := tabN_length _ _
theorem scaleL_length (a : Int) (v : List Int) : (scaleL F a v).length = v.length := tabN_length _ _
theorem addToL_length (v : List Int) (a : Int) (u : List Int) : (addToL F v a u).length = v.length := tabN_length _ _
theorem swapL_rect {n : Nat} {l : List (List Int)} {a k : Nat} (hr : Rect n l) (ha : a < l.length) (hk : k < l.length) : Rect n (swapL l a k) := by
  intro i hi
  rw [swapL_length] at hi
  rw [rowAt_swap ha hk]
  refine hr _ ?_
  split
  · exact hk
  · split <;> assumption
theorem unitL_rect {n : Nat} {l : List (List Int)} (c a : Nat) (hr : Rect n l) : Rect n (unitL F c a l) := by
  intro i hi
  rw [unitL_length] at hi
  rw [unitL]
  split
  · rw [rowAt, getD_setN]
    split
    · rename_i h; rw [scaleL_length]; exact hr _ h.2
    · exact hr i hi
  · exact hr i hi
theorem clearRow_length {n : Nat} {l : List (List Int)} (c a : Nat) (hr : Rect n l) {i : Nat} (hi : i < l.length) : (clearRow F c a l i).length = n := by
  rw [clearRow]
  split
  · rw [addToL_length]; exact hr i hi
  · exact hr i hi
theorem clearL_rect {n : Nat} {l : List (List Int)} (c a : Nat) (hr : Rect n l) : Rect n (clearL F c a l) := by
  intro i hi
  rw [clearL_length] at hi
  rw [rowAt, clearL, tabN_getD _ hi]
  exact clearRow_length c a hr hi
theorem elimStep_length (c : Nat) (s : List (List Int) × List Nat) : (elimStep F c s).1.length = s.1.length := by
  simp only [elimStep]
  split
  · rw [clearL_length, unitL_length, swapL_length]
  · rfl
theorem elimStep_rect {n : Nat} (c : Nat) (s : List (List Int) × List Nat) (hr : Rect n s.1) (hs : s.2.length ≤ s.1.length) : Rect n (elimStep F c s).1 := by
  simp only [elimStep]
  split
  · rename_i h
    have := (firstNZ_spec s.1 c (s.1.length - s.2.length) s.2.length).1
    exact clearL_rect _ _ (unitL_rect _ _ (swapL_rect hr (by omega) h))
  · exact hr
theorem elimStep_piv (c : Nat) (s : List (List Int) × List Nat) (hs : s.2.length ≤ s.1.length) : (elimStep F c s).2.length ≤ (elimStep F c s).1.length := by
  rw [elimStep_length]
  simp only [elimStep]
  split
  · rename_i h
    have := (firstNZ_spec s.1 c (s.1.length - s.2.length) s.2.length).1
    simp
    omega
  · exact hs
theorem elim_length (rows : List (List Int)) : ∀ cols, (elim F rows cols).1.length = rows.length
  | 0 => rfl
  | c + 1 => (elimStep_length c _).trans (elim_length rows c)
theorem elim_piv (rows : List (List Int)) : ∀ cols, (elim F rows cols).2.length ≤ rows.length
  | 0 => Nat.zero_le _
  | c + 1 => by
    have h1 : (elim F rows c).2.length ≤ (elim F rows c).1.length := by rw [elim_length]; exact elim_piv rows c
    have := elimStep_piv (F := F) c (elim F rows c) h1
    rw [elimStep_length, elim_length] at this
    exact this
theorem elim_rect {n : Nat} {rows : List (List Int)} (hr : Rect n rows) : ∀ cols, Rect n (elim F rows cols).1
  | 0 => hr
  | c + 1 => elimStep_rect c (elim F rows c) (elim_rect hr c) (by rw [elim_length]; exact elim_piv rows c)

section
variable (h : F.Ok)
theorem scaleL_get (h : F.Ok) {a : Int} (ha : F.El a) (v : List Int) (j : Nat) : (scaleL F a v).getD j 0 = F.mul a (v.getD j 0) := by
  by_cases hj : j < v.length
  · rw [scaleL, tabN_getD _ hj]
  · rw [getD_len _ (by rw [scaleL_length]; omega), getD_len _ (by omega)]
    apply h.k_inj h.el0 (h.mul_el ha h.el0)
    letI := h.fd
    rw [h.k_mul ha h.el0, h.k_zero, Fd.mul_z]
theorem addToL_get (h : F.Ok) {v u : List Int} {a : Int} (ha : F.El a) (j : Nat) (hl : u.length = v.length) (hv : F.El (v.getD j 0)) (hu : F.El (u.getD j 0)) :
    (addToL F v a u).getD j 0 = F.add (v.getD j 0) (F.mul a (u.getD j 0)) := by
  letI := h.fd
  have e0 : u.getD j 0 = 0 → F.add (v.getD j 0) (F.mul a (u.getD j 0)) = v.getD j 0 := fun q => by
    apply h.k_inj (h.add_el hv (h.mul_el ha hu)) hv
    rw [h.k_add hv (h.mul_el ha hu), h.k_mul ha hu, q, h.k_zero, Fd.mul_z, Fd.add_z]
  by_cases hj : j < v.length
  · rw [addToL, tabN_getD _ hj]
    split
    · rfl
    · rename_i q
      exact (e0 (by simpa using q)).symm
  · rw [getD_len _ (by rw [addToL_length]; omega), e0 (getD_len _ (by omega)), getD_len _ (by omega)]
theorem unitL_ent (h : F.Ok) {l : List (List Int)} (c a : Nat) (he : Els F l) (ha : a < l.length) (i j : Nat) (h0 : ent l a c ≠ 0) : ent (unitL F c a l) i j = if i = a then F.mul (F.inv (ent l a c)) (ent l i j) else ent l i j := by
  letI := h.fd
  rw [unitL]
  split
  · rw [ent, rowAt, getD_setN]
    by_cases hi : i = a
    · subst hi
      rw [if_pos ⟨rfl, ha⟩, if_pos rfl, scaleL_get h (h.inv_el (he _ _))]
      rfl
    · rw [if_neg (fun q => hi q.1), if_neg hi]; rfl
  · rename_i h1
    have h1 : ent l a c = 1 := by simpa using h1
    split
    · have : F.inv 1 = 1 := by
        apply h.k_inj (h.inv_el h.el1) h.el1
        rw [h.k_inv h.el1, h.k_one, ← Fd.inv_of (Fd.mul_u (Fd.u : F.K))]
      rw [h1, this]
      apply h.k_inj (he _ _) (h.mul_el h.el1 (he _ _))
      rw [h.k_mul h.el1 (he _ _), h.k_one, Fd.u_mul]
    · rfl
theorem clearL_ent (h : F.Ok) {n : Nat} {l : List (List Int)} (c a : Nat) (hr : Rect n l) (he : Els F l) (ha : a < l.length) (i j : Nat) :
    ent (clearL F c a l) i j = if i ≠ a then F.add (ent l i j) (F.mul (F.neg (ent l i c)) (ent l a j)) else ent l i j := by
  letI := h.fd
  have e0 : ∀ i, ent l i c = 0 → F.add (ent l i j) (F.mul (F.neg (ent l i c)) (ent l a j)) = ent l i j := fun i q => by
    apply h.k_inj (h.add_el (he _ _) (h.mul_el (h.neg_el (he _ _)) (he _ _))) (he _ _)
    rw [h.k_add (he _ _) (h.mul_el (h.neg_el (he _ _)) (he _ _)), h.k_mul (h.neg_el (he _ _)) (he _ _), h.k_neg (he _ _), q, h.k_zero, Fd.neg_z, Fd.z_mul, Fd.add_z]
  by_cases hi : i < l.length
  · rw [ent, rowAt, clearL, tabN_getD _ hi, clearRow]
    by_cases hia : i = a
    · rw [if_neg (by simp [hia]), if_neg (by simp [hia])]; rfl
    · rw [if_pos hia]
      by_cases hz : ent l i c = 0
      · rw [if_neg (by simp [hz]), e0 i hz]; rfl
      · rw [if_pos ⟨hia, hz⟩, addToL_get h (h.neg_el (he _ _)) j (by rw [hr i hi, hr a ha]) (he i j) (he a j)]
        rfl
  · rw [ent_ge _ (by rw [clearL_length]; omega), ent_ge _ (show l.length ≤ i by omega)]
    rw [if_pos (by omega)]
    have := e0 i (ent_ge _ (by omega))
    rw [ent_ge j (show l.length ≤ i by omega)] at this
    exact this.symm
theorem unitL_els (h : F.Ok) {l : List (List Int)} (c a : Nat) (he : Els F l) (ha : a < l.length) (h0 : ent l a c ≠ 0) : Els F (unitL F c a l) := fun i j => by
  rw [unitL_ent h c a he ha i j h0]
  split
  · exact h.mul_el (h.inv_el (he _ _)) (he _ _)
  · exact he _ _
theorem clearL_els (h : F.Ok) {n : Nat} {l : List (List Int)} (c a : Nat) (hr : Rect n l) (he : Els F l) (ha : a < l.length) : Els F (clearL F c a l) := fun i j => by
  rw [clearL_ent h c a hr he ha]
  split
  · exact h.add_el (he _ _) (h.mul_el (h.neg_el (he _ _)) (he _ _))
  · exact he _ _
theorem swapL_els {l : List (List Int)} {a k : Nat} (he : Els F l) (ha : a < l.length) (hk : k < l.length) : Els F (swapL l a k) := fun i j => by
  rw [ent, rowAt_swap ha hk]
  exact he _ _

/-- the columns -/
noncomputable def colV (l : List (List Int)) : Nat → Vc F.K := fun j i => h.k (ent l i j)
/-- the same relations between columns -/
def SameRel (V V' : Nat → Vc F.K) : Prop := letI := h.fd; ∀ (S : Nat → Prop) (x : Nat), Spn V S (V x) ↔ Spn V' S (V' x)
theorem swap_rel {l : List (List Int)} {a k : Nat} (ha : a < l.length) (hk : k < l.length) : SameRel h (colV h l) (colV h (swapL l a k)) := by
  letI := h.fd
  intro S x
  let s : Nat → Nat := fun i => if i = a then k else if i = k then a else i
  have hs : ∀ i, s (s i) = i := fun i => by
    simp only [s]
    by_cases h1 : i = a
    · subst h1; by_cases h2 : k = i <;> simp [h2]
    · by_cases h2 : i = k
      · subst h2; simp [h1]
      · simp [h1, h2]
  have e : ∀ j, colV h (swapL l a k) j = fun i => colV h l j (s i) := fun j => funext fun i => by
    simp only [colV, ent, rowAt_swap ha hk, s]
  refine ⟨fun q => ?_, fun q => ?_⟩
  · have := Spn.map (fun v => fun i => v (s i)) rfl (fun _ _ => rfl) (fun _ _ => rfl) q
    rw [show colV h (swapL l a k) = _ from funext e]
    exact this
  · have := Spn.map (fun v => fun i => v (s i)) rfl (fun _ _ => rfl) (fun _ _ => rfl) q
    rw [show colV h (swapL l a k) = _ from funext e] at this
    simp only [hs] at this
    exact this
theorem unit_rel {l : List (List Int)} {c a : Nat} (he : Els F l) (ha : a < l.length) (h0 : ent l a c ≠ 0) : SameRel h (colV h l) (colV h (unitL F c a l)) := by
  letI := h.fd
  intro S x
  have hd : h.k (ent l a c) ≠ Fd.z := fun q => h0 ((h.k_z_iff (he _ _)).mp q)
  have e : ∀ j, colV h (unitL F c a l) j = fun i => if i = a then Fd.mul (Fd.inv (h.k (ent l a c))) (colV h l j i) else colV h l j i := fun j => funext fun i => by
    simp only [colV, unitL_ent h c a he ha i j h0]
    split
    · rw [h.k_mul (h.inv_el (he _ _)) (he _ _), h.k_inv (he _ _)]
    · rfl
  refine ⟨fun q => ?_, fun q => ?_⟩
  · have := Spn.map (fun v => fun i => if i = a then Fd.mul (Fd.inv (h.k (ent l a c))) (v i) else v i) (funext fun i => by simp only [vz]; split <;> simp only [Fd.mul_z])
      (fun v w => funext fun i => by simp only [va]; split <;> simp only [Fd.mul_add]) (fun d v => funext fun i => by
        simp only [vs]; split
        · rw [← Fd.mul_assoc, Fd.mul_comm _ d, Fd.mul_assoc]
        · rfl) q
    rw [show colV h (unitL F c a l) = _ from funext e]
    exact this
  · have := Spn.map (fun v => fun i => if i = a then Fd.mul (h.k (ent l a c)) (v i) else v i) (funext fun i => by simp only [vz]; split <;> simp only [Fd.mul_z])
      (fun v w => funext fun i => by simp only [va]; split <;> simp only [Fd.mul_add]) (fun d v => funext fun i => by
        simp only [vs]; split
        · rw [← Fd.mul_assoc, Fd.mul_comm _ d, Fd.mul_assoc]
        · rfl) q
    have e' : ∀ j, (fun i => if i = a then Fd.mul (h.k (ent l a c)) (colV h (unitL F c a l) j i) else colV h (unitL F c a l) j i) = colV h l j := fun j => funext fun i => by
      rw [e]
      dsimp only
      split
      · rw [← Fd.mul_assoc, Fd.mul_inv _ hd, Fd.u_mul]
      · rfl
    rw [show colV h l = _ from funext fun j => (e' j).symm]
    exact this
theorem clear_rel {n : Nat} {l : List (List Int)} {c a : Nat} (hr : Rect n l) (he : Els F l) (ha : a < l.length) : SameRel h (colV h l) (colV h (clearL F c a l)) := by
  letI := h.fd
  intro S x
  have e : ∀ j, colV h (clearL F c a l) j = fun i => if i ≠ a then Fd.add (colV h l j i) (Fd.mul (Fd.neg (h.k (ent l i c))) (colV h l j a)) else colV h l j i := fun j => funext fun i => by
    simp only [colV, clearL_ent h c a hr he ha i j]
    split
    · rw [h.k_add (he _ _) (h.mul_el (h.neg_el (he _ _)) (he _ _)), h.k_mul (h.neg_el (he _ _)) (he _ _), h.k_neg (he _ _)]
    · rfl
  have lin : ∀ (x : Nat → F.K), (fun (v : Vc F.K) => (fun i => if i ≠ a then Fd.add (v i) (Fd.mul (x i) (v a)) else v i : Vc F.K)) vz = vz ∧
      (∀ v w : Vc F.K, (fun i => if i ≠ a then Fd.add (va v w i) (Fd.mul (x i) (va v w a)) else va v w i : Vc F.K) = va (fun i => if i ≠ a then Fd.add (v i) (Fd.mul (x i) (v a)) else v i) (fun i => if i ≠ a then Fd.add (w i) (Fd.mul (x i) (w a)) else w i)) ∧
      ∀ (d : F.K) (v : Vc F.K), (fun i => if i ≠ a then Fd.add (vs d v i) (Fd.mul (x i) (vs d v a)) else vs d v i : Vc F.K) = vs d (fun i => if i ≠ a then Fd.add (v i) (Fd.mul (x i) (v a)) else v i) := fun x => by
    refine ⟨funext fun i => ?_, fun v w => funext fun i => ?_, fun d v => funext fun i => ?_⟩
    · simp only [vz]; split <;> simp only [Fd.mul_z, Fd.add_z]
    · simp only [va]
      split
      · rw [Fd.mul_add, Fd.add_assoc, Fd.add_assoc, Fd.add_left_comm (w i)]
      · rfl
    · simp only [vs]
      split
      · rw [Fd.mul_add, ← Fd.mul_assoc, ← Fd.mul_assoc, Fd.mul_comm (x i) d]
      · rfl
  refine ⟨fun q => ?_, fun q => ?_⟩
  · obtain ⟨l1, l2, l3⟩ := lin fun i => Fd.neg (h.k (ent l i c))
    have := Spn.map (fun v => fun i => if i ≠ a then Fd.add (v i) (Fd.mul (Fd.neg (h.k (ent l i c))) (v a)) else v i) l1 l2 l3 q
    rw [show colV h (clearL F c a l) = _ from funext e]
    exact this
  · obtain ⟨l1, l2, l3⟩ := lin fun i => h.k (ent l i c)
    have := Spn.map (fun v => fun i => if i ≠ a then Fd.add (v i) (Fd.mul (h.k (ent l i c)) (v a)) else v i) l1 l2 l3 q
    have e' : ∀ j, (fun i => if i ≠ a then Fd.add (colV h (clearL F c a l) j i) (Fd.mul (h.k (ent l i c)) (colV h (clearL F c a l) j a)) else colV h (clearL F c a l) j i) = colV h l j := fun j => funext fun i => by
      rw [e]
      dsimp only
      by_cases hi : i = a
      · simp [hi]
      · simp only [ne_eq, hi, not_false_eq_true, if_true, not_true_eq_false, if_false]
        rw [Fd.add_assoc, ← Fd.add_mul, Fd.neg_add, Fd.z_mul, Fd.add_z]
    rw [show colV h l = _ from funext fun j => (e' j).symm]
    exact this

/-- what holds ahead of column c -/
structure EInv (h : F.Ok) (n : Nat) (rows : List (List Int)) (c : Nat) (s : List (List Int) × List Nat) : Prop where
  rect : Rect n s.1
  els : Els F s.1
  len : s.1.length = rows.length
  le : s.2.length ≤ s.1.length
  rel : SameRel h (colV h rows) (colV h s.1)
  lt : ∀ i, i < s.2.length → s.2.getD i 0 < c
  pv : ∀ i r, i < s.2.length → ent s.1 r (s.2.getD i 0) = if r = i then 1 else 0
  lo : ∀ r j, r < s.2.length → j < s.2.getD r 0 → ent s.1 r j = 0
  hi : ∀ r j, s.2.length ≤ r → j < c → ent s.1 r j = 0
  rk : s.2.length = letI := h.fd; (clo (colV h rows)).rk (fun _ => False) (List.range c)

theorem elim_zero {n : Nat} {rows : List (List Int)} (hr : Rect n rows) (he : Els F rows) : EInv h n rows 0 (rows, []) :=
  ⟨hr, he, rfl, Nat.zero_le _, fun _ _ => Iff.rfl, fun i hi => by simp at hi, fun i r hi => by simp at hi, fun r j hi => by simp at hi, fun r j _ hj => by omega, rfl⟩
/-- a column without a pivot is a combination of those ahead of it -/
theorem elim_in {c : Nat} {l : List (List Int)} {piv : List Nat} (he : Els F l) (hp : ∀ i r, i < piv.length → ent l r (piv.getD i 0) = if r = i then 1 else 0) (hlt : ∀ i, i < piv.length → piv.getD i 0 < c)
    (hz : ∀ r, piv.length ≤ r → ent l r c = 0) : letI := h.fd; Spn (colV h l) (fun j => j < c) (colV h l c) := by
  letI := h.fd
  have : ∀ n, n ≤ piv.length → Spn (colV h l) (fun j => j < c) (fun i => if i < n then colV h l c i else Fd.z) := fun n => by
    induction n with
    | zero => exact fun _ => by simp only [Nat.not_lt_zero, if_false]; exact .zero
    | succ n ih =>
      intro hn
      have := Spn.step (j := piv.getD n 0) (S := fun j => j < c) (colV h l c n) (hlt n (by omega)) (ih (by omega))
      have e : (fun i => if i < n + 1 then colV h l c i else Fd.z) = va (fun i => if i < n then colV h l c i else Fd.z) (vs (colV h l c n) (colV h l (piv.getD n 0))) := funext fun i => by
        simp only [va, vs]
        have : colV h l (piv.getD n 0) i = if i = n then Fd.u else Fd.z := by
          show h.k (ent l i (piv.getD n 0)) = _
          rw [hp n i (by omega)]
          split
          · exact h.k_one
          · exact h.k_zero
        rw [this]
        by_cases h1 : i < n
        · rw [if_pos (by omega), if_pos h1, if_neg (by omega), Fd.mul_z, Fd.add_z]
        · by_cases h2 : i = n
          · subst h2
            rw [if_pos (by omega), if_neg h1, if_pos rfl, Fd.mul_u, Fd.z_add]
          · rw [if_neg (by omega), if_neg h1, if_neg h2, Fd.mul_z, Fd.add_z]
      rw [e]
      exact this
  have h1 := this _ (Nat.le_refl _)
  have e : colV h l c = fun i => if i < piv.length then colV h l c i else Fd.z := funext fun i => by
    split
    · rfl
    · show h.k _ = _
      rw [hz i (by omega), h.k_zero]
  rw [e]
  exact h1
theorem elim_step {n c : Nat} {rows : List (List Int)} {s : List (List Int) × List Nat} (hI : EInv h n rows c s) : EInv h n rows (c + 1) (elimStep F c s) := by
  obtain ⟨l, piv⟩ := s
  obtain ⟨rect, els, len, le, rel, lt, pv, lo, hi, rk⟩ := hI
  dsimp only at *
  obtain ⟨k1, k2, k3, k4⟩ := firstNZ_spec l c (l.length - piv.length) piv.length
  letI := h.fd
  have hrk : (clo (colV h rows)).rk (fun _ => False) (List.range (c + 1)) = piv.length + (clo (colV h rows)).rk (fun j => j < c) [c] := by
    rw [List.range_succ, Clo.rk_app, ← rk]
    refine congrArg _ (Clo.rk_ext _ (fun y => ?_) _)
    simp [withL]
  simp only [elimStep]
  generalize hk : firstNZ l c (l.length - piv.length) piv.length = k at *
  split
  · rename_i hkl
    have ha : piv.length < l.length := by omega
    have h0 := k4 (by omega)
    have e1 := swapL_els els ha hkl
    have r1 := swapL_rect rect ha hkl
    have ha1 : piv.length < (swapL l piv.length k).length := by rw [swapL_length]; exact ha
    have p1 : ent (swapL l piv.length k) piv.length c ≠ 0 := by rw [ent, rowAt_swap ha hkl, if_pos rfl]; exact h0
    have l1 : ∀ r j, ent (swapL l piv.length k) r j = ent l (if r = piv.length then k else if r = k then piv.length else r) j := fun r j => by rw [ent, rowAt_swap ha hkl]; rfl
    have e2 := unitL_els h c piv.length e1 ha1 p1
    have r2 := unitL_rect (F := F) c piv.length r1
    have rel1 := swap_rel h ha hkl
    have rel2 := unit_rel h e1 ha1 p1
    generalize hL1 : swapL l piv.length k = L1 at *
    have q2 := fun i j => unitL_ent h c piv.length e1 ha1 i j p1
    have len1 : L1.length = l.length := by rw [← hL1, swapL_length]
    have len2 : (unitL F c piv.length L1).length = l.length := by rw [unitL_length, len1]
    generalize hL2 : unitL F c piv.length L1 = L2 at *
    have ha2 : piv.length < L2.length := by rw [len2]; exact ha
    have e3 := clearL_els h c piv.length r2 e2 ha2
    have r3 := clearL_rect (F := F) c piv.length r2
    have rel3 := clear_rel h (c := c) r2 e2 ha2
    have q3 := fun i j => clearL_ent h c piv.length r2 e2 ha2 i j
    have len3 : (clearL F c piv.length L2).length = l.length := by rw [clearL_length, len2]
    generalize hL3 : clearL F c piv.length L2 = L3 at *
    have one2 : ent L2 piv.length c = 1 := by
      rw [q2, if_pos rfl]
      apply h.k_inj (h.mul_el (h.inv_el (e1 _ _)) (e1 _ _)) h.el1
      rw [h.k_mul (h.inv_el (e1 _ _)) (e1 _ _), h.k_inv (e1 _ _), h.k_one, Fd.mul_comm, Fd.mul_inv]
      exact fun q => p1 ((h.k_z_iff (e1 _ _)).mp q)
    have row0 : ∀ j, j < c → ent L2 piv.length j = 0 := fun j hj => by
      rw [q2, if_pos rfl, l1 piv.length j, if_pos rfl, hi k j k1 hj]
      apply h.k_inj (h.mul_el (h.inv_el (e1 _ _)) h.el0) h.el0
      rw [h.k_mul (h.inv_el (e1 _ _)) h.el0, h.k_zero, Fd.mul_z]
    have low : ∀ r j, j < c → ent L3 r j = ent L2 r j := fun r j hj => by
      rw [q3]
      split
      · rw [row0 j hj]
        apply h.k_inj (h.add_el (e2 _ _) (h.mul_el (h.neg_el (e2 _ _)) h.el0)) (e2 _ _)
        rw [h.k_add (e2 _ _) (h.mul_el (h.neg_el (e2 _ _)) h.el0), h.k_mul (h.neg_el (e2 _ _)) h.el0, h.k_zero, Fd.mul_z, Fd.add_z]
      · rfl
    have col : ∀ r, ent L3 r c = if r = piv.length then 1 else 0 := fun r => by
      rw [q3]
      by_cases hr : r = piv.length
      · rw [if_neg (by simp [hr]), if_pos hr, hr, one2]
      · rw [if_pos hr, if_neg hr, one2]
        apply h.k_inj (h.add_el (e2 _ _) (h.mul_el (h.neg_el (e2 _ _)) h.el1)) h.el0
        rw [h.k_add (e2 _ _) (h.mul_el (h.neg_el (e2 _ _)) h.el1), h.k_mul (h.neg_el (e2 _ _)) h.el1, h.k_neg (e2 _ _), h.k_one, Fd.mul_u, Fd.add_neg, h.k_zero]
    have old : ∀ r j, j < c → r ≠ piv.length → ent L3 r j = ent l (if r = k then piv.length else r) j := fun r j hj hr => by
      rw [low r j hj, q2, if_neg hr, l1, if_neg hr]
    have at0 : ∀ j, j < c → ent L3 piv.length j = 0 := fun j hj => by rw [low _ j hj, row0 j hj]
    have gl : ∀ i, i < piv.length → (piv ++ [c]).getD i 0 = piv.getD i 0 := fun i hi => by
      simp [List.getD_eq_getElem?_getD, List.getElem?_append_left hi]
    have gr : (piv ++ [c]).getD piv.length 0 = c := by simp [List.getD_eq_getElem?_getD]
    have relA : SameRel h (colV h rows) (colV h L3) := fun S x => (rel S x).trans ((rel1 S x).trans ((rel2 S x).trans (rel3 S x)))
    have hout : ¬ Spn (colV h rows) (fun j => j < c) (colV h rows c) := fun q => by
      have := ((relA _ _).mp q).coord (i := piv.length) (fun j hj => by show h.k _ = _; rw [at0 j hj, h.k_zero])
      have h2 : h.k (ent L3 piv.length c) = Fd.z := this
      rw [col, if_pos rfl, h.k_one] at h2
      exact Fd.u_ne h2
    refine ⟨r3, e3, by rw [len3, len], by rw [List.length_append, len3]; exact ha, relA, ?_, ?_, ?_, ?_, ?_⟩
    · intro i hi'
      dsimp only at hi' ⊢
      rw [List.length_append, List.length_singleton] at hi'
      by_cases hip : i = piv.length
      · rw [hip, gr]; omega
      · rw [gl i (by omega)]
        have := lt i (by omega)
        omega
    · intro i r hi'
      dsimp only at hi' ⊢
      rw [List.length_append, List.length_singleton] at hi'
      by_cases hip : i = piv.length
      · rw [hip, gr, col]
      · rw [gl i (by omega)]
        have h1 := lt i (by omega)
        by_cases hr : r = piv.length
        · rw [hr, at0 _ h1, if_neg (by omega)]
        · rw [old r _ h1 hr, pv i _ (by omega)]
          by_cases hrk : r = k
          · rw [if_pos hrk, if_neg (by omega), if_neg (by omega)]
          · rw [if_neg hrk]
    · intro r j hr hj
      dsimp only at hr hj ⊢
      rw [List.length_append, List.length_singleton] at hr
      by_cases hrp : r = piv.length
      · rw [hrp, gr] at hj
        rw [hrp]; exact at0 j hj
      · rw [gl r (by omega)] at hj
        have h1 := lt r (by omega)
        rw [old r j (by omega) hrp, if_neg (by omega)]
        exact lo r j (by omega) hj
    · intro r j hr hj
      dsimp only at hr hj ⊢
      rw [List.length_append, List.length_singleton] at hr
      by_cases hjc : j = c
      · rw [hjc, col, if_neg (by omega)]
      · rw [old r j (by omega) (by omega)]
        refine hi _ j ?_ (by omega)
        split <;> omega
    · dsimp only
      rw [hrk, List.length_append, List.length_singleton, Clo.rk_out _ hout, Clo.rk_nil]
  · rename_i hkl
    have hz : ∀ r, piv.length ≤ r → ent l r c = 0 := fun r hr => by
      by_cases hr' : r < k
      · exact k3 r hr hr'
      · exact ent_ge _ (by omega)
    have hin : Spn (colV h rows) (fun j => j < c) (colV h rows c) := (rel _ _).mpr (elim_in h els pv lt hz)
    refine ⟨rect, els, len, le, rel, fun i hi => Nat.lt_succ_of_lt (lt i hi), pv, lo, fun r j hr hj => ?_, ?_⟩
    · by_cases hjc : j = c
      · rw [hjc]; exact hz r hr
      · exact hi r j hr (by omega)
    · dsimp only
      rw [hrk, Clo.rk_in _ hin, Clo.rk_nil]; rfl
theorem elim_inv {n : Nat} {rows : List (List Int)} (hr : Rect n rows) (he : Els F rows) : ∀ c, EInv h n rows c (elim F rows c)
  | 0 => elim_zero h hr he
  | c + 1 => elim_step h (elim_inv hr he c)
end
end Go.Proofs.YtbkpebmcagdgmaaGreat.AM
