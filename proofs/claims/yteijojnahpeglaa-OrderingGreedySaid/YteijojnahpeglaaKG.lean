/- Helpers. The rank that greedy counts and the rank that elimination counts (plain law). · Both ranks are one; bounds of dimensions (plain law). · The laws' check that the program is alive. · From the abstract machine to the rows: the heap that a call finds; what its arguments read as. · The row's wrap and the algebra of the small fields, together: what each law's proof imports. -/
import Derived.Test.YteijojnahpeglaaKE
import Derived.Test.YteijojnahpeglaaChecked
import Derived.Below
import Derived.Carry
import Derived.SizedLaws
import Derived.OpenShut
import Derived.WalkKit
import Derived.ProofKit
import Derived.Deep.Matrix
import Derived.Deep.Strs
import Derived.WideShapes
import Derived.Test.YteijojnahpeglaaKF
/-! The rank that greedy counts and the rank that elimination counts (plain law). -/
namespace Go.Proofs.Yteijojnahpeglaa.AM
open Go Go.RowKit
set_option linter.unusedVariables false
set_option linter.unusedSimpArgs false
section
variable {F : FOps} (h : F.Ok)
/-- a list as a vector -/
noncomputable def vecL (v : List Int) : Vc F.K := fun j => h.k (v.getD j 0)
theorem Spn.congrV {K : Type} [Fd K] {V V' : Nat → Vc K} {S : Nat → Prop} {v : Vc K} (hv : Spn V S v) (he : ∀ j, S j → V j = V' j) : Spn V' S v := by
  induction hv with
  | zero => exact .zero
  | step c hj _ ih => rw [he _ hj]; exact .step c hj ih
theorem Spn.none {K : Type} [Fd K] {V : Nat → Vc K} {S : Nat → Prop} {v : Vc K} (hv : Spn V S v) (he : ∀ j, ¬ S j) : v = vz := by
  induction hv with
  | zero => rfl
  | step c hj _ ih => exact absurd hj (he _)
/-- what holds of a basis of the columns in S -/
structure BInv (V : Nat → Vc F.K) (S : Nat → Prop) (n : Nat) (l : List (List Int)) (places : List Nat) : Prop where
  ok : BOk F n l places
  one : ∀ i, i < l.length → ent l i (places.getD i 0) = 1
  zero : ∀ i j, j < i → i < l.length → ent l i (places.getD j 0) = 0
  inS : letI := h.fd; ∀ i, i < l.length → Spn V S (vecL h (rowAt l i))
  sp : letI := h.fd; ∀ j, S j → Spn (fun i => vecL h (rowAt l i)) (fun i => i < l.length) (V j)
theorem red_vec {n : Nat} {l : List (List Int)} {places : List Nat} (hb : BOk F n l places) (one : ∀ i, i < l.length → ent l i (places.getD i 0) = 1) (zero : ∀ i j, j < i → i < l.length → ent l i (places.getD j 0) = 0)
    {v : List Int} (hv : v.length = n ∧ ∀ j, F.El (v.getD j 0)) : letI := h.fd; ∀ t, t ≤ l.length →
    (∃ w, Spn (fun i => vecL h (rowAt l i)) (fun i => i < l.length) w ∧ vecL h (uptoN (redStep F l places) t v) = va (vecL h v) w) ∧ ∀ i, i < t → (uptoN (redStep F l places) t v).getD (places.getD i 0) 0 = 0 := by
  letI := h.fd
  intro t
  induction t with
  | zero => exact fun _ => ⟨⟨vz, .zero, (va_vz _).symm⟩, fun i hi => by omega⟩
  | succ t ih =>
    intro ht
    obtain ⟨⟨w, hw, hu⟩, hz⟩ := ih (by omega)
    obtain ⟨u1, u2⟩ := red_ok (places := places) h hb.els hv t
    have e : uptoN (redStep F l places) (t + 1) v = redStep F l places t (uptoN (redStep F l places) t v) := rfl
    rw [e]
    generalize uptoN (redStep F l places) t v = u at *
    have hlt := hb.lt t (by omega)
    rw [redStep]
    split
    · rename_i hx
      have g : ∀ j, (subRow F u (u.getD (places.getD t 0) 0) (rowAt l t)).getD j 0 = F.add (u.getD j 0) (F.neg (F.mul (u.getD (places.getD t 0) 0) (ent l t j))) := fun j => by
        by_cases hj : j < u.length
        · rw [subRow, tabN_getD _ hj]; rfl
        · rw [getD_len _ (by rw [subRow_length]; omega), getD_len _ (show u.length ≤ j by omega), ent_col hb.rect t (by omega)]
          apply h.k_inj h.el0 (h.add_el h.el0 (h.neg_el (h.mul_el (u2 _) h.el0)))
          rw [h.k_add h.el0 (h.neg_el (h.mul_el (u2 _) h.el0)), h.k_neg (h.mul_el (u2 _) h.el0), h.k_mul (u2 _) h.el0, h.k_zero, Fd.mul_z, Fd.neg_z, Fd.add_z]
      refine ⟨⟨va w (vs (Fd.neg (h.k (u.getD (places.getD t 0) 0))) (vecL h (rowAt l t))), .step (V := fun i => vecL h (rowAt l i)) _ (show t < l.length by omega) hw, ?_⟩, fun i hi => ?_⟩
      · rw [← va_assoc, ← hu]
        funext j
        simp only [vecL, va, vs]
        rw [g j, h.k_add (u2 _) (h.neg_el (h.mul_el (u2 _) (hb.els _ _))), h.k_neg (h.mul_el (u2 _) (hb.els _ _)), h.k_mul (u2 _) (hb.els _ _), Fd.neg_mul]
        rfl
      · rw [g]
        by_cases hit : i = t
        · subst hit
          rw [one i (by omega)]
          apply h.k_inj (h.add_el (u2 _) (h.neg_el (h.mul_el (u2 _) h.el1))) h.el0
          rw [h.k_add (u2 _) (h.neg_el (h.mul_el (u2 _) h.el1)), h.k_neg (h.mul_el (u2 _) h.el1), h.k_mul (u2 _) h.el1, h.k_one, Fd.mul_u, Fd.add_neg, h.k_zero]
        · rw [zero t i (by omega) (by omega), hz i (by omega)]
          apply h.k_inj (h.add_el h.el0 (h.neg_el (h.mul_el (u2 _) h.el0))) h.el0
          rw [h.k_add h.el0 (h.neg_el (h.mul_el (u2 _) h.el0)), h.k_neg (h.mul_el (u2 _) h.el0), h.k_mul (u2 _) h.el0, h.k_zero, Fd.mul_z, Fd.neg_z, Fd.add_z]
    · rename_i hx
      refine ⟨⟨w, hw, hu⟩, fun i hi => ?_⟩
      by_cases hit : i = t
      · subst hit; simpa using hx
      · exact hz i (by omega)
/-- a combination of a basis that is 0 at its places is 0 -/
theorem basis_zero {l : List (List Int)} {places : List Nat} (one : ∀ i, i < l.length → ent l i (places.getD i 0) = 1) (zero : ∀ i j, j < i → i < l.length → ent l i (places.getD j 0) = 0) : letI := h.fd;
    ∀ {u : Vc F.K}, Spn (fun i => vecL h (rowAt l i)) (fun i => i < l.length) u → (∀ i, i < l.length → u (places.getD i 0) = Fd.z) → u = vz := by
  letI := h.fd
  intro u hu hz
  have : ∀ a, a ≤ l.length → Spn (fun i => vecL h (rowAt l i)) (fun i => a ≤ i ∧ i < l.length) u := fun a => by
    induction a with
    | zero => exact fun _ => hu.mono fun j hj => ⟨Nat.zero_le _, hj⟩
    | succ a ih =>
      intro ha
      have h1 := ih (by omega)
      have h2 : Spn (fun i => vecL h (rowAt l i)) (fun z => (a + 1 ≤ z ∧ z < l.length) ∨ z = a) u := h1.mono fun j hj => by omega
      obtain ⟨w, c, hw, rfl⟩ := h2.split
      have h3 := hw.coord (i := places.getD a 0) (fun j hj => by
        show h.k (ent l j _) = _
        rw [zero j a (by omega) (by omega), h.k_zero])
      have h4 := hz a (by omega)
      simp only [va, vs, h3, Fd.z_add] at h4
      have h5 : vecL h (rowAt l a) (places.getD a 0) = Fd.u := by
        show h.k (ent l a _) = _
        rw [one a (by omega), h.k_one]
      rw [h5, Fd.mul_u] at h4
      rw [h4, vs_z, va_vz]
      exact hw
  exact (this l.length (Nat.le_refl _)).none fun j hj => by omega
theorem vecL_zero {v : List Int} (he : ∀ j, F.El (v.getD j 0)) : letI := h.fd; vecL h v = vz ↔ ∀ j, v.getD j 0 = 0 := by
  letI := h.fd
  constructor
  · intro q j
    exact (h.k_z_iff (he j)).mp (congrFun q j)
  · intro q
    funext j
    show h.k _ = _
    rw [q j, h.k_zero]; rfl
theorem firstV_full {v : List Int} : ¬ firstV v < v.length ↔ ∀ j, v.getD j 0 = 0 := by
  constructor
  · intro q j
    by_cases hj : j < firstV v
    · exact firstV_lt hj
    · exact getD_len _ (by omega)
  · intro q hlt
    exact firstV_ne hlt (q _)
theorem BInv.take {V : Nat → Vc F.K} {S : Nat → Prop} {n : Nat} {l : List (List Int)} {places : List Nat} (hb : BInv h V S n l places) {x : Nat} {v : List Int} (hv : v.length = n ∧ ∀ j, F.El (v.getD j 0)) (hx : vecL h v = V x) :
    BInv h V (with_ S x) n (bTake F l places v).1 (bTake F l places v).2 ∧ (firstV (redB F l places v) < (redB F l places v).length ↔ letI := h.fd; ¬ Spn V S (V x)) := by
  letI := h.fd
  obtain ⟨⟨w, hw, hu⟩, hz⟩ := red_vec h hb.ok hb.one hb.zero hv l.length (Nat.le_refl _)
  obtain ⟨u1, u2⟩ := red_len (places := places) h hb.ok.els hv
  have hbt := hb.ok.take h hv
  change vecL h (redB F l places v) = va (vecL h v) w at hu
  change ∀ i, i < l.length → (redB F l places v).getD (places.getD i 0) 0 = 0 at hz
  have keyz : ¬ firstV (redB F l places v) < (redB F l places v).length ↔ Spn V S (V x) := by
    rw [firstV_full, ← vecL_zero h u2, hu]
    constructor
    · intro q
      have hs := (hw.smul (Fd.neg Fd.u)).trans (T := S) (V' := V) hb.inS
      have : V x = vs (Fd.neg Fd.u) w := by
        rw [← hx]
        funext j
        have := congrFun q j
        simp only [va, vs, vz] at this ⊢
        rw [Fd.neg_mul, Fd.u_mul]
        rw [Fd.add_comm] at this
        exact Fd.neg_of this
      rw [this]
      exact hs
    · intro q
      rw [← hx] at q
      have q2 : Spn (fun i => vecL h (rowAt l i)) (fun i => i < l.length) (va (vecL h v) w) := (q.trans hb.sp).add hw
      refine basis_zero h hb.one hb.zero q2 fun i hi => ?_
      rw [← hu]
      show h.k _ = _
      rw [hz i hi, h.k_zero]
  have key : firstV (redB F l places v) < (redB F l places v).length ↔ ¬ Spn V S (V x) := ⟨fun q hs => keyz.mpr hs q, fun q => Classical.byContradiction fun hk => q (keyz.mp hk)⟩
  refine ⟨?_, key⟩
  have wS : Spn V (with_ S x) w := (hw.trans (T := S) (V' := V) hb.inS).mono fun j hj => .inl hj
  by_cases hk : firstV (redB F l places v) < (redB F l places v).length
  · rw [bTake_pos hk] at hbt ⊢
    generalize hU : redB F l places v = u at *
    have elk := u2 (firstV u)
    have hne := firstV_ne hk
    have sg := scaleL_get h (h.inv_el elk) u
    have vsc : vecL h (scaleL F (F.inv (u.getD (firstV u) 0)) u) = vs (Fd.inv (h.k (u.getD (firstV u) 0))) (vecL h u) := funext fun j => by
      simp only [vecL, vs]
      rw [sg j, h.k_mul (h.inv_el elk) (u2 _), h.k_inv elk]
    have kne : h.k (u.getD (firstV u) 0) ≠ Fd.z := fun q => hne ((h.k_z_iff elk).mp q)
    refine ⟨hbt, fun i hi => ?_, fun i j hji hi => ?_, fun i hi => ?_, fun j hj => ?_⟩
    · rw [List.length_append, List.length_singleton] at hi
      rw [ent, rowAt_app, getD_app, hb.ok.pl]
      by_cases hil : i < l.length
      · rw [if_pos hil, if_pos hil]; exact hb.one i hil
      · have : i = l.length := by omega
        rw [if_neg hil, if_neg hil, if_pos this, if_pos this, sg]
        apply h.k_inj (h.mul_el (h.inv_el elk) elk) h.el1
        rw [h.k_mul (h.inv_el elk) elk, h.k_inv elk, Fd.mul_comm, Fd.mul_inv _ kne, h.k_one]
    · rw [List.length_append, List.length_singleton] at hi
      rw [ent, rowAt_app, getD_app, hb.ok.pl, if_pos (show j < l.length by omega)]
      by_cases hil : i < l.length
      · rw [if_pos hil]; exact hb.zero i j hji hil
      · rw [if_neg hil, if_pos (by omega), sg, hz j (by omega)]
        apply h.k_inj (h.mul_el (h.inv_el elk) h.el0) h.el0
        rw [h.k_mul (h.inv_el elk) h.el0, h.k_zero, Fd.mul_z]
    · rw [List.length_append, List.length_singleton] at hi
      rw [rowAt_app]
      by_cases hil : i < l.length
      · rw [if_pos hil]; exact (hb.inS i hil).mono fun j hj => .inl hj
      · rw [if_neg hil, if_pos (by omega), vsc, hu, hx]
        exact ((Spn.one (.inr rfl)).add wS).smul _
    · have old : ∀ {y : Vc F.K}, Spn (fun i => vecL h (rowAt l i)) (fun i => i < l.length) y → Spn (fun i => vecL h (rowAt (l ++ [scaleL F (F.inv (u.getD (firstV u) 0)) u]) i)) (fun i => i < (l ++ [scaleL F (F.inv (u.getD (firstV u) 0)) u]).length) y := fun hy => by
        refine (hy.congrV (V' := fun i => vecL h (rowAt (l ++ [scaleL F (F.inv (u.getD (firstV u) 0)) u]) i)) fun j hj => ?_).mono fun j hj => ?_
        · rw [rowAt_app, if_pos hj]
        · simp; omega
      rcases hj with hj | rfl
      · exact old (hb.sp j hj)
      · have e : V j = va (vs (h.k (u.getD (firstV u) 0)) (vecL h (scaleL F (F.inv (u.getD (firstV u) 0)) u))) (vs (Fd.neg Fd.u) w) := by
          rw [vsc, vs_vs, Fd.mul_inv _ kne, vs_u, hu, hx]
          funext i
          simp only [va, vs]
          rw [Fd.neg_mul, Fd.u_mul, Fd.add_add_neg]
        rw [e]
        have last : vecL h (scaleL F (F.inv (u.getD (firstV u) 0)) u) = vecL h (rowAt (l ++ [scaleL F (F.inv (u.getD (firstV u) 0)) u]) l.length) := by
          rw [rowAt_app, if_neg (Nat.lt_irrefl _), if_pos rfl]
        refine Spn.add (Spn.smul _ ?_) ((old hw).smul _)
        rw [last]
        exact Spn.one (V := fun i => vecL h (rowAt (l ++ [scaleL F (F.inv (u.getD (firstV u) 0)) u]) i)) (show l.length < _ by simp)
  · rw [bTake_neg hk] at hbt ⊢
    have hin : Spn V S (V x) := Classical.byContradiction fun q => hk (key.mpr q)
    refine ⟨hbt, hb.one, hb.zero, fun i hi => (hb.inS i hi).mono fun j hj => .inl hj, fun j hj => ?_⟩
    rcases hj with hj | rfl
    · exact hb.sp j hj
    · exact hin.trans hb.sp
theorem colL_vec {rows : List (List Int)} (i : Nat) : vecL h (colL rows i) = colV h rows i := funext fun k => by
  show h.k _ = h.k _
  by_cases hk : k < rows.length
  · rw [colL, tabN_getD _ hk]
  · rw [getD_len _ (by rw [colL, tabN_length]; omega), ent_ge _ (by omega)]
theorem getD_toNat {order : List Int} (t : Nat) : (order.map Int.toNat).getD t 0 = (order.getD t 0).toNat := by
  rw [List.getD_eq_getElem?_getD, List.getD_eq_getElem?_getD, List.getElem?_map]
  cases order[t]? <;> rfl
theorem gAll_inv {rows : List (List Int)} (he : Els F rows) (order : List Int) : ∀ t, t ≤ order.length →
    BInv h (colV h rows) (fun z => z ∈ (order.map Int.toNat).take t) rows.length (gAll F rows order t).1 (gAll F rows order t).2.1 ∧ (gAll F rows order t).2.2.length = letI := h.fd; (clo (colV h rows)).rk (fun _ => False) ((order.map Int.toNat).take t)
  | 0 => fun _ => ⟨⟨(gAll_ok h he order 0).1, fun i hi => by simp [gAll, uptoN] at hi, fun i j _ hi => by simp [gAll, uptoN] at hi, fun i hi => by simp [gAll, uptoN] at hi, fun j hj => by simp at hj⟩, rfl⟩
  | t + 1 => fun ht => by
    letI := h.fd
    obtain ⟨h1, h2⟩ := gAll_inv he order t (by omega)
    rw [gAll_succ]
    generalize gAll F rows order t = s at *
    have hv := colL_ok he h.el0 (order.getD t 0).toNat
    have hu := (red_len (places := s.2.1) h h1.ok.els hv).1
    obtain ⟨k1, k2⟩ := h1.take h hv (colL_vec h (order.getD t 0).toNat)
    have et : (order.map Int.toNat).take (t + 1) = (order.map Int.toNat).take t ++ [(order.getD t 0).toNat] := by
      rw [← take_push 0 (show t < (order.map Int.toNat).length by rw [List.length_map]; omega), getD_toNat]
    refine ⟨?_, ?_⟩
    · have : (fun z => z ∈ (order.map Int.toNat).take (t + 1)) = with_ (fun z => z ∈ (order.map Int.toNat).take t) (order.getD t 0).toNat := funext fun z => by
        rw [et]; simp [with_]
      rw [this]
      exact k1
    · rw [et, Clo.rk_app, ← h2]
      have e : (clo (colV h rows)).rk (withL (fun _ => False) ((order.map Int.toNat).take t)) [(order.getD t 0).toNat] = (clo (colV h rows)).rk (fun z => z ∈ (order.map Int.toNat).take t) [(order.getD t 0).toNat] := Clo.rk_ext _ (fun y => by simp [withL]) _
      rw [e]
      simp only [gStep]
      by_cases hk : firstV (redB F s.1 s.2.1 (colL rows (order.getD t 0).toNat)) < rows.length
      · have := k2.mp (by rw [hu]; exact hk)
        rw [if_pos hk, List.length_append, List.length_singleton, Clo.rk_out _ this, Clo.rk_nil]
      · have : Spn (colV h rows) (fun z => z ∈ (order.map Int.toNat).take t) (colV h rows (order.getD t 0).toNat) := Classical.byContradiction fun q => hk (by have := k2.mpr q; rwa [hu] at this)
        rw [if_neg hk, Clo.rk_in _ this, Clo.rk_nil]; rfl
theorem greedy_rk {rows : List (List Int)} (he : Els F rows) (order : List Int) : (greedyL F rows order).length = letI := h.fd; (clo (colV h rows)).rk (fun _ => False) (order.map Int.toNat) := by
  have := (gAll_inv h he order order.length (Nat.le_refl _)).2
  rwa [List.take_of_length_le (by simp)] at this
end
end Go.Proofs.Yteijojnahpeglaa.AM
/-! Both ranks are one; bounds of dimensions (plain law). -/
namespace Go.Proofs.Yteijojnahpeglaa.AM
open Go Go.RowKit
set_option linter.unusedVariables false
set_option linter.unusedSimpArgs false
theorem rk_pull {K : Type} [Fd K] {V V' : Nat → Vc K} (f : Nat → Nat) : ∀ (l : List Nat) (S : Nat → Prop), (∀ j, j ∈ l → V' j = V (f j)) → (∀ j, S j → V' j = V (f j)) → (clo V').rk S l = (clo V).rk (fun z => ∃ j, S j ∧ z = f j) (l.map f)
  | [], S, _, _ => rfl
  | x :: l, S, hl, hS => by
    have hx := hl x (by simp)
    have e : Spn V' S (V' x) ↔ Spn V (fun z => ∃ j, S j ∧ z = f j) (V (f x)) := by
      rw [← hx]
      constructor
      · intro q
        exact (q.congrV (V' := fun j => V (f j)) hS).trans (T := fun z => ∃ j, S j ∧ z = f j) (V' := V) fun j hj => Spn.one ⟨j, hj, rfl⟩
      · intro q
        refine q.trans (T := S) (V' := V') fun z hz => ?_
        obtain ⟨j, hj, rfl⟩ := hz
        rw [← hS j hj]
        exact Spn.one hj
    have ih := rk_pull f l (with_ S x) (fun j hj => hl j (by simp [hj])) (fun j hj => hj.elim (hS j) fun q => q ▸ hx)
    have e2 : (clo V).rk (fun z => ∃ j, with_ S x j ∧ z = f j) (l.map f) = (clo V).rk (with_ (fun z => ∃ j, S j ∧ z = f j) (f x)) (l.map f) := Clo.rk_ext _ (fun z => by
      simp only [with_]
      constructor
      · rintro ⟨j, hj | rfl, rfl⟩
        · exact .inl ⟨j, hj, rfl⟩
        · exact .inr rfl
      · rintro (⟨j, hj, rfl⟩ | rfl)
        · exact ⟨j, .inl hj, rfl⟩
        · exact ⟨x, .inr rfl, rfl⟩) _
    rw [List.map_cons]
    by_cases q : Spn V' S (V' x)
    · rw [Clo.rk_in (clo V') q, Clo.rk_in (clo V) (e.mp q), ih, e2]
    · rw [Clo.rk_out (clo V') q, Clo.rk_out (clo V) (fun w => q (e.mpr w)), ih, e2]
section
variable {p m : Int} {mod : List Int} (h : (fF p m mod).Ok)
theorem map_toNat_eq (set : List Int) : (List.range set.length).map (fun j => (set.getD j 0).toNat) = set.map Int.toNat := by
  refine List.ext_getElem (by simp) fun j h1 h2 => ?_
  simp at h1
  simp [List.getD_eq_getElem?_getD, h1]
theorem rankS_rk {rows : List (List Int)} (he : Els (fF p m mod) rows) (set : List Int) : rankS p m mod rows set = letI := h.fd; (clo (colV h rows)).rk (fun _ => False) (set.map Int.toNat) := by
  letI := h.fd
  have inv := (elim_inv h (pick_rect rows set) (pick_els h.el0 set he) set.length).rk
  rw [rankS, inv]
  rw [rk_pull (V := colV h rows) (fun j => (set.getD j 0).toNat) (List.range set.length) _ (fun j hj => ?_) (fun j hj => hj.elim), map_toNat_eq]
  · exact Clo.rk_ext _ (fun z => by simp) _
  · funext i
    show h.k _ = h.k _
    rw [pick_ent i (by simpa using hj)]
theorem maskL_map (n : Nat) (s : Nat → Bool) : (maskL n s).map Int.toNat = (List.range n).filter s := by
  rw [maskL, natsI, List.map_map]
  exact List.map_id'' (fun a => rfl) _ ▸ rfl
theorem rankP_R {n : Int} {rows : List (List Int)} (he : Els (fF p m mod) rows) (s : Nat → Bool) : rankP p m mod n rows s = letI := h.fd; (clo (colV h rows)).R n.toNat s := by
  letI := h.fd
  rw [rankP, greedy_rk h he, maskL_map]; rfl
theorem rankS_mask {n : Nat} {rows : List (List Int)} (he : Els (fF p m mod) rows) (s : Nat → Bool) : rankS p m mod rows (maskL n s) = letI := h.fd; (clo (colV h rows)).R n s := by
  letI := h.fd
  rw [rankS_rk h he, maskL_map]; rfl
theorem R_le_rows {n : Nat} {rows : List (List Int)} (he : Els (fF p m mod) rows) (s : Nat → Bool) : letI := h.fd; (clo (colV h rows)).R n s ≤ rows.length := by
  letI := h.fd
  rw [← rankS_mask h he]
  exact rankS_le _ _ _ _ _
theorem filter_nodup (n : Nat) (s : Nat → Bool) : ((List.range n).filter s).Nodup := List.Nodup.sublist List.filter_sublist List.nodup_range
/-- a list without repetition counts as its set -/
theorem rankS_set {n : Nat} {rows : List (List Int)} (he : Els (fF p m mod) rows) {set : List Int} (hp : Poss n set) (hn : set.Nodup) : rankS p m mod rows set = letI := h.fd; (clo (colV h rows)).R n (inL set) := by
  letI := h.fd
  rw [rankS_rk h he, Clo.R]
  refine Clo.rk_perm _ ((List.perm_ext_iff_of_nodup ?_ (filter_nodup _ _)).mpr fun a => ?_) _
  · rw [List.Nodup, List.pairwise_iff_getElem] at hn ⊢
    intro i j hi hj hij q
    simp only [List.length_map] at hi hj
    simp only [List.getElem_map] at q
    have h1 := hp i hi
    have h2 := hp j hj
    simp only [List.getD_eq_getElem?_getD, List.getElem?_eq_getElem hi, List.getElem?_eq_getElem hj, Option.getD_some] at h1 h2
    exact hn i j hi hj hij (by omega)
  · simp only [List.mem_map, List.mem_filter, List.mem_range, inL, List.contains_iff_mem]
    constructor
    · rintro ⟨x, hx, rfl⟩
      obtain ⟨i, hi, rfl⟩ := List.getElem_of_mem hx
      have h1 := hp i hi
      simp only [List.getD_eq_getElem?_getD, List.getElem?_eq_getElem hi, Option.getD_some] at h1
      exact ⟨by omega, by rw [Int.toNat_of_nonneg h1.1]; exact hx⟩
    · rintro ⟨h1, h2⟩
      exact ⟨a, h2, rfl⟩
theorem Subset.nodup {n : Int} {s : List Int} (hS : Subset n s) : s.Nodup := by
  have mono : ∀ i j, i < j → j < s.length → s.getD i 0 < s.getD j 0 := fun i j hij => by
    induction j with
    | zero => omega
    | succ j ih =>
      intro hj
      have h1 := (hS (j + 1) hj).2.2 (by omega)
      simp only [Nat.add_sub_cancel] at h1
      by_cases q : i = j
      · rw [q]; exact h1
      · have := ih (by omega) (by omega)
        omega
  rw [List.Nodup, List.pairwise_iff_getElem]
  intro i j hi hj hij q
  have := mono i j hij hj
  simp only [List.getD_eq_getElem?_getD, List.getElem?_eq_getElem hi, List.getElem?_eq_getElem hj, Option.getD_some] at this
  omega
theorem others_mask (n : Nat) (set : List Int) : natsI (othersN n set) = maskL n (fun i => !inL set i) := rfl
/-- the dimension that the reference counts is the program's -/
theorem dimS_eq (h : (fF p m mod).Ok) {n : Int} (hn : 0 ≤ n) {rows : List (List Int)} (he : Els (fF p m mod) rows) {set : List Int} (hp : Poss n set) (hd : set.Nodup) : dimS p m mod n rows set = dimP p m mod n rows (inL set) := by
  letI := h.fd
  rw [dimS, dimP, others_mask, rankS_set h he (n := n.toNat) (by rwa [Int.toNat_of_nonneg hn]) hd, rankS_mask h he, rankP_R h he, rankP_R h he]
theorem filter_len (n : Nat) (s : Nat → Bool) : ((List.range n).filter s).length + ((List.range n).filter fun i => !s i).length = n := by
  have := (List.filter_append_perm s (List.range n)).length_eq
  simpa using this
theorem dimP_le (h : (fF p m mod).Ok) {n : Int} (hn : 0 ≤ n) {rows : List (List Int)} (he : Els (fF p m mod) rows) (s : Nat → Bool) : dimP p m mod n rows s ≤ rows.length ∧ dimP p m mod n rows s ≤ n - rows.length := by
  letI := h.fd
  have a1 := R_le_rows h (n := n.toNat) he s
  have a2 := R_le_rows h (n := n.toNat) he (fun i => !s i)
  have a3 := (clo (colV h rows)).R_le n.toNat s
  have a4 := (clo (colV h rows)).R_le n.toNat (fun i => !s i)
  have a5 := filter_len n.toNat s
  rw [dimP, rankP_R h he, rankP_R h he]
  omega
theorem dimP_compl {n : Int} {rows : List (List Int)} (s : Nat → Bool) : dimP p m mod n rows (fun i => !s i) = dimP p m mod n rows s := by
  have : (fun i => !(!s i)) = s := funext fun i => by cases s i <;> rfl
  rw [dimP, dimP, this]
  omega
theorem rankP_congr {n : Int} {rows : List (List Int)} {s t : Nat → Bool} (hst : ∀ i : Nat, (i : Int) < n → s i = t i) : rankP p m mod n rows s = rankP p m mod n rows t := by
  rw [rankP, rankP, maskL_congr fun i hi => hst i (by omega)]
theorem dimP_congr {n : Int} {rows : List (List Int)} {s t : Nat → Bool} (hst : ∀ i : Nat, (i : Int) < n → s i = t i) : dimP p m mod n rows s = dimP p m mod n rows t := by
  rw [dimP, dimP, rankP_congr hst, rankP_congr (s := fun i => !s i) (t := fun i => !t i) fun i hi => by rw [hst i hi]]
end
end Go.Proofs.Yteijojnahpeglaa.AM
/-! The laws' check that the program is alive. -/
namespace Go.Proofs.Yteijojnahpeglaa.AM
open Go Go.RowKit
set_option linter.unusedVariables false
set_option linter.unusedSimpArgs false
set_option maxRecDepth 20000
theorem prm2 : prm 2 := fun d h1 h2 => by omega
theorem ordr2 : ordr 2 1 = 2 := by
  rw [ordr, if_pos (by decide)]; decide
theorem field2 : FieldOk 2 1 [] := ⟨by rw [ordr2]; decide, prm2, .inl ⟨rfl, rfl⟩⟩
theorem code2 : codeErr 2 1 [] 2 [[1, 1]] = 0 := by
  have h1 : matErr 2 1 [] 2 [[1, 1]] = 0 := by
    rw [matErr, if_neg (by simpa using field2), if_neg, if_neg]
    · rintro ⟨i, hi, hn⟩
      have : i = 0 := by simp at hi; exact hi
      subst this
      refine hn fun j hj => ?_
      rw [ordr2]
      have : j = 0 ∨ j = 1 := by simp [rowAt] at hj; omega
      rcases this with rfl | rfl <;> decide
    · rintro (h | h | h | ⟨i, hi, hn⟩)
      · omega
      · omega
      · simp at h
      · have : i = 0 := by simp at hi; exact hi
        subst this
        exact hn rfl
  have h2 : (canon (fF 2 1 []) [[1, 1]] (2 : Int).toNat).1 = [[1, 1]] := rfl
  rw [codeErr, if_neg (by simpa using field2), if_neg (by omega), spcErr, if_neg (by simpa using h1), if_pos h2]
theorem sub2 : Subset 2 [0] := fun i hi => by
  have : i = 0 := by simpa using hi
  subst this
  exact ⟨by decide, by decide, fun h => by omega⟩
theorem dimE2 : dimErr 2 1 [] 2 [[1, 1]] [0] = 0 := by
  rw [dimErr, if_neg (by simpa using code2), if_pos sub2]
theorem dimV2 : dimValP 2 1 [] 2 [[1, 1]] [0] = 1 := by
  rw [dimValP, if_pos dimE2]
  rfl
theorem u_buildS2I {P : Program} {K : Kt} {e : Env} {H : AH} {d : Option Nat} {r : Rst} {x y : Int} {z : AV} : kBuildS P 2 r e H K d (some 1) (some [z]) [(0, .int .i64 x), (1, .int .i64 y)] = kNew P (fun b => .sl b 0 2 (.own 1)) r e H K d [.int .i64 x, .int .i64 y] := by
  simp [kBuildS, aFill, reps, splice, AV.sure, AV.cells]
theorem c_alive (A : Alg) {H : AH} {Q : AV → AH → Prop} (hQ : ∀ H', Ext H H' → Q (.bool true) H') : AC Try.prog 13 [] H Q := by
  refine at13 (by simp) ?_
  have f1 : aFill (fun i => [(0, 1), (1, 1), (2, 1)][i]?) [.int .i64 0, .int .i64 0, .nils] [(0, .int .i64 2), (1, .int .i64 1)] = some [.int .i64 2, .int .i64 1, .nils] := rfl
  simp (disch := first | assumption | omega) only [↓RP, RQ, TY, loadT, s13, reduceIte, Nat.reduceEqDiff, Nat.reduceAdd, f1, u_buildS2I]
  refine kNew_intro fun b1 H1 hb1 hE1 hH1 => ?_
  have s1 : (AV.sl b1 0 2 (.own 1)).isSl = true := rfl
  simp (disch := first | assumption | omega) only [↓RP, RQ, TY, loadT, reduceIte, Nat.reduceEqDiff, Nat.reduceAdd, u_buildS1V]
  refine kNew_intro fun b2 H2 hb2 hE2 hH2 => ?_
  have hH12 := hE2.rw hH1
  have f2 : aFill (fun i => [(0, 3), (3, 1), (4, 1)][i]?) [.int .i64 0, .int .i64 0, .nils, .int .i64 0, .nils] [(0, .agg [.int .i64 2, .int .i64 1, .nils]), (1, .int .i64 2), (2, .sl b2 0 1 (.own 1))] = some [.int .i64 2, .int .i64 1, .nils, .int .i64 2, .sl b2 0 1 (.own 1)] := rfl
  simp (disch := first | assumption | omega) only [↓RP, RQ, TY, loadT, reduceIte, Nat.reduceEqDiff, Nat.reduceAdd, f2]
  refine kNew_intro fun b3 H3 hb3 hE3 hH3 => ?_
  simp (disch := first | assumption | omega) only [↓RP, RQ, TY, loadT, reduceIte, Nat.reduceEqDiff, Nat.reduceAdd]
  have hr : Rows H3 (.sl b2 0 1 (.own 1)) [.sl b1 0 2 (.own 1)] [[1, 1]] := by
    refine ⟨Sl.own (hE3.rw hH2) rfl, rfl, fun i hi => ?_⟩
    have : i = 0 := by simpa using hi
    subst this
    exact Sl.own (hE3.rw hH12) rfl
  refine c_ODim A (p := 2) (m := 1) (n := 2) (mod := []) (rows := [[1, 1]]) (set := [0]) (.inl ⟨rfl, rfl⟩) (by simp) hr (Sl.own hH3 rfl) (by simp) (fun i hi => by
    have : i = 0 := by simpa using hi
    subst this
    decide) (by simp) fun H4 hE4 => ?_
  rw [dimV2, dimE2]
  simp (disch := first | assumption | omega) only [↓RP, RQ, TY, loadT, reduceIte, Nat.reduceEqDiff, Nat.reduceAdd, Int.reduceEq]
  exact hQ _ (((hE1.trans hE2).trans hE3).trans hE4)
theorem inL_mask (n : Nat) (s : Nat → Bool) (i : Nat) (hi : i < n) : inL (maskL n s) i = s i := by
  rw [Bool.eq_iff_iff, inL, List.contains_iff_mem, maskL, natsI]
  simp [hi]
  exact ⟨fun ⟨a, ⟨_, h⟩, e⟩ => by rwa [show a = i by omega] at h, fun h => ⟨i, ⟨hi, h⟩, rfl⟩⟩
theorem dimErr_iff {p m n : Int} {mod set : List Int} {rows : List (List Int)} (h0 : dimErr p m mod n rows set = 0) : codeErr p m mod n rows = 0 ∧ Subset n set := by
  have hc : codeErr p m mod n rows = 0 := Classical.byContradiction fun q => by
    rw [dimErr, if_pos q] at h0; exact q h0
  exact ⟨hc, Classical.byContradiction fun q => by
    rw [dimErr, if_neg (by simpa using hc), if_neg q] at h0
    cases h0⟩
theorem dimErr_ok {p m n : Int} {mod set : List Int} {rows : List (List Int)} (hc : codeErr p m mod n rows = 0) (hS : Subset n set) : dimErr p m mod n rows set = 0 := by
  rw [dimErr, if_neg (by simpa using hc), if_pos hS]
theorem dimVal_eq (A : Alg) {p m n : Int} {mod set : List Int} {rows : List (List Int)} : dimValP p m mod n rows set = dimVal p m mod n rows set := by
  rw [dimValP, dimVal]
  by_cases h0 : dimErr p m mod n rows set = 0
  · rw [if_pos h0, if_pos h0]
    obtain ⟨hc, hS⟩ := dimErr_iff h0
    obtain ⟨o1, o2, o3, o4, o5, o6, o7⟩ := code_ok A.fo hc
    exact (dimS_eq (A.fo _ _ _ o1) (by omega) o5 hS.poss hS.nodup).symm
  · rw [if_neg h0, if_neg h0]
theorem law_Dimensions (A : Alg) {p m n : Int} {md v sv : AV} {mod set : List Int} {us : List AV} {rows : List (List Int)} {H : AH} (hm : Ints H md mod) (hlm : mod.length ≤ 9223372036854775807) (hv : Rows H v us rows) (hl : rows.length ≤ 9223372036854775807) (hlr : ∀ i, i < rows.length → (rowAt rows i).length ≤ 9223372036854775807) (hs : Ints H sv set) (hls : set.length ≤ 9223372036854775807) :
    AC Try.prog 3 [codeV p m md n v, sv] H fun r H' => r = .bool true ∧ Ext H H' := by
  refine at3 (by simp) ?_
  simp (disch := first | assumption | omega) only [↓RP, RQ, TY, loadT, s3, reduceIte, Nat.reduceEqDiff, Nat.reduceAdd]
  refine kNew_intro fun b H1 hb hE1 hH1 => ?_
  simp (disch := first | assumption | omega) only [↓RP, RQ, TY, loadT, reduceIte, Nat.reduceEqDiff, Nat.reduceAdd, hH1]
  refine c_ODim A (hm.ext hE1) hlm (hv.ext hE1) (hs.ext hE1) hl hlr hls fun H2 hE2 => ?_
  have hE12 := hE1.trans hE2
  have h2 := hE2.rw hH1
  simp (disch := first | assumption | omega) only [↓RP, RQ, TY, loadT, reduceIte, Nat.reduceEqDiff, Nat.reduceAdd, h2]
  refine c_Dim48 A.fo (hm.ext hE12) (hv.ext hE12) (hs.ext hE12) hl hlr hls fun H3 hE3 => ?_
  have hE13 := hE12.trans hE3
  have h3 := hE3.rw h2
  have heq : dimValP p m mod n rows set = dimVal p m mod n rows set := dimVal_eq A
  rw [heq]
  simp (disch := first | assumption | omega) only [↓RP, RQ, TY, loadT, reduceIte, Nat.reduceEqDiff, Nat.reduceAdd, h3, eq_false (show ¬ dimVal p m mod n rows set ≠ dimVal p m mod n rows set by simp)]
  refine c_alive A fun H4 hE4 => ?_
  have hE14 := hE13.trans hE4
  have h4 := hE4.rw h3
  by_cases h0 : dimErr p m mod n rows set = 0
  rotate_left
  · simp (disch := first | assumption | omega) only [↓RP, RQ, TY, loadT, reduceIte, Nat.reduceEqDiff, Nat.reduceAdd, eq_false h0, h4]
    exact ⟨rfl, hE14⟩
  obtain ⟨hc, hS⟩ := dimErr_iff h0
  have ca := A.fo.ca hc (hm.ext hE14) (hv.ext hE14)
  have n1 := ca.n1
  have n64 := ca.n64
  have kn := ca.kn
  have hv4 := hv.ext hE14
  simp (disch := first | assumption | omega) only [↓RP, RQ, TY, loadT, reduceIte, Nat.reduceEqDiff, Nat.reduceAdd, eq_true h0, h4]
  refine c_Others (by omega) (by omega) (hs.ext hE14) (by omega) hS.poss fun w H5 hE5 ho5 => ?_
  have h5 := hE5.rw h4
  have hE15 := hE14.trans hE5
  have ol := othersN_length n.toNat set
  simp (disch := first | assumption | omega) only [↓RP, RQ, TY, loadT, reduceIte, Nat.reduceEqDiff, Nat.reduceAdd, h5]
  refine c_ODim A (hm.ext hE15) hlm (hv.ext hE15) ho5.sl hl hlr (by rw [natsI_length]; omega) fun H6 hE6 => ?_
  have h6 := hE6.rw h5
  have hv6 := hv.ext (hE15.trans hE6)
  have hS2 : Subset n (natsI (othersN n.toNat set)) := by
    have := maskL_subset (fun i => !inL set i) n.toNat
    rwa [show ((n.toNat : Nat) : Int) = n by omega] at this
  have e2 : dimErr p m mod n rows (natsI (othersN n.toNat set)) = 0 := dimErr_ok hc hS2
  have e0 : dimValP p m mod n rows set = dimP p m mod n rows (inL set) := by rw [dimValP, if_pos h0]
  have e1 : dimValP p m mod n rows (natsI (othersN n.toNat set)) = dimP p m mod n rows (inL set) := by
    rw [dimValP, if_pos e2, others_mask, ← dimP_compl (inL set)]
    exact dimP_congr fun i hi => inL_mask n.toNat _ i (by omega)
  obtain ⟨b1, b2⟩ := dimP_le ca.fa.ok (n := n) (by omega) ca.els (inL set)
  rw [e1, e2, ← heq, e0]
  simp (disch := first | assumption | omega) only [↓RP, RQ, TY, loadT, reduceIte, Nat.reduceEqDiff, Nat.reduceAdd, h6, hv6.run, b1, b2, Int.reduceEq]
  exact ⟨rfl, hE15.trans hE6⟩
end Go.Proofs.Yteijojnahpeglaa.AM
/-! From the abstract machine to the rows: the heap that a call finds; what its arguments read as. -/
namespace Go.Proofs.Yteijojnahpeglaa.AM
open Go Go.RowKit Go.ChangeShapes Go.WideShapes Go.ChangeAt Go.Deep
set_option linter.unusedVariables false
set_option linter.unusedSimpArgs false
set_option maxRecDepth 20000
open Classical in
/-- a value as the abstract machine sees it -/
noncomputable def avOf (W : World) : Value → AV
  | .int k n => .int k n
  | .slice none 0 0 => .nils
  | .slice (some a) n c => if n ≤ c ∧ c ≤ maxLen ∧ ((a.spot = none ∧ a.block < W.heap.size) ∨ n = 0) then .sl a.block a.off n .any else .junk
  | _ => .junk
theorem avOf_rv (W : World) (v : Value) : RV W (avOf W v) v := by
  unfold avOf
  split
  · exact .int _ _
  · exact .nils
  · rename_i a n c
    split
    · rename_i h
      obtain ⟨h1, h2, h3⟩ := h
      refine .sl _ _ _ _ _ _ h1 h2 trivial ?_
      rcases h3 with ⟨h3, h4⟩ | h3
      · obtain ⟨b, o, s⟩ := a
        cases h3
        exact .inl ⟨rfl, h4⟩
      · exact .inr ⟨h3, fun s q => by cases q⟩
    · exact .junk _
  · exact .junk _
open Classical in
theorem avOf_sl (W : World) (a : Addr) (n c : Nat) : avOf W (.slice (some a) n c) = if n ≤ c ∧ c ≤ maxLen ∧ ((a.spot = none ∧ a.block < W.heap.size) ∨ n = 0) then .sl a.block a.off n .any else .junk := rfl
/-- the heap that a call finds -/
noncomputable def heap0 (W : World) : AH := fun b => if b < W.heap.size then .ro (fun o => match W.heap[b]? with | some (.cells arr _ _) => (arr[o]?).map (avOf W) | _ => none) else .free
theorem heap0_rep (W : World) : Rep (heap0 W) W := by
  refine ⟨fun b hb => ?_, fun b o v hc => ?_, fun b xs hb => ?_⟩
  · simp only [heap0, if_neg (show ¬ b < W.heap.size by omega)]
  · simp only [AH.cell, heap0] at hc
    split at hc
    · rename_i f hf
      split at hf
      · cases hf
        dsimp only at hc
        split at hc
        · rename_i arr ty fr hh
          cases hu : arr[o]? with
          | none => rw [hu] at hc; simp at hc
          | some u =>
            rw [hu] at hc
            simp at hc
            subst hc
            exact ⟨arr, ty, fr, u, hh, hu, avOf_rv W u⟩
        · cases hc
      · cases hf
    · rename_i xs hf
      split at hf <;> cases hf
    · cases hc
  · simp only [heap0] at hb
    split at hb <;> cases hb
theorem heap0_cell {W : World} {a : Addr} {v : Value} (h : W.cell? a = some v) : a.spot = none ∧ a.block < W.heap.size ∧ (heap0 W).cell a.block a.off = some (avOf W v) := by
  unfold World.cell? at h
  split at h
  · rename_i c ty fr hh
    have hb : a.block < W.heap.size := (Array.getElem?_eq_some_iff.1 hh).1
    split at h
    · cases h
    · rename_i hs
      refine ⟨by simpa using hs, hb, ?_⟩
      simp only [AH.cell, heap0, if_pos hb, hh, h]
      rfl
  · cases h
theorem add_bo (a : Addr) (i : Nat) : (a.add i).block = a.block ∧ (a.add i).off = a.off + i := by
  unfold Addr.add
  split
  · rename_i h; subst h; exact ⟨rfl, rfl⟩
  · exact ⟨rfl, rfl⟩
theorem add_zero' (a : Addr) : a.add 0 = a := by simp [Addr.add]
theorem heap0_add {W : World} {a : Addr} {i : Nat} {v : Value} (h : W.cell? (a.add i) = some v) : (heap0 W).cell a.block (a.off + i) = some (avOf W v) := by
  have := (heap0_cell h).2.2
  rwa [(add_bo a i).1, (add_bo a i).2] at this
theorem heap0_head {W : World} {a : Addr} {v : Value} (h : W.cell? (a.add 0) = some v) : a.spot = none ∧ a.block < W.heap.size := by
  rw [add_zero'] at h
  have := heap0_cell h
  exact ⟨this.1, this.2.1⟩
/-- a slice of ints -/
theorem ints_at {W : World} {k0 : Nat} {a : Addr} {len cap : Nat} {zs : List Int} (hl : len ≤ cap) (hm : cap ≤ maxLen) (hz : zs.length = cap) (hcell : ∀ i, i < zs.length → W.cell? (a.add i) = some (.int .i64 (zs.getD i 0))) :
    Ints (heap0 W) (avOf W (.slice (some a) len cap)) (zs.take len) := by
  have hav : avOf W (.slice (some a) len cap) = .sl a.block a.off len .any := by
    rw [avOf_sl, if_pos]
    refine ⟨hl, hm, ?_⟩
    by_cases h0 : len = 0
    · exact .inr h0
    · exact .inl (heap0_head (hcell 0 (by omega)))
  rw [hav]
  have hlen : (ints (zs.take len)).length = len := by rw [ints_length, List.length_take]; omega
  refine .inr ⟨a.block, a.off, .any, by rw [hlen], fun i u hu => ?_⟩
  have hi : i < len := by rw [← hlen]; exact (List.getElem?_eq_some_iff.1 hu).1
  have h2 := heap0_add (hcell i (by omega))
  rw [ints_get (by rw [List.length_take]; omega)] at hu
  cases hu
  have e : (zs.take len).getD i 0 = zs.getD i 0 := by simp [List.getD_eq_getElem?_getD, List.getElem?_take, hi]
  rw [e]
  exact h2
section
variable {H : Type} {enc : TypeId × Value → H} {P : Program} {W : World} {held : Bool}
theorem ints_of {t e : TypeId} {fuel : Nat} {v : Value} {x : DataW H × List MemPlace} (ht : P.underlying t = some (.slice e)) (he : P.underlying e = some (.int .i64)) (hc : P.cellsOf e = 1) (h : DataW.trod enc P W 0 (fun _ => true) held fuel t [v] = some x) :
    ∃ xs, Ints (heap0 W) (avOf W v) xs ∧ xs.length ≤ 9223372036854775807 := by
  rcases open_ints ht he hc h with ⟨hcs, -⟩ | ⟨a, len, cap, zs, hcs, hb, hl, hm, hz, -, hcell, -⟩
  · simp only [List.cons.injEq, and_true] at hcs
    subst hcs
    exact ⟨[], .inl ⟨rfl, rfl⟩, by simp⟩
  · simp only [List.cons.injEq, and_true] at hcs
    subst hcs
    simp only [if_true] at hz
    refine ⟨zs.take len, ints_at (k0 := 0) hl hm hz hcell, ?_⟩
    rw [List.length_take]
    have : maxLen = 9223372036854775807 := rfl
    omega
theorem rows_of {t e q : TypeId} {fuel : Nat} {v : Value} {x : DataW H × List MemPlace} (ht : P.underlying t = some (.slice e)) (he : P.underlying e = some (.slice q)) (hq : P.underlying q = some (.int .i64)) (ce : P.cellsOf e = 1) (cq : P.cellsOf q = 1)
    (h : DataW.trod enc P W 0 (fun _ => true) held fuel t [v] = some x) :
    ∃ us xss, Rows (heap0 W) (avOf W v) us xss ∧ xss.length ≤ 9223372036854775807 ∧ ∀ i, i < xss.length → (rowAt xss i).length ≤ 9223372036854775807 := by
  have mx : maxLen = 9223372036854775807 := rfl
  rcases open_int_rows ht he hq ce cq h with ⟨hcs, -⟩ | ⟨a, len, cap, A, L, C, Z, hcs, hb, hl, hm, -, hr⟩
  · simp only [List.cons.injEq, and_true] at hcs
    subst hcs
    exact ⟨[], [], ⟨.inl ⟨rfl, rfl⟩, rfl, fun i hi => by simp at hi⟩, by simp, fun i hi => by simp at hi⟩
  · simp only [List.cons.injEq, and_true] at hcs
    subst hcs
    have hav : avOf W (.slice (some a) len cap) = .sl a.block a.off len .any := by
      rw [avOf_sl, if_pos]
      refine ⟨hl, hm, ?_⟩
      by_cases h0 : len = 0
      · exact .inr h0
      · exact .inl (heap0_head (hr 0 (by omega)).1)
    refine ⟨tabN len fun r => avOf W (.slice (A r) (L r) (C r)), tabN len fun r => (Z r).take (L r), ⟨?_, by rw [tabN_length, tabN_length], fun i hi => ?_⟩, by rw [tabN_length]; omega, fun i hi => ?_⟩
    · rw [hav]
      refine .inr ⟨a.block, a.off, .any, by rw [tabN_length], fun i u hu => ?_⟩
      have hi : i < len := by rw [← tabN_length len fun r => avOf W (.slice (A r) (L r) (C r))]; exact (List.getElem?_eq_some_iff.1 hu).1
      have e : (tabN len fun r => avOf W (.slice (A r) (L r) (C r)))[i]? = some (avOf W (.slice (A i) (L i) (C i))) := by simp [tabN, hi]
      rw [e] at hu
      cases hu
      exact heap0_add (hr i (by omega)).1
    · rw [tabN_length] at hi
      rw [rowAt, tabN_getD _ hi, tabN_getD _ hi]
      obtain ⟨h1, h2, h3, h4, h5, h6, h7⟩ := hr i (by omega)
      cases hA : A i with
      | none =>
        have c0 := h6 hA
        have l0 : L i = 0 := by omega
        rw [c0, l0]
        exact .inl ⟨rfl, by simp [ints]⟩
      | some a' =>
        obtain ⟨-, h8⟩ := h7 a' hA
        exact ints_at (k0 := 0) h2 h3 h4 (fun j hj => h8 j (by omega))
    · rw [tabN_length] at hi
      rw [rowAt, tabN_getD _ hi, List.length_take]
      obtain ⟨h1, h2, h3, h4, -⟩ := hr i (by omega)
      omega
end
theorem stp_below {W W' : World} {H' : AH} (h : Stp (heap0 W) H' W W') : Below W.heap.size W W' := by
  refine ⟨h.os, h.tape, h.output, h.pres.1, fun k hk => h.keep k hk fun xs q => ?_⟩
  simp only [heap0, if_pos hk] at q
  cases q
theorem size5 {cs : Array Value} (h : cs.size = 5) : ∃ a b c d e, cs = #[a, b, c, d, e] := by
  obtain ⟨l⟩ := cs
  match l, h with
  | [a, b, c, d, e], _ => exact ⟨a, b, c, d, e, rfl⟩
/-- a code that a law is called with -/
theorem code_of {H : Type} {enc : TypeId × Value → H} {W : World} {base : Nat} {v : Value} {d : DataW H} {ps : List MemPlace} (hv : Value.okWide Try.prog W .any base 27 v) (h : DataW.Trod enc Try.prog W 0 (fun _ => true) true 27 v d ps) :
    ∃ p m n md g mod us rows, RV W (codeV p m md n g) v ∧ Ints (heap0 W) md mod ∧ mod.length ≤ 9223372036854775807 ∧ Rows (heap0 W) g us rows ∧ rows.length ≤ 9223372036854775807 ∧ ∀ i, i < rows.length → (rowAt rows i).length ≤ 9223372036854775807 := by
  obtain ⟨cs, rfl, hsz⟩ := okWide_struct Try.underlying27 hv
  have h27 : Try.prog.cellsOf 27 = 5 := by kernel_rfl
  have h24 : Try.prog.cellsOf 24 = 3 := by kernel_rfl
  have h3 : Try.prog.cellsOf 3 = 1 := by kernel_rfl
  have h22 : Try.prog.cellsOf 22 = 1 := by kernel_rfl
  have h25 : Try.prog.cellsOf 25 = 1 := by kernel_rfl
  obtain ⟨c0, c1, c2, c3, c4, rfl⟩ := size5 (hsz.trans h27)
  obtain ⟨fuel, hf⟩ := h
  obtain ⟨y0, y1, y2, k, -, -, t0, t1, t2⟩ := trod_struct3 Try.underlying27 hf
  simp only [Value.cells, h24, h3, h25, List.drop_zero, List.drop_succ_cons, List.take_succ_cons, List.take_zero] at t0 t1 t2
  obtain ⟨z0, z1, z2, k', -, -, s0, s1, s2⟩ := trod_struct3 Try.underlying24 t0
  simp only [h3, h22, List.drop_zero, List.drop_succ_cons, List.take_succ_cons, List.take_zero] at s0 s1 s2
  obtain ⟨p, e0, -, -⟩ := DataW.trod_int Try.underlying3 s0
  obtain ⟨m, e1, -, -⟩ := DataW.trod_int Try.underlying3 s1
  obtain ⟨n, e3, -, -⟩ := DataW.trod_int Try.underlying3 t1
  obtain ⟨mod, i1, i2⟩ := ints_of Try.underlying22 Try.underlying3 h3 s2
  obtain ⟨us, rows, r1, r2, r3⟩ := rows_of Try.underlying25 Try.underlying22 Try.underlying3 h22 h3 t2
  simp only [List.cons.injEq, and_true] at e0 e1 e3
  subst e0 e1 e3
  refine ⟨p, m, n, _, _, mod, us, rows, .agg _ _ rfl fun i c v hc hv => ?_, i1, i2, r1, r2, r3⟩
  match i with
  | 0 => simp at hc hv; subst hc hv; exact .int _ _
  | 1 => simp at hc hv; subst hc hv; exact .int _ _
  | 2 => simp at hc hv; subst hc hv; exact avOf_rv _ _
  | 3 => simp at hc hv; subst hc hv; exact .int _ _
  | 4 => simp at hc hv; subst hc hv; exact avOf_rv _ _
  | i + 5 => simp at hc
theorem arg_ints {H : Type} {enc : TypeId × Value → H} {P : Program} {W : World} {base : Nat} {r : Reach} {t e : TypeId} {v : Value} {d : DataW H} {ps : List MemPlace} (ht : P.underlying t = some (.slice e)) (he : P.underlying e = some (.int .i64)) (hc : P.cellsOf e = 1)
    (hv : Value.okWide P W r base t v) (h : DataW.Trod enc P W 0 (fun _ => true) true t v d ps) : ∃ xs, Ints (heap0 W) (avOf W v) xs ∧ xs.length ≤ 9223372036854775807 := by
  obtain ⟨a, len, cap, rfl⟩ := okWide_slice ht hv
  obtain ⟨fuel, hf⟩ := h
  exact ints_of ht he hc hf
theorem rvs1 {W : World} {a : AV} {u : Value} (h : RV W a u) : RVs W [a] [u] := ⟨rfl, fun i c v hc hv => by
  match i with
  | 0 => simp at hc hv; subst hc hv; exact h
  | i + 1 => simp at hc⟩
theorem rvs2 {W : World} {a b : AV} {u v : Value} (h : RV W a u) (h' : RV W b v) : RVs W [a, b] [u, v] := ⟨rfl, fun i c w hc hw => by
  match i with
  | 0 => simp at hc hw; subst hc hw; exact h
  | 1 => simp at hc hw; subst hc hw; exact h'
  | i + 2 => simp at hc⟩
theorem rvs3 {W : World} {a b c : AV} {u v w : Value} (h : RV W a u) (h' : RV W b v) (h2 : RV W c w) : RVs W [a, b, c] [u, v, w] := ⟨rfl, fun i c w hc hw => by
  match i with
  | 0 => simp at hc hw; subst hc hw; exact h
  | 1 => simp at hc hw; subst hc hw; exact h'
  | 2 => simp at hc hw; subst hc hw; exact h2
  | i + 3 => simp at hc⟩
end Go.Proofs.Yteijojnahpeglaa.AM
/-! The row's wrap and the algebra of the small fields, together: what each law's proof imports. -/

