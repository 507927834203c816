/- Helpers. Heaps that grow; slices of ints; rules for proofs that use the runner. · Slices of the call's own, which grow by append. · The reference's field, first part: contracts. · The reference's field, second part: primes and divisors. · The reference's field, third part: Check. · The reference's field, fourth part: digits and sums. · The reference's field, fifth part: sums and negatives. · The reference's field, sixth part: products. · The reference's field, seventh part: inverses. · The reference's matrices, first part: rows, sums, comparisons. · The reference's matrices, second part: scale, AddTo, Pick, Copy. · The reference's matrices, third part: lists of rows in a block of the call's own; Pick, Copy. · The reference's matrices, fourth part: Eliminate and Canon. · The reference's matrices, fifth part: Canon, Check. · The reference's spaces and codes: Check; subsets. · The reference's orderings, first part: Others, rank, Of, Dimension. · The reference's orderings, second part: Dimension. · The program's field, first part: order, isPrime, digitsOf, valueOf. · The program's field, second part: multiply. · The program's field, third part: powers, generator, shape, Check. · The program's field, fourth part: generator, shape, Check. · The program's field, fifth part: New. · The program's field, sixth part: Is, in, Neg, Add, Sub. · The program's field, seventh part: Mul, Inv, Scale. · The program's matrices, first part: entries, check, Clone, add, Equal, EqualFunc. · The program's matrices, second part: what the elimination keeps in memory. · The program's matrices, third part: the steps of the elimination. -/
import Derived.Test.YtbkpebmcagdgmaaGreatK3
import Derived.Test.YtbkpebmcagdgmaaGreatK4
import Derived.Test.YtbkpebmcagdgmaaGreatK1
/-! Heaps that grow; slices of ints; rules for proofs that use the runner. -/
namespace Go.Proofs.YtbkpebmcagdgmaaGreat.AM
open Go Go.RowKit
set_option linter.unusedVariables false
set_option linter.unusedSimpArgs false

/-- Nothing that was there has changed. -/
def Ext (H H' : AH) : Prop := ∀ b, H b ≠ .free → H' b = H b
theorem Ext.refl (H : AH) : Ext H H := fun _ _ => rfl
theorem Ext.trans {H H' H'' : AH} (h : Ext H H') (h' : Ext H' H'') : Ext H H'' := fun b hb => by
  have h1 := h b hb
  rw [h' b (by rw [h1]; exact hb), h1]
theorem Ext.rw {H H' : AH} (h : Ext H H') {b : Nat} {xs : List AV} (hb : H b = .rw xs) : H' b = .rw xs := by
  rw [h b (by rw [hb]; exact fun q => by cases q), hb]
theorem Ext.new {H : AH} {b : Nat} (hb : H b = .free) (s : Slot) : Ext H (H.upd b s) := fun c hc => by
  unfold AH.upd
  rw [if_neg (fun q => hc (by rw [q]; exact hb))]
theorem Ext.upd {H H' : AH} (h : Ext H H') {b : Nat} (hb : H b = .free) (s : Slot) : Ext H (H'.upd b s) := fun c hc => by
  unfold AH.upd
  rw [if_neg (fun q => hc (by rw [q]; exact hb))]
  exact h c hc
theorem Ext.free {H H' : AH} (h : Ext H H') {b : Nat} (hb : H' b = .free) : H b = .free := by
  apply Classical.byContradiction
  intro hc
  have := h b hc
  rw [hb] at this
  exact hc this.symm
theorem Ext.cell {H H' : AH} (h : Ext H H') {b o : Nat} {v : AV} (hc : H.cell b o = some v) : H'.cell b o = some v := by
  have : H b ≠ .free := fun q => by simp [AH.cell, q] at hc
  simp only [AH.cell, h b this]
  exact hc

theorem ints_length (xs : List Int) : (ints xs).length = xs.length := by simp [ints]
theorem ints_get {xs : List Int} {i : Nat} (h : i < xs.length) : (ints xs)[i]? = some (.int .i64 (xs.getD i 0)) := by
  simp [ints, h, List.getD_eq_getElem?_getD]
theorem ints_set {xs : List Int} {i : Nat} {v : Int} : (ints xs).set i (.int .i64 v) = ints (xs.set i v) := by
  simp [ints, List.map_set]
theorem ints_rep {n : Nat} {v : Int} : List.replicate n (AV.int .i64 v) = ints (List.replicate n v) := by
  simp [ints]
theorem ints_app {xs ys : List Int} : ints xs ++ ints ys = ints (xs ++ ys) := by simp [ints]
def slB : AV → Nat
  | .sl b _ _ _ => b
  | _ => 0
def slO : AV → Nat
  | .sl _ o _ _ => o
  | _ => 0

/-- v is a slice whose elements, of one cell each, are us. -/
def Sl (H : AH) (v : AV) (us : List AV) : Prop :=
  (v = .nils ∧ us = []) ∨ ∃ b o c, v = .sl b o us.length c ∧ ∀ i u, us[i]? = some u → H.cell b (o + i) = some u
abbrev Ints (H : AH) (v : AV) (xs : List Int) : Prop := Sl H v (ints xs)

theorem Sl.ext {H H' : AH} {v : AV} {us : List AV} (h : Sl H v us) (hE : Ext H H') : Sl H' v us := by
  rcases h with h | ⟨b, o, c, h1, h2⟩
  · exact .inl h
  · exact .inr ⟨b, o, c, h1, fun i u hu => hE.cell (h2 i u hu)⟩
theorem Sl.own {H : AH} {b n : Nat} {c : Cap} {us : List AV} (h : H b = .rw us) (hn : n = us.length) : Sl H (.sl b 0 n c) us := by
  subst hn
  refine .inr ⟨b, 0, c, rfl, fun i u hu => ?_⟩
  simp only [AH.cell, h, Nat.zero_add]
  exact hu

theorem Sl.take {H : AH} {b n : Nat} {c : Cap} {us : List AV} (h : H b = .rw us) (hn : n ≤ us.length) : Sl H (.sl b 0 n c) (us.take n) := by
  refine .inr ⟨b, 0, c, by rw [List.length_take, Nat.min_eq_left hn], fun i u hu => ?_⟩
  simp only [AH.cell, h, Nat.zero_add]
  rw [List.getElem?_take] at hu
  split at hu
  · exact hu
  · cases hu

section
variable {P : Program} {K : Kt} {Q : APost} {e : Env} {H : AH} {d : Option Nat} {r : Rst} {k k' : IntKind} {j : Int} {ds : List Nat} {t i : Nat} {v : AV} {us : List AV} {xs : List Int}

theorem Sl.len (h : Sl H v us) : kLen P (some t) r e H K d v = kPut P r e H K d (.int .i64 us.length) := by
  rcases h with ⟨rfl, rfl⟩ | ⟨b, o, c, rfl, -⟩ <;> simp [kLen, kPut]
theorem Sl.at (h : Sl H v us) (h1 : i < us.length) : H.cell (slB v) (slO v + i) = some (us.getD i .junk) := by
  rcases h with ⟨rfl, rfl⟩ | ⟨b, o, c, rfl, h2⟩
  · simp at h1
  · exact h2 i _ (by simp [h1, List.getD_eq_getElem?_getD])
/-- What the runner wants to know of a slice of ints. -/
theorem Sl.ints (h : Ints H v xs) : (∀ {P : Program} {r : Rst} {e : Env} {H : AH} {K : Kt} {d : Option Nat} {t : Nat}, kLen P (some t) r e H K d v = kPut P r e H K d (.int .i64 xs.length)) ∧
    (∀ {P : Program} {r : Rst} {e : Env} {H : AH} {K : Kt} {d : Option Nat} {k : IntKind} {j : Int}, 0 ≤ j → j < xs.length → kIdx P (some 1) r e H K d v (.int k j) = kPut P r e H K d (.ptr (slB v) (slO v + j.toNat))) ∧
    (∀ {i : Nat}, i < xs.length → slotCell (H (slB v)) (slO v + i) = some (.int .i64 (xs.getD i 0))) := by
  have hl := ints_length xs
  refine ⟨?_, ?_, ?_⟩
  · intro P r e H2 K d t
    rcases h with ⟨rfl, h⟩ | ⟨b, o, c, rfl, -⟩
    · rw [← hl, h]; simp [kLen, kPut]
    · rw [← hl]; simp [kLen, kPut]
  · intro P r e H2 K d k j h0 h1
    rw [← hl] at h1
    rcases h with ⟨rfl, h⟩ | ⟨b, o, c, rfl, -⟩
    · rw [h] at h1; simp at h1; omega
    · simp [kIdx, kPut, h0, h1, slB, slO]
  · intro i hi
    rw [← u_cell, h.at (by rw [hl]; exact hi), List.getD_eq_getElem?_getD, u_getI hi]
    rfl
theorem kNew_intro {m : Nat → AV} {cs : List AV} (h : ∀ b H', H b = .free → Ext H H' → H' b = .rw cs → go P r (e.put d (m b)) H' K) : kNew P m r e H K d cs :=
  fun b hb => h b _ hb (Ext.new hb _) (by simp [AH.upd])
theorem sGuard_mono {g : Option (Nat × Bool)} {y y' n n' : Env → Prop} (hy : ∀ e, y e → y' e) (hn : ∀ e, n e → n' e) (h : sGuard g e y n) : sGuard g e y' n' := by
  cases g with
  | none => exact hy _ h
  | some gw =>
    obtain ⟨d, w⟩ := gw
    simp only [sGuard] at h ⊢
    cases hd : e d <;> rw [hd] at h <;> dsimp only at h ⊢
    case bool b =>
      split
      · rename_i hh; rw [if_pos hh] at h; exact hy _ h
      · rename_i hh; rw [if_neg hh] at h; exact hn _ h
    all_goals exact hn _ h
theorem sops_mono {K K' : Kt} (hk : ∀ e H, K e H → K' e H) : ∀ (l : List SO) (e : Env) (H : AH), sops P l e H K → sops P l e H K'
  | [], e, H, h => hk _ _ h
  | o :: l, e, H, h => sGuard_mono (fun e h => aop_mono (fun v H' h => sops_mono hk l _ _ h) h) (fun e h => sops_mono hk l _ _ h) h
theorem sDraw_mono {K K' : Kt} (hk : ∀ e H, K e H → K' e H) : ∀ (l : List (Nat × List Nat × SO)) (σ : Seen) (e : Env) (H : AH), sDraw P l σ e H K → sDraw P l σ e H K'
  | [], σ, e, H, h => hk _ _ h
  | o :: l, σ, e, H, h => by
    simp only [sDraw] at h ⊢
    refine sGuard_mono (fun e h => ?_) (fun e h => sDraw_mono hk l _ _ _ h) h
    split
    · rename_i hw
      rw [if_pos hw] at h
      exact aop_mono (fun v H' h => ⟨h.1, sDraw_mono hk l _ _ _ h.2⟩) h
    · rename_i hw
      rw [if_neg hw] at h
      exact aop_mono (fun v H' h => sDraw_mono hk l _ _ _ h) h
theorem swp_mono : ∀ (c : SC) {Q Q' : APost} {e : Env} {H : AH}, (∀ x e H, Q x e H → Q' x e H) → swp P c Q e H → swp P c Q' e H := by
  intro c
  induction c with
  | skip => exact fun hq h => hq _ _ _ h
  | exit id => exact fun hq h => hq _ _ _ h
  | ret => exact fun hq h => hq _ _ _ h
  | bad => exact fun hq h => h
  | reg l => exact fun hq h => sops_mono (fun e H h => hq _ _ _ h) _ _ _ h
  | draw l => exact fun hq h => sDraw_mono (fun e H h => hq _ _ _ h) _ _ _ _ h
  | seq x y ihx ihy =>
    intro Q Q' e H hq h
    refine ihx (fun X e H hh => ?_) h
    cases X with
    | normal => exact ihy hq hh
    | exit id => exact hq _ _ _ hh
    | ret => exact hq _ _ _ hh
  | cond c x y ihx ihy =>
    intro Q Q' e H hq h
    simp only [swp] at h ⊢
    split at h
    · split
      · rename_i hh; rw [if_pos hh] at h; exact ihx hq h
      · rename_i hh; rw [if_neg hh] at h; exact ihy hq h
    · exact h.elim
  | block id c ih =>
    intro Q Q' e H hq h
    refine ih (fun X e H hh => ?_) h
    cases X with
    | normal => exact hq _ _ _ hh
    | exit i =>
      simp only [AX.inBlock] at hh ⊢
      split
      · rename_i hi; rw [if_pos hi] at hh; exact hq _ _ _ hh
      · rename_i hi; rw [if_neg hi] at hh; exact hq _ _ _ hh
    | ret => exact hq _ _ _ hh
  | loop c ih =>
    intro Q Q' e H hq ⟨I, μ, h0, h1⟩
    refine ⟨I, μ, h0, fun e H hI => ih (fun X e' H' hh => ?_) (h1 e H hI)⟩
    cases X with
    | normal => exact hh
    | exit id => exact hq _ _ _ hh
    | ret => exact hq _ _ _ hh
theorem least_of (p : Nat → Prop) : ∀ n, p n → ∃ m, p m ∧ ∀ q, p q → m ≤ q := by
  intro n
  induction n using Nat.strongRecOn with
  | ind n ih =>
    intro hn
    by_cases h : ∃ m, m < n ∧ p m
    · obtain ⟨m, h1, h2⟩ := h
      exact ih m h1 h2
    · exact ⟨n, hn, fun q hq => Nat.not_lt.mp fun hlt => h ⟨q, hlt, hq⟩⟩
/-- A loop: its states, what is less from round to round, its first state. -/
theorem sw_loop {c : SC} {σ : Type} (st : σ → Env → AH → Prop) (μ : σ → Nat) (s0 : σ) (h0 : st s0 e H) (h : ∀ s e' H', st s e' H' → swp P c (AX.then (kInv st μ s) Q) e' H') : swp P (.loop c) Q e H := by
  have hm : ∀ e H, ∃ n, (∃ s, st s e H) → (∃ s, st s e H ∧ μ s = n) ∧ ∀ s, st s e H → n ≤ μ s := by
    intro e H
    by_cases hs : ∃ s, st s e H
    · obtain ⟨s, hs⟩ := hs
      obtain ⟨m, ⟨s', h1, h2⟩, h3⟩ := least_of (fun n => ∃ s, st s e H ∧ μ s = n) (μ s) ⟨s, hs, rfl⟩
      exact ⟨m, fun _ => ⟨⟨s', h1, h2⟩, fun q hq => h3 _ ⟨q, hq, rfl⟩⟩⟩
    · exact ⟨0, fun q => (hs q).elim⟩
  refine ⟨fun e H => ∃ s, st s e H, fun e H => Classical.choose (hm e H), ⟨s0, h0⟩, fun e' H' hs => ?_⟩
  obtain ⟨⟨s, h1, h2⟩, h3⟩ := Classical.choose_spec (hm e' H') hs
  refine swp_mono c (fun x e2 H2 hx => ?_) (h s e' H' h1)
  cases x with
  | normal =>
    obtain ⟨s', h4, h5⟩ := hx
    refine ⟨⟨s', h4⟩, ?_⟩
    have := (Classical.choose_spec (hm e2 H2) ⟨s', h4⟩).2 s' h4
    show Classical.choose (hm e2 H2) < Classical.choose (hm e' H')
    omega
  | exit i => exact hx
  | ret => exact hx
end
end Go.Proofs.YtbkpebmcagdgmaaGreat.AM
/-! Slices of the call's own, which grow by append. -/
namespace Go.Proofs.YtbkpebmcagdgmaaGreat.AM
open Go Go.RowKit
set_option linter.unusedVariables false
set_option linter.unusedSimpArgs false

/-- Rounds 0 .. n-1. -/
def upto {α : Type} (f : Nat → α → α) : Nat → α → α
  | 0, a => a
  | n + 1, a => f n (upto f n a)
theorem upto_zero {α : Type} (f : Nat → α → α) (a : α) : upto f 0 a = a := rfl
theorem upto_succ {α : Type} (f : Nat → α → α) (n : Nat) (a : α) : upto f (n + 1) a = f n (upto f n a) := rfl

/-- A slice made since H0: nothing, or a whole block. -/
def Own (H0 H : AH) (v : AV) (us : List AV) : Prop := (v = .nils ∧ us = []) ∨ ∃ b, v = .sl b 0 us.length (.own 1) ∧ H b = .rw us ∧ H0 b = .free
/-- v does not stand in block c. -/
def Off (v : AV) (c : Nat) : Prop := ∀ o n cp, v ≠ .sl c o n cp
theorem Own.mk {H0 H : AH} {b n : Nat} {us : List AV} (h : H b = .rw us) (h0 : H0 b = .free) (hn : n = us.length) : Own H0 H (.sl b 0 n (.own 1)) us := by
  subst hn; exact .inr ⟨b, rfl, h, h0⟩
theorem Own.sl {H0 H : AH} {v : AV} {us : List AV} (h : Own H0 H v us) : Sl H v us := by
  rcases h with ⟨rfl, rfl⟩ | ⟨b, rfl, h, -⟩
  · exact .inl ⟨rfl, rfl⟩
  · exact Sl.own h rfl
theorem Own.ext {H0 H H' : AH} {v : AV} {us : List AV} (h : Own H0 H v us) (hE : Ext H H') : Own H0 H' v us := by
  rcases h with h | ⟨b, rfl, h, h0⟩
  · exact .inl h
  · exact .inr ⟨b, rfl, hE.rw h, h0⟩
theorem Own.old {H0 H1 H : AH} {v : AV} {us : List AV} (h : Own H1 H v us) (hE : Ext H0 H1) : Own H0 H v us := by
  rcases h with h | ⟨b, rfl, h, h0⟩
  · exact .inl h
  · exact .inr ⟨b, rfl, h, hE.free h0⟩
theorem Own.nils {H0 H : AH} : Own H0 H .nils [] := .inl ⟨rfl, rfl⟩

theorem Own.block {H0 H : AH} {v : AV} {us : List AV} (h : Own H0 H v us) (hn : us ≠ []) : ∃ b, v = .sl b 0 us.length (.own 1) ∧ H b = .rw us ∧ H0 b = .free :=
  h.elim (fun q => (hn q.2).elim) id

theorem cellsAt_of {H : AH} {b : Nat} {us : List AV} : ∀ (n o j : Nat), (∀ i u, us[i]? = some u → H.cell b (o + i) = some u) → j + n = us.length → H.cellsAt b (o + j) n = some (us.drop j)
  | 0, o, j, h, hn => by simp [AH.cellsAt, List.drop_of_length_le (show us.length ≤ j by omega)]
  | n + 1, o, j, h, hn => by
    have hj : j < us.length := by omega
    rw [AH.cellsAt, h j us[j] (by simp [hj])]
    have := cellsAt_of n o (j + 1) h (by omega)
    rw [← Nat.add_assoc] at this
    simp only [this, Option.map_some]
    rw [← List.drop_eq_getElem_cons hj]
theorem Sl.cells {H : AH} {v : AV} {us : List AV} (h : Sl H v us) : slCells H 1 v = some us ∧ slLen v = us.length := by
  rcases h with ⟨rfl, rfl⟩ | ⟨b, o, c, rfl, h⟩
  · exact ⟨rfl, rfl⟩
  · refine ⟨?_, rfl⟩
    simp only [slCells, Nat.mul_one]
    have := cellsAt_of us.length o 0 h (by omega)
    simpa using this

section
variable {P : Program} {K : Kt} {Q : APost} {e : Env} {H H0 : AH} {d : Option Nat} {r : Rst} {k k' : IntKind} {j : Int} {ds : List Nat} {t i : Nat} {x y : AV} {us zs : List AV}

/-- append: to what is the call's own. -/
theorem kApp_own {by_ : Nat} {z : AV} (hx : Own H0 H x zs) (hE : Ext H0 H) (hy : Sl H y us) (hu : ∀ u, u ∈ us → u.one = true) (hl : (zs.length + us.length) * by_ ≤ 140737488355328) (hl' : zs.length + us.length ≤ 140737488355328)
    (h : ∀ v H', Ext H0 H' → Own H0 H' v (zs ++ us) → (∀ c ws, H c = .rw ws → Off x c → H' c = .rw ws ∧ Off v c) → kRet P ds r e H' K d v) : kApp P ds (some 1) (some by_) (some [z]) r e H K d x y := by
  obtain ⟨hc, hn⟩ := hy.cells
  refine ⟨1, by_, [z], rfl, rfl, rfl, rfl, us, hc, hu, ?_⟩
  rcases hx with ⟨rfl, rfl⟩ | ⟨b, rfl, hb, h0⟩
  · rw [hn]
    refine ⟨hl, hl', by decide, fun hz => ?_, fun hz b hb => ?_⟩
    · have : us = [] := List.length_eq_zero_iff.mp hz
      subst this
      exact h _ _ hE Own.nils fun c ws hc _ => ⟨hc, fun o n cp q => by cases q⟩
    · refine h _ _ (hE.upd (hE.free hb) _) (Own.mk (by simp [AH.upd]) (hE.free hb) rfl) fun c ws hc _ => ?_
      have hne : c ≠ b := fun q => by rw [q, hb] at hc; cases hc
      exact ⟨by simp [AH.upd, hne, hc], fun o n cp q => by cases q; exact hne rfl⟩
  · rw [hn]
    refine ⟨hl, hl', by decide, rfl, zs, hb, rfl, by simp, fun b' hb' => ?_⟩
    have h0' : H0 b' = .free := hb'.elim (fun q => by rw [q]; exact h0) fun q => hE.free q
    refine h _ _ ((hE.upd h0 _).upd h0' _) (Own.mk (by simp [AH.upd]) h0' (by simp)) fun c ws hc hoff => ?_
    have h1 : c ≠ b := fun q => hoff 0 zs.length (.own 1) (by rw [q])
    have h2 : c ≠ b' := fun q => hb'.elim (fun q' => h1 (q.trans q')) fun q' => by rw [q, q'] at hc; cases hc
    exact ⟨by simp [AH.upd, h1, h2, hc], fun o n cp q => by cases q; exact h2 rfl⟩
end
theorem mul_bd {a b A B : Int} (h1 : 0 ≤ a) (h2 : a ≤ A) (h3 : 0 ≤ b) (h4 : b ≤ B) : 0 ≤ a * b ∧ a * b ≤ A * B :=
  ⟨Int.mul_nonneg h1 h3, Int.mul_le_mul h2 h4 h3 (Int.le_trans h1 h2)⟩
/-- All entries are from 0 to p-1. -/
def Rng (p : Int) (xs : List Int) : Prop := ∀ i, 0 ≤ xs.getD i 0 ∧ xs.getD i 0 < p
theorem getD_set (xs : List Int) (i j : Nat) (v : Int) : (xs.set i v).getD j 0 = if j = i ∧ i < xs.length then v else xs.getD j 0 := by
  simp only [List.getD_eq_getElem?_getD, List.getElem?_set]
  by_cases h : i = j
  · subst h
    by_cases h2 : i < xs.length <;> simp [h2]
  · simp [h, Ne.symm h]
theorem Rng.set {p : Int} {xs : List Int} (h : Rng p xs) {v : Int} (h0 : 0 ≤ v) (h1 : v < p) (i : Nat) : Rng p (xs.set i v) := by
  intro j
  rw [getD_set]
  split
  · exact ⟨h0, h1⟩
  · exact h j
theorem Rng.rep {p : Int} (hp : 0 < p) (n : Nat) : Rng p (List.replicate n 0) := by
  intro i
  simp only [List.getD_eq_getElem?_getD, List.getElem?_replicate]
  split <;> simp [hp]
theorem Rng.app {p : Int} {xs ys : List Int} (h : Rng p xs) (h' : Rng p ys) : Rng p (xs ++ ys) := by
  intro i
  simp only [List.getD_eq_getElem?_getD, List.getElem?_append]
  split
  · simpa [List.getD_eq_getElem?_getD] using h i
  · simpa [List.getD_eq_getElem?_getD] using h' (i - xs.length)
theorem Rng.one {p v : Int} (h0 : 0 ≤ v) (h1 : v < p) : Rng p [v] := by
  intro i
  cases i with
  | zero => exact ⟨h0, h1⟩
  | succ i => simpa using (show 0 < p by omega)
theorem ints_ones {xs : List Int} : ∀ u, u ∈ ints xs → u.one = true := by
  intro u hu
  simp only [ints, List.mem_map] at hu
  obtain ⟨a, -, rfl⟩ := hu
  rfl
end Go.Proofs.YtbkpebmcagdgmaaGreat.AM
/-! The reference's field, first part: contracts. -/
namespace Go.Proofs.YtbkpebmcagdgmaaGreat.AM
open Go Go.RowKit
set_option linter.unusedVariables false
set_option linter.unusedSimpArgs false
set_option maxRecDepth 20000
/-- the n lowest digits -/
def digs (p : Int) : Nat → Int → List Int
  | 0, _ => []
  | n + 1, x => x % p :: digs p n (x / p)
theorem c_digits {x p n : Int} {H : AH} {Q : AV → AH → Prop} (hx : 0 ≤ x) (hx' : x ≤ 9000000000000000000) (hp : 0 < p) (hn : 0 ≤ n) (hn' : n ≤ 1000)
    (hQ : ∀ b H', H b = .free → Ext H H' → H' b = .rw (ints (digs p n.toNat x)) → Q (.sl b 0 n.toNat (.own 1)) H') :
    AC Tryz.prog 176 [.int .i64 x, .int .i64 p, .int .i64 n] H Q := by
  refine at176 (by simp) ?_
  simp (disch := first | assumption | omega) only [↓RP, RQ, TY, loadT, s176, reduceIte, Nat.reduceEqDiff, Nat.reduceAdd]
  refine kNew_intro fun b H1 hb hE hH1 => ?_
  simp (disch := first | assumption | omega) only [↓RP, RQ, TY, loadT, reduceIte, Nat.reduceEqDiff, Nat.reduceAdd]
  refine sw_loop (σ := Nat × Int × List Int) (fun s e H' => e 8 = .int .i64 s.1 ∧ e 7 = .sl b 0 n.toNat (.own 1) ∧ e 2 = .int .i64 n ∧ e 1 = .int .i64 p ∧ e 0 = .int .i64 s.2.1 ∧ s.1 ≤ n.toNat ∧ 0 ≤ s.2.1 ∧ s.2.1 ≤ x ∧ Ext H H' ∧ s.2.2.length = n.toNat ∧
    H' b = .rw (ints s.2.2) ∧ s.2.2.take s.1 ++ digs p (n.toNat - s.1) s.2.1 = digs p n.toNat x) (fun s => n.toNat - s.1) (0, x, List.replicate n.toNat 0) ?_ ?_
  · simp (disch := first | assumption | omega) only [↓RP, RQ, TY, loadT, reduceIte, Nat.reduceEqDiff, Nat.reduceAdd, hH1]
    simp [hx, hE, ints]
  · rintro ⟨i, y, L⟩ e' H' ⟨e8, e7, e2, e1, e0, hi, hy, hy', hE', hL, hb', hd⟩
    dsimp only at *
    by_cases hlt : (i : Int) < n
    · have h1 := Int.ediv_nonneg hy (Int.le_of_lt hp)
      have h2 := Int.ediv_le_self p hy
      simp (disch := first | assumption | omega) only [↓RP, RQ, TY, loadT, reduceIte, Nat.reduceEqDiff, Nat.reduceAdd, e8, e7, e2, e1, e0, hlt, decide_true, hb']
      refine ⟨(i + 1, y / p, L.set i (y % p)), ?_, ?_⟩
      · simp (disch := first | assumption | omega) only [↓RP, RQ, TY, loadT, reduceIte, Nat.reduceEqDiff, Nat.reduceAdd, e8, e7, e2, e1, e0]
        refine ⟨by omega, h1, by omega, hE'.upd hb _, by simpa using hL, ?_⟩
        rw [← hd, show n.toNat - i = (n.toNat - (i + 1)) + 1 by omega, digs]
        rw [List.take_succ_eq_append_getElem (by simp; omega)]
        simp [List.take_set_of_le]
      · show n.toNat - (i + 1) < n.toNat - i
        omega
    · simp (disch := first | assumption | omega) only [↓RP, RQ, TY, loadT, reduceIte, Nat.reduceEqDiff, Nat.reduceAdd, e8, e7, e2, e1, e0, hlt, decide_false]
      refine hQ b H' hb hE' ?_
      rw [hb', ← hd, show n.toNat - i = 0 by omega]
      simp [digs, List.take_of_length_le (show L.length ≤ i by omega)]

theorem ipow_mono {p : Int} (hp : 1 ≤ p) {i j : Nat} (h : i ≤ j) : p ^ i ≤ p ^ j := by
  induction j with
  | zero =>
    rw [show i = 0 by omega]
    exact Int.le_refl _
  | succ j ih =>
    by_cases hij : i = j + 1
    · rw [hij]
      exact Int.le_refl _
    · have h1 := ih (by omega)
      have h2 : p ^ (j + 1) = p ^ j * p := Int.pow_succ _ _
      have h3 : 0 ≤ p ^ j := Int.pow_nonneg (by omega)
      have h4 : p ^ j * 1 ≤ p ^ j * p := Int.mul_le_mul_of_nonneg_left hp h3
      omega

/-- the order of a field, 0 where it is out of range -/
def ordr (p m : Int) : Int := if 2 ≤ p ∧ 1 ≤ m ∧ m ≤ 8 ∧ p ^ m.toNat ≤ 256 then p ^ m.toNat else 0
theorem c_Order {p m : Int} {md : AV} {H : AH} {Q : AV → AH → Prop} (hQ : ∀ H', Ext H H' → Q (.int .i64 (ordr p m)) H') : AC Tryz.prog 125 [.agg [.int .i64 p, .int .i64 m, md]] H Q := by
  refine at125 (by simp) ?_
  simp (disch := first | assumption | omega) only [↓RP, RQ, TY, loadT, s125, reduceIte, Nat.reduceEqDiff, Nat.reduceAdd]
  refine kNew_intro fun b H1 hb hE hH1 => ?_
  by_cases h1 : p < 2
  · simp (disch := first | assumption | omega) only [↓RP, RQ, TY, loadT, reduceIte, Nat.reduceEqDiff, Nat.reduceAdd, loadT, hH1, h1]
    have := hQ H1 hE
    rwa [ordr, if_neg (by omega)] at this
  by_cases h2 : m < 1
  · simp (disch := first | assumption | omega) only [↓RP, RQ, TY, loadT, reduceIte, Nat.reduceEqDiff, Nat.reduceAdd, loadT, hH1, h1, h2]
    have := hQ H1 hE
    rwa [ordr, if_neg (by omega)] at this
  by_cases h3 : 8 < m
  · simp (disch := first | assumption | omega) only [↓RP, RQ, TY, loadT, reduceIte, Nat.reduceEqDiff, Nat.reduceAdd, loadT, hH1, h1, h2, h3]
    have := hQ H1 hE
    rwa [ordr, if_neg (by omega)] at this
  simp (disch := first | assumption | omega) only [↓RP, RQ, TY, loadT, reduceIte, Nat.reduceEqDiff, Nat.reduceAdd, loadT, hH1, h1, h2, h3]
  refine sw_loop (σ := Nat) (fun i e H' => e 4 = .int .i64 i ∧ e 3 = .int .i64 (p ^ i) ∧ e 1 = .ptr b 0 ∧ (i : Int) ≤ m ∧ p ^ i ≤ 256 ∧ H' = H1) (fun i => m.toNat - i) 0 ?_ ?_
  · simp (disch := first | assumption | omega) only [↓RP, RQ, TY, loadT, reduceIte, Nat.reduceEqDiff, Nat.reduceAdd]
    simp
    omega
  · rintro i e' H' ⟨e4, e3, e1, hi, hq, rfl⟩
    by_cases hlt : (i : Int) < m
    · have hpos : 0 ≤ p ^ i := Int.pow_nonneg (by omega)
      have hd1 : 0 ≤ 256 / p := Int.ediv_nonneg (by omega) (by omega)
      have hd2 : 256 / p ≤ 256 := Int.ediv_le_self p (by omega)
      by_cases hc : 256 / p < p ^ i
      · simp (disch := first | assumption | omega) only [↓RP, RQ, TY, loadT, reduceIte, Nat.reduceEqDiff, Nat.reduceAdd, loadT, hH1, e4, e3, e1, hlt, hc]
        have := hQ H' hE
        rwa [ordr, if_neg] at this
        rintro ⟨-, -, -, h⟩
        have h5 : 256 < p ^ (i + 1) := by
          rw [Int.pow_succ]
          exact (Int.ediv_lt_iff_lt_mul (by omega)).mp hc
        have h6 : p ^ (i + 1) ≤ p ^ m.toNat := ipow_mono (by omega) (by omega)
        omega
      · have h5 : p ^ (i + 1) ≤ 256 := by
          rw [Int.pow_succ]
          exact (Int.le_ediv_iff_mul_le (by omega)).mp (by omega)
        have h6 : p ^ (i + 1) = p ^ i * p := Int.pow_succ _ _
        have h7 : 0 ≤ p ^ i * p := Int.mul_nonneg hpos (by omega)
        simp (disch := first | assumption | omega) only [↓RP, RQ, TY, loadT, reduceIte, Nat.reduceEqDiff, Nat.reduceAdd, loadT, hH1, e4, e3, e1, hlt, hc]
        refine ⟨i + 1, ?_, by dsimp only; omega⟩
        simp (disch := first | assumption | omega) only [↓RP, RQ, TY, loadT, reduceIte, Nat.reduceEqDiff, Nat.reduceAdd, e4, e3, e1, h6]
        omega
    · simp (disch := first | assumption | omega) only [↓RP, RQ, TY, loadT, reduceIte, Nat.reduceEqDiff, Nat.reduceAdd, loadT, hH1, e4, e3, e1, hlt]
      have := hQ H' hE
      have e5 : m.toNat = i := by omega
      rwa [ordr, e5, if_pos (by omega)] at this
end Go.Proofs.YtbkpebmcagdgmaaGreat.AM
/-! The reference's field, second part: primes and divisors. -/
namespace Go.Proofs.YtbkpebmcagdgmaaGreat.AM
open Go Go.RowKit
set_option linter.unusedVariables false
set_option linter.unusedSimpArgs false
set_option maxRecDepth 20000
def prm (n : Int) : Prop := ∀ d, 2 ≤ d → d < n → n % d ≠ 0
open Classical in
theorem c_prime {n : Int} {H : AH} {Q : AV → AH → Prop} (hn : 2 ≤ n) (hn' : n ≤ 256) (hQ : Q (.bool (decide (prm n))) H) : AC Tryz.prog 126 [.int .i64 n] H Q := by
  refine at126 (by simp) ?_
  simp (disch := first | assumption | omega) only [↓RP, RQ, TY, loadT, s126, reduceIte, Nat.reduceEqDiff, Nat.reduceAdd]
  refine sw_loop (σ := Nat) (fun i e H' => e 3 = .int .i64 i ∧ e 0 = .int .i64 n ∧ 2 ≤ i ∧ (i : Int) ≤ n ∧ (∀ d : Int, 2 ≤ d → d < i → n % d ≠ 0) ∧ H' = H) (fun i => n.toNat - i) 2 ?_ ?_
  · simp (disch := first | assumption | omega) only [↓RP, RQ, TY, loadT, reduceIte, Nat.reduceEqDiff, Nat.reduceAdd]
    refine ⟨rfl, by omega, by omega, fun d h1 h2 => ?_⟩
    have : ((2 : Nat) : Int) = 2 := rfl
    omega
  · rintro i e' H' ⟨e3, e0, hi, hi', hd, rfl⟩
    by_cases hlt : (i : Int) < n
    · by_cases hz : n % (i : Int) = 0
      · simp (disch := first | assumption | omega) only [↓RP, RQ, TY, loadT, reduceIte, Nat.reduceEqDiff, Nat.reduceAdd, e3, e0, hlt, hz]
        rwa [decide_eq_false (fun q => q i (by omega) hlt hz)] at hQ
      · simp (disch := first | assumption | omega) only [↓RP, RQ, TY, loadT, reduceIte, Nat.reduceEqDiff, Nat.reduceAdd, e3, e0, hlt, hz]
        refine ⟨i + 1, ?_, by dsimp only; omega⟩
        simp (disch := first | assumption | omega) only [↓RP, RQ, TY, loadT, reduceIte, Nat.reduceEqDiff, Nat.reduceAdd, e3, e0]
        refine ⟨by omega, by omega, fun d h1 h2 => ?_⟩
        by_cases hdi : d = i
        · rw [hdi]; exact hz
        · exact hd d h1 (by omega)
    · simp (disch := first | assumption | omega) only [↓RP, RQ, TY, loadT, reduceIte, Nat.reduceEqDiff, Nat.reduceAdd, e3, e0, hlt]
      rwa [decide_eq_true (show prm n from fun d h1 h2 => hd d h1 (by omega))] at hQ

/-- One step of the division: the multiple of the divisor low, moved to the end i, is taken away. -/
def divIn (p : Int) (low : List Int) (i : Nat) (c : Int) (j : Nat) (r : List Int) : List Int :=
  r.set (i - low.length + j) ((r.getD (i - low.length + j) 0 + (p - c) * low.getD j 0) % p)
def divStep (p : Int) (low : List Int) (i : Nat) (r : List Int) : List Int := (upto (divIn p low i (r.getD i 0)) low.length r).set i 0
def divRem (p : Int) (low mod : List Int) : List Int := upto (fun k r => divStep p low (mod.length - k) r) (mod.length + 1 - low.length) (mod ++ [1])
def divs (p : Int) (low mod : List Int) : Prop := ∀ i, (divRem p low mod).getD i 0 = 0
theorem divIn_ok {p : Int} (hp : 0 < p) {low : List Int} (i : Nat) (c : Int) {r : List Int} (hr : Rng p r) : ∀ j, (upto (divIn p low i c) j r).length = r.length ∧ Rng p (upto (divIn p low i c) j r)
  | 0 => ⟨rfl, hr⟩
  | j + 1 => by
    obtain ⟨h1, h2⟩ := divIn_ok hp i c hr j
    rw [upto_succ, divIn]
    exact ⟨by rw [List.length_set, h1], h2.set (Int.emod_nonneg _ (by omega)) (Int.emod_lt_of_pos _ hp) _⟩
theorem divStep_ok {p : Int} (hp : 0 < p) {low : List Int} (i : Nat) {r : List Int} (hr : Rng p r) : (divStep p low i r).length = r.length ∧ Rng p (divStep p low i r) := by
  obtain ⟨h1, h2⟩ := divIn_ok hp (low := low) i (r.getD i 0) hr low.length
  exact ⟨by rw [divStep, List.length_set, h1], h2.set (by omega) hp _⟩
theorem divRem_ok {p : Int} (hp : 1 < p) {low mod : List Int} (hm : Rng p mod) : ∀ k, (upto (fun k r => divStep p low (mod.length - k) r) k (mod ++ [1])).length = mod.length + 1 ∧ Rng p (upto (fun k r => divStep p low (mod.length - k) r) k (mod ++ [1]))
  | 0 => ⟨by simp [upto], hm.app (Rng.one (by omega) hp)⟩
  | k + 1 => by
    obtain ⟨h1, h2⟩ := divRem_ok hp hm k
    obtain ⟨h3, h4⟩ := divStep_ok (show 0 < p by omega) (low := low) (mod.length - k) h2
    exact ⟨by rw [upto_succ, h3, h1], h4⟩
open Classical in
theorem c_divides {p : Int} {vl vm : AV} {low mod : List Int} {H : AH} {Q : AV → AH → Prop} (hp : 2 ≤ p) (hp' : p ≤ 256) (hl : Ints H vl low) (hm : Ints H vm mod) (rl : Rng p low) (rm : Rng p mod) (hd : 1 ≤ low.length) (hn : mod.length ≤ 100)
    (hQ : ∀ H', Ext H H' → Q (.bool (decide (divs p low mod))) H') : AC Tryz.prog 175 [vl, vm, .int .i64 p] H Q := by
  refine at175 (by simp) ?_
  simp (disch := first | assumption | omega) only [↓RP, RQ, TY, loadT, s175, reduceIte, Nat.reduceEqDiff, Nat.reduceAdd, hl.ints]
  refine kNew_intro fun b0 H1 hb0 hE1 hH1 => ?_
  simp (disch := first | assumption | omega) only [↓RP, RQ, TY, loadT, reduceIte, Nat.reduceEqDiff, Nat.reduceAdd, hl.ints]
  refine kApp_own (H0 := H) (Own.mk hH1 hb0 rfl) hE1 (hm.ext hE1) ints_ones (by simp [ints]; omega) (by simp [ints]; omega) fun v2 H2 hE2 ho2 hk2 => ?_
  simp (disch := first | assumption | omega) only [↓RP, RQ, TY, loadT, reduceIte, Nat.reduceEqDiff, Nat.reduceAdd, hl.ints]
  refine kNew_intro fun b3 H3 hb3 hE3 hH3 => ?_
  simp (disch := first | assumption | omega) only [↓RP, RQ, TY, loadT, reduceIte, Nat.reduceEqDiff, Nat.reduceAdd, hl.ints]
  refine kApp_own (H0 := H) (ho2.ext hE3) (hE2.trans hE3) (Sl.own hH3 rfl) (by simp [AV.one]) (by simp [ints]; omega) (by simp [ints]; omega) fun v4 H4 hE4 ho4 hk4 => ?_
  obtain ⟨b, rfl, hb, h0⟩ := ho4.block (by simp)
  have e1 : [] ++ ints mod ++ [AV.int .i64 1] = ints (mod ++ [1]) := by simp [ints]
  rw [e1] at hb
  rw [e1, ints_length, List.length_append, List.length_singleton]
  simp (disch := first | assumption | omega) only [↓RP, RQ, TY, loadT, reduceIte, Nat.reduceEqDiff, Nat.reduceAdd, hl.ints]
  refine sw_loop (σ := Nat) (fun k e H' => e 9 = .int .i64 (mod.length - k : Nat) ∧ e 8 = .sl b 0 (mod.length + 1) (.own 1) ∧ e 7 = .int .i64 low.length ∧ e 0 = vl ∧ e 2 = .int .i64 p ∧ k ≤ mod.length + 1 - low.length ∧ Ext H H' ∧
    H' b = .rw (ints (upto (fun k r => divStep p low (mod.length - k) r) k (mod ++ [1])))) (fun k => mod.length + 1 - k) 0 ?_ ?_
  · simp (disch := first | assumption | omega) only [↓RP, RQ, TY, loadT, reduceIte, Nat.reduceEqDiff, Nat.reduceAdd, hb]
    refine ⟨?_, by omega, hE4, rfl⟩
    congr 1
    omega
  rintro k e H' ⟨e9, e8, e7, e0, e2, hk, hE, hb'⟩
  obtain ⟨hR1, hR2⟩ := divRem_ok (show 1 < p by omega) (low := low) rm k
  generalize hR : upto (fun k r => divStep p low (mod.length - k) r) k (mod ++ [1]) = R at *
  generalize hI : mod.length - k = I at *
  by_cases hlt : (low.length : Int) ≤ (I : Int)
  · simp (disch := first | assumption | omega) only [↓RP, RQ, TY, loadT, reduceIte, Nat.reduceEqDiff, Nat.reduceAdd, e9, e8, e7, e0, e2, hlt, hb']
    refine sw_loop (σ := Nat) (fun j e H' => e 11 = .int .i64 j ∧ e 10 = .int .i64 (R.getD I 0) ∧ e 9 = .int .i64 I ∧ e 8 = .sl b 0 (mod.length + 1) (.own 1) ∧ e 7 = .int .i64 low.length ∧ e 0 = vl ∧ e 2 = .int .i64 p ∧ j ≤ low.length ∧ Ext H H' ∧
      H' b = .rw (ints (upto (divIn p low I (R.getD I 0)) j R))) (fun j => low.length - j) 0 ?_ ?_
    · simp (disch := first | assumption | omega) only [↓RP, RQ, TY, loadT, reduceIte, Nat.reduceEqDiff, Nat.reduceAdd, e9, e8, e7, e0, e2, hb', upto]
      exact ⟨by omega, hE⟩
    rintro j e H' ⟨e11, e10, e9, e8, e7, e0, e2, hj, hE, hb'⟩
    obtain ⟨hS1, hS2⟩ := divIn_ok (show 0 < p by omega) (low := low) I (R.getD I 0) hR2 j
    generalize hS : upto (divIn p low I (R.getD I 0)) j R = S at *
    have hl' := hl.ext hE
    by_cases hjt : (j : Int) < low.length
    · have b1 := hR2 I
      have b2 := rl j
      have b3 := hS2 (I - low.length + j)
      have b4 := mul_bd (a := p - R.getD I 0) (b := low.getD j 0) (A := 256) (B := 256) (by omega) (by omega) (by omega) (by omega)
      have i1 : ((I : Int) - (low.length : Int) + (j : Int)).toNat = I - low.length + j := by omega
      simp (disch := first | assumption | omega) only [↓RP, RQ, TY, loadT, reduceIte, Nat.reduceEqDiff, Nat.reduceAdd, e11, e10, e9, e8, e7, e0, e2, hjt, hb', hl'.ints, i1]
      refine ⟨j + 1, ?_, by dsimp only; omega⟩
      simp (disch := first | assumption | omega) only [↓RP, RQ, TY, loadT, reduceIte, Nat.reduceEqDiff, Nat.reduceAdd, e11, e10, e9, e8, e7, e0, e2]
      refine ⟨by omega, hE.upd h0 _, ?_⟩
      rw [upto_succ, hS]
      rfl
    · simp (disch := first | assumption | omega) only [↓RP, RQ, TY, loadT, reduceIte, Nat.reduceEqDiff, Nat.reduceAdd, e11, e10, e9, e8, e7, e0, e2, hjt, hb', hl'.ints]
      refine ⟨k + 1, ?_, by dsimp only; omega⟩
      simp (disch := first | assumption | omega) only [↓RP, RQ, TY, loadT, reduceIte, Nat.reduceEqDiff, Nat.reduceAdd, e11, e10, e9, e8, e7, e0, e2]
      refine ⟨?_, by omega, hE.upd h0 _, ?_⟩
      · congr 1
        omega
      · rw [upto_succ, hR, hI, divStep, ← hS, show j = low.length by omega]
  · simp (disch := first | assumption | omega) only [↓RP, RQ, TY, loadT, reduceIte, Nat.reduceEqDiff, Nat.reduceAdd, e9, e8, e7, e0, e2, hlt, hb']
    have hRR : R = divRem p low mod := by
      rw [divRem, ← hR]
      congr 1
      omega
    refine sw_loop (σ := Nat) (fun j e H' => e 12 = .int .i64 j ∧ e 8 = .sl b 0 (mod.length + 1) (.own 1) ∧ j ≤ mod.length + 1 ∧ Ext H H' ∧
      H' b = .rw (ints R) ∧ ∀ q, q < j → R.getD q 0 = 0) (fun j => mod.length + 1 - j) 0 ?_ ?_
    · simp (disch := first | assumption | omega) only [↓RP, RQ, TY, loadT, reduceIte, Nat.reduceEqDiff, Nat.reduceAdd, e8, hb']
      exact ⟨by omega, hE, fun q hq => by omega⟩
    rintro j e H' ⟨e12, e8, hj, hE, hb', hz⟩
    by_cases hjt : (j : Int) < (mod.length : Int) + 1
    · by_cases hjz : R.getD j 0 = 0
      · simp (disch := first | assumption | omega) only [↓RP, RQ, TY, loadT, reduceIte, Nat.reduceEqDiff, Nat.reduceAdd, e12, e8, hjt, hb', hjz]
        refine ⟨j + 1, ?_, by dsimp only; omega⟩
        simp (disch := first | assumption | omega) only [↓RP, RQ, TY, loadT, reduceIte, Nat.reduceEqDiff, Nat.reduceAdd, e12, e8]
        refine ⟨by omega, hE, hb', fun q hq => ?_⟩
        by_cases hqj : q = j
        · rw [hqj]; exact hjz
        · exact hz q (by omega)
      · simp (disch := first | assumption | omega) only [↓RP, RQ, TY, loadT, reduceIte, Nat.reduceEqDiff, Nat.reduceAdd, e12, e8, hjt, hb', hjz]
        have := hQ H' hE
        rwa [decide_eq_false (fun q : divs p low mod => hjz (by rw [hRR]; exact q j))] at this
    · simp (disch := first | assumption | omega) only [↓RP, RQ, TY, loadT, reduceIte, Nat.reduceEqDiff, Nat.reduceAdd, e12, e8, hjt, hb']
      have := hQ H' hE
      rwa [decide_eq_true (show divs p low mod from fun q => by
        by_cases hq : q < j
        · rw [← hRR]; exact hz q hq
        · rw [← hRR, List.getD_eq_getElem?_getD, List.getElem?_eq_none (by omega)]; rfl)] at this
end Go.Proofs.YtbkpebmcagdgmaaGreat.AM
/-! The reference's field, third part: Check. -/
namespace Go.Proofs.YtbkpebmcagdgmaaGreat.AM
open Go Go.RowKit
set_option linter.unusedVariables false
set_option linter.unusedSimpArgs false
set_option maxRecDepth 20000
theorem digs_length (p : Int) : ∀ n x, (digs p n x).length = n
  | 0, _ => rfl
  | n + 1, x => by simp [digs, digs_length p n]
theorem digs_rng {p : Int} (hp : 0 < p) : ∀ n x, Rng p (digs p n x)
  | 0, _ => by intro i; simpa [digs] using hp
  | n + 1, x => by
    intro i
    cases i with
    | zero => simpa [digs] using ⟨Int.emod_nonneg x (by omega), Int.emod_lt_of_pos x hp⟩
    | succ i => simpa [digs] using digs_rng hp n (x / p) i
/-- no monic divisor of a degree from 1 to half of its own -/
def irr (p : Int) (mod : List Int) : Prop := ∀ d : Nat, 1 ≤ d → 2 * d ≤ mod.length → ∀ v : Int, 0 ≤ v → v < p ^ d → ¬ divs p (digs p d v) mod
open Classical in
theorem c_irreducible {p : Int} {vm : AV} {mod : List Int} {H : AH} {Q : AV → AH → Prop} (hp : 2 ≤ p) (hp' : p ≤ 256) (hm : Ints H vm mod) (rm : Rng p mod) (hn : mod.length ≤ 8) (hq : p ^ mod.length ≤ 256)
    (hQ : ∀ H', Ext H H' → Q (.bool (decide (irr p mod))) H') : AC Tryz.prog 127 [vm, .int .i64 p] H Q := by
  refine at127 (by simp) ?_
  simp (disch := first | assumption | omega) only [↓RP, RQ, TY, loadT, s127, reduceIte, Nat.reduceEqDiff, Nat.reduceAdd]
  refine sw_loop (σ := Nat) (fun k e H' => e 6 = .int .i64 (k + 1) ∧ e 5 = .int .i64 (p ^ k) ∧ e 0 = vm ∧ e 1 = .int .i64 p ∧ 2 * k ≤ mod.length ∧ Ext H H' ∧
    ∀ d : Nat, 1 ≤ d → d ≤ k → ∀ v : Int, 0 ≤ v → v < p ^ d → ¬ divs p (digs p d v) mod) (fun k => mod.length - k) 0 ?_ ?_
  · simp (disch := first | assumption | omega) only [↓RP, RQ, TY, loadT, reduceIte, Nat.reduceEqDiff, Nat.reduceAdd]
    refine ⟨rfl, by simp, by omega, Ext.refl H, fun d h1 h2 => by omega⟩
  rintro k e H' ⟨e6, e5, e0, e1, hk, hE, hd⟩
  have hm' := hm.ext hE
  have hpk : 0 ≤ p ^ k := Int.pow_nonneg (by omega)
  have hp1 : p ^ (k + 1) = p ^ k * p := Int.pow_succ _ _
  by_cases hlt : 2 * ((k : Int) + 1) ≤ mod.length
  · have hb : p ^ (k + 1) ≤ 256 := Int.le_trans (ipow_mono (by omega) (by omega)) hq
    have hb0 : 0 ≤ p ^ k * p := Int.mul_nonneg hpk (by omega)
    rw [hp1] at hb
    simp (disch := first | assumption | omega) only [↓RP, RQ, TY, loadT, reduceIte, Nat.reduceEqDiff, Nat.reduceAdd, e6, e5, e0, e1, hlt, hm'.ints]
    refine sw_loop (σ := Nat) (fun v e H' => e 7 = .int .i64 v ∧ e 6 = .int .i64 (k + 1) ∧ e 5 = .int .i64 (p ^ k * p) ∧ e 0 = vm ∧ e 1 = .int .i64 p ∧ (v : Int) ≤ p ^ k * p ∧ Ext H H' ∧
      ∀ v' : Int, 0 ≤ v' → v' < v → ¬ divs p (digs p (k + 1) v') mod) (fun v => (p ^ k * p).toNat - v) 0 ?_ ?_
    · simp (disch := first | assumption | omega) only [↓RP, RQ, TY, loadT, reduceIte, Nat.reduceEqDiff, Nat.reduceAdd, e6, e5, e0, e1]
      refine ⟨by simpa using hb0, hE, fun v' h1 h2 => by omega⟩
    rintro v e H' ⟨e7, e6, e5, e0, e1, hv, hE, hdv⟩
    by_cases hvt : (v : Int) < p ^ k * p
    · simp (disch := first | assumption | omega) only [↓RP, RQ, TY, loadT, reduceIte, Nat.reduceEqDiff, Nat.reduceAdd, e7, e6, e5, e0, e1, hvt]
      refine c_digits (by omega) (by omega) (by omega) (by omega) (by omega) fun b1 H1 hb1 hE1 hH1 => ?_
      have hE2 := hE.trans hE1
      simp (disch := first | assumption | omega) only [↓RP, RQ, TY, loadT, reduceIte, Nat.reduceEqDiff, Nat.reduceAdd, e7, e6, e5, e0, e1]
      refine c_divides hp hp' (Sl.own hH1 (by simp [ints, digs_length])) (hm.ext hE2) (digs_rng (by omega) _ _) rm (by rw [digs_length]; omega) (by omega) fun H3 hE3 => ?_
      have hE4 := hE2.trans hE3
      have hkk : ((k : Int) + 1).toNat = k + 1 := by omega
      by_cases hdd : divs p (digs p (k + 1) v) mod
      · simp (disch := first | assumption | omega) only [↓RP, RQ, TY, loadT, reduceIte, Nat.reduceEqDiff, Nat.reduceAdd, hkk, hdd]
        have := hQ H3 hE4
        rwa [decide_eq_false (fun q : irr p mod => q (k + 1) (by omega) (by omega) v (by omega) (by omega) hdd)] at this
      · simp (disch := first | assumption | omega) only [↓RP, RQ, TY, loadT, reduceIte, Nat.reduceEqDiff, Nat.reduceAdd, hkk, hdd, e7, e6, e5, e0, e1]
        refine ⟨v + 1, ?_, by dsimp only; omega⟩
        simp (disch := first | assumption | omega) only [↓RP, RQ, TY, loadT, reduceIte, Nat.reduceEqDiff, Nat.reduceAdd, e7, e6, e5, e0, e1]
        refine ⟨by omega, hE4, fun v' h1 h2 => ?_⟩
        by_cases hvv : v' = v
        · rw [hvv]; exact hdd
        · exact hdv v' h1 (by omega)
    · simp (disch := first | assumption | omega) only [↓RP, RQ, TY, loadT, reduceIte, Nat.reduceEqDiff, Nat.reduceAdd, e7, e6, e5, e0, e1, hvt]
      refine ⟨k + 1, ?_, by dsimp only; omega⟩
      simp (disch := first | assumption | omega) only [↓RP, RQ, TY, loadT, reduceIte, Nat.reduceEqDiff, Nat.reduceAdd, e6, e5, e0, e1, hp1]
      refine ⟨by omega, hE, fun d h1 h2 v' h3 h4 => ?_⟩
      by_cases hdk : d = k + 1
      · subst hdk
        exact hdv v' h3 (by omega)
      · exact hd d h1 (by omega) v' h3 h4
  · simp (disch := first | assumption | omega) only [↓RP, RQ, TY, loadT, reduceIte, Nat.reduceEqDiff, Nat.reduceAdd, e6, e5, e0, e1, hlt, hm'.ints]
    have := hQ H' hE
    rwa [decide_eq_true (show irr p mod from fun d h1 h2 => hd d h1 (by omega))] at this
/-- p, m, mod describe a field, as the reference checks it. -/
def FieldOk (p m : Int) (mod : List Int) : Prop :=
  ordr p m ≠ 0 ∧ prm p ∧ ((m = 1 ∧ mod = []) ∨ (m ≠ 1 ∧ (mod.length : Int) = m ∧ Rng p mod ∧ irr p mod))
theorem ordr_pos {p m : Int} (h : ordr p m ≠ 0) : 2 ≤ p ∧ 1 ≤ m ∧ m ≤ 8 ∧ p ^ m.toNat ≤ 256 ∧ ordr p m = p ^ m.toNat := by
  unfold ordr at h ⊢
  split at h
  · rename_i hh
    rw [if_pos hh]
    exact ⟨hh.1, hh.2.1, hh.2.2.1, hh.2.2.2, rfl⟩
  · exact (h rfl).elim
theorem ordr_p {p m : Int} (h : ordr p m ≠ 0) : p ≤ 256 := by
  obtain ⟨h1, h2, h3, h4, -⟩ := ordr_pos h
  have := ipow_mono (p := p) (by omega) (show 1 ≤ m.toNat by omega)
  rw [show p ^ 1 = p by rw [Int.pow_succ, Int.pow_zero, Int.one_mul]] at this
  omega
open Classical in
theorem c_Check04 {p m : Int} {md : AV} {mod : List Int} {H : AH} {Q : AV → AH → Prop} (hm : Ints H md mod)
    (hQ : ∀ H', Ext H H' → Q (.int .i64 (if FieldOk p m mod then 0 else 1)) H') : AC Tryz.prog 87 [.agg [.int .i64 p, .int .i64 m, md]] H Q := by
  refine at87 (by simp) ?_
  simp (disch := first | assumption | omega) only [↓RP, RQ, TY, loadT, s87, reduceIte, Nat.reduceEqDiff, Nat.reduceAdd]
  refine kNew_intro fun b H1 hb hE hH1 => ?_
  simp (disch := first | assumption | omega) only [↓RP, RQ, TY, loadT, reduceIte, Nat.reduceEqDiff, Nat.reduceAdd, hH1]
  refine c_Order fun H2 hE2 => ?_
  have hE3 := hE.trans hE2
  have hH2 := hE2.rw hH1
  have hm2 := hm.ext hE3
  by_cases ho : ordr p m = 0
  · simp (disch := first | assumption | omega) only [↓RP, RQ, TY, loadT, reduceIte, Nat.reduceEqDiff, Nat.reduceAdd, hH2, ho]
    have := hQ H2 hE3
    rwa [if_neg (fun q => q.1 ho)] at this
  obtain ⟨o1, o2, o3, o4, o5⟩ := ordr_pos ho
  have o6 := ordr_p ho
  simp (disch := first | assumption | omega) only [↓RP, RQ, TY, loadT, reduceIte, Nat.reduceEqDiff, Nat.reduceAdd, hH2, ho]
  refine c_prime o1 o6 ?_
  by_cases hp : prm p
  rotate_left
  · simp (disch := first | assumption | omega) only [↓RP, RQ, TY, loadT, reduceIte, Nat.reduceEqDiff, Nat.reduceAdd, hH2, hp]
    have := hQ H2 hE3
    rwa [if_neg (fun q => hp q.2.1)] at this
  by_cases h1 : m = 1
  · by_cases hl : (mod.length : Int) = 0
    · simp (disch := first | assumption | omega) only [↓RP, RQ, TY, loadT, reduceIte, Nat.reduceEqDiff, Nat.reduceAdd, hH2, hp, h1, hl, hm2.ints]
      have := hQ H2 hE3
      rwa [if_pos ⟨ho, hp, .inl ⟨h1, List.length_eq_zero_iff.mp (by omega)⟩⟩] at this
    · simp (disch := first | assumption | omega) only [↓RP, RQ, TY, loadT, reduceIte, Nat.reduceEqDiff, Nat.reduceAdd, hH2, hp, h1, hl, hm2.ints]
      have := hQ H2 hE3
      rwa [if_neg (fun q => q.2.2.elim (fun q => hl (by rw [q.2]; rfl)) fun q => q.1 h1)] at this
  by_cases hl : (mod.length : Int) = m
  rotate_left
  · simp (disch := first | assumption | omega) only [↓RP, RQ, TY, loadT, reduceIte, Nat.reduceEqDiff, Nat.reduceAdd, hH2, hp, h1, hl, hm2.ints]
    have := hQ H2 hE3
    rwa [if_neg (fun q => q.2.2.elim (fun q => h1 q.1) fun q => hl q.2.1)] at this
  simp (disch := first | assumption | omega) only [↓RP, RQ, TY, loadT, reduceIte, Nat.reduceEqDiff, Nat.reduceAdd, hH2, hp, h1, hl, hm2.ints]
  refine sw_loop (σ := Nat) (fun i e H' => e 3 = .int .i64 i ∧ e 1 = .ptr b 0 ∧ (i : Int) ≤ m ∧ H' = H2 ∧ ∀ j, j < i → 0 ≤ mod.getD j 0 ∧ mod.getD j 0 < p) (fun i => m.toNat - i) 0 ?_ ?_
  · simp (disch := first | assumption | omega) only [↓RP, RQ, TY, loadT, reduceIte, Nat.reduceEqDiff, Nat.reduceAdd]
    exact ⟨by omega, fun j hj => by omega⟩
  rintro i e H' ⟨e3, e1, hi, rfl, hj⟩
  by_cases hlt : (i : Int) < m
  · by_cases c1 : mod.getD i 0 < 0
    · simp (disch := first | assumption | omega) only [↓RP, RQ, TY, loadT, reduceIte, Nat.reduceEqDiff, Nat.reduceAdd, e3, e1, hlt, hH2, c1, hm2.ints]
      have := hQ H' hE3
      rwa [if_neg (fun q => q.2.2.elim (fun q => h1 q.1) fun q => absurd (q.2.2.1 i).1 (by omega))] at this
    by_cases c2 : p ≤ mod.getD i 0
    · simp (disch := first | assumption | omega) only [↓RP, RQ, TY, loadT, reduceIte, Nat.reduceEqDiff, Nat.reduceAdd, e3, e1, hlt, hH2, c1, c2, hm2.ints]
      have := hQ H' hE3
      rwa [if_neg (fun q => q.2.2.elim (fun q => h1 q.1) fun q => absurd (q.2.2.1 i).2 (by omega))] at this
    simp (disch := first | assumption | omega) only [↓RP, RQ, TY, loadT, reduceIte, Nat.reduceEqDiff, Nat.reduceAdd, e3, e1, hlt, hH2, c1, c2, hm2.ints]
    refine ⟨i + 1, ?_, by dsimp only; omega⟩
    simp (disch := first | assumption | omega) only [↓RP, RQ, TY, loadT, reduceIte, Nat.reduceEqDiff, Nat.reduceAdd, e3, e1]
    refine ⟨by omega, fun j h => ?_⟩
    by_cases hji : j = i
    · rw [hji]; exact ⟨by omega, by omega⟩
    · exact hj j (by omega)
  · have hr : Rng p mod := fun j => by
      by_cases hji : j < i
      · exact hj j hji
      · rw [List.getD_eq_getElem?_getD, List.getElem?_eq_none (by omega)]
        exact ⟨by simp, by simpa using (show 0 < p by omega)⟩
    simp (disch := first | assumption | omega) only [↓RP, RQ, TY, loadT, reduceIte, Nat.reduceEqDiff, Nat.reduceAdd, e3, e1, hlt, hH2, hm2.ints]
    refine c_irreducible o1 o6 hm2 hr (by omega) (by rw [show mod.length = m.toNat by omega]; exact o4) fun H3 hE4 => ?_
    have := hQ H3 (hE3.trans hE4)
    by_cases hir : irr p mod
    · simp (disch := first | assumption | omega) only [↓RP, RQ, TY, loadT, reduceIte, Nat.reduceEqDiff, Nat.reduceAdd, hir]
      rwa [if_pos ⟨ho, hp, .inr ⟨h1, hl, hr, hir⟩⟩] at this
    · simp (disch := first | assumption | omega) only [↓RP, RQ, TY, loadT, reduceIte, Nat.reduceEqDiff, Nat.reduceAdd, hir]
      rwa [if_neg (fun q => q.2.2.elim (fun q => h1 q.1) fun q => hir q.2.2.2)] at this
end Go.Proofs.YtbkpebmcagdgmaaGreat.AM
/-! The reference's field, fourth part: digits and sums. -/
namespace Go.Proofs.YtbkpebmcagdgmaaGreat.AM
open Go Go.RowKit
set_option linter.unusedVariables false
set_option linter.unusedSimpArgs false
set_option maxRecDepth 20000
/-- the number with these digits -/
def val (p : Int) : List Int → Int
  | [] => 0
  | d :: ds => d + p * val p ds
theorem Rng.tail {p d : Int} {ds : List Int} (h : Rng p (d :: ds)) : Rng p ds := fun i => by simpa using h (i + 1)
theorem val_lt {p : Int} (hp : 0 < p) : ∀ {ds : List Int}, Rng p ds → 0 ≤ val p ds ∧ val p ds < p ^ ds.length
  | [], _ => by simp [val]
  | d :: ds, h => by
    have h1 := val_lt hp h.tail
    have h2 := h 0
    simp only [List.getD_cons_zero] at h2
    have h3 : p * val p ds ≤ p * (p ^ ds.length - 1) := Int.mul_le_mul_of_nonneg_left (by omega) (by omega)
    have h4 : 0 ≤ p * val p ds := Int.mul_nonneg (by omega) h1.1
    have h5 : p ^ (ds.length + 1) = p * p ^ ds.length := by rw [Int.pow_succ, Int.mul_comm]
    rw [Int.mul_sub, Int.mul_one] at h3
    simp only [val, List.length_cons, h5]
    omega
theorem drop_getD {ds : List Int} {i : Nat} (h : i < ds.length) : ds.drop i = ds.getD i 0 :: ds.drop (i + 1) := by
  rw [List.drop_eq_getElem_cons h]
  simp [h, List.getD_eq_getElem?_getD]
theorem Rng.drop {p : Int} {ds : List Int} (h : Rng p ds) (i : Nat) : Rng p (ds.drop i) := fun j => by
  have := h (i + j)
  simpa [List.getD_eq_getElem?_getD, List.getElem?_drop] using this
open Classical in
theorem c_Is04 {p m x : Int} {md : AV} {H : AH} {Q : AV → AH → Prop}
    (hQ : ∀ H', Ext H H' → Q (.bool (decide (0 ≤ x ∧ x < ordr p m))) H') : AC Tryz.prog 142 [.agg [.int .i64 p, .int .i64 m, md], .int .i64 x] H Q := by
  refine at142 (by simp) ?_
  simp (disch := first | assumption | omega) only [↓RP, RQ, TY, loadT, s142, reduceIte, Nat.reduceEqDiff, Nat.reduceAdd]
  refine kNew_intro fun b H1 hb hE hH1 => ?_
  by_cases h0 : 0 ≤ x
  · simp (disch := first | assumption | omega) only [↓RP, RQ, TY, loadT, reduceIte, Nat.reduceEqDiff, Nat.reduceAdd, hH1, h0]
    refine c_Order fun H2 hE2 => ?_
    have := hQ H2 (hE.trans hE2)
    by_cases h1 : x < ordr p m
    · simp (disch := first | assumption | omega) only [↓RP, RQ, TY, loadT, reduceIte, Nat.reduceEqDiff, Nat.reduceAdd, h1]
      rwa [decide_eq_true ⟨h0, h1⟩] at this
    · simp (disch := first | assumption | omega) only [↓RP, RQ, TY, loadT, reduceIte, Nat.reduceEqDiff, Nat.reduceAdd, h1]
      rwa [decide_eq_false (fun q => h1 q.2)] at this
  · simp (disch := first | assumption | omega) only [↓RP, RQ, TY, loadT, reduceIte, Nat.reduceEqDiff, Nat.reduceAdd, hH1, h0]
    have := hQ H1 hE
    rwa [decide_eq_false (fun q => h0 q.1)] at this
theorem c_In04 {p m x : Int} {md : AV} {H : AH} {Q : AV → AH → Prop} (hx : 0 ≤ x) (hx' : x < ordr p m)
    (hQ : ∀ H', Ext H H' → Q (.int .i64 x) H') : AC Tryz.prog 202 [.agg [.int .i64 p, .int .i64 m, md], .int .i64 x] H Q := by
  refine at202 (by simp) ?_
  simp (disch := first | assumption | omega) only [↓RP, RQ, TY, loadT, s202, reduceIte, Nat.reduceEqDiff, Nat.reduceAdd]
  refine kNew_intro fun b H1 hb hE hH1 => ?_
  simp (disch := first | assumption | omega) only [↓RP, RQ, TY, loadT, reduceIte, Nat.reduceEqDiff, Nat.reduceAdd, hH1]
  refine c_Is04 fun H2 hE2 => ?_
  simp (disch := first | assumption | omega) only [↓RP, RQ, TY, loadT, reduceIte, Nat.reduceEqDiff, Nat.reduceAdd, hx, hx']
  exact hQ H2 (hE.trans hE2)
theorem c_Digits04 {p m x : Int} {md : AV} {H : AH} {Q : AV → AH → Prop} (hx : 0 ≤ x) (hx' : x < ordr p m)
    (hQ : ∀ b H', H b = .free → Ext H H' → H' b = .rw (ints (digs p m.toNat x)) → Q (.sl b 0 m.toNat (.own 1)) H') : AC Tryz.prog 191 [.agg [.int .i64 p, .int .i64 m, md], .int .i64 x] H Q := by
  obtain ⟨o1, o2, o3, o4, o5⟩ := ordr_pos (p := p) (m := m) (by omega)
  refine at191 (by simp) ?_
  simp (disch := first | assumption | omega) only [↓RP, RQ, TY, loadT, s191, reduceIte, Nat.reduceEqDiff, Nat.reduceAdd]
  refine kNew_intro fun b H1 hb hE hH1 => ?_
  simp (disch := first | assumption | omega) only [↓RP, RQ, TY, loadT, reduceIte, Nat.reduceEqDiff, Nat.reduceAdd, hH1]
  refine c_In04 hx hx' fun H2 hE2 => ?_
  have hH2 := hE2.rw hH1
  have hE3 := hE.trans hE2
  simp (disch := first | assumption | omega) only [↓RP, RQ, TY, loadT, reduceIte, Nat.reduceEqDiff, Nat.reduceAdd, hH1, hH2]
  refine c_digits hx (by omega) (by omega) (by omega) (by omega) fun b4 H4 hb4 hE4 hH4 => ?_
  have hH4' := hE4.rw hH2
  simp (disch := first | assumption | omega) only [↓RP, RQ, TY, loadT, reduceIte, Nat.reduceEqDiff, Nat.reduceAdd, hH4']
  exact hQ b4 H4 (hE3.free hb4) (hE3.trans hE4) hH4
theorem c_Value04 {p m : Int} {md vd : AV} {ds : List Int} {H : AH} {Q : AV → AH → Prop} (hp : 2 ≤ p) (hd : Ints H vd ds) (rd : Rng p ds) (hp' : p ≤ 256) (hl : ds.length ≤ 100) (hq : p ^ ds.length ≤ 256)
    (hQ : ∀ H', Ext H H' → Q (.int .i64 (val p ds)) H') : AC Tryz.prog 192 [.agg [.int .i64 p, .int .i64 m, md], vd] H Q := by
  refine at192 (by simp) ?_
  simp (disch := first | assumption | omega) only [↓RP, RQ, TY, loadT, s192, reduceIte, Nat.reduceEqDiff, Nat.reduceAdd]
  refine kNew_intro fun b H1 hb hE hH1 => ?_
  have hd1 := hd.ext hE
  simp (disch := first | assumption | omega) only [↓RP, RQ, TY, loadT, reduceIte, Nat.reduceEqDiff, Nat.reduceAdd, hH1, hd1.ints]
  refine sw_loop (σ := Nat) (fun k e H' => e 6 = .int .i64 ((ds.length - k : Int) - 1) ∧ e 5 = .int .i64 (val p (ds.drop (ds.length - k))) ∧ e 2 = .ptr b 0 ∧ e 1 = vd ∧ k ≤ ds.length ∧ H' = H1) (fun k => ds.length - k) 0 ?_ ?_
  · simp (disch := first | assumption | omega) only [↓RP, RQ, TY, loadT, reduceIte, Nat.reduceEqDiff, Nat.reduceAdd]
    simp [val]
  rintro k e H' ⟨e6, e5, e2, e1, hk, rfl⟩
  have v1 := val_lt (show 0 < p by omega) (rd.drop (ds.length - k))
  have v2 : p ^ (ds.drop (ds.length - k)).length ≤ 256 := Int.le_trans (ipow_mono (by omega) (by simp)) hq
  by_cases hlt : 0 ≤ (ds.length - k : Int) - 1
  · have hi : ((ds.length - k : Int) - 1).toNat = ds.length - (k + 1) := by omega
    have v3 := val_lt (show 0 < p by omega) (rd.drop (ds.length - (k + 1)))
    have v4 : p ^ (ds.drop (ds.length - (k + 1))).length ≤ 256 := Int.le_trans (ipow_mono (by omega) (by simp)) hq
    have v5 : val p (ds.drop (ds.length - (k + 1))) = ds.getD (ds.length - (k + 1)) 0 + p * val p (ds.drop (ds.length - k)) := by
      rw [drop_getD (show ds.length - (k + 1) < ds.length by omega), val, show ds.length - (k + 1) + 1 = ds.length - k by omega]
    have v6 : p * val p (ds.drop (ds.length - k)) = val p (ds.drop (ds.length - k)) * p := Int.mul_comm _ _
    have v7 := rd (ds.length - (k + 1))
    simp (disch := first | assumption | omega) only [↓RP, RQ, TY, loadT, reduceIte, Nat.reduceEqDiff, Nat.reduceAdd, hH1, hd1.ints, e6, e5, e2, e1, hlt, hi]
    refine ⟨k + 1, ?_, by dsimp only; omega⟩
    simp (disch := first | assumption | omega) only [↓RP, RQ, TY, loadT, reduceIte, Nat.reduceEqDiff, Nat.reduceAdd, e6, e5, e2, e1]
    refine ⟨?_, ?_, by omega⟩
    · congr 1
      omega
    · congr 1
      omega
  · simp (disch := first | assumption | omega) only [↓RP, RQ, TY, loadT, reduceIte, Nat.reduceEqDiff, Nat.reduceAdd, hH1, hd1.ints, e6, e5, e2, e1, hlt]
    have := hQ H' hE
    rwa [show ds.length - k = 0 by omega]
end Go.Proofs.YtbkpebmcagdgmaaGreat.AM
/-! The reference's field, fifth part: sums and negatives. -/
namespace Go.Proofs.YtbkpebmcagdgmaaGreat.AM
open Go Go.RowKit
set_option linter.unusedVariables false
set_option linter.unusedSimpArgs false
set_option maxRecDepth 20000
/-- the list f 0, .., f (n-1) -/
def tab {α : Type} (n : Nat) (f : Nat → α) : List α := (List.range n).map f
theorem tab_length {α : Type} (n : Nat) (f : Nat → α) : (tab n f).length = n := by simp [tab]
theorem tab_get {n : Nat} {f : Nat → Int} {i : Nat} (h : i < n) : (tab n f).getD i 0 = f i := by
  simp [tab, List.getD_eq_getElem?_getD, h]
/-- A list that is being changed entry by entry: the first i entries are T's. -/
def mix (T a : List Int) (i : Nat) : List Int := T.take i ++ a.drop i
theorem mix_zero (T a : List Int) : mix T a 0 = a := by simp [mix]
theorem mix_length {T a : List Int} (h : T.length = a.length) (i : Nat) : (mix T a i).length = a.length := by
  simp [mix]; omega
theorem mix_full {T a : List Int} (h : T.length = a.length) {i : Nat} (hi : a.length ≤ i) : mix T a i = T := by
  simp [mix, List.drop_of_length_le hi, List.take_of_length_le (show T.length ≤ i by omega)]
theorem mix_get {T a : List Int} {i j : Nat} (h : T.length = a.length) (hi : i ≤ j) : (mix T a i).getD j 0 = a.getD j 0 := by
  by_cases hj : j < a.length
  · simp only [mix, List.getD_eq_getElem?_getD]
    rw [List.getElem?_append_right (by simp; omega), List.getElem?_drop]
    simp only [List.length_take]
    rw [show i + (j - min i T.length) = j by omega]
  · rw [List.getD_eq_getElem?_getD, List.getD_eq_getElem?_getD, List.getElem?_eq_none (by rw [mix_length h]; omega), List.getElem?_eq_none (by omega)]
theorem mix_set {T a : List Int} {i : Nat} (h : T.length = a.length) (hi : i < a.length) : (mix T a i).set i (T.getD i 0) = mix T a (i + 1) := by
  have h1 : (List.take i T).length = i := by simp; omega
  have h2 : i < T.length := by omega
  have h3 : T.getD i 0 = T[i] := by simp [List.getD_eq_getElem?_getD, h2]
  simp only [mix]
  rw [h3, List.set_append_right _ _ (by omega), h1, Nat.sub_self, List.drop_eq_getElem_cons hi, List.set_cons_zero, List.take_succ_eq_append_getElem h2]
  simp only [List.append_assoc, List.cons_append, List.nil_append]
theorem tab_rng {p : Int} (hp : 0 < p) {n : Nat} {f : Nat → Int} (h : ∀ i, i < n → 0 ≤ f i ∧ f i < p) : Rng p (tab n f) := by
  intro i
  by_cases hi : i < n
  · rw [tab_get hi]; exact h i hi
  · rw [List.getD_eq_getElem?_getD, List.getElem?_eq_none (by rw [tab_length]; omega)]
    exact ⟨by simp, by simpa using hp⟩
def addL (p : Int) (a b : List Int) : List Int := tab a.length fun i => (a.getD i 0 + b.getD i 0) % p
def negL (p : Int) (a : List Int) : List Int := tab a.length fun i => (p - a.getD i 0) % p
/-- sum and negative, by digits -/
def fadd (p m x y : Int) : Int := val p (addL p (digs p m.toNat x) (digs p m.toNat y))
def fneg (p m x : Int) : Int := val p (negL p (digs p m.toNat x))
theorem c_Add04 {p m x y : Int} {md : AV} {H : AH} {Q : AV → AH → Prop} (hx : 0 ≤ x) (hx' : x < ordr p m) (hy : 0 ≤ y) (hy' : y < ordr p m)
    (hQ : ∀ H', Ext H H' → Q (.int .i64 (fadd p m x y)) H') : AC Tryz.prog 150 [.agg [.int .i64 p, .int .i64 m, md], .int .i64 x, .int .i64 y] H Q := by
  have ho : ordr p m ≠ 0 := by omega
  obtain ⟨o1, o2, o3, o4, o5⟩ := ordr_pos ho
  have o6 := ordr_p ho
  refine at150 (by simp) ?_
  simp (disch := first | assumption | omega) only [↓RP, RQ, TY, loadT, s150, reduceIte, Nat.reduceEqDiff, Nat.reduceAdd]
  refine kNew_intro fun b H1 hb hE1 hH1 => ?_
  simp (disch := first | assumption | omega) only [↓RP, RQ, TY, loadT, reduceIte, Nat.reduceEqDiff, Nat.reduceAdd, hH1]
  refine c_Digits04 hx hx' fun b2 H2 hb2 hE2 hH2 => ?_
  have hb' := hE2.rw hH1
  have hE12 := hE1.trans hE2
  simp (disch := first | assumption | omega) only [↓RP, RQ, TY, loadT, reduceIte, Nat.reduceEqDiff, Nat.reduceAdd, hb']
  refine c_Digits04 hy hy' fun b3 H3 hb3 hE3 hH3 => ?_
  have hb'' := hE3.rw hb'
  have hH2' := hE3.rw hH2
  have hE13 := hE12.trans hE3
  have n1 : b ≠ b2 := fun q => by rw [← q, hH1] at hb2; cases hb2
  have n2 : b3 ≠ b2 := fun q => by rw [q, hH2] at hb3; cases hb3
  have l1 := digs_length p m.toNat x
  have l2 := digs_length p m.toNat y
  have r1 := digs_rng (show 0 < p by omega) m.toNat x
  have r2 := digs_rng (show 0 < p by omega) m.toNat y
  generalize ha : digs p m.toNat x = a at *
  generalize hb : digs p m.toNat y = c at *
  have lT : (addL p a c).length = a.length := tab_length _ _
  simp (disch := first | assumption | omega) only [↓RP, RQ, TY, loadT, reduceIte, Nat.reduceEqDiff, Nat.reduceAdd, hb'']
  refine sw_loop (σ := Nat) (fun i e H' => e 9 = .int .i64 i ∧ e 7 = .sl b2 0 m.toNat (.own 1) ∧ e 8 = .sl b3 0 m.toNat (.own 1) ∧ e 3 = .ptr b 0 ∧ i ≤ m.toNat ∧ H' b = .rw [.int .i64 p, .int .i64 m, md] ∧ Ext H H' ∧ H' b3 = .rw (ints c) ∧ H' b2 = .rw (ints (mix (addL p a c) a i))) (fun i => m.toNat - i) 0 ?_ ?_
  · simp (disch := first | assumption | omega) only [↓RP, RQ, TY, loadT, reduceIte, Nat.reduceEqDiff, Nat.reduceAdd, mix_zero]
    exact ⟨by omega, hb'', hE13, hH3, hH2'⟩
  rintro i e H' ⟨e9, e7, e8, e3, hi, hpb, hE, h3, h2⟩
  have lM := mix_length lT i
  by_cases hlt : (i : Int) < m
  · have t1 := r1 i
    have t2 := r2 i
    have t3 : (mix (addL p a c) a i).getD i 0 = a.getD i 0 := mix_get lT (Nat.le_refl i)
    simp (disch := first | assumption | omega) only [↓RP, RQ, TY, loadT, reduceIte, Nat.reduceEqDiff, Nat.reduceAdd, e9, e7, e8, e3, hlt, hpb, h3, h2, t3]
    refine ⟨i + 1, ?_, by dsimp only; omega⟩
    simp (disch := first | assumption | omega) only [↓RP, RQ, TY, loadT, reduceIte, Nat.reduceEqDiff, Nat.reduceAdd, e9, e7, e8, e3, hpb, h3]
    refine ⟨by omega, hE.upd (hE1.free hb2) _, ?_⟩
    rw [← mix_set lT (show i < a.length by omega), addL, tab_get (show i < a.length by omega)]
  · simp (disch := first | assumption | omega) only [↓RP, RQ, TY, loadT, reduceIte, Nat.reduceEqDiff, Nat.reduceAdd, e9, e7, e8, e3, hlt, hpb, h3, h2]
    have hT : Rng p (addL p a c) := tab_rng (by omega) fun i _ => ⟨Int.emod_nonneg _ (by omega), Int.emod_lt_of_pos _ (by omega)⟩
    rw [mix_full lT (show a.length ≤ i by omega)] at h2
    refine c_Value04 o1 (Sl.own h2 (by rw [ints_length, lT, l1])) hT o6 (by omega) (by rw [lT, l1]; exact o4) fun H4 hE4 => ?_
    simp (disch := first | assumption | omega) only [↓RP, RQ, TY, loadT, reduceIte, Nat.reduceEqDiff, Nat.reduceAdd]
    have := hQ H4 (hE.trans hE4)
    rwa [fadd, ha, hb] at this
theorem c_Neg04 {p m x : Int} {md : AV} {H : AH} {Q : AV → AH → Prop} (hx : 0 ≤ x) (hx' : x < ordr p m)
    (hQ : ∀ H', Ext H H' → Q (.int .i64 (fneg p m x)) H') : AC Tryz.prog 190 [.agg [.int .i64 p, .int .i64 m, md], .int .i64 x] H Q := by
  have ho : ordr p m ≠ 0 := by omega
  obtain ⟨o1, o2, o3, o4, o5⟩ := ordr_pos ho
  have o6 := ordr_p ho
  refine at190 (by simp) ?_
  simp (disch := first | assumption | omega) only [↓RP, RQ, TY, loadT, s190, reduceIte, Nat.reduceEqDiff, Nat.reduceAdd]
  refine kNew_intro fun b H1 hb hE1 hH1 => ?_
  simp (disch := first | assumption | omega) only [↓RP, RQ, TY, loadT, reduceIte, Nat.reduceEqDiff, Nat.reduceAdd, hH1]
  refine c_Digits04 hx hx' fun b2 H2 hb2 hE2 hH2 => ?_
  have hb' := hE2.rw hH1
  have hE12 := hE1.trans hE2
  have n1 : b ≠ b2 := fun q => by rw [← q, hH1] at hb2; cases hb2
  have l1 := digs_length p m.toNat x
  have r1 := digs_rng (show 0 < p by omega) m.toNat x
  generalize ha : digs p m.toNat x = a at *
  have lT : (negL p a).length = a.length := tab_length _ _
  simp (disch := first | assumption | omega) only [↓RP, RQ, TY, loadT, reduceIte, Nat.reduceEqDiff, Nat.reduceAdd, hb']
  refine sw_loop (σ := Nat) (fun i e H' => e 6 = .int .i64 i ∧ e 5 = .sl b2 0 m.toNat (.own 1) ∧ e 2 = .ptr b 0 ∧ i ≤ m.toNat ∧ H' b = .rw [.int .i64 p, .int .i64 m, md] ∧ Ext H H' ∧ H' b2 = .rw (ints (mix (negL p a) a i))) (fun i => m.toNat - i) 0 ?_ ?_
  · simp (disch := first | assumption | omega) only [↓RP, RQ, TY, loadT, reduceIte, Nat.reduceEqDiff, Nat.reduceAdd, mix_zero]
    exact ⟨by omega, hb', hE12, hH2⟩
  rintro i e H' ⟨e6, e5, e2, hi, hpb, hE, h2⟩
  have lM := mix_length lT i
  by_cases hlt : (i : Int) < m
  · have t1 := r1 i
    have t3 : (mix (negL p a) a i).getD i 0 = a.getD i 0 := mix_get lT (Nat.le_refl i)
    simp (disch := first | assumption | omega) only [↓RP, RQ, TY, loadT, reduceIte, Nat.reduceEqDiff, Nat.reduceAdd, e6, e5, e2, hlt, hpb, h2, t3]
    refine ⟨i + 1, ?_, by dsimp only; omega⟩
    simp (disch := first | assumption | omega) only [↓RP, RQ, TY, loadT, reduceIte, Nat.reduceEqDiff, Nat.reduceAdd, e6, e5, e2, hpb]
    refine ⟨by omega, hE.upd (hE1.free hb2) _, ?_⟩
    rw [← mix_set lT (show i < a.length by omega), negL, tab_get (show i < a.length by omega)]
  · simp (disch := first | assumption | omega) only [↓RP, RQ, TY, loadT, reduceIte, Nat.reduceEqDiff, Nat.reduceAdd, e6, e5, e2, hlt, hpb, h2]
    have hT : Rng p (negL p a) := tab_rng (by omega) fun i _ => ⟨Int.emod_nonneg _ (by omega), Int.emod_lt_of_pos _ (by omega)⟩
    rw [mix_full lT (show a.length ≤ i by omega)] at h2
    refine c_Value04 o1 (Sl.own h2 (by rw [ints_length, lT, l1])) hT o6 (by omega) (by rw [lT, l1]; exact o4) fun H4 hE4 => ?_
    simp (disch := first | assumption | omega) only [↓RP, RQ, TY, loadT, reduceIte, Nat.reduceEqDiff, Nat.reduceAdd]
    have := hQ H4 (hE.trans hE4)
    rwa [fneg, ha] at this
end Go.Proofs.YtbkpebmcagdgmaaGreat.AM
/-! The reference's field, sixth part: products. -/
namespace Go.Proofs.YtbkpebmcagdgmaaGreat.AM
open Go Go.RowKit
set_option linter.unusedVariables false
set_option linter.unusedSimpArgs false
set_option maxRecDepth 20000
def mulIn (p : Int) (a b : List Int) (i j : Nat) (c : List Int) : List Int := c.set (i + j) ((c.getD (i + j) 0 + a.getD i 0 * b.getD j 0) % p)
def mulP (p : Int) (n : Nat) (a b : List Int) : List Int := upto (fun i c => upto (mulIn p a b i) n c) n (List.replicate (2 * n - 1) 0)
def redIn (p : Int) (n : Nat) (mod : List Int) (i j : Nat) (c : List Int) : List Int := c.set (i - n + j) ((c.getD (i - n + j) 0 + (p - c.getD i 0) * mod.getD j 0) % p)
def redP (p : Int) (n : Nat) (mod c : List Int) : List Int := upto (fun k c => upto (redIn p n mod (2 * n - 2 - k)) n c) (n - 1) c
/-- the product of two residues -/
def fmul (p m : Int) (mod : List Int) (x y : Int) : Int := val p ((redP p m.toNat mod (mulP p m.toNat (digs p m.toNat x) (digs p m.toNat y))).take m.toNat)
theorem upto_ok {p : Int} {L : Nat} (f : Nat → List Int → List Int) (hf : ∀ i c, c.length = L ∧ Rng p c → (f i c).length = L ∧ Rng p (f i c)) {c : List Int} (hc : c.length = L ∧ Rng p c) : ∀ n, (upto f n c).length = L ∧ Rng p (upto f n c)
  | 0 => hc
  | n + 1 => hf n _ (upto_ok f hf hc n)
theorem mulIn_ok {p : Int} (hp : 0 < p) {L : Nat} (a b : List Int) (i j : Nat) (c : List Int) (hc : c.length = L ∧ Rng p c) : (mulIn p a b i j c).length = L ∧ Rng p (mulIn p a b i j c) :=
  ⟨by rw [mulIn, List.length_set, hc.1], hc.2.set (Int.emod_nonneg _ (by omega)) (Int.emod_lt_of_pos _ hp) _⟩
theorem redIn_ok {p : Int} (hp : 0 < p) {L n : Nat} (mod : List Int) (i j : Nat) (c : List Int) (hc : c.length = L ∧ Rng p c) : (redIn p n mod i j c).length = L ∧ Rng p (redIn p n mod i j c) :=
  ⟨by rw [redIn, List.length_set, hc.1], hc.2.set (Int.emod_nonneg _ (by omega)) (Int.emod_lt_of_pos _ hp) _⟩
theorem c_Mul04 {p m x y : Int} {md : AV} {mod : List Int} {H : AH} {Q : AV → AH → Prop} (hm : Ints H md mod) (rm : Rng p mod) (lm : m ≠ 1 → (mod.length : Int) = m) (hx : 0 ≤ x) (hx' : x < ordr p m) (hy : 0 ≤ y) (hy' : y < ordr p m)
    (hQ : ∀ H', Ext H H' → Q (.int .i64 (fmul p m mod x y)) H') : AC Tryz.prog 151 [.agg [.int .i64 p, .int .i64 m, md], .int .i64 x, .int .i64 y] H Q := by
  have ho : ordr p m ≠ 0 := by omega
  obtain ⟨o1, o2, o3, o4, o5⟩ := ordr_pos ho
  have o6 := ordr_p ho
  have op : 0 < p := by omega
  refine at151 (by simp) ?_
  simp (disch := first | assumption | omega) only [↓RP, RQ, TY, loadT, s151, reduceIte, Nat.reduceEqDiff, Nat.reduceAdd]
  refine kNew_intro fun b H1 hb hE1 hH1 => ?_
  simp (disch := first | assumption | omega) only [↓RP, RQ, TY, loadT, reduceIte, Nat.reduceEqDiff, Nat.reduceAdd, hH1]
  refine c_Digits04 hx hx' fun b2 H2 hb2 hE2 hH2 => ?_
  have hb' := hE2.rw hH1
  have hE12 := hE1.trans hE2
  simp (disch := first | assumption | omega) only [↓RP, RQ, TY, loadT, reduceIte, Nat.reduceEqDiff, Nat.reduceAdd, hb']
  refine c_Digits04 hy hy' fun b3 H3 hb3 hE3 hH3 => ?_
  have hb'' := hE3.rw hb'
  have hH2' := hE3.rw hH2
  have hE13 := hE12.trans hE3
  have l1 := digs_length p m.toNat x
  have l2 := digs_length p m.toNat y
  have r1 := digs_rng op m.toNat x
  have r2 := digs_rng op m.toNat y
  generalize ha : digs p m.toNat x = a at *
  generalize hb : digs p m.toNat y = c at *
  simp (disch := first | assumption | omega) only [↓RP, RQ, TY, loadT, reduceIte, Nat.reduceEqDiff, Nat.reduceAdd, hb'']
  refine kNew_intro fun b4 H4 hb4 hE4 hH4 => ?_
  have hb4' := hE4.rw hb''
  have h24 := hE4.rw hH2'
  have h34 := hE4.rw hH3
  have hE14 := hE13.trans hE4
  have n1 : b ≠ b4 := fun q => by rw [← q, hb''] at hb4; cases hb4
  have n2 : b2 ≠ b4 := fun q => by rw [← q, hH2'] at hb4; cases hb4
  have n3 : b3 ≠ b4 := fun q => by rw [← q, hH3] at hb4; cases hb4
  have f4 := hE13.free hb4
  have en : (2 * m - 1).toNat = 2 * m.toNat - 1 := by omega
  rw [en, show List.replicate (2 * m.toNat - 1) (AV.int .i64 0) = ints (List.replicate (2 * m.toNat - 1) 0) by simp [ints]] at hH4
  generalize hn : m.toNat = n at *
  have hmn : m = (n : Int) := by omega
  subst hmn
  simp (disch := first | assumption | omega) only [↓RP, RQ, TY, loadT, reduceIte, Nat.reduceEqDiff, Nat.reduceAdd, en]
  have hsz0 : (List.replicate (2 * n - 1) (0 : Int)).length = 2 * n - 1 ∧ Rng p (List.replicate (2 * n - 1) 0) := ⟨by simp, Rng.rep op _⟩
  have hpos : 1 ≤ n := by omega
  refine sw_loop (σ := Nat) (fun i e H' => e 10 = .int .i64 i ∧ e 9 = .sl b4 0 (2 * n - 1) (.own 1) ∧ e 8 = .sl b3 0 n (.own 1) ∧ e 7 = .sl b2 0 n (.own 1) ∧ e 3 = .ptr b 0 ∧ i ≤ n ∧ H' b = .rw [.int .i64 p, .int .i64 n, md] ∧ Ext H H' ∧ H' b2 = .rw (ints a) ∧ H' b3 = .rw (ints c) ∧
    H' b4 = .rw (ints (upto (fun i c' => upto (mulIn p a c i) n c') i (List.replicate (2 * n - 1) 0)))) (fun i => n - i) 0 ?_ ?_
  · simp (disch := first | assumption | omega) only [↓RP, RQ, TY, loadT, reduceIte, Nat.reduceEqDiff, Nat.reduceAdd, hH4]
    exact ⟨by omega, hb4', hE14, h24, h34, rfl⟩
  rintro i e H' ⟨e10, e9, e8, e7, e3, hi, hpb, hE, h2, h3, h4⟩
  obtain ⟨s1, s2⟩ := upto_ok (L := 2 * n - 1) _ (fun i c' hc' => upto_ok _ (mulIn_ok op a c i) hc' n) hsz0 i
  generalize hR : upto (fun i c' => upto (mulIn p a c i) n c') i (List.replicate (2 * n - 1) 0) = R at *
  by_cases hlt : (i : Int) < n
  · simp (disch := first | assumption | omega) only [↓RP, RQ, TY, loadT, reduceIte, Nat.reduceEqDiff, Nat.reduceAdd, e10, e9, e8, e7, e3, hlt, hpb]
    refine sw_loop (σ := Nat) (fun j e H' => e 11 = .int .i64 j ∧ e 10 = .int .i64 i ∧ e 9 = .sl b4 0 (2 * n - 1) (.own 1) ∧ e 8 = .sl b3 0 n (.own 1) ∧ e 7 = .sl b2 0 n (.own 1) ∧ e 3 = .ptr b 0 ∧ j ≤ n ∧ H' b = .rw [.int .i64 p, .int .i64 n, md] ∧ Ext H H' ∧ H' b2 = .rw (ints a) ∧ H' b3 = .rw (ints c) ∧
      H' b4 = .rw (ints (upto (mulIn p a c i) j R))) (fun j => n - j) 0 ?_ ?_
    · simp (disch := first | assumption | omega) only [↓RP, RQ, TY, loadT, reduceIte, Nat.reduceEqDiff, Nat.reduceAdd, e10, e9, e8, e7, e3, h4]
      exact ⟨by omega, hpb, hE, h2, h3, rfl⟩
    rintro j e H' ⟨e11, e10, e9, e8, e7, e3, hj, hpb, hE, h2, h3, h4⟩
    obtain ⟨s3, s4⟩ := upto_ok _ (mulIn_ok op a c i) ⟨s1, s2⟩ j
    generalize hS : upto (mulIn p a c i) j R = S at *
    by_cases hjt : (j : Int) < n
    · have t1 := r1 i
      have t2 := r2 j
      have t3 := s4 (i + j)
      have t4 := mul_bd (a := a.getD i 0) (b := c.getD j 0) (A := 256) (B := 256) (by omega) (by omega) (by omega) (by omega)
      have i1 : ((i : Int) + (j : Int)).toNat = i + j := by omega
      simp (disch := first | assumption | omega) only [↓RP, RQ, TY, loadT, reduceIte, Nat.reduceEqDiff, Nat.reduceAdd, e11, e10, e9, e8, e7, e3, hjt, hpb, h2, h3, h4, i1]
      refine ⟨j + 1, ?_, by dsimp only; omega⟩
      simp (disch := first | assumption | omega) only [↓RP, RQ, TY, loadT, reduceIte, Nat.reduceEqDiff, Nat.reduceAdd, e11, e10, e9, e8, e7, e3, hpb, h2, h3]
      refine ⟨by omega, hE.upd f4 _, ?_⟩
      rw [upto_succ, hS]
      rfl
    · simp (disch := first | assumption | omega) only [↓RP, RQ, TY, loadT, reduceIte, Nat.reduceEqDiff, Nat.reduceAdd, e11, e10, e9, e8, e7, e3, hjt, hpb]
      refine ⟨i + 1, ?_, by dsimp only; omega⟩
      simp (disch := first | assumption | omega) only [↓RP, RQ, TY, loadT, reduceIte, Nat.reduceEqDiff, Nat.reduceAdd, e11, e10, e9, e8, e7, e3]
      refine ⟨by omega, hpb, hE, h2, h3, ?_⟩
      rw [upto_succ, hR, h4, ← hS, show j = n by omega]
  · simp (disch := first | assumption | omega) only [↓RP, RQ, TY, loadT, reduceIte, Nat.reduceEqDiff, Nat.reduceAdd, e10, e9, e8, e7, e3, hlt, hpb]
    have hin : i = n := by omega
    subst hin
    have hRR : R = mulP p i a c := hR.symm
    refine sw_loop (σ := Nat) (fun k e H' => e 12 = .int .i64 (2 * i - 2 - k : Nat) ∧ e 9 = .sl b4 0 (2 * i - 1) (.own 1) ∧ e 3 = .ptr b 0 ∧ k ≤ i - 1 ∧ H' b = .rw [.int .i64 p, .int .i64 i, md] ∧ Ext H H' ∧
      H' b4 = .rw (ints (upto (fun k c' => upto (redIn p i mod (2 * i - 2 - k)) i c') k R))) (fun k => i - k) 0 ?_ ?_
    · simp (disch := first | assumption | omega) only [↓RP, RQ, TY, loadT, reduceIte, Nat.reduceEqDiff, Nat.reduceAdd, e9, e3, h4]
      refine ⟨?_, by omega, hpb, hE, rfl⟩
      congr 1
      omega
    rintro k e H' ⟨e12, e9, e3, hk, hpb, hE, h4⟩
    obtain ⟨s3, s4⟩ := upto_ok (L := 2 * i - 1) _ (fun k c' hc' => upto_ok _ (redIn_ok op (n := i) mod (2 * i - 2 - k)) hc' i) ⟨s1, s2⟩ k
    generalize hS : upto (fun k c' => upto (redIn p i mod (2 * i - 2 - k)) i c') k R = S at *
    generalize hI : 2 * i - 2 - k = I at *
    by_cases hkt : (i : Int) ≤ (I : Int)
    · simp (disch := first | assumption | omega) only [↓RP, RQ, TY, loadT, reduceIte, Nat.reduceEqDiff, Nat.reduceAdd, e12, e9, e3, hkt, hpb]
      refine sw_loop (σ := Nat) (fun j e H' => e 13 = .int .i64 j ∧ e 12 = .int .i64 I ∧ e 9 = .sl b4 0 (2 * i - 1) (.own 1) ∧ e 3 = .ptr b 0 ∧ j ≤ i ∧ H' b = .rw [.int .i64 p, .int .i64 i, md] ∧ Ext H H' ∧
        H' b4 = .rw (ints (upto (redIn p i mod I) j S))) (fun j => i - j) 0 ?_ ?_
      · simp (disch := first | assumption | omega) only [↓RP, RQ, TY, loadT, reduceIte, Nat.reduceEqDiff, Nat.reduceAdd, e12, e9, e3, h4]
        exact ⟨by omega, hpb, hE, rfl⟩
      rintro j e H' ⟨e13, e12, e9, e3, hj, hpb, hE, h4⟩
      obtain ⟨s5, s6⟩ := upto_ok _ (redIn_ok op (n := i) mod I) ⟨s3, s4⟩ j
      generalize hT : upto (redIn p i mod I) j S = T at *
      have hm' := hm.ext hE
      by_cases hjt : (j : Int) < i
      · have lm' := lm (by omega)
        have t1 := s6 I
        have t2 := rm j
        have t3 := s6 (I - i + j)
        have t4 := mul_bd (a := p - T.getD I 0) (b := mod.getD j 0) (A := 256) (B := 256) (by omega) (by omega) (by omega) (by omega)
        have i1 : ((I : Int) - (i : Int) + (j : Int)).toNat = I - i + j := by omega
        simp (disch := first | assumption | omega) only [↓RP, RQ, TY, loadT, reduceIte, Nat.reduceEqDiff, Nat.reduceAdd, e13, e12, e9, e3, hjt, hpb, h4, i1, hm'.ints]
        refine ⟨j + 1, ?_, by dsimp only; omega⟩
        simp (disch := first | assumption | omega) only [↓RP, RQ, TY, loadT, reduceIte, Nat.reduceEqDiff, Nat.reduceAdd, e13, e12, e9, e3, hpb]
        refine ⟨by omega, hE.upd f4 _, ?_⟩
        rw [upto_succ, hT]
        rfl
      · simp (disch := first | assumption | omega) only [↓RP, RQ, TY, loadT, reduceIte, Nat.reduceEqDiff, Nat.reduceAdd, e13, e12, e9, e3, hjt, hpb]
        refine ⟨k + 1, ?_, by dsimp only; omega⟩
        simp (disch := first | assumption | omega) only [↓RP, RQ, TY, loadT, reduceIte, Nat.reduceEqDiff, Nat.reduceAdd, e13, e12, e9, e3]
        refine ⟨?_, by omega, hpb, hE, ?_⟩
        · congr 1
          omega
        · rw [upto_succ, hS, hI, h4, ← hT, show j = i by omega]
    · simp (disch := first | assumption | omega) only [↓RP, RQ, TY, loadT, reduceIte, Nat.reduceEqDiff, Nat.reduceAdd, e12, e9, e3, hkt, hpb]
      have hSS : S = redP p i mod (mulP p i a c) := by rw [redP, ← hRR, ← hS, show k = i - 1 by omega]
      have t5 : Rng p (S.take i) := fun q => by
        by_cases hq : q < i
        · have := s4 q
          simpa [List.getD_eq_getElem?_getD, List.getElem?_take, hq] using this
        · rw [List.getD_eq_getElem?_getD, List.getElem?_eq_none (by simp; omega)]
          exact ⟨by simp, by simpa using op⟩
      have t6 : (S.take i).length = i := by simp; omega
      refine c_Value04 (ds := S.take i) o1 (by rw [Ints, ints, List.map_take]; exact Sl.take h4 (by rw [List.length_map]; omega)) t5 o6 (by omega) (by rw [t6]; exact o4) fun H5 hE5 => ?_
      simp (disch := first | assumption | omega) only [↓RP, RQ, TY, loadT, reduceIte, Nat.reduceEqDiff, Nat.reduceAdd]
      have := hQ H5 (hE.trans hE5)
      rwa [fmul, hn, ha, hb, ← hSS] at this
end Go.Proofs.YtbkpebmcagdgmaaGreat.AM
/-! The reference's field, seventh part: inverses. -/
namespace Go.Proofs.YtbkpebmcagdgmaaGreat.AM
open Go Go.RowKit
set_option linter.unusedVariables false
set_option linter.unusedSimpArgs false
set_option maxRecDepth 20000
/-- v is the least inverse of x, or 0 -/
def IsInv (p m : Int) (mod : List Int) (x v : Int) : Prop :=
  (1 ≤ v ∧ v < ordr p m ∧ fmul p m mod x v = 1) ∨ (v = 0 ∧ ∀ y, 1 ≤ y → y < ordr p m → fmul p m mod x y ≠ 1)
theorem c_Inv04 {p m x : Int} {md : AV} {mod : List Int} {H : AH} {Q : AV → AH → Prop} (hm : Ints H md mod) (rm : Rng p mod) (lm : m ≠ 1 → (mod.length : Int) = m) (hx : 0 ≤ x) (hx' : x < ordr p m)
    (hQ : ∀ v H', Ext H H' → IsInv p m mod x v → Q (.int .i64 v) H') : AC Tryz.prog 189 [.agg [.int .i64 p, .int .i64 m, md], .int .i64 x] H Q := by
  have ho : ordr p m ≠ 0 := by omega
  obtain ⟨o1, o2, o3, o4, o5⟩ := ordr_pos ho
  refine at189 (by simp) ?_
  simp (disch := first | assumption | omega) only [↓RP, RQ, TY, loadT, s189, reduceIte, Nat.reduceEqDiff, Nat.reduceAdd]
  refine kNew_intro fun b H1 hb hE1 hH1 => ?_
  simp (disch := first | assumption | omega) only [↓RP, RQ, TY, loadT, reduceIte, Nat.reduceEqDiff, Nat.reduceAdd, hH1]
  refine sw_loop (σ := Nat) (fun y e H' => e 5 = .int .i64 y ∧ e 1 = .int .i64 x ∧ e 2 = .ptr b 0 ∧ 1 ≤ y ∧ (y : Int) ≤ ordr p m ∧ H' b = .rw [.int .i64 p, .int .i64 m, md] ∧ Ext H H' ∧ ∀ z : Int, 1 ≤ z → z < y → fmul p m mod x z ≠ 1) (fun y => (ordr p m).toNat - y) 1 ?_ ?_
  · simp (disch := first | assumption | omega) only [↓RP, RQ, TY, loadT, reduceIte, Nat.reduceEqDiff, Nat.reduceAdd]
    exact ⟨rfl, by omega, by omega, hH1, hE1, fun z h1 h2 => by omega⟩
  rintro y e H' ⟨e5, e1, e2, hy, hy', hpb, hE, hz⟩
  simp (disch := first | assumption | omega) only [↓RP, RQ, TY, loadT, reduceIte, Nat.reduceEqDiff, Nat.reduceAdd, e5, e1, e2, hpb]
  refine c_Order fun H2 hE2 => ?_
  have hpb2 := hE2.rw hpb
  have hE12 := hE.trans hE2
  by_cases hlt : (y : Int) < ordr p m
  · simp (disch := first | assumption | omega) only [↓RP, RQ, TY, loadT, reduceIte, Nat.reduceEqDiff, Nat.reduceAdd, e5, e1, e2, hpb2, hlt]
    refine c_Mul04 (hm.ext hE12) rm lm hx hx' (by omega) hlt fun H3 hE3 => ?_
    have hpb3 := hE3.rw hpb2
    by_cases h1 : fmul p m mod x y = 1
    · simp (disch := first | assumption | omega) only [↓RP, RQ, TY, loadT, reduceIte, Nat.reduceEqDiff, Nat.reduceAdd, e5, h1]
      exact hQ _ _ (hE12.trans hE3) (.inl ⟨by omega, hlt, h1⟩)
    · simp (disch := first | assumption | omega) only [↓RP, RQ, TY, loadT, reduceIte, Nat.reduceEqDiff, Nat.reduceAdd, e5, h1]
      refine ⟨y + 1, ?_, by dsimp only; omega⟩
      simp (disch := first | assumption | omega) only [↓RP, RQ, TY, loadT, reduceIte, Nat.reduceEqDiff, Nat.reduceAdd, e5, e1, e2]
      refine ⟨by omega, by omega, hpb3, hE12.trans hE3, fun z h2 h3 => ?_⟩
      by_cases hzy : z = y
      · rw [hzy]; exact h1
      · exact hz z h2 (by omega)
  · simp (disch := first | assumption | omega) only [↓RP, RQ, TY, loadT, reduceIte, Nat.reduceEqDiff, Nat.reduceAdd, e5, e1, e2, hpb2, hlt]
    exact hQ _ _ hE12 (.inr ⟨rfl, fun z h2 h3 => hz z h2 (by omega)⟩)
end Go.Proofs.YtbkpebmcagdgmaaGreat.AM
/-! The reference's matrices, first part: rows, sums, comparisons. -/
namespace Go.Proofs.YtbkpebmcagdgmaaGreat.AM
open Go Go.RowKit
set_option linter.unusedVariables false
set_option linter.unusedSimpArgs false
set_option maxRecDepth 20000
open Classical in
noncomputable def finv (p m : Int) (mod : List Int) (x : Int) : Int := if h : ∃ v, 1 ≤ v ∧ v < ordr p m ∧ fmul p m mod x v = 1 then Classical.choose h else 0
/-- the operations of the field p, m, mod -/
noncomputable def fF (p m : Int) (mod : List Int) : FOps := ⟨ordr p m, fadd p m, fmul p m mod, fneg p m, finv p m mod⟩
/-- a field's description in the heap -/
structure FA (H : AH) (p m : Int) (md : AV) (mod : List Int) : Prop where
  hm : Ints H md mod
  rm : Rng p mod
  lm : m ≠ 1 → (mod.length : Int) = m
  ok : (fF p m mod).Ok
theorem FA.ext {H H' : AH} {p m : Int} {md : AV} {mod : List Int} (h : FA H p m md mod) (hE : Ext H H') : FA H' p m md mod := ⟨h.hm.ext hE, h.rm, h.lm, h.ok⟩
theorem FA.ho {H : AH} {p m : Int} {md : AV} {mod : List Int} (h : FA H p m md mod) : ordr p m ≠ 0 := fun q => by
  have : 2 ≤ ordr p m := h.ok.q2
  omega
theorem isInv_eq {p m x v : Int} {mod : List Int} (ok : (fF p m mod).Ok) (hx : (fF p m mod).El x) (h0 : x ≠ 0) (h : IsInv p m mod x v) : v = finv p m mod x := by
  letI := ok.fd
  have h1 : fmul p m mod x (finv p m mod x) = 1 := ok.mul_inv hx h0
  have e1 : (fF p m mod).El (finv p m mod x) := ok.inv_el hx
  have uni : ∀ w, (fF p m mod).El w → fmul p m mod x w = 1 → w = finv p m mod x := fun w hw h2 => by
    apply ok.k_inj hw e1
    have a1 : Fd.mul (ok.k x) (ok.k w) = Fd.u := by rw [← ok.k_mul hx hw, ← ok.k_one]; exact congrArg ok.k h2
    have a2 : Fd.mul (ok.k x) (ok.k (finv p m mod x)) = Fd.u := by rw [← ok.k_mul hx e1, ← ok.k_one]; exact congrArg ok.k h1
    rw [Fd.inv_of a1, Fd.inv_of a2]
  rcases h with h | h
  · exact uni v ⟨by omega, h.2.1⟩ h.2.2
  · exfalso
    refine h.2 (finv p m mod x) ?_ e1.2 h1
    have h2 := e1.1
    by_cases hz : finv p m mod x = 0
    · exfalso
      rw [hz] at h1
      have a1 : Fd.mul (ok.k x) Fd.z = Fd.u := by rw [← ok.k_zero, ← ok.k_mul hx ok.el0, ← ok.k_one]; exact congrArg ok.k h1
      rw [Fd.mul_z] at a1
      exact Fd.u_ne a1.symm
    · omega

/-- what the runner wants to know of a slice -/
theorem Sl.run {H : AH} {v : AV} {us : List AV} (h : Sl H v us) : (∀ {P : Program} {r : Rst} {e : Env} {H : AH} {K : Kt} {d : Option Nat} {t : Nat}, kLen P (some t) r e H K d v = kPut P r e H K d (.int .i64 us.length)) ∧
    (∀ {P : Program} {r : Rst} {e : Env} {H : AH} {K : Kt} {d : Option Nat} {k : IntKind} {j : Int}, 0 ≤ j → j < us.length → kIdx P (some 1) r e H K d v (.int k j) = kPut P r e H K d (.ptr (slB v) (slO v + j.toNat))) ∧
    (∀ {i : Nat}, i < us.length → slotCell (H (slB v)) (slO v + i) = some (us.getD i .junk)) := by
  refine ⟨?_, ?_, ?_⟩
  · intro P r e H2 K d t
    rcases h with ⟨rfl, rfl⟩ | ⟨b, o, c, rfl, -⟩ <;> simp [kLen, kPut]
  · intro P r e H2 K d k j h0 h1
    rcases h with ⟨rfl, rfl⟩ | ⟨b, o, c, rfl, -⟩
    · simp at h1; omega
    · simp [kIdx, kPut, h0, h1, slB, slO]
  · intro i hi
    rw [← u_cell, h.at hi]
theorem Sl.one {H : AH} {v : AV} {us : List AV} (h : Sl H v us) : v.one = true := by
  rcases h with ⟨rfl, rfl⟩ | ⟨b, o, c, rfl, -⟩ <;> rfl
/-- v is a slice of the rows xss; us are the row slices. -/
structure Rows (H : AH) (v : AV) (us : List AV) (xss : List (List Int)) : Prop where
  sl : Sl H v us
  len : us.length = xss.length
  row : ∀ i, i < xss.length → Ints H (us.getD i .junk) (rowAt xss i)
theorem Rows.ext {H H' : AH} {v : AV} {us : List AV} {xss : List (List Int)} (h : Rows H v us xss) (hE : Ext H H') : Rows H' v us xss := ⟨h.sl.ext hE, h.len, fun i hi => (h.row i hi).ext hE⟩
theorem Rows.run {H : AH} {v : AV} {us : List AV} {xss : List (List Int)} (h : Rows H v us xss) : (∀ {P : Program} {r : Rst} {e : Env} {H : AH} {K : Kt} {d : Option Nat} {t : Nat}, kLen P (some t) r e H K d v = kPut P r e H K d (.int .i64 xss.length)) ∧
    (∀ {P : Program} {r : Rst} {e : Env} {H : AH} {K : Kt} {d : Option Nat} {k : IntKind} {j : Int}, 0 ≤ j → j < xss.length → kIdx P (some 1) r e H K d v (.int k j) = kPut P r e H K d (.ptr (slB v) (slO v + j.toNat))) ∧
    (∀ {i : Nat}, i < xss.length → slotCell (H (slB v)) (slO v + i) = some (us.getD i .junk)) := by
  rw [← h.len]; exact h.sl.run

open Classical in
theorem c_SameInts {a b : AV} {xs ys : List Int} {H : AH} {Q : AV → AH → Prop} (ha : Ints H a xs) (hb : Ints H b ys) (hl : xs.length ≤ 9223372036854775807) (hl2 : ys.length ≤ 9223372036854775807)
    (hQ : Q (.bool (decide (xs = ys))) H) : AC Tryz.prog 32 [a, b] H Q := by
  refine at32 (by simp) ?_
  by_cases hlen : (xs.length : Int) = (ys.length : Int)
  rotate_left
  · simp (disch := first | assumption | omega) only [↓RP, RQ, TY, loadT, s32, reduceIte, Nat.reduceEqDiff, Nat.reduceAdd, ha.ints, hb.ints, hlen]
    rwa [decide_eq_false (fun q => hlen (by rw [q]))] at hQ
  simp (disch := first | assumption | omega) only [↓RP, RQ, TY, loadT, s32, reduceIte, Nat.reduceEqDiff, Nat.reduceAdd, ha.ints, hb.ints, hlen]
  refine sw_loop (σ := Nat) (fun i e H' => e 5 = .int .i64 i ∧ e 0 = a ∧ e 1 = b ∧ i ≤ xs.length ∧ H' = H ∧ ∀ j, j < i → xs.getD j 0 = ys.getD j 0) (fun i => xs.length - i) 0 ?_ ?_
  · simp (disch := first | assumption | omega) only [↓RP, RQ, TY, loadT, reduceIte, Nat.reduceEqDiff, Nat.reduceAdd]
    exact ⟨by omega, fun j hj => by omega⟩
  rintro i e H' ⟨e5, e0, e1, hi, rfl, hj⟩
  by_cases hlt : (i : Int) < xs.length
  · by_cases heq : xs.getD i 0 = ys.getD i 0
    · simp (disch := first | assumption | omega) only [↓RP, RQ, TY, loadT, reduceIte, Nat.reduceEqDiff, Nat.reduceAdd, e5, e0, e1, hlt, ha.ints, hb.ints, heq]
      refine ⟨i + 1, ?_, by dsimp only; omega⟩
      simp (disch := first | assumption | omega) only [↓RP, RQ, TY, loadT, reduceIte, Nat.reduceEqDiff, Nat.reduceAdd, e5, e0, e1]
      refine ⟨by omega, fun j h => ?_⟩
      by_cases hji : j = i
      · rw [hji]; exact heq
      · exact hj j (by omega)
    · simp (disch := first | assumption | omega) only [↓RP, RQ, TY, loadT, reduceIte, Nat.reduceEqDiff, Nat.reduceAdd, e5, e0, e1, hlt, ha.ints, hb.ints, heq]
      rwa [decide_eq_false (fun q => heq (by rw [q]))] at hQ
  · simp (disch := first | assumption | omega) only [↓RP, RQ, TY, loadT, reduceIte, Nat.reduceEqDiff, Nat.reduceAdd, e5, e0, e1, hlt, ha.ints, hb.ints]
    rwa [decide_eq_true] at hQ
    refine List.ext_getElem (by omega) fun j h1 h2 => ?_
    have := hj j (by omega)
    simpa [List.getD_eq_getElem?_getD, h1, h2] using this
open Classical in
theorem c_SameRows {a b : AV} {us ws : List AV} {xs ys : List (List Int)} {H : AH} {Q : AV → AH → Prop} (ha : Rows H a us xs) (hb : Rows H b ws ys) (hl : xs.length ≤ 9223372036854775807) (hl2 : ys.length ≤ 9223372036854775807)
    (h1 : ∀ i, i < xs.length → (rowAt xs i).length ≤ 9223372036854775807) (h2 : ∀ i, i < ys.length → (rowAt ys i).length ≤ 9223372036854775807)
    (hQ : Q (.bool (decide (xs = ys))) H) : AC Tryz.prog 46 [a, b] H Q := by
  refine at46 (by simp) ?_
  by_cases hlen : (xs.length : Int) = (ys.length : Int)
  rotate_left
  · simp (disch := first | assumption | omega) only [↓RP, RQ, TY, loadT, s46, reduceIte, Nat.reduceEqDiff, Nat.reduceAdd, ha.run, hb.run, hlen]
    rwa [decide_eq_false (fun q => hlen (by rw [q]))] at hQ
  simp (disch := first | assumption | omega) only [↓RP, RQ, TY, loadT, s46, reduceIte, Nat.reduceEqDiff, Nat.reduceAdd, ha.run, hb.run, hlen]
  refine sw_loop (σ := Nat) (fun i e H' => e 5 = .int .i64 i ∧ e 0 = a ∧ e 1 = b ∧ i ≤ xs.length ∧ H' = H ∧ ∀ j, j < i → rowAt xs j = rowAt ys j) (fun i => xs.length - i) 0 ?_ ?_
  · simp (disch := first | assumption | omega) only [↓RP, RQ, TY, loadT, reduceIte, Nat.reduceEqDiff, Nat.reduceAdd]
    exact ⟨by omega, fun j hj => by omega⟩
  rintro i e H' ⟨e5, e0, e1, hi, rfl, hj⟩
  by_cases hlt : (i : Int) < xs.length
  · simp (disch := first | assumption | omega) only [↓RP, RQ, TY, loadT, reduceIte, Nat.reduceEqDiff, Nat.reduceAdd, e5, e0, e1, hlt, ha.run, hb.run]
    refine c_SameInts (ha.row i (by omega)) (hb.row i (by omega)) (h1 i (by omega)) (h2 i (by omega)) ?_
    by_cases heq : rowAt xs i = rowAt ys i
    · simp (disch := first | assumption | omega) only [↓RP, RQ, TY, loadT, reduceIte, Nat.reduceEqDiff, Nat.reduceAdd, e5, e0, e1, heq, ha.run, hb.run]
      refine ⟨i + 1, ?_, by dsimp only; omega⟩
      simp (disch := first | assumption | omega) only [↓RP, RQ, TY, loadT, reduceIte, Nat.reduceEqDiff, Nat.reduceAdd, e5, e0, e1]
      refine ⟨by omega, fun j h => ?_⟩
      by_cases hji : j = i
      · rw [hji]; exact heq
      · exact hj j (by omega)
    · simp (disch := first | assumption | omega) only [↓RP, RQ, TY, loadT, reduceIte, Nat.reduceEqDiff, Nat.reduceAdd, heq, ha.run, hb.run]
      rwa [decide_eq_false (fun q => heq (by rw [q]))] at hQ
  · simp (disch := first | assumption | omega) only [↓RP, RQ, TY, loadT, reduceIte, Nat.reduceEqDiff, Nat.reduceAdd, e5, e0, e1, hlt, ha.run, hb.run]
    rwa [decide_eq_true] at hQ
    refine List.ext_getElem (by omega) fun j h1 h2 => ?_
    have := hj j (by omega)
    simpa [rowAt, List.getD_eq_getElem?_getD, h1, h2] using this
/-- all entries are elements -/
def AllEl (p m : Int) (xs : List Int) : Prop := ∀ i, i < xs.length → 0 ≤ xs.getD i 0 ∧ xs.getD i 0 < ordr p m
open Classical in
theorem c_Entries {p m : Int} {md v : AV} {xs : List Int} {H : AH} {Q : AV → AH → Prop} (hv : Ints H v xs) (hl : xs.length ≤ 9223372036854775807)
    (hQ : ∀ H', Ext H H' → Q (.int .i64 (if AllEl p m xs then 0 else 2)) H') : AC Tryz.prog 99 [.agg [.int .i64 p, .int .i64 m, md], v] H Q := by
  refine at99 (by simp) ?_
  simp (disch := first | assumption | omega) only [↓RP, RQ, TY, loadT, s99, reduceIte, Nat.reduceEqDiff, Nat.reduceAdd]
  refine kNew_intro fun b H1 hb hE hH1 => ?_
  simp (disch := first | assumption | omega) only [↓RP, RQ, TY, loadT, reduceIte, Nat.reduceEqDiff, Nat.reduceAdd]
  refine sw_loop (σ := Nat) (fun i e H' => e 5 = .int .i64 i ∧ e 1 = v ∧ e 2 = .ptr b 0 ∧ i ≤ xs.length ∧ Ext H H' ∧ H' b = .rw [.int .i64 p, .int .i64 m, md] ∧ ∀ j, j < i → 0 ≤ xs.getD j 0 ∧ xs.getD j 0 < ordr p m) (fun i => xs.length - i) 0 ?_ ?_
  · simp (disch := first | assumption | omega) only [↓RP, RQ, TY, loadT, reduceIte, Nat.reduceEqDiff, Nat.reduceAdd]
    exact ⟨by omega, hE, hH1, fun j hj => by omega⟩
  rintro i e H' ⟨e5, e1, e2, hi, hE', hb', hj⟩
  have hv' := hv.ext hE'
  by_cases hlt : (i : Int) < xs.length
  · simp (disch := first | assumption | omega) only [↓RP, RQ, TY, loadT, reduceIte, Nat.reduceEqDiff, Nat.reduceAdd, e5, e1, e2, hlt, hv'.ints, hb']
    refine c_Is04 fun H2 hE2 => ?_
    have hb2 := hE2.rw hb'
    have hv2 := hv'.ext hE2
    by_cases hc : 0 ≤ xs.getD i 0 ∧ xs.getD i 0 < ordr p m
    · simp (disch := first | assumption | omega) only [↓RP, RQ, TY, loadT, reduceIte, Nat.reduceEqDiff, Nat.reduceAdd, e5, e1, e2, hc, hv2.ints, hb2]
      refine ⟨i + 1, ?_, by dsimp only; omega⟩
      simp (disch := first | assumption | omega) only [↓RP, RQ, TY, loadT, reduceIte, Nat.reduceEqDiff, Nat.reduceAdd, e5, e1, e2]
      refine ⟨by omega, hE'.trans hE2, hb2, fun j h => ?_⟩
      by_cases hji : j = i
      · rw [hji]; exact hc
      · exact hj j (by omega)
    · simp (disch := first | assumption | omega) only [↓RP, RQ, TY, loadT, reduceIte, Nat.reduceEqDiff, Nat.reduceAdd, e5, e1, e2, hc, hv2.ints, hb2]
      have := hQ H2 (hE'.trans hE2)
      rwa [if_neg (fun q => hc (q i (by omega)))] at this
  · simp (disch := first | assumption | omega) only [↓RP, RQ, TY, loadT, reduceIte, Nat.reduceEqDiff, Nat.reduceAdd, e5, e1, e2, hlt, hv'.ints]
    have := hQ H' hE'
    rwa [if_pos (show AllEl p m xs from fun j hj' => hj j (by omega))] at this
end Go.Proofs.YtbkpebmcagdgmaaGreat.AM
/-! The reference's matrices, second part: scale, AddTo, Pick, Copy. -/
namespace Go.Proofs.YtbkpebmcagdgmaaGreat.AM
open Go Go.RowKit
set_option linter.unusedVariables false
set_option linter.unusedSimpArgs false
set_option maxRecDepth 20000
theorem rep_length {n : Nat} {x : Int} : (List.replicate n x).length = n := by simp
theorem ints_repl {n : Nat} {x : Int} : List.replicate n (AV.int .i64 x) = ints (List.replicate n x) := by simp [ints]
theorem c_scale {p m a : Int} {md v : AV} {mod xs : List Int} {H : AH} {Q : AV → AH → Prop} (hf : FA H p m md mod) (ha : (fF p m mod).El a) (hv : Ints H v xs) (hl : xs.length ≤ 1000) (he : ∀ i, (fF p m mod).El (xs.getD i 0))
    (hQ : ∀ b H', H b = .free → Ext H H' → H' b = .rw (ints (scaleL (fF p m mod) a xs)) → Q (.sl b 0 xs.length (.own 1)) H') :
    AC Tryz.prog 188 [.agg [.int .i64 p, .int .i64 m, md], .int .i64 a, v] H Q := by
  refine at188 (by simp) ?_
  simp (disch := first | assumption | omega) only [↓RP, RQ, TY, loadT, s188, reduceIte, Nat.reduceEqDiff, Nat.reduceAdd, hv.ints]
  refine kNew_intro fun b H1 hb hE hH1 => ?_
  have hv1 := hv.ext hE
  simp (disch := first | assumption | omega) only [↓RP, RQ, TY, loadT, reduceIte, Nat.reduceEqDiff, Nat.reduceAdd, hv1.ints]
  refine kNew_intro fun b2 H2 hb2 hE2 hH2 => ?_
  have hH12 := hE2.rw hH1
  have hE12 := hE.trans hE2
  have f2 := hE.free hb2
  have n1 : b ≠ b2 := fun q => by rw [← q, hH1] at hb2; cases hb2
  rw [ints_repl] at hH2
  have lT : (scaleL (fF p m mod) a xs).length = (List.replicate xs.length (0 : Int)).length := by rw [scaleL_length, rep_length]
  simp (disch := first | assumption | omega) only [↓RP, RQ, TY, loadT, reduceIte, Nat.reduceEqDiff, Nat.reduceAdd]
  refine sw_loop (σ := Nat) (fun i e H' => e 8 = .int .i64 i ∧ e 7 = .sl b2 0 xs.length (.own 1) ∧ e 2 = v ∧ e 1 = .int .i64 a ∧ e 3 = .ptr b 0 ∧ i ≤ xs.length ∧ Ext H H' ∧ H' b = .rw [.int .i64 p, .int .i64 m, md] ∧
    H' b2 = .rw (ints (mix (scaleL (fF p m mod) a xs) (List.replicate xs.length 0) i))) (fun i => xs.length - i) 0 ?_ ?_
  · simp (disch := first | assumption | omega) only [↓RP, RQ, TY, loadT, reduceIte, Nat.reduceEqDiff, Nat.reduceAdd, mix_zero]
    exact ⟨by omega, hE12, hH12, hH2⟩
  rintro i e H' ⟨e8, e7, e2, e1, e3, hi, hE', hb', h2⟩
  have lM := mix_length lT i
  rw [rep_length] at lM
  have hv' := hv.ext hE'
  by_cases hlt : (i : Int) < xs.length
  · simp (disch := first | assumption | omega) only [↓RP, RQ, TY, loadT, reduceIte, Nat.reduceEqDiff, Nat.reduceAdd, e8, e7, e2, e1, e3, hlt, hb', hv'.ints]
    refine c_Mul04 (hf.hm.ext hE') hf.rm hf.lm ha.1 ha.2 (he i).1 (he i).2 fun H3 hE3 => ?_
    have hb3 := hE3.rw hb'
    have h3 := hE3.rw h2
    have hv3 := hv'.ext hE3
    simp (disch := first | assumption | omega) only [↓RP, RQ, TY, loadT, reduceIte, Nat.reduceEqDiff, Nat.reduceAdd, e8, e7, hb3, h3, hv3.ints]
    refine ⟨i + 1, ?_, by dsimp only; omega⟩
    simp (disch := first | assumption | omega) only [↓RP, RQ, TY, loadT, reduceIte, Nat.reduceEqDiff, Nat.reduceAdd, e8, e7, e2, e1, e3]
    refine ⟨by omega, (hE'.trans hE3).upd f2 _, hb3, ?_⟩
    rw [← mix_set lT (show i < _ by rw [rep_length]; omega), scaleL, tabN_getD _ (show i < xs.length by omega)]
    rfl
  · simp (disch := first | assumption | omega) only [↓RP, RQ, TY, loadT, reduceIte, Nat.reduceEqDiff, Nat.reduceAdd, e8, e7, e2, e1, e3, hlt, hv'.ints]
    rw [mix_full lT (show _ ≤ i by rw [rep_length]; omega)] at h2
    exact hQ b2 H' f2 hE' h2
theorem c_AddTo {p m a : Int} {md v w : AV} {mod xs ys : List Int} {H : AH} {Q : AV → AH → Prop} (hf : FA H p m md mod) (ha : (fF p m mod).El a) (hv : Ints H v xs) (hw : Ints H w ys) (hl : xs.length ≤ 1000) (hl2 : ys.length = xs.length)
    (he : ∀ i, (fF p m mod).El (xs.getD i 0)) (he2 : ∀ i, (fF p m mod).El (ys.getD i 0))
    (hQ : ∀ b H', H b = .free → Ext H H' → H' b = .rw (ints (addToL (fF p m mod) xs a ys)) → Q (.sl b 0 xs.length (.own 1)) H') :
    AC Tryz.prog 113 [.agg [.int .i64 p, .int .i64 m, md], v, .int .i64 a, w] H Q := by
  refine at113 (by simp) ?_
  simp (disch := first | assumption | omega) only [↓RP, RQ, TY, loadT, s113, reduceIte, Nat.reduceEqDiff, Nat.reduceAdd, hv.ints]
  refine kNew_intro fun b H1 hb hE hH1 => ?_
  have hv1 := hv.ext hE
  simp (disch := first | assumption | omega) only [↓RP, RQ, TY, loadT, reduceIte, Nat.reduceEqDiff, Nat.reduceAdd, hv1.ints]
  refine kNew_intro fun b2 H2 hb2 hE2 hH2 => ?_
  have hH12 := hE2.rw hH1
  have hE12 := hE.trans hE2
  have f2 := hE.free hb2
  have n1 : b ≠ b2 := fun q => by rw [← q, hH1] at hb2; cases hb2
  rw [ints_repl] at hH2
  have lT : (addToL (fF p m mod) xs a ys).length = (List.replicate xs.length (0 : Int)).length := by rw [addToL_length, rep_length]
  simp (disch := first | assumption | omega) only [↓RP, RQ, TY, loadT, reduceIte, Nat.reduceEqDiff, Nat.reduceAdd]
  refine sw_loop (σ := Nat) (fun i e H' => e 10 = .int .i64 i ∧ e 9 = .sl b2 0 xs.length (.own 1) ∧ e 1 = v ∧ e 3 = w ∧ e 2 = .int .i64 a ∧ e 4 = .ptr b 0 ∧ i ≤ xs.length ∧ Ext H H' ∧ H' b = .rw [.int .i64 p, .int .i64 m, md] ∧
    H' b2 = .rw (ints (mix (addToL (fF p m mod) xs a ys) (List.replicate xs.length 0) i))) (fun i => xs.length - i) 0 ?_ ?_
  · simp (disch := first | assumption | omega) only [↓RP, RQ, TY, loadT, reduceIte, Nat.reduceEqDiff, Nat.reduceAdd, mix_zero]
    exact ⟨by omega, hE12, hH12, hH2⟩
  rintro i e H' ⟨e10, e9, e1, e3, e2, e4, hi, hE', hb', h2⟩
  have lM := mix_length lT i
  rw [rep_length] at lM
  have hv' := hv.ext hE'
  have hw' := hw.ext hE'
  by_cases hlt : (i : Int) < xs.length
  · have l2 : i < ys.length := by omega
    have lM' : i < (mix (addToL (fF p m mod) xs a ys) (List.replicate xs.length 0) i).length := by omega
    have hE2' := hE'.upd f2 (.rw (ints ((mix (addToL (fF p m mod) xs a ys) (List.replicate xs.length 0) i).set i (xs.getD i 0))))
    have hv2 := hv.ext hE2'
    have hw2 := hw.ext hE2'
    simp (disch := first | assumption | omega) only [↓RP, RQ, TY, loadT, reduceIte, Nat.reduceEqDiff, Nat.reduceAdd, e10, e9, e1, e3, e2, e4, hlt, hb', h2, hv'.ints]
    generalize hH2' : AH.upd H' b2 (.rw (ints ((mix (addToL (fF p m mod) xs a ys) (List.replicate xs.length 0) i).set i (xs.getD i 0)))) = H2' at *
    have hb2' : H2' b = .rw [.int .i64 p, .int .i64 m, md] := by rw [← hH2']; simp only [AH.upd, n1, if_false]; exact hb'
    have h22' : H2' b2 = .rw (ints ((mix (addToL (fF p m mod) xs a ys) (List.replicate xs.length 0) i).set i (xs.getD i 0))) := by rw [← hH2']; simp [AH.upd]
    by_cases hz : ys.getD i 0 = 0
    · simp (disch := first | assumption | omega) only [↓RP, RQ, TY, loadT, reduceIte, Nat.reduceEqDiff, Nat.reduceAdd, e10, e9, e1, e3, e2, e4, hlt, hb2', hw2.ints, hz]
      refine ⟨i + 1, ?_, by dsimp only; omega⟩
      simp (disch := first | assumption | omega) only [↓RP, RQ, TY, loadT, reduceIte, Nat.reduceEqDiff, Nat.reduceAdd, e10, e9, e1, e3, e2, e4, hb2', h22']
      refine ⟨by omega, hE2', ?_⟩
      rw [← mix_set lT (show i < _ by rw [rep_length]; omega), addToL, tabN_getD _ (show i < xs.length by omega), if_neg (by simpa using hz)]
    · simp (disch := first | assumption | omega) only [↓RP, RQ, TY, loadT, reduceIte, Nat.reduceEqDiff, Nat.reduceAdd, e10, e9, e1, e3, e2, e4, hlt, hb2', hw2.ints, hv2.ints, hz]
      refine c_Mul04 (hf.hm.ext hE2') hf.rm hf.lm ha.1 ha.2 (he2 i).1 (he2 i).2 fun H3 hE3 => ?_
      have hb3 := hE3.rw hb2'
      have h3 := hE3.rw h22'
      have hv3 := hv2.ext hE3
      have hw3 := hw2.ext hE3
      have e4m : (fF p m mod).El (fmul p m mod a (ys.getD i 0)) := hf.ok.mul_el ha (he2 i)
      simp (disch := first | assumption | omega) only [↓RP, RQ, TY, loadT, reduceIte, Nat.reduceEqDiff, Nat.reduceAdd, e10, e9, e1, e3, e2, e4, hb3, h3, hv3.ints, hw3.ints]
      refine c_Add04 (he i).1 (he i).2 e4m.1 e4m.2 fun H4 hE4 => ?_
      have hb4 := hE4.rw hb3
      have h4 := hE4.rw h3
      have hv4 := hv3.ext hE4
      have hw4 := hw3.ext hE4
      have lS : i < ((mix (addToL (fF p m mod) xs a ys) (List.replicate xs.length 0) i).set i (xs.getD i 0)).length := by rw [List.length_set]; omega
      simp (disch := first | assumption | omega) only [↓RP, RQ, TY, loadT, reduceIte, Nat.reduceEqDiff, Nat.reduceAdd, e10, e9, e1, e3, e2, e4, hb4, h4, hv4.ints, hw4.ints]
      refine ⟨i + 1, ?_, by dsimp only; omega⟩
      simp (disch := first | assumption | omega) only [↓RP, RQ, TY, loadT, reduceIte, Nat.reduceEqDiff, Nat.reduceAdd, e10, e9, e1, e3, e2, e4, hb4]
      refine ⟨by omega, ((hE2'.trans hE3).trans hE4).upd f2 _, ?_⟩
      rw [List.set_set, ← mix_set lT (show i < _ by rw [rep_length]; omega), addToL, tabN_getD _ (show i < xs.length by omega), if_pos hz]
      rfl
  · simp (disch := first | assumption | omega) only [↓RP, RQ, TY, loadT, reduceIte, Nat.reduceEqDiff, Nat.reduceAdd, e10, e9, e1, e3, e2, e4, hlt, hv'.ints]
    rw [mix_full lT (show _ ≤ i by rw [rep_length]; omega)] at h2
    exact hQ b2 H' f2 hE' h2
end Go.Proofs.YtbkpebmcagdgmaaGreat.AM
/-! The reference's matrices, third part: lists of rows in a block of the call's own; Pick, Copy. -/
namespace Go.Proofs.YtbkpebmcagdgmaaGreat.AM
open Go Go.RowKit
set_option linter.unusedVariables false
set_option linter.unusedSimpArgs false
set_option maxRecDepth 20000
/-- a slice, or nil -/
def AV.isSl : AV → Bool
  | .nils | .sl .. => true
  | _ => false
theorem Sl.isSl {H : AH} {v : AV} {us : List AV} (h : Sl H v us) : v.isSl = true := by
  rcases h with ⟨rfl, rfl⟩ | ⟨b, o, c, rfl, -⟩ <;> rfl
theorem isSl_one {v : AV} (h : v.isSl = true) : v.one = true := by
  cases v <;> first | rfl | (simp [AV.isSl] at h)
theorem ints_keep {H H' : AH} {w : AV} {xs : List Int} (h : Ints H w xs) (hk : ∀ c o n, H.cell c o = some (.int .i64 n) → H' c = H c) : Ints H' w xs := by
  rcases h with h | ⟨b, o, c, h1, h2⟩
  · exact .inl h
  · refine .inr ⟨b, o, c, h1, fun i u hu => ?_⟩
    have h3 := h2 i u hu
    have : ∃ n, u = .int .i64 n := by
      have h4 := List.mem_of_getElem? hu
      simp only [ints, List.mem_map] at h4
      obtain ⟨a, -, rfl⟩ := h4
      exact ⟨a, rfl⟩
    obtain ⟨n, rfl⟩ := this
    simp only [AH.cell, hk b _ n h3]
    exact h3
/-- a block of slices does not hold ints -/
theorem cell_ne {H : AH} {b : Nat} {us : List AV} (hb : H b = .rw us) (hu : ∀ u, u ∈ us → u.isSl = true) {c o : Nat} {n : Int} (h : H.cell c o = some (.int .i64 n)) : c ≠ b := by
  intro q
  rw [q, AH.cell, hb] at h
  dsimp only at h
  have h1 := hu _ (List.mem_of_getElem? h)
  cases h1
theorem ints_upd {H : AH} {b : Nat} {us : List AV} (s : Slot) (hb : H b = .rw us) (hu : ∀ u, u ∈ us → u.isSl = true) {w : AV} {xs : List Int} (h : Ints H w xs) : Ints (H.upd b s) w xs :=
  ints_keep h fun c o n hc => by simp [AH.upd, cell_ne hb hu hc]
/-- the slices us are the rows l -/
structure RowsB (H : AH) (us : List AV) (l : List (List Int)) : Prop where
  len : us.length = l.length
  sl : ∀ u, u ∈ us → u.isSl = true
  row : ∀ i, i < l.length → Ints H (us.getD i .junk) (rowAt l i)
theorem RowsB.ext {H H' : AH} {us : List AV} {l : List (List Int)} (h : RowsB H us l) (hE : Ext H H') : RowsB H' us l := ⟨h.len, h.sl, fun i hi => (h.row i hi).ext hE⟩
theorem RowsB.keep {H H' : AH} {us : List AV} {l : List (List Int)} (h : RowsB H us l) (hk : ∀ w xs, Ints H w xs → Ints H' w xs) : RowsB H' us l := ⟨h.len, h.sl, fun i hi => hk _ _ (h.row i hi)⟩
theorem RowsB.set {H : AH} {us : List AV} {l : List (List Int)} {u : AV} {xs : List Int} (h : RowsB H us l) (hu : Ints H u xs) (i : Nat) : RowsB H (us.set i u) (l.set i xs) := by
  refine ⟨by simp [h.len], fun w hw => ?_, fun j hj => ?_⟩
  · rcases List.mem_or_eq_of_mem_set hw with hw | rfl
    · exact h.sl w hw
    · exact hu.isSl
  · rw [List.length_set] at hj
    rw [rowAt, getD_setN, getD_setN, h.len]
    split
    · exact hu
    · exact h.row j hj
theorem RowsB.push {H : AH} {us : List AV} {l : List (List Int)} {u : AV} {xs : List Int} (h : RowsB H us l) (hu : Ints H u xs) : RowsB H (us ++ [u]) (l ++ [xs]) := by
  refine ⟨by simp [h.len], fun w hw => ?_, fun j hj => ?_⟩
  · rcases List.mem_append.mp hw with hw | hw
    · exact h.sl w hw
    · rw [List.mem_singleton.mp hw]; exact hu.isSl
  · rw [List.length_append, List.length_singleton] at hj
    by_cases hjl : j < l.length
    · have := h.row j hjl
      simpa [rowAt, List.getD_eq_getElem?_getD, List.getElem?_append_left hjl, List.getElem?_append_left (show j < us.length by rw [h.len]; exact hjl)] using this
    · have e : j = l.length := by omega
      subst e
      simpa [rowAt, List.getD_eq_getElem?_getD, ← h.len] using hu
theorem RowsB.nil {H : AH} : RowsB H [] [] := ⟨rfl, fun u hu => by simp at hu, fun i hi => by simp at hi⟩
theorem RowsB.rows {H : AH} {v : AV} {us : List AV} {l : List (List Int)} (h : RowsB H us l) (hs : Sl H v us) : Rows H v us l := ⟨hs, h.len, h.row⟩

section
variable {P : Program} {K : Kt} {Q : APost} {e : Env} {H H0 : AH} {d : Option Nat} {r : Rst} {k k' : IntKind} {j : Int} {ds : List Nat} {t i : Nat} {x y z : AV} {us zs : List AV}
theorem u_buildS1V {v : AV} (h : v.isSl = true) : kBuildS P 1 r e H K d (some 1) (some [z]) [(0, v)] = kNew P (fun b => .sl b 0 1 (.own 1)) r e H K d [v] := u_buildS1 (isSl_one h)
theorem u_storeV {blk o : Nat} (hy : y.isSl = true) : kStore P ds (some 1) r e H K d (.ptr blk o) y = kSt P ds blk o r e H K d y (H blk) := st_one (isSl_one hy)
theorem u_stGV {blk o : Nat} {xs : List AV} (hy : y.isSl = true) (h : o < xs.length) : kSt P ds blk o r e H K d y (.rw xs) = kRet P ds r e (H.upd blk (.rw (xs.set o y))) K d (.tup []) := st_put (isSl_one hy) h
/-- append of slices to what is the call's own: slices of ints stay. -/
theorem kApp_rows {by_ : Nat} (hx : Own H0 H x zs) (hE : Ext H0 H) (hy : Sl H y us) (hz : ∀ u, u ∈ zs → u.isSl = true) (hu : ∀ u, u ∈ us → u.isSl = true) (hl : (zs.length + us.length) * by_ ≤ 140737488355328) (hl' : zs.length + us.length ≤ 140737488355328)
    (h : ∀ v H', Ext H0 H' → Own H0 H' v (zs ++ us) → (∀ w xs, Ints H w xs → Ints H' w xs) → (∀ c ws, H c = .rw ws → (∃ u, u ∈ ws ∧ u.isSl = false) → H' c = .rw ws) → kRet P ds r e H' K d v) : kApp P ds (some 1) (some by_) (some [z]) r e H K d x y := by
  obtain ⟨hc, hn⟩ := hy.cells
  refine ⟨1, by_, [z], rfl, rfl, rfl, rfl, us, hc, fun u hh => isSl_one (hu u hh), ?_⟩
  rcases hx with ⟨rfl, rfl⟩ | ⟨b, rfl, hb, h0⟩
  · rw [hn]
    refine ⟨hl, hl', by decide, fun hz => ?_, fun hz b hb => ?_⟩
    · have : us = [] := List.length_eq_zero_iff.mp hz
      subst this
      exact h _ _ hE Own.nils (fun w xs hw => hw) fun c ws hc _ => hc
    · refine h _ _ (hE.upd (hE.free hb) _) (Own.mk (by simp [AH.upd]) (hE.free hb) rfl) (fun w xs hw => hw.ext (Ext.new hb _)) fun c ws hc _ => ?_
      have hne : c ≠ b := fun q => by rw [q, hb] at hc; cases hc
      simp [AH.upd, hne, hc]
  · rw [hn]
    refine ⟨hl, hl', by decide, rfl, zs, hb, rfl, by simp, fun b' hb' => ?_⟩
    have h0' : H0 b' = .free := hb'.elim (fun q => by rw [q]; exact h0) fun q => hE.free q
    refine h _ _ ((hE.upd h0 _).upd h0' _) (Own.mk (by simp [AH.upd]) h0' (by simp)) (fun w xs hw => ints_keep hw fun c o n hc => ?_) fun c ws hc ⟨u, hu1, hu2⟩ => ?_
    · have h1 : c ≠ b := cell_ne hb hz hc
      have h2 : c ≠ b' := fun q => hb'.elim (fun q' => h1 (q.trans q')) fun q' => by rw [q, AH.cell, q'] at hc; cases hc
      simp [AH.upd, h1, h2]
    · have h1 : c ≠ b := fun q => by
        rw [q, hb] at hc
        cases hc
        rw [hz u hu1] at hu2
        cases hu2
      have h2 : c ≠ b' := fun q => hb'.elim (fun q' => h1 (q.trans q')) fun q' => by rw [q, q'] at hc; cases hc
      simp [AH.upd, h1, h2, hc]
end

/-- the entries of v at the positions set -/
def pickL (v set : List Int) : List Int := tabN set.length fun i => v.getD (set.getD i 0).toNat 0
theorem c_Pick {v s : AV} {xs set : List Int} {H : AH} {Q : AV → AH → Prop} (hv : Ints H v xs) (hs : Ints H s set) (hl : set.length ≤ 1000) (hr : ∀ i, i < set.length → 0 ≤ set.getD i 0 ∧ set.getD i 0 < xs.length)
    (hQ : ∀ b H', H b = .free → Ext H H' → H' b = .rw (ints (pickL xs set)) → Q (.sl b 0 set.length (.own 1)) H') : AC Tryz.prog 23 [v, s] H Q := by
  refine at23 (by simp) ?_
  simp (disch := first | assumption | omega) only [↓RP, RQ, TY, loadT, s23, reduceIte, Nat.reduceEqDiff, Nat.reduceAdd, hs.ints]
  refine kNew_intro fun b H1 hb hE hH1 => ?_
  rw [ints_repl] at hH1
  have lT : (pickL xs set).length = (List.replicate set.length (0 : Int)).length := by rw [pickL, tabN_length, rep_length]
  simp (disch := first | assumption | omega) only [↓RP, RQ, TY, loadT, reduceIte, Nat.reduceEqDiff, Nat.reduceAdd]
  refine sw_loop (σ := Nat) (fun i e H' => e 6 = .int .i64 i ∧ e 5 = .sl b 0 set.length (.own 1) ∧ e 0 = v ∧ e 1 = s ∧ i ≤ set.length ∧ Ext H H' ∧ H' b = .rw (ints (mix (pickL xs set) (List.replicate set.length 0) i))) (fun i => set.length - i) 0 ?_ ?_
  · simp (disch := first | assumption | omega) only [↓RP, RQ, TY, loadT, reduceIte, Nat.reduceEqDiff, Nat.reduceAdd, mix_zero]
    exact ⟨by omega, hE, hH1⟩
  rintro i e H' ⟨e6, e5, e0, e1, hi, hE', hb'⟩
  have lM := mix_length lT i
  rw [rep_length] at lM
  have hv' := hv.ext hE'
  have hs' := hs.ext hE'
  by_cases hlt : (i : Int) < set.length
  · have h1 := hr i (by omega)
    simp (disch := first | assumption | omega) only [↓RP, RQ, TY, loadT, reduceIte, Nat.reduceEqDiff, Nat.reduceAdd, e6, e5, e0, e1, hlt, hb', hv'.ints, hs'.ints]
    refine ⟨i + 1, ?_, by dsimp only; omega⟩
    simp (disch := first | assumption | omega) only [↓RP, RQ, TY, loadT, reduceIte, Nat.reduceEqDiff, Nat.reduceAdd, e6, e5, e0, e1]
    refine ⟨by omega, hE'.upd hb _, ?_⟩
    rw [← mix_set lT (show i < _ by rw [rep_length]; omega), pickL, tabN_getD _ (show i < set.length by omega)]
  · simp (disch := first | assumption | omega) only [↓RP, RQ, TY, loadT, reduceIte, Nat.reduceEqDiff, Nat.reduceAdd, e6, e5, e0, e1, hlt, hs'.ints]
    rw [mix_full lT (show _ ≤ i by rw [rep_length]; omega)] at hb'
    exact hQ b H' hb hE' hb'
theorem take_push {α : Type} {l : List α} {i : Nat} (d : α) (h : i < l.length) : l.take i ++ [l.getD i d] = l.take (i + 1) := by
  rw [List.take_succ_eq_append_getElem h]
  simp [List.getD_eq_getElem?_getD, h]
/-- rows of the call's own -/
def OwnR (H0 H : AH) (us : List AV) (l : List (List Int)) : Prop := ∀ i, i < l.length → 0 < (rowAt l i).length → Own H0 H (us.getD i .junk) (ints (rowAt l i))
theorem OwnR.ext {H0 H H' : AH} {us : List AV} {l : List (List Int)} (h : OwnR H0 H us l) (hE : Ext H H') : OwnR H0 H' us l := fun i hi hn => (h i hi hn).ext hE
theorem OwnR.old {H0 H1 H : AH} {us : List AV} {l : List (List Int)} (h : OwnR H1 H us l) (hE : Ext H0 H1) : OwnR H0 H us l := fun i hi hn => (h i hi hn).old hE
theorem Own.ints_keep {H0 H H' : AH} {v : AV} {xs : List Int} (h : Own H0 H v (ints xs)) (hn : 0 < xs.length) (hk : ∀ c ws, H c = .rw ws → (∃ u, u ∈ ws ∧ u.isSl = false) → H' c = .rw ws) : Own H0 H' v (ints xs) := by
  rcases h with h | ⟨b, rfl, h1, h2⟩
  · exact .inl h
  · refine .inr ⟨b, rfl, hk b _ h1 ?_, h2⟩
    cases xs with
    | nil => simp at hn
    | cons x xs => exact ⟨.int .i64 x, by simp [ints], rfl⟩
theorem OwnR.keep {H0 H H' : AH} {us : List AV} {l : List (List Int)} (h : OwnR H0 H us l) (hk : ∀ c ws, H c = .rw ws → (∃ u, u ∈ ws ∧ u.isSl = false) → H' c = .rw ws) : OwnR H0 H' us l :=
  fun i hi hn => (h i hi hn).ints_keep hn hk
theorem OwnR.push {H0 H : AH} {us : List AV} {l : List (List Int)} {u : AV} {xs : List Int} (h : OwnR H0 H us l) (hl : us.length = l.length) (hu : 0 < xs.length → Own H0 H u (ints xs)) : OwnR H0 H (us ++ [u]) (l ++ [xs]) := by
  intro j hj hn
  rw [List.length_append, List.length_singleton] at hj
  by_cases hjl : j < l.length
  · have e1 : rowAt (l ++ [xs]) j = rowAt l j := by simp [rowAt, List.getD_eq_getElem?_getD, List.getElem?_append_left hjl]
    rw [e1] at hn ⊢
    have := h j hjl hn
    simpa [List.getD_eq_getElem?_getD, List.getElem?_append_left (show j < us.length by rw [hl]; exact hjl)] using this
  · have e : j = l.length := by omega
    subst e
    have e1 : rowAt (l ++ [xs]) l.length = xs := by simp [rowAt, List.getD_eq_getElem?_getD]
    rw [e1] at hn ⊢
    simpa [List.getD_eq_getElem?_getD, ← hl] using hu hn
theorem OwnR.set {H0 H : AH} {us : List AV} {l : List (List Int)} {u : AV} {xs : List Int} (h : OwnR H0 H us l) (hl : us.length = l.length) (hu : 0 < xs.length → Own H0 H u (ints xs)) (i : Nat) : OwnR H0 H (us.set i u) (l.set i xs) := by
  intro j hj hn
  rw [List.length_set] at hj
  rw [rowAt, getD_setN] at hn ⊢
  rw [getD_setN, hl]
  split
  · rename_i q
    rw [if_pos q] at hn
    exact hu hn
  · rename_i q
    rw [if_neg q] at hn
    exact h j hj hn
theorem c_Copy {v : AV} {us : List AV} {rows : List (List Int)} {H : AH} {Q : AV → AH → Prop} (hv : Rows H v us rows) (hl : rows.length ≤ 1000) (hr : ∀ i, i < rows.length → (rowAt rows i).length ≤ 1000)
    (hQ : ∀ w ws H', Ext H H' → Own H H' w ws → RowsB H' ws rows → OwnR H H' ws rows → Q w H') : AC Tryz.prog 187 [v] H Q := by
  refine at187 (by simp) ?_
  simp (disch := first | assumption | omega) only [↓RP, RQ, TY, loadT, s187, reduceIte, Nat.reduceEqDiff, Nat.reduceAdd]
  refine sw_loop (σ := Nat × AV × List AV) (fun s e H' => e 4 = .int .i64 s.1 ∧ e 3 = s.2.1 ∧ e 0 = v ∧ s.1 ≤ rows.length ∧ Ext H H' ∧ Own H H' s.2.1 s.2.2 ∧ RowsB H' s.2.2 (rows.take s.1) ∧ OwnR H H' s.2.2 (rows.take s.1)) (fun s => rows.length - s.1) (0, .nils, []) ?_ ?_
  · simp (disch := first | assumption | omega) only [↓RP, RQ, TY, loadT, reduceIte, Nat.reduceEqDiff, Nat.reduceAdd]
    exact ⟨by omega, Ext.refl H, Own.nils, RowsB.nil, fun i hi => by simp at hi⟩
  rintro ⟨i, w, ws⟩ e H' ⟨e4, e3, e0, hi, hE, ho, hB, hO⟩
  dsimp only at *
  have hv' := hv.ext hE
  by_cases hlt : (i : Int) < rows.length
  · simp (disch := first | assumption | omega) only [↓RP, RQ, TY, loadT, reduceIte, Nat.reduceEqDiff, Nat.reduceAdd, e4, e3, e0, hlt, hv'.run]
    refine kNew_intro fun b1 H1 hb1 hE1 hH1 => ?_
    have hv1 := hv'.ext hE1
    simp (disch := first | assumption | omega) only [↓RP, RQ, TY, loadT, reduceIte, Nat.reduceEqDiff, Nat.reduceAdd, e4, e3, e0, hv1.run]
    have hr1 := (hv1.row i (by omega))
    have hrl := hr i (by omega)
    refine kApp_own (H0 := H') (zs := []) (us := ints (rowAt rows i)) (Own.mk hH1 hb1 rfl) hE1 hr1 ints_ones (by simp [ints_length]; omega) (by simp [ints_length]; omega) fun v2 H2 hE2 ho2 keep2 => ?_
    simp (disch := first | assumption | omega) only [↓RP, RQ, TY, loadT, reduceIte, Nat.reduceEqDiff, Nat.reduceAdd, e4, e3, e0]
    rw [List.nil_append] at ho2
    have hs2 : v2.isSl = true := ho2.sl.isSl
    simp (disch := first | assumption | omega) only [↓RP, RQ, TY, loadT, reduceIte, Nat.reduceEqDiff, Nat.reduceAdd, u_buildS1V, hs2]
    refine kNew_intro fun b3 H3 hb3 hE3 hH3 => ?_
    simp (disch := first | assumption | omega) only [↓RP, RQ, TY, loadT, reduceIte, Nat.reduceEqDiff, Nat.reduceAdd]
    have hE03 := (hE.trans hE2).trans hE3
    have hB3 := (hB.ext hE2).ext hE3
    refine kApp_rows (H0 := H) ((ho.ext hE2).ext hE3) hE03 (Sl.own hH3 rfl) hB.sl (fun u hu => by rw [List.mem_singleton.mp hu]; exact hs2) (by have := hB.len; simp at this ⊢; omega) (by have := hB.len; simp at this ⊢; omega) fun v4 H4 hE4 ho4 keep4 keep5 => ?_
    simp (disch := first | assumption | omega) only [↓RP, RQ, TY, loadT, reduceIte, Nat.reduceEqDiff, Nat.reduceAdd, e4, e3, e0]
    refine ⟨(i + 1, v4, ws ++ [v2]), ?_, by dsimp only; omega⟩
    simp (disch := first | assumption | omega) only [↓RP, RQ, TY, loadT, reduceIte, Nat.reduceEqDiff, Nat.reduceAdd, e4, e3, e0]
    refine ⟨by omega, hE4, ho4, ?_, ?_⟩
    · rw [← take_push [] (show i < rows.length by omega)]
      exact (hB3.keep keep4).push (keep4 _ _ ((ho2.ext hE3).sl))
    · rw [← take_push [] (show i < rows.length by omega)]
      refine (((hO.ext hE2).ext hE3).keep keep5).push (hB.len) fun hn => ?_
      exact ((ho2.old hE).ext hE3).ints_keep hn keep5
  · simp (disch := first | assumption | omega) only [↓RP, RQ, TY, loadT, reduceIte, Nat.reduceEqDiff, Nat.reduceAdd, e4, e3, e0, hlt, hv'.run]
    rw [List.take_of_length_le (by omega)] at hB hO
    exact hQ _ _ _ hE ho hB hO
end Go.Proofs.YtbkpebmcagdgmaaGreat.AM
/-! The reference's matrices, fourth part: Eliminate and Canon. -/
namespace Go.Proofs.YtbkpebmcagdgmaaGreat.AM
open Go Go.RowKit
set_option linter.unusedVariables false
set_option linter.unusedSimpArgs false
set_option maxRecDepth 20000
def natsI (l : List Nat) : List Int := l.map fun (n : Nat) => (n : Int)
theorem natsI_length (l : List Nat) : (natsI l).length = l.length := by simp [natsI]
theorem elim_succ (F : FOps) (rows : List (List Int)) (c : Nat) : elim F rows (c + 1) = elimStep F c (elim F rows c) := rfl
theorem elim_stop {F : FOps} {rows : List (List Int)} {c : Nat} (h : (elim F rows c).2.length = rows.length) : ∀ n, elim F rows (c + n) = elim F rows c
  | 0 => rfl
  | n + 1 => by
    have ih := elim_stop h n
    rw [← Nat.add_assoc, elim_succ, ih]
    simp only [elimStep]
    have := (firstNZ_spec (elim F rows c).1 (c + n) ((elim F rows c).1.length - (elim F rows c).2.length) (elim F rows c).2.length).1
    rw [if_neg]
    have h2 := elim_length (F := F) rows c
    omega
/-- the first i entries are T's -/
def mixA {α : Type} (T a : List α) (i : Nat) : List α := T.take i ++ a.drop i
theorem mixA_zero {α : Type} (T a : List α) : mixA T a 0 = a := by simp [mixA]
theorem mixA_length {α : Type} {T a : List α} (h : T.length = a.length) (i : Nat) : (mixA T a i).length = a.length := by
  simp [mixA]; omega
theorem mixA_full {α : Type} {T a : List α} (h : T.length = a.length) {i : Nat} (hi : a.length ≤ i) : mixA T a i = T := by
  simp [mixA, List.drop_of_length_le hi, List.take_of_length_le (show T.length ≤ i by omega)]
theorem mixA_get {α : Type} {T a : List α} (d : α) {i j : Nat} (h : T.length = a.length) : (mixA T a i).getD j d = if j < i then T.getD j d else a.getD j d := by
  split
  · rename_i hj
    by_cases hT : j < T.length
    · simp only [mixA, List.getD_eq_getElem?_getD]
      rw [List.getElem?_append_left (by simp; omega), List.getElem?_take, if_pos hj]
    · rw [getD_len _ (by rw [mixA_length h]; omega), getD_len _ (by omega)]
  · rename_i hj
    by_cases hj2 : j < a.length
    · simp only [mixA, List.getD_eq_getElem?_getD]
      rw [List.getElem?_append_right (by simp; omega), List.getElem?_drop]
      simp only [List.length_take]
      rw [show i + (j - min i T.length) = j by omega]
    · rw [getD_len _ (by rw [mixA_length h]; omega), getD_len _ (by omega)]
theorem mixA_set {α : Type} {T a : List α} (d : α) {i : Nat} (h : T.length = a.length) (hi : i < a.length) : (mixA T a i).set i (T.getD i d) = mixA T a (i + 1) := by
  have h1 : (List.take i T).length = i := by simp; omega
  have h2 : i < T.length := by omega
  have h3 : T.getD i d = T[i] := by simp [List.getD_eq_getElem?_getD, h2]
  simp only [mixA]
  rw [h3, List.set_append_right _ _ (by omega), h1, Nat.sub_self, List.drop_eq_getElem_cons hi, List.set_cons_zero, List.take_succ_eq_append_getElem h2]
  simp only [List.append_assoc, List.cons_append, List.nil_append]
theorem set_self {α : Type} (d : α) (l : List α) (i : Nat) : l.set i (l.getD i d) = l := by
  refine List.ext_getElem (by simp) fun j h1 h2 => ?_
  rw [List.getElem_set]
  split
  · rename_i q
    subst q
    simp [List.getD_eq_getElem?_getD, h2]
  · rfl
theorem b_get {xs : List AV} {i : Nat} (h : i < xs.length) : xs[i]? = some (xs.getD i .junk) := by
  simp [List.getD_eq_getElem?_getD, h]
theorem Own.blk {H0 H : AH} {v : AV} {us : List AV} (h : Own H0 H v us) (hn : 0 < us.length) : H (slB v) = .rw us ∧ slO v = 0 ∧ H0 (slB v) = .free := by
  obtain ⟨b, rfl, h1, h2⟩ := h.block (fun q => by rw [q] at hn; simp at hn)
  exact ⟨h1, rfl, h2⟩
theorem Own.store {H0 H : AH} {v : AV} {us us' : List AV} (h : Own H0 H v us) (hn : 0 < us.length) (hl : us'.length = us.length) : Own H0 (H.upd (slB v) (.rw us')) v us' := by
  obtain ⟨b, rfl, h1, h2⟩ := h.block (fun q => by rw [q] at hn; simp at hn)
  exact .inr ⟨b, by rw [hl], by simp [AH.upd, slB], h2⟩
theorem Own.off {H0 H : AH} {v : AV} {xs : List Int} {bl : Nat} {ws : List AV} (h : Own H0 H v (ints xs)) (hb : H bl = .rw ws) (hn : 0 < ws.length) (hw : ∀ u, u ∈ ws → u.isSl = true) (s : Slot) : Own H0 (H.upd bl s) v (ints xs) := by
  rcases h with h | ⟨b, rfl, h1, h2⟩
  · exact .inl h
  · refine .inr ⟨b, rfl, ?_, h2⟩
    have : b ≠ bl := fun q => by
      rw [q, hb] at h1
      cases h1
      cases xs with
      | nil => simp [ints] at hn
      | cons x xs =>
        have := hw (.int .i64 x) (by simp [ints])
        cases this
    simp [AH.upd, this, h1]
/-- v does not share the block of pv -/
def Apart (pv v : AV) : Prop := ∀ b o n c, v = .sl b o n c → Off pv b
/-- what the elimination keeps in memory -/
structure EM (H H' : AH) (b : Nat) (fs : List AV) (lv : AV) (ws : List AV) (l : List (List Int)) (pv : AV) (ps : List Int) : Prop where
  ext : Ext H H'
  fld : H' b = .rw fs
  fldn : (∃ u, u ∈ fs ∧ u.isSl = false) ∧ ∃ u, u ∈ fs ∧ u.isSl = true
  own : Own H H' lv ws
  rows : RowsB H' ws l
  ow : OwnR H H' ws l
  sep : ∀ i, i < l.length → 0 < (rowAt l i).length → Apart pv (ws.getD i .junk)
  piv : Own H H' pv (ints ps)
section
variable {H H' H2 : AH} {b : Nat} {fs : List AV} {lv : AV} {ws : List AV} {l : List (List Int)} {pv : AV} {ps : List Int}
theorem EM.more (h : EM H H' b fs lv ws l pv ps) (hE : Ext H' H2) : EM H H2 b fs lv ws l pv ps :=
  ⟨h.ext.trans hE, hE.rw h.fld, h.fldn, h.own.ext hE, h.rows.ext hE, h.ow.ext hE, h.sep, h.piv.ext hE⟩
theorem EM.blk (h : EM H H' b fs lv ws l pv ps) (hn : 0 < l.length) : H' (slB lv) = .rw ws ∧ slO lv = 0 :=
  have := h.own.blk (by rw [h.rows.len]; exact hn)
  ⟨this.1, this.2.1⟩
theorem EM.ne (h : EM H H' b fs lv ws l pv ps) (hn : 0 < l.length) : b ≠ slB lv := fun q => by
  have h1 := (h.blk hn).1
  rw [← q, h.fld] at h1
  cases h1
  obtain ⟨⟨u, h2, h3⟩, -⟩ := h.fldn
  rw [h.rows.sl u h2] at h3
  cases h3
theorem EM.store {u : AV} {xs : List Int} (h : EM H H' b fs lv ws l pv ps) (hu : Ints H' u xs) (huo : 0 < xs.length → Own H H' u (ints xs)) (hus : 0 < xs.length → Apart pv u) {i : Nat} (hi : i < l.length) :
    EM H (H'.upd (slB lv) (.rw (ws.set i u))) b fs lv (ws.set i u) (l.set i xs) pv ps := by
  have hw : 0 < ws.length := by rw [h.rows.len]; omega
  obtain ⟨h1, h2, h3⟩ := h.own.blk hw
  have hne := h.ne (by omega)
  refine ⟨h.ext.upd h3 _, ?_, h.fldn, h.own.store hw (by simp), ?_, ?_, ?_, h.piv.off h1 hw h.rows.sl _⟩
  · simp only [AH.upd, hne, if_false]; exact h.fld
  · exact (h.rows.set hu i).keep fun w xs hw' => ints_upd _ h1 h.rows.sl hw'
  · refine (h.ow.set h.rows.len huo i).keep fun c ws' hc ⟨u, hu1, hu2⟩ => ?_
    have : c ≠ slB lv := fun q => by
      rw [q, h1] at hc
      cases hc
      rw [h.rows.sl u hu1] at hu2
      cases hu2
    simp [AH.upd, this, hc]
  · intro j hj hn
    rw [List.length_set] at hj
    rw [rowAt, getD_setN] at hn
    rw [getD_setN, h.rows.len]
    split
    · rename_i q
      rw [if_pos q] at hn
      exact hus hn
    · rename_i q
      rw [if_neg q] at hn
      exact h.sep j hj hn
/-- a fresh slice is apart -/
theorem EM.fresh (h : EM H H' b fs lv ws l pv ps) {bl o n : Nat} {c : Cap} (hb : H' bl = .free) : Apart pv (.sl bl o n c) := fun b2 o2 n2 c2 q o3 n3 c3 q3 => by
  cases q
  rcases h.piv with ⟨rfl, -⟩ | ⟨b4, rfl, h4, -⟩
  · cases q3
  · cases q3
    rw [hb] at h4
    cases h4
theorem EM.push {v : AV} {ps' : List Int} (h : EM H H' b fs lv ws l pv ps) (hn : 0 < l.length) (hr : ∀ i, i < l.length → 0 < (rowAt l i).length) (hE : Ext H H2) (ho : Own H H2 v (ints ps')) (keep : ∀ c ws, H' c = .rw ws → Off pv c → H2 c = .rw ws ∧ Off v c) :
    EM H H2 b fs lv ws l v ps' := by
  obtain ⟨h1, h2⟩ := h.blk hn
  have pvb : ∀ c xs, H' c = .rw xs → (∃ u, u ∈ xs ∧ ∀ n, u ≠ .int .i64 n) → Off pv c := fun c xs hc ⟨u, hu1, hu2⟩ o n cp q => by
    rcases h.piv with ⟨q2, -⟩ | ⟨b4, q2, h4, -⟩
    · rw [q] at q2; cases q2
    · rw [q] at q2
      cases q2
      rw [hc] at h4
      cases h4
      simp only [ints, List.mem_map] at hu1
      obtain ⟨a, -, rfl⟩ := hu1
      exact hu2 a rfl
  have isn : ∀ u : AV, u.isSl = true → ∀ n, u ≠ .int .i64 n := fun u hu n q => by rw [q] at hu; cases hu
  have rowk : ∀ i, i < l.length → Own H H2 (ws.getD i .junk) (ints (rowAt l i)) ∧ Apart v (ws.getD i .junk) := fun i hi => by
    have hri := hr i hi
    rcases h.ow i hi hri with ⟨q1, q2⟩ | ⟨b4, q1, q2, q3⟩
    · have := congrArg List.length q2
      rw [ints_length] at this
      simp at this
      rw [this] at hri
      simp at hri
    · obtain ⟨k1, k2⟩ := keep b4 _ q2 (h.sep i hi hri b4 _ _ _ q1)
      exact ⟨.inr ⟨b4, q1, k1, q3⟩, fun b5 o n c q => by rw [q1] at q; cases q; exact k2⟩
  refine ⟨hE, ?_, h.fldn, ?_, ⟨h.rows.len, h.rows.sl, fun i hi => (rowk i hi).1.sl⟩, fun i hi _ => (rowk i hi).1, fun i hi _ => (rowk i hi).2, ho⟩
  · obtain ⟨u, hu1, hu2⟩ := h.fldn.2
    exact (keep b _ h.fld (pvb b _ h.fld ⟨u, hu1, isn u hu2⟩)).1
  · obtain ⟨bl, q1, q2, q3⟩ := h.own.block (fun q => by have := h.rows.len; rw [q] at this; simp at this; omega)
    have hw : 0 < ws.length := by rw [h.rows.len]; omega
    have hu1 : ws[0] ∈ ws := List.getElem_mem hw
    exact .inr ⟨bl, q1, (keep bl _ q2 (pvb bl _ q2 ⟨ws[0], hu1, isn _ (h.rows.sl _ hu1)⟩)).1, q3⟩
end
theorem kIf_cut {P : Program} {x y : SC} {Q : APost} {N : Env → AH → Prop} {e : Env} {H : AH} {v : AV} (M : Env → AH → Prop) (h1 : kIf P x y (AX.then M Q) e H v) (h2 : ∀ e H, M e H → N e H) : kIf P x y (AX.then N Q) e H v := by
  have hm : ∀ X e H, AX.then M Q X e H → AX.then N Q X e H := fun X e H h => by
    cases X with
    | normal => exact h2 _ _ h
    | exit i => exact h
    | ret => exact h
  cases v with
  | bool b => cases b <;> exact swp_mono _ hm h1
  | _ => exact h1.elim
theorem RowsB.rn {H : AH} {us : List AV} {l : List (List Int)} (h : RowsB H us l) {i : Nat} (hi : i < l.length) : Ints H (us.getD i .junk) (rowAt l i) := h.row i hi

theorem c_Elim {p m : Int} {md v : AV} {mod : List Int} {us : List AV} {rows : List (List Int)} {n cols : Nat} {H : AH} {Q : AV → AH → Prop} (hf : FA H p m md mod) (hv : Rows H v us rows) (hr : Rect n rows) (he : Els (fF p m mod) rows)
    (hn : n ≤ 1000) (hk : rows.length ≤ 1000) (hc : cols ≤ n)
    (hQ : ∀ lv pv us' H', Ext H H' → Own H H' lv us' → RowsB H' us' (elim (fF p m mod) rows cols).1 → OwnR H H' us' (elim (fF p m mod) rows cols).1 → Own H H' pv (ints (natsI (elim (fF p m mod) rows cols).2)) → Q (.tup [lv, pv]) H') :
    AC Tryz.prog 149 [.agg [.int .i64 p, .int .i64 m, md], v, .int .i64 cols] H Q := by
  refine at149 (by simp) ?_
  simp (disch := first | assumption | omega) only [↓RP, RQ, TY, loadT, s149, reduceIte, Nat.reduceEqDiff, Nat.reduceAdd]
  refine kNew_intro fun b H1 hb hE1 hH1 => ?_
  simp (disch := first | assumption | omega) only [↓RP, RQ, TY, loadT, reduceIte, Nat.reduceEqDiff, Nat.reduceAdd]
  refine c_Copy (hv.ext hE1) hk (fun i hi => by rw [hr i hi]; exact hn) fun lv us0 H2 hE2 ho2 hB2 hO2 => ?_
  have hH2 := hE2.rw hH1
  have hE12 := hE1.trans hE2
  simp (disch := first | assumption | omega) only [↓RP, RQ, TY, loadT, reduceIte, Nat.reduceEqDiff, Nat.reduceAdd]
  have key : ∀ c s, s = elim (fF p m mod) rows c → EInv hf.ok n rows c s := fun c s hs => hs ▸ elim_inv hf.ok hr he c
  refine sw_loop (σ := Nat × List (List Int) × List Nat × AV × List AV) (fun s e H' => e 11 = .int .i64 s.1 ∧ e 10 = .int .i64 s.2.2.1.length ∧ e 9 = s.2.2.2.1 ∧ e 8 = lv ∧ e 2 = .int .i64 cols ∧ e 3 = .ptr b 0 ∧ s.1 ≤ cols ∧
    EM H H' b [.int .i64 p, .int .i64 m, md] lv s.2.2.2.2 s.2.1 s.2.2.2.1 (natsI s.2.2.1) ∧ (s.2.1, s.2.2.1) = elim (fF p m mod) rows s.1) (fun s => cols - s.1) (0, rows, [], .nils, us0) ?_ ?_
  · simp (disch := first | assumption | omega) only [↓RP, RQ, TY, loadT, reduceIte, Nat.reduceEqDiff, Nat.reduceAdd]
    exact ⟨rfl, by omega, ⟨hE12, hH2, ⟨⟨.int .i64 p, by simp, rfl⟩, md, by simp, hf.hm.isSl⟩, ho2.old hE1, hB2, hO2.old hE1, fun i hi hn b o n c q o' n' c' q' => (by cases q'), Own.nils⟩, rfl⟩
  rintro ⟨c, l, piv, pv, ws⟩ e H' ⟨e11, e10, e9, e8, e2, e3, hcc, hM, hs⟩
  dsimp only at *
  have inv := key c _ hs
  obtain ⟨rect, els, len, le, -, lt, -, -, -, -⟩ := inv
  dsimp only at *
  have hlr := (hM.rows.rows hM.own.sl).run
  by_cases hlt : (c : Int) < cols
  rotate_left
  · simp (disch := first | assumption | omega) only [↓RP, RQ, TY, loadT, reduceIte, Nat.reduceEqDiff, Nat.reduceAdd, e11, e10, e9, e8, e2, e3, hlt, hlr]
    rw [show c = cols by omega] at hs
    rw [← hs] at hQ
    exact hQ _ _ _ _ hM.ext hM.own hM.rows hM.ow hM.piv
  by_cases hat : (piv.length : Int) < l.length
  rotate_left
  · simp (disch := first | assumption | omega) only [↓RP, RQ, TY, loadT, reduceIte, Nat.reduceEqDiff, Nat.reduceAdd, e11, e10, e9, e8, e2, e3, hlt, hat, hlr]
    have hst := elim_stop (F := fF p m mod) (rows := rows) (c := c) (by rw [← hs]; dsimp only; omega) (cols - c)
    rw [show c + (cols - c) = cols by omega, ← hs] at hst
    rw [hst] at hQ
    exact hQ _ _ _ _ hM.ext hM.own hM.rows hM.ow hM.piv
  simp (disch := first | assumption | omega) only [↓RP, RQ, TY, loadT, reduceIte, Nat.reduceEqDiff, Nat.reduceAdd, e11, e10, e9, e8, e2, e3, hlt, hat, hlr]
  have hcn : c < n := by omega
  have hrow : ∀ i, i < l.length → (rowAt l i).length = n := rect
  -- the search for a pivot
  refine sw_loop (σ := Nat) (fun k e H2 => e 12 = .int .i64 k ∧ e 11 = .int .i64 c ∧ e 10 = .int .i64 piv.length ∧ e 9 = pv ∧ e 8 = lv ∧ e 2 = .int .i64 cols ∧ e 3 = .ptr b 0 ∧ H2 = H' ∧ piv.length ≤ k ∧ k ≤ l.length ∧ ∀ i, piv.length ≤ i → i < k → ent l i c = 0) (fun k => l.length - k) piv.length ?_ ?_
  · simp (disch := first | assumption | omega) only [↓RP, RQ, TY, loadT, reduceIte, Nat.reduceEqDiff, Nat.reduceAdd, e11, e10, e9, e8, e2, e3]
    exact ⟨by omega, by omega, fun i h1 h2 => by omega⟩
  rintro k e H2 ⟨e12, e11, e10, e9, e8, e2, e3, rfl, hk1, hk2, hk3⟩
  by_cases hkl : (k : Int) < l.length
  rotate_left
  · -- no pivot in this column
    simp (disch := first | assumption | omega) only [↓RP, RQ, TY, loadT, reduceIte, Nat.reduceEqDiff, Nat.reduceAdd, e12, e11, e10, e9, e8, e2, e3, hkl, hlr, eq_true (show (k : Int) = l.length by omega)]
    refine ⟨(c + 1, l, piv, pv, ws), ?_, by dsimp only; omega⟩
    simp (disch := first | assumption | omega) only [↓RP, RQ, TY, loadT, reduceIte, Nat.reduceEqDiff, Nat.reduceAdd, e12, e11, e10, e9, e8, e2, e3]
    refine ⟨by omega, hM, ?_⟩
    rw [elim_succ, ← hs]
    simp only [elimStep]
    rw [firstNZ_eq l.length (by omega) (fun i h1 h2 => hk3 i h1 (by omega)) (fun q => by omega) (Nat.le_refl _), if_neg (by omega)]
  have hrk := (hM.rows.rn (i := k) (by omega))
  have hrkl := hrow k (by omega)
  by_cases hz : (rowAt l k).getD c 0 = 0
  · simp (disch := first | assumption | omega) only [↓RP, RQ, TY, loadT, reduceIte, Nat.reduceEqDiff, Nat.reduceAdd, e12, e11, e10, e9, e8, e2, e3, hkl, hlr, hrk.ints, hz]
    refine ⟨k + 1, ?_, by dsimp only; omega⟩
    simp (disch := first | assumption | omega) only [↓RP, RQ, TY, loadT, reduceIte, Nat.reduceEqDiff, Nat.reduceAdd, e12, e11, e10, e9, e8, e2, e3]
    refine ⟨by omega, by omega, fun i h1 h2 => ?_⟩
    by_cases hik : i = k
    · rw [hik]; exact hz
    · exact hk3 i h1 (by omega)
  have hstep : elim (fF p m mod) rows (c + 1) = (clearL (fF p m mod) c piv.length (unitL (fF p m mod) c piv.length (swapL l piv.length k)), piv ++ [c]) := by
    rw [elim_succ, ← hs]
    simp only [elimStep]
    rw [firstNZ_eq k hk1 hk3 (fun _ => hz) hk2, if_pos (by omega)]
  have la : piv.length < l.length := by omega
  have lk : k < l.length := by omega
  have hra := (hM.rows.rn (i := piv.length) la)
  obtain ⟨hbl, hso⟩ := hM.blk (by omega)
  have hwl := hM.rows.len
  have hw1 : (ws.set piv.length (ws.getD k .junk)).length = ws.length := by simp
  have hM1 := hM.store hrk (hM.ow k lk) (hM.sep k lk) (i := piv.length) la
  have hM2 := hM1.store (u := ws.getD piv.length .junk) (xs := rowAt l piv.length) (ints_upd _ hbl hM.rows.sl hra) (fun q => (hM.ow _ la q).ints_keep q fun c ws' hc ⟨u, hu1, hu2⟩ => by
    have : c ≠ slB lv := fun q => by
      rw [q, hbl] at hc
      cases hc
      rw [hM.rows.sl u hu1] at hu2
      cases hu2
    simp [AH.upd, this, hc]) (hM.sep _ la) (i := k) (by rw [List.length_set]; omega)
  simp (disch := first | assumption | omega) only [↓RP, RQ, TY, loadT, reduceIte, Nat.reduceEqDiff, Nat.reduceAdd, e12, e11, e10, e9, e8, e2, e3, hkl, hso, Nat.zero_add, hbl, hlr.1, hlr.2.1, b_get, hrk.ints, hz, eq_false (show ¬ (k : Int) = l.length by omega), u_storeV hrk.isSl, u_storeV hra.isSl, u_stGV hrk.isSl, u_stGV hra.isSl]
  have hL1 : (l.set piv.length (rowAt l k)).set k (rowAt l piv.length) = swapL l piv.length k := rfl
  rw [hL1] at hM2
  generalize hW2 : (ws.set piv.length (ws.getD k .junk)).set k (ws.getD piv.length .junk) = ws2 at hM2 ⊢
  generalize hH3 : AH.upd (AH.upd H2 (slB lv) (.rw (ws.set piv.length (ws.getD k .junk)))) (slB lv) (.rw ws2) = H3 at hM2 ⊢
  have rect2 := swapL_rect rect la lk
  have els2 := swapL_els els la lk
  have len2 := swapL_length l piv.length k
  have z2 : ent (swapL l piv.length k) piv.length c ≠ 0 := by rw [ent, rowAt_swap la lk, if_pos rfl]; exact hz
  generalize hL2 : swapL l piv.length k = l2 at *
  obtain ⟨hbl2, -⟩ := hM2.blk (by omega)
  have hwl2 := hM2.rows.len
  have hra2 := hM2.rows.rn (i := piv.length) (by omega)
  have lra2 := rect2 piv.length (by omega)
  simp (disch := first | assumption | omega) only [↓RP, RQ, TY, loadT, reduceIte, Nat.reduceEqDiff, Nat.reduceAdd, e11, e10, e8, hbl2, hM2.fld, b_get, hra2.ints]
  refine kIf_cut (M := fun e H4 => e 11 = .int .i64 c ∧ e 10 = .int .i64 piv.length ∧ e 9 = pv ∧ e 8 = lv ∧ e 2 = .int .i64 cols ∧ e 3 = .ptr b 0 ∧ ∃ ws3, EM H H4 b [.int .i64 p, .int .i64 m, md] lv ws3 (unitL (fF p m mod) c piv.length l2) pv (natsI piv)) ?_ ?_
  · by_cases h1 : (rowAt l2 piv.length).getD c 0 = 1
    · simp (disch := first | assumption | omega) only [↓RP, RQ, TY, loadT, reduceIte, Nat.reduceEqDiff, Nat.reduceAdd, h1, e11, e10, e9, e8, e2, e3]
      refine ⟨ws2, ?_⟩
      rw [unitL, if_neg (by simpa [ent] using h1)]
      exact hM2
    · simp (disch := first | assumption | omega) only [↓RP, RQ, TY, loadT, reduceIte, Nat.reduceEqDiff, Nat.reduceAdd, h1, e11, e10, e9, e8, e2, e3, hbl2, hso, Nat.zero_add, hM2.fld, hlr.1, hlr.2.1, b_get, hra2.ints]
      refine c_Inv04 (hf.hm.ext hM2.ext) hf.rm hf.lm (els2 piv.length c).1 (els2 piv.length c).2 fun v4 H4 hE4 hv4 => ?_
      have hM4 := hM2.more hE4
      have hvi := isInv_eq hf.ok (els2 piv.length c) z2 hv4
      subst hvi
      obtain ⟨hbl4, -⟩ := hM4.blk (by omega)
      have hra4 := hM4.rows.rn (i := piv.length) (by omega)
      simp (disch := first | assumption | omega) only [↓RP, RQ, TY, loadT, reduceIte, Nat.reduceEqDiff, Nat.reduceAdd, e11, e10, e9, e8, e2, e3, hbl4, hso, Nat.zero_add, hM4.fld, hlr.1, hlr.2.1, b_get, hra4.ints]
      refine c_scale (hf.ext hM4.ext) (hf.ok.inv_el (els2 _ _)) hra4 (by omega) (fun i => els2 _ i) fun b5 H5 hb5 hE5 hH5 => ?_
      have hM5 := hM4.more hE5
      obtain ⟨hbl5, -⟩ := hM5.blk (by omega)
      have hs5 := Sl.own hH5 (n := (rowAt l2 piv.length).length) (c := .own 1) (by rw [ints_length, scaleL_length])
      have hM6 := hM5.store hs5 (fun _ => Own.mk hH5 (hM4.ext.free hb5) (by rw [ints_length, scaleL_length])) (fun _ => hM4.fresh hb5) (i := piv.length) (by omega)
      simp (disch := first | assumption | omega) only [↓RP, RQ, TY, loadT, reduceIte, Nat.reduceEqDiff, Nat.reduceAdd, e11, e10, e9, e8, e2, e3, hbl5, hso, Nat.zero_add, hM5.fld, hlr.1, hlr.2.1, b_get]
      refine ⟨ws2.set piv.length (.sl b5 0 (rowAt l2 piv.length).length (.own 1)), ?_⟩
      rw [unitL, if_pos (by simpa [ent] using h1)]
      exact hM6
  rintro e H4 ⟨e11, e10, e9, e8, e2, e3, ws3, hM3⟩
  have rect3 := unitL_rect (F := fF p m mod) c piv.length rect2
  have els3 := unitL_els hf.ok c piv.length els2 (by omega) z2
  have len3 := unitL_length (F := fF p m mod) c piv.length l2
  generalize hL3 : unitL (fF p m mod) c piv.length l2 = l3 at *
  have lT : (clearL (fF p m mod) c piv.length l3).length = l3.length := clearL_length _ _ _
  -- the other rows
  simp (disch := first | assumption | omega) only [↓RP, RQ, TY, loadT, reduceIte, Nat.reduceEqDiff, Nat.reduceAdd, e11, e10, e9, e8, e2, e3]
  refine sw_loop (σ := Nat) (fun i e H4 => e 13 = .int .i64 i ∧ e 11 = .int .i64 c ∧ e 10 = .int .i64 piv.length ∧ e 9 = pv ∧ e 8 = lv ∧ e 2 = .int .i64 cols ∧ e 3 = .ptr b 0 ∧ i ≤ l.length ∧ ∃ ws3, EM H H4 b [.int .i64 p, .int .i64 m, md] lv ws3 (mixA (clearL (fF p m mod) c piv.length l3) l3 i) pv (natsI piv)) (fun i => l.length - i) 0 ?_ ?_
  · simp (disch := first | assumption | omega) only [↓RP, RQ, TY, loadT, reduceIte, Nat.reduceEqDiff, Nat.reduceAdd, e11, e10, e9, e8, e2, e3, mixA_zero]
    exact ⟨by omega, ws3, hM3⟩
  rintro i e H5 ⟨e13, e11, e10, e9, e8, e2, e3, hi, ws4, hM4⟩
  have lM := mixA_length lT i
  have hwl4 := hM4.rows.len
  obtain ⟨hbl4, -⟩ := hM4.blk (by omega)
  have e0 : ∀ j, rowAt (mixA (clearL (fF p m mod) c piv.length l3) l3 i) j = if j < i then rowAt (clearL (fF p m mod) c piv.length l3) j else rowAt l3 j := fun j => mixA_get [] lT
  have eT : ∀ j, j < l3.length → rowAt (clearL (fF p m mod) c piv.length l3) j = clearRow (fF p m mod) c piv.length l3 j := fun j hj => by rw [rowAt, clearL, tabN_getD _ hj]
  have eA : rowAt (mixA (clearL (fF p m mod) c piv.length l3) l3 i) piv.length = rowAt l3 piv.length := by
    rw [e0]
    split
    · rw [eT _ (by omega), clearRow, if_neg (by simp)]
    · rfl
  have keepM : i < l3.length → clearRow (fF p m mod) c piv.length l3 i = rowAt l3 i → mixA (clearL (fF p m mod) c piv.length l3) l3 (i + 1) = mixA (clearL (fF p m mod) c piv.length l3) l3 i := fun hi3 q => by
    rw [← mixA_set [] lT hi3]
    have : (clearL (fF p m mod) c piv.length l3).getD i [] = (mixA (clearL (fF p m mod) c piv.length l3) l3 i).getD i [] := by
      have h1 := e0 i
      rw [if_neg (Nat.lt_irrefl i)] at h1
      have h2 := eT i hi3
      rw [q] at h2
      rw [rowAt] at h1 h2
      rw [h1, h2]
    rw [this, set_self]
  by_cases hit : (i : Int) < l.length
  rotate_left
  · have hfull := mixA_full lT (i := i) (by omega)
    rw [hfull] at hM4
    have hlr4 := (hM4.rows.rows hM4.own.sl).run
    have lc : (clearL (fF p m mod) c piv.length l3).length = l.length := by omega
    simp (disch := first | assumption | omega) only [↓RP, RQ, TY, loadT, reduceIte, Nat.reduceEqDiff, Nat.reduceAdd, e13, e11, e10, e9, e8, e2, e3, hit, hlr4, lc]
    refine kNew_intro fun b6 H6 hb6 hE6 hH6 => ?_
    have hM6 := hM4.more hE6
    simp (disch := first | assumption | omega) only [↓RP, RQ, TY, loadT, reduceIte, Nat.reduceEqDiff, Nat.reduceAdd, e13, e11, e10, e9, e8, e2, e3]
    have hpl : piv.length ≤ 1000 := by omega
    refine kApp_own (H0 := H) (us := ints [(c : Int)]) hM6.piv hM6.ext (Sl.own hH6 rfl) ints_ones (by simp [ints_length, natsI_length]; omega) (by simp [ints_length, natsI_length]; omega) fun v7 H7 hE7 ho7 keep7 => ?_
    rw [ints_app] at ho7
    have hps : natsI piv ++ [(c : Int)] = natsI (piv ++ [c]) := by simp [natsI]
    rw [hps] at ho7
    have rectT := clearL_rect (F := fF p m mod) c piv.length rect3
    have hM7 := hM6.push (by omega) (fun j hj => by rw [rectT j hj]; omega) hE7 ho7 keep7
    simp (disch := first | assumption | omega) only [↓RP, RQ, TY, loadT, reduceIte, Nat.reduceEqDiff, Nat.reduceAdd, e13, e11, e10, e9, e8, e2, e3]
    refine ⟨(c + 1, clearL (fF p m mod) c piv.length l3, piv ++ [c], v7, ws4), ?_, by dsimp only; omega⟩
    simp (disch := first | assumption | omega) only [↓RP, RQ, TY, loadT, reduceIte, Nat.reduceEqDiff, Nat.reduceAdd, e13, e11, e10, e9, e8, e2, e3]
    refine ⟨?_, by omega, hM7, ?_⟩
    · simp
    · rw [hstep]
  have hlr4 := (hM4.rows.rows hM4.own.sl).run
  rw [lM] at hlr4
  have l3l : l3.length = l.length := by omega
  rw [l3l] at hlr4
  have hri := hM4.rows.rn (i := i) (by omega)
  rw [e0 i, if_neg (Nat.lt_irrefl i)] at hri
  have lri := rect3 i (by omega)
  by_cases hia : (i : Int) = piv.length
  · simp (disch := first | assumption | omega) only [↓RP, RQ, TY, loadT, reduceIte, Nat.reduceEqDiff, Nat.reduceAdd, e13, e11, e10, e9, e8, e2, e3, hit, hlr4, eq_true hia]
    refine ⟨i + 1, ?_, by dsimp only; omega⟩
    simp (disch := first | assumption | omega) only [↓RP, RQ, TY, loadT, reduceIte, Nat.reduceEqDiff, Nat.reduceAdd, e13, e11, e10, e9, e8, e2, e3]
    refine ⟨by omega, ws4, ?_⟩
    rw [keepM (by omega) (by rw [clearRow, if_neg (by simp; omega)])]
    exact hM4
  by_cases hz0 : (rowAt l3 i).getD c 0 = 0
  · simp (disch := first | assumption | omega) only [↓RP, RQ, TY, loadT, reduceIte, Nat.reduceEqDiff, Nat.reduceAdd, e13, e11, e10, e9, e8, e2, e3, hit, hlr4, eq_false hia, hz0, hri.ints]
    refine ⟨i + 1, ?_, by dsimp only; omega⟩
    simp (disch := first | assumption | omega) only [↓RP, RQ, TY, loadT, reduceIte, Nat.reduceEqDiff, Nat.reduceAdd, e13, e11, e10, e9, e8, e2, e3]
    refine ⟨by omega, ws4, ?_⟩
    rw [keepM (by omega) (by rw [clearRow, if_neg (fun q => q.2 hz0)])]
    exact hM4
  have hraM := hM4.rows.rn (i := piv.length) (by omega)
  rw [eA] at hraM
  have lra3 := rect3 piv.length (by omega)
  simp (disch := first | assumption | omega) only [↓RP, RQ, TY, loadT, reduceIte, Nat.reduceEqDiff, Nat.reduceAdd, e13, e11, e10, e9, e8, e2, e3, hit, hlr4, eq_false hia, hz0, hri.ints, hM4.fld]
  refine c_Neg04 (els3 i c).1 (els3 i c).2 fun H6 hE6 => ?_
  have hM6 := hM4.more hE6
  have hlr6 := (hM6.rows.rows hM6.own.sl).run
  rw [lM, l3l] at hlr6
  have hri6 := hri.ext hE6
  have hneg : (fF p m mod).El (fneg p m (ent l3 i c)) := hf.ok.neg_el (els3 i c)
  simp (disch := first | assumption | omega) only [↓RP, RQ, TY, loadT, reduceIte, Nat.reduceEqDiff, Nat.reduceAdd, e13, e11, e10, e9, e8, e2, e3, hit, hlr6, hri6.ints, hM6.fld]
  refine c_AddTo (hf.ext hM6.ext) hneg hri6 (hraM.ext hE6) (by omega) (by omega) (fun j => els3 i j) (fun j => els3 _ j) fun b7 H7 hb7 hE7 hH7 => ?_
  have hM7 := hM6.more hE7
  obtain ⟨hbl7, -⟩ := hM7.blk (by omega)
  have hs7 := Sl.own hH7 (n := (rowAt l3 i).length) (c := .own 1) (by rw [ints_length, addToL_length])
  have hM8 := hM7.store hs7 (fun _ => Own.mk hH7 (hM6.ext.free hb7) (by rw [ints_length, addToL_length])) (fun _ => hM6.fresh hb7) (i := i) (by omega)
  simp (disch := first | assumption | omega) only [↓RP, RQ, TY, loadT, reduceIte, Nat.reduceEqDiff, Nat.reduceAdd, e13, e11, e10, e9, e8, e2, e3, hbl7, hso, Nat.zero_add, hM7.fld, hlr6.1, hlr6.2.1, b_get]
  refine ⟨i + 1, ?_, by dsimp only; omega⟩
  simp (disch := first | assumption | omega) only [↓RP, RQ, TY, loadT, reduceIte, Nat.reduceEqDiff, Nat.reduceAdd, e13, e11, e10, e9, e8, e2, e3]
  refine ⟨by omega, ws4.set i (.sl b7 0 (rowAt l3 i).length (.own 1)), ?_⟩
  rw [← mixA_set [] lT (show i < l3.length by omega)]
  have eT2 := eT i (by omega)
  rw [rowAt] at eT2
  rw [eT2, clearRow, if_pos ⟨by omega, hz0⟩]
  exact hM8
end Go.Proofs.YtbkpebmcagdgmaaGreat.AM
/-! The reference's matrices, fifth part: Canon, Check. -/
namespace Go.Proofs.YtbkpebmcagdgmaaGreat.AM
open Go Go.RowKit
set_option linter.unusedVariables false
set_option linter.unusedSimpArgs false
set_option maxRecDepth 20000
/-- the first n elements of a slice -/
def slTake : AV → Nat → AV
  | .sl b o _ c, n => .sl b o n c
  | v, _ => v
theorem Sl.slice {P : Program} {K : Kt} {e : Env} {H H' : AH} {d : Option Nat} {r : Rst} {k : IntKind} {v : AV} {us : List AV} {h : Int} (hs : Sl H v us) (h0 : 0 ≤ h) (h1 : h ≤ us.length) :
    kSlice P (some 1) r e H' K d v none (some (.int k h)) none = kPut P r e H' K d (slTake v h.toNat) := by
  rcases hs with ⟨rfl, rfl⟩ | ⟨b, o, c, rfl, -⟩
  · have : h = 0 := by simp at h1; omega
    subst this
    refine propext ⟨?_, ?_⟩
    · rintro ⟨s, -, -, -, -, h5⟩; exact h5
    · intro h2
      exact ⟨1, rfl, (fun v hv => by cases hv), (fun v hv => ⟨k, by cases hv; rfl⟩), (fun v hv => by cases hv), h2⟩
  · exact u_sliceH h0 h1
theorem Sl.taken {H : AH} {v : AV} {us : List AV} {n : Nat} (hs : Sl H v us) (hn : n ≤ us.length) : Sl H (slTake v n) (us.take n) := by
  rcases hs with ⟨rfl, rfl⟩ | ⟨b, o, c, rfl, h⟩
  · exact .inl ⟨rfl, by simp⟩
  · refine .inr ⟨b, o, c, by rw [List.length_take, Nat.min_eq_left hn]; rfl, fun i u hu => ?_⟩
    rw [List.getElem?_take] at hu
    split at hu
    · exact h i u hu
    · cases hu
theorem rowAt_take {l : List (List Int)} {n i : Nat} (h : i < n) : rowAt (l.take n) i = rowAt l i := by
  simp [rowAt, List.getD_eq_getElem?_getD, List.getElem?_take, h]
theorem RowsB.taken {H : AH} {us : List AV} {l : List (List Int)} (h : RowsB H us l) {n : Nat} (hn : n ≤ l.length) : RowsB H (us.take n) (l.take n) := by
  refine ⟨by simp [h.len], fun u hu => h.sl u (List.mem_of_mem_take hu), fun i hi => ?_⟩
  rw [List.length_take] at hi
  rw [rowAt_take (by omega)]
  have := h.row i (by omega)
  simpa [List.getD_eq_getElem?_getD, List.getElem?_take, show i < n by omega] using this
/-- the canonical rows, and the pivots -/
def canon (F : FOps) (rows : List (List Int)) (cols : Nat) : List (List Int) × List Nat := ((elim F rows cols).1.take (elim F rows cols).2.length, (elim F rows cols).2)
theorem c_Canon {p m : Int} {md v : AV} {mod : List Int} {us : List AV} {rows : List (List Int)} {n cols : Nat} {H : AH} {Q : AV → AH → Prop} (hf : FA H p m md mod) (hv : Rows H v us rows) (hr : Rect n rows) (he : Els (fF p m mod) rows)
    (hn : n ≤ 1000) (hk : rows.length ≤ 1000) (hc : cols ≤ n)
    (hQ : ∀ lv pv us' H', Ext H H' → Rows H' lv us' (canon (fF p m mod) rows cols).1 → Ints H' pv (natsI (canon (fF p m mod) rows cols).2) → Q (.tup [lv, pv]) H') :
    AC Tryz.prog 111 [.agg [.int .i64 p, .int .i64 m, md], v, .int .i64 cols] H Q := by
  refine at111 (by simp) ?_
  simp (disch := first | assumption | omega) only [↓RP, RQ, TY, loadT, s111, reduceIte, Nat.reduceEqDiff, Nat.reduceAdd]
  refine kNew_intro fun b H1 hb hE1 hH1 => ?_
  simp (disch := first | assumption | omega) only [↓RP, RQ, TY, loadT, reduceIte, Nat.reduceEqDiff, Nat.reduceAdd, hH1]
  refine c_Elim (hf.ext hE1) (hv.ext hE1) hr he hn hk hc fun lv pv us2 H2 hE2 ho2 hB2 hO2 hp2 => ?_
  have hle := elim_piv (F := fF p m mod) rows cols
  have hll := elim_length (F := fF p m mod) rows cols
  have hpi := hp2.sl.ints
  rw [natsI_length] at hpi
  have hul : us2.length = rows.length := by rw [hB2.len, hll]
  simp (disch := first | assumption | omega) only [↓RP, RQ, TY, loadT, reduceIte, Nat.reduceEqDiff, Nat.reduceAdd, hpi, ho2.sl.slice, m_nat]
  exact hQ _ _ _ _ (hE1.trans hE2) ((hB2.taken (by omega)).rows (ho2.sl.taken (by omega))) hp2.sl
open Classical in
/-- the error of a matrix -/
noncomputable def matErr (p m : Int) (mod : List Int) (cols : Int) (rows : List (List Int)) : Int :=
  if ¬ FieldOk p m mod then 1 else if cols < 0 ∨ 256 < cols ∨ 256 < rows.length ∨ (∃ i, i < rows.length ∧ ((rowAt rows i).length : Int) ≠ cols) then 3
  else if ∃ i, i < rows.length ∧ ¬ AllEl p m (rowAt rows i) then 2 else 0
open Classical in
theorem c_Check09 {p m cols : Int} {md v : AV} {mod : List Int} {us : List AV} {rows : List (List Int)} {H : AH} {Q : AV → AH → Prop} (hm : Ints H md mod) (hv : Rows H v us rows) (hl : rows.length ≤ 9223372036854775807) (hlr : ∀ i, i < rows.length → (rowAt rows i).length ≤ 9223372036854775807)
    (hQ : ∀ H', Ext H H' → Q (.int .i64 (matErr p m mod cols rows)) H') : AC Tryz.prog 128 [.agg [.int .i64 p, .int .i64 m, md], .agg [.int .i64 cols, v]] H Q := by
  refine at128 (by simp) ?_
  simp (disch := first | assumption | omega) only [↓RP, RQ, TY, loadT, s128, reduceIte, Nat.reduceEqDiff, Nat.reduceAdd]
  refine kNew_intro fun b H1 hb hE1 hH1 => ?_
  simp (disch := first | assumption | omega) only [↓RP, RQ, TY, loadT, reduceIte, Nat.reduceEqDiff, Nat.reduceAdd, hH1]
  refine kNew_intro fun b2 H2 hb2 hE2 hH2 => ?_
  have hH12 := hE2.rw hH1
  have hE12 := hE1.trans hE2
  simp (disch := first | assumption | omega) only [↓RP, RQ, TY, loadT, reduceIte, Nat.reduceEqDiff, Nat.reduceAdd, hH12]
  refine c_Check04 (hm.ext hE12) fun H3 hE3 => ?_
  have hE13 := hE12.trans hE3
  have h13 := hE3.rw hH12
  have h23 := hE3.rw hH2
  by_cases hF : FieldOk p m mod
  rotate_left
  · simp (disch := first | assumption | omega) only [↓RP, RQ, TY, loadT, reduceIte, Nat.reduceEqDiff, Nat.reduceAdd, hF, Int.reduceEq, Int.reduceNe]
    have := hQ H3 hE13
    rwa [matErr, if_pos hF] at this
  have hv3 := hv.ext hE13
  by_cases c1 : cols < 0
  · simp (disch := first | assumption | omega) only [↓RP, RQ, TY, loadT, reduceIte, Nat.reduceEqDiff, Nat.reduceAdd, hF, h23, c1]
    have := hQ H3 hE13
    rwa [matErr, if_neg (by simpa using hF), if_pos (.inl c1)] at this
  by_cases c2 : 256 < cols
  · simp (disch := first | assumption | omega) only [↓RP, RQ, TY, loadT, reduceIte, Nat.reduceEqDiff, Nat.reduceAdd, hF, h23, c1, c2]
    have := hQ H3 hE13
    rwa [matErr, if_neg (by simpa using hF), if_pos (.inr (.inl c2))] at this
  by_cases c3 : (256 : Int) < rows.length
  · simp (disch := first | assumption | omega) only [↓RP, RQ, TY, loadT, reduceIte, Nat.reduceEqDiff, Nat.reduceAdd, hF, h23, c1, c2, c3, hv3.run]
    have := hQ H3 hE13
    rwa [matErr, if_neg (by simpa using hF), if_pos (.inr (.inr (.inl (by omega))))] at this
  simp (disch := first | assumption | omega) only [↓RP, RQ, TY, loadT, reduceIte, Nat.reduceEqDiff, Nat.reduceAdd, hF, h23, c1, c2, c3, hv3.run]
  refine sw_loop (σ := Nat) (fun i e H' => e 6 = .int .i64 i ∧ e 3 = .ptr b2 0 ∧ e 2 = .ptr b 0 ∧ H' = H3 ∧ i ≤ rows.length ∧ ∀ j, j < i → ((rowAt rows j).length : Int) = cols) (fun i => rows.length - i) 0 ?_ ?_
  · simp (disch := first | assumption | omega) only [↓RP, RQ, TY, loadT, reduceIte, Nat.reduceEqDiff, Nat.reduceAdd]
    exact ⟨by omega, fun j hj => by omega⟩
  rintro i e H' ⟨e6, e3, e2, rfl, hi, hj⟩
  by_cases hlt : (i : Int) < rows.length
  · have hri := hv3.row i (by omega)
    by_cases hc : ((rowAt rows i).length : Int) = cols
    · simp (disch := first | assumption | omega) only [↓RP, RQ, TY, loadT, reduceIte, Nat.reduceEqDiff, Nat.reduceAdd, e6, e3, e2, hlt, h23, hv3.run, hri.ints, eq_true hc]
      refine ⟨i + 1, ?_, by dsimp only; omega⟩
      simp (disch := first | assumption | omega) only [↓RP, RQ, TY, loadT, reduceIte, Nat.reduceEqDiff, Nat.reduceAdd, e6, e3, e2]
      refine ⟨by omega, fun j h => ?_⟩
      by_cases hji : j = i
      · rw [hji]; exact hc
      · exact hj j (by omega)
    · simp (disch := first | assumption | omega) only [↓RP, RQ, TY, loadT, reduceIte, Nat.reduceEqDiff, Nat.reduceAdd, e6, e3, e2, hlt, h23, hv3.run, hri.ints, eq_false hc]
      have := hQ H' hE13
      rwa [matErr, if_neg (by simpa using hF), if_pos (.inr (.inr (.inr ⟨i, by omega, hc⟩)))] at this
  have hjj : ∀ j, j < rows.length → ((rowAt rows j).length : Int) = cols := fun j h => hj j (by omega)
  simp (disch := first | assumption | omega) only [↓RP, RQ, TY, loadT, reduceIte, Nat.reduceEqDiff, Nat.reduceAdd, e6, e3, e2, hlt, h23, hv3.run]
  refine sw_loop (σ := Nat) (fun i e H2 => e 7 = .int .i64 i ∧ e 3 = .ptr b2 0 ∧ e 2 = .ptr b 0 ∧ Ext H' H2 ∧ i ≤ rows.length ∧ ∀ j, j < i → AllEl p m (rowAt rows j)) (fun i => rows.length - i) 0 ?_ ?_
  · simp (disch := first | assumption | omega) only [↓RP, RQ, TY, loadT, reduceIte, Nat.reduceEqDiff, Nat.reduceAdd, e3, e2]
    exact ⟨Ext.refl _, by omega, fun j hj => by omega⟩
  rintro i e H2 ⟨e7, e3, e2, hE4, hi, hj⟩
  have h14 := hE4.rw h13
  have h24 := hE4.rw h23
  have hv4 := hv3.ext hE4
  have n3 : ¬ (cols < 0 ∨ 256 < cols ∨ 256 < rows.length ∨ (∃ i, i < rows.length ∧ ((rowAt rows i).length : Int) ≠ cols)) := by
    rintro (q | q | q | ⟨i, q1, q2⟩)
    · omega
    · omega
    · omega
    · exact q2 (hjj i q1)
  by_cases hlt : (i : Int) < rows.length
  · simp (disch := first | assumption | omega) only [↓RP, RQ, TY, loadT, reduceIte, Nat.reduceEqDiff, Nat.reduceAdd, e7, e3, e2, hlt, h24, h14, hv4.run]
    refine c_Entries (hv4.row i (by omega)) (hlr i (by omega)) fun H5 hE5 => ?_
    have h15 := hE5.rw h14
    have h25 := hE5.rw h24
    have hv5 := hv4.ext hE5
    by_cases hc : AllEl p m (rowAt rows i)
    · simp (disch := first | assumption | omega) only [↓RP, RQ, TY, loadT, reduceIte, Nat.reduceEqDiff, Nat.reduceAdd, e7, e3, e2, hc, h25, h15, hv5.run, Int.reduceEq, Int.reduceNe]
      refine ⟨i + 1, ?_, by dsimp only; omega⟩
      simp (disch := first | assumption | omega) only [↓RP, RQ, TY, loadT, reduceIte, Nat.reduceEqDiff, Nat.reduceAdd, e7, e3, e2]
      refine ⟨hE4.trans hE5, by omega, fun j h => ?_⟩
      by_cases hji : j = i
      · rw [hji]; exact hc
      · exact hj j (by omega)
    · simp (disch := first | assumption | omega) only [↓RP, RQ, TY, loadT, reduceIte, Nat.reduceEqDiff, Nat.reduceAdd, e7, e3, e2, hc, h25, h15, hv5.run, Int.reduceEq, Int.reduceNe]
      have := hQ H5 ((hE13.trans hE4).trans hE5)
      rwa [matErr, if_neg (by simpa using hF), if_neg n3, if_pos ⟨i, by omega, hc⟩] at this
  · simp (disch := first | assumption | omega) only [↓RP, RQ, TY, loadT, reduceIte, Nat.reduceEqDiff, Nat.reduceAdd, e7, e3, e2, hlt, h24, hv4.run]
    have := hQ H2 (hE13.trans hE4)
    rwa [matErr, if_neg (by simpa using hF), if_neg n3, if_neg (fun ⟨j, q1, q2⟩ => q2 (hj j (by omega)))] at this
end Go.Proofs.YtbkpebmcagdgmaaGreat.AM
/-! The reference's spaces and codes: Check; subsets. -/
namespace Go.Proofs.YtbkpebmcagdgmaaGreat.AM
open Go Go.RowKit
set_option linter.unusedVariables false
set_option linter.unusedSimpArgs false
set_option maxRecDepth 20000
/-- a field that the check lets in is a field -/
def FOk : Prop := ∀ p m mod, FieldOk p m mod → (fF p m mod).Ok
theorem FieldOk.rm {p m : Int} {mod : List Int} (h : FieldOk p m mod) : Rng p mod := by
  obtain ⟨h1, h2, h3⟩ := h
  rcases h3 with ⟨-, rfl⟩ | ⟨-, -, h, -⟩
  · have := (ordr_pos h1).1
    intro i
    simp
    omega
  · exact h
theorem FieldOk.lm {p m : Int} {mod : List Int} (h : FieldOk p m mod) (hm : m ≠ 1) : (mod.length : Int) = m := by
  rcases h.2.2 with ⟨q, -⟩ | ⟨-, q, -⟩
  · exact (hm q).elim
  · exact q
theorem FOk.fa (FO : FOk) {H : AH} {p m : Int} {md : AV} {mod : List Int} (h : FieldOk p m mod) (hm : Ints H md mod) : FA H p m md mod := ⟨hm, h.rm, h.lm, FO _ _ _ h⟩
open Classical in
/-- the error of a space -/
noncomputable def spcErr (p m : Int) (mod : List Int) (cols : Int) (rows : List (List Int)) : Int :=
  if matErr p m mod cols rows ≠ 0 then matErr p m mod cols rows else if (canon (fF p m mod) rows cols.toNat).1 = rows then 0 else 5
open Classical in
/-- the error of a code -/
noncomputable def codeErr (p m : Int) (mod : List Int) (n : Int) (rows : List (List Int)) : Int :=
  if ¬ FieldOk p m mod then 1 else if n < 1 ∨ 64 < n then 4 else spcErr p m mod n rows
theorem mat_ok {p m : Int} {mod : List Int} {cols : Int} {rows : List (List Int)} (h : matErr p m mod cols rows = 0) :
    FieldOk p m mod ∧ 0 ≤ cols ∧ cols ≤ 256 ∧ rows.length ≤ 256 ∧ Rect cols.toNat rows ∧ Els (fF p m mod) rows := by
  unfold matErr at h
  split at h
  · cases h
  rename_i h1
  split at h
  · cases h
  rename_i h2
  split at h
  · cases h
  rename_i h3
  have h1 : FieldOk p m mod := by simpa using h1
  simp only [not_or, not_exists, not_and, Classical.not_not] at h2 h3
  refine ⟨h1, by omega, by omega, by omega, fun i hi => ?_, fun i j => ?_⟩
  · have := h2.2.2.2 i hi
    omega
  · by_cases hi : i < rows.length
    · by_cases hj : j < (rowAt rows i).length
      · exact h3 i hi j hj
      · rw [ent, getD_len _ (by omega)]
        have := (ordr_pos h1.1)
        have h5 : 0 < ordr p m := by rw [this.2.2.2.2]; exact Int.pow_pos (by omega)
        exact ⟨Int.le_refl _, h5⟩
    · rw [ent_ge _ (by omega)]
      have := (ordr_pos h1.1)
      have h5 : 0 < ordr p m := by rw [this.2.2.2.2]; exact Int.pow_pos (by omega)
      exact ⟨Int.le_refl _, h5⟩
theorem c_Check10 (FO : FOk) {p m cols : Int} {md v : AV} {mod : List Int} {us : List AV} {rows : List (List Int)} {H : AH} {Q : AV → AH → Prop} (hm : Ints H md mod) (hv : Rows H v us rows) (hl : rows.length ≤ 9223372036854775807) (hlr : ∀ i, i < rows.length → (rowAt rows i).length ≤ 9223372036854775807)
    (hQ : ∀ H', Ext H H' → Q (.int .i64 (spcErr p m mod cols rows)) H') : AC Tryz.prog 88 [.agg [.int .i64 p, .int .i64 m, md], .agg [.int .i64 cols, v]] H Q := by
  refine at88 (by simp) ?_
  simp (disch := first | assumption | omega) only [↓RP, RQ, TY, loadT, s88, reduceIte, Nat.reduceEqDiff, Nat.reduceAdd]
  refine kNew_intro fun b H1 hb hE1 hH1 => ?_
  simp (disch := first | assumption | omega) only [↓RP, RQ, TY, loadT, reduceIte, Nat.reduceEqDiff, Nat.reduceAdd, hH1]
  refine kNew_intro fun b2 H2 hb2 hE2 hH2 => ?_
  have hH12 := hE2.rw hH1
  have hE12 := hE1.trans hE2
  simp (disch := first | assumption | omega) only [↓RP, RQ, TY, loadT, reduceIte, Nat.reduceEqDiff, Nat.reduceAdd, hH12, hH2]
  refine c_Check09 (hm.ext hE12) (hv.ext hE12) hl hlr fun H3 hE3 => ?_
  have hE13 := hE12.trans hE3
  have h13 := hE3.rw hH12
  have h23 := hE3.rw hH2
  by_cases h0 : matErr p m mod cols rows = 0
  rotate_left
  · simp (disch := first | assumption | omega) only [↓RP, RQ, TY, loadT, reduceIte, Nat.reduceEqDiff, Nat.reduceAdd, h0]
    have := hQ H3 hE13
    rwa [spcErr, if_pos h0] at this
  obtain ⟨o1, o2, o3, o4, o5, o6⟩ := mat_ok h0
  have hc : ((cols.toNat : Nat) : Int) = cols := by omega
  simp (disch := first | assumption | omega) only [↓RP, RQ, TY, loadT, reduceIte, Nat.reduceEqDiff, Nat.reduceAdd, h0, h13, h23]
  rw [← hc]
  refine c_Canon (FO.fa o1 (hm.ext hE13)) (hv.ext hE13) o5 o6 (by omega) (by omega) (Nat.le_refl _) fun lv pv us' H4 hE4 hr4 hp4 => ?_
  have h24 := hE4.rw h23
  have hE14 := hE13.trans hE4
  simp (disch := first | assumption | omega) only [↓RP, RQ, TY, loadT, reduceIte, Nat.reduceEqDiff, Nat.reduceAdd, h24]
  have hle : (canon (fF p m mod) rows cols.toNat).1.length ≤ rows.length := by
    rw [canon]
    have := elim_length (F := fF p m mod) rows cols.toNat
    simp [this]
    omega
  refine c_SameRows hr4 (hv.ext hE14) (by omega) (by omega) (fun i hi => ?_) (fun i hi => by rw [o5 i hi]; omega) ?_
  · have h5 := elim_rect (F := fF p m mod) o5 cols.toNat i (by rw [elim_length]; omega)
    rw [canon]
    rw [canon] at hi
    dsimp only at hi ⊢
    rw [List.length_take] at hi
    rw [rowAt_take (by omega), h5]
    omega
  by_cases he : (canon (fF p m mod) rows cols.toNat).1 = rows
  · simp (disch := first | assumption | omega) only [↓RP, RQ, TY, loadT, reduceIte, Nat.reduceEqDiff, Nat.reduceAdd, he]
    have := hQ H4 hE14
    rwa [spcErr, if_neg (by simpa using h0), if_pos he] at this
  · simp (disch := first | assumption | omega) only [↓RP, RQ, TY, loadT, reduceIte, Nat.reduceEqDiff, Nat.reduceAdd, he]
    have := hQ H4 hE14
    rwa [spcErr, if_neg (by simpa using h0), if_neg he] at this
theorem fill_mat {n : Int} {k : IntKind} {v a b : AV} (hv : v.isSl = true) : aFill (fun i => [(0, 1), (1, 1)][i]?) [a, b] [(0, .int k n), (1, v)] = some [.int k n, v] := by
  cases v <;> first | rfl | (simp [AV.isSl] at hv)
/-- a code's value -/
abbrev codeV (p m : Int) (md : AV) (n : Int) (g : AV) : AV := .agg [.int .i64 p, .int .i64 m, md, .int .i64 n, g]
theorem c_Check12 (FO : FOk) {p m n : Int} {md v : AV} {mod : List Int} {us : List AV} {rows : List (List Int)} {H : AH} {Q : AV → AH → Prop} (hm : Ints H md mod) (hv : Rows H v us rows) (hl : rows.length ≤ 9223372036854775807) (hlr : ∀ i, i < rows.length → (rowAt rows i).length ≤ 9223372036854775807)
    (hQ : ∀ H', Ext H H' → Q (.int .i64 (codeErr p m mod n rows)) H') : AC Tryz.prog 35 [codeV p m md n v] H Q := by
  refine at35 (by simp) ?_
  simp (disch := first | assumption | omega) only [↓RP, RQ, TY, loadT, s35, reduceIte, Nat.reduceEqDiff, Nat.reduceAdd]
  refine kNew_intro fun b H1 hb hE1 hH1 => ?_
  simp (disch := first | assumption | omega) only [↓RP, RQ, TY, loadT, reduceIte, Nat.reduceEqDiff, Nat.reduceAdd, hH1]
  refine c_Check04 (hm.ext hE1) fun H2 hE2 => ?_
  have hE12 := hE1.trans hE2
  have h12 := hE2.rw hH1
  by_cases hF : FieldOk p m mod
  rotate_left
  · simp (disch := first | assumption | omega) only [↓RP, RQ, TY, loadT, reduceIte, Nat.reduceEqDiff, Nat.reduceAdd, hF, Int.reduceEq, Int.reduceNe]
    have := hQ H2 hE12
    rwa [codeErr, if_pos hF] at this
  by_cases c1 : n < 1
  · simp (disch := first | assumption | omega) only [↓RP, RQ, TY, loadT, reduceIte, Nat.reduceEqDiff, Nat.reduceAdd, hF, h12, c1]
    have := hQ H2 hE12
    rwa [codeErr, if_neg (by simpa using hF), if_pos (.inl c1)] at this
  by_cases c2 : 64 < n
  · simp (disch := first | assumption | omega) only [↓RP, RQ, TY, loadT, reduceIte, Nat.reduceEqDiff, Nat.reduceAdd, hF, h12, c1, c2]
    have := hQ H2 hE12
    rwa [codeErr, if_neg (by simpa using hF), if_pos (.inr c2)] at this
  simp (disch := first | assumption | omega) only [↓RP, RQ, TY, loadT, reduceIte, Nat.reduceEqDiff, Nat.reduceAdd, hF, h12, c1, c2, fill_mat hv.sl.isSl]
  refine c_Check10 FO (hm.ext hE12) (hv.ext hE12) hl hlr fun H3 hE3 => ?_
  simp (disch := first | assumption | omega) only [↓RP, RQ, TY, loadT, reduceIte, Nat.reduceEqDiff, Nat.reduceAdd]
  have := hQ H3 (hE12.trans hE3)
  rwa [codeErr, if_neg (by simpa using hF), if_neg (by omega)] at this
/-- strictly ascending numbers from 0 to n-1 -/
def Subset (n : Int) (s : List Int) : Prop := ∀ i, i < s.length → 0 ≤ s.getD i 0 ∧ s.getD i 0 < n ∧ (0 < i → s.getD (i - 1) 0 < s.getD i 0)
end Go.Proofs.YtbkpebmcagdgmaaGreat.AM
/-! The reference's orderings, first part: Others, rank, Of, Dimension. -/
namespace Go.Proofs.YtbkpebmcagdgmaaGreat.AM
open Go Go.RowKit
set_option linter.unusedVariables false
set_option linter.unusedSimpArgs false
set_option maxRecDepth 20000
def bools (xs : List Bool) : List AV := xs.map AV.bool
theorem bools_length (xs : List Bool) : (bools xs).length = xs.length := by simp [bools]
theorem bools_set {xs : List Bool} {i : Nat} {w : Bool} : (bools xs).set i (.bool w) = bools (xs.set i w) := by simp [bools, List.map_set]
theorem bools_get {xs : List Bool} {i : Nat} (h : i < xs.length) : (bools xs)[i]? = some (.bool (xs.getD i false)) := by
  simp [bools, h, List.getD_eq_getElem?_getD]
theorem bools_repl {n : Nat} {w : Bool} : List.replicate n (AV.bool w) = bools (List.replicate n w) := by simp [bools]
/-- the positions below n that are not in set -/
def othersN (n : Nat) (set : List Int) : List Nat := (List.range n).filter fun i => !set.contains (i : Int)
/-- positions of a code of length n -/
def Poss (n : Int) (set : List Int) : Prop := ∀ i, i < set.length → 0 ≤ set.getD i 0 ∧ set.getD i 0 < n
theorem mem_take_succ {set : List Int} {i : Nat} (hi : i < set.length) (x : Int) : x ∈ set.take (i + 1) ↔ x ∈ set.take i ∨ x = set.getD i 0 := by
  rw [← take_push 0 hi, List.mem_append, List.mem_singleton]
/-- the rank of the columns at the positions set, as the reference counts it -/
noncomputable def rankS (p m : Int) (mod : List Int) (rows : List (List Int)) (set : List Int) : Nat := (elim (fF p m mod) (rows.map fun r => pickL r set) set.length).2.length
/-- a good code in the heap -/
structure CA (H : AH) (p m : Int) (md : AV) (mod : List Int) (n : Int) (v : AV) (us : List AV) (rows : List (List Int)) : Prop where
  fa : FA H p m md mod
  n1 : 1 ≤ n
  n64 : n ≤ 64
  rv : Rows H v us rows
  rect : Rect n.toNat rows
  els : Els (fF p m mod) rows
  kn : rows.length ≤ n.toNat
theorem CA.ext {H H' : AH} {p m : Int} {md : AV} {mod : List Int} {n : Int} {v : AV} {us : List AV} {rows : List (List Int)} (h : CA H p m md mod n v us rows) (hE : Ext H H') : CA H' p m md mod n v us rows :=
  ⟨h.fa.ext hE, h.n1, h.n64, h.rv.ext hE, h.rect, h.els, h.kn⟩
theorem pickL_length (r set : List Int) : (pickL r set).length = set.length := by simp [pickL, tabN]
theorem rowAt_map {f : List Int → List Int} {l : List (List Int)} {i : Nat} (h : i < l.length) : rowAt (l.map f) i = f (rowAt l i) := by
  simp [rowAt, List.getD_eq_getElem?_getD, h]
theorem pick_rect (rows : List (List Int)) (set : List Int) : Rect set.length (rows.map fun r => pickL r set) := fun i hi => by
  rw [List.length_map] at hi
  rw [rowAt_map hi, pickL_length]
theorem pick_ent {rows : List (List Int)} {set : List Int} (i : Nat) {j : Nat} (hj : j < set.length) : ent (rows.map fun r => pickL r set) i j = ent rows i (set.getD j 0).toNat := by
  by_cases hi : i < rows.length
  · rw [ent, rowAt_map hi, pickL, tabN_getD _ hj]; rfl
  · rw [ent_ge _ (by simp; omega), ent_ge _ (by omega)]
theorem pick_els {F : FOps} {rows : List (List Int)} (h0 : F.El 0) (set : List Int) (he : Els F rows) : Els F (rows.map fun r => pickL r set) := fun i j => by
  by_cases hj : j < set.length
  · rw [pick_ent i hj]; exact he _ _
  · rw [ent_col (pick_rect rows set) i (by omega)]; exact h0
theorem map_take_push {l : List (List Int)} {i : Nat} (f : List Int → List Int) (h : i < l.length) : (l.map f).take i ++ [f (rowAt l i)] = (l.map f).take (i + 1) := by
  rw [← take_push [] (show i < (l.map f).length by simpa using h)]
  rw [← rowAt_map (f := f) h]; rfl
end Go.Proofs.YtbkpebmcagdgmaaGreat.AM
/-! The reference's orderings, second part: Dimension. -/
namespace Go.Proofs.YtbkpebmcagdgmaaGreat.AM
open Go Go.RowKit
set_option linter.unusedVariables false
set_option linter.unusedSimpArgs false
set_option maxRecDepth 20000
theorem code_ok (FO : FOk) {p m n : Int} {mod : List Int} {rows : List (List Int)} (h : codeErr p m mod n rows = 0) :
    FieldOk p m mod ∧ 1 ≤ n ∧ n ≤ 64 ∧ Rect n.toNat rows ∧ Els (fF p m mod) rows ∧ rows.length ≤ n.toNat ∧ (elim (fF p m mod) rows n.toNat).2.length = rows.length := by
  unfold codeErr at h
  split at h
  · cases h
  rename_i h1
  split at h
  · cases h
  rename_i h2
  unfold spcErr at h
  split at h
  · contradiction
  rename_i h3
  split at h
  rotate_left
  · cases h
  rename_i h4
  obtain ⟨o1, o2, o3, o4, o5, o6⟩ := mat_ok (by simpa using h3)
  have h5 : (elim (fF p m mod) rows n.toNat).2.length = rows.length := by
    have := congrArg List.length h4
    rw [canon] at this
    have h6 := elim_length (F := fF p m mod) rows n.toNat
    have h7 := elim_piv (F := fF p m mod) rows n.toNat
    simp at this
    omega
  refine ⟨o1, by omega, by omega, o5, o6, ?_, h5⟩
  have inv := (elim_inv (FO _ _ _ o1) o5 o6 n.toNat).rk
  rw [h5] at inv
  rw [inv]
  refine Nat.le_trans (Clo.rk_le_length _ _ _) ?_
  simp
theorem FOk.ca (FO : FOk) {H : AH} {p m n : Int} {md v : AV} {mod : List Int} {us : List AV} {rows : List (List Int)} (h : codeErr p m mod n rows = 0) (hm : Ints H md mod) (hv : Rows H v us rows) : CA H p m md mod n v us rows := by
  obtain ⟨h1, h2, h3, h4, h5, h6, -⟩ := code_ok FO h
  exact ⟨FO.fa h1 hm, h2, h3, hv, h4, h5, h6⟩
theorem Subset.lt {n : Int} {s : List Int} (h : Subset n s) : ∀ i, i < s.length → (i : Int) ≤ s.getD i 0 := by
  intro i
  induction i with
  | zero => intro hi; have := (h 0 hi).1; omega
  | succ i ih =>
    intro hi
    have h1 := ih (by omega)
    have h2 := (h (i + 1) hi).2.2 (by omega)
    simp only [Nat.add_sub_cancel] at h2
    omega
theorem Subset.length {n : Int} {s : List Int} (h : Subset n s) (hn : 0 ≤ n) : (s.length : Int) ≤ n := by
  cases hs : s.length with
  | zero => omega
  | succ k =>
    have h1 := h.lt k (by omega)
    have h2 := (h k (by omega)).2.1
    omega
theorem Subset.poss {n : Int} {s : List Int} (h : Subset n s) : Poss n s := fun i hi => ⟨(h i hi).1, (h i hi).2.1⟩
open Classical in
/-- the answer of Dimension -/
noncomputable def dimErr (p m : Int) (mod : List Int) (n : Int) (rows : List (List Int)) (set : List Int) : Int := if codeErr p m mod n rows ≠ 0 then codeErr p m mod n rows else if Subset n set then 0 else 5
end Go.Proofs.YtbkpebmcagdgmaaGreat.AM
/-! The program's field, first part: order, isPrime, digitsOf, valueOf. -/
namespace Go.Proofs.YtbkpebmcagdgmaaGreat.AM
open Go Go.RowKit
set_option linter.unusedVariables false
set_option linter.unusedSimpArgs false
set_option maxRecDepth 20000
theorem c_forder {p m : Int} {H : AH} {Q : AV → AH → Prop} (hQ : Q (.int .i64 (ordr p m)) H) : AC Tryz.prog 148 [.int .i64 p, .int .i64 m] H Q := by
  refine at148 (by simp) ?_
  have key : ordr p m ≠ 0 → 2 ≤ p ∧ p ≤ 256 ∧ 1 ≤ m ∧ m ≤ 8 := fun h => by
    have h1 := ordr_pos h
    have h2 := ordr_p h
    omega
  by_cases h1 : p < 2
  · simp (disch := first | assumption | omega) only [↓RP, RQ, TY, loadT, s148, reduceIte, Nat.reduceEqDiff, Nat.reduceAdd, h1]
    rwa [show ordr p m = 0 from Classical.byContradiction fun q => by have := key q; omega] at hQ
  by_cases h2 : 256 < p
  · simp (disch := first | assumption | omega) only [↓RP, RQ, TY, loadT, s148, reduceIte, Nat.reduceEqDiff, Nat.reduceAdd, h1, h2]
    rwa [show ordr p m = 0 from Classical.byContradiction fun q => by have := key q; omega] at hQ
  by_cases h3 : m < 1
  · simp (disch := first | assumption | omega) only [↓RP, RQ, TY, loadT, s148, reduceIte, Nat.reduceEqDiff, Nat.reduceAdd, h1, h2, h3]
    rwa [show ordr p m = 0 from Classical.byContradiction fun q => by have := key q; omega] at hQ
  by_cases h4 : 8 < m
  · simp (disch := first | assumption | omega) only [↓RP, RQ, TY, loadT, s148, reduceIte, Nat.reduceEqDiff, Nat.reduceAdd, h1, h2, h3, h4]
    rwa [show ordr p m = 0 from Classical.byContradiction fun q => by have := key q; omega] at hQ
  simp (disch := first | assumption | omega) only [↓RP, RQ, TY, loadT, s148, reduceIte, Nat.reduceEqDiff, Nat.reduceAdd, h1, h2, h3, h4]
  refine sw_loop (σ := Nat) (fun i e H' => e 21 = .int .i64 i ∧ e 20 = .int .i64 m ∧ e 5 = .int .i64 (p ^ i) ∧ e 0 = .int .i64 p ∧ (i : Int) ≤ m ∧ p ^ i ≤ 256 ∧ H' = H) (fun i => m.toNat - i) 0 ?_ ?_
  · simp (disch := first | assumption | omega) only [↓RP, RQ, TY, loadT, reduceIte, Nat.reduceEqDiff, Nat.reduceAdd]
    simp
    omega
  rintro i e H' ⟨e21, e20, e5, e0, hi, hq, rfl⟩
  by_cases hlt : (i : Int) < m
  · have hpos : 0 ≤ p ^ i := Int.pow_nonneg (by omega)
    have h6 : p ^ (i + 1) = p ^ i * p := Int.pow_succ _ _
    have h7 := mul_bd hpos hq (show 0 ≤ p by omega) (show p ≤ 256 by omega)
    by_cases hc : 256 < p ^ i * p
    · simp (disch := first | assumption | omega) only [↓RP, RQ, TY, loadT, reduceIte, Nat.reduceEqDiff, Nat.reduceAdd, e21, e20, e5, e0, hlt, hc]
      have : ordr p m = 0 := by
        rw [ordr, if_neg]
        rintro ⟨-, -, -, h⟩
        have h8 : p ^ (i + 1) ≤ p ^ m.toNat := ipow_mono (by omega) (by omega)
        omega
      rwa [this] at hQ
    · simp (disch := first | assumption | omega) only [↓RP, RQ, TY, loadT, reduceIte, Nat.reduceEqDiff, Nat.reduceAdd, e21, e20, e5, e0, hlt, hc]
      refine ⟨i + 1, ?_, by dsimp only; omega⟩
      simp (disch := first | assumption | omega) only [↓RP, RQ, TY, loadT, reduceIte, Nat.reduceEqDiff, Nat.reduceAdd, e21, e20, e5, e0, h6]
      omega
  · simp (disch := first | assumption | omega) only [↓RP, RQ, TY, loadT, reduceIte, Nat.reduceEqDiff, Nat.reduceAdd, e21, e20, e5, e0, hlt]
    have e5 : m.toNat = i := by omega
    rwa [ordr, e5, if_pos (by omega)] at hQ
open Classical in
theorem c_isPrime {n : Int} {H : AH} {Q : AV → AH → Prop} (hn : 2 ≤ n) (hn' : n ≤ 256) (hQ : Q (.bool (decide (prm n))) H) : AC Tryz.prog 184 [.int .i64 n] H Q := by
  refine at184 (by simp) ?_
  simp (disch := first | assumption | omega) only [↓RP, RQ, TY, loadT, s184, reduceIte, Nat.reduceEqDiff, Nat.reduceAdd]
  refine sw_loop (σ := Nat) (fun i e H' => e 3 = .int .i64 i ∧ e 0 = .int .i64 n ∧ 2 ≤ i ∧ i ≤ 17 ∧ (∀ d : Int, 2 ≤ d → d < i → n % d ≠ 0) ∧ H' = H) (fun i => 17 - i) 2 ?_ ?_
  · simp (disch := first | assumption | omega) only [↓RP, RQ, TY, loadT, reduceIte, Nat.reduceEqDiff, Nat.reduceAdd]
    refine ⟨rfl, by omega, by omega, fun d h1 h2 => ?_⟩
    have : ((2 : Nat) : Int) = 2 := rfl
    omega
  rintro i e' H' ⟨e3, e0, hi, hi', hd, rfl⟩
  have hb := mul_bd (a := (i : Int)) (b := (i : Int)) (A := 17) (B := 17) (by omega) (by omega) (by omega) (by omega)
  by_cases hlt : (i : Int) * i ≤ n
  · have i16 : i ≤ 16 := by
      apply Classical.byContradiction
      intro q
      have : i = 17 := by omega
      subst this
      omega
    have hin : (i : Int) < n := by
      have : (i : Int) * 2 ≤ i * i := Int.mul_le_mul_of_nonneg_left (by omega) (by omega)
      omega
    by_cases hz : n % (i : Int) = 0
    · simp (disch := first | assumption | omega) only [↓RP, RQ, TY, loadT, reduceIte, Nat.reduceEqDiff, Nat.reduceAdd, e3, e0, hlt, hz]
      rwa [decide_eq_false (fun q => q i (by omega) hin hz)] at hQ
    · simp (disch := first | assumption | omega) only [↓RP, RQ, TY, loadT, reduceIte, Nat.reduceEqDiff, Nat.reduceAdd, e3, e0, hlt, hz]
      refine ⟨i + 1, ?_, by dsimp only; omega⟩
      simp (disch := first | assumption | omega) only [↓RP, RQ, TY, loadT, reduceIte, Nat.reduceEqDiff, Nat.reduceAdd, e3, e0]
      refine ⟨by omega, by omega, fun d h1 h2 => ?_⟩
      by_cases hdi : d = i
      · rw [hdi]; exact hz
      · exact hd d h1 (by omega)
  · simp (disch := first | assumption | omega) only [↓RP, RQ, TY, loadT, reduceIte, Nat.reduceEqDiff, Nat.reduceAdd, e3, e0, hlt, hn]
    rwa [decide_eq_true] at hQ
    intro d h1 h2 hz
    by_cases hdi : d < i
    · exact hd d h1 hdi hz
    · -- the other factor is small
      have e1 := Int.mul_ediv_add_emod n d
      rw [hz, Int.add_zero] at e1
      have q0 : 0 ≤ n / d := Int.ediv_nonneg (by omega) (by omega)
      have q1 : n / d < i := by
        apply Classical.byContradiction
        intro q
        have h3 : (i : Int) * i ≤ d * (n / d) := Int.mul_le_mul (by omega) (by omega) (by omega) (by omega)
        omega
      have q2 : 2 ≤ n / d := by
        apply Classical.byContradiction
        intro q
        have : d * (n / d) ≤ d * 1 := Int.mul_le_mul_of_nonneg_left (by omega) (by omega)
        omega
      refine hd (n / d) q2 q1 ?_
      generalize n / d = k at *
      rw [← e1, show d * k = k * d from Int.mul_comm _ _, Int.mul_emod_right]
theorem c_fdigits {x p n : Int} {H : AH} {Q : AV → AH → Prop} (hx : 0 ≤ x) (hx' : x ≤ 9000000000000000000) (hp : 0 < p) (hn : 0 ≤ n) (hn' : n ≤ 1000)
    (hQ : ∀ b H', H b = .free → Ext H H' → H' b = .rw (ints (digs p n.toNat x)) → Q (.sl b 0 n.toNat (.own 1)) H') :
    AC Tryz.prog 200 [.int .i64 x, .int .i64 p, .int .i64 n] H Q := by
  refine at200 (by simp) ?_
  simp (disch := first | assumption | omega) only [↓RP, RQ, TY, loadT, s200, reduceIte, Nat.reduceEqDiff, Nat.reduceAdd]
  refine kNew_intro fun b H1 hb hE hH1 => ?_
  simp (disch := first | assumption | omega) only [↓RP, RQ, TY, loadT, reduceIte, Nat.reduceEqDiff, Nat.reduceAdd]
  refine sw_loop (σ := Nat × Int × List Int) (fun s e H' => e 13 = .int .i64 s.1 ∧ e 12 = .int .i64 n ∧ e 7 = .sl b 0 n.toNat (.own 1) ∧ e 1 = .int .i64 p ∧ e 0 = .int .i64 s.2.1 ∧ s.1 ≤ n.toNat ∧ 0 ≤ s.2.1 ∧ s.2.1 ≤ x ∧ Ext H H' ∧ s.2.2.length = n.toNat ∧
    H' b = .rw (ints s.2.2) ∧ s.2.2.take s.1 ++ digs p (n.toNat - s.1) s.2.1 = digs p n.toNat x) (fun s => n.toNat - s.1) (0, x, List.replicate n.toNat 0) ?_ ?_
  · simp (disch := first | assumption | omega) only [↓RP, RQ, TY, loadT, reduceIte, Nat.reduceEqDiff, Nat.reduceAdd, hH1]
    simp [hx, hE, ints, hn]
  · rintro ⟨i, y, L⟩ e' H' ⟨e13, e12, e7, e1, e0, hi, hy, hy', hE', hL, hb', hd⟩
    dsimp only at *
    by_cases hlt : (i : Int) < n
    · have h1 := Int.ediv_nonneg hy (Int.le_of_lt hp)
      have h2 := Int.ediv_le_self p hy
      simp (disch := first | assumption | omega) only [↓RP, RQ, TY, loadT, reduceIte, Nat.reduceEqDiff, Nat.reduceAdd, e13, e12, e7, e1, e0, hlt, hb']
      refine ⟨(i + 1, y / p, L.set i (y % p)), ?_, ?_⟩
      · simp (disch := first | assumption | omega) only [↓RP, RQ, TY, loadT, reduceIte, Nat.reduceEqDiff, Nat.reduceAdd, e13, e12, e7, e1, e0]
        refine ⟨by omega, h1, by omega, hE'.upd hb _, by simpa using hL, ?_⟩
        rw [← hd, show n.toNat - i = (n.toNat - (i + 1)) + 1 by omega, digs]
        rw [List.take_succ_eq_append_getElem (by simp; omega)]
        simp [List.take_set_of_le]
      · show n.toNat - (i + 1) < n.toNat - i
        omega
    · simp (disch := first | assumption | omega) only [↓RP, RQ, TY, loadT, reduceIte, Nat.reduceEqDiff, Nat.reduceAdd, e13, e12, e7, e1, e0, hlt]
      refine hQ b H' hb hE' ?_
      rw [hb', ← hd, show n.toNat - i = 0 by omega]
      simp [digs, List.take_of_length_le (show L.length ≤ i by omega)]
theorem c_fvalue {p : Int} {vd : AV} {ds : List Int} {H : AH} {Q : AV → AH → Prop} (hp : 2 ≤ p) (hd : Ints H vd ds) (rd : Rng p ds) (hp' : p ≤ 256) (hl : ds.length ≤ 100) (hq : p ^ ds.length ≤ 256)
    (hQ : Q (.int .i64 (val p ds)) H) : AC Tryz.prog 201 [vd, .int .i64 p] H Q := by
  refine at201 (by simp) ?_
  simp (disch := first | assumption | omega) only [↓RP, RQ, TY, loadT, s201, reduceIte, Nat.reduceEqDiff, Nat.reduceAdd, hd.ints]
  refine sw_loop (σ := Nat) (fun k e H' => e 6 = .int .i64 ((ds.length - k : Int) - 1) ∧ e 5 = .int .i64 (val p (ds.drop (ds.length - k))) ∧ e 1 = .int .i64 p ∧ e 0 = vd ∧ k ≤ ds.length ∧ H' = H) (fun k => ds.length - k) 0 ?_ ?_
  · simp (disch := first | assumption | omega) only [↓RP, RQ, TY, loadT, reduceIte, Nat.reduceEqDiff, Nat.reduceAdd]
    simp [val]
  rintro k e H' ⟨e6, e5, e1, e0, hk, rfl⟩
  have v1 := val_lt (show 0 < p by omega) (rd.drop (ds.length - k))
  have v2 : p ^ (ds.drop (ds.length - k)).length ≤ 256 := Int.le_trans (ipow_mono (by omega) (by simp)) hq
  by_cases hlt : 0 ≤ (ds.length - k : Int) - 1
  · have hi : ((ds.length - k : Int) - 1).toNat = ds.length - (k + 1) := by omega
    have v3 := val_lt (show 0 < p by omega) (rd.drop (ds.length - (k + 1)))
    have v4 : p ^ (ds.drop (ds.length - (k + 1))).length ≤ 256 := Int.le_trans (ipow_mono (by omega) (by simp)) hq
    have v5 : val p (ds.drop (ds.length - (k + 1))) = ds.getD (ds.length - (k + 1)) 0 + p * val p (ds.drop (ds.length - k)) := by
      rw [drop_getD (show ds.length - (k + 1) < ds.length by omega), val, show ds.length - (k + 1) + 1 = ds.length - k by omega]
    have v6 : p * val p (ds.drop (ds.length - k)) = val p (ds.drop (ds.length - k)) * p := Int.mul_comm _ _
    have v7 := rd (ds.length - (k + 1))
    have v8 := mul_bd v1.1 (show val p (ds.drop (ds.length - k)) ≤ 256 by omega) (show 0 ≤ p by omega) hp'
    simp (disch := first | assumption | omega) only [↓RP, RQ, TY, loadT, reduceIte, Nat.reduceEqDiff, Nat.reduceAdd, hd.ints, e6, e5, e1, e0, hlt, hi]
    refine ⟨k + 1, ?_, by dsimp only; omega⟩
    simp (disch := first | assumption | omega) only [↓RP, RQ, TY, loadT, reduceIte, Nat.reduceEqDiff, Nat.reduceAdd, e6, e5, e1, e0]
    refine ⟨?_, ?_, by omega⟩
    · congr 1
      omega
    · congr 1
      omega
  · simp (disch := first | assumption | omega) only [↓RP, RQ, TY, loadT, reduceIte, Nat.reduceEqDiff, Nat.reduceAdd, hd.ints, e6, e5, e1, e0, hlt]
    rw [show ds.length - k = 0 by omega]
    exact hQ
end Go.Proofs.YtbkpebmcagdgmaaGreat.AM
/-! The program's field, second part: multiply. -/
namespace Go.Proofs.YtbkpebmcagdgmaaGreat.AM
open Go Go.RowKit
set_option linter.unusedVariables false
set_option linter.unusedSimpArgs false
set_option maxRecDepth 20000
/-- X times out, plus b times a -/
def hornStep (p : Int) (n : Nat) (mod a : List Int) (b : Int) (out : List Int) : List Int :=
  tab n fun j => ((if j = 0 then 0 else out.getD (j - 1) 0) + (p - out.getD (n - 1) 0) * mod.getD j 0 + b * a.getD j 0) % p
def horn (p : Int) (n : Nat) (mod a b : List Int) (k : Nat) : List Int := upto (fun k out => hornStep p n mod a (b.getD (n - 1 - k) 0) out) k (List.replicate n 0)
/-- the product of two residues, as the program computes it -/
def pmul (p m : Int) (mod : List Int) (x y : Int) : Int := val p (horn p m.toNat mod (digs p m.toNat x) (digs p m.toNat y) m.toNat)
theorem horn_length (p : Int) (n : Nat) (mod a b : List Int) : ∀ k, (horn p n mod a b k).length = n
  | 0 => by simp [horn, upto]
  | k + 1 => by rw [horn, upto_succ, hornStep, tab_length]
theorem horn_rng {p : Int} (hp : 0 < p) (n : Nat) (mod a b : List Int) : ∀ k, Rng p (horn p n mod a b k)
  | 0 => Rng.rep hp _
  | k + 1 => by
    rw [horn, upto_succ, hornStep]
    exact tab_rng hp fun i _ => ⟨Int.emod_nonneg _ (by omega), Int.emod_lt_of_pos _ hp⟩
theorem shift_get (out : List Int) (n : Nat) (hn : 1 ≤ n) (hl : out.length = n) {j : Nat} (hj : j < n) : (0 :: out.take (n - 1)).getD j 0 = if j = 0 then 0 else out.getD (j - 1) 0 := by
  cases j with
  | zero => rfl
  | succ j => simp [List.getD_eq_getElem?_getD, List.getElem?_take, show j < n - 1 by omega]
theorem kCopy_own {P : Program} {K : Kt} {e : Env} {H : AH} {d : Option Nat} {r : Rst} {ds : List Nat} {b o n : Nat} {c : Cap} {y : AV} {xs us : List AV} (hb : H b = .rw xs) (ho : o + n ≤ xs.length) (hy : Sl H y us) (hu : ∀ u, u ∈ us → u.one = true)
    (h : kRet P ds r e (H.upd b (.rw (splice xs o (us.take (min us.length n))))) K d (.int .i64 (min us.length n : Nat))) : kCopy P ds (some 1) r e H K d (.sl b o n c) y := by
  obtain ⟨h1, h2⟩ := hy.cells
  refine ⟨rfl, xs, us, hb, by omega, h1, hu, ?_⟩
  rw [h2, Nat.mul_one]
  exact h
theorem c_multiply {p m x y : Int} {md : AV} {mod : List Int} {H : AH} {Q : AV → AH → Prop} (hm : Ints H md mod) (rm : Rng p mod) (lm : m ≠ 1 → (mod.length : Int) = m) (l1 : m = 1 → mod = []) (hx : 0 ≤ x) (hx' : x < ordr p m) (hy : 0 ≤ y) (hy' : y < ordr p m)
    (hQ : ∀ H', Ext H H' → Q (.int .i64 (pmul p m mod x y)) H') : AC Tryz.prog 186 [.agg [.int .i64 p, .int .i64 m, md], .int .i64 x, .int .i64 y] H Q := by
  have ho : ordr p m ≠ 0 := by omega
  obtain ⟨o1, o2, o3, o4, o5⟩ := ordr_pos ho
  have o6 := ordr_p ho
  have op : 0 < p := by omega
  refine at186 (by simp) ?_
  simp (disch := first | assumption | omega) only [↓RP, RQ, TY, loadT, s186, reduceIte, Nat.reduceEqDiff, Nat.reduceAdd]
  refine kNew_intro fun b H1 hb hE1 hH1 => ?_
  simp (disch := first | assumption | omega) only [↓RP, RQ, TY, loadT, reduceIte, Nat.reduceEqDiff, Nat.reduceAdd, hH1]
  refine c_fdigits hx (by omega) (by omega) (by omega) (by omega) fun b2 H2 hb2 hE2 hH2 => ?_
  have hb' := hE2.rw hH1
  have hE12 := hE1.trans hE2
  simp (disch := first | assumption | omega) only [↓RP, RQ, TY, loadT, reduceIte, Nat.reduceEqDiff, Nat.reduceAdd, hb']
  refine c_fdigits hy (by omega) (by omega) (by omega) (by omega) fun b3 H3 hb3 hE3 hH3 => ?_
  have hb'' := hE3.rw hb'
  have hH2' := hE3.rw hH2
  have hE13 := hE12.trans hE3
  have ld1 := digs_length p m.toNat x
  have ld2 := digs_length p m.toNat y
  have r1 := digs_rng op m.toNat x
  have r2 := digs_rng op m.toNat y
  generalize ha : digs p m.toNat x = a at *
  generalize hb : digs p m.toNat y = c at *
  simp (disch := first | assumption | omega) only [↓RP, RQ, TY, loadT, reduceIte, Nat.reduceEqDiff, Nat.reduceAdd, hb'']
  refine kNew_intro fun b4 H4 hb4 hE4 hH4 => ?_
  have hb4' := hE4.rw hb''
  have h24 := hE4.rw hH2'
  have h34 := hE4.rw hH3
  have hE14 := hE13.trans hE4
  have n1 : b ≠ b4 := fun q => by rw [← q, hb''] at hb4; cases hb4
  have n2 : b2 ≠ b4 := fun q => by rw [← q, hH2'] at hb4; cases hb4
  have n3 : b3 ≠ b4 := fun q => by rw [← q, hH3] at hb4; cases hb4
  have f4 := hE13.free hb4
  rw [ints_repl] at hH4
  generalize hn : m.toNat = n at *
  have hmn : m = (n : Int) := by omega
  subst hmn
  simp (disch := first | assumption | omega) only [↓RP, RQ, TY, loadT, reduceIte, Nat.reduceEqDiff, Nat.reduceAdd, hb4']
  have hpos : 1 ≤ n := by omega
  refine sw_loop (σ := Nat) (fun k e H' => e 10 = .int .i64 ((n - k : Int) - 1) ∧ e 9 = .sl b4 0 n (.own 1) ∧ e 8 = .sl b3 0 n (.own 1) ∧ e 7 = .sl b2 0 n (.own 1) ∧ e 3 = .ptr b 0 ∧ k ≤ n ∧ H' b = .rw [.int .i64 p, .int .i64 n, md] ∧ Ext H H' ∧ H' b2 = .rw (ints a) ∧ H' b3 = .rw (ints c) ∧
    H' b4 = .rw (ints (horn p n mod a c k))) (fun k => n - k) 0 ?_ ?_
  · simp (disch := first | assumption | omega) only [↓RP, RQ, TY, loadT, reduceIte, Nat.reduceEqDiff, Nat.reduceAdd]
    exact ⟨by simp, by omega, hb4', hE14, h24, h34, hH4⟩
  rintro k e H' ⟨e10, e9, e8, e7, e3, hk, hpb, hE, h2, h3, h4⟩
  have s1 := horn_length p n mod a c k
  have s2 := horn_rng op n mod a c k
  have s3 : horn p n mod a c (k + 1) = hornStep p n mod a (c.getD (n - 1 - k) 0) (horn p n mod a c k) := rfl
  generalize hR : horn p n mod a c k = R at *
  by_cases hlt : 0 ≤ (n - k : Int) - 1
  · have en : ((n : Int) - 1).toNat = n - 1 := by omega
    have lR : (R.take (n - 1)).length = n - 1 := by simp; omega
    simp (disch := first | assumption | omega) only [↓RP, RQ, TY, loadT, reduceIte, Nat.reduceEqDiff, Nat.reduceAdd, e10, e9, e8, e7, e3, hlt, hpb, h4, en, u_sliceH, u_sliceL]
    have hsl : Sl H' (.sl b4 0 (n - 1) (.own 1)) (ints (R.take (n - 1))) := by
      rw [ints, List.map_take]
      exact Sl.take h4 (by rw [List.length_map]; omega)
    refine kCopy_own h4 (by rw [ints_length]; omega) hsl ints_ones ?_
    have hspl : splice (ints R) (Int.toNat 1) (List.take (min (ints (List.take (n - 1) R)).length (n - Int.toNat 1)) (ints (List.take (n - 1) R))) = ints (R.getD 0 0 :: R.take (n - 1)) := by
      cases R with
      | nil => simp at s1; omega
      | cons x xs =>
        have hl' : xs.length = n - 1 := by simp at s1; omega
        have e1 : Int.toNat 1 = 1 := rfl
        have e2 : n - 1 + 1 = 1 + (n - 1) := by omega
        simp [splice, ints, hl', List.take_of_length_le, e1, e2]
        rfl
    rw [hspl]
    have lS : (R.getD 0 0 :: R.take (n - 1)).length = n := by rw [List.length_cons, lR]; omega
    have et0 : Int.toNat 0 = 0 := rfl
    simp (disch := first | assumption | omega) only [↓RP, RQ, TY, loadT, reduceIte, Nat.reduceEqDiff, Nat.reduceAdd, e10, e9, e8, e7, e3, hlt, hpb, h4, en, et0]
    rw [List.set_cons_zero]
    have hE5 : Ext H (AH.upd (AH.upd H' b4 (.rw (ints (R.getD 0 0 :: R.take (n - 1))))) b4 (.rw (ints (0 :: R.take (n - 1))))) := (hE.upd f4 _).upd f4 _
    have h5 : AH.upd (AH.upd H' b4 (.rw (ints (R.getD 0 0 :: R.take (n - 1))))) b4 (.rw (ints (0 :: R.take (n - 1)))) b4 = .rw (ints (0 :: R.take (n - 1))) := by simp [AH.upd]
    have h5k : ∀ b', b' ≠ b4 → AH.upd (AH.upd H' b4 (.rw (ints (R.getD 0 0 :: R.take (n - 1))))) b4 (.rw (ints (0 :: R.take (n - 1)))) b' = H' b' := fun b' hb' => by simp [AH.upd, hb']
    generalize AH.upd (AH.upd H' b4 (.rw (ints (R.getD 0 0 :: R.take (n - 1))))) b4 (.rw (ints (0 :: R.take (n - 1)))) = H5 at hE5 h5 h5k ⊢
    have lS' : (0 :: R.take (n - 1)).length = n := by rw [List.length_cons, lR]; omega
    have gS := fun j hj => shift_get R n hpos s1 (j := j) hj
    generalize hS : (0 :: R.take (n - 1)) = S at *
    have lT : (hornStep p n mod a (c.getD (n - 1 - k) 0) R).length = S.length := by rw [hornStep, tab_length, lS']
    refine sw_loop (σ := Nat) (fun j e H' => e 54 = .int .i64 j ∧ e 53 = .int .i64 n ∧ e 11 = .int .i64 (R.getD (n - 1) 0) ∧ e 10 = .int .i64 ((n - k : Int) - 1) ∧ e 9 = .sl b4 0 n (.own 1) ∧ e 8 = .sl b3 0 n (.own 1) ∧ e 7 = .sl b2 0 n (.own 1) ∧ e 3 = .ptr b 0 ∧ j ≤ n ∧ H' b = .rw [.int .i64 p, .int .i64 n, md] ∧ Ext H H' ∧ H' b2 = .rw (ints a) ∧ H' b3 = .rw (ints c) ∧
      H' b4 = .rw (ints (mix (hornStep p n mod a (c.getD (n - 1 - k) 0) R) S j))) (fun j => n - j) 0 ?_ ?_
    · simp (disch := first | assumption | omega) only [↓RP, RQ, TY, loadT, reduceIte, Nat.reduceEqDiff, Nat.reduceAdd, e10, e9, e8, e7, e3, mix_zero]
      exact ⟨by omega, by rw [h5k b n1]; exact hpb, hE5, by rw [h5k b2 n2]; exact h2, by rw [h5k b3 n3]; exact h3, h5⟩
    clear h2 h3 h4 hpb h5 h5k hE hE5
    rintro j e H6 ⟨e54, e53, e11, e10, e9, e8, e7, e3, hj, hpb, hE, h2, h3, h4⟩
    have lM := mix_length lT j
    have hm6 := hm.ext hE
    by_cases hjt : (j : Int) < n
    · have q1 := gS j (by omega)
      have q2 := mix_get lT (Nat.le_refl j)
      have q3 := rm j
      have q4 := r1 j
      have q5 := r2 (n - 1 - k)
      have q6 := s2 (n - 1)
      have q7 := mul_bd (a := p - R.getD (n - 1) 0) (b := mod.getD j 0) (A := 256) (B := 256) (by omega) (by omega) (by omega) (by omega)
      have q8 := mul_bd (a := c.getD (n - 1 - k) 0) (b := a.getD j 0) (A := 256) (B := 256) (by omega) (by omega) (by omega) (by omega)
      have q9 : 0 ≤ S.getD j 0 ∧ S.getD j 0 < p := by
        rw [q1]
        split
        · omega
        · exact s2 _
      have ek : ((n : Int) - k - 1).toNat = n - 1 - k := by omega
      have hT : (hornStep p n mod a (c.getD (n - 1 - k) 0) R).getD j 0 = (S.getD j 0 + (p - R.getD (n - 1) 0) * mod.getD j 0 + c.getD (n - 1 - k) 0 * a.getD j 0) % p := by
        rw [hornStep, tab_get (by omega), q1]
      by_cases hn1 : (1 : Int) < n
      · have lm' := lm (by omega)
        simp (disch := first | assumption | omega) only [↓RP, RQ, TY, loadT, reduceIte, Nat.reduceEqDiff, Nat.reduceAdd, e54, e53, e11, e10, e9, e8, e7, e3, hjt, hpb, h2, h3, h4, hn1, hm6.ints, q2, ek]
        refine ⟨j + 1, ?_, by dsimp only; omega⟩
        simp (disch := first | assumption | omega) only [↓RP, RQ, TY, loadT, reduceIte, Nat.reduceEqDiff, Nat.reduceAdd, e54, e53, e11, e10, e9, e8, e7, e3, hpb, h2, h3]
        refine ⟨by omega, hE.upd f4 _, ?_⟩
        rw [← mix_set lT (by omega), hT]
      · have hmod := l1 (by omega)
        have hz : mod.getD j 0 = 0 := by rw [hmod]; rfl
        rw [hz, Int.mul_zero] at hT
        have q10 : (p - R.getD (n - 1) 0) * 0 = 0 := Int.mul_zero _
        simp (disch := first | assumption | omega) only [↓RP, RQ, TY, loadT, reduceIte, Nat.reduceEqDiff, Nat.reduceAdd, e54, e53, e11, e10, e9, e8, e7, e3, hjt, hpb, h2, h3, h4, hn1, q2, ek, q10]
        refine ⟨j + 1, ?_, by dsimp only; omega⟩
        simp (disch := first | assumption | omega) only [↓RP, RQ, TY, loadT, reduceIte, Nat.reduceEqDiff, Nat.reduceAdd, e54, e53, e11, e10, e9, e8, e7, e3, hpb, h2, h3]
        refine ⟨by omega, hE.upd f4 _, ?_⟩
        rw [← mix_set lT (by omega), hT]
    · simp (disch := first | assumption | omega) only [↓RP, RQ, TY, loadT, reduceIte, Nat.reduceEqDiff, Nat.reduceAdd, e54, e53, e11, e10, e9, e8, e7, e3, hjt]
      refine ⟨k + 1, ?_, by dsimp only; omega⟩
      simp (disch := first | assumption | omega) only [↓RP, RQ, TY, loadT, reduceIte, Nat.reduceEqDiff, Nat.reduceAdd, e54, e53, e11, e10, e9, e8, e7, e3]
      refine ⟨?_, by omega, hpb, hE, h2, h3, ?_⟩
      · congr 1
        omega
      · rw [s3, h4, mix_full lT (by omega)]
  · simp (disch := first | assumption | omega) only [↓RP, RQ, TY, loadT, reduceIte, Nat.reduceEqDiff, Nat.reduceAdd, e10, e9, e8, e7, e3, hlt, hpb]
    have hkn : k = n := by omega
    subst hkn
    refine c_fvalue o1 (Sl.own h4 (by rw [ints_length, s1])) s2 o6 (by omega) (by rw [s1]; exact o4) ?_
    simp (disch := first | assumption | omega) only [↓RP, RQ, TY, loadT, reduceIte, Nat.reduceEqDiff, Nat.reduceAdd]
    have := hQ H' hE
    rwa [pmul, hn, ha, hb, hR] at this
end Go.Proofs.YtbkpebmcagdgmaaGreat.AM
/-! The program's field, third part: powers, generator, shape, Check. -/
namespace Go.Proofs.YtbkpebmcagdgmaaGreat.AM
open Go Go.RowKit
set_option linter.unusedVariables false
set_option linter.unusedSimpArgs false
set_option maxRecDepth 20000
/-- the powers of x, as the program computes them -/
def pw (p m : Int) (mod : List Int) (x : Int) : Nat → Int
  | 0 => 1
  | 1 => x
  | n + 2 => pmul p m mod (pw p m mod x (n + 1)) x
/-- what the check of P, M and Mod lets in -/
def Shape (p m : Int) (mod : List Int) : Prop := ordr p m ≠ 0 ∧ prm p ∧ (m = 1 → mod = []) ∧ (m ≠ 1 → (mod.length : Int) = m ∧ Rng p mod)
theorem Shape.rm {p m : Int} {mod : List Int} (h : Shape p m mod) : Rng p mod := by
  by_cases h1 : m = 1
  · rw [h.2.2.1 h1]
    have := (ordr_pos h.1).1
    intro i
    simp
    omega
  · exact (h.2.2.2 h1).2
theorem Shape.lm {p m : Int} {mod : List Int} (h : Shape p m mod) (h1 : m ≠ 1) : (mod.length : Int) = m := (h.2.2.2 h1).1
theorem pmul_el {p m : Int} {mod : List Int} (ho : ordr p m ≠ 0) (x y : Int) : 0 ≤ pmul p m mod x y ∧ pmul p m mod x y < ordr p m := by
  obtain ⟨o1, o2, o3, o4, o5⟩ := ordr_pos ho
  have := val_lt (show 0 < p by omega) (horn_rng (show 0 < p by omega) m.toNat mod (digs p m.toNat x) (digs p m.toNat y) m.toNat)
  rw [horn_length] at this
  rw [o5]
  exact this
theorem pw_el {p m : Int} {mod : List Int} (ho : ordr p m ≠ 0) {x : Int} (hx : 0 ≤ x ∧ x < ordr p m) : ∀ n, 0 ≤ pw p m mod x n ∧ pw p m mod x n < ordr p m
  | 0 => by
    obtain ⟨o1, o2, o3, o4, o5⟩ := ordr_pos ho
    have h1 : p ^ 1 ≤ p ^ m.toNat := ipow_mono (by omega) (by omega)
    rw [show p ^ 1 = p by rw [Int.pow_succ, Int.pow_zero, Int.one_mul]] at h1
    rw [pw, o5]
    omega
  | 1 => hx
  | n + 2 => pmul_el ho _ _
/-- the powers of x are all elements but 0 -/
def IsGen (p m : Int) (mod : List Int) (x : Int) : Prop :=
  (∀ i : Nat, (i : Int) < ordr p m - 1 → pw p m mod x i ≠ 0) ∧ (∀ i j : Nat, i < j → (j : Int) < ordr p m - 1 → pw p m mod x i ≠ pw p m mod x j) ∧ pmul p m mod (pw p m mod x (ordr p m - 2).toNat) x = 1
/-- where the list of powers ends -/
def PwEnd (p m : Int) (mod : List Int) (x : Int) (k : Nat) : Prop :=
  1 ≤ k ∧ (∀ i, i < k → pw p m mod x i ≠ 0) ∧ (∀ i j, i < j → j < k → pw p m mod x i ≠ pw p m mod x j) ∧ (pw p m mod x k = 0 ∨ ∃ i, i < k ∧ pw p m mod x k = pw p m mod x i)
theorem count_set {L : List Bool} {y : Nat} (h : L.getD y false = false) (hy : y < L.length) : (L.set y true).count false + 1 = L.count false := by
  induction L generalizing y with
  | nil => simp at hy
  | cons a L ih =>
    cases y with
    | zero =>
      have : a = false := by simpa using h
      subst this
      simp
    | succ y =>
      have := ih (y := y) (by simpa using h) (by simpa using hy)
      simp only [List.set_cons_succ, List.count_cons]
      omega
theorem count_pos {L : List Bool} {y : Nat} (h : L.getD y false = false) (hy : y < L.length) : 1 ≤ L.count false := by
  have := count_set h hy
  omega
theorem tab_succ {α : Type} (n : Nat) (f : Nat → α) : tab (n + 1) f = tab n f ++ [f n] := by simp [tab, List.range_succ]
theorem c_powers {p m x : Int} {md : AV} {mod : List Int} {H : AH} {Q : AV → AH → Prop} (hm : Ints H md mod) (hs : Shape p m mod) (hx : 1 ≤ x) (hx' : x < ordr p m)
    (hQ : ∀ k v H', Ext H H' → PwEnd p m mod x k → (k : Int) < ordr p m → Own H H' v (ints (tab k (pw p m mod x))) → Q v H') : AC Tryz.prog 185 [.agg [.int .i64 p, .int .i64 m, md], .int .i64 (ordr p m), .int .i64 x] H Q := by
  obtain ⟨o1, o2, o3, o4, o5⟩ := ordr_pos hs.1
  generalize hq : ordr p m = q at *
  have pel := pw_el (mod := mod) (show ordr p m ≠ 0 by omega) (x := x) ⟨by omega, by omega⟩
  rw [hq] at pel
  refine at185 (by simp) ?_
  simp (disch := first | assumption | omega) only [↓RP, RQ, TY, loadT, s185, reduceIte, Nat.reduceEqDiff, Nat.reduceAdd]
  refine kNew_intro fun b H1 hb hE1 hH1 => ?_
  simp (disch := first | assumption | omega) only [↓RP, RQ, TY, loadT, reduceIte, Nat.reduceEqDiff, Nat.reduceAdd, hH1]
  refine kNew_intro fun b2 H2 hb2 hE2 hH2 => ?_
  have hE12 := hE1.trans hE2
  simp (disch := first | assumption | omega) only [↓RP, RQ, TY, loadT, reduceIte, Nat.reduceEqDiff, Nat.reduceAdd]
  refine kNew_intro fun b3 H3 hb3 hE3 hH3 => ?_
  have hE13 := hE12.trans hE3
  rw [bools_repl] at hH3
  have n13 : b ≠ b3 := fun q => by rw [← q, hE2.rw hH1] at hb3; cases hb3
  have n23 : b2 ≠ b3 := fun q => by rw [← q, hH2] at hb3; cases hb3
  have f3 := hE12.free hb3
  have n12 : b ≠ b2 := fun q => by rw [← q, hH1] at hb2; cases hb2
  have f2 := hE1.free hb2
  have bl : (bools (List.replicate q.toNat false)).length = q.toNat := by simp [bools]
  simp (disch := first | assumption | omega) only [↓RP, RQ, TY, loadT, reduceIte, Nat.reduceEqDiff, Nat.reduceAdd, hH3, bools_set]
  have hE4 := hE13.upd f3 (.rw (bools ((List.replicate q.toNat false).set (Int.toNat 1) true)))
  refine sw_loop (σ := Nat × AV × List Bool) (fun s e H' => e 9 = .int .i64 (pw p m mod x (s.1 + 1)) ∧ e 8 = .sl b3 0 q.toNat (.own 1) ∧ e 7 = s.2.1 ∧ e 2 = .int .i64 x ∧ e 3 = .ptr b 0 ∧ Ext H H' ∧ H' b = .rw [.int .i64 p, .int .i64 m, md] ∧ Off s.2.1 b ∧
    H' b3 = .rw (bools s.2.2) ∧ Off s.2.1 b3 ∧ s.2.2.length = q.toNat ∧ Own H H' s.2.1 (ints (tab (s.1 + 1) (pw p m mod x))) ∧ (∀ i, i < s.1 + 1 → pw p m mod x i ≠ 0) ∧ (∀ i j, i < j → j < s.1 + 1 → pw p m mod x i ≠ pw p m mod x j) ∧
    (∀ y : Nat, (y : Int) < q → (s.2.2.getD y false = true ↔ ∃ i, i < s.1 + 1 ∧ pw p m mod x i = y)) ∧ s.2.2.count false + s.1 + 1 = q.toNat) (fun s => s.2.2.count false) (0, .sl b2 0 1 (.own 1), (List.replicate q.toNat false).set 1 true) ?_ ?_
  · have o1' : Int.toNat 1 = 1 := rfl
    have l0 : ((List.replicate q.toNat false).set 1 true).length = q.toNat := by simp
    have q1 : 1 < q.toNat := by omega
    simp (disch := first | assumption | omega) only [↓RP, RQ, TY, loadT, reduceIte, Nat.reduceEqDiff, Nat.reduceAdd, o1']
    refine ⟨rfl, hE4, ?_, fun o n c q => (by cases q; exact n12 rfl), fun o n c q => (by cases q; exact n23 rfl), l0, ?_, ?_, ?_, ?_, ?_⟩
    · exact hE3.rw (hE2.rw hH1)
    · refine Own.mk ?_ f2 rfl
      simp only [AH.upd, n23, if_false]
      exact hE3.rw hH2
    · intro i hi
      rw [show i = 0 by omega]
      show (1 : Int) ≠ 0
      decide
    · intro i j h1 h2
      omega
    · intro y hy
      rw [getD_setN]
      simp only [List.length_replicate]
      by_cases hy1 : y = 1
      · subst hy1
        rw [if_pos ⟨rfl, q1⟩]
        exact ⟨fun _ => ⟨0, by omega, rfl⟩, fun _ => rfl⟩
      · rw [if_neg (fun h => hy1 h.1)]
        have e0 : (List.replicate q.toNat false).getD y false = false := by
          rw [List.getD_eq_getElem?_getD, List.getElem?_replicate]
          split <;> rfl
        rw [e0]
        refine ⟨fun h => (by cases h), fun ⟨i, h1, h2⟩ => ?_⟩
        rw [show i = 0 by omega] at h2
        have h3 : (1 : Int) = y := h2
        omega
    · have := count_set (L := List.replicate q.toNat false) (y := 1) (by rw [List.getD_eq_getElem?_getD, List.getElem?_replicate]; split <;> rfl) (by simpa using q1)
      simp at this ⊢
      omega
  rintro ⟨k, v, L⟩ e H' ⟨e9, e8, e7, e2, e3, hE, hb', ob, h3, ob3, hL, ho, nz, inj, seen, cnt⟩
  dsimp only at *
  have pk := pel (k + 1)
  have hbl := bools_length L
  have c1 : L.getD 0 false = false := by
    cases hc : L.getD 0 false
    · rfl
    · obtain ⟨i, h1, h2⟩ := (seen 0 (by omega)).mp hc
      exact (nz i h1 h2).elim
  have c2 := count_pos c1 (by omega)
  by_cases hz : pw p m mod x (k + 1) = 0
  · simp (disch := first | assumption | omega) only [↓RP, RQ, TY, loadT, reduceIte, Nat.reduceEqDiff, Nat.reduceAdd, e9, e8, e7, e2, e3, hz]
    exact hQ (k + 1) v H' hE ⟨by omega, nz, inj, .inl hz⟩ (by omega) ho
  generalize hy : (pw p m mod x (k + 1)).toNat = y at *
  have hy' : pw p m mod x (k + 1) = y := by omega
  have sy := seen y (by omega)
  cases hs2 : L.getD y false
  rotate_left
  · simp (disch := first | assumption | omega) only [↓RP, RQ, TY, loadT, reduceIte, Nat.reduceEqDiff, Nat.reduceAdd, e9, e8, e7, e2, e3, hz, h3, bools_get, hy, hs2, Bool.not_true]
    obtain ⟨i, h1, h2⟩ := sy.mp hs2
    exact hQ (k + 1) v H' hE ⟨by omega, nz, inj, .inr ⟨i, h1, by rw [h2, hy']⟩⟩ (by omega) ho
  have hnew : ∀ i, i < k + 1 → pw p m mod x i ≠ pw p m mod x (k + 1) := fun i h1 h2 => by
    have := sy.mpr ⟨i, h1, by rw [h2, hy']⟩
    rw [hs2] at this
    cases this
  simp (disch := first | assumption | omega) only [↓RP, RQ, TY, loadT, reduceIte, Nat.reduceEqDiff, Nat.reduceAdd, e9, e8, e7, e2, e3, hz, h3, bools_get, hy, hs2, Bool.not_false, bools_set]
  refine kNew_intro fun b5 H5 hb5 hE5 hH5 => ?_
  simp (disch := first | assumption | omega) only [↓RP, RQ, TY, loadT, reduceIte, Nat.reduceEqDiff, Nat.reduceAdd, e9, e8, e7, e2, e3]
  have hEu := hE.upd f3 (.rw (bools (L.set y true)))
  have hou : Own H (H'.upd b3 (.rw (bools (L.set y true)))) v (ints (tab (k + 1) (pw p m mod x))) := by
    obtain ⟨bv, q1, q2, q3⟩ := ho.block (fun h => by have := congrArg List.length h; rw [ints_length, tab_length] at this; simp at this)
    have : bv ≠ b3 := fun h => by
      rw [h] at q1
      exact ob3 _ _ _ q1
    exact .inr ⟨bv, q1, by simp only [AH.upd, this, if_false]; exact q2, q3⟩
  have hk256 : k ≤ 1000 := by omega
  have hcs := count_set hs2 (show y < L.length by omega)
  have hcs2 : (L.set y true).count false < L.count false := Nat.lt_of_succ_le (Nat.le_of_eq hcs)
  have hcs3 : (L.set y true).count false + (k + 1) + 1 = q.toNat := by rw [← cnt, ← hcs, Nat.add_right_comm _ 1 k]; rfl
  refine kApp_own (H0 := H) (us := ints [pw p m mod x (k + 1)]) (hou.ext hE5) (hEu.trans hE5) (Sl.own hH5 rfl) ints_ones (by simp [ints_length, tab_length]; omega) (by simp [ints_length, tab_length]; omega) fun v6 H6 hE6 ho6 keep6 => ?_
  have n3 : b ≠ b3 := n13
  obtain ⟨k1, k2⟩ := keep6 b _ (hE5.rw (by simp only [AH.upd, n3, if_false]; exact hb')) ob
  obtain ⟨k3, k4⟩ := keep6 b3 (bools (L.set y true)) (hE5.rw (by simp [AH.upd])) ob3
  rw [ints_app, ← tab_succ] at ho6
  simp (disch := first | assumption | omega) only [↓RP, RQ, TY, loadT, reduceIte, Nat.reduceEqDiff, Nat.reduceAdd, e9, e8, e7, e2, e3, k1]
  refine c_multiply (hm.ext hE6) hs.rm hs.lm hs.2.2.1 (pel (k + 1)).1 (by rw [hq]; exact (pel (k + 1)).2) (by omega) (by rw [hq]; exact hx') fun H7 hE7 => ?_
  simp (disch := first | assumption | omega) only [↓RP, RQ, TY, loadT, reduceIte, Nat.reduceEqDiff, Nat.reduceAdd, e9, e8, e7, e2, e3]
  refine ⟨(k + 1, v6, L.set y true), ?_, by dsimp only; exact hcs2⟩
  simp (disch := first | assumption | omega) only [↓RP, RQ, TY, loadT, reduceIte, Nat.reduceEqDiff, Nat.reduceAdd, e9, e8, e7, e2, e3]
  refine ⟨rfl, hE6.trans hE7, hE7.rw k1, k2, hE7.rw k3, k4, by simpa using hL, ho6.ext hE7, fun i hi => ?_, fun i j h1 h2 => ?_, fun z hz' => ?_, ?_⟩
  · by_cases hik : i = k + 1
    · rw [hik]; exact hz
    · exact nz i (by omega)
  · by_cases hjk : j = k + 1
    · rw [hjk]; exact hnew i (by omega)
    · exact inj i j h1 (by omega)
  · rw [getD_setN]
    by_cases hzy : z = y
    · subst hzy
      rw [if_pos ⟨rfl, by omega⟩]
      exact ⟨fun _ => ⟨k + 1, by omega, hy'⟩, fun _ => rfl⟩
    · rw [if_neg (fun h => hzy h.1), seen z hz']
      refine ⟨fun ⟨i, h1, h2⟩ => ⟨i, by omega, h2⟩, fun ⟨i, h1, h2⟩ => ?_⟩
      by_cases hik : i = k + 1
      · rw [hik, hy'] at h2
        omega
      · exact ⟨i, by omega, h2⟩
  · exact hcs3
end Go.Proofs.YtbkpebmcagdgmaaGreat.AM
/-! The program's field, fourth part: generator, shape, Check. -/
namespace Go.Proofs.YtbkpebmcagdgmaaGreat.AM
open Go Go.RowKit
set_option linter.unusedVariables false
set_option linter.unusedSimpArgs false
set_option maxRecDepth 20000
theorem tab_getI {n : Nat} {f : Nat → Int} {i : Nat} (h : i < n) : (tab n f).getD i 0 = f i := tab_get h
theorem c_generator {p m : Int} {md : AV} {mod : List Int} {H : AH} {Q : AV → AH → Prop} (hm : Ints H md mod) (hs : Shape p m mod)
    (hQ1 : ∀ x v H', Ext H H' → 1 ≤ x → x < ordr p m → IsGen p m mod x → Own H H' v (ints (tab (ordr p m - 1).toNat (pw p m mod x))) → Q v H')
    (hQ0 : ∀ H', Ext H H' → (∀ x, 1 ≤ x → x < ordr p m → ¬ IsGen p m mod x) → Q .nils H') : AC Tryz.prog 147 [.agg [.int .i64 p, .int .i64 m, md], .int .i64 (ordr p m)] H Q := by
  obtain ⟨o1, o2, o3, o4, o5⟩ := ordr_pos hs.1
  have h1 : p ^ 1 ≤ p ^ m.toNat := ipow_mono (by omega) (by omega)
  rw [show p ^ 1 = p by rw [Int.pow_succ, Int.pow_zero, Int.one_mul]] at h1
  refine at147 (by simp) ?_
  simp (disch := first | assumption | omega) only [↓RP, RQ, TY, loadT, s147, reduceIte, Nat.reduceEqDiff, Nat.reduceAdd]
  refine kNew_intro fun b H1 hb hE1 hH1 => ?_
  simp (disch := first | assumption | omega) only [↓RP, RQ, TY, loadT, reduceIte, Nat.reduceEqDiff, Nat.reduceAdd]
  refine sw_loop (σ := Nat) (fun x e H' => e 5 = .int .i64 x ∧ e 1 = .int .i64 (ordr p m) ∧ e 2 = .ptr b 0 ∧ 1 ≤ x ∧ (x : Int) ≤ ordr p m ∧ Ext H H' ∧ H' b = .rw [.int .i64 p, .int .i64 m, md] ∧ ∀ z : Int, 1 ≤ z → z < x → ¬ IsGen p m mod z) (fun x => (ordr p m).toNat - x) 1 ?_ ?_
  · simp (disch := first | assumption | omega) only [↓RP, RQ, TY, loadT, reduceIte, Nat.reduceEqDiff, Nat.reduceAdd]
    exact ⟨rfl, by omega, by omega, hE1, hH1, fun z h1 h2 => by omega⟩
  rintro x e H' ⟨e5, e1, e2, hx, hx', hE, hb', hz⟩
  by_cases hlt : (x : Int) < ordr p m
  rotate_left
  · simp (disch := first | assumption | omega) only [↓RP, RQ, TY, loadT, reduceIte, Nat.reduceEqDiff, Nat.reduceAdd, e5, e1, e2, hlt]
    exact hQ0 H' hE fun z h1 h2 => hz z h1 (by omega)
  simp (disch := first | assumption | omega) only [↓RP, RQ, TY, loadT, reduceIte, Nat.reduceEqDiff, Nat.reduceAdd, e5, e1, e2, hlt, hb']
  refine c_powers (hm.ext hE) hs (by omega) hlt fun k v H2 hE2 hk hkq ho => ?_
  obtain ⟨k1, k2, k3, k4⟩ := hk
  have hb2 := hE2.rw hb'
  have hE12 := hE.trans hE2
  have hvi := ho.sl.ints
  rw [tab_length] at hvi
  by_cases hkk : (k : Int) = ordr p m - 1
  rotate_left
  · simp (disch := first | assumption | omega) only [↓RP, RQ, TY, loadT, reduceIte, Nat.reduceEqDiff, Nat.reduceAdd, e5, e1, e2, hvi, eq_false hkk]
    refine ⟨x + 1, ?_, by dsimp only; omega⟩
    simp (disch := first | assumption | omega) only [↓RP, RQ, TY, loadT, reduceIte, Nat.reduceEqDiff, Nat.reduceAdd, e5, e1, e2]
    refine ⟨by omega, by omega, hE12, hb2, fun z h1 h2 => ?_⟩
    by_cases hzx : z = x
    · rw [hzx]
      rintro ⟨g1, g2, -⟩
      rcases k4 with k4 | ⟨i, h3, h4⟩
      · exact g1 k (by omega) k4
      · exact g2 i k h3 (by omega) h4.symm
    · exact hz z h1 (by omega)
  have el := pw_el (mod := mod) hs.1 (x := (x : Int)) ⟨by omega, hlt⟩ (ordr p m - 2).toNat
  have gk := tab_getI (f := pw p m mod x) (show (ordr p m - 2).toNat < k by omega)
  simp (disch := first | assumption | omega) only [↓RP, RQ, TY, loadT, reduceIte, Nat.reduceEqDiff, Nat.reduceAdd, e5, e1, e2, hvi, eq_true hkk, hb2, gk]
  refine c_multiply (hm.ext hE12) hs.rm hs.lm hs.2.2.1 el.1 el.2 (by omega) hlt fun H3 hE3 => ?_
  have hE13 := hE12.trans hE3
  have hvi3 := (ho.ext hE3).sl.ints
  rw [tab_length] at hvi3
  by_cases h1 : pmul p m mod (pw p m mod x (ordr p m - 2).toNat) x = 1
  · simp (disch := first | assumption | omega) only [↓RP, RQ, TY, loadT, reduceIte, Nat.reduceEqDiff, Nat.reduceAdd, e5, e1, e2, h1, hE3.rw hb2, hvi3, gk]
    refine hQ1 x v H3 hE13 (by omega) hlt ⟨fun i hi => k2 i (by omega), fun i j h2 h3 => k3 i j h2 (by omega), h1⟩ ?_
    rw [show (ordr p m - 1).toNat = k by omega]
    exact (ho.ext hE3).old hE
  · simp (disch := first | assumption | omega) only [↓RP, RQ, TY, loadT, reduceIte, Nat.reduceEqDiff, Nat.reduceAdd, e5, e1, e2, h1, hE3.rw hb2, hvi3, gk]
    refine ⟨x + 1, ?_, by dsimp only; omega⟩
    simp (disch := first | assumption | omega) only [↓RP, RQ, TY, loadT, reduceIte, Nat.reduceEqDiff, Nat.reduceAdd, e5, e1, e2]
    refine ⟨by omega, by omega, hE13, hE3.rw hb2, fun z h3 h2 => ?_⟩
    by_cases hzx : z = x
    · rw [hzx]
      exact fun g => h1 g.2.2
    · exact hz z h3 (by omega)
open Classical in
theorem c_shape {p m : Int} {md : AV} {mod : List Int} {H : AH} {Q : AV → AH → Prop} (hm : Ints H md mod) (hl : mod.length ≤ 9223372036854775807)
    (hQ : ∀ H', Ext H H' → Q (.bool (decide (Shape p m mod))) H') : AC Tryz.prog 146 [.agg [.int .i64 p, .int .i64 m, md]] H Q := by
  refine at146 (by simp) ?_
  simp (disch := first | assumption | omega) only [↓RP, RQ, TY, loadT, s146, reduceIte, Nat.reduceEqDiff, Nat.reduceAdd]
  refine kNew_intro fun b H1 hb hE hH1 => ?_
  have hm1 := hm.ext hE
  have no : ¬ Shape p m mod → Q (.bool false) H1 := fun h => by
    have := hQ H1 hE
    rwa [decide_eq_false h] at this
  simp (disch := first | assumption | omega) only [↓RP, RQ, TY, loadT, reduceIte, Nat.reduceEqDiff, Nat.reduceAdd, hH1]
  refine c_forder ?_
  by_cases ho : ordr p m = 0
  · simp (disch := first | assumption | omega) only [↓RP, RQ, TY, loadT, reduceIte, Nat.reduceEqDiff, Nat.reduceAdd, hH1, ho]
    exact no fun h => h.1 ho
  obtain ⟨o1, o2, o3, o4, o5⟩ := ordr_pos ho
  have o6 := ordr_p ho
  simp (disch := first | assumption | omega) only [↓RP, RQ, TY, loadT, reduceIte, Nat.reduceEqDiff, Nat.reduceAdd, hH1, ho]
  refine c_isPrime o1 o6 ?_
  by_cases hp : prm p
  rotate_left
  · simp (disch := first | assumption | omega) only [↓RP, RQ, TY, loadT, reduceIte, Nat.reduceEqDiff, Nat.reduceAdd, hH1, ho, hp]
    exact no fun h => hp h.2.1
  by_cases h1 : m = 1
  · by_cases hl : (mod.length : Int) = 0
    · simp (disch := first | assumption | omega) only [↓RP, RQ, TY, loadT, reduceIte, Nat.reduceEqDiff, Nat.reduceAdd, hH1, hp, h1, hl, hm1.ints]
      have := hQ H1 hE
      rwa [decide_eq_true ⟨ho, hp, fun _ => List.length_eq_zero_iff.mp (by omega), fun q => (q h1).elim⟩] at this
    · simp (disch := first | assumption | omega) only [↓RP, RQ, TY, loadT, reduceIte, Nat.reduceEqDiff, Nat.reduceAdd, hH1, hp, h1, hl, hm1.ints]
      exact no fun h => hl (by rw [h.2.2.1 h1]; rfl)
  by_cases hlm : (mod.length : Int) = m
  rotate_left
  · simp (disch := first | assumption | omega) only [↓RP, RQ, TY, loadT, reduceIte, Nat.reduceEqDiff, Nat.reduceAdd, hH1, hp, h1, eq_false hlm, hm1.ints]
    exact no fun h => hlm (h.2.2.2 h1).1
  simp (disch := first | assumption | omega) only [↓RP, RQ, TY, loadT, reduceIte, Nat.reduceEqDiff, Nat.reduceAdd, hH1, hp, h1, eq_true hlm, hm1.ints]
  refine sw_loop (σ := Nat) (fun i e H' => e 33 = .int .i64 i ∧ e 32 = .int .i64 mod.length ∧ e 31 = md ∧ e 1 = .ptr b 0 ∧ i ≤ mod.length ∧ H' = H1 ∧ ∀ j, j < i → 0 ≤ mod.getD j 0 ∧ mod.getD j 0 < p) (fun i => mod.length - i) 0 ?_ ?_
  · simp (disch := first | assumption | omega) only [↓RP, RQ, TY, loadT, reduceIte, Nat.reduceEqDiff, Nat.reduceAdd]
    exact ⟨by omega, fun j hj => by omega⟩
  rintro i e H' ⟨e33, e32, e31, e1, hi, rfl, hj⟩
  by_cases hlt : (i : Int) < mod.length
  · by_cases c1 : mod.getD i 0 < 0
    · simp (disch := first | assumption | omega) only [↓RP, RQ, TY, loadT, reduceIte, Nat.reduceEqDiff, Nat.reduceAdd, e33, e32, e31, e1, hlt, hH1, c1, hm1.ints]
      exact no fun h => absurd ((h.2.2.2 h1).2 i).1 (by omega)
    by_cases c2 : p ≤ mod.getD i 0
    · simp (disch := first | assumption | omega) only [↓RP, RQ, TY, loadT, reduceIte, Nat.reduceEqDiff, Nat.reduceAdd, e33, e32, e31, e1, hlt, hH1, c1, c2, hm1.ints]
      exact no fun h => absurd ((h.2.2.2 h1).2 i).2 (by omega)
    simp (disch := first | assumption | omega) only [↓RP, RQ, TY, loadT, reduceIte, Nat.reduceEqDiff, Nat.reduceAdd, e33, e32, e31, e1, hlt, hH1, c1, c2, hm1.ints]
    refine ⟨i + 1, ?_, by dsimp only; omega⟩
    simp (disch := first | assumption | omega) only [↓RP, RQ, TY, loadT, reduceIte, Nat.reduceEqDiff, Nat.reduceAdd, e33, e32, e31, e1]
    refine ⟨by omega, fun j h => ?_⟩
    by_cases hji : j = i
    · rw [hji]; exact ⟨by omega, by omega⟩
    · exact hj j (by omega)
  · have hr : Rng p mod := fun j => by
      by_cases hji : j < i
      · exact hj j hji
      · rw [List.getD_eq_getElem?_getD, List.getElem?_eq_none (by omega)]
        exact ⟨by simp, by simpa using (show 0 < p by omega)⟩
    simp (disch := first | assumption | omega) only [↓RP, RQ, TY, loadT, reduceIte, Nat.reduceEqDiff, Nat.reduceAdd, e33, e32, e31, e1, hlt, hH1]
    have := hQ H' hE
    rwa [decide_eq_true ⟨ho, hp, fun q => (h1 q).elim, fun _ => ⟨hlm, hr⟩⟩] at this
/-- just the fields have a generator -/
def GenIff : Prop := ∀ p m mod, (FieldOk p m mod ↔ Shape p m mod ∧ ∃ x, 1 ≤ x ∧ x < ordr p m ∧ IsGen p m mod x)
open Classical in
theorem c_CheckF (GI : GenIff) {p m : Int} {md : AV} {mod : List Int} {H : AH} {Q : AV → AH → Prop} (hm : Ints H md mod) (hl : mod.length ≤ 9223372036854775807)
    (hQ : ∀ H', Ext H H' → Q (.int .i64 (if FieldOk p m mod then 0 else 1)) H') : AC Tryz.prog 108 [.agg [.int .i64 p, .int .i64 m, md]] H Q := by
  refine at108 (by simp) ?_
  simp (disch := first | assumption | omega) only [↓RP, RQ, TY, loadT, s108, reduceIte, Nat.reduceEqDiff, Nat.reduceAdd]
  refine kNew_intro fun b H1 hb hE1 hH1 => ?_
  simp (disch := first | assumption | omega) only [↓RP, RQ, TY, loadT, reduceIte, Nat.reduceEqDiff, Nat.reduceAdd, hH1]
  refine c_shape (hm.ext hE1) hl fun H2 hE2 => ?_
  have hb2 := hE2.rw hH1
  have hE12 := hE1.trans hE2
  by_cases hs : Shape p m mod
  rotate_left
  · simp (disch := first | assumption | omega) only [↓RP, RQ, TY, loadT, reduceIte, Nat.reduceEqDiff, Nat.reduceAdd, hs, hb2]
    have := hQ H2 hE12
    rwa [if_neg (fun h => hs ((GI _ _ _).mp h).1)] at this
  simp (disch := first | assumption | omega) only [↓RP, RQ, TY, loadT, reduceIte, Nat.reduceEqDiff, Nat.reduceAdd, hs, hb2]
  refine c_forder ?_
  simp (disch := first | assumption | omega) only [↓RP, RQ, TY, loadT, reduceIte, Nat.reduceEqDiff, Nat.reduceAdd, hb2]
  refine c_generator (hm.ext hE12) hs (fun x v H3 hE3 h1 h2 hg ho => ?_) (fun H3 hE3 hno => ?_)
  · have hb3 := hE3.rw hb2
    obtain ⟨bv, rfl, -, -⟩ := ho.block (fun h => by
      have := congrArg List.length h
      rw [ints_length, tab_length] at this
      simp at this
      omega)
    simp (disch := first | assumption | omega) only [↓RP, RQ, TY, loadT, reduceIte, Nat.reduceEqDiff, Nat.reduceAdd, hb3, u_eqN]
    refine ⟨rfl, ?_⟩
    have := hQ H3 (hE12.trans hE3)
    rwa [if_pos ((GI _ _ _).mpr ⟨hs, x, h1, h2, hg⟩)] at this
  · have hb3 := hE3.rw hb2
    simp (disch := first | assumption | omega) only [↓RP, RQ, TY, loadT, reduceIte, Nat.reduceEqDiff, Nat.reduceAdd, hb3, u_eqNN]
    refine ⟨rfl, ?_⟩
    have := hQ H3 (hE12.trans hE3)
    rwa [if_neg (fun h => by
      obtain ⟨-, x, h1, h2, hg⟩ := (GI _ _ _).mp h
      exact hno x h1 h2 hg)] at this
end Go.Proofs.YtbkpebmcagdgmaaGreat.AM
/-! The program's field, fifth part: New. -/
namespace Go.Proofs.YtbkpebmcagdgmaaGreat.AM
open Go Go.RowKit
set_option linter.unusedVariables false
set_option linter.unusedSimpArgs false
set_option maxRecDepth 20000
/-- a field that New made -/
def GFA (H : AH) (b : Nat) (p m : Int) (mod : List Int) : Prop := ∃ md x ev lv lg, H b = .rw [.int .i64 p, .int .i64 m, md, .int .i64 (ordr p m), ev, lv] ∧ Ints H md mod ∧ Ints H ev (tab (ordr p m - 1).toNat (pw p m mod x)) ∧ Ints H lv lg ∧
  (lg.length : Int) = ordr p m ∧ (∀ n : Nat, (n : Int) < ordr p m - 1 → lg.getD (pw p m mod x n).toNat 0 = n) ∧ IsGen p m mod x ∧ 1 ≤ x ∧ x < ordr p m ∧ FieldOk p m mod
theorem GFA.ext {H H' : AH} {b : Nat} {p m : Int} {mod : List Int} (h : GFA H b p m mod) (hE : Ext H H') : GFA H' b p m mod := by
  obtain ⟨md, x, ev, lv, lg, h1, h2, h3, h4, h5⟩ := h
  exact ⟨md, x, ev, lv, lg, hE.rw h1, h2.ext hE, h3.ext hE, h4.ext hE, h5⟩
theorem fill_fld {p m : Int} {v a b c : AV} (hv : v.isSl = true) : aFill (fun i => [(0, 1), (1, 1), (2, 1)][i]?) [a, b, c] [(0, .int .i64 p), (1, .int .i64 m), (2, v)] = some [.int .i64 p, .int .i64 m, v] := by
  cases v <;> first | rfl | (simp [AV.isSl] at hv)
theorem fill_gf {p m q : Int} {v v2 v3 a b c d e f : AV} (h2 : v2.isSl = true) (h3 : v3.isSl = true) : aFill (fun i => [(0, 3), (3, 1), (4, 1), (5, 1)][i]?) [a, b, c, d, e, f] [(0, .agg [.int .i64 p, .int .i64 m, v]), (1, .int .i64 q), (2, v2), (3, v3)] = some [.int .i64 p, .int .i64 m, v, .int .i64 q, v2, v3] := by
  cases v2 <;> cases v3 <;> first | rfl | (simp [AV.isSl] at h2 h3)
open Classical in
theorem c_New (GI : GenIff) {p m : Int} {md : AV} {mod : List Int} {H : AH} {Q : AV → AH → Prop} (hm : Ints H md mod) (hl : mod.length ≤ 9223372036854775807)
    (hQ1 : ∀ b H', Ext H H' → FieldOk p m mod → GFA H' b p m mod → Q (.tup [.ptr b 0, .int .i64 0]) H') (hQ0 : ∀ H', Ext H H' → ¬ FieldOk p m mod → Q (.tup [.nilp, .int .i64 1]) H') : AC Tryz.prog 118 [.agg [.int .i64 p, .int .i64 m, md]] H Q := by
  refine at118 (by simp) ?_
  simp (disch := first | assumption | omega) only [↓RP, RQ, TY, loadT, s118, reduceIte, Nat.reduceEqDiff, Nat.reduceAdd]
  refine kNew_intro fun b H1 hb hE1 hH1 => ?_
  simp (disch := first | assumption | omega) only [↓RP, RQ, TY, loadT, reduceIte, Nat.reduceEqDiff, Nat.reduceAdd, hH1]
  refine c_shape (hm.ext hE1) hl fun H2 hE2 => ?_
  have hb2 := hE2.rw hH1
  have hE12 := hE1.trans hE2
  by_cases hs : Shape p m mod
  rotate_left
  · simp (disch := first | assumption | omega) only [↓RP, RQ, TY, loadT, reduceIte, Nat.reduceEqDiff, Nat.reduceAdd, hs, hb2]
    exact hQ0 H2 hE12 (fun h => hs ((GI _ _ _).mp h).1)
  obtain ⟨o1, o2, o3, o4, o5⟩ := ordr_pos hs.1
  have hp1 : p ^ 1 ≤ p ^ m.toNat := ipow_mono (by omega) (by omega)
  rw [show p ^ 1 = p by rw [Int.pow_succ, Int.pow_zero, Int.one_mul]] at hp1
  have hlm : mod.length ≤ 8 := by
    by_cases h1 : m = 1
    · rw [hs.2.2.1 h1]; simp
    · have := hs.lm h1; omega
  simp (disch := first | assumption | omega) only [↓RP, RQ, TY, loadT, reduceIte, Nat.reduceEqDiff, Nat.reduceAdd, hs, hb2]
  refine c_forder ?_
  simp (disch := first | assumption | omega) only [↓RP, RQ, TY, loadT, reduceIte, Nat.reduceEqDiff, Nat.reduceAdd, hb2]
  refine c_generator (hm.ext hE12) hs (fun x v H3 hE3 h1 h2 hg ho => ?_) (fun H3 hE3 hno => ?_)
  rotate_left
  · have hb3 := hE3.rw hb2
    simp (disch := first | assumption | omega) only [↓RP, RQ, TY, loadT, reduceIte, Nat.reduceEqDiff, Nat.reduceAdd, hb3, u_eqNN]
    refine ⟨rfl, ?_⟩
    exact hQ0 H3 (hE12.trans hE3) (fun h => by
      obtain ⟨-, x, h1, h2, hg⟩ := (GI _ _ _).mp h
      exact hno x h1 h2 hg)
  have hF : FieldOk p m mod := (GI _ _ _).mpr ⟨hs, x, h1, h2, hg⟩
  have hb3 := hE3.rw hb2
  have hE13 := hE12.trans hE3
  have tl : (ints (tab (ordr p m - 1).toNat (pw p m mod x))).length = (ordr p m - 1).toNat := by rw [ints_length, tab_length]
  have hvi := ho.sl.ints
  have hvsl := ho.sl
  rw [tab_length] at hvi
  obtain ⟨bv, hv, -, -⟩ := ho.block (fun h => by
    have := congrArg List.length h
    rw [ints_length, tab_length] at this
    simp at this
    omega)
  rw [tl] at hv
  rw [hv]
  simp (disch := first | assumption | omega) only [↓RP, RQ, TY, loadT, reduceIte, Nat.reduceEqDiff, Nat.reduceAdd, hb3, u_eqN]
  refine ⟨rfl, ?_⟩
  refine kNew_intro fun b4 H4 hb4 hE4 hH4 => ?_
  have hb34 := hE4.rw hb3
  have hE14 := hE13.trans hE4
  simp (disch := first | assumption | omega) only [↓RP, RQ, TY, loadT, reduceIte, Nat.reduceEqDiff, Nat.reduceAdd, hb34]
  refine kApp_own (H0 := H3) (zs := []) (us := ints mod) (Own.mk hH4 hb4 rfl) hE4 (hm.ext hE14) ints_ones (by simp [ints_length]; omega) (by simp [ints_length]; omega) fun v5 H5 hE5 ho5 keep5 => ?_
  have hb5 := hE5.rw hb3
  rw [List.nil_append] at ho5
  simp (disch := first | assumption | omega) only [↓RP, RQ, TY, loadT, reduceIte, Nat.reduceEqDiff, Nat.reduceAdd, hb5, fill_fld ho5.sl.isSl]
  refine kNew_intro fun b6 H6 hb6 hE6 hH6 => ?_
  have hb6' := hE6.rw hb5
  rw [ints_repl] at hH6
  have i1 : (AV.sl bv 0 (ordr p m - 1).toNat (.own 1)).isSl = true := rfl
  have i2 : (AV.sl b6 0 (ordr p m).toNat (.own 1)).isSl = true := rfl
  simp (disch := first | assumption | omega) only [↓RP, RQ, TY, loadT, reduceIte, Nat.reduceEqDiff, Nat.reduceAdd, hb6', fill_gf i1 i2]
  refine kNew_intro fun b7 H7 hb7 hE7 hH7 => ?_
  have h67 := hE7.rw hH6
  have hb7' := hE7.rw hb6'
  have n67 : b7 ≠ b6 := fun q => by rw [q, hH6] at hb7; cases hb7
  simp (disch := first | assumption | omega) only [↓RP, RQ, TY, loadT, reduceIte, Nat.reduceEqDiff, Nat.reduceAdd, hb7']
  have el := pw_el (mod := mod) hs.1 (x := x) ⟨by omega, h2⟩
  have hvi5 := (hvsl.ext hE5)
  rw [hv] at hvi5
  have vint := hvi5.ints
  rw [tab_length] at vint
  refine sw_loop (σ := Nat × List Int) (fun s e H' => e 39 = .int .i64 s.1 ∧ e 38 = .int .i64 (ordr p m - 1).toNat ∧ e 37 = .sl bv 0 (ordr p m - 1).toNat (.own 1) ∧ e 6 = .ptr b7 0 ∧ s.1 ≤ (ordr p m - 1).toNat ∧ Ext H5 H' ∧
    H' b7 = .rw [.int .i64 p, .int .i64 m, v5, .int .i64 (ordr p m), .sl bv 0 (ordr p m - 1).toNat (.own 1), .sl b6 0 (ordr p m).toNat (.own 1)] ∧ H' b6 = .rw (ints s.2) ∧ s.2.length = (ordr p m).toNat ∧ ∀ n : Nat, n < s.1 → s.2.getD (pw p m mod x n).toNat 0 = n)
    (fun s => (ordr p m - 1).toNat - s.1) (0, List.replicate (ordr p m).toNat 0) ?_ ?_
  · simp (disch := first | assumption | omega) only [↓RP, RQ, TY, loadT, reduceIte, Nat.reduceEqDiff, Nat.reduceAdd]
    exact ⟨by omega, hE6.trans hE7, hH7, h67, by simp, fun n hn => by omega⟩
  rintro ⟨i, L⟩ e H' ⟨e39, e38, e37, e6, hi, hE, h7, h6, hL, hLg⟩
  dsimp only at *
  have hv' := hvi5.ext hE
  have vi' := hv'.ints
  rw [tab_length] at vi'
  by_cases hlt : (i : Int) < ordr p m - 1
  · have gi := tab_getI (f := pw p m mod x) (show i < (ordr p m - 1).toNat by omega)
    have eli := el i
    simp (disch := first | assumption | omega) only [↓RP, RQ, TY, loadT, reduceIte, Nat.reduceEqDiff, Nat.reduceAdd, e39, e38, e37, e6, hlt, vi', gi, h7, h6]
    refine ⟨(i + 1, L.set (pw p m mod x i).toNat i), ?_, by dsimp only; omega⟩
    simp (disch := first | assumption | omega) only [↓RP, RQ, TY, loadT, reduceIte, Nat.reduceEqDiff, Nat.reduceAdd, e39, e38, e37, e6, h7]
    refine ⟨by omega, hE.upd hb6 _, by simpa using hL, fun n hn => ?_⟩
    rw [getD_setN]
    by_cases hni : n = i
    · subst hni
      rw [if_pos ⟨rfl, by omega⟩]
    · rw [if_neg, hLg n (by omega)]
      rintro ⟨q1, -⟩
      have eln := el n
      exact hg.2.1 n i (by omega) (by omega) (by omega)
  · simp (disch := first | assumption | omega) only [↓RP, RQ, TY, loadT, reduceIte, Nat.reduceEqDiff, Nat.reduceAdd, e39, e38, e37, e6, hlt]
    refine hQ1 b7 H' ((hE13.trans hE5).trans hE) hF ⟨v5, x, _, _, L, h7, (ho5.ext hE).sl, hv', Sl.own h6 (by rw [ints_length, hL]), by omega, fun n hn => hLg n (by omega), hg, h1, h2, hF⟩
end Go.Proofs.YtbkpebmcagdgmaaGreat.AM
/-! The program's field, sixth part: Is, in, Neg, Add, Sub. -/
namespace Go.Proofs.YtbkpebmcagdgmaaGreat.AM
open Go Go.RowKit
set_option linter.unusedVariables false
set_option linter.unusedSimpArgs false
set_option maxRecDepth 20000
open Classical in
theorem c_GIs {b : Nat} {p m x : Int} {mod : List Int} {H : AH} {Q : AV → AH → Prop} (hg : GFA H b p m mod) (hQ : Q (.bool (decide (0 ≤ x ∧ x < ordr p m))) H) : AC Tryz.prog 141 [.ptr b 0, .int .i64 x] H Q := by
  obtain ⟨md, g, ev, lv, lg, h1, -⟩ := hg
  refine at141 (by simp) ?_
  by_cases h0 : 0 ≤ x
  · by_cases hlt : x < ordr p m
    · simp (disch := first | assumption | omega) only [↓RP, RQ, TY, loadT, s141, reduceIte, Nat.reduceEqDiff, Nat.reduceAdd, h0, h1, hlt]
      rwa [decide_eq_true ⟨h0, hlt⟩] at hQ
    · simp (disch := first | assumption | omega) only [↓RP, RQ, TY, loadT, s141, reduceIte, Nat.reduceEqDiff, Nat.reduceAdd, h0, h1, hlt]
      rwa [decide_eq_false (fun q => hlt q.2)] at hQ
  · simp (disch := first | assumption | omega) only [↓RP, RQ, TY, loadT, s141, reduceIte, Nat.reduceEqDiff, Nat.reduceAdd, h0, h1]
    rwa [decide_eq_false (fun q => h0 q.1)] at hQ
theorem c_Gin {b : Nat} {p m x : Int} {mod : List Int} {H : AH} {Q : AV → AH → Prop} (hg : GFA H b p m mod) (hx : 0 ≤ x) (hx' : x < ordr p m) (hQ : Q (.int .i64 x) H) : AC Tryz.prog 182 [.ptr b 0, .int .i64 x] H Q := by
  refine at182 (by simp) ?_
  simp (disch := first | assumption | omega) only [↓RP, RQ, TY, loadT, s182, reduceIte, Nat.reduceEqDiff, Nat.reduceAdd]
  refine c_GIs hg ?_
  simp (disch := first | assumption | omega) only [↓RP, RQ, TY, loadT, reduceIte, Nat.reduceEqDiff, Nat.reduceAdd, hx, hx']
  exact hQ
/-- the sum, digit by digit -/
def fsum (p : Int) : Nat → Int → Int → Int
  | 0, _, _ => 0
  | n + 1, x, y => (x % p + y % p) % p + p * fsum p n (x / p) (y / p)
def fnegR (p : Int) : Nat → Int → Int
  | 0, _ => 0
  | n + 1, x => (p - x % p) % p + p * fnegR p n (x / p)
theorem addL_cons (p a b : Int) (l r : List Int) : addL p (a :: l) (b :: r) = (a + b) % p :: addL p l r := by
  simp only [addL, tab, List.length_cons]
  rw [List.range_succ_eq_map, List.map_cons, List.map_map]
  rfl
theorem negL_cons (p a : Int) (l : List Int) : negL p (a :: l) = (p - a) % p :: negL p l := by
  simp only [negL, tab, List.length_cons]
  rw [List.range_succ_eq_map, List.map_cons, List.map_map]
  rfl
theorem fsum_eq (p : Int) : ∀ n x y, val p (addL p (digs p n x) (digs p n y)) = fsum p n x y
  | 0, x, y => rfl
  | n + 1, x, y => by rw [digs, digs, addL_cons, val, fsum_eq p n, fsum]
theorem fnegR_eq (p : Int) : ∀ n x, val p (negL p (digs p n x)) = fnegR p n x
  | 0, x => rfl
  | n + 1, x => by rw [digs, negL_cons, val, fnegR_eq p n, fnegR]
theorem fsum_zero {p : Int} (hp : 0 < p) : ∀ n, fsum p n 0 0 = 0
  | 0 => rfl
  | n + 1 => by rw [fsum, Int.zero_ediv, fsum_zero hp n]; simp
theorem fnegR_zero {p : Int} (hp : 0 < p) : ∀ n, fnegR p n 0 = 0
  | 0 => rfl
  | n + 1 => by rw [fnegR, Int.zero_ediv, fnegR_zero hp n]; simp
theorem div_pow {p x : Int} {n : Nat} (hp : 0 < p) (hx : 0 ≤ x) (h : x < p ^ (n + 1)) : 0 ≤ x / p ∧ x / p < p ^ n := by
  refine ⟨Int.ediv_nonneg hx (by omega), ?_⟩
  rw [Int.pow_succ] at h
  exact Int.ediv_lt_of_lt_mul hp h
theorem c_GNeg {b : Nat} {p m x : Int} {mod : List Int} {H : AH} {Q : AV → AH → Prop} (hg : GFA H b p m mod) (hx : 0 ≤ x) (hx' : x < ordr p m) (hQ : Q (.int .i64 (fneg p m x)) H) : AC Tryz.prog 138 [.ptr b 0, .int .i64 x] H Q := by
  obtain ⟨o1, o2, o3, o4, o5⟩ := ordr_pos (p := p) (m := m) (by omega)
  have o6 := ordr_p (p := p) (m := m) (by omega)
  have op : 0 < p := by omega
  refine at138 (by simp) ?_
  simp (disch := first | assumption | omega) only [↓RP, RQ, TY, loadT, s138, reduceIte, Nat.reduceEqDiff, Nat.reduceAdd]
  refine c_Gin hg hx hx' ?_
  obtain ⟨md, g, ev, lv, lg, h1, -⟩ := hg
  simp (disch := first | assumption | omega) only [↓RP, RQ, TY, loadT, reduceIte, Nat.reduceEqDiff, Nat.reduceAdd]
  rw [fneg, fnegR_eq] at hQ
  refine sw_loop (σ := Nat × Int × Int) (fun s e H' => e 0 = .ptr b 0 ∧ e 1 = .int .i64 s.2.1 ∧ e 5 = .int .i64 s.2.2 ∧ e 6 = .int .i64 (p ^ s.1) ∧ s.1 ≤ m.toNat ∧ 0 ≤ s.2.1 ∧ s.2.1 < p ^ (m.toNat - s.1) ∧ 0 ≤ s.2.2 ∧ s.2.2 < p ^ s.1 ∧ H' = H ∧
    s.2.2 + p ^ s.1 * fnegR p (m.toNat - s.1) s.2.1 = fnegR p m.toNat x) (fun s => m.toNat - s.1) (0, x, 0) ?_ ?_
  · simp (disch := first | assumption | omega) only [↓RP, RQ, TY, loadT, reduceIte, Nat.reduceEqDiff, Nat.reduceAdd]
    refine ⟨by simp, by omega, hx, by rw [Nat.sub_zero]; omega, by omega, by simp, by simp⟩
  rintro ⟨i, y, s⟩ e H' ⟨e0, e1, e5, e6, hi, hy, hy', hs0, hs1, rfl, hinv⟩
  dsimp only at *
  by_cases hlt : 0 < y
  · have him : i < m.toNat := by
      apply Classical.byContradiction
      intro q
      rw [show m.toNat - i = 0 by omega, Int.pow_zero] at hy'
      omega
    obtain ⟨k, hk⟩ : ∃ k, m.toNat - i = k + 1 := ⟨m.toNat - i - 1, by omega⟩
    have hk' : m.toNat - (i + 1) = k := by omega
    rw [hk] at hy' hinv
    rw [fnegR] at hinv
    have h2 := div_pow op hy hy'
    have h3 := Int.emod_nonneg y (show p ≠ 0 by omega)
    have h4 := Int.emod_lt_of_pos y op
    have h5 := Int.emod_nonneg (p - y % p) (show p ≠ 0 by omega)
    have h6 := Int.emod_lt_of_pos (p - y % p) op
    have h7 : p ^ (i + 1) = p ^ i * p := Int.pow_succ _ _
    have h8 : p ^ (i + 1) ≤ p ^ m.toNat := ipow_mono (by omega) (by omega)
    have h9 : 0 ≤ p ^ i := Int.pow_nonneg (by omega)
    have h10 : (p - y % p) % p * p ^ i ≤ (p - 1) * p ^ i := Int.mul_le_mul_of_nonneg_right (by omega) h9
    have h11 : 0 ≤ (p - y % p) % p * p ^ i := Int.mul_nonneg h5 h9
    have h12 : (p - 1) * p ^ i = p ^ i * p - p ^ i := by rw [Int.sub_mul, Int.one_mul, Int.mul_comm]
    have h13 := Int.ediv_le_self p hy
    have h14 : p ^ (k + 1) ≤ p ^ m.toNat := ipow_mono (by omega) (by omega)
    simp (disch := first | assumption | omega) only [↓RP, RQ, TY, loadT, reduceIte, Nat.reduceEqDiff, Nat.reduceAdd, e0, e1, e5, e6, hlt, h1]
    refine ⟨(i + 1, y / p, s + (p - y % p) % p * p ^ i), ?_, by dsimp only; omega⟩
    simp (disch := first | assumption | omega) only [↓RP, RQ, TY, loadT, reduceIte, Nat.reduceEqDiff, Nat.reduceAdd, e0, e1, e5, e6, h7]
    refine ⟨by omega, h2.1, by rw [hk']; exact h2.2, by omega, by omega, ?_⟩
    rw [← hinv, hk', Int.mul_add, Int.mul_comm (p ^ i) ((p - y % p) % p), Int.mul_assoc, Int.add_assoc]
  · simp (disch := first | assumption | omega) only [↓RP, RQ, TY, loadT, reduceIte, Nat.reduceEqDiff, Nat.reduceAdd, e0, e1, e5, e6, hlt]
    rw [show y = 0 by omega, fnegR_zero op, Int.mul_zero, Int.add_zero] at hinv
    rw [hinv]
    exact hQ
theorem xor_step {x y : Nat} : x ^^^ y = (x % 2 + y % 2) % 2 + 2 * ((x / 2) ^^^ (y / 2)) := by
  have h1 : (x ^^^ y) % 2 = (x % 2 + y % 2) % 2 := by
    have := @Nat.xor_mod_two_eq_one x y
    omega
  have h2 : (x ^^^ y) / 2 = (x / 2) ^^^ (y / 2) := Nat.xor_div_two
  omega
theorem fsum_xor : ∀ (n x y : Nat), x < 2 ^ n → y < 2 ^ n → fsum 2 n x y = ((x ^^^ y : Nat) : Int)
  | 0, x, y, hx, hy => by
    have : x = 0 := by simpa using hx
    have : y = 0 := by simpa using hy
    subst_vars
    rfl
  | n + 1, x, y, hx, hy => by
    rw [Nat.pow_succ] at hx hy
    have ih := fsum_xor n (x / 2) (y / 2) (by omega) (by omega)
    rw [fsum, xor_step]
    have e1 : ((x : Int) / 2) = ((x / 2 : Nat) : Int) := by omega
    have e2 : ((y : Int) / 2) = ((y / 2 : Nat) : Int) := by omega
    rw [e1, e2, ih]
    omega
theorem xor_eq {x y : Int} {n : Nat} (hx : 0 ≤ x) (hy : 0 ≤ y) (hx' : x < 2 ^ n) (hy' : y < 2 ^ n) (hn : n ≤ 8) : IntKind.i64.wrap ((BitVec.ofInt IntKind.i64.bits x ^^^ BitVec.ofInt IntKind.i64.bits y).toNat : Int) = fsum 2 n x y := by
  obtain ⟨a, rfl⟩ := Int.eq_ofNat_of_zero_le hx
  obtain ⟨b, rfl⟩ := Int.eq_ofNat_of_zero_le hy
  have ha : a < 2 ^ n := by
    have : ((2 ^ n : Nat) : Int) = (2 : Int) ^ n := by simp
    omega
  have hb : b < 2 ^ n := by
    have : ((2 ^ n : Nat) : Int) = (2 : Int) ^ n := by simp
    omega
  have hm : 2 ^ n ≤ 2 ^ 8 := Nat.pow_le_pow_right (by omega) hn
  have hx := Nat.xor_lt_two_pow (n := 8) (show a < 2 ^ 8 by omega) (show b < 2 ^ 8 by omega)
  rw [fsum_xor n a b ha hb]
  have : (BitVec.ofInt IntKind.i64.bits (a : Int) ^^^ BitVec.ofInt IntKind.i64.bits (b : Int)).toNat = a ^^^ b := by
    rw [BitVec.toNat_xor]
    have e : ∀ c : Nat, c < 2 ^ 8 → (BitVec.ofInt IntKind.i64.bits (c : Int)).toNat = c := fun c hc => by
      simp only [IntKind.bits, BitVec.toNat_ofInt]
      omega
    rw [e a (by omega), e b (by omega)]
  rw [this]
  exact u_wrap (by omega)
theorem c_GAdd {b : Nat} {p m x y : Int} {mod : List Int} {H : AH} {Q : AV → AH → Prop} (hg : GFA H b p m mod) (hx : 0 ≤ x) (hx' : x < ordr p m) (hy : 0 ≤ y) (hy' : y < ordr p m) (hQ : Q (.int .i64 (fadd p m x y)) H) : AC Tryz.prog 183 [.ptr b 0, .int .i64 x, .int .i64 y] H Q := by
  obtain ⟨o1, o2, o3, o4, o5⟩ := ordr_pos (p := p) (m := m) (by omega)
  have o6 := ordr_p (p := p) (m := m) (by omega)
  have op : 0 < p := by omega
  refine at183 (by simp) ?_
  simp (disch := first | assumption | omega) only [↓RP, RQ, TY, loadT, s183, reduceIte, Nat.reduceEqDiff, Nat.reduceAdd]
  refine c_Gin hg hx hx' ?_
  simp (disch := first | assumption | omega) only [↓RP, RQ, TY, loadT, reduceIte, Nat.reduceEqDiff, Nat.reduceAdd]
  refine c_Gin hg hy hy' ?_
  obtain ⟨md, g, ev, lv, lg, h1, -⟩ := hg
  rw [fadd, fsum_eq] at hQ
  by_cases hp2 : p = 2
  · have hxor := xor_eq (n := m.toNat) hx hy (by rw [o5, hp2] at hx'; exact hx') (by rw [o5, hp2] at hy'; exact hy') (by omega)
    rw [hp2] at hQ
    simp (disch := first | assumption | omega) only [↓RP, RQ, TY, loadT, reduceIte, Nat.reduceEqDiff, Nat.reduceAdd, h1, eq_true hp2, hxor]
    exact hQ
  simp (disch := first | assumption | omega) only [↓RP, RQ, TY, loadT, reduceIte, Nat.reduceEqDiff, Nat.reduceAdd, h1, eq_false hp2]
  refine sw_loop (σ := Nat × Int × Int × Int) (fun s e H' => e 0 = .ptr b 0 ∧ e 1 = .int .i64 s.2.1 ∧ e 2 = .int .i64 s.2.2.1 ∧ e 7 = .int .i64 s.2.2.2 ∧ e 8 = .int .i64 (p ^ s.1) ∧ s.1 ≤ m.toNat ∧ 0 ≤ s.2.1 ∧ s.2.1 < p ^ (m.toNat - s.1) ∧ 0 ≤ s.2.2.1 ∧ s.2.2.1 < p ^ (m.toNat - s.1) ∧ 0 ≤ s.2.2.2 ∧ s.2.2.2 < p ^ s.1 ∧ H' = H ∧
    s.2.2.2 + p ^ s.1 * fsum p (m.toNat - s.1) s.2.1 s.2.2.1 = fsum p m.toNat x y) (fun s => m.toNat - s.1) (0, x, y, 0) ?_ ?_
  · simp (disch := first | assumption | omega) only [↓RP, RQ, TY, loadT, reduceIte, Nat.reduceEqDiff, Nat.reduceAdd]
    refine ⟨by simp, by omega, hx, by rw [Nat.sub_zero]; omega, hy, by rw [Nat.sub_zero]; omega, by omega, by simp, by simp⟩
  rintro ⟨i, u, v, s⟩ e H' ⟨e0, e1, e2, e7, e8, hi, hu, hu', hv, hv', hs0, hs1, rfl, hinv⟩
  dsimp only at *
  by_cases hlt : 0 < u ∨ 0 < v
  · have him : i < m.toNat := by
      apply Classical.byContradiction
      intro q
      rw [show m.toNat - i = 0 by omega, Int.pow_zero] at hu' hv'
      omega
    obtain ⟨k, hk⟩ : ∃ k, m.toNat - i = k + 1 := ⟨m.toNat - i - 1, by omega⟩
    have hk' : m.toNat - (i + 1) = k := by omega
    rw [hk] at hu' hv' hinv
    rw [fsum] at hinv
    have h2 := div_pow op hu hu'
    have h2' := div_pow op hv hv'
    have h3 := Int.emod_nonneg u (show p ≠ 0 by omega)
    have h4 := Int.emod_lt_of_pos u op
    have h3' := Int.emod_nonneg v (show p ≠ 0 by omega)
    have h4' := Int.emod_lt_of_pos v op
    have h5 := Int.emod_nonneg (u % p + v % p) (show p ≠ 0 by omega)
    have h6 := Int.emod_lt_of_pos (u % p + v % p) op
    have h7 : p ^ (i + 1) = p ^ i * p := Int.pow_succ _ _
    have h8 : p ^ (i + 1) ≤ p ^ m.toNat := ipow_mono (by omega) (by omega)
    have h9 : 0 ≤ p ^ i := Int.pow_nonneg (by omega)
    have h10 : (u % p + v % p) % p * p ^ i ≤ (p - 1) * p ^ i := Int.mul_le_mul_of_nonneg_right (by omega) h9
    have h11 : 0 ≤ (u % p + v % p) % p * p ^ i := Int.mul_nonneg h5 h9
    have h12 : (p - 1) * p ^ i = p ^ i * p - p ^ i := by rw [Int.sub_mul, Int.one_mul, Int.mul_comm]
    have h13 := Int.ediv_le_self p hu
    have h13' := Int.ediv_le_self p hv
    have h14 : p ^ (k + 1) ≤ p ^ m.toNat := ipow_mono (by omega) (by omega)
    have fin : ∀ e', e' 0 = .ptr b 0 → e' 1 = .int .i64 (u / p) → e' 2 = .int .i64 (v / p) → e' 7 = .int .i64 (s + (u % p + v % p) % p * p ^ i) → e' 8 = .int .i64 (p ^ i * p) →
      kInv (σ := Nat × Int × Int × Int) (fun s e H2 => e 0 = .ptr b 0 ∧ e 1 = .int .i64 s.2.1 ∧ e 2 = .int .i64 s.2.2.1 ∧ e 7 = .int .i64 s.2.2.2 ∧ e 8 = .int .i64 (p ^ s.1) ∧ s.1 ≤ m.toNat ∧ 0 ≤ s.2.1 ∧ s.2.1 < p ^ (m.toNat - s.1) ∧ 0 ≤ s.2.2.1 ∧ s.2.2.1 < p ^ (m.toNat - s.1) ∧ 0 ≤ s.2.2.2 ∧ s.2.2.2 < p ^ s.1 ∧ H2 = H' ∧
        s.2.2.2 + p ^ s.1 * fsum p (m.toNat - s.1) s.2.1 s.2.2.1 = fsum p m.toNat x y) (fun s => m.toNat - s.1) (i, u, v, s) e' H' := fun e' g0 g1 g2 g7 g8 => by
      refine ⟨(i + 1, u / p, v / p, s + (u % p + v % p) % p * p ^ i), ?_, by dsimp only; omega⟩
      dsimp only
      refine ⟨g0, g1, g2, g7, by rw [g8, h7], by omega, h2.1, by rw [hk']; exact h2.2, h2'.1, by rw [hk']; exact h2'.2, by omega, by rw [h7]; omega, rfl, ?_⟩
      rw [← hinv, hk', h7, Int.mul_add, Int.mul_comm (p ^ i) ((u % p + v % p) % p), Int.mul_assoc, Int.add_assoc]
    by_cases hu0 : 0 < u
    · simp (disch := first | assumption | omega) only [↓RP, RQ, TY, loadT, reduceIte, Nat.reduceEqDiff, Nat.reduceAdd, e0, e1, e2, e7, e8, hu0, h1]
      refine fin _ ?_ ?_ ?_ ?_ ?_ <;> simp (disch := first | assumption | omega) only [↓RP, RQ, TY, loadT, reduceIte, Nat.reduceEqDiff, Nat.reduceAdd, e0]
    · have hv0 : 0 < v := by omega
      simp (disch := first | assumption | omega) only [↓RP, RQ, TY, loadT, reduceIte, Nat.reduceEqDiff, Nat.reduceAdd, e0, e1, e2, e7, e8, hu0, hv0, h1]
      refine fin _ ?_ ?_ ?_ ?_ ?_ <;> simp (disch := first | assumption | omega) only [↓RP, RQ, TY, loadT, reduceIte, Nat.reduceEqDiff, Nat.reduceAdd, e0]
  · have hu0 : ¬ 0 < u := by omega
    have hv0 : ¬ 0 < v := by omega
    simp (disch := first | assumption | omega) only [↓RP, RQ, TY, loadT, reduceIte, Nat.reduceEqDiff, Nat.reduceAdd, e0, e1, e2, e7, e8, hu0, hv0]
    rw [show u = 0 by omega, show v = 0 by omega, fsum_zero op, Int.mul_zero, Int.add_zero] at hinv
    rw [hinv]
    exact hQ
theorem c_GSub {b : Nat} {p m x y : Int} {mod : List Int} {H : AH} {Q : AV → AH → Prop} (hg : GFA H b p m mod) (hx : 0 ≤ x) (hx' : x < ordr p m) (hy : 0 ≤ y) (hy' : y < ordr p m) (hn : 0 ≤ fneg p m y ∧ fneg p m y < ordr p m) (hQ : Q (.int .i64 (fadd p m x (fneg p m y))) H) : AC Tryz.prog 157 [.ptr b 0, .int .i64 x, .int .i64 y] H Q := by
  refine at157 (by simp) ?_
  simp (disch := first | assumption | omega) only [↓RP, RQ, TY, loadT, s157, reduceIte, Nat.reduceEqDiff, Nat.reduceAdd]
  refine c_GNeg hg hy hy' ?_
  simp (disch := first | assumption | omega) only [↓RP, RQ, TY, loadT, reduceIte, Nat.reduceEqDiff, Nat.reduceAdd]
  refine c_GAdd hg hx hx' hn.1 hn.2 ?_
  simp (disch := first | assumption | omega) only [↓RP, RQ, TY, loadT, reduceIte, Nat.reduceEqDiff, Nat.reduceAdd]
  exact hQ
end Go.Proofs.YtbkpebmcagdgmaaGreat.AM
/-! The program's field, seventh part: Mul, Inv, Scale. -/
namespace Go.Proofs.YtbkpebmcagdgmaaGreat.AM
open Go Go.RowKit
set_option linter.unusedVariables false
set_option linter.unusedSimpArgs false
set_option maxRecDepth 20000
/-- exponents and logarithms -/
def ExpLog : Prop := ∀ p m mod x, FieldOk p m mod → 1 ≤ x → x < ordr p m → IsGen p m mod x → (∀ y, 1 ≤ y → y < ordr p m → ∃ n : Nat, (n : Int) < ordr p m - 1 ∧ y = pw p m mod x n) ∧
  ∀ i j : Nat, (i : Int) < ordr p m - 1 → (j : Int) < ordr p m - 1 → fmul p m mod (pw p m mod x i) (pw p m mod x j) = pw p m mod x ((i + j) % (ordr p m - 1).toNat)
/-- what is to be known of the fields -/
structure Alg : Prop where
  fo : FOk
  gi : GenIff
  el : ExpLog
theorem ok_mul_z {F : FOps} (h : F.Ok) {x : Int} (hx : F.El x) : F.mul x 0 = 0 := by
  letI := h.fd
  apply h.k_inj (h.mul_el hx h.el0) h.el0
  rw [h.k_mul hx h.el0, h.k_zero, Fd.mul_z]
theorem ok_z_mul {F : FOps} (h : F.Ok) {x : Int} (hx : F.El x) : F.mul 0 x = 0 := by
  rw [h.mul_comm h.el0 hx, ok_mul_z h hx]
theorem ok_uniq {F : FOps} (h : F.Ok) {x y : Int} (hx : F.El x) (hy : F.El y) (hm : F.mul x y = 1) : y = F.inv x := by
  letI := h.fd
  apply h.k_inj hy (h.inv_el hx)
  rw [h.k_inv hx]
  apply Fd.inv_of
  rw [← h.k_mul hx hy, hm, h.k_one]
theorem c_GMul (A : Alg) {b : Nat} {p m x y : Int} {mod : List Int} {H : AH} {Q : AV → AH → Prop} (hg : GFA H b p m mod) (hx : 0 ≤ x) (hx' : x < ordr p m) (hy : 0 ≤ y) (hy' : y < ordr p m) (hQ : Q (.int .i64 (fmul p m mod x y)) H) : AC Tryz.prog 158 [.ptr b 0, .int .i64 x, .int .i64 y] H Q := by
  obtain ⟨o1, o2, o3, o4, o5⟩ := ordr_pos (p := p) (m := m) (by omega)
  refine at158 (by simp) ?_
  simp (disch := first | assumption | omega) only [↓RP, RQ, TY, loadT, s158, reduceIte, Nat.reduceEqDiff, Nat.reduceAdd]
  refine c_Gin hg hx hx' ?_
  simp (disch := first | assumption | omega) only [↓RP, RQ, TY, loadT, reduceIte, Nat.reduceEqDiff, Nat.reduceAdd]
  refine c_Gin hg hy hy' ?_
  obtain ⟨md, g, ev, lv, lg, h1, h2, h3, h4, h5, h6, h7, h8, h9, hF⟩ := hg
  have ok := A.fo _ _ _ hF
  by_cases hx0 : x = 0
  · rw [hx0, show fmul p m mod 0 y = 0 from ok_z_mul ok ⟨hy, hy'⟩] at hQ
    simp (disch := first | assumption | omega) only [↓RP, RQ, TY, loadT, reduceIte, Nat.reduceEqDiff, Nat.reduceAdd, eq_true hx0]
    exact hQ
  by_cases hy0 : y = 0
  · rw [hy0, show fmul p m mod x 0 = 0 from ok_mul_z ok ⟨hx, hx'⟩] at hQ
    simp (disch := first | assumption | omega) only [↓RP, RQ, TY, loadT, reduceIte, Nat.reduceEqDiff, Nat.reduceAdd, eq_false hx0, eq_true hy0]
    exact hQ
  obtain ⟨el1, el2⟩ := A.el p m mod g hF h8 h9 h7
  obtain ⟨i, hi, hxi⟩ := el1 x (by omega) hx'
  obtain ⟨j, hj, hyj⟩ := el1 y (by omega) hy'
  have gx : lg.getD x.toNat 0 = i := by rw [hxi]; exact h6 i hi
  have gy : lg.getD y.toNat 0 = j := by rw [hyj]; exact h6 j hj
  have e1 := h3.ints
  rw [tab_length] at e1
  have hq1 : 0 < ordr p m - 1 := by omega
  have hk0 := Int.emod_nonneg ((i : Int) + j) (show ordr p m - 1 ≠ 0 by omega)
  have hk1 := Int.emod_lt_of_pos ((i : Int) + j) hq1
  have hkn : (((i : Int) + j) % (ordr p m - 1)).toNat = (i + j) % (ordr p m - 1).toNat := by
    have : (((i + j) % (ordr p m - 1).toNat : Nat) : Int) = ((i : Int) + j) % (ordr p m - 1) := by
      rw [Int.natCast_emod, Int.toNat_of_nonneg (by omega)]
      rfl
    omega
  have gk : (tab (ordr p m - 1).toNat (pw p m mod g)).getD ((i + j) % (ordr p m - 1).toNat) 0 = pw p m mod g ((i + j) % (ordr p m - 1).toNat) := tab_getI (by omega)
  have hq := el2 i j hi hj
  rw [← hxi, ← hyj] at hq
  rw [hq] at hQ
  simp (disch := first | assumption | omega) only [↓RP, RQ, TY, loadT, reduceIte, Nat.reduceEqDiff, Nat.reduceAdd, eq_false hx0, eq_false hy0, h1, e1, h4.ints, gx, gy, hkn, gk]
  exact hQ
theorem c_GInv (A : Alg) {b : Nat} {p m x : Int} {mod : List Int} {H : AH} {Q : AV → AH → Prop} (hg : GFA H b p m mod) (hx : 0 < x) (hx' : x < ordr p m) (hQ : Q (.tup [.int .i64 (finv p m mod x), .int .i64 0]) H) : AC Tryz.prog 161 [.ptr b 0, .int .i64 x] H Q := by
  obtain ⟨o1, o2, o3, o4, o5⟩ := ordr_pos (p := p) (m := m) (by omega)
  refine at161 (by simp) ?_
  simp (disch := first | assumption | omega) only [↓RP, RQ, TY, loadT, s161, reduceIte, Nat.reduceEqDiff, Nat.reduceAdd]
  refine c_Gin hg (by omega) hx' ?_
  obtain ⟨md, g, ev, lv, lg, h1, h2, h3, h4, h5, h6, h7, h8, h9, hF⟩ := hg
  have ok := A.fo _ _ _ hF
  have hx0 : x ≠ 0 := by omega
  obtain ⟨el1, el2⟩ := A.el p m mod g hF h8 h9 h7
  obtain ⟨i, hi, hxi⟩ := el1 x (by omega) hx'
  have gx : lg.getD x.toNat 0 = i := by rw [hxi]; exact h6 i hi
  have e1 := h3.ints
  rw [tab_length] at e1
  have hq1 : 0 < ordr p m - 1 := by omega
  have hk0 := Int.emod_nonneg (ordr p m - 1 - (i : Int)) (show ordr p m - 1 ≠ 0 by omega)
  have hk1 := Int.emod_lt_of_pos (ordr p m - 1 - (i : Int)) hq1
  generalize hk : ((ordr p m - 1 - (i : Int)) % (ordr p m - 1)).toNat = k at *
  have gk : (tab (ordr p m - 1).toNat (pw p m mod g)).getD k 0 = pw p m mod g k := tab_getI (by omega)
  have hinv : pw p m mod g k = finv p m mod x := by
    refine ok_uniq ok ⟨by omega, hx'⟩ (pw_el hF.1 ⟨by omega, h9⟩ k) ?_
    show fmul p m mod x (pw p m mod g k) = 1
    rw [hxi, el2 i k hi (by omega)]
    have : (i + k) % (ordr p m - 1).toNat = 0 := by
      by_cases hi0 : i = 0
      · subst hi0
        have : (ordr p m - 1 - ((0 : Nat) : Int)) % (ordr p m - 1) = 0 := by simp
        have : k = 0 := by omega
        subst this
        simp
      · have : (ordr p m - 1 - (i : Int)) % (ordr p m - 1) = ordr p m - 1 - i := Int.emod_eq_of_lt (by omega) (by omega)
        have : i + k = (ordr p m - 1).toNat := by omega
        rw [this, Nat.mod_self]
    rw [this]
    rfl
  rw [← hinv] at hQ
  simp (disch := first | assumption | omega) only [↓RP, RQ, TY, loadT, reduceIte, Nat.reduceEqDiff, Nat.reduceAdd, eq_false hx0, h1, e1, h4.ints, gx, hk, gk]
  exact hQ
theorem c_GScale (A : Alg) {b : Nat} {p m a : Int} {v : AV} {mod xs : List Int} {H : AH} {Q : AV → AH → Prop} (hg : GFA H b p m mod) (ha : (fF p m mod).El a) (hv : Ints H v xs) (hl : xs.length ≤ 1000) (he : ∀ i, (fF p m mod).El (xs.getD i 0))
    (hQ : ∀ b H', H b = .free → Ext H H' → H' b = .rw (ints (scaleL (fF p m mod) a xs)) → Q (.sl b 0 xs.length (.own 1)) H') :
    AC Tryz.prog 162 [.ptr b 0, .int .i64 a, v] H Q := by
  refine at162 (by simp) ?_
  simp (disch := first | assumption | omega) only [↓RP, RQ, TY, loadT, s162, reduceIte, Nat.reduceEqDiff, Nat.reduceAdd, hv.ints]
  refine kNew_intro fun b2 H2 hb2 hE2 hH2 => ?_
  rw [ints_repl] at hH2
  have lT : (scaleL (fF p m mod) a xs).length = (List.replicate xs.length (0 : Int)).length := by rw [scaleL_length, rep_length]
  simp (disch := first | assumption | omega) only [↓RP, RQ, TY, loadT, reduceIte, Nat.reduceEqDiff, Nat.reduceAdd, hv.ints]
  refine sw_loop (σ := Nat) (fun i e H' => e 15 = .int .i64 i ∧ e 14 = .int .i64 xs.length ∧ e 13 = v ∧ e 7 = .sl b2 0 xs.length (.own 1) ∧ e 1 = .int .i64 a ∧ e 0 = .ptr b 0 ∧ i ≤ xs.length ∧ Ext H H' ∧
    H' b2 = .rw (ints (mix (scaleL (fF p m mod) a xs) (List.replicate xs.length 0) i))) (fun i => xs.length - i) 0 ?_ ?_
  · simp (disch := first | assumption | omega) only [↓RP, RQ, TY, loadT, reduceIte, Nat.reduceEqDiff, Nat.reduceAdd, mix_zero]
    exact ⟨by omega, hE2, hH2⟩
  rintro i e H' ⟨e15, e14, e13, e7, e1, e0, hi, hE', h2⟩
  have lM := mix_length lT i
  rw [rep_length] at lM
  have hv' := hv.ext hE'
  by_cases hlt : (i : Int) < xs.length
  · simp (disch := first | assumption | omega) only [↓RP, RQ, TY, loadT, reduceIte, Nat.reduceEqDiff, Nat.reduceAdd, e15, e14, e13, e7, e1, e0, hlt, hv'.ints]
    refine c_GMul A (hg.ext hE') ha.1 ha.2 (he i).1 (he i).2 ?_
    simp (disch := first | assumption | omega) only [↓RP, RQ, TY, loadT, reduceIte, Nat.reduceEqDiff, Nat.reduceAdd, e15, e14, e13, e7, e1, e0, h2]
    refine ⟨i + 1, ?_, by dsimp only; omega⟩
    simp (disch := first | assumption | omega) only [↓RP, RQ, TY, loadT, reduceIte, Nat.reduceEqDiff, Nat.reduceAdd, e15, e14, e13, e7, e1, e0]
    refine ⟨by omega, hE'.upd hb2 _, ?_⟩
    rw [← mix_set lT (show i < _ by rw [rep_length]; omega), scaleL, tabN_getD _ (show i < xs.length by omega)]
    rfl
  · simp (disch := first | assumption | omega) only [↓RP, RQ, TY, loadT, reduceIte, Nat.reduceEqDiff, Nat.reduceAdd, e15, e14, e13, e7, e1, e0, hlt]
    rw [mix_full lT (show _ ≤ i by rw [rep_length]; omega)] at h2
    exact hQ b2 H' hb2 hE' h2
end Go.Proofs.YtbkpebmcagdgmaaGreat.AM
/-! The program's matrices, first part: entries, check, Clone, add, Equal, EqualFunc. -/
namespace Go.Proofs.YtbkpebmcagdgmaaGreat.AM
open Go Go.RowKit
set_option linter.unusedVariables false
set_option linter.unusedSimpArgs false
set_option maxRecDepth 20000
open Classical in
theorem c_entries {b : Nat} {p m : Int} {v : AV} {mod xs : List Int} {H : AH} {Q : AV → AH → Prop} (hg : GFA H b p m mod) (hv : Ints H v xs) (hl : xs.length ≤ 9223372036854775807)
    (hQ : Q (.int .i64 (if AllEl p m xs then 0 else 2)) H) : AC Tryz.prog 101 [.ptr b 0, v] H Q := by
  refine at101 (by simp) ?_
  simp (disch := first | assumption | omega) only [↓RP, RQ, TY, loadT, s101, reduceIte, Nat.reduceEqDiff, Nat.reduceAdd, hv.ints]
  refine sw_loop (σ := Nat) (fun i e H' => e 9 = .int .i64 i ∧ e 8 = .int .i64 xs.length ∧ e 7 = v ∧ e 0 = .ptr b 0 ∧ i ≤ xs.length ∧ H' = H ∧ ∀ j, j < i → 0 ≤ xs.getD j 0 ∧ xs.getD j 0 < ordr p m) (fun i => xs.length - i) 0 ?_ ?_
  · simp (disch := first | assumption | omega) only [↓RP, RQ, TY, loadT, reduceIte, Nat.reduceEqDiff, Nat.reduceAdd]
    exact ⟨by omega, fun j hj => by omega⟩
  rintro i e H' ⟨e9, e8, e7, e0, hi, rfl, hj⟩
  by_cases hlt : (i : Int) < xs.length
  · simp (disch := first | assumption | omega) only [↓RP, RQ, TY, loadT, reduceIte, Nat.reduceEqDiff, Nat.reduceAdd, e9, e8, e7, e0, hlt, hv.ints]
    refine c_GIs hg ?_
    by_cases hc : 0 ≤ xs.getD i 0 ∧ xs.getD i 0 < ordr p m
    · simp (disch := first | assumption | omega) only [↓RP, RQ, TY, loadT, reduceIte, Nat.reduceEqDiff, Nat.reduceAdd, e9, e8, e7, e0, hc]
      refine ⟨i + 1, ?_, by dsimp only; omega⟩
      simp (disch := first | assumption | omega) only [↓RP, RQ, TY, loadT, reduceIte, Nat.reduceEqDiff, Nat.reduceAdd, e9, e8, e7, e0]
      refine ⟨by omega, fun j h => ?_⟩
      by_cases hji : j = i
      · rw [hji]; exact hc
      · exact hj j (by omega)
    · simp (disch := first | assumption | omega) only [↓RP, RQ, TY, loadT, reduceIte, Nat.reduceEqDiff, Nat.reduceAdd, e9, e8, e7, e0, hc]
      rwa [if_neg (fun q => hc (q i (by omega)))] at hQ
  · simp (disch := first | assumption | omega) only [↓RP, RQ, TY, loadT, reduceIte, Nat.reduceEqDiff, Nat.reduceAdd, e9, e8, e7, e0, hlt]
    rwa [if_pos (show AllEl p m xs from fun j hj' => hj j (by omega))] at hQ
open Classical in
theorem c_mcheck {b : Nat} {p m cols : Int} {v : AV} {mod : List Int} {us : List AV} {rows : List (List Int)} {H : AH} {Q : AV → AH → Prop} (hg : GFA H b p m mod) (hF : FieldOk p m mod) (hv : Rows H v us rows) (hl : rows.length ≤ 9223372036854775807) (hlr : ∀ i, i < rows.length → (rowAt rows i).length ≤ 9223372036854775807)
    (hQ : ∀ H', Ext H H' → Q (.int .i64 (matErr p m mod cols rows)) H') : AC Tryz.prog 143 [.ptr b 0, .agg [.int .i64 cols, v]] H Q := by
  refine at143 (by simp) ?_
  simp (disch := first | assumption | omega) only [↓RP, RQ, TY, loadT, s143, reduceIte, Nat.reduceEqDiff, Nat.reduceAdd]
  refine kNew_intro fun b2 H3 hb2 hE3 hH3 => ?_
  have hv3 := hv.ext hE3
  have h23 := hH3
  by_cases c1 : cols < 0
  · simp (disch := first | assumption | omega) only [↓RP, RQ, TY, loadT, reduceIte, Nat.reduceEqDiff, Nat.reduceAdd, h23, c1]
    have := hQ H3 hE3
    rwa [matErr, if_neg (by simpa using hF), if_pos (.inl c1)] at this
  by_cases c2 : 256 < cols
  · simp (disch := first | assumption | omega) only [↓RP, RQ, TY, loadT, reduceIte, Nat.reduceEqDiff, Nat.reduceAdd, h23, c1, c2]
    have := hQ H3 hE3
    rwa [matErr, if_neg (by simpa using hF), if_pos (.inr (.inl c2))] at this
  by_cases c3 : (256 : Int) < rows.length
  · simp (disch := first | assumption | omega) only [↓RP, RQ, TY, loadT, reduceIte, Nat.reduceEqDiff, Nat.reduceAdd, h23, c1, c2, c3, hv3.run]
    have := hQ H3 hE3
    rwa [matErr, if_neg (by simpa using hF), if_pos (.inr (.inr (.inl (by omega))))] at this
  simp (disch := first | assumption | omega) only [↓RP, RQ, TY, loadT, reduceIte, Nat.reduceEqDiff, Nat.reduceAdd, h23, c1, c2, c3, hv3.run]
  refine sw_loop (σ := Nat) (fun i e H' => e 27 = .int .i64 i ∧ e 26 = .int .i64 rows.length ∧ e 25 = v ∧ e 3 = .ptr b2 0 ∧ e 0 = .ptr b 0 ∧ H' = H3 ∧ i ≤ rows.length ∧ ∀ j, j < i → ((rowAt rows j).length : Int) = cols) (fun i => rows.length - i) 0 ?_ ?_
  · simp (disch := first | assumption | omega) only [↓RP, RQ, TY, loadT, reduceIte, Nat.reduceEqDiff, Nat.reduceAdd]
    exact ⟨by omega, fun j hj => by omega⟩
  rintro i e H' ⟨e27, e26, e25, e3, e0, rfl, hi, hj⟩
  by_cases hlt : (i : Int) < rows.length
  · have hri := hv3.row i (by omega)
    by_cases hc : ((rowAt rows i).length : Int) = cols
    · simp (disch := first | assumption | omega) only [↓RP, RQ, TY, loadT, reduceIte, Nat.reduceEqDiff, Nat.reduceAdd, e27, e26, e25, e3, e0, hlt, h23, hv3.run, hri.ints, eq_true hc]
      refine ⟨i + 1, ?_, by dsimp only; omega⟩
      simp (disch := first | assumption | omega) only [↓RP, RQ, TY, loadT, reduceIte, Nat.reduceEqDiff, Nat.reduceAdd, e27, e26, e25, e3, e0]
      refine ⟨by omega, fun j h => ?_⟩
      by_cases hji : j = i
      · rw [hji]; exact hc
      · exact hj j (by omega)
    · simp (disch := first | assumption | omega) only [↓RP, RQ, TY, loadT, reduceIte, Nat.reduceEqDiff, Nat.reduceAdd, e27, e26, e25, e3, e0, hlt, h23, hv3.run, hri.ints, eq_false hc]
      have := hQ H' hE3
      rwa [matErr, if_neg (by simpa using hF), if_pos (.inr (.inr (.inr ⟨i, by omega, hc⟩)))] at this
  have hjj : ∀ j, j < rows.length → ((rowAt rows j).length : Int) = cols := fun j h => hj j (by omega)
  have n3 : ¬ (cols < 0 ∨ 256 < cols ∨ 256 < rows.length ∨ (∃ i, i < rows.length ∧ ((rowAt rows i).length : Int) ≠ cols)) := by
    rintro (q | q | q | ⟨i, q1, q2⟩)
    · omega
    · omega
    · omega
    · exact q2 (hjj i q1)
  simp (disch := first | assumption | omega) only [↓RP, RQ, TY, loadT, reduceIte, Nat.reduceEqDiff, Nat.reduceAdd, e27, e26, e25, e3, e0, hlt, h23, hv3.run]
  refine sw_loop (σ := Nat) (fun i e H2 => e 40 = .int .i64 i ∧ e 39 = .int .i64 rows.length ∧ e 38 = v ∧ e 0 = .ptr b 0 ∧ H2 = H' ∧ i ≤ rows.length ∧ ∀ j, j < i → AllEl p m (rowAt rows j)) (fun i => rows.length - i) 0 ?_ ?_
  · simp (disch := first | assumption | omega) only [↓RP, RQ, TY, loadT, reduceIte, Nat.reduceEqDiff, Nat.reduceAdd, e0]
    exact ⟨by omega, fun j hj => by omega⟩
  rintro i e H2 ⟨e40, e39, e38, e0, rfl, hi, hj⟩
  by_cases hlt : (i : Int) < rows.length
  · simp (disch := first | assumption | omega) only [↓RP, RQ, TY, loadT, reduceIte, Nat.reduceEqDiff, Nat.reduceAdd, e40, e39, e38, e0, hlt, h23, hv3.run]
    refine c_entries (hg.ext hE3) (hv3.row i (by omega)) (hlr i (by omega)) ?_
    by_cases hc : AllEl p m (rowAt rows i)
    · simp (disch := first | assumption | omega) only [↓RP, RQ, TY, loadT, reduceIte, Nat.reduceEqDiff, Nat.reduceAdd, e40, e39, e38, e0, hc, Int.reduceEq, Int.reduceNe]
      refine ⟨i + 1, ?_, by dsimp only; omega⟩
      simp (disch := first | assumption | omega) only [↓RP, RQ, TY, loadT, reduceIte, Nat.reduceEqDiff, Nat.reduceAdd, e40, e39, e38, e0]
      refine ⟨by omega, fun j h => ?_⟩
      by_cases hji : j = i
      · rw [hji]; exact hc
      · exact hj j (by omega)
    · simp (disch := first | assumption | omega) only [↓RP, RQ, TY, loadT, reduceIte, Nat.reduceEqDiff, Nat.reduceAdd, e40, e39, e38, e0, hc, Int.reduceEq, Int.reduceNe]
      have := hQ H2 hE3
      rwa [matErr, if_neg (by simpa using hF), if_neg n3, if_pos ⟨i, by omega, hc⟩] at this
  · simp (disch := first | assumption | omega) only [↓RP, RQ, TY, loadT, reduceIte, Nat.reduceEqDiff, Nat.reduceAdd, e40, e39, e38, e0, hlt]
    have := hQ H2 hE3
    rwa [matErr, if_neg (by simpa using hF), if_neg n3, if_neg (fun ⟨j, q1, q2⟩ => q2 (hj j (by omega)))] at this
theorem c_Clone {v : AV} {xs : List Int} {H : AH} {Q : AV → AH → Prop} (hv : Ints H v xs) (hl : xs.length ≤ 1000) (hQ : ∀ w H', Ext H H' → Own H H' w (ints xs) → Q w H') : AC Tryz.prog 85 [v] H Q := by
  refine at85 (by simp) ?_
  rcases hv with ⟨rfl, h2⟩ | ⟨b, o, c, rfl, h2⟩
  · simp (disch := first | assumption | omega) only [↓RP, RQ, TY, loadT, s85, reduceIte, Nat.reduceEqDiff, Nat.reduceAdd, u_eqNN, Option.isSome_some, true_and]
    exact hQ _ _ (Ext.refl H) (.inl ⟨rfl, h2⟩)
  · simp (disch := first | assumption | omega) only [↓RP, RQ, TY, loadT, s85, reduceIte, Nat.reduceEqDiff, Nat.reduceAdd, u_eqN, Option.isSome_some, true_and]
    refine kNew_intro fun b1 H1 hb1 hE1 hH1 => ?_
    simp (disch := first | assumption | omega) only [↓RP, RQ, TY, loadT, reduceIte, Nat.reduceEqDiff, Nat.reduceAdd]
    have hv : Ints H (.sl b o (ints xs).length c) xs := .inr ⟨b, o, c, rfl, h2⟩
    refine kApp_own (H0 := H) (zs := []) (us := ints xs) (Own.mk hH1 hb1 rfl) hE1 (hv.ext hE1) ints_ones (by simp [ints_length]; omega) (by simp [ints_length]; omega) fun v2 H2 hE2 ho2 keep2 => ?_
    simp (disch := first | assumption | omega) only [↓RP, RQ, TY, loadT, reduceIte, Nat.reduceEqDiff, Nat.reduceAdd]
    exact hQ _ _ hE2 ho2
theorem upd2 (H : AH) (b : Nat) (s t : Slot) : (H.upd b s).upd b t = H.upd b t := funext fun c => by
  simp only [AH.upd]; split <;> rfl
theorem updS {H : AH} {b : Nat} {s : Slot} (h : H b = s) : H.upd b s = H := funext fun c => by
  simp only [AH.upd]; split
  · rename_i q; rw [q, h]
  · rfl
theorem c_add (A : Alg) {b bv : Nat} {p m a : Int} {w : AV} {cv : Cap} {mod xs ys : List Int} {H0 H : AH} {Q : AV → AH → Prop} (hg : GFA H0 b p m mod) (hE : Ext H0 H) (hfv : H0 bv = .free) (hv : H bv = .rw (ints xs)) (hw : ∀ zs, Ints (H.upd bv (.rw (ints zs))) w ys)
    (ha : (fF p m mod).El a) (hl : xs.length ≤ 1000) (hl2 : ys.length = xs.length) (he : ∀ i, (fF p m mod).El (xs.getD i 0)) (he2 : ∀ i, (fF p m mod).El (ys.getD i 0))
    (hQ : Q (.tup []) (H.upd bv (.rw (ints (addToL (fF p m mod) xs a ys))))) : AC Tryz.prog 144 [.ptr b 0, .sl bv 0 xs.length cv, .int .i64 a, w] H Q := by
  have hw0 : Ints H w ys := by
    have := hw xs
    rwa [updS hv] at this
  have hF : FieldOk p m mod := by
    obtain ⟨md, g, ev, lv, lg, h1, h2, h3, h4, h5, h6, h7, h8, h9, hF⟩ := hg
    exact hF
  have ok := A.fo _ _ _ hF
  have lT : (addToL (fF p m mod) xs a ys).length = xs.length := addToL_length _ _ _
  refine at144 (by simp) ?_
  simp (disch := first | assumption | omega) only [↓RP, RQ, TY, loadT, s144, reduceIte, Nat.reduceEqDiff, Nat.reduceAdd, hw0.ints]
  refine sw_loop (σ := Nat) (fun i e H' => e 12 = .int .i64 i ∧ e 11 = .int .i64 ys.length ∧ e 10 = w ∧ e 0 = .ptr b 0 ∧ e 1 = .sl bv 0 xs.length cv ∧ e 2 = .int .i64 a ∧ i ≤ xs.length ∧ H' = H.upd bv (.rw (ints (mix (addToL (fF p m mod) xs a ys) xs i)))) (fun i => xs.length - i) 0 ?_ ?_
  · simp (disch := first | assumption | omega) only [↓RP, RQ, TY, loadT, reduceIte, Nat.reduceEqDiff, Nat.reduceAdd, mix_zero]
    exact ⟨by omega, (updS hv).symm⟩
  rintro i e H' ⟨e12, e11, e10, e0, e1, e2, hi, rfl⟩
  have lM := mix_length lT i
  have hwi := hw (mix (addToL (fF p m mod) xs a ys) xs i)
  have hgi : GFA (H.upd bv (.rw (ints (mix (addToL (fF p m mod) xs a ys) xs i)))) b p m mod := hg.ext (hE.upd hfv _)
  have hbi : (H.upd bv (.rw (ints (mix (addToL (fF p m mod) xs a ys) xs i)))) bv = .rw (ints (mix (addToL (fF p m mod) xs a ys) xs i)) := by simp [AH.upd]
  have hnext := upd2 H bv (.rw (ints (mix (addToL (fF p m mod) xs a ys) xs i)))
  generalize hHi : H.upd bv (.rw (ints (mix (addToL (fF p m mod) xs a ys) xs i))) = Hi at *
  by_cases hlt : (i : Int) < ys.length
  · have gM : (mix (addToL (fF p m mod) xs a ys) xs i).getD i 0 = xs.getD i 0 := mix_get lT (Nat.le_refl i)
    have gT : (addToL (fF p m mod) xs a ys).getD i 0 = if ys.getD i 0 ≠ 0 then fadd p m (xs.getD i 0) (fmul p m mod a (ys.getD i 0)) else xs.getD i 0 := by
      rw [addToL, tabN_getD _ (show i < xs.length by omega)]; rfl
    have sM := mix_set lT (show i < xs.length by omega)
    by_cases hz : ys.getD i 0 = 0
    · simp (disch := first | assumption | omega) only [↓RP, RQ, TY, loadT, reduceIte, Nat.reduceEqDiff, Nat.reduceAdd, e12, e11, e10, e0, e1, e2, hlt, hwi.ints, hz]
      refine ⟨i + 1, ?_, by dsimp only; omega⟩
      simp (disch := first | assumption | omega) only [↓RP, RQ, TY, loadT, reduceIte, Nat.reduceEqDiff, Nat.reduceAdd, e12, e11, e10, e0, e1, e2]
      refine ⟨by omega, ?_⟩
      rw [← hHi, ← sM, gT, if_neg (by simpa using hz), ← gM, set_self]
    · simp (disch := first | assumption | omega) only [↓RP, RQ, TY, loadT, reduceIte, Nat.reduceEqDiff, Nat.reduceAdd, e12, e11, e10, e0, e1, e2, hlt, hwi.ints, hz, hbi, gM]
      refine c_GMul A hgi ha.1 ha.2 (he2 i).1 (he2 i).2 ?_
      have hel := ok.mul_el ha (he2 i)
      simp (disch := first | assumption | omega) only [↓RP, RQ, TY, loadT, reduceIte, Nat.reduceEqDiff, Nat.reduceAdd, e12, e11, e10, e0, e1, e2, hbi, gM]
      refine c_GAdd hgi (he i).1 (he i).2 hel.1 hel.2 ?_
      simp (disch := first | assumption | omega) only [↓RP, RQ, TY, loadT, reduceIte, Nat.reduceEqDiff, Nat.reduceAdd, e12, e11, e10, e0, e1, e2, hbi, gM]
      refine ⟨i + 1, ?_, by dsimp only; omega⟩
      simp (disch := first | assumption | omega) only [↓RP, RQ, TY, loadT, reduceIte, Nat.reduceEqDiff, Nat.reduceAdd, e12, e11, e10, e0, e1, e2]
      refine ⟨by omega, ?_⟩
      rw [hnext, ← sM, gT, if_pos hz]
  · simp (disch := first | assumption | omega) only [↓RP, RQ, TY, loadT, reduceIte, Nat.reduceEqDiff, Nat.reduceAdd, e12, e11, e10, e0, e1, e2, hlt]
    rw [mix_full lT (by omega)] at hHi
    rw [← hHi]
    exact hQ
open Classical in
theorem c_Equal {a b : AV} {xs ys : List Int} {H : AH} {Q : AV → AH → Prop} (ha : Ints H a xs) (hb : Ints H b ys) (hl : xs.length ≤ 9223372036854775807) (hl2 : ys.length ≤ 9223372036854775807)
    (hQ : Q (.bool (decide (xs = ys))) H) : AC Tryz.prog 153 [a, b] H Q := by
  refine at153 (by simp) ?_
  by_cases hlen : (xs.length : Int) = (ys.length : Int)
  rotate_left
  · simp (disch := first | assumption | omega) only [↓RP, RQ, TY, loadT, s153, reduceIte, Nat.reduceEqDiff, Nat.reduceAdd, ha.ints, hb.ints, eq_false hlen]
    rwa [decide_eq_false (fun q => hlen (by rw [q]))] at hQ
  simp (disch := first | assumption | omega) only [↓RP, RQ, TY, loadT, s153, reduceIte, Nat.reduceEqDiff, Nat.reduceAdd, ha.ints, hb.ints, eq_true hlen]
  refine sw_loop (σ := Nat) (fun i e H' => e 13 = .int .i64 i ∧ e 12 = .int .i64 xs.length ∧ e 0 = a ∧ e 1 = b ∧ i ≤ xs.length ∧ H' = H ∧ ∀ j, j < i → xs.getD j 0 = ys.getD j 0) (fun i => xs.length - i) 0 ?_ ?_
  · simp (disch := first | assumption | omega) only [↓RP, RQ, TY, loadT, reduceIte, Nat.reduceEqDiff, Nat.reduceAdd]
    exact ⟨by omega, fun j hj => by omega⟩
  rintro i e H' ⟨e13, e12, e0, e1, hi, rfl, hj⟩
  by_cases hlt : (i : Int) < xs.length
  · by_cases heq : xs.getD i 0 = ys.getD i 0
    · simp (disch := first | assumption | omega) only [↓RP, RQ, TY, loadT, reduceIte, Nat.reduceEqDiff, Nat.reduceAdd, e13, e12, e0, e1, hlt, ha.ints, hb.ints, heq]
      refine ⟨i + 1, ?_, by dsimp only; omega⟩
      simp (disch := first | assumption | omega) only [↓RP, RQ, TY, loadT, reduceIte, Nat.reduceEqDiff, Nat.reduceAdd, e13, e12, e0, e1]
      refine ⟨by omega, fun j h => ?_⟩
      by_cases hji : j = i
      · rw [hji]; exact heq
      · exact hj j (by omega)
    · simp (disch := first | assumption | omega) only [↓RP, RQ, TY, loadT, reduceIte, Nat.reduceEqDiff, Nat.reduceAdd, e13, e12, e0, e1, hlt, ha.ints, hb.ints, eq_false heq]
      rwa [decide_eq_false (fun q => heq (by rw [q]))] at hQ
  · simp (disch := first | assumption | omega) only [↓RP, RQ, TY, loadT, reduceIte, Nat.reduceEqDiff, Nat.reduceAdd, e13, e12, e0, e1, hlt]
    rwa [decide_eq_true] at hQ
    refine List.ext_getElem (by omega) fun j h1 h2 => ?_
    have := hj j (by omega)
    simpa [List.getD_eq_getElem?_getD, h1, h2] using this
open Classical in
theorem c_EqualFunc {a b : AV} {us ws : List AV} {xs ys : List (List Int)} {H : AH} {Q : AV → AH → Prop} (ha : Rows H a us xs) (hb : Rows H b ws ys) (hl : xs.length ≤ 9223372036854775807) (hl2 : ys.length ≤ 9223372036854775807)
    (h1 : ∀ i, i < xs.length → (rowAt xs i).length ≤ 9223372036854775807) (h2 : ∀ i, i < ys.length → (rowAt ys i).length ≤ 9223372036854775807)
    (hQ : Q (.bool (decide (xs = ys))) H) : AC Tryz.prog 152 [a, b, .fn 153 []] H Q := by
  refine at152 (by simp) ?_
  by_cases hlen : (xs.length : Int) = (ys.length : Int)
  rotate_left
  · simp (disch := first | assumption | omega) only [↓RP, RQ, TY, loadT, s152, reduceIte, Nat.reduceEqDiff, Nat.reduceAdd, ha.run, hb.run, eq_false hlen]
    rwa [decide_eq_false (fun q => hlen (by rw [q]))] at hQ
  simp (disch := first | assumption | omega) only [↓RP, RQ, TY, loadT, s152, reduceIte, Nat.reduceEqDiff, Nat.reduceAdd, ha.run, hb.run, eq_true hlen]
  refine sw_loop (σ := Nat) (fun i e H' => e 17 = .int .i64 i ∧ e 16 = .int .i64 xs.length ∧ e 15 = a ∧ e 1 = b ∧ e 2 = .fn 153 [] ∧ i ≤ xs.length ∧ H' = H ∧ ∀ j, j < i → rowAt xs j = rowAt ys j) (fun i => xs.length - i) 0 ?_ ?_
  · simp (disch := first | assumption | omega) only [↓RP, RQ, TY, loadT, reduceIte, Nat.reduceEqDiff, Nat.reduceAdd]
    exact ⟨by omega, fun j hj => by omega⟩
  rintro i e H' ⟨e17, e16, e15, e1, e2, hi, rfl, hj⟩
  by_cases hlt : (i : Int) < xs.length
  · simp (disch := first | assumption | omega) only [↓RP, RQ, TY, loadT, reduceIte, Nat.reduceEqDiff, Nat.reduceAdd, e17, e16, e15, e1, e2, hlt, ha.run, hb.run]
    refine c_Equal (ha.row i (by omega)) (hb.row i (by omega)) (h1 i (by omega)) (h2 i (by omega)) ?_
    by_cases heq : rowAt xs i = rowAt ys i
    · simp (disch := first | assumption | omega) only [↓RP, RQ, TY, loadT, reduceIte, Nat.reduceEqDiff, Nat.reduceAdd, e17, e16, e15, e1, e2, heq, ha.run, hb.run]
      refine ⟨i + 1, ?_, by dsimp only; omega⟩
      simp (disch := first | assumption | omega) only [↓RP, RQ, TY, loadT, reduceIte, Nat.reduceEqDiff, Nat.reduceAdd, e17, e16, e15, e1, e2]
      refine ⟨by omega, fun j h => ?_⟩
      by_cases hji : j = i
      · rw [hji]; exact heq
      · exact hj j (by omega)
    · simp (disch := first | assumption | omega) only [↓RP, RQ, TY, loadT, reduceIte, Nat.reduceEqDiff, Nat.reduceAdd, e17, e16, e15, e1, e2, eq_false heq, ha.run, hb.run]
      rwa [decide_eq_false (fun q => heq (by rw [q]))] at hQ
  · simp (disch := first | assumption | omega) only [↓RP, RQ, TY, loadT, reduceIte, Nat.reduceEqDiff, Nat.reduceAdd, e17, e16, e15, e1, e2, hlt, ha.run, hb.run]
    rwa [decide_eq_true] at hQ
    refine List.ext_getElem (by omega) fun j h1 h2 => ?_
    have := hj j (by omega)
    simpa [rowAt, List.getD_eq_getElem?_getD, h1, h2] using this
end Go.Proofs.YtbkpebmcagdgmaaGreat.AM
/-! The program's matrices, second part: what the elimination keeps in memory. -/
namespace Go.Proofs.YtbkpebmcagdgmaaGreat.AM
open Go Go.RowKit
set_option linter.unusedVariables false
set_option linter.unusedSimpArgs false
set_option maxRecDepth 20000
structure PM (H0 H : AH) (lv : AV) (ws : List AV) (l : List (List Int)) (pv : AV) (ps : List Int) (fs : List (Nat × List AV)) : Prop where
  ext : Ext H0 H
  hn : 0 < l.length
  blk : H (slB lv) = .rw ws ∧ slO lv = 0 ∧ H0 (slB lv) = .free
  eqv : lv = .sl (slB lv) 0 ws.length (.own 1)
  len : ws.length = l.length
  rb : ∀ i, i < l.length → ws.getD i .junk = .sl (slB (ws.getD i .junk)) 0 (rowAt l i).length (.own 1) ∧ H (slB (ws.getD i .junk)) = .rw (ints (rowAt l i)) ∧ H0 (slB (ws.getD i .junk)) = .free
  pos : ∀ i, i < l.length → 0 < (rowAt l i).length
  inj : ∀ i j, i < l.length → j < l.length → i ≠ j → slB (ws.getD i .junk) ≠ slB (ws.getD j .junk)
  rp : ∀ i, i < l.length → Off pv (slB (ws.getD i .junk))
  lp : Off pv (slB lv)
  lr : ∀ i, i < l.length → slB (ws.getD i .junk) ≠ slB lv
  piv : Own H0 H pv (ints ps)
  bx : ∀ x, x ∈ fs → H x.1 = .rw x.2 ∧ (∀ i, i < l.length → slB (ws.getD i .junk) ≠ x.1) ∧ slB lv ≠ x.1 ∧ Off pv x.1
section
variable {H0 H H' : AH} {lv : AV} {ws : List AV} {l : List (List Int)} {pv : AV} {ps : List Int} {fs : List (Nat × List AV)}
theorem PM.own (h : PM H0 H lv ws l pv ps fs) : Own H0 H lv ws := .inr ⟨slB lv, h.eqv, h.blk.1, h.blk.2.2⟩
theorem PM.ri (h : PM H0 H lv ws l pv ps fs) {i : Nat} (hi : i < l.length) : Ints H (ws.getD i .junk) (rowAt l i) := by
  obtain ⟨h1, h2, h3⟩ := h.rb i hi
  rw [h1]
  exact Sl.own h2 (by rw [ints_length])
theorem PM.rows (h : PM H0 H lv ws l pv ps fs) : Rows H lv ws l := ⟨h.own.sl, h.len, fun i hi => h.ri hi⟩
theorem PM.more (h : PM H0 H lv ws l pv ps fs) (hE : Ext H H') : PM H0 H' lv ws l pv ps fs :=
  ⟨h.ext.trans hE, h.hn, ⟨hE.rw h.blk.1, h.blk.2⟩, h.eqv, h.len, fun i hi => by obtain ⟨h1, h2, h3⟩ := h.rb i hi; exact ⟨h1, hE.rw h2, h3⟩, h.pos, h.inj, h.rp, h.lp, h.lr, h.piv.ext hE,
    fun x hx => by obtain ⟨h1, h2, h3, h4⟩ := h.bx x hx; exact ⟨hE.rw h1, h2, h3, h4⟩⟩
theorem Own.offFree {xs : List Int} (h : Own H0 H pv (ints xs)) {b : Nat} (hb : H b = .free) : Off pv b := fun o n c q => by
  rcases h with ⟨h, -⟩ | ⟨b2, h1, h2, -⟩
  · rw [q] at h; cases h
  · rw [q] at h1; cases h1; rw [hb] at h2; cases h2
theorem PM.fresh (h : PM H0 H lv ws l pv ps fs) {b : Nat} (hb : H b = .free) : (∀ i, i < l.length → slB (ws.getD i .junk) ≠ b) ∧ slB lv ≠ b ∧ Off pv b ∧ H0 b = .free ∧ ∀ x, x ∈ fs → x.1 ≠ b := by
  refine ⟨fun i hi q => ?_, fun q => ?_, h.piv.offFree hb, h.ext.free hb, fun x hx q => ?_⟩
  · have := (h.rb i hi).2.1
    rw [q, hb] at this
    cases this
  · have := h.blk.1
    rw [q, hb] at this
    cases this
  · have := (h.bx x hx).1
    rw [q, hb] at this
    cases this
theorem PM.box (h : PM H0 H lv ws l pv ps fs) {b : Nat} {c : List AV} (hb : H b = .free) (hE : Ext H H') (hc : H' b = .rw c) : PM H0 H' lv ws l pv ps ((b, c) :: fs) := by
  have h' := h.more hE
  obtain ⟨f1, f2, f3, -⟩ := h.fresh hb
  refine ⟨h'.ext, h.hn, h'.blk, h'.eqv, h'.len, h'.rb, h'.pos, h'.inj, h'.rp, h'.lp, h'.lr, h'.piv, fun x hx => ?_⟩
  rcases List.mem_cons.mp hx with rfl | hx
  · exact ⟨hc, f1, f2, f3⟩
  · exact h'.bx x hx
theorem PM.drop (h : PM H0 H lv ws l pv ps fs) {fs' : List (Nat × List AV)} (hf : ∀ x, x ∈ fs' → x ∈ fs) : PM H0 H lv ws l pv ps fs' :=
  ⟨h.ext, h.hn, h.blk, h.eqv, h.len, h.rb, h.pos, h.inj, h.rp, h.lp, h.lr, h.piv, fun x hx => h.bx x (hf x hx)⟩
theorem Own.updOff {us : List AV} {b : Nat} (h : Own H0 H pv us) (hb : Off pv b) (s : Slot) : Own H0 (H.upd b s) pv us := by
  rcases h with h | ⟨b2, h1, h2, h3⟩
  · exact .inl h
  · refine .inr ⟨b2, h1, ?_, h3⟩
    have : b2 ≠ b := fun q => hb _ _ _ (by rw [h1, q])
    simp [AH.upd, this, h2]
theorem updNe {b b' : Nat} {s : Slot} (h : b' ≠ b) : (H.upd b s) b' = H b' := by simp [AH.upd, h]
theorem updEq {b : Nat} {s : Slot} : (H.upd b s) b = s := by simp [AH.upd]
theorem PM.upbox {b : Nat} {c c' : List AV} (h : PM H0 H lv ws l pv ps ((b, c) :: fs)) (h0 : H0 b = .free) (hf : ∀ x, x ∈ fs → x.1 ≠ b) : PM H0 (H.upd b (.rw c')) lv ws l pv ps ((b, c') :: fs) := by
  obtain ⟨k1, k2, k3, k4⟩ := h.bx (b, c) (by simp)
  dsimp only at k1 k2 k3 k4
  refine ⟨h.ext.upd h0 _, h.hn, ⟨by rw [updNe k3]; exact h.blk.1, h.blk.2⟩, h.eqv, h.len, fun i hi => ?_, h.pos, h.inj, h.rp, h.lp, h.lr, h.piv.updOff k4 _, fun x hx => ?_⟩
  · obtain ⟨r1, r2, r3⟩ := h.rb i hi
    exact ⟨r1, by rw [updNe (k2 i hi)]; exact r2, r3⟩
  · rcases List.mem_cons.mp hx with rfl | hx
    · exact ⟨updEq, k2, k3, k4⟩
    · obtain ⟨x1, x2⟩ := h.bx x (by simp [hx])
      exact ⟨by rw [updNe (hf x hx)]; exact x1, x2⟩
/-- two rows change places -/
theorem PM.swap (h : PM H0 H lv ws l pv ps fs) {a k : Nat} (ha : a < l.length) (hk : k < l.length) :
    PM H0 (H.upd (slB lv) (.rw ((ws.set a (ws.getD k .junk)).set k (ws.getD a .junk)))) lv ((ws.set a (ws.getD k .junk)).set k (ws.getD a .junk)) (swapL l a k) pv ps fs := by
  have e : ∀ i, ((ws.set a (ws.getD k .junk)).set k (ws.getD a .junk)).getD i .junk = ws.getD (if i = a then k else if i = k then a else i) .junk := fun i => by
    rw [getD_setN, getD_setN, List.length_set, h.len]
    by_cases h1 : i = k
    · subst h1
      by_cases h2 : i = a
      · subst h2; simp [hk]
      · simp [h2, hk]
    · by_cases h2 : i = a
      · subst h2; simp [h1, ha]
      · simp [h1, h2]
  have s1 : ∀ i, i < l.length → (if i = a then k else if i = k then a else i) < l.length := fun i hi => by
    split
    · assumption
    · split <;> assumption
  have s2 : ∀ i j, i ≠ j → (if i = a then k else if i = k then a else i) ≠ (if j = a then k else if j = k then a else j) := fun i j hij => by
    split <;> split <;> (try split) <;> (try split) <;> omega
  have lw : ((ws.set a (ws.getD k .junk)).set k (ws.getD a .junk)).length = ws.length := by simp
  have ls := swapL_length l a k
  refine ⟨h.ext.upd h.blk.2.2 _, by rw [ls]; exact h.hn, ⟨updEq, h.blk.2⟩, by rw [lw]; exact h.eqv, by rw [lw, ls, h.len], fun i hi => ?_, fun i hi => ?_, fun i j hi hj hij => ?_, fun i hi => ?_, h.lp, fun i hi => ?_, h.piv.updOff h.lp _, fun x hx => ?_⟩
  · rw [ls] at hi
    obtain ⟨r1, r2, r3⟩ := h.rb _ (s1 i hi)
    rw [e i, rowAt_swap ha hk]
    exact ⟨r1, by rw [updNe (h.lr _ (s1 i hi))]; exact r2, r3⟩
  · rw [ls] at hi
    rw [rowAt_swap ha hk]
    exact h.pos _ (s1 i hi)
  · rw [ls] at hi hj
    rw [e i, e j]
    exact h.inj _ _ (s1 i hi) (s1 j hj) (s2 i j hij)
  · rw [ls] at hi
    rw [e i]
    exact h.rp _ (s1 i hi)
  · rw [ls] at hi
    rw [e i]
    exact h.lr _ (s1 i hi)
  · obtain ⟨x1, x2, x3, x4⟩ := h.bx x hx
    refine ⟨by rw [updNe (Ne.symm x3)]; exact x1, fun i hi => ?_, x3, x4⟩
    rw [ls] at hi
    rw [e i]
    exact x2 _ (s1 i hi)
/-- a row is replaced by a new one -/
theorem PM.repl (h : PM H0 H lv ws l pv ps fs) {b : Nat} {xs : List Int} (hb : H b = .free) (hE : Ext H H') (hc : H' b = .rw (ints xs)) {i : Nat} (hi : i < l.length) (hx : 0 < xs.length) :
    PM H0 (H'.upd (slB lv) (.rw (ws.set i (.sl b 0 xs.length (.own 1))))) lv (ws.set i (.sl b 0 xs.length (.own 1))) (l.set i xs) pv ps fs := by
  have h' := h.more hE
  obtain ⟨f1, f2, f3, f4, f5⟩ := h.fresh hb
  have e : ∀ j, j < l.length → ((ws.set i (.sl b 0 xs.length (.own 1))).getD j .junk = if j = i then .sl b 0 xs.length (.own 1) else ws.getD j .junk) ∧ rowAt (l.set i xs) j = if j = i then xs else rowAt l j := fun j hj => by
    rw [rowAt, getD_setN, getD_setN, h.len]
    by_cases hji : j = i
    · subst hji; simp [hj]
    · simp only [hji, false_and, if_false]; exact ⟨trivial, rfl⟩
  have ls : (l.set i xs).length = l.length := by simp
  have lw : (ws.set i (.sl b 0 xs.length (.own 1))).length = ws.length := by simp
  have es : ∀ j, j < l.length → slB ((ws.set i (.sl b 0 xs.length (.own 1))).getD j .junk) = if j = i then b else slB (ws.getD j .junk) := fun j hj => by
    rw [(e j hj).1]; split <;> rfl
  refine ⟨h'.ext.upd h.blk.2.2 _, by rw [ls]; exact h.hn, ⟨updEq, h.blk.2⟩, by rw [lw]; exact h.eqv, by rw [lw, ls, h.len], fun j hj => ?_, fun j hj => ?_, fun j j' hj hj' hij => ?_, fun j hj => ?_, h.lp, fun j hj => ?_, h'.piv.updOff h.lp _, fun x hx' => ?_⟩
  · rw [ls] at hj
    rw [es j hj, (e j hj).1, (e j hj).2]
    by_cases hji : j = i
    · rw [if_pos hji, if_pos hji, if_pos hji]
      exact ⟨rfl, by rw [updNe (Ne.symm f2)]; exact hc, f4⟩
    · rw [if_neg hji, if_neg hji, if_neg hji]
      obtain ⟨r1, r2, r3⟩ := h'.rb j hj
      exact ⟨r1, by rw [updNe (h.lr j hj)]; exact r2, r3⟩
  · rw [ls] at hj
    rw [(e j hj).2]
    split
    · exact hx
    · exact h.pos j hj
  · rw [ls] at hj hj'
    rw [es j hj, es j' hj']
    split <;> split
    · omega
    · exact Ne.symm (f1 j' hj')
    · exact f1 j hj
    · exact h.inj j j' hj hj' hij
  · rw [ls] at hj
    rw [es j hj]
    split
    · exact f3
    · exact h.rp j hj
  · rw [ls] at hj
    rw [es j hj]
    split
    · exact Ne.symm f2
    · exact h.lr j hj
  · obtain ⟨x1, x2, x3, x4⟩ := h'.bx x hx'
    refine ⟨by rw [updNe (Ne.symm x3)]; exact x1, fun j hj => ?_, x3, x4⟩
    rw [ls] at hj
    rw [es j hj]
    split
    · exact Ne.symm (f5 x hx')
    · exact x2 j hj
/-- the entries of a row change -/
theorem PM.rowset (h : PM H0 H lv ws l pv ps fs) {i : Nat} {xs : List Int} (hi : i < l.length) (hl : xs.length = (rowAt l i).length) :
    PM H0 (H.upd (slB (ws.getD i .junk)) (.rw (ints xs))) lv ws (l.set i xs) pv ps fs := by
  have e : ∀ j, j < l.length → rowAt (l.set i xs) j = if j = i then xs else rowAt l j := fun j hj => by
    rw [rowAt, getD_setN]
    by_cases hji : j = i
    · subst hji; simp [hj]
    · simp only [hji, false_and, if_false]; rfl
  have ls : (l.set i xs).length = l.length := by simp
  refine ⟨h.ext.upd (h.rb i hi).2.2 _, by rw [ls]; exact h.hn, ⟨by rw [updNe (Ne.symm (h.lr i hi))]; exact h.blk.1, h.blk.2⟩, h.eqv, by rw [ls, h.len], fun j hj => ?_, fun j hj => ?_, by rw [ls]; exact h.inj, by rw [ls]; exact h.rp, h.lp, by rw [ls]; exact h.lr, h.piv.updOff (h.rp i hi) _, fun x hx => ?_⟩
  · rw [ls] at hj
    rw [e j hj]
    obtain ⟨r1, r2, r3⟩ := h.rb j hj
    by_cases hji : j = i
    · subst hji
      rw [if_pos rfl, hl]
      exact ⟨r1, updEq, r3⟩
    · rw [if_neg hji]
      exact ⟨r1, by rw [updNe (h.inj j i hj hi hji)]; exact r2, r3⟩
  · rw [ls] at hj
    rw [e j hj]
    split
    · rw [hl]; exact h.pos i hi
    · exact h.pos j hj
  · obtain ⟨x1, x2, x3, x4⟩ := h.bx x hx
    exact ⟨by rw [updNe (Ne.symm (x2 i hi))]; exact x1, by rw [ls]; exact x2, x3, x4⟩
/-- the list of pivots grows -/
theorem PM.push (h : PM H0 H lv ws l pv ps fs) {v : AV} {ps' : List Int} (hE : Ext H0 H') (ho : Own H0 H' v (ints ps')) (keep : ∀ c us, H c = .rw us → Off pv c → H' c = .rw us ∧ Off v c) : PM H0 H' lv ws l v ps' fs := by
  obtain ⟨l1, l2⟩ := keep _ _ h.blk.1 h.lp
  refine ⟨hE, h.hn, ⟨l1, h.blk.2⟩, h.eqv, h.len, fun i hi => ?_, h.pos, h.inj, fun i hi => (keep _ _ (h.rb i hi).2.1 (h.rp i hi)).2, l2, h.lr, ho, fun x hx => ?_⟩
  · obtain ⟨r1, r2, r3⟩ := h.rb i hi
    exact ⟨r1, (keep _ _ r2 (h.rp i hi)).1, r3⟩
  · obtain ⟨x1, x2, x3, x4⟩ := h.bx x hx
    obtain ⟨k1, k2⟩ := keep _ _ x1 x4
    exact ⟨k1, x2, x3, k2⟩
end
end Go.Proofs.YtbkpebmcagdgmaaGreat.AM
/-! The program's matrices, third part: the steps of the elimination. -/
namespace Go.Proofs.YtbkpebmcagdgmaaGreat.AM
open Go Go.RowKit
set_option linter.unusedVariables false
set_option linter.unusedSimpArgs false
set_option maxRecDepth 20000
theorem c_each {f b5 b7 : Nat} {c : AV} {cs : List AV} {rv : AV} {H : AH} {Q : AV → AH → Prop} {R : AH → Prop} (h5 : H b5 = .rw [rv]) (h7 : H b7 = .rw [.nils]) (hR : ∀ H', R H' → H' b7 = .rw [.nils])
    (hs : ∀ Q' : AV → AH → Prop, (∀ H', R H' → Q' (.tup []) H') → AC Tryz.prog f (rv :: c :: cs) H Q') (hQ : ∀ H', R H' → Q (.tup []) H') : AC Tryz.prog 177 [.fn f (c :: cs), .ptr b5 0, .ptr b7 0] H Q := by
  refine at177 (by simp) ?_
  simp (disch := first | assumption | omega) only [↓RP, RQ, TY, loadT, s177, reduceIte, Nat.reduceEqDiff, Nat.reduceAdd, h5]
  refine hs _ fun H' hr => ?_
  simp (disch := first | assumption | omega) only [↓RP, RQ, TY, loadT, reduceIte, Nat.reduceEqDiff, Nat.reduceAdd, hR H' hr, Int.lt_irrefl]
  exact hQ H' hr
section
variable {H0 H : AH} {lv : AV} {ws : List AV} {l : List (List Int)} {pv : AV} {ps : List Int} {fs : List (Nat × List AV)} {Q : AV → AH → Prop}
theorem c_sw {bk ba k a : Nat} (h : PM H0 H lv ws l pv ps fs) (hk : (bk, [AV.int .i64 k]) ∈ fs) (ha : (ba, [AV.int .i64 a]) ∈ fs) (k1 : k < l.length) (a1 : a < l.length)
    (hQ : ∀ H' ws', PM H0 H' lv ws' (swapL l a k) pv ps fs → Q (.tup []) H') : AC Tryz.prog 178 [lv, .ptr bk 0, .ptr ba 0] H Q := by
  obtain ⟨xk, -, nk, -⟩ := h.bx _ hk
  obtain ⟨xa, -, na, -⟩ := h.bx _ ha
  dsimp only at xk nk xa na
  obtain ⟨hbl, hso, -⟩ := h.blk
  have hlr := h.rows.run
  have hwl := h.len
  have s1 := (h.ri k1).isSl
  have s2 := (h.ri a1).isSl
  have nk' := Ne.symm nk
  have na' := Ne.symm na
  have lw : (ws.set a (ws.getD k .junk)).length = ws.length := by simp
  refine at178 (by simp) ?_
  simp (disch := first | assumption | omega) only [↓RP, RQ, TY, loadT, s178, reduceIte, Nat.reduceEqDiff, Nat.reduceAdd, xk, xa, hlr.1, hlr.2.1, hso, Nat.zero_add, hbl, b_get, u_storeV, u_stGV]
  have hf := h.swap a1 k1
  rw [← upd2 H (slB lv) (.rw (ws.set a (ws.getD k .junk)))] at hf
  exact hQ _ _ hf
theorem c_sc (A : Alg) {b4 bg bi ba a : Nat} {p m v : Int} {mod : List Int} (hg : GFA H0 bg p m mod) (h : PM H0 H lv ws l pv ps fs) (h4 : (b4, [AV.ptr bg 0]) ∈ fs) (hi : (bi, [AV.int .i64 v]) ∈ fs) (ha : (ba, [AV.int .i64 a]) ∈ fs) (a1 : a < l.length)
    (hv : (fF p m mod).El v) (he : Els (fF p m mod) l) (hl : (rowAt l a).length ≤ 1000)
    (hQ : ∀ H' ws', PM H0 H' lv ws' (l.set a (scaleL (fF p m mod) v (rowAt l a))) pv ps fs → Q (.tup []) H') : AC Tryz.prog 179 [lv, .ptr b4 0, .ptr bi 0, .ptr ba 0] H Q := by
  obtain ⟨x4, -, n4, -⟩ := h.bx _ h4
  obtain ⟨xi, -, ni, -⟩ := h.bx _ hi
  obtain ⟨xa, -, na, -⟩ := h.bx _ ha
  dsimp only at x4 n4 xi ni xa na
  obtain ⟨hbl, hso, -⟩ := h.blk
  have hlr := h.rows.run
  have hwl := h.len
  refine at179 (by simp) ?_
  simp (disch := first | assumption | omega) only [↓RP, RQ, TY, loadT, s179, reduceIte, Nat.reduceEqDiff, Nat.reduceAdd, x4, xi, xa, hlr.1, hlr.2.1, hso, Nat.zero_add, hbl, b_get]
  refine c_GScale A (hg.ext h.ext) hv (h.ri a1) hl (fun i => he a i) fun b H' hb hE hH' => ?_
  obtain ⟨hbl', -, -⟩ := (h.more hE).blk
  have xa' := hE.rw xa
  simp (disch := first | assumption | omega) only [↓RP, RQ, TY, loadT, reduceIte, Nat.reduceEqDiff, Nat.reduceAdd, xa', hbl', hlr.1, hlr.2.1, hso, Nat.zero_add]
  have hf := h.repl (xs := scaleL (fF p m mod) v (rowAt l a)) hb hE hH' a1 (by rw [scaleL_length]; exact h.pos a a1)
  rw [scaleL_length] at hf
  exact hQ _ _ hf
theorem c_ad (A : Alg) {b4 bg bi bx ba i a : Nat} {p m x : Int} {mod : List Int} (hg : GFA H0 bg p m mod) (h : PM H0 H lv ws l pv ps fs) (h4 : (b4, [AV.ptr bg 0]) ∈ fs) (hi : (bi, [AV.int .i64 i]) ∈ fs) (hx : (bx, [AV.int .i64 x]) ∈ fs) (ha : (ba, [AV.int .i64 a]) ∈ fs) (a1 : a < l.length) (i1 : i < l.length) (hia : i ≠ a)
    (ok : (fF p m mod).Ok) (hx' : (fF p m mod).El x) (he : Els (fF p m mod) l) (hl : (rowAt l i).length ≤ 1000) (hl2 : (rowAt l a).length = (rowAt l i).length)
    (hQ : ∀ H', PM H0 H' lv ws (l.set i (addToL (fF p m mod) (rowAt l i) (fneg p m x) (rowAt l a))) pv ps fs → Q (.tup []) H') : AC Tryz.prog 180 [lv, .ptr b4 0, .ptr bi 0, .ptr bx 0, .ptr ba 0] H Q := by
  obtain ⟨x4, -, n4, -⟩ := h.bx _ h4
  obtain ⟨xi, -, ni, -⟩ := h.bx _ hi
  obtain ⟨xx, -, nx, -⟩ := h.bx _ hx
  obtain ⟨xa, -, na, -⟩ := h.bx _ ha
  dsimp only at x4 n4 xi ni xx nx xa na
  obtain ⟨hbl, hso, -⟩ := h.blk
  have hlr := h.rows.run
  have hwl := h.len
  refine at180 (by simp) ?_
  simp (disch := first | assumption | omega) only [↓RP, RQ, TY, loadT, s180, reduceIte, Nat.reduceEqDiff, Nat.reduceAdd, x4, xi, xx, xa, hlr.1, hlr.2.1, hso, Nat.zero_add, hbl, b_get]
  refine c_GNeg (hg.ext h.ext) hx'.1 hx'.2 ?_
  simp (disch := first | assumption | omega) only [↓RP, RQ, TY, loadT, reduceIte, Nat.reduceEqDiff, Nat.reduceAdd, x4, xi, xx, xa, hlr.1, hlr.2.1, hso, Nat.zero_add, hbl, b_get]
  obtain ⟨r1, r2, r3⟩ := h.rb i i1
  rw [r1]
  refine c_add A hg h.ext r3 r2 (fun zs => ?_) (ok.neg_el hx') hl hl2 (fun j => he i j) (fun j => he a j) ?_
  · obtain ⟨q1, q2, q3⟩ := h.rb a a1
    rw [q1]
    exact Sl.own (by rw [updNe (h.inj a i a1 i1 (Ne.symm hia))]; exact q2) (by rw [ints_length])
  · simp (disch := first | assumption | omega) only [↓RP, RQ, TY, loadT, reduceIte, Nat.reduceEqDiff, Nat.reduceAdd]
    exact hQ _ (h.rowset i1 (addToL_length _ _ _))
end
end Go.Proofs.YtbkpebmcagdgmaaGreat.AM
