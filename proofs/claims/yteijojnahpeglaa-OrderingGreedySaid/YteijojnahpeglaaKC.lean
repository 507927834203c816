/- Helpers. Heaps that grow; slices of ints; rules for proofs that use the runner. · Slices of the call's own, which grow by append. · The reference's field, first part: contracts. · The reference's field, second part: primes and divisors. · The reference's field, third part: Check. · The reference's field, fourth part: digits and sums. · The reference's field, fifth part: sums and negatives. · The reference's field, sixth part: products. · The reference's field, seventh part: inverses. -/
import Derived.Test.YteijojnahpeglaaKB
import Derived.Test.YteijojnahpeglaaKU
/-! Heaps that grow; slices of ints; rules for proofs that use the runner. -/
namespace Go.Proofs.Yteijojnahpeglaa.AM
open Go Go.RowKit
set_option linter.unusedVariables false
set_option linter.unusedSimpArgs false

/-- Nothing that was there has changed. -/
def Ext (H H' : AH) : Prop := ∀ b, H b ≠ .free → H' b = H b
theorem Ext.refl (H : AH) : Ext H H := fun _ _ => rfl
theorem Ext.trans {H H' H'' : AH} (h : Ext H H') (h' : Ext H' H'') : Ext H H'' := fun b hb => by
  have h1 := h b hb
  rw [h' b (by rw [h1]; exact hb), h1]
theorem Ext.rw {H H' : AH} (h : Ext H H') {b : Nat} {xs : List AV} (hb : H b = .rw xs) : H' b = .rw xs := by
  rw [h b (by rw [hb]; exact fun q => by cases q), hb]
theorem Ext.new {H : AH} {b : Nat} (hb : H b = .free) (s : Slot) : Ext H (H.upd b s) := fun c hc => by
  unfold AH.upd
  rw [if_neg (fun q => hc (by rw [q]; exact hb))]
theorem Ext.upd {H H' : AH} (h : Ext H H') {b : Nat} (hb : H b = .free) (s : Slot) : Ext H (H'.upd b s) := fun c hc => by
  unfold AH.upd
  rw [if_neg (fun q => hc (by rw [q]; exact hb))]
  exact h c hc
theorem Ext.free {H H' : AH} (h : Ext H H') {b : Nat} (hb : H' b = .free) : H b = .free := by
  apply Classical.byContradiction
  intro hc
  have := h b hc
  rw [hb] at this
  exact hc this.symm
theorem Ext.cell {H H' : AH} (h : Ext H H') {b o : Nat} {v : AV} (hc : H.cell b o = some v) : H'.cell b o = some v := by
  have : H b ≠ .free := fun q => by simp [AH.cell, q] at hc
  simp only [AH.cell, h b this]
  exact hc

theorem ints_length (xs : List Int) : (ints xs).length = xs.length := by simp [ints]
theorem ints_get {xs : List Int} {i : Nat} (h : i < xs.length) : (ints xs)[i]? = some (.int .i64 (xs.getD i 0)) := by
  simp [ints, h, List.getD_eq_getElem?_getD]
theorem ints_set {xs : List Int} {i : Nat} {v : Int} : (ints xs).set i (.int .i64 v) = ints (xs.set i v) := by
  simp [ints, List.map_set]
theorem ints_rep {n : Nat} {v : Int} : List.replicate n (AV.int .i64 v) = ints (List.replicate n v) := by
  simp [ints]
theorem ints_app {xs ys : List Int} : ints xs ++ ints ys = ints (xs ++ ys) := by simp [ints]
theorem ints_one {x : Int} : [AV.int .i64 x] = ints [x] := rfl
theorem ints_nil : ([] : List AV) = ints [] := rfl

def slB : AV → Nat
  | .sl b _ _ _ => b
  | _ => 0
def slO : AV → Nat
  | .sl _ o _ _ => o
  | _ => 0

/-- v is a slice whose elements, of one cell each, are us. -/
def Sl (H : AH) (v : AV) (us : List AV) : Prop :=
  (v = .nils ∧ us = []) ∨ ∃ b o c, v = .sl b o us.length c ∧ ∀ i u, us[i]? = some u → H.cell b (o + i) = some u
abbrev Ints (H : AH) (v : AV) (xs : List Int) : Prop := Sl H v (ints xs)

theorem Sl.ext {H H' : AH} {v : AV} {us : List AV} (h : Sl H v us) (hE : Ext H H') : Sl H' v us := by
  rcases h with h | ⟨b, o, c, h1, h2⟩
  · exact .inl h
  · exact .inr ⟨b, o, c, h1, fun i u hu => hE.cell (h2 i u hu)⟩
theorem Sl.own {H : AH} {b n : Nat} {c : Cap} {us : List AV} (h : H b = .rw us) (hn : n = us.length) : Sl H (.sl b 0 n c) us := by
  subst hn
  refine .inr ⟨b, 0, c, rfl, fun i u hu => ?_⟩
  simp only [AH.cell, h, Nat.zero_add]
  exact hu

theorem Sl.take {H : AH} {b n : Nat} {c : Cap} {us : List AV} (h : H b = .rw us) (hn : n ≤ us.length) : Sl H (.sl b 0 n c) (us.take n) := by
  refine .inr ⟨b, 0, c, by rw [List.length_take, Nat.min_eq_left hn], fun i u hu => ?_⟩
  simp only [AH.cell, h, Nat.zero_add]
  rw [List.getElem?_take] at hu
  split at hu
  · exact hu
  · cases hu

section
variable {P : Program} {K : Kt} {Q : APost} {e : Env} {H : AH} {d : Option Nat} {r : Rst} {k k' : IntKind} {j : Int} {ds : List Nat} {t i : Nat} {v : AV} {us : List AV} {xs : List Int}

theorem Sl.len (h : Sl H v us) : kLen P (some t) r e H K d v = kPut P r e H K d (.int .i64 us.length) := by
  rcases h with ⟨rfl, rfl⟩ | ⟨b, o, c, rfl, -⟩ <;> simp [kLen, kPut]
theorem Sl.idx (h : Sl H v us) (h0 : 0 ≤ j) (h1 : j < us.length) : kIdx P (some 1) r e H K d v (.int k j) = kPut P r e H K d (.ptr (slB v) (slO v + j.toNat)) := by
  rcases h with ⟨rfl, rfl⟩ | ⟨b, o, c, rfl, -⟩
  · simp at h1; omega
  · simp [kIdx, kPut, h0, h1, slB, slO]
theorem Sl.at (h : Sl H v us) (h1 : i < us.length) : H.cell (slB v) (slO v + i) = some (us.getD i .junk) := by
  rcases h with ⟨rfl, rfl⟩ | ⟨b, o, c, rfl, h2⟩
  · simp at h1
  · exact h2 i _ (by simp [h1, List.getD_eq_getElem?_getD])
/-- What the runner wants to know of a slice of ints. -/
theorem Sl.ints (h : Ints H v xs) : (∀ {P : Program} {r : Rst} {e : Env} {H : AH} {K : Kt} {d : Option Nat} {t : Nat}, kLen P (some t) r e H K d v = kPut P r e H K d (.int .i64 xs.length)) ∧
    (∀ {P : Program} {r : Rst} {e : Env} {H : AH} {K : Kt} {d : Option Nat} {k : IntKind} {j : Int}, 0 ≤ j → j < xs.length → kIdx P (some 1) r e H K d v (.int k j) = kPut P r e H K d (.ptr (slB v) (slO v + j.toNat))) ∧
    (∀ {i : Nat}, i < xs.length → slotCell (H (slB v)) (slO v + i) = some (.int .i64 (xs.getD i 0))) := by
  have hl := ints_length xs
  refine ⟨?_, ?_, ?_⟩
  · intro P r e H2 K d t
    rcases h with ⟨rfl, h⟩ | ⟨b, o, c, rfl, -⟩
    · rw [← hl, h]; simp [kLen, kPut]
    · rw [← hl]; simp [kLen, kPut]
  · intro P r e H2 K d k j h0 h1
    rw [← hl] at h1
    rcases h with ⟨rfl, h⟩ | ⟨b, o, c, rfl, -⟩
    · rw [h] at h1; simp at h1; omega
    · simp [kIdx, kPut, h0, h1, slB, slO]
  · intro i hi
    rw [← u_cell, h.at (by rw [hl]; exact hi), List.getD_eq_getElem?_getD, u_getI hi]
    rfl
theorem kNew_intro {m : Nat → AV} {cs : List AV} (h : ∀ b H', H b = .free → Ext H H' → H' b = .rw cs → go P r (e.put d (m b)) H' K) : kNew P m r e H K d cs :=
  fun b hb => h b _ hb (Ext.new hb _) (by simp [AH.upd])
theorem kIf_intro {p : Prop} [Decidable p] {x y : SC} (h1 : p → swp P x Q e H) (h2 : ¬p → swp P y Q e H) : kIf P x y Q e H (.bool (decide p)) := by
  by_cases h : p <;> simp [kIf, h, h1, h2]
theorem kG_introT {p : Prop} [Decidable p] {rn : Rst} {g : Nat} (h1 : p → go P r (e.put (some g) (.bool true)) H K) (h2 : ¬p → go P rn ((e.put (some g) (.bool false)).put d (.tup [])) H K) : kG P true g rn r e H K d (.bool (decide p)) := by
  by_cases h : p <;> simp [kG, h, h1, h2]
theorem kG_introF {p : Prop} [Decidable p] {rn : Rst} {g : Nat} (h1 : ¬p → go P r (e.put (some g) (.bool false)) H K) (h2 : p → go P rn ((e.put (some g) (.bool true)).put d (.tup [])) H K) : kG P false g rn r e H K d (.bool (decide p)) := by
  by_cases h : p <;> simp [kG, h, h1, h2]
theorem sGuard_mono {g : Option (Nat × Bool)} {y y' n n' : Env → Prop} (hy : ∀ e, y e → y' e) (hn : ∀ e, n e → n' e) (h : sGuard g e y n) : sGuard g e y' n' := by
  cases g with
  | none => exact hy _ h
  | some gw =>
    obtain ⟨d, w⟩ := gw
    simp only [sGuard] at h ⊢
    cases hd : e d <;> rw [hd] at h <;> dsimp only at h ⊢
    case bool b =>
      split
      · rename_i hh; rw [if_pos hh] at h; exact hy _ h
      · rename_i hh; rw [if_neg hh] at h; exact hn _ h
    all_goals exact hn _ h
theorem sops_mono {K K' : Kt} (hk : ∀ e H, K e H → K' e H) : ∀ (l : List SO) (e : Env) (H : AH), sops P l e H K → sops P l e H K'
  | [], e, H, h => hk _ _ h
  | o :: l, e, H, h => sGuard_mono (fun e h => aop_mono (fun v H' h => sops_mono hk l _ _ h) h) (fun e h => sops_mono hk l _ _ h) h
theorem sDraw_mono {K K' : Kt} (hk : ∀ e H, K e H → K' e H) : ∀ (l : List (Nat × List Nat × SO)) (σ : Seen) (e : Env) (H : AH), sDraw P l σ e H K → sDraw P l σ e H K'
  | [], σ, e, H, h => hk _ _ h
  | o :: l, σ, e, H, h => by
    simp only [sDraw] at h ⊢
    refine sGuard_mono (fun e h => ?_) (fun e h => sDraw_mono hk l _ _ _ h) h
    split
    · rename_i hw
      rw [if_pos hw] at h
      exact aop_mono (fun v H' h => ⟨h.1, sDraw_mono hk l _ _ _ h.2⟩) h
    · rename_i hw
      rw [if_neg hw] at h
      exact aop_mono (fun v H' h => sDraw_mono hk l _ _ _ h) h
theorem swp_mono : ∀ (c : SC) {Q Q' : APost} {e : Env} {H : AH}, (∀ x e H, Q x e H → Q' x e H) → swp P c Q e H → swp P c Q' e H := by
  intro c
  induction c with
  | skip => exact fun hq h => hq _ _ _ h
  | exit id => exact fun hq h => hq _ _ _ h
  | ret => exact fun hq h => hq _ _ _ h
  | bad => exact fun hq h => h
  | reg l => exact fun hq h => sops_mono (fun e H h => hq _ _ _ h) _ _ _ h
  | draw l => exact fun hq h => sDraw_mono (fun e H h => hq _ _ _ h) _ _ _ _ h
  | seq x y ihx ihy =>
    intro Q Q' e H hq h
    refine ihx (fun X e H hh => ?_) h
    cases X with
    | normal => exact ihy hq hh
    | exit id => exact hq _ _ _ hh
    | ret => exact hq _ _ _ hh
  | cond c x y ihx ihy =>
    intro Q Q' e H hq h
    simp only [swp] at h ⊢
    split at h
    · split
      · rename_i hh; rw [if_pos hh] at h; exact ihx hq h
      · rename_i hh; rw [if_neg hh] at h; exact ihy hq h
    · exact h.elim
  | block id c ih =>
    intro Q Q' e H hq h
    refine ih (fun X e H hh => ?_) h
    cases X with
    | normal => exact hq _ _ _ hh
    | exit i =>
      simp only [AX.inBlock] at hh ⊢
      split
      · rename_i hi; rw [if_pos hi] at hh; exact hq _ _ _ hh
      · rename_i hi; rw [if_neg hi] at hh; exact hq _ _ _ hh
    | ret => exact hq _ _ _ hh
  | loop c ih =>
    intro Q Q' e H hq ⟨I, μ, h0, h1⟩
    refine ⟨I, μ, h0, fun e H hI => ih (fun X e' H' hh => ?_) (h1 e H hI)⟩
    cases X with
    | normal => exact hh
    | exit id => exact hq _ _ _ hh
    | ret => exact hq _ _ _ hh
theorem least_of (p : Nat → Prop) : ∀ n, p n → ∃ m, p m ∧ ∀ q, p q → m ≤ q := by
  intro n
  induction n using Nat.strongRecOn with
  | ind n ih =>
    intro hn
    by_cases h : ∃ m, m < n ∧ p m
    · obtain ⟨m, h1, h2⟩ := h
      exact ih m h1 h2
    · exact ⟨n, hn, fun q hq => Nat.not_lt.mp fun hlt => h ⟨q, hlt, hq⟩⟩
/-- A loop: its states, what is less from round to round, its first state. -/
theorem sw_loop {c : SC} {σ : Type} (st : σ → Env → AH → Prop) (μ : σ → Nat) (s0 : σ) (h0 : st s0 e H) (h : ∀ s e' H', st s e' H' → swp P c (AX.then (kInv st μ s) Q) e' H') : swp P (.loop c) Q e H := by
  have hm : ∀ e H, ∃ n, (∃ s, st s e H) → (∃ s, st s e H ∧ μ s = n) ∧ ∀ s, st s e H → n ≤ μ s := by
    intro e H
    by_cases hs : ∃ s, st s e H
    · obtain ⟨s, hs⟩ := hs
      obtain ⟨m, ⟨s', h1, h2⟩, h3⟩ := least_of (fun n => ∃ s, st s e H ∧ μ s = n) (μ s) ⟨s, hs, rfl⟩
      exact ⟨m, fun _ => ⟨⟨s', h1, h2⟩, fun q hq => h3 _ ⟨q, hq, rfl⟩⟩⟩
    · exact ⟨0, fun q => (hs q).elim⟩
  refine ⟨fun e H => ∃ s, st s e H, fun e H => Classical.choose (hm e H), ⟨s0, h0⟩, fun e' H' hs => ?_⟩
  obtain ⟨⟨s, h1, h2⟩, h3⟩ := Classical.choose_spec (hm e' H') hs
  refine swp_mono c (fun x e2 H2 hx => ?_) (h s e' H' h1)
  cases x with
  | normal =>
    obtain ⟨s', h4, h5⟩ := hx
    refine ⟨⟨s', h4⟩, ?_⟩
    have := (Classical.choose_spec (hm e2 H2) ⟨s', h4⟩).2 s' h4
    show Classical.choose (hm e2 H2) < Classical.choose (hm e' H')
    omega
  | exit i => exact hx
  | ret => exact hx
end
end Go.Proofs.Yteijojnahpeglaa.AM
/-! Slices of the call's own, which grow by append. -/
namespace Go.Proofs.Yteijojnahpeglaa.AM
open Go Go.RowKit
set_option linter.unusedVariables false
set_option linter.unusedSimpArgs false

/-- Rounds 0 .. n-1. -/
def upto {α : Type} (f : Nat → α → α) : Nat → α → α
  | 0, a => a
  | n + 1, a => f n (upto f n a)
theorem upto_zero {α : Type} (f : Nat → α → α) (a : α) : upto f 0 a = a := rfl
theorem upto_succ {α : Type} (f : Nat → α → α) (n : Nat) (a : α) : upto f (n + 1) a = f n (upto f n a) := rfl

/-- A slice made since H0: nothing, or a whole block. -/
def Own (H0 H : AH) (v : AV) (us : List AV) : Prop := (v = .nils ∧ us = []) ∨ ∃ b, v = .sl b 0 us.length (.own 1) ∧ H b = .rw us ∧ H0 b = .free
/-- v does not stand in block c. -/
def Off (v : AV) (c : Nat) : Prop := ∀ o n cp, v ≠ .sl c o n cp
theorem Own.mk {H0 H : AH} {b n : Nat} {us : List AV} (h : H b = .rw us) (h0 : H0 b = .free) (hn : n = us.length) : Own H0 H (.sl b 0 n (.own 1)) us := by
  subst hn; exact .inr ⟨b, rfl, h, h0⟩
theorem Own.sl {H0 H : AH} {v : AV} {us : List AV} (h : Own H0 H v us) : Sl H v us := by
  rcases h with ⟨rfl, rfl⟩ | ⟨b, rfl, h, -⟩
  · exact .inl ⟨rfl, rfl⟩
  · exact Sl.own h rfl
theorem Own.ext {H0 H H' : AH} {v : AV} {us : List AV} (h : Own H0 H v us) (hE : Ext H H') : Own H0 H' v us := by
  rcases h with h | ⟨b, rfl, h, h0⟩
  · exact .inl h
  · exact .inr ⟨b, rfl, hE.rw h, h0⟩
theorem Own.old {H0 H1 H : AH} {v : AV} {us : List AV} (h : Own H1 H v us) (hE : Ext H0 H1) : Own H0 H v us := by
  rcases h with h | ⟨b, rfl, h, h0⟩
  · exact .inl h
  · exact .inr ⟨b, rfl, h, hE.free h0⟩
theorem Own.nils {H0 H : AH} : Own H0 H .nils [] := .inl ⟨rfl, rfl⟩

theorem Own.block {H0 H : AH} {v : AV} {us : List AV} (h : Own H0 H v us) (hn : us ≠ []) : ∃ b, v = .sl b 0 us.length (.own 1) ∧ H b = .rw us ∧ H0 b = .free :=
  h.elim (fun q => (hn q.2).elim) id

theorem cellsAt_of {H : AH} {b : Nat} {us : List AV} : ∀ (n o j : Nat), (∀ i u, us[i]? = some u → H.cell b (o + i) = some u) → j + n = us.length → H.cellsAt b (o + j) n = some (us.drop j)
  | 0, o, j, h, hn => by simp [AH.cellsAt, List.drop_of_length_le (show us.length ≤ j by omega)]
  | n + 1, o, j, h, hn => by
    have hj : j < us.length := by omega
    rw [AH.cellsAt, h j us[j] (by simp [hj])]
    have := cellsAt_of n o (j + 1) h (by omega)
    rw [← Nat.add_assoc] at this
    simp only [this, Option.map_some]
    rw [← List.drop_eq_getElem_cons hj]
theorem Sl.cells {H : AH} {v : AV} {us : List AV} (h : Sl H v us) : slCells H 1 v = some us ∧ slLen v = us.length := by
  rcases h with ⟨rfl, rfl⟩ | ⟨b, o, c, rfl, h⟩
  · exact ⟨rfl, rfl⟩
  · refine ⟨?_, rfl⟩
    simp only [slCells, Nat.mul_one]
    have := cellsAt_of us.length o 0 h (by omega)
    simpa using this

section
variable {P : Program} {K : Kt} {Q : APost} {e : Env} {H H0 : AH} {d : Option Nat} {r : Rst} {k k' : IntKind} {j : Int} {ds : List Nat} {t i : Nat} {x y : AV} {us zs : List AV}

/-- append: to what is the call's own. -/
theorem kApp_own {by_ : Nat} {z : AV} (hx : Own H0 H x zs) (hE : Ext H0 H) (hy : Sl H y us) (hu : ∀ u, u ∈ us → u.one = true) (hl : (zs.length + us.length) * by_ ≤ 140737488355328) (hl' : zs.length + us.length ≤ 140737488355328)
    (h : ∀ v H', Ext H0 H' → Own H0 H' v (zs ++ us) → (∀ c ws, H c = .rw ws → Off x c → H' c = .rw ws ∧ Off v c) → kRet P ds r e H' K d v) : kApp P ds (some 1) (some by_) (some [z]) r e H K d x y := by
  obtain ⟨hc, hn⟩ := hy.cells
  refine ⟨1, by_, [z], rfl, rfl, rfl, rfl, us, hc, hu, ?_⟩
  rcases hx with ⟨rfl, rfl⟩ | ⟨b, rfl, hb, h0⟩
  · rw [hn]
    refine ⟨hl, hl', by decide, fun hz => ?_, fun hz b hb => ?_⟩
    · have : us = [] := List.length_eq_zero_iff.mp hz
      subst this
      exact h _ _ hE Own.nils fun c ws hc _ => ⟨hc, fun o n cp q => by cases q⟩
    · refine h _ _ (hE.upd (hE.free hb) _) (Own.mk (by simp [AH.upd]) (hE.free hb) rfl) fun c ws hc _ => ?_
      have hne : c ≠ b := fun q => by rw [q, hb] at hc; cases hc
      exact ⟨by simp [AH.upd, hne, hc], fun o n cp q => by cases q; exact hne rfl⟩
  · rw [hn]
    refine ⟨hl, hl', by decide, rfl, zs, hb, rfl, by simp, fun b' hb' => ?_⟩
    have h0' : H0 b' = .free := hb'.elim (fun q => by rw [q]; exact h0) fun q => hE.free q
    refine h _ _ ((hE.upd h0 _).upd h0' _) (Own.mk (by simp [AH.upd]) h0' (by simp)) fun c ws hc hoff => ?_
    have h1 : c ≠ b := fun q => hoff 0 zs.length (.own 1) (by rw [q])
    have h2 : c ≠ b' := fun q => hb'.elim (fun q' => h1 (q.trans q')) fun q' => by rw [q, q'] at hc; cases hc
    exact ⟨by simp [AH.upd, h1, h2, hc], fun o n cp q => by cases q; exact h2 rfl⟩
end
theorem mul_bd {a b A B : Int} (h1 : 0 ≤ a) (h2 : a ≤ A) (h3 : 0 ≤ b) (h4 : b ≤ B) : 0 ≤ a * b ∧ a * b ≤ A * B :=
  ⟨Int.mul_nonneg h1 h3, Int.mul_le_mul h2 h4 h3 (Int.le_trans h1 h2)⟩
/-- All entries are from 0 to p-1. -/
def Rng (p : Int) (xs : List Int) : Prop := ∀ i, 0 ≤ xs.getD i 0 ∧ xs.getD i 0 < p
theorem getD_set (xs : List Int) (i j : Nat) (v : Int) : (xs.set i v).getD j 0 = if j = i ∧ i < xs.length then v else xs.getD j 0 := by
  simp only [List.getD_eq_getElem?_getD, List.getElem?_set]
  by_cases h : i = j
  · subst h
    by_cases h2 : i < xs.length <;> simp [h2]
  · simp [h, Ne.symm h]
theorem Rng.set {p : Int} {xs : List Int} (h : Rng p xs) {v : Int} (h0 : 0 ≤ v) (h1 : v < p) (i : Nat) : Rng p (xs.set i v) := by
  intro j
  rw [getD_set]
  split
  · exact ⟨h0, h1⟩
  · exact h j
theorem Rng.rep {p : Int} (hp : 0 < p) (n : Nat) : Rng p (List.replicate n 0) := by
  intro i
  simp only [List.getD_eq_getElem?_getD, List.getElem?_replicate]
  split <;> simp [hp]
theorem Rng.app {p : Int} {xs ys : List Int} (h : Rng p xs) (h' : Rng p ys) : Rng p (xs ++ ys) := by
  intro i
  simp only [List.getD_eq_getElem?_getD, List.getElem?_append]
  split
  · simpa [List.getD_eq_getElem?_getD] using h i
  · simpa [List.getD_eq_getElem?_getD] using h' (i - xs.length)
theorem Rng.one {p v : Int} (h0 : 0 ≤ v) (h1 : v < p) : Rng p [v] := by
  intro i
  cases i with
  | zero => exact ⟨h0, h1⟩
  | succ i => simpa using (show 0 < p by omega)
theorem ints_ones {xs : List Int} : ∀ u, u ∈ ints xs → u.one = true := by
  intro u hu
  simp only [ints, List.mem_map] at hu
  obtain ⟨a, -, rfl⟩ := hu
  rfl
end Go.Proofs.Yteijojnahpeglaa.AM
/-! The reference's field, first part: contracts. -/
namespace Go.Proofs.Yteijojnahpeglaa.AM
open Go Go.RowKit
set_option linter.unusedVariables false
set_option linter.unusedSimpArgs false
set_option maxRecDepth 20000
/-- the n lowest digits -/
def digs (p : Int) : Nat → Int → List Int
  | 0, _ => []
  | n + 1, x => x % p :: digs p n (x / p)
theorem c_digits {x p n : Int} {H : AH} {Q : AV → AH → Prop} (hx : 0 ≤ x) (hx' : x ≤ 9000000000000000000) (hp : 0 < p) (hn : 0 ≤ n) (hn' : n ≤ 1000)
    (hQ : ∀ b H', H b = .free → Ext H H' → H' b = .rw (ints (digs p n.toNat x)) → Q (.sl b 0 n.toNat (.own 1)) H') :
    AC Try.prog 69 [.int .i64 x, .int .i64 p, .int .i64 n] H Q := by
  refine at69 (by simp) ?_
  simp (disch := first | assumption | omega) only [↓RP, RQ, TY, loadT, s69, reduceIte, Nat.reduceEqDiff, Nat.reduceAdd]
  refine kNew_intro fun b H1 hb hE hH1 => ?_
  simp (disch := first | assumption | omega) only [↓RP, RQ, TY, loadT, reduceIte, Nat.reduceEqDiff, Nat.reduceAdd]
  refine sw_loop (σ := Nat × Int × List Int) (fun s e H' => e 8 = .int .i64 s.1 ∧ e 7 = .sl b 0 n.toNat (.own 1) ∧ e 2 = .int .i64 n ∧ e 1 = .int .i64 p ∧ e 0 = .int .i64 s.2.1 ∧ s.1 ≤ n.toNat ∧ 0 ≤ s.2.1 ∧ s.2.1 ≤ x ∧ Ext H H' ∧ s.2.2.length = n.toNat ∧
    H' b = .rw (ints s.2.2) ∧ s.2.2.take s.1 ++ digs p (n.toNat - s.1) s.2.1 = digs p n.toNat x) (fun s => n.toNat - s.1) (0, x, List.replicate n.toNat 0) ?_ ?_
  · simp (disch := first | assumption | omega) only [↓RP, RQ, TY, loadT, reduceIte, Nat.reduceEqDiff, Nat.reduceAdd, hH1]
    simp [hx, hE, ints]
  · rintro ⟨i, y, L⟩ e' H' ⟨e8, e7, e2, e1, e0, hi, hy, hy', hE', hL, hb', hd⟩
    dsimp only at *
    by_cases hlt : (i : Int) < n
    · have h1 := Int.ediv_nonneg hy (Int.le_of_lt hp)
      have h2 := Int.ediv_le_self p hy
      simp (disch := first | assumption | omega) only [↓RP, RQ, TY, loadT, reduceIte, Nat.reduceEqDiff, Nat.reduceAdd, e8, e7, e2, e1, e0, hlt, decide_true, hb']
      refine ⟨(i + 1, y / p, L.set i (y % p)), ?_, ?_⟩
      · simp (disch := first | assumption | omega) only [↓RP, RQ, TY, loadT, reduceIte, Nat.reduceEqDiff, Nat.reduceAdd, e8, e7, e2, e1, e0]
        refine ⟨by omega, h1, by omega, hE'.upd hb _, by simpa using hL, ?_⟩
        rw [← hd, show n.toNat - i = (n.toNat - (i + 1)) + 1 by omega, digs]
        rw [List.take_succ_eq_append_getElem (by simp; omega)]
        simp [List.take_set_of_le]
      · show n.toNat - (i + 1) < n.toNat - i
        omega
    · simp (disch := first | assumption | omega) only [↓RP, RQ, TY, loadT, reduceIte, Nat.reduceEqDiff, Nat.reduceAdd, e8, e7, e2, e1, e0, hlt, decide_false]
      refine hQ b H' hb hE' ?_
      rw [hb', ← hd, show n.toNat - i = 0 by omega]
      simp [digs, List.take_of_length_le (show L.length ≤ i by omega)]

theorem ipow_mono {p : Int} (hp : 1 ≤ p) {i j : Nat} (h : i ≤ j) : p ^ i ≤ p ^ j := by
  induction j with
  | zero =>
    rw [show i = 0 by omega]
    exact Int.le_refl _
  | succ j ih =>
    by_cases hij : i = j + 1
    · rw [hij]
      exact Int.le_refl _
    · have h1 := ih (by omega)
      have h2 : p ^ (j + 1) = p ^ j * p := Int.pow_succ _ _
      have h3 : 0 ≤ p ^ j := Int.pow_nonneg (by omega)
      have h4 : p ^ j * 1 ≤ p ^ j * p := Int.mul_le_mul_of_nonneg_left hp h3
      omega

/-- the order of a field, 0 where it is out of range -/
def ordr (p m : Int) : Int := if 2 ≤ p ∧ 1 ≤ m ∧ m ≤ 8 ∧ p ^ m.toNat ≤ 256 then p ^ m.toNat else 0
theorem c_Order {p m : Int} {md : AV} {H : AH} {Q : AV → AH → Prop} (hQ : ∀ H', Ext H H' → Q (.int .i64 (ordr p m)) H') : AC Try.prog 50 [.agg [.int .i64 p, .int .i64 m, md]] H Q := by
  refine at50 (by simp) ?_
  simp (disch := first | assumption | omega) only [↓RP, RQ, TY, loadT, s50, reduceIte, Nat.reduceEqDiff, Nat.reduceAdd]
  refine kNew_intro fun b H1 hb hE hH1 => ?_
  by_cases h1 : p < 2
  · simp (disch := first | assumption | omega) only [↓RP, RQ, TY, loadT, reduceIte, Nat.reduceEqDiff, Nat.reduceAdd, loadT, hH1, h1]
    have := hQ H1 hE
    rwa [ordr, if_neg (by omega)] at this
  by_cases h2 : m < 1
  · simp (disch := first | assumption | omega) only [↓RP, RQ, TY, loadT, reduceIte, Nat.reduceEqDiff, Nat.reduceAdd, loadT, hH1, h1, h2]
    have := hQ H1 hE
    rwa [ordr, if_neg (by omega)] at this
  by_cases h3 : 8 < m
  · simp (disch := first | assumption | omega) only [↓RP, RQ, TY, loadT, reduceIte, Nat.reduceEqDiff, Nat.reduceAdd, loadT, hH1, h1, h2, h3]
    have := hQ H1 hE
    rwa [ordr, if_neg (by omega)] at this
  simp (disch := first | assumption | omega) only [↓RP, RQ, TY, loadT, reduceIte, Nat.reduceEqDiff, Nat.reduceAdd, loadT, hH1, h1, h2, h3]
  refine sw_loop (σ := Nat) (fun i e H' => e 4 = .int .i64 i ∧ e 3 = .int .i64 (p ^ i) ∧ e 1 = .ptr b 0 ∧ (i : Int) ≤ m ∧ p ^ i ≤ 256 ∧ H' = H1) (fun i => m.toNat - i) 0 ?_ ?_
  · simp (disch := first | assumption | omega) only [↓RP, RQ, TY, loadT, reduceIte, Nat.reduceEqDiff, Nat.reduceAdd]
    simp
    omega
  · rintro i e' H' ⟨e4, e3, e1, hi, hq, rfl⟩
    by_cases hlt : (i : Int) < m
    · have hpos : 0 ≤ p ^ i := Int.pow_nonneg (by omega)
      have hd1 : 0 ≤ 256 / p := Int.ediv_nonneg (by omega) (by omega)
      have hd2 : 256 / p ≤ 256 := Int.ediv_le_self p (by omega)
      by_cases hc : 256 / p < p ^ i
      · simp (disch := first | assumption | omega) only [↓RP, RQ, TY, loadT, reduceIte, Nat.reduceEqDiff, Nat.reduceAdd, loadT, hH1, e4, e3, e1, hlt, hc]
        have := hQ H' hE
        rwa [ordr, if_neg] at this
        rintro ⟨-, -, -, h⟩
        have h5 : 256 < p ^ (i + 1) := by
          rw [Int.pow_succ]
          exact (Int.ediv_lt_iff_lt_mul (by omega)).mp hc
        have h6 : p ^ (i + 1) ≤ p ^ m.toNat := ipow_mono (by omega) (by omega)
        omega
      · have h5 : p ^ (i + 1) ≤ 256 := by
          rw [Int.pow_succ]
          exact (Int.le_ediv_iff_mul_le (by omega)).mp (by omega)
        have h6 : p ^ (i + 1) = p ^ i * p := Int.pow_succ _ _
        have h7 : 0 ≤ p ^ i * p := Int.mul_nonneg hpos (by omega)
        simp (disch := first | assumption | omega) only [↓RP, RQ, TY, loadT, reduceIte, Nat.reduceEqDiff, Nat.reduceAdd, loadT, hH1, e4, e3, e1, hlt, hc]
        refine ⟨i + 1, ?_, by dsimp only; omega⟩
        simp (disch := first | assumption | omega) only [↓RP, RQ, TY, loadT, reduceIte, Nat.reduceEqDiff, Nat.reduceAdd, e4, e3, e1, h6]
        omega
    · simp (disch := first | assumption | omega) only [↓RP, RQ, TY, loadT, reduceIte, Nat.reduceEqDiff, Nat.reduceAdd, loadT, hH1, e4, e3, e1, hlt]
      have := hQ H' hE
      have e5 : m.toNat = i := by omega
      rwa [ordr, e5, if_pos (by omega)] at this
end Go.Proofs.Yteijojnahpeglaa.AM
/-! The reference's field, second part: primes and divisors. -/
namespace Go.Proofs.Yteijojnahpeglaa.AM
open Go Go.RowKit
set_option linter.unusedVariables false
set_option linter.unusedSimpArgs false
set_option maxRecDepth 20000
def prm (n : Int) : Prop := ∀ d, 2 ≤ d → d < n → n % d ≠ 0
open Classical in
theorem c_prime {n : Int} {H : AH} {Q : AV → AH → Prop} (hn : 2 ≤ n) (hn' : n ≤ 256) (hQ : Q (.bool (decide (prm n))) H) : AC Try.prog 51 [.int .i64 n] H Q := by
  refine at51 (by simp) ?_
  simp (disch := first | assumption | omega) only [↓RP, RQ, TY, loadT, s51, reduceIte, Nat.reduceEqDiff, Nat.reduceAdd]
  refine sw_loop (σ := Nat) (fun i e H' => e 3 = .int .i64 i ∧ e 0 = .int .i64 n ∧ 2 ≤ i ∧ (i : Int) ≤ n ∧ (∀ d : Int, 2 ≤ d → d < i → n % d ≠ 0) ∧ H' = H) (fun i => n.toNat - i) 2 ?_ ?_
  · simp (disch := first | assumption | omega) only [↓RP, RQ, TY, loadT, reduceIte, Nat.reduceEqDiff, Nat.reduceAdd]
    refine ⟨rfl, by omega, by omega, fun d h1 h2 => ?_⟩
    have : ((2 : Nat) : Int) = 2 := rfl
    omega
  · rintro i e' H' ⟨e3, e0, hi, hi', hd, rfl⟩
    by_cases hlt : (i : Int) < n
    · by_cases hz : n % (i : Int) = 0
      · simp (disch := first | assumption | omega) only [↓RP, RQ, TY, loadT, reduceIte, Nat.reduceEqDiff, Nat.reduceAdd, e3, e0, hlt, hz]
        rwa [decide_eq_false (fun q => q i (by omega) hlt hz)] at hQ
      · simp (disch := first | assumption | omega) only [↓RP, RQ, TY, loadT, reduceIte, Nat.reduceEqDiff, Nat.reduceAdd, e3, e0, hlt, hz]
        refine ⟨i + 1, ?_, by dsimp only; omega⟩
        simp (disch := first | assumption | omega) only [↓RP, RQ, TY, loadT, reduceIte, Nat.reduceEqDiff, Nat.reduceAdd, e3, e0]
        refine ⟨by omega, by omega, fun d h1 h2 => ?_⟩
        by_cases hdi : d = i
        · rw [hdi]; exact hz
        · exact hd d h1 (by omega)
    · simp (disch := first | assumption | omega) only [↓RP, RQ, TY, loadT, reduceIte, Nat.reduceEqDiff, Nat.reduceAdd, e3, e0, hlt]
      rwa [decide_eq_true (show prm n from fun d h1 h2 => hd d h1 (by omega))] at hQ

/-- One step of the division: the multiple of the divisor low, moved to the end i, is taken away. -/
def divIn (p : Int) (low : List Int) (i : Nat) (c : Int) (j : Nat) (r : List Int) : List Int :=
  r.set (i - low.length + j) ((r.getD (i - low.length + j) 0 + (p - c) * low.getD j 0) % p)
def divStep (p : Int) (low : List Int) (i : Nat) (r : List Int) : List Int := (upto (divIn p low i (r.getD i 0)) low.length r).set i 0
def divRem (p : Int) (low mod : List Int) : List Int := upto (fun k r => divStep p low (mod.length - k) r) (mod.length + 1 - low.length) (mod ++ [1])
def divs (p : Int) (low mod : List Int) : Prop := ∀ i, (divRem p low mod).getD i 0 = 0
theorem divIn_ok {p : Int} (hp : 0 < p) {low : List Int} (i : Nat) (c : Int) {r : List Int} (hr : Rng p r) : ∀ j, (upto (divIn p low i c) j r).length = r.length ∧ Rng p (upto (divIn p low i c) j r)
  | 0 => ⟨rfl, hr⟩
  | j + 1 => by
    obtain ⟨h1, h2⟩ := divIn_ok hp i c hr j
    rw [upto_succ, divIn]
    exact ⟨by rw [List.length_set, h1], h2.set (Int.emod_nonneg _ (by omega)) (Int.emod_lt_of_pos _ hp) _⟩
theorem divStep_ok {p : Int} (hp : 0 < p) {low : List Int} (i : Nat) {r : List Int} (hr : Rng p r) : (divStep p low i r).length = r.length ∧ Rng p (divStep p low i r) := by
  obtain ⟨h1, h2⟩ := divIn_ok hp (low := low) i (r.getD i 0) hr low.length
  exact ⟨by rw [divStep, List.length_set, h1], h2.set (by omega) hp _⟩
theorem divRem_ok {p : Int} (hp : 1 < p) {low mod : List Int} (hm : Rng p mod) : ∀ k, (upto (fun k r => divStep p low (mod.length - k) r) k (mod ++ [1])).length = mod.length + 1 ∧ Rng p (upto (fun k r => divStep p low (mod.length - k) r) k (mod ++ [1]))
  | 0 => ⟨by simp [upto], hm.app (Rng.one (by omega) hp)⟩
  | k + 1 => by
    obtain ⟨h1, h2⟩ := divRem_ok hp hm k
    obtain ⟨h3, h4⟩ := divStep_ok (show 0 < p by omega) (low := low) (mod.length - k) h2
    exact ⟨by rw [upto_succ, h3, h1], h4⟩
open Classical in
theorem c_divides {p : Int} {vl vm : AV} {low mod : List Int} {H : AH} {Q : AV → AH → Prop} (hp : 2 ≤ p) (hp' : p ≤ 256) (hl : Ints H vl low) (hm : Ints H vm mod) (rl : Rng p low) (rm : Rng p mod) (hd : 1 ≤ low.length) (hn : mod.length ≤ 100)
    (hQ : ∀ H', Ext H H' → Q (.bool (decide (divs p low mod))) H') : AC Try.prog 68 [vl, vm, .int .i64 p] H Q := by
  refine at68 (by simp) ?_
  simp (disch := first | assumption | omega) only [↓RP, RQ, TY, loadT, s68, reduceIte, Nat.reduceEqDiff, Nat.reduceAdd, hl.ints]
  refine kNew_intro fun b0 H1 hb0 hE1 hH1 => ?_
  simp (disch := first | assumption | omega) only [↓RP, RQ, TY, loadT, reduceIte, Nat.reduceEqDiff, Nat.reduceAdd, hl.ints]
  refine kApp_own (H0 := H) (Own.mk hH1 hb0 rfl) hE1 (hm.ext hE1) ints_ones (by simp [ints]; omega) (by simp [ints]; omega) fun v2 H2 hE2 ho2 hk2 => ?_
  simp (disch := first | assumption | omega) only [↓RP, RQ, TY, loadT, reduceIte, Nat.reduceEqDiff, Nat.reduceAdd, hl.ints]
  refine kNew_intro fun b3 H3 hb3 hE3 hH3 => ?_
  simp (disch := first | assumption | omega) only [↓RP, RQ, TY, loadT, reduceIte, Nat.reduceEqDiff, Nat.reduceAdd, hl.ints]
  refine kApp_own (H0 := H) (ho2.ext hE3) (hE2.trans hE3) (Sl.own hH3 rfl) (by simp [AV.one]) (by simp [ints]; omega) (by simp [ints]; omega) fun v4 H4 hE4 ho4 hk4 => ?_
  obtain ⟨b, rfl, hb, h0⟩ := ho4.block (by simp)
  have e1 : [] ++ ints mod ++ [AV.int .i64 1] = ints (mod ++ [1]) := by simp [ints]
  rw [e1] at hb
  rw [e1, ints_length, List.length_append, List.length_singleton]
  simp (disch := first | assumption | omega) only [↓RP, RQ, TY, loadT, reduceIte, Nat.reduceEqDiff, Nat.reduceAdd, hl.ints]
  refine sw_loop (σ := Nat) (fun k e H' => e 9 = .int .i64 (mod.length - k : Nat) ∧ e 8 = .sl b 0 (mod.length + 1) (.own 1) ∧ e 7 = .int .i64 low.length ∧ e 0 = vl ∧ e 2 = .int .i64 p ∧ k ≤ mod.length + 1 - low.length ∧ Ext H H' ∧
    H' b = .rw (ints (upto (fun k r => divStep p low (mod.length - k) r) k (mod ++ [1])))) (fun k => mod.length + 1 - k) 0 ?_ ?_
  · simp (disch := first | assumption | omega) only [↓RP, RQ, TY, loadT, reduceIte, Nat.reduceEqDiff, Nat.reduceAdd, hb]
    refine ⟨?_, by omega, hE4, rfl⟩
    congr 1
    omega
  rintro k e H' ⟨e9, e8, e7, e0, e2, hk, hE, hb'⟩
  obtain ⟨hR1, hR2⟩ := divRem_ok (show 1 < p by omega) (low := low) rm k
  generalize hR : upto (fun k r => divStep p low (mod.length - k) r) k (mod ++ [1]) = R at *
  generalize hI : mod.length - k = I at *
  by_cases hlt : (low.length : Int) ≤ (I : Int)
  · simp (disch := first | assumption | omega) only [↓RP, RQ, TY, loadT, reduceIte, Nat.reduceEqDiff, Nat.reduceAdd, e9, e8, e7, e0, e2, hlt, hb']
    refine sw_loop (σ := Nat) (fun j e H' => e 11 = .int .i64 j ∧ e 10 = .int .i64 (R.getD I 0) ∧ e 9 = .int .i64 I ∧ e 8 = .sl b 0 (mod.length + 1) (.own 1) ∧ e 7 = .int .i64 low.length ∧ e 0 = vl ∧ e 2 = .int .i64 p ∧ j ≤ low.length ∧ Ext H H' ∧
      H' b = .rw (ints (upto (divIn p low I (R.getD I 0)) j R))) (fun j => low.length - j) 0 ?_ ?_
    · simp (disch := first | assumption | omega) only [↓RP, RQ, TY, loadT, reduceIte, Nat.reduceEqDiff, Nat.reduceAdd, e9, e8, e7, e0, e2, hb', upto]
      exact ⟨by omega, hE⟩
    rintro j e H' ⟨e11, e10, e9, e8, e7, e0, e2, hj, hE, hb'⟩
    obtain ⟨hS1, hS2⟩ := divIn_ok (show 0 < p by omega) (low := low) I (R.getD I 0) hR2 j
    generalize hS : upto (divIn p low I (R.getD I 0)) j R = S at *
    have hl' := hl.ext hE
    by_cases hjt : (j : Int) < low.length
    · have b1 := hR2 I
      have b2 := rl j
      have b3 := hS2 (I - low.length + j)
      have b4 := mul_bd (a := p - R.getD I 0) (b := low.getD j 0) (A := 256) (B := 256) (by omega) (by omega) (by omega) (by omega)
      have i1 : ((I : Int) - (low.length : Int) + (j : Int)).toNat = I - low.length + j := by omega
      simp (disch := first | assumption | omega) only [↓RP, RQ, TY, loadT, reduceIte, Nat.reduceEqDiff, Nat.reduceAdd, e11, e10, e9, e8, e7, e0, e2, hjt, hb', hl'.ints, i1]
      refine ⟨j + 1, ?_, by dsimp only; omega⟩
      simp (disch := first | assumption | omega) only [↓RP, RQ, TY, loadT, reduceIte, Nat.reduceEqDiff, Nat.reduceAdd, e11, e10, e9, e8, e7, e0, e2]
      refine ⟨by omega, hE.upd h0 _, ?_⟩
      rw [upto_succ, hS]
      rfl
    · simp (disch := first | assumption | omega) only [↓RP, RQ, TY, loadT, reduceIte, Nat.reduceEqDiff, Nat.reduceAdd, e11, e10, e9, e8, e7, e0, e2, hjt, hb', hl'.ints]
      refine ⟨k + 1, ?_, by dsimp only; omega⟩
      simp (disch := first | assumption | omega) only [↓RP, RQ, TY, loadT, reduceIte, Nat.reduceEqDiff, Nat.reduceAdd, e11, e10, e9, e8, e7, e0, e2]
      refine ⟨?_, by omega, hE.upd h0 _, ?_⟩
      · congr 1
        omega
      · rw [upto_succ, hR, hI, divStep, ← hS, show j = low.length by omega]
  · simp (disch := first | assumption | omega) only [↓RP, RQ, TY, loadT, reduceIte, Nat.reduceEqDiff, Nat.reduceAdd, e9, e8, e7, e0, e2, hlt, hb']
    have hRR : R = divRem p low mod := by
      rw [divRem, ← hR]
      congr 1
      omega
    refine sw_loop (σ := Nat) (fun j e H' => e 12 = .int .i64 j ∧ e 8 = .sl b 0 (mod.length + 1) (.own 1) ∧ j ≤ mod.length + 1 ∧ Ext H H' ∧
      H' b = .rw (ints R) ∧ ∀ q, q < j → R.getD q 0 = 0) (fun j => mod.length + 1 - j) 0 ?_ ?_
    · simp (disch := first | assumption | omega) only [↓RP, RQ, TY, loadT, reduceIte, Nat.reduceEqDiff, Nat.reduceAdd, e8, hb']
      exact ⟨by omega, hE, fun q hq => by omega⟩
    rintro j e H' ⟨e12, e8, hj, hE, hb', hz⟩
    by_cases hjt : (j : Int) < (mod.length : Int) + 1
    · by_cases hjz : R.getD j 0 = 0
      · simp (disch := first | assumption | omega) only [↓RP, RQ, TY, loadT, reduceIte, Nat.reduceEqDiff, Nat.reduceAdd, e12, e8, hjt, hb', hjz]
        refine ⟨j + 1, ?_, by dsimp only; omega⟩
        simp (disch := first | assumption | omega) only [↓RP, RQ, TY, loadT, reduceIte, Nat.reduceEqDiff, Nat.reduceAdd, e12, e8]
        refine ⟨by omega, hE, hb', fun q hq => ?_⟩
        by_cases hqj : q = j
        · rw [hqj]; exact hjz
        · exact hz q (by omega)
      · simp (disch := first | assumption | omega) only [↓RP, RQ, TY, loadT, reduceIte, Nat.reduceEqDiff, Nat.reduceAdd, e12, e8, hjt, hb', hjz]
        have := hQ H' hE
        rwa [decide_eq_false (fun q : divs p low mod => hjz (by rw [hRR]; exact q j))] at this
    · simp (disch := first | assumption | omega) only [↓RP, RQ, TY, loadT, reduceIte, Nat.reduceEqDiff, Nat.reduceAdd, e12, e8, hjt, hb']
      have := hQ H' hE
      rwa [decide_eq_true (show divs p low mod from fun q => by
        by_cases hq : q < j
        · rw [← hRR]; exact hz q hq
        · rw [← hRR, List.getD_eq_getElem?_getD, List.getElem?_eq_none (by omega)]; rfl)] at this
end Go.Proofs.Yteijojnahpeglaa.AM
/-! The reference's field, third part: Check. -/
namespace Go.Proofs.Yteijojnahpeglaa.AM
open Go Go.RowKit
set_option linter.unusedVariables false
set_option linter.unusedSimpArgs false
set_option maxRecDepth 20000
theorem digs_length (p : Int) : ∀ n x, (digs p n x).length = n
  | 0, _ => rfl
  | n + 1, x => by simp [digs, digs_length p n]
theorem digs_rng {p : Int} (hp : 0 < p) : ∀ n x, Rng p (digs p n x)
  | 0, _ => by intro i; simpa [digs] using hp
  | n + 1, x => by
    intro i
    cases i with
    | zero => simpa [digs] using ⟨Int.emod_nonneg x (by omega), Int.emod_lt_of_pos x hp⟩
    | succ i => simpa [digs] using digs_rng hp n (x / p) i
/-- no monic divisor of a degree from 1 to half of its own -/
def irr (p : Int) (mod : List Int) : Prop := ∀ d : Nat, 1 ≤ d → 2 * d ≤ mod.length → ∀ v : Int, 0 ≤ v → v < p ^ d → ¬ divs p (digs p d v) mod
open Classical in
theorem c_irreducible {p : Int} {vm : AV} {mod : List Int} {H : AH} {Q : AV → AH → Prop} (hp : 2 ≤ p) (hp' : p ≤ 256) (hm : Ints H vm mod) (rm : Rng p mod) (hn : mod.length ≤ 8) (hq : p ^ mod.length ≤ 256)
    (hQ : ∀ H', Ext H H' → Q (.bool (decide (irr p mod))) H') : AC Try.prog 52 [vm, .int .i64 p] H Q := by
  refine at52 (by simp) ?_
  simp (disch := first | assumption | omega) only [↓RP, RQ, TY, loadT, s52, reduceIte, Nat.reduceEqDiff, Nat.reduceAdd]
  refine sw_loop (σ := Nat) (fun k e H' => e 6 = .int .i64 (k + 1) ∧ e 5 = .int .i64 (p ^ k) ∧ e 0 = vm ∧ e 1 = .int .i64 p ∧ 2 * k ≤ mod.length ∧ Ext H H' ∧
    ∀ d : Nat, 1 ≤ d → d ≤ k → ∀ v : Int, 0 ≤ v → v < p ^ d → ¬ divs p (digs p d v) mod) (fun k => mod.length - k) 0 ?_ ?_
  · simp (disch := first | assumption | omega) only [↓RP, RQ, TY, loadT, reduceIte, Nat.reduceEqDiff, Nat.reduceAdd]
    refine ⟨rfl, by simp, by omega, Ext.refl H, fun d h1 h2 => by omega⟩
  rintro k e H' ⟨e6, e5, e0, e1, hk, hE, hd⟩
  have hm' := hm.ext hE
  have hpk : 0 ≤ p ^ k := Int.pow_nonneg (by omega)
  have hp1 : p ^ (k + 1) = p ^ k * p := Int.pow_succ _ _
  by_cases hlt : 2 * ((k : Int) + 1) ≤ mod.length
  · have hb : p ^ (k + 1) ≤ 256 := Int.le_trans (ipow_mono (by omega) (by omega)) hq
    have hb0 : 0 ≤ p ^ k * p := Int.mul_nonneg hpk (by omega)
    rw [hp1] at hb
    simp (disch := first | assumption | omega) only [↓RP, RQ, TY, loadT, reduceIte, Nat.reduceEqDiff, Nat.reduceAdd, e6, e5, e0, e1, hlt, hm'.ints]
    refine sw_loop (σ := Nat) (fun v e H' => e 7 = .int .i64 v ∧ e 6 = .int .i64 (k + 1) ∧ e 5 = .int .i64 (p ^ k * p) ∧ e 0 = vm ∧ e 1 = .int .i64 p ∧ (v : Int) ≤ p ^ k * p ∧ Ext H H' ∧
      ∀ v' : Int, 0 ≤ v' → v' < v → ¬ divs p (digs p (k + 1) v') mod) (fun v => (p ^ k * p).toNat - v) 0 ?_ ?_
    · simp (disch := first | assumption | omega) only [↓RP, RQ, TY, loadT, reduceIte, Nat.reduceEqDiff, Nat.reduceAdd, e6, e5, e0, e1]
      refine ⟨by simpa using hb0, hE, fun v' h1 h2 => by omega⟩
    rintro v e H' ⟨e7, e6, e5, e0, e1, hv, hE, hdv⟩
    by_cases hvt : (v : Int) < p ^ k * p
    · simp (disch := first | assumption | omega) only [↓RP, RQ, TY, loadT, reduceIte, Nat.reduceEqDiff, Nat.reduceAdd, e7, e6, e5, e0, e1, hvt]
      refine c_digits (by omega) (by omega) (by omega) (by omega) (by omega) fun b1 H1 hb1 hE1 hH1 => ?_
      have hE2 := hE.trans hE1
      simp (disch := first | assumption | omega) only [↓RP, RQ, TY, loadT, reduceIte, Nat.reduceEqDiff, Nat.reduceAdd, e7, e6, e5, e0, e1]
      refine c_divides hp hp' (Sl.own hH1 (by simp [ints, digs_length])) (hm.ext hE2) (digs_rng (by omega) _ _) rm (by rw [digs_length]; omega) (by omega) fun H3 hE3 => ?_
      have hE4 := hE2.trans hE3
      have hkk : ((k : Int) + 1).toNat = k + 1 := by omega
      by_cases hdd : divs p (digs p (k + 1) v) mod
      · simp (disch := first | assumption | omega) only [↓RP, RQ, TY, loadT, reduceIte, Nat.reduceEqDiff, Nat.reduceAdd, hkk, hdd]
        have := hQ H3 hE4
        rwa [decide_eq_false (fun q : irr p mod => q (k + 1) (by omega) (by omega) v (by omega) (by omega) hdd)] at this
      · simp (disch := first | assumption | omega) only [↓RP, RQ, TY, loadT, reduceIte, Nat.reduceEqDiff, Nat.reduceAdd, hkk, hdd, e7, e6, e5, e0, e1]
        refine ⟨v + 1, ?_, by dsimp only; omega⟩
        simp (disch := first | assumption | omega) only [↓RP, RQ, TY, loadT, reduceIte, Nat.reduceEqDiff, Nat.reduceAdd, e7, e6, e5, e0, e1]
        refine ⟨by omega, hE4, fun v' h1 h2 => ?_⟩
        by_cases hvv : v' = v
        · rw [hvv]; exact hdd
        · exact hdv v' h1 (by omega)
    · simp (disch := first | assumption | omega) only [↓RP, RQ, TY, loadT, reduceIte, Nat.reduceEqDiff, Nat.reduceAdd, e7, e6, e5, e0, e1, hvt]
      refine ⟨k + 1, ?_, by dsimp only; omega⟩
      simp (disch := first | assumption | omega) only [↓RP, RQ, TY, loadT, reduceIte, Nat.reduceEqDiff, Nat.reduceAdd, e6, e5, e0, e1, hp1]
      refine ⟨by omega, hE, fun d h1 h2 v' h3 h4 => ?_⟩
      by_cases hdk : d = k + 1
      · subst hdk
        exact hdv v' h3 (by omega)
      · exact hd d h1 (by omega) v' h3 h4
  · simp (disch := first | assumption | omega) only [↓RP, RQ, TY, loadT, reduceIte, Nat.reduceEqDiff, Nat.reduceAdd, e6, e5, e0, e1, hlt, hm'.ints]
    have := hQ H' hE
    rwa [decide_eq_true (show irr p mod from fun d h1 h2 => hd d h1 (by omega))] at this
/-- p, m, mod describe a field, as the reference checks it. -/
def FieldOk (p m : Int) (mod : List Int) : Prop :=
  ordr p m ≠ 0 ∧ prm p ∧ ((m = 1 ∧ mod = []) ∨ (m ≠ 1 ∧ (mod.length : Int) = m ∧ Rng p mod ∧ irr p mod))
theorem ordr_pos {p m : Int} (h : ordr p m ≠ 0) : 2 ≤ p ∧ 1 ≤ m ∧ m ≤ 8 ∧ p ^ m.toNat ≤ 256 ∧ ordr p m = p ^ m.toNat := by
  unfold ordr at h ⊢
  split at h
  · rename_i hh
    rw [if_pos hh]
    exact ⟨hh.1, hh.2.1, hh.2.2.1, hh.2.2.2, rfl⟩
  · exact (h rfl).elim
theorem ordr_p {p m : Int} (h : ordr p m ≠ 0) : p ≤ 256 := by
  obtain ⟨h1, h2, h3, h4, -⟩ := ordr_pos h
  have := ipow_mono (p := p) (by omega) (show 1 ≤ m.toNat by omega)
  rw [show p ^ 1 = p by rw [Int.pow_succ, Int.pow_zero, Int.one_mul]] at this
  omega
open Classical in
theorem c_Check04 {p m : Int} {md : AV} {mod : List Int} {H : AH} {Q : AV → AH → Prop} (hm : Ints H md mod)
    (hQ : ∀ H', Ext H H' → Q (.int .i64 (if FieldOk p m mod then 0 else 1)) H') : AC Try.prog 32 [.agg [.int .i64 p, .int .i64 m, md]] H Q := by
  refine at32 (by simp) ?_
  simp (disch := first | assumption | omega) only [↓RP, RQ, TY, loadT, s32, reduceIte, Nat.reduceEqDiff, Nat.reduceAdd]
  refine kNew_intro fun b H1 hb hE hH1 => ?_
  simp (disch := first | assumption | omega) only [↓RP, RQ, TY, loadT, reduceIte, Nat.reduceEqDiff, Nat.reduceAdd, hH1]
  refine c_Order fun H2 hE2 => ?_
  have hE3 := hE.trans hE2
  have hH2 := hE2.rw hH1
  have hm2 := hm.ext hE3
  by_cases ho : ordr p m = 0
  · simp (disch := first | assumption | omega) only [↓RP, RQ, TY, loadT, reduceIte, Nat.reduceEqDiff, Nat.reduceAdd, hH2, ho]
    have := hQ H2 hE3
    rwa [if_neg (fun q => q.1 ho)] at this
  obtain ⟨o1, o2, o3, o4, o5⟩ := ordr_pos ho
  have o6 := ordr_p ho
  simp (disch := first | assumption | omega) only [↓RP, RQ, TY, loadT, reduceIte, Nat.reduceEqDiff, Nat.reduceAdd, hH2, ho]
  refine c_prime o1 o6 ?_
  by_cases hp : prm p
  rotate_left
  · simp (disch := first | assumption | omega) only [↓RP, RQ, TY, loadT, reduceIte, Nat.reduceEqDiff, Nat.reduceAdd, hH2, hp]
    have := hQ H2 hE3
    rwa [if_neg (fun q => hp q.2.1)] at this
  by_cases h1 : m = 1
  · by_cases hl : (mod.length : Int) = 0
    · simp (disch := first | assumption | omega) only [↓RP, RQ, TY, loadT, reduceIte, Nat.reduceEqDiff, Nat.reduceAdd, hH2, hp, h1, hl, hm2.ints]
      have := hQ H2 hE3
      rwa [if_pos ⟨ho, hp, .inl ⟨h1, List.length_eq_zero_iff.mp (by omega)⟩⟩] at this
    · simp (disch := first | assumption | omega) only [↓RP, RQ, TY, loadT, reduceIte, Nat.reduceEqDiff, Nat.reduceAdd, hH2, hp, h1, hl, hm2.ints]
      have := hQ H2 hE3
      rwa [if_neg (fun q => q.2.2.elim (fun q => hl (by rw [q.2]; rfl)) fun q => q.1 h1)] at this
  by_cases hl : (mod.length : Int) = m
  rotate_left
  · simp (disch := first | assumption | omega) only [↓RP, RQ, TY, loadT, reduceIte, Nat.reduceEqDiff, Nat.reduceAdd, hH2, hp, h1, hl, hm2.ints]
    have := hQ H2 hE3
    rwa [if_neg (fun q => q.2.2.elim (fun q => h1 q.1) fun q => hl q.2.1)] at this
  simp (disch := first | assumption | omega) only [↓RP, RQ, TY, loadT, reduceIte, Nat.reduceEqDiff, Nat.reduceAdd, hH2, hp, h1, hl, hm2.ints]
  refine sw_loop (σ := Nat) (fun i e H' => e 3 = .int .i64 i ∧ e 1 = .ptr b 0 ∧ (i : Int) ≤ m ∧ H' = H2 ∧ ∀ j, j < i → 0 ≤ mod.getD j 0 ∧ mod.getD j 0 < p) (fun i => m.toNat - i) 0 ?_ ?_
  · simp (disch := first | assumption | omega) only [↓RP, RQ, TY, loadT, reduceIte, Nat.reduceEqDiff, Nat.reduceAdd]
    exact ⟨by omega, fun j hj => by omega⟩
  rintro i e H' ⟨e3, e1, hi, rfl, hj⟩
  by_cases hlt : (i : Int) < m
  · by_cases c1 : mod.getD i 0 < 0
    · simp (disch := first | assumption | omega) only [↓RP, RQ, TY, loadT, reduceIte, Nat.reduceEqDiff, Nat.reduceAdd, e3, e1, hlt, hH2, c1, hm2.ints]
      have := hQ H' hE3
      rwa [if_neg (fun q => q.2.2.elim (fun q => h1 q.1) fun q => absurd (q.2.2.1 i).1 (by omega))] at this
    by_cases c2 : p ≤ mod.getD i 0
    · simp (disch := first | assumption | omega) only [↓RP, RQ, TY, loadT, reduceIte, Nat.reduceEqDiff, Nat.reduceAdd, e3, e1, hlt, hH2, c1, c2, hm2.ints]
      have := hQ H' hE3
      rwa [if_neg (fun q => q.2.2.elim (fun q => h1 q.1) fun q => absurd (q.2.2.1 i).2 (by omega))] at this
    simp (disch := first | assumption | omega) only [↓RP, RQ, TY, loadT, reduceIte, Nat.reduceEqDiff, Nat.reduceAdd, e3, e1, hlt, hH2, c1, c2, hm2.ints]
    refine ⟨i + 1, ?_, by dsimp only; omega⟩
    simp (disch := first | assumption | omega) only [↓RP, RQ, TY, loadT, reduceIte, Nat.reduceEqDiff, Nat.reduceAdd, e3, e1]
    refine ⟨by omega, fun j h => ?_⟩
    by_cases hji : j = i
    · rw [hji]; exact ⟨by omega, by omega⟩
    · exact hj j (by omega)
  · have hr : Rng p mod := fun j => by
      by_cases hji : j < i
      · exact hj j hji
      · rw [List.getD_eq_getElem?_getD, List.getElem?_eq_none (by omega)]
        exact ⟨by simp, by simpa using (show 0 < p by omega)⟩
    simp (disch := first | assumption | omega) only [↓RP, RQ, TY, loadT, reduceIte, Nat.reduceEqDiff, Nat.reduceAdd, e3, e1, hlt, hH2, hm2.ints]
    refine c_irreducible o1 o6 hm2 hr (by omega) (by rw [show mod.length = m.toNat by omega]; exact o4) fun H3 hE4 => ?_
    have := hQ H3 (hE3.trans hE4)
    by_cases hir : irr p mod
    · simp (disch := first | assumption | omega) only [↓RP, RQ, TY, loadT, reduceIte, Nat.reduceEqDiff, Nat.reduceAdd, hir]
      rwa [if_pos ⟨ho, hp, .inr ⟨h1, hl, hr, hir⟩⟩] at this
    · simp (disch := first | assumption | omega) only [↓RP, RQ, TY, loadT, reduceIte, Nat.reduceEqDiff, Nat.reduceAdd, hir]
      rwa [if_neg (fun q => q.2.2.elim (fun q => h1 q.1) fun q => hir q.2.2.2)] at this
end Go.Proofs.Yteijojnahpeglaa.AM
/-! The reference's field, fourth part: digits and sums. -/
namespace Go.Proofs.Yteijojnahpeglaa.AM
open Go Go.RowKit
set_option linter.unusedVariables false
set_option linter.unusedSimpArgs false
set_option maxRecDepth 20000
/-- the number with these digits -/
def val (p : Int) : List Int → Int
  | [] => 0
  | d :: ds => d + p * val p ds
theorem Rng.tail {p d : Int} {ds : List Int} (h : Rng p (d :: ds)) : Rng p ds := fun i => by simpa using h (i + 1)
theorem val_lt {p : Int} (hp : 0 < p) : ∀ {ds : List Int}, Rng p ds → 0 ≤ val p ds ∧ val p ds < p ^ ds.length
  | [], _ => by simp [val]
  | d :: ds, h => by
    have h1 := val_lt hp h.tail
    have h2 := h 0
    simp only [List.getD_cons_zero] at h2
    have h3 : p * val p ds ≤ p * (p ^ ds.length - 1) := Int.mul_le_mul_of_nonneg_left (by omega) (by omega)
    have h4 : 0 ≤ p * val p ds := Int.mul_nonneg (by omega) h1.1
    have h5 : p ^ (ds.length + 1) = p * p ^ ds.length := by rw [Int.pow_succ, Int.mul_comm]
    rw [Int.mul_sub, Int.mul_one] at h3
    simp only [val, List.length_cons, h5]
    omega
theorem drop_getD {ds : List Int} {i : Nat} (h : i < ds.length) : ds.drop i = ds.getD i 0 :: ds.drop (i + 1) := by
  rw [List.drop_eq_getElem_cons h]
  simp [h, List.getD_eq_getElem?_getD]
theorem Rng.drop {p : Int} {ds : List Int} (h : Rng p ds) (i : Nat) : Rng p (ds.drop i) := fun j => by
  have := h (i + j)
  simpa [List.getD_eq_getElem?_getD, List.getElem?_drop] using this
open Classical in
theorem c_Is04 {p m x : Int} {md : AV} {H : AH} {Q : AV → AH → Prop}
    (hQ : ∀ H', Ext H H' → Q (.bool (decide (0 ≤ x ∧ x < ordr p m))) H') : AC Try.prog 88 [.agg [.int .i64 p, .int .i64 m, md], .int .i64 x] H Q := by
  refine at88 (by simp) ?_
  simp (disch := first | assumption | omega) only [↓RP, RQ, TY, loadT, s88, reduceIte, Nat.reduceEqDiff, Nat.reduceAdd]
  refine kNew_intro fun b H1 hb hE hH1 => ?_
  by_cases h0 : 0 ≤ x
  · simp (disch := first | assumption | omega) only [↓RP, RQ, TY, loadT, reduceIte, Nat.reduceEqDiff, Nat.reduceAdd, hH1, h0]
    refine c_Order fun H2 hE2 => ?_
    have := hQ H2 (hE.trans hE2)
    by_cases h1 : x < ordr p m
    · simp (disch := first | assumption | omega) only [↓RP, RQ, TY, loadT, reduceIte, Nat.reduceEqDiff, Nat.reduceAdd, h1]
      rwa [decide_eq_true ⟨h0, h1⟩] at this
    · simp (disch := first | assumption | omega) only [↓RP, RQ, TY, loadT, reduceIte, Nat.reduceEqDiff, Nat.reduceAdd, h1]
      rwa [decide_eq_false (fun q => h1 q.2)] at this
  · simp (disch := first | assumption | omega) only [↓RP, RQ, TY, loadT, reduceIte, Nat.reduceEqDiff, Nat.reduceAdd, hH1, h0]
    have := hQ H1 hE
    rwa [decide_eq_false (fun q => h0 q.1)] at this
theorem c_In04 {p m x : Int} {md : AV} {H : AH} {Q : AV → AH → Prop} (hx : 0 ≤ x) (hx' : x < ordr p m)
    (hQ : ∀ H', Ext H H' → Q (.int .i64 x) H') : AC Try.prog 116 [.agg [.int .i64 p, .int .i64 m, md], .int .i64 x] H Q := by
  refine at116 (by simp) ?_
  simp (disch := first | assumption | omega) only [↓RP, RQ, TY, loadT, s116, reduceIte, Nat.reduceEqDiff, Nat.reduceAdd]
  refine kNew_intro fun b H1 hb hE hH1 => ?_
  simp (disch := first | assumption | omega) only [↓RP, RQ, TY, loadT, reduceIte, Nat.reduceEqDiff, Nat.reduceAdd, hH1]
  refine c_Is04 fun H2 hE2 => ?_
  simp (disch := first | assumption | omega) only [↓RP, RQ, TY, loadT, reduceIte, Nat.reduceEqDiff, Nat.reduceAdd, hx, hx']
  exact hQ H2 (hE.trans hE2)
theorem c_Digits04 {p m x : Int} {md : AV} {H : AH} {Q : AV → AH → Prop} (hx : 0 ≤ x) (hx' : x < ordr p m)
    (hQ : ∀ b H', H b = .free → Ext H H' → H' b = .rw (ints (digs p m.toNat x)) → Q (.sl b 0 m.toNat (.own 1)) H') : AC Try.prog 110 [.agg [.int .i64 p, .int .i64 m, md], .int .i64 x] H Q := by
  obtain ⟨o1, o2, o3, o4, o5⟩ := ordr_pos (p := p) (m := m) (by omega)
  refine at110 (by simp) ?_
  simp (disch := first | assumption | omega) only [↓RP, RQ, TY, loadT, s110, reduceIte, Nat.reduceEqDiff, Nat.reduceAdd]
  refine kNew_intro fun b H1 hb hE hH1 => ?_
  simp (disch := first | assumption | omega) only [↓RP, RQ, TY, loadT, reduceIte, Nat.reduceEqDiff, Nat.reduceAdd, hH1]
  refine c_In04 hx hx' fun H2 hE2 => ?_
  have hH2 := hE2.rw hH1
  have hE3 := hE.trans hE2
  simp (disch := first | assumption | omega) only [↓RP, RQ, TY, loadT, reduceIte, Nat.reduceEqDiff, Nat.reduceAdd, hH1, hH2]
  refine c_digits hx (by omega) (by omega) (by omega) (by omega) fun b4 H4 hb4 hE4 hH4 => ?_
  have hH4' := hE4.rw hH2
  simp (disch := first | assumption | omega) only [↓RP, RQ, TY, loadT, reduceIte, Nat.reduceEqDiff, Nat.reduceAdd, hH4']
  exact hQ b4 H4 (hE3.free hb4) (hE3.trans hE4) hH4
theorem c_Value04 {p m : Int} {md vd : AV} {ds : List Int} {H : AH} {Q : AV → AH → Prop} (hp : 2 ≤ p) (hd : Ints H vd ds) (rd : Rng p ds) (hp' : p ≤ 256) (hl : ds.length ≤ 100) (hq : p ^ ds.length ≤ 256)
    (hQ : ∀ H', Ext H H' → Q (.int .i64 (val p ds)) H') : AC Try.prog 111 [.agg [.int .i64 p, .int .i64 m, md], vd] H Q := by
  refine at111 (by simp) ?_
  simp (disch := first | assumption | omega) only [↓RP, RQ, TY, loadT, s111, reduceIte, Nat.reduceEqDiff, Nat.reduceAdd]
  refine kNew_intro fun b H1 hb hE hH1 => ?_
  have hd1 := hd.ext hE
  simp (disch := first | assumption | omega) only [↓RP, RQ, TY, loadT, reduceIte, Nat.reduceEqDiff, Nat.reduceAdd, hH1, hd1.ints]
  refine sw_loop (σ := Nat) (fun k e H' => e 6 = .int .i64 ((ds.length - k : Int) - 1) ∧ e 5 = .int .i64 (val p (ds.drop (ds.length - k))) ∧ e 2 = .ptr b 0 ∧ e 1 = vd ∧ k ≤ ds.length ∧ H' = H1) (fun k => ds.length - k) 0 ?_ ?_
  · simp (disch := first | assumption | omega) only [↓RP, RQ, TY, loadT, reduceIte, Nat.reduceEqDiff, Nat.reduceAdd]
    simp [val]
  rintro k e H' ⟨e6, e5, e2, e1, hk, rfl⟩
  have v1 := val_lt (show 0 < p by omega) (rd.drop (ds.length - k))
  have v2 : p ^ (ds.drop (ds.length - k)).length ≤ 256 := Int.le_trans (ipow_mono (by omega) (by simp)) hq
  by_cases hlt : 0 ≤ (ds.length - k : Int) - 1
  · have hi : ((ds.length - k : Int) - 1).toNat = ds.length - (k + 1) := by omega
    have v3 := val_lt (show 0 < p by omega) (rd.drop (ds.length - (k + 1)))
    have v4 : p ^ (ds.drop (ds.length - (k + 1))).length ≤ 256 := Int.le_trans (ipow_mono (by omega) (by simp)) hq
    have v5 : val p (ds.drop (ds.length - (k + 1))) = ds.getD (ds.length - (k + 1)) 0 + p * val p (ds.drop (ds.length - k)) := by
      rw [drop_getD (show ds.length - (k + 1) < ds.length by omega), val, show ds.length - (k + 1) + 1 = ds.length - k by omega]
    have v6 : p * val p (ds.drop (ds.length - k)) = val p (ds.drop (ds.length - k)) * p := Int.mul_comm _ _
    have v7 := rd (ds.length - (k + 1))
    simp (disch := first | assumption | omega) only [↓RP, RQ, TY, loadT, reduceIte, Nat.reduceEqDiff, Nat.reduceAdd, hH1, hd1.ints, e6, e5, e2, e1, hlt, hi]
    refine ⟨k + 1, ?_, by dsimp only; omega⟩
    simp (disch := first | assumption | omega) only [↓RP, RQ, TY, loadT, reduceIte, Nat.reduceEqDiff, Nat.reduceAdd, e6, e5, e2, e1]
    refine ⟨?_, ?_, by omega⟩
    · congr 1
      omega
    · congr 1
      omega
  · simp (disch := first | assumption | omega) only [↓RP, RQ, TY, loadT, reduceIte, Nat.reduceEqDiff, Nat.reduceAdd, hH1, hd1.ints, e6, e5, e2, e1, hlt]
    have := hQ H' hE
    rwa [show ds.length - k = 0 by omega]
end Go.Proofs.Yteijojnahpeglaa.AM
/-! The reference's field, fifth part: sums and negatives. -/
namespace Go.Proofs.Yteijojnahpeglaa.AM
open Go Go.RowKit
set_option linter.unusedVariables false
set_option linter.unusedSimpArgs false
set_option maxRecDepth 20000
/-- the list f 0, .., f (n-1) -/
def tab {α : Type} (n : Nat) (f : Nat → α) : List α := (List.range n).map f
theorem tab_length {α : Type} (n : Nat) (f : Nat → α) : (tab n f).length = n := by simp [tab]
theorem tab_get {n : Nat} {f : Nat → Int} {i : Nat} (h : i < n) : (tab n f).getD i 0 = f i := by
  simp [tab, List.getD_eq_getElem?_getD, h]
/-- A list that is being changed entry by entry: the first i entries are T's. -/
def mix (T a : List Int) (i : Nat) : List Int := T.take i ++ a.drop i
theorem mix_zero (T a : List Int) : mix T a 0 = a := by simp [mix]
theorem mix_length {T a : List Int} (h : T.length = a.length) (i : Nat) : (mix T a i).length = a.length := by
  simp [mix]; omega
theorem mix_full {T a : List Int} (h : T.length = a.length) {i : Nat} (hi : a.length ≤ i) : mix T a i = T := by
  simp [mix, List.drop_of_length_le hi, List.take_of_length_le (show T.length ≤ i by omega)]
theorem mix_get {T a : List Int} {i j : Nat} (h : T.length = a.length) (hi : i ≤ j) : (mix T a i).getD j 0 = a.getD j 0 := by
  by_cases hj : j < a.length
  · simp only [mix, List.getD_eq_getElem?_getD]
    rw [List.getElem?_append_right (by simp; omega), List.getElem?_drop]
    simp only [List.length_take]
    rw [show i + (j - min i T.length) = j by omega]
  · rw [List.getD_eq_getElem?_getD, List.getD_eq_getElem?_getD, List.getElem?_eq_none (by rw [mix_length h]; omega), List.getElem?_eq_none (by omega)]
theorem mix_set {T a : List Int} {i : Nat} (h : T.length = a.length) (hi : i < a.length) : (mix T a i).set i (T.getD i 0) = mix T a (i + 1) := by
  have h1 : (List.take i T).length = i := by simp; omega
  have h2 : i < T.length := by omega
  have h3 : T.getD i 0 = T[i] := by simp [List.getD_eq_getElem?_getD, h2]
  simp only [mix]
  rw [h3, List.set_append_right _ _ (by omega), h1, Nat.sub_self, List.drop_eq_getElem_cons hi, List.set_cons_zero, List.take_succ_eq_append_getElem h2]
  simp only [List.append_assoc, List.cons_append, List.nil_append]
theorem tab_rng {p : Int} (hp : 0 < p) {n : Nat} {f : Nat → Int} (h : ∀ i, i < n → 0 ≤ f i ∧ f i < p) : Rng p (tab n f) := by
  intro i
  by_cases hi : i < n
  · rw [tab_get hi]; exact h i hi
  · rw [List.getD_eq_getElem?_getD, List.getElem?_eq_none (by rw [tab_length]; omega)]
    exact ⟨by simp, by simpa using hp⟩
def addL (p : Int) (a b : List Int) : List Int := tab a.length fun i => (a.getD i 0 + b.getD i 0) % p
def negL (p : Int) (a : List Int) : List Int := tab a.length fun i => (p - a.getD i 0) % p
/-- sum and negative, by digits -/
def fadd (p m x y : Int) : Int := val p (addL p (digs p m.toNat x) (digs p m.toNat y))
def fneg (p m x : Int) : Int := val p (negL p (digs p m.toNat x))
theorem c_Add04 {p m x y : Int} {md : AV} {H : AH} {Q : AV → AH → Prop} (hx : 0 ≤ x) (hx' : x < ordr p m) (hy : 0 ≤ y) (hy' : y < ordr p m)
    (hQ : ∀ H', Ext H H' → Q (.int .i64 (fadd p m x y)) H') : AC Try.prog 109 [.agg [.int .i64 p, .int .i64 m, md], .int .i64 x, .int .i64 y] H Q := by
  have ho : ordr p m ≠ 0 := by omega
  obtain ⟨o1, o2, o3, o4, o5⟩ := ordr_pos ho
  have o6 := ordr_p ho
  refine at109 (by simp) ?_
  simp (disch := first | assumption | omega) only [↓RP, RQ, TY, loadT, s109, reduceIte, Nat.reduceEqDiff, Nat.reduceAdd]
  refine kNew_intro fun b H1 hb hE1 hH1 => ?_
  simp (disch := first | assumption | omega) only [↓RP, RQ, TY, loadT, reduceIte, Nat.reduceEqDiff, Nat.reduceAdd, hH1]
  refine c_Digits04 hx hx' fun b2 H2 hb2 hE2 hH2 => ?_
  have hb' := hE2.rw hH1
  have hE12 := hE1.trans hE2
  simp (disch := first | assumption | omega) only [↓RP, RQ, TY, loadT, reduceIte, Nat.reduceEqDiff, Nat.reduceAdd, hb']
  refine c_Digits04 hy hy' fun b3 H3 hb3 hE3 hH3 => ?_
  have hb'' := hE3.rw hb'
  have hH2' := hE3.rw hH2
  have hE13 := hE12.trans hE3
  have n1 : b ≠ b2 := fun q => by rw [← q, hH1] at hb2; cases hb2
  have n2 : b3 ≠ b2 := fun q => by rw [q, hH2] at hb3; cases hb3
  have l1 := digs_length p m.toNat x
  have l2 := digs_length p m.toNat y
  have r1 := digs_rng (show 0 < p by omega) m.toNat x
  have r2 := digs_rng (show 0 < p by omega) m.toNat y
  generalize ha : digs p m.toNat x = a at *
  generalize hb : digs p m.toNat y = c at *
  have lT : (addL p a c).length = a.length := tab_length _ _
  simp (disch := first | assumption | omega) only [↓RP, RQ, TY, loadT, reduceIte, Nat.reduceEqDiff, Nat.reduceAdd, hb'']
  refine sw_loop (σ := Nat) (fun i e H' => e 9 = .int .i64 i ∧ e 7 = .sl b2 0 m.toNat (.own 1) ∧ e 8 = .sl b3 0 m.toNat (.own 1) ∧ e 3 = .ptr b 0 ∧ i ≤ m.toNat ∧ H' b = .rw [.int .i64 p, .int .i64 m, md] ∧ Ext H H' ∧ H' b3 = .rw (ints c) ∧ H' b2 = .rw (ints (mix (addL p a c) a i))) (fun i => m.toNat - i) 0 ?_ ?_
  · simp (disch := first | assumption | omega) only [↓RP, RQ, TY, loadT, reduceIte, Nat.reduceEqDiff, Nat.reduceAdd, mix_zero]
    exact ⟨by omega, hb'', hE13, hH3, hH2'⟩
  rintro i e H' ⟨e9, e7, e8, e3, hi, hpb, hE, h3, h2⟩
  have lM := mix_length lT i
  by_cases hlt : (i : Int) < m
  · have t1 := r1 i
    have t2 := r2 i
    have t3 : (mix (addL p a c) a i).getD i 0 = a.getD i 0 := mix_get lT (Nat.le_refl i)
    simp (disch := first | assumption | omega) only [↓RP, RQ, TY, loadT, reduceIte, Nat.reduceEqDiff, Nat.reduceAdd, e9, e7, e8, e3, hlt, hpb, h3, h2, t3]
    refine ⟨i + 1, ?_, by dsimp only; omega⟩
    simp (disch := first | assumption | omega) only [↓RP, RQ, TY, loadT, reduceIte, Nat.reduceEqDiff, Nat.reduceAdd, e9, e7, e8, e3, hpb, h3]
    refine ⟨by omega, hE.upd (hE1.free hb2) _, ?_⟩
    rw [← mix_set lT (show i < a.length by omega), addL, tab_get (show i < a.length by omega)]
  · simp (disch := first | assumption | omega) only [↓RP, RQ, TY, loadT, reduceIte, Nat.reduceEqDiff, Nat.reduceAdd, e9, e7, e8, e3, hlt, hpb, h3, h2]
    have hT : Rng p (addL p a c) := tab_rng (by omega) fun i _ => ⟨Int.emod_nonneg _ (by omega), Int.emod_lt_of_pos _ (by omega)⟩
    rw [mix_full lT (show a.length ≤ i by omega)] at h2
    refine c_Value04 o1 (Sl.own h2 (by rw [ints_length, lT, l1])) hT o6 (by omega) (by rw [lT, l1]; exact o4) fun H4 hE4 => ?_
    simp (disch := first | assumption | omega) only [↓RP, RQ, TY, loadT, reduceIte, Nat.reduceEqDiff, Nat.reduceAdd]
    have := hQ H4 (hE.trans hE4)
    rwa [fadd, ha, hb] at this
theorem c_Neg04 {p m x : Int} {md : AV} {H : AH} {Q : AV → AH → Prop} (hx : 0 ≤ x) (hx' : x < ordr p m)
    (hQ : ∀ H', Ext H H' → Q (.int .i64 (fneg p m x)) H') : AC Try.prog 93 [.agg [.int .i64 p, .int .i64 m, md], .int .i64 x] H Q := by
  have ho : ordr p m ≠ 0 := by omega
  obtain ⟨o1, o2, o3, o4, o5⟩ := ordr_pos ho
  have o6 := ordr_p ho
  refine at93 (by simp) ?_
  simp (disch := first | assumption | omega) only [↓RP, RQ, TY, loadT, s93, reduceIte, Nat.reduceEqDiff, Nat.reduceAdd]
  refine kNew_intro fun b H1 hb hE1 hH1 => ?_
  simp (disch := first | assumption | omega) only [↓RP, RQ, TY, loadT, reduceIte, Nat.reduceEqDiff, Nat.reduceAdd, hH1]
  refine c_Digits04 hx hx' fun b2 H2 hb2 hE2 hH2 => ?_
  have hb' := hE2.rw hH1
  have hE12 := hE1.trans hE2
  have n1 : b ≠ b2 := fun q => by rw [← q, hH1] at hb2; cases hb2
  have l1 := digs_length p m.toNat x
  have r1 := digs_rng (show 0 < p by omega) m.toNat x
  generalize ha : digs p m.toNat x = a at *
  have lT : (negL p a).length = a.length := tab_length _ _
  simp (disch := first | assumption | omega) only [↓RP, RQ, TY, loadT, reduceIte, Nat.reduceEqDiff, Nat.reduceAdd, hb']
  refine sw_loop (σ := Nat) (fun i e H' => e 6 = .int .i64 i ∧ e 5 = .sl b2 0 m.toNat (.own 1) ∧ e 2 = .ptr b 0 ∧ i ≤ m.toNat ∧ H' b = .rw [.int .i64 p, .int .i64 m, md] ∧ Ext H H' ∧ H' b2 = .rw (ints (mix (negL p a) a i))) (fun i => m.toNat - i) 0 ?_ ?_
  · simp (disch := first | assumption | omega) only [↓RP, RQ, TY, loadT, reduceIte, Nat.reduceEqDiff, Nat.reduceAdd, mix_zero]
    exact ⟨by omega, hb', hE12, hH2⟩
  rintro i e H' ⟨e6, e5, e2, hi, hpb, hE, h2⟩
  have lM := mix_length lT i
  by_cases hlt : (i : Int) < m
  · have t1 := r1 i
    have t3 : (mix (negL p a) a i).getD i 0 = a.getD i 0 := mix_get lT (Nat.le_refl i)
    simp (disch := first | assumption | omega) only [↓RP, RQ, TY, loadT, reduceIte, Nat.reduceEqDiff, Nat.reduceAdd, e6, e5, e2, hlt, hpb, h2, t3]
    refine ⟨i + 1, ?_, by dsimp only; omega⟩
    simp (disch := first | assumption | omega) only [↓RP, RQ, TY, loadT, reduceIte, Nat.reduceEqDiff, Nat.reduceAdd, e6, e5, e2, hpb]
    refine ⟨by omega, hE.upd (hE1.free hb2) _, ?_⟩
    rw [← mix_set lT (show i < a.length by omega), negL, tab_get (show i < a.length by omega)]
  · simp (disch := first | assumption | omega) only [↓RP, RQ, TY, loadT, reduceIte, Nat.reduceEqDiff, Nat.reduceAdd, e6, e5, e2, hlt, hpb, h2]
    have hT : Rng p (negL p a) := tab_rng (by omega) fun i _ => ⟨Int.emod_nonneg _ (by omega), Int.emod_lt_of_pos _ (by omega)⟩
    rw [mix_full lT (show a.length ≤ i by omega)] at h2
    refine c_Value04 o1 (Sl.own h2 (by rw [ints_length, lT, l1])) hT o6 (by omega) (by rw [lT, l1]; exact o4) fun H4 hE4 => ?_
    simp (disch := first | assumption | omega) only [↓RP, RQ, TY, loadT, reduceIte, Nat.reduceEqDiff, Nat.reduceAdd]
    have := hQ H4 (hE.trans hE4)
    rwa [fneg, ha] at this
end Go.Proofs.Yteijojnahpeglaa.AM
/-! The reference's field, sixth part: products. -/
namespace Go.Proofs.Yteijojnahpeglaa.AM
open Go Go.RowKit
set_option linter.unusedVariables false
set_option linter.unusedSimpArgs false
set_option maxRecDepth 20000
def mulIn (p : Int) (a b : List Int) (i j : Nat) (c : List Int) : List Int := c.set (i + j) ((c.getD (i + j) 0 + a.getD i 0 * b.getD j 0) % p)
def mulP (p : Int) (n : Nat) (a b : List Int) : List Int := upto (fun i c => upto (mulIn p a b i) n c) n (List.replicate (2 * n - 1) 0)
def redIn (p : Int) (n : Nat) (mod : List Int) (i j : Nat) (c : List Int) : List Int := c.set (i - n + j) ((c.getD (i - n + j) 0 + (p - c.getD i 0) * mod.getD j 0) % p)
def redP (p : Int) (n : Nat) (mod c : List Int) : List Int := upto (fun k c => upto (redIn p n mod (2 * n - 2 - k)) n c) (n - 1) c
/-- the product of two residues -/
def fmul (p m : Int) (mod : List Int) (x y : Int) : Int := val p ((redP p m.toNat mod (mulP p m.toNat (digs p m.toNat x) (digs p m.toNat y))).take m.toNat)
theorem upto_ok {p : Int} {L : Nat} (f : Nat → List Int → List Int) (hf : ∀ i c, c.length = L ∧ Rng p c → (f i c).length = L ∧ Rng p (f i c)) {c : List Int} (hc : c.length = L ∧ Rng p c) : ∀ n, (upto f n c).length = L ∧ Rng p (upto f n c)
  | 0 => hc
  | n + 1 => hf n _ (upto_ok f hf hc n)
theorem mulIn_ok {p : Int} (hp : 0 < p) {L : Nat} (a b : List Int) (i j : Nat) (c : List Int) (hc : c.length = L ∧ Rng p c) : (mulIn p a b i j c).length = L ∧ Rng p (mulIn p a b i j c) :=
  ⟨by rw [mulIn, List.length_set, hc.1], hc.2.set (Int.emod_nonneg _ (by omega)) (Int.emod_lt_of_pos _ hp) _⟩
theorem redIn_ok {p : Int} (hp : 0 < p) {L n : Nat} (mod : List Int) (i j : Nat) (c : List Int) (hc : c.length = L ∧ Rng p c) : (redIn p n mod i j c).length = L ∧ Rng p (redIn p n mod i j c) :=
  ⟨by rw [redIn, List.length_set, hc.1], hc.2.set (Int.emod_nonneg _ (by omega)) (Int.emod_lt_of_pos _ hp) _⟩
theorem c_Mul04 {p m x y : Int} {md : AV} {mod : List Int} {H : AH} {Q : AV → AH → Prop} (hm : Ints H md mod) (rm : Rng p mod) (lm : m ≠ 1 → (mod.length : Int) = m) (hx : 0 ≤ x) (hx' : x < ordr p m) (hy : 0 ≤ y) (hy' : y < ordr p m)
    (hQ : ∀ H', Ext H H' → Q (.int .i64 (fmul p m mod x y)) H') : AC Try.prog 108 [.agg [.int .i64 p, .int .i64 m, md], .int .i64 x, .int .i64 y] H Q := by
  have ho : ordr p m ≠ 0 := by omega
  obtain ⟨o1, o2, o3, o4, o5⟩ := ordr_pos ho
  have o6 := ordr_p ho
  have op : 0 < p := by omega
  refine at108 (by simp) ?_
  simp (disch := first | assumption | omega) only [↓RP, RQ, TY, loadT, s108, reduceIte, Nat.reduceEqDiff, Nat.reduceAdd]
  refine kNew_intro fun b H1 hb hE1 hH1 => ?_
  simp (disch := first | assumption | omega) only [↓RP, RQ, TY, loadT, reduceIte, Nat.reduceEqDiff, Nat.reduceAdd, hH1]
  refine c_Digits04 hx hx' fun b2 H2 hb2 hE2 hH2 => ?_
  have hb' := hE2.rw hH1
  have hE12 := hE1.trans hE2
  simp (disch := first | assumption | omega) only [↓RP, RQ, TY, loadT, reduceIte, Nat.reduceEqDiff, Nat.reduceAdd, hb']
  refine c_Digits04 hy hy' fun b3 H3 hb3 hE3 hH3 => ?_
  have hb'' := hE3.rw hb'
  have hH2' := hE3.rw hH2
  have hE13 := hE12.trans hE3
  have l1 := digs_length p m.toNat x
  have l2 := digs_length p m.toNat y
  have r1 := digs_rng op m.toNat x
  have r2 := digs_rng op m.toNat y
  generalize ha : digs p m.toNat x = a at *
  generalize hb : digs p m.toNat y = c at *
  simp (disch := first | assumption | omega) only [↓RP, RQ, TY, loadT, reduceIte, Nat.reduceEqDiff, Nat.reduceAdd, hb'']
  refine kNew_intro fun b4 H4 hb4 hE4 hH4 => ?_
  have hb4' := hE4.rw hb''
  have h24 := hE4.rw hH2'
  have h34 := hE4.rw hH3
  have hE14 := hE13.trans hE4
  have n1 : b ≠ b4 := fun q => by rw [← q, hb''] at hb4; cases hb4
  have n2 : b2 ≠ b4 := fun q => by rw [← q, hH2'] at hb4; cases hb4
  have n3 : b3 ≠ b4 := fun q => by rw [← q, hH3] at hb4; cases hb4
  have f4 := hE13.free hb4
  have en : (2 * m - 1).toNat = 2 * m.toNat - 1 := by omega
  rw [en, show List.replicate (2 * m.toNat - 1) (AV.int .i64 0) = ints (List.replicate (2 * m.toNat - 1) 0) by simp [ints]] at hH4
  generalize hn : m.toNat = n at *
  have hmn : m = (n : Int) := by omega
  subst hmn
  simp (disch := first | assumption | omega) only [↓RP, RQ, TY, loadT, reduceIte, Nat.reduceEqDiff, Nat.reduceAdd, en]
  have hsz0 : (List.replicate (2 * n - 1) (0 : Int)).length = 2 * n - 1 ∧ Rng p (List.replicate (2 * n - 1) 0) := ⟨by simp, Rng.rep op _⟩
  have hpos : 1 ≤ n := by omega
  refine sw_loop (σ := Nat) (fun i e H' => e 10 = .int .i64 i ∧ e 9 = .sl b4 0 (2 * n - 1) (.own 1) ∧ e 8 = .sl b3 0 n (.own 1) ∧ e 7 = .sl b2 0 n (.own 1) ∧ e 3 = .ptr b 0 ∧ i ≤ n ∧ H' b = .rw [.int .i64 p, .int .i64 n, md] ∧ Ext H H' ∧ H' b2 = .rw (ints a) ∧ H' b3 = .rw (ints c) ∧
    H' b4 = .rw (ints (upto (fun i c' => upto (mulIn p a c i) n c') i (List.replicate (2 * n - 1) 0)))) (fun i => n - i) 0 ?_ ?_
  · simp (disch := first | assumption | omega) only [↓RP, RQ, TY, loadT, reduceIte, Nat.reduceEqDiff, Nat.reduceAdd, hH4]
    exact ⟨by omega, hb4', hE14, h24, h34, rfl⟩
  rintro i e H' ⟨e10, e9, e8, e7, e3, hi, hpb, hE, h2, h3, h4⟩
  obtain ⟨s1, s2⟩ := upto_ok (L := 2 * n - 1) _ (fun i c' hc' => upto_ok _ (mulIn_ok op a c i) hc' n) hsz0 i
  generalize hR : upto (fun i c' => upto (mulIn p a c i) n c') i (List.replicate (2 * n - 1) 0) = R at *
  by_cases hlt : (i : Int) < n
  · simp (disch := first | assumption | omega) only [↓RP, RQ, TY, loadT, reduceIte, Nat.reduceEqDiff, Nat.reduceAdd, e10, e9, e8, e7, e3, hlt, hpb]
    refine sw_loop (σ := Nat) (fun j e H' => e 11 = .int .i64 j ∧ e 10 = .int .i64 i ∧ e 9 = .sl b4 0 (2 * n - 1) (.own 1) ∧ e 8 = .sl b3 0 n (.own 1) ∧ e 7 = .sl b2 0 n (.own 1) ∧ e 3 = .ptr b 0 ∧ j ≤ n ∧ H' b = .rw [.int .i64 p, .int .i64 n, md] ∧ Ext H H' ∧ H' b2 = .rw (ints a) ∧ H' b3 = .rw (ints c) ∧
      H' b4 = .rw (ints (upto (mulIn p a c i) j R))) (fun j => n - j) 0 ?_ ?_
    · simp (disch := first | assumption | omega) only [↓RP, RQ, TY, loadT, reduceIte, Nat.reduceEqDiff, Nat.reduceAdd, e10, e9, e8, e7, e3, h4]
      exact ⟨by omega, hpb, hE, h2, h3, rfl⟩
    rintro j e H' ⟨e11, e10, e9, e8, e7, e3, hj, hpb, hE, h2, h3, h4⟩
    obtain ⟨s3, s4⟩ := upto_ok _ (mulIn_ok op a c i) ⟨s1, s2⟩ j
    generalize hS : upto (mulIn p a c i) j R = S at *
    by_cases hjt : (j : Int) < n
    · have t1 := r1 i
      have t2 := r2 j
      have t3 := s4 (i + j)
      have t4 := mul_bd (a := a.getD i 0) (b := c.getD j 0) (A := 256) (B := 256) (by omega) (by omega) (by omega) (by omega)
      have i1 : ((i : Int) + (j : Int)).toNat = i + j := by omega
      simp (disch := first | assumption | omega) only [↓RP, RQ, TY, loadT, reduceIte, Nat.reduceEqDiff, Nat.reduceAdd, e11, e10, e9, e8, e7, e3, hjt, hpb, h2, h3, h4, i1]
      refine ⟨j + 1, ?_, by dsimp only; omega⟩
      simp (disch := first | assumption | omega) only [↓RP, RQ, TY, loadT, reduceIte, Nat.reduceEqDiff, Nat.reduceAdd, e11, e10, e9, e8, e7, e3, hpb, h2, h3]
      refine ⟨by omega, hE.upd f4 _, ?_⟩
      rw [upto_succ, hS]
      rfl
    · simp (disch := first | assumption | omega) only [↓RP, RQ, TY, loadT, reduceIte, Nat.reduceEqDiff, Nat.reduceAdd, e11, e10, e9, e8, e7, e3, hjt, hpb]
      refine ⟨i + 1, ?_, by dsimp only; omega⟩
      simp (disch := first | assumption | omega) only [↓RP, RQ, TY, loadT, reduceIte, Nat.reduceEqDiff, Nat.reduceAdd, e11, e10, e9, e8, e7, e3]
      refine ⟨by omega, hpb, hE, h2, h3, ?_⟩
      rw [upto_succ, hR, h4, ← hS, show j = n by omega]
  · simp (disch := first | assumption | omega) only [↓RP, RQ, TY, loadT, reduceIte, Nat.reduceEqDiff, Nat.reduceAdd, e10, e9, e8, e7, e3, hlt, hpb]
    have hin : i = n := by omega
    subst hin
    have hRR : R = mulP p i a c := hR.symm
    refine sw_loop (σ := Nat) (fun k e H' => e 12 = .int .i64 (2 * i - 2 - k : Nat) ∧ e 9 = .sl b4 0 (2 * i - 1) (.own 1) ∧ e 3 = .ptr b 0 ∧ k ≤ i - 1 ∧ H' b = .rw [.int .i64 p, .int .i64 i, md] ∧ Ext H H' ∧
      H' b4 = .rw (ints (upto (fun k c' => upto (redIn p i mod (2 * i - 2 - k)) i c') k R))) (fun k => i - k) 0 ?_ ?_
    · simp (disch := first | assumption | omega) only [↓RP, RQ, TY, loadT, reduceIte, Nat.reduceEqDiff, Nat.reduceAdd, e9, e3, h4]
      refine ⟨?_, by omega, hpb, hE, rfl⟩
      congr 1
      omega
    rintro k e H' ⟨e12, e9, e3, hk, hpb, hE, h4⟩
    obtain ⟨s3, s4⟩ := upto_ok (L := 2 * i - 1) _ (fun k c' hc' => upto_ok _ (redIn_ok op (n := i) mod (2 * i - 2 - k)) hc' i) ⟨s1, s2⟩ k
    generalize hS : upto (fun k c' => upto (redIn p i mod (2 * i - 2 - k)) i c') k R = S at *
    generalize hI : 2 * i - 2 - k = I at *
    by_cases hkt : (i : Int) ≤ (I : Int)
    · simp (disch := first | assumption | omega) only [↓RP, RQ, TY, loadT, reduceIte, Nat.reduceEqDiff, Nat.reduceAdd, e12, e9, e3, hkt, hpb]
      refine sw_loop (σ := Nat) (fun j e H' => e 13 = .int .i64 j ∧ e 12 = .int .i64 I ∧ e 9 = .sl b4 0 (2 * i - 1) (.own 1) ∧ e 3 = .ptr b 0 ∧ j ≤ i ∧ H' b = .rw [.int .i64 p, .int .i64 i, md] ∧ Ext H H' ∧
        H' b4 = .rw (ints (upto (redIn p i mod I) j S))) (fun j => i - j) 0 ?_ ?_
      · simp (disch := first | assumption | omega) only [↓RP, RQ, TY, loadT, reduceIte, Nat.reduceEqDiff, Nat.reduceAdd, e12, e9, e3, h4]
        exact ⟨by omega, hpb, hE, rfl⟩
      rintro j e H' ⟨e13, e12, e9, e3, hj, hpb, hE, h4⟩
      obtain ⟨s5, s6⟩ := upto_ok _ (redIn_ok op (n := i) mod I) ⟨s3, s4⟩ j
      generalize hT : upto (redIn p i mod I) j S = T at *
      have hm' := hm.ext hE
      by_cases hjt : (j : Int) < i
      · have lm' := lm (by omega)
        have t1 := s6 I
        have t2 := rm j
        have t3 := s6 (I - i + j)
        have t4 := mul_bd (a := p - T.getD I 0) (b := mod.getD j 0) (A := 256) (B := 256) (by omega) (by omega) (by omega) (by omega)
        have i1 : ((I : Int) - (i : Int) + (j : Int)).toNat = I - i + j := by omega
        simp (disch := first | assumption | omega) only [↓RP, RQ, TY, loadT, reduceIte, Nat.reduceEqDiff, Nat.reduceAdd, e13, e12, e9, e3, hjt, hpb, h4, i1, hm'.ints]
        refine ⟨j + 1, ?_, by dsimp only; omega⟩
        simp (disch := first | assumption | omega) only [↓RP, RQ, TY, loadT, reduceIte, Nat.reduceEqDiff, Nat.reduceAdd, e13, e12, e9, e3, hpb]
        refine ⟨by omega, hE.upd f4 _, ?_⟩
        rw [upto_succ, hT]
        rfl
      · simp (disch := first | assumption | omega) only [↓RP, RQ, TY, loadT, reduceIte, Nat.reduceEqDiff, Nat.reduceAdd, e13, e12, e9, e3, hjt, hpb]
        refine ⟨k + 1, ?_, by dsimp only; omega⟩
        simp (disch := first | assumption | omega) only [↓RP, RQ, TY, loadT, reduceIte, Nat.reduceEqDiff, Nat.reduceAdd, e13, e12, e9, e3]
        refine ⟨?_, by omega, hpb, hE, ?_⟩
        · congr 1
          omega
        · rw [upto_succ, hS, hI, h4, ← hT, show j = i by omega]
    · simp (disch := first | assumption | omega) only [↓RP, RQ, TY, loadT, reduceIte, Nat.reduceEqDiff, Nat.reduceAdd, e12, e9, e3, hkt, hpb]
      have hSS : S = redP p i mod (mulP p i a c) := by rw [redP, ← hRR, ← hS, show k = i - 1 by omega]
      have t5 : Rng p (S.take i) := fun q => by
        by_cases hq : q < i
        · have := s4 q
          simpa [List.getD_eq_getElem?_getD, List.getElem?_take, hq] using this
        · rw [List.getD_eq_getElem?_getD, List.getElem?_eq_none (by simp; omega)]
          exact ⟨by simp, by simpa using op⟩
      have t6 : (S.take i).length = i := by simp; omega
      refine c_Value04 (ds := S.take i) o1 (by rw [Ints, ints, List.map_take]; exact Sl.take h4 (by rw [List.length_map]; omega)) t5 o6 (by omega) (by rw [t6]; exact o4) fun H5 hE5 => ?_
      simp (disch := first | assumption | omega) only [↓RP, RQ, TY, loadT, reduceIte, Nat.reduceEqDiff, Nat.reduceAdd]
      have := hQ H5 (hE.trans hE5)
      rwa [fmul, hn, ha, hb, ← hSS] at this
end Go.Proofs.Yteijojnahpeglaa.AM
/-! The reference's field, seventh part: inverses. -/
namespace Go.Proofs.Yteijojnahpeglaa.AM
open Go Go.RowKit
set_option linter.unusedVariables false
set_option linter.unusedSimpArgs false
set_option maxRecDepth 20000
/-- v is the least inverse of x, or 0 -/
def IsInv (p m : Int) (mod : List Int) (x v : Int) : Prop :=
  (1 ≤ v ∧ v < ordr p m ∧ fmul p m mod x v = 1) ∨ (v = 0 ∧ ∀ y, 1 ≤ y → y < ordr p m → fmul p m mod x y ≠ 1)
theorem c_Inv04 {p m x : Int} {md : AV} {mod : List Int} {H : AH} {Q : AV → AH → Prop} (hm : Ints H md mod) (rm : Rng p mod) (lm : m ≠ 1 → (mod.length : Int) = m) (hx : 0 ≤ x) (hx' : x < ordr p m)
    (hQ : ∀ v H', Ext H H' → IsInv p m mod x v → Q (.int .i64 v) H') : AC Try.prog 91 [.agg [.int .i64 p, .int .i64 m, md], .int .i64 x] H Q := by
  have ho : ordr p m ≠ 0 := by omega
  obtain ⟨o1, o2, o3, o4, o5⟩ := ordr_pos ho
  refine at91 (by simp) ?_
  simp (disch := first | assumption | omega) only [↓RP, RQ, TY, loadT, s91, reduceIte, Nat.reduceEqDiff, Nat.reduceAdd]
  refine kNew_intro fun b H1 hb hE1 hH1 => ?_
  simp (disch := first | assumption | omega) only [↓RP, RQ, TY, loadT, reduceIte, Nat.reduceEqDiff, Nat.reduceAdd, hH1]
  refine sw_loop (σ := Nat) (fun y e H' => e 5 = .int .i64 y ∧ e 1 = .int .i64 x ∧ e 2 = .ptr b 0 ∧ 1 ≤ y ∧ (y : Int) ≤ ordr p m ∧ H' b = .rw [.int .i64 p, .int .i64 m, md] ∧ Ext H H' ∧ ∀ z : Int, 1 ≤ z → z < y → fmul p m mod x z ≠ 1) (fun y => (ordr p m).toNat - y) 1 ?_ ?_
  · simp (disch := first | assumption | omega) only [↓RP, RQ, TY, loadT, reduceIte, Nat.reduceEqDiff, Nat.reduceAdd]
    exact ⟨rfl, by omega, by omega, hH1, hE1, fun z h1 h2 => by omega⟩
  rintro y e H' ⟨e5, e1, e2, hy, hy', hpb, hE, hz⟩
  simp (disch := first | assumption | omega) only [↓RP, RQ, TY, loadT, reduceIte, Nat.reduceEqDiff, Nat.reduceAdd, e5, e1, e2, hpb]
  refine c_Order fun H2 hE2 => ?_
  have hpb2 := hE2.rw hpb
  have hE12 := hE.trans hE2
  by_cases hlt : (y : Int) < ordr p m
  · simp (disch := first | assumption | omega) only [↓RP, RQ, TY, loadT, reduceIte, Nat.reduceEqDiff, Nat.reduceAdd, e5, e1, e2, hpb2, hlt]
    refine c_Mul04 (hm.ext hE12) rm lm hx hx' (by omega) hlt fun H3 hE3 => ?_
    have hpb3 := hE3.rw hpb2
    by_cases h1 : fmul p m mod x y = 1
    · simp (disch := first | assumption | omega) only [↓RP, RQ, TY, loadT, reduceIte, Nat.reduceEqDiff, Nat.reduceAdd, e5, h1]
      exact hQ _ _ (hE12.trans hE3) (.inl ⟨by omega, hlt, h1⟩)
    · simp (disch := first | assumption | omega) only [↓RP, RQ, TY, loadT, reduceIte, Nat.reduceEqDiff, Nat.reduceAdd, e5, h1]
      refine ⟨y + 1, ?_, by dsimp only; omega⟩
      simp (disch := first | assumption | omega) only [↓RP, RQ, TY, loadT, reduceIte, Nat.reduceEqDiff, Nat.reduceAdd, e5, e1, e2]
      refine ⟨by omega, by omega, hpb3, hE12.trans hE3, fun z h2 h3 => ?_⟩
      by_cases hzy : z = y
      · rw [hzy]; exact h1
      · exact hz z h2 (by omega)
  · simp (disch := first | assumption | omega) only [↓RP, RQ, TY, loadT, reduceIte, Nat.reduceEqDiff, Nat.reduceAdd, e5, e1, e2, hpb2, hlt]
    exact hQ _ _ hE12 (.inr ⟨rfl, fun z h2 h3 => hz z h2 (by omega)⟩)
end Go.Proofs.Yteijojnahpeglaa.AM
