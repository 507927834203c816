/- Helpers. Reduced matrices stay as they are; the kernel's matrix and its ranks (plain law). · The program's matrices, eighth part: Contains, Kernel. · The program's codes, first part: own, of, Dual. · The library's slices.Values and slices.AppendSeq over it (after the kit's worked text on ranges over a function). · The library's slices.AppendSeq, Collect and Values on the abstract machine. · The library's slices.Sort at this program: laid by the kit's tool in plain words. · The library's slices.Sort, Values, Collect and Sorted on the abstract machine. · The law OrderingSteps. · The law OrderingModular. · The program's orderings, third part: Greedy; the greedy order as a list. · The reference's words: Compare, Same; its greedy order. · The program's orderings, fourth part: ordered, width, Width; the reference's IsOrder, Order, Width. · The widths of an order: the program's width and Width, the reference's Width. · The program's trellises: span, ranks, Profile. · The program's codes, second part: New; permuted codes. · Permuted codes: modify.Permute, ordering.Reorder. · The law OrderingWidths. -/
import Derived.Test.YtbkpebmcagdgmaaGreatK6
import Derived.RangeFuncBox
import Derived.RangeFuncWrites
import Derived.RangeFuncLeaves
import Derived.Shelf.Abstract
import Derived.Maps.AppendAt
import Derived.WalkKit
import Derived.OwnWalkIn
import Derived.TacticsInMore
import Derived.LoopNIn
import Derived.LoopIn
import Derived.Test.YtbkpebmcagdgmaaGreatProg
import Derived.Shelf.Sort.Plain
import Derived.Shelf.Slices.In.SortNone
import Derived.Sort.OwnSortedInts
/-! Reduced matrices stay as they are; the kernel's matrix and its ranks (plain law). -/
namespace Go.Proofs.YtbkpebmcagdgmaaGreat.AM
open Go Go.RowKit
set_option linter.unusedVariables false
set_option linter.unusedSimpArgs false
/-- a reduced matrix without zero rows, and its pivots -/
structure Red (n : Nat) (l : List (List Int)) (piv : List Nat) : Prop where
  rect : Rect n l
  len : piv.length = l.length
  lt : ∀ i, i < l.length → piv.getD i 0 < n
  asc : ∀ i j, i < j → j < l.length → piv.getD i 0 < piv.getD j 0
  pv : ∀ i r, i < l.length → r < l.length → ent l r (piv.getD i 0) = if r = i then 1 else 0
  lo : ∀ r j, r < l.length → j < piv.getD r 0 → ent l r j = 0
theorem ent_take {l : List (List Int)} {k i : Nat} (hi : i < k) (j : Nat) : ent (l.take k) i j = ent l i j := by rw [ent, rowAt_take hi]; rfl
section
variable {F : FOps} (h : F.Ok)
theorem elimStep_snd (c : Nat) (s : List (List Int) × List Nat) : (elimStep F c s).2 = s.2 ++ [c] ∨ (elimStep F c s).2 = s.2 := by
  simp only [elimStep]
  split
  · exact .inl rfl
  · exact .inr rfl
include h in
theorem elim_asc {n : Nat} {rows : List (List Int)} (hr : Rect n rows) (he : Els F rows) : ∀ c i j, i < j → j < (elim F rows c).2.length → (elim F rows c).2.getD i 0 < (elim F rows c).2.getD j 0
  | 0 => fun i j h1 h2 => by simp [elim, uptoN] at h2
  | c + 1 => fun i j h1 h2 => by
    have ih := elim_asc hr he c
    have hlt := (elim_inv h hr he c).lt
    rw [elim_succ] at h2 ⊢
    rcases elimStep_snd (F := F) c (elim F rows c) with e | e
    · rw [e] at h2 ⊢
      rw [List.length_append, List.length_singleton] at h2
      rw [getD_app, getD_app, if_pos (show i < (elim F rows c).2.length by omega)]
      by_cases q : j < (elim F rows c).2.length
      · rw [if_pos q]; exact ih i j h1 q
      · rw [if_neg q, if_pos (by omega)]; exact hlt i (by omega)
    · rw [e] at h2 ⊢
      exact ih i j h1 h2
include h in
theorem canon_red {n : Nat} {rows : List (List Int)} (hr : Rect n rows) (he : Els F rows) : Red n (canon F rows n).1 (canon F rows n).2 := by
  have inv := elim_inv h hr he n
  have hl : (canon F rows n).1.length = (elim F rows n).2.length := by
    rw [canon, List.length_take]
    have := inv.le
    omega
  have e2 : (canon F rows n).2 = (elim F rows n).2 := rfl
  have e1 : ∀ i j, i < (elim F rows n).2.length → ent (canon F rows n).1 i j = ent (elim F rows n).1 i j := fun i j hi => ent_take hi j
  refine ⟨fun i hi => ?_, by rw [hl, e2], fun i hi => ?_, fun i j h1 h2 => ?_, fun i r h1 h2 => ?_, fun r j h1 h2 => ?_⟩
  · rw [hl] at hi
    have := inv.le
    rw [canon, rowAt_take hi]
    exact inv.rect i (by omega)
  · rw [e2]; exact inv.lt i (by omega)
  · rw [e2]; exact elim_asc h hr he n i j h1 (by omega)
  · rw [e2, e1 r _ (by omega)]; exact inv.pv i r (by omega)
  · rw [e1 r _ (by omega)]; exact inv.lo r j (by omega) (by rw [← e2]; exact h2)
include h in
theorem canon_els {n : Nat} {rows : List (List Int)} (hr : Rect n rows) (he : Els F rows) : Els F (canon F rows n).1 := fun i j => by
  by_cases hi : i < (elim F rows n).2.length
  · have : ent (canon F rows n).1 i j = ent (elim F rows n).1 i j := ent_take hi j
    rw [this]
    exact (elim_inv h hr he n).els i j
  · rw [ent_ge j (by rw [canon, List.length_take]; omega)]
    exact h.el0
theorem set_rowAt {l : List (List Int)} {k : Nat} (hk : k < l.length) : l.set k (rowAt l k) = l := by
  refine List.ext_getElem (by simp) fun i h1 h2 => ?_
  rw [List.getElem_set]
  split
  · rename_i q
    subst q
    simp [rowAt, List.getD_eq_getElem?_getD, h2]
  · rfl
theorem tab_rowAt (l : List (List Int)) : tabN l.length (rowAt l) = l := by
  refine List.ext_getElem (by rw [tabN_length]) fun i h1 h2 => ?_
  simp [tabN, rowAt, List.getD_eq_getElem?_getD, h2]
theorem tabN_congr {α : Type} {n : Nat} {f g : Nat → α} (h : ∀ i, i < n → f i = g i) : tabN n f = tabN n g := List.map_congr_left fun i hi => h i (List.mem_range.mp hi)
theorem red_elim {n : Nat} {l : List (List Int)} {piv : List Nat} (hR : Red n l piv) : ∀ c, ∃ k, k ≤ l.length ∧ elim F l c = (l, piv.take k) ∧ (∀ i, i < k → piv.getD i 0 < c) ∧ ∀ i, k ≤ i → i < l.length → c ≤ piv.getD i 0
  | 0 => ⟨0, Nat.zero_le _, rfl, fun i hi => by omega, fun i _ _ => Nat.zero_le _⟩
  | c + 1 => by
    obtain ⟨k, h1, h2, h3, h4⟩ := red_elim hR c
    have hlen : (piv.take k).length = k := by rw [List.length_take, hR.len]; omega
    rw [elim_succ, h2]
    by_cases hc : k < l.length ∧ piv.getD k 0 = c
    · obtain ⟨hk, hc⟩ := hc
      have one : ent l k c = 1 := by rw [← hc, hR.pv k k hk hk, if_pos rfl]
      have hz : ∀ i, i < l.length → i ≠ k → ent l i c = 0 := fun i hi hne => by rw [← hc, hR.pv k i hk hi, if_neg hne]
      have hf : firstNZ l c (l.length - k) k = k := firstNZ_eq k (Nat.le_refl _) (fun i h1 h2 => by omega) (fun _ => by omega) (by omega)
      have hs : swapL l k k = l := by rw [swapL, set_rowAt hk, set_rowAt hk]
      have hu : unitL F c k l = l := by rw [unitL, if_neg (by simpa using one)]
      have hcl : clearL F c k l = l := by
        rw [clearL]
        refine (tabN_congr fun i hi => ?_).trans (tab_rowAt l)
        rw [clearRow, if_neg (fun q => q.2 (hz i hi q.1))]
      refine ⟨k + 1, by omega, ?_, fun i hi => ?_, fun i hi hi' => ?_⟩
      · simp only [elimStep, hlen, hf]
        rw [if_pos hk, hs, hu, hcl, ← hc, take_push 0 (by rw [hR.len]; exact hk)]
      · by_cases q : i = k
        · rw [q, hc]; omega
        · have := h3 i (by omega); omega
      · have := hR.asc k i (by omega) hi'
        omega
    · have hgt : ∀ i, k ≤ i → i < l.length → c < piv.getD i 0 := fun i hi hi' => by
        have a1 := h4 k (Nat.le_refl _) (by omega)
        have a2 : piv.getD k 0 ≠ c := fun q => hc ⟨by omega, q⟩
        by_cases q : i = k
        · rw [q]; omega
        · have := hR.asc k i (by omega) hi'
          omega
      have hf : firstNZ l c (l.length - k) k = l.length := firstNZ_eq l.length h1 (fun i h5 h6 => hR.lo i c h6 (hgt i h5 h6)) (fun q => by omega) (Nat.le_refl _)
      refine ⟨k, h1, ?_, fun i hi => by have := h3 i hi; omega, fun i hi hi' => hgt i hi hi'⟩
      simp only [elimStep, hlen, hf]
      rw [if_neg (by omega)]
theorem red_canon {n : Nat} {l : List (List Int)} {piv : List Nat} (hR : Red n l piv) : canon F l n = (l, piv) := by
  obtain ⟨k, h1, h2, h3, h4⟩ := red_elim (F := F) hR n
  have hk : k = l.length := by
    by_cases q : k < l.length
    · have a1 := h4 k (Nat.le_refl _) q
      have a2 := hR.lt k q
      omega
    · omega
  have hp : piv.take k = piv := List.take_of_length_le (by rw [hR.len]; omega)
  rw [canon, h2, hp, hR.len, List.take_length]
include h in
theorem canon_idem {n : Nat} {rows : List (List Int)} (hr : Rect n rows) (he : Els F rows) : canon F (canon F rows n).1 n = canon F rows n := red_canon (canon_red h hr he)
/-- the same relations, the same ranks -/
theorem rk_same {V V' : Nat → Vc F.K} (hs : SameRel h V V') : letI := h.fd; ∀ (l : List Nat) (S : Nat → Prop), (clo V).rk S l = (clo V').rk S l := by
  letI := h.fd
  intro l
  induction l with
  | nil => exact fun S => rfl
  | cons x l ih =>
    intro S
    rw [Clo.rk_cons, Clo.rk_cons, ih]
    congr 1
    have this : (clo V).cl S x ↔ (clo V').cl S x := hs S x
    by_cases q : (clo V).cl S x
    · rw [if_pos q, if_pos (this.mp q)]
    · rw [if_neg q, if_neg (fun w => q (this.mpr w))]
theorem canon_rel {n : Nat} {rows : List (List Int)} (hr : Rect n rows) (he : Els F rows) : SameRel h (colV h rows) (colV h (canon F rows n).1) := by
  have inv := elim_inv h hr he n
  have e : colV h (canon F rows n).1 = colV h (elim F rows n).1 := funext fun j => funext fun i => by
    show h.k _ = h.k _
    congr 1
    by_cases hi : i < (elim F rows n).2.length
    · exact ent_take hi j
    · rw [ent_ge j (by rw [canon, List.length_take]; omega)]
      by_cases hj : j < n
      · rw [inv.hi i j (by omega) hj]
      · rw [ent_col inv.rect i (by omega)]
  rw [e]
  exact inv.rel
/-- the positions that are no pivots -/
def freeN (piv : List Nat) (n : Nat) : List Nat := (List.range n).filter fun c => !piv.contains c
/-- the word of the kernel that is 1 at c and 0 at the other positions that are no pivots -/
def freeRow (F : FOps) (l : List (List Int)) (piv : List Nat) (n c : Nat) : List Int := tabN n fun j => if j ∈ piv then F.neg (ent l (piv.idxOf j) c) else if j = c then 1 else 0
def freeL (F : FOps) (l : List (List Int)) (piv : List Nat) (n : Nat) : List (List Int) := (freeN piv n).map (freeRow F l piv n)
/-- the kernel's matrix -/
def kerL (F : FOps) (rows : List (List Int)) (n : Nat) : List (List Int) := (canon F (freeL F (canon F rows n).1 (canon F rows n).2 n) n).1
theorem mem_freeN {piv : List Nat} {n c : Nat} : c ∈ freeN piv n ↔ c < n ∧ c ∉ piv := by simp [freeN]
theorem freeN_nodup (piv : List Nat) (n : Nat) : (freeN piv n).Nodup := List.Nodup.sublist List.filter_sublist List.nodup_range
theorem idx_get {l : List Nat} {j : Nat} (hj : j ∈ l) : l.idxOf j < l.length ∧ l.getD (l.idxOf j) 0 = j := by
  have h1 := List.idxOf_lt_length_iff.mpr hj
  exact ⟨h1, by rw [List.getD_eq_getElem?_getD, List.getElem?_eq_getElem h1, Option.getD_some, List.getElem_idxOf h1]⟩
theorem idx_of {l : List Nat} (hd : l.Nodup) {i : Nat} (hi : i < l.length) : l.idxOf (l.getD i 0) = i := by
  have hm : l.getD i 0 ∈ l := by
    rw [List.getD_eq_getElem?_getD, List.getElem?_eq_getElem hi, Option.getD_some]
    exact List.getElem_mem hi
  obtain ⟨h1, h2⟩ := idx_get hm
  generalize l.idxOf (l.getD i 0) = k at h1 h2 ⊢
  rw [List.Nodup, List.pairwise_iff_getElem] at hd
  rw [List.getD_eq_getElem?_getD, List.getElem?_eq_getElem h1, Option.getD_some, List.getD_eq_getElem?_getD, List.getElem?_eq_getElem hi, Option.getD_some] at h2
  rcases Nat.lt_trichotomy k i with q | q | q
  · exact absurd h2 (hd _ _ h1 hi q)
  · exact q
  · exact absurd h2.symm (hd _ _ hi h1 q)
theorem Red.nodup {n : Nat} {l : List (List Int)} {piv : List Nat} (hR : Red n l piv) : piv.Nodup := by
  rw [List.Nodup, List.pairwise_iff_getElem]
  intro i j hi hj hij q
  have h1 := hR.len
  have := hR.asc i j hij (by omega)
  simp only [List.getD_eq_getElem?_getD, List.getElem?_eq_getElem hi, List.getElem?_eq_getElem hj, Option.getD_some] at this
  omega
theorem Red.mem_lt {n : Nat} {l : List (List Int)} {piv : List Nat} (hR : Red n l piv) {j : Nat} (hj : j ∈ piv) : j < n := by
  obtain ⟨h1, h2⟩ := idx_get hj
  have := hR.lt (piv.idxOf j) (by rw [← hR.len]; exact h1)
  omega
theorem Red.free_len {n : Nat} {l : List (List Int)} {piv : List Nat} (hR : Red n l piv) : (freeN piv n).length + l.length = n := by
  have h1 := filter_len n piv.contains
  have h2 : ((List.range n).filter piv.contains).Perm piv := (List.perm_ext_iff_of_nodup (filter_nodup _ _) hR.nodup).mpr fun a => by
    simp only [List.mem_filter, List.mem_range, List.contains_iff_mem]
    exact ⟨fun q => q.2, fun q => ⟨hR.mem_lt q, q⟩⟩
  have h3 := h2.length_eq
  have h4 := hR.len
  have e : freeN piv n = (List.range n).filter fun i => !piv.contains i := rfl
  rw [e]
  omega
theorem rowAt_mapN {f : Nat → List Int} {l : List Nat} {i : Nat} (h : i < l.length) : rowAt (l.map f) i = f (l.getD i 0) := by
  simp [rowAt, List.getD_eq_getElem?_getD, h]
theorem free_rect (l : List (List Int)) (piv : List Nat) (n : Nat) : Rect n (freeL F l piv n) := fun i hi => by
  rw [freeL, List.length_map] at hi
  rw [freeL, rowAt_mapN hi, freeRow, tabN_length]
theorem free_ent {l : List (List Int)} {piv : List Nat} {n i j : Nat} (hi : i < (freeN piv n).length) (hj : j < n) : ent (freeL F l piv n) i j = if j ∈ piv then F.neg (ent l (piv.idxOf j) ((freeN piv n).getD i 0)) else if j = (freeN piv n).getD i 0 then 1 else 0 := by
  rw [ent, freeL, rowAt_mapN hi, freeRow, tabN_getD _ hj]
include h in
theorem free_els {l : List (List Int)} (he : Els F l) (piv : List Nat) (n : Nat) : Els F (freeL F l piv n) := fun i j => by
  by_cases hj : j < n
  · by_cases hi : i < (freeN piv n).length
    · rw [free_ent hi hj]
      split
      · exact h.neg_el (he _ _)
      · split
        · exact h.el1
        · exact h.el0
    · rw [ent_ge j (by rw [freeL, List.length_map]; omega)]; exact h.el0
  · rw [ent_col (free_rect l piv n) i (by omega)]; exact h.el0
open Classical in
theorem free_std {n : Nat} {l : List (List Int)} {piv : List Nat} (hR : Red n l piv) (he : Els F l) : letI := h.fd; Std (colV h l) (colV h (freeL F l piv n)) n (fun j => j ∈ piv) (fun j => if j ∈ piv then piv.idxOf j else (freeN piv n).idxOf j) := by
  letI := h.fd
  have ku : ∀ (p : Prop) [Decidable p], h.k (if p then 1 else 0) = if p then Fd.u else Fd.z := fun p _ => by
    split
    · exact h.k_one
    · exact h.k_zero
  have hl := hR.len
  refine ⟨fun j hj hp r => ?_, fun j hj hn r => ?_, fun j c hj hc hp hn => ?_, fun j k hj hk hp hq e => ?_, fun j k hj hk hp hq e => ?_⟩
  · obtain ⟨h1, h2⟩ := idx_get hp
    rw [if_pos hp]
    show h.k (ent l r j) = _
    by_cases hr : r < l.length
    · have := hR.pv (piv.idxOf j) r (by omega) hr
      rw [h2] at this
      rw [this, ku]
    · rw [ent_ge j (by omega), if_neg (by omega), h.k_zero]
  · obtain ⟨h1, h2⟩ := idx_get (mem_freeN.mpr ⟨hj, hn⟩)
    rw [if_neg hn]
    show h.k (ent _ r j) = _
    by_cases hr : r < (freeN piv n).length
    · rw [free_ent hr hj, if_neg hn, ku]
      by_cases q : r = (freeN piv n).idxOf j
      · rw [if_pos q, if_pos (by rw [q]; exact h2.symm)]
      · rw [if_neg q, if_neg (fun w => q (by rw [w, idx_of (freeN_nodup _ _) hr]))]
    · rw [ent_ge j (by rw [freeL, List.length_map]; omega), if_neg (by omega), h.k_zero]
  · obtain ⟨h1, h2⟩ := idx_get (mem_freeN.mpr ⟨hc, hn⟩)
    rw [if_pos hp, if_neg hn]
    show h.k (ent _ _ j) = Fd.neg (h.k (ent l _ c))
    rw [free_ent h1 hj, if_pos hp, h2, h.k_neg (he _ _)]
  · rw [if_pos hp, if_pos hq] at e
    rw [← (idx_get hp).2, ← (idx_get hq).2, e]
  · rw [if_neg hp, if_neg hq] at e
    rw [← (idx_get (mem_freeN.mpr ⟨hj, hp⟩)).2, ← (idx_get (mem_freeN.mpr ⟨hk, hq⟩)).2, e]
end
section
variable {p m : Int} {mod : List Int} (h : (fF p m mod).Ok)
/-- the ranks of a reduced matrix and of its kernel -/
theorem ker_R {n : Nat} {rows : List (List Int)} (he : Els (fF p m mod) rows) (hr : Rect n rows) (hc : (canon (fF p m mod) rows n).1 = rows) (s : Nat → Bool) : letI := h.fd;
    (clo (colV h (kerL (fF p m mod) rows n))).R n s + rows.length = ((List.range n).filter s).length + (clo (colV h rows)).R n (fun i => !s i) := by
  letI := h.fd
  have hR := canon_red h hr he
  rw [hc] at hR
  have hfl := hR.free_len
  have fe := free_els h he (canon (fF p m mod) rows n).2 n
  have fr := free_rect (F := fF p m mod) rows (canon (fF p m mod) rows n).2 n
  have hst := free_std h hR he
  have e : (clo (colV h (kerL (fF p m mod) rows n))).R n s = (clo (colV h (freeL (fF p m mod) rows (canon (fF p m mod) rows n).2 n))).R n s := by
    rw [kerL, hc]
    exact (rk_same h (canon_rel h fr fe) _ _).symm
  rw [e]
  refine hst.R_dual (R_le_rows h he _) ?_ s
  have := R_le_rows h (n := n) fe (fun _ => true)
  rw [show (freeL (fF p m mod) rows (canon (fF p m mod) rows n).2 n).length = (freeN (canon (fF p m mod) rows n).2 n).length from List.length_map _] at this
  omega
include h in
theorem ker_red {n : Nat} {rows : List (List Int)} (he : Els (fF p m mod) rows) (hr : Rect n rows) : Red n (kerL (fF p m mod) rows n) (canon (fF p m mod) (freeL (fF p m mod) (canon (fF p m mod) rows n).1 (canon (fF p m mod) rows n).2 n) n).2 :=
  canon_red h (free_rect _ _ _) (free_els h (canon_els h hr he) _ _)
include h in
theorem ker_els {n : Nat} {rows : List (List Int)} (he : Els (fF p m mod) rows) (hr : Rect n rows) : Els (fF p m mod) (kerL (fF p m mod) rows n) := canon_els h (free_rect _ _ _) (free_els h (canon_els h hr he) _ _)
/-- a reduced matrix has the rank of its rows -/
theorem red_R {n : Nat} {l : List (List Int)} {piv : List Nat} (hR : Red n l piv) (he : Els (fF p m mod) l) : letI := h.fd; (clo (colV h l)).R n (fun _ => true) = l.length := by
  letI := h.fd
  have inv := elim_inv h hR.rect he n
  have e := red_canon (F := fF p m mod) hR
  have e2 : (elim (fF p m mod) l n).2 = piv := congrArg Prod.snd e
  have := inv.rk
  rw [e2, hR.len] at this
  rw [Clo.R, List.filter_eq_self.mpr (fun _ _ => rfl)]
  exact this.symm
theorem R_none {n : Nat} {l : List (List Int)} : letI := h.fd; (clo (colV h l)).R n (fun _ => false) = 0 := by
  letI := h.fd
  have := (clo (colV h l)).R_le n (fun _ => false)
  have e : (List.range n).filter (fun _ => false) = [] := List.filter_eq_nil_iff.mpr fun _ _ => by simp
  rw [e] at this
  simpa using this
include h in
theorem ker_len {n : Nat} {rows : List (List Int)} (he : Els (fF p m mod) rows) (hr : Rect n rows) (hc : (canon (fF p m mod) rows n).1 = rows) : (kerL (fF p m mod) rows n).length + rows.length = n := by
  letI := h.fd
  have h1 := ker_R h he hr hc (fun _ => true)
  rw [red_R h (ker_red h he hr) (ker_els h he hr), List.filter_eq_self.mpr (fun _ _ => rfl)] at h1
  have h2 := R_none h (n := n) (l := rows)
  simp only [Bool.not_true, List.length_range] at h1
  omega
include h in
/-- the dimensions of the dual code -/
theorem ker_dim {n : Int} (hn : 0 ≤ n) {rows : List (List Int)} (he : Els (fF p m mod) rows) (hr : Rect n.toNat rows) (hc : (canon (fF p m mod) rows n.toNat).1 = rows) (s : Nat → Bool) :
    dimP p m mod n (kerL (fF p m mod) rows n.toNat) s = dimP p m mod n rows s := by
  letI := h.fd
  have h1 := ker_R h he hr hc s
  have h2 := ker_R h he hr hc (fun i => !s i)
  have h3 := ker_len h he hr hc
  have h4 := filter_len n.toNat s
  have e : (fun i => !(!s i)) = s := funext fun i => by cases s i <;> rfl
  rw [e] at h2
  rw [dimP, dimP, rankP_R h he, rankP_R h he, rankP_R h (ker_els h he hr), rankP_R h (ker_els h he hr)]
  omega
theorem matErr_ok {cols : Int} {rows : List (List Int)} (hF : FieldOk p m mod) (h0 : 0 ≤ cols) (h1 : cols ≤ 256) (h2 : rows.length ≤ 256) (hr : Rect cols.toNat rows) (he : Els (fF p m mod) rows) : matErr p m mod cols rows = 0 := by
  rw [matErr, if_neg (by simpa using hF), if_neg, if_neg]
  · rintro ⟨i, hi, hn⟩
    exact hn fun j hj => he i j
  · rintro (q | q | q | ⟨i, hi, hn⟩)
    · omega
    · omega
    · omega
    · exact hn (by rw [hr i hi]; omega)
theorem code_mk {n : Int} {rows : List (List Int)} (hF : FieldOk p m mod) (h0 : 1 ≤ n) (h1 : n ≤ 64) (h2 : rows.length ≤ 256) (hr : Rect n.toNat rows) (he : Els (fF p m mod) rows) (hc : (canon (fF p m mod) rows n.toNat).1 = rows) : codeErr p m mod n rows = 0 := by
  rw [codeErr, if_neg (by simpa using hF), if_neg (by omega), spcErr, if_neg (by simpa using matErr_ok hF (by omega) (by omega) h2 hr he), if_pos hc]
theorem code_canon {n : Int} {rows : List (List Int)} (h0 : codeErr p m mod n rows = 0) : (canon (fF p m mod) rows n.toNat).1 = rows := by
  rw [codeErr] at h0
  split at h0
  · cases h0
  split at h0
  · cases h0
  rw [spcErr] at h0
  split at h0
  · contradiction
  split at h0
  · assumption
  · cases h0
end
end Go.Proofs.YtbkpebmcagdgmaaGreat.AM
/-! The program's matrices, eighth part: Contains, Kernel. -/
namespace Go.Proofs.YtbkpebmcagdgmaaGreat.AM
open Go Go.RowKit
set_option linter.unusedVariables false
set_option linter.unusedSimpArgs false
set_option maxRecDepth 20000
/-- the first index of an entry, or -1 -/
def ixI (x : Int) (xs : List Int) : Int := if xs.contains x = true then (xs.idxOf x : Int) else -1
theorem idxI_eq : ∀ {xs : List Int} {x : Int} {i : Nat}, i < xs.length → xs.getD i 0 = x → (∀ j, j < i → xs.getD j 0 ≠ x) → xs.idxOf x = i
  | [], x, i, h, _, _ => by simp at h
  | a :: xs, x, 0, h, h1, h2 => by
    have : a = x := by simpa using h1
    rw [this, List.idxOf_cons_self]
  | a :: xs, x, i + 1, h, h1, h2 => by
    have h0 : a ≠ x := by simpa using h2 0 (by omega)
    have ih := idxI_eq (xs := xs) (x := x) (i := i) (by simpa using h) (by simpa using h1) (fun j hj => by simpa using h2 (j + 1) (by omega))
    have hb : (a == x) = false := by simpa using h0
    rw [List.idxOf_cons, hb, ih]
    rfl
theorem ixI_hit {xs : List Int} {x : Int} {i : Nat} (h : i < xs.length) (h1 : xs.getD i 0 = x) (h2 : ∀ j, j < i → xs.getD j 0 ≠ x) : ixI x xs = i := by
  have hm : x ∈ xs := by
    rw [← h1, List.getD_eq_getElem?_getD, List.getElem?_eq_getElem h, Option.getD_some]
    exact List.getElem_mem h
  rw [ixI, if_pos (List.contains_iff_mem.mpr hm), idxI_eq h h1 h2]
theorem ixI_no {xs : List Int} {x : Int} (h : ∀ j, j < xs.length → xs.getD j 0 ≠ x) : ixI x xs = -1 := by
  rw [ixI, if_neg]
  intro q
  obtain ⟨i, hi, e⟩ := List.getElem_of_mem (List.contains_iff_mem.mp q)
  have := h i hi
  rw [List.getD_eq_getElem?_getD, List.getElem?_eq_getElem hi, Option.getD_some] at this
  exact this e
theorem c_Index {v : AV} {xs : List Int} {x : Int} {H : AH} {Q : AV → AH → Prop} (hv : Ints H v xs) (hl : xs.length ≤ 9223372036854775807) (hQ : Q (.int .i64 (ixI x xs)) H) : AC Tryz.prog 83 [v, .int .i64 x] H Q := by
  refine at83 (by simp) ?_
  simp (disch := first | assumption | omega) only [↓RP, RQ, TY, loadT, s83, reduceIte, Nat.reduceEqDiff, Nat.reduceAdd, hv.ints]
  refine sw_loop (σ := Nat) (fun i e H' => e 8 = .int .i64 i ∧ e 7 = .int .i64 xs.length ∧ e 0 = v ∧ e 1 = .int .i64 x ∧ i ≤ xs.length ∧ H' = H ∧ ∀ j, j < i → xs.getD j 0 ≠ x) (fun i => xs.length - i) 0 ?_ ?_
  · simp (disch := first | assumption | omega) only [↓RP, RQ, TY, loadT, reduceIte, Nat.reduceEqDiff, Nat.reduceAdd]
    exact ⟨by omega, fun j hj => by omega⟩
  rintro i e H' ⟨e8, e7, e0, e1, hi, rfl, hj⟩
  by_cases hlt : (i : Int) < xs.length
  · by_cases hx : x = xs.getD i 0
    · simp (disch := first | assumption | omega) only [↓RP, RQ, TY, loadT, reduceIte, Nat.reduceEqDiff, Nat.reduceAdd, e8, e7, e0, e1, hlt, hv.ints, eq_true hx]
      rwa [ixI_hit (by omega) hx.symm hj] at hQ
    · simp (disch := first | assumption | omega) only [↓RP, RQ, TY, loadT, reduceIte, Nat.reduceEqDiff, Nat.reduceAdd, e8, e7, e0, e1, hlt, hv.ints, eq_false hx]
      refine ⟨i + 1, ?_, by dsimp only; omega⟩
      simp (disch := first | assumption | omega) only [↓RP, RQ, TY, loadT, reduceIte, Nat.reduceEqDiff, Nat.reduceAdd, e8, e7, e0, e1]
      refine ⟨by omega, fun j h => ?_⟩
      by_cases hji : j = i
      · rw [hji]; exact fun q => hx q.symm
      · exact hj j (by omega)
  · simp (disch := first | assumption | omega) only [↓RP, RQ, TY, loadT, reduceIte, Nat.reduceEqDiff, Nat.reduceAdd, e8, e7, e0, e1, hlt]
    rwa [ixI_no (fun j h => hj j (by omega))] at hQ
theorem ixI_ge {x : Int} {xs : List Int} : (0 ≤ ixI x xs) ↔ xs.contains x = true := by
  rw [ixI]
  by_cases q : xs.contains x = true
  · rw [if_pos q]; exact ⟨fun _ => q, fun _ => by omega⟩
  · rw [if_neg q]; exact ⟨fun w => by omega, fun w => absurd w q⟩
theorem c_Contains {v : AV} {xs : List Int} {x : Int} {H : AH} {Q : AV → AH → Prop} (hv : Ints H v xs) (hl : xs.length ≤ 9223372036854775807) (hQ : Q (.bool (xs.contains x)) H) : AC Tryz.prog 84 [v, .int .i64 x] H Q := by
  refine at84 (by simp) ?_
  simp (disch := first | assumption | omega) only [↓RP, RQ, TY, loadT, s84, reduceIte, Nat.reduceEqDiff, Nat.reduceAdd]
  refine c_Index hv hl ?_
  by_cases q : xs.contains x = true
  · have := ixI_ge.mpr q
    rw [q] at hQ
    simp (disch := first | assumption | omega) only [↓RP, RQ, TY, loadT, reduceIte, Nat.reduceEqDiff, Nat.reduceAdd, this]
    exact hQ
  · have : ¬ 0 ≤ ixI x xs := fun w => q (ixI_ge.mp w)
    rw [Bool.eq_false_iff.mpr q] at hQ
    simp (disch := first | assumption | omega) only [↓RP, RQ, TY, loadT, reduceIte, Nat.reduceEqDiff, Nat.reduceAdd, this]
    exact hQ
theorem natsI_contains {l : List Nat} {c : Nat} : (natsI l).contains (c : Int) = l.contains c := by
  rw [Bool.eq_iff_iff]
  simp only [List.contains_iff_mem, natsI, List.mem_map]
  exact ⟨fun ⟨a, h, e⟩ => by rwa [show a = c by omega] at h, fun h => ⟨c, h, rfl⟩⟩
theorem natsI_gd {l : List Nat} {i : Nat} : (natsI l).getD i 0 = (l.getD i 0 : Nat) := by
  rw [List.getD_eq_getElem?_getD, List.getD_eq_getElem?_getD, natsI, List.getElem?_map]
  cases l[i]? <;> rfl
/-- the first rows of the kernel's words -/
def freeP (F : FOps) (l : List (List Int)) (piv : List Nat) (n c : Nat) : List (List Int) := ((List.range c).filter fun c => !piv.contains c).map (freeRow F l piv n)
theorem freeP_succ {F : FOps} {l : List (List Int)} {piv : List Nat} {n c : Nat} : freeP F l piv n (c + 1) = freeP F l piv n c ++ if piv.contains c = true then [] else [freeRow F l piv n c] := by
  rw [freeP, freeP, List.range_succ, List.filter_append, List.map_append]
  congr 1
  rw [List.filter_cons]
  cases h : piv.contains c
  · simp only [Bool.not_false, if_true, List.filter_nil, List.map_cons, List.map_nil, Bool.false_eq_true, if_false]
  · simp only [Bool.not_true, if_true, List.filter_nil, List.map_nil, Bool.false_eq_true, if_false]
theorem lst_tab {L : List Int} {M : Nat} {f : Nat → Int} (hl : L.length = M) (h : ∀ j, j < M → L.getD j 0 = f j) : L = tabN M f := by
  refine List.ext_getElem (by rw [hl, tabN_length]) fun i h1 h2 => ?_
  have := h i (by omega)
  rw [List.getD_eq_getElem?_getD, List.getElem?_eq_getElem h1, Option.getD_some] at this
  rw [this]
  simp [tabN]
theorem freeP_len {F : FOps} {l : List (List Int)} {piv : List Nat} {n c : Nat} : (freeP F l piv n c).length ≤ c := by
  rw [freeP, List.length_map]
  have := List.length_filter_le (fun c => !piv.contains c) (List.range c)
  simpa using this
theorem mem_take_get {l : List Nat} {t j : Nat} (ht : t < l.length) : (j ∈ l.take (t + 1)) ↔ (j ∈ l.take t ∨ j = l.getD t 0) := by
  rw [← take_push 0 ht, List.mem_append, List.mem_singleton]
set_option maxHeartbeats 2000000 in
theorem c_Kernel (A : Alg) {p m cols : Int} {md v : AV} {mod : List Int} {us : List AV} {rows : List (List Int)} {H : AH} {Q : AV → AH → Prop} (hm : Ints H md mod) (hlm : mod.length ≤ 9223372036854775807) (hv : Rows H v us rows) (hl : rows.length ≤ 9223372036854775807) (hlr : ∀ i, i < rows.length → (rowAt rows i).length ≤ 9223372036854775807)
    (hQ1 : ∀ lv us' H', Ext H H' → matErr p m mod cols rows = 0 → Rows H' lv us' (kerL (fF p m mod) rows cols.toNat) → OffH H lv → (∀ u, u ∈ us' → OffH H u) → Q (.tup [.agg [.int .i64 cols, lv], .int .i64 0]) H')
    (hQ0 : ∀ H', Ext H H' → matErr p m mod cols rows ≠ 0 → Q (.tup [.agg [.int .i64 0, .nils], .int .i64 (matErr p m mod cols rows)]) H') :
    AC Tryz.prog 97 [.agg [.int .i64 p, .int .i64 m, md], .agg [.int .i64 cols, v]] H Q := by
  have hsl := isSl_one hv.sl.isSl
  refine at97 (by simp) ?_
  simp (disch := first | assumption | omega) only [↓RP, RQ, TY, loadT, s97, reduceIte, Nat.reduceEqDiff, Nat.reduceAdd]
  refine kNew_intro fun b1 H1 hb1 hE1 hH1 => ?_
  simp (disch := first | assumption | omega) only [↓RP, RQ, TY, loadT, reduceIte, Nat.reduceEqDiff, Nat.reduceAdd]
  refine kNew_intro fun b2 H2 hb2 hE2 hH2 => ?_
  simp (disch := first | assumption | omega) only [↓RP, RQ, TY, loadT, reduceIte, Nat.reduceEqDiff, Nat.reduceAdd]
  refine kNew_intro fun b3 H3 hb3 hE3 hH3 => ?_
  have h13 := hE3.rw (hE2.rw hH1)
  have h23 := hE3.rw hH2
  have hE03 := (hE1.trans hE2).trans hE3
  have f3 := (hE1.trans hE2).free hb3
  simp (disch := first | assumption | omega) only [↓RP, RQ, TY, loadT, reduceIte, Nat.reduceEqDiff, Nat.reduceAdd, h13, h23, u_buildS1M]
  refine kNew_intro fun b4 H4 hb4 hE4 hH4 => ?_
  have hE04 := hE03.trans hE4
  simp (disch := first | assumption | omega) only [↓RP, RQ, TY, loadT, reduceIte, Nat.reduceEqDiff, Nat.reduceAdd]
  refine c_openP A.gi (hm.ext hE04) hlm hH4 (hv.ext hE04) hl hlr (fun bg H5 hE5 he hg => ?_) (fun H5 hE5 he => ?_)
  rotate_left
  · have h35 := hE5.rw (hE4.rw hH3)
    simp (disch := first | assumption | omega) only [↓RP, RQ, TY, loadT, reduceIte, Nat.reduceEqDiff, Nat.reduceAdd, eq_false he, h35, u_fill0, u_st2 (x := .int .i64 0) (y := .nils) h35 rfl rfl, aRes, aResL, aRes1, Option.map_some]
    exact hQ0 _ ((hE04.trans hE5).upd f3 _) he
  obtain ⟨o1, o2, o3, o4, o5, o6⟩ := mat_ok he
  have h25 := hE5.rw (hE4.rw h23)
  have h35 := hE5.rw (hE4.rw hH3)
  have hE05 := hE04.trans hE5
  obtain ⟨n, rfl⟩ : ∃ c : Nat, cols = c := ⟨cols.toNat, by omega⟩
  rw [Int.toNat_natCast] at o5 hQ1
  simp (disch := first | assumption | omega) only [↓RP, RQ, TY, loadT, reduceIte, Nat.reduceEqDiff, Nat.reduceAdd, Int.reduceEq, Int.reduceNe, h25]
  refine c_canonP A hg o1 (hv.ext hE05) o5 o6 (by omega) (by omega) (Nat.le_refl _) fun lv pv us6 H6 hE6 hr6 hp6 of1 of2 of3 => ?_
  have h26 := hE6.rw h25
  have h36 := hE6.rw h35
  have hE06 := hE05.trans hE6
  have hg6 := hg.ext hE6
  have ok := A.fo _ _ _ o1
  have hR := canon_red ok o5 o6
  have hel := canon_els ok o5 o6
  have hker : kerL (fF p m mod) rows n = (canon (fF p m mod) (freeL (fF p m mod) (canon (fF p m mod) rows n).1 (canon (fF p m mod) rows n).2 n) n).1 := rfl
  generalize hl6 : (canon (fF p m mod) rows n).1 = l at *
  generalize hpv : (canon (fF p m mod) rows n).2 = piv at *
  have hpn := hR.nodup
  have hpl := hR.len
  have hpi := hp6.ints
  rw [natsI_length] at hpi
  have hpk : piv.length ≤ n := by have := hR.free_len; omega
  clear hv of1 of2 of3 hE1 hE2 hE3 hE4 hE5 hH1 hH2 hH3 hH4 hb1 hb2 hb3 hb4 h13 h23 h25 h35
  simp (disch := first | assumption | omega) only [↓RP, RQ, TY, loadT, reduceIte, Nat.reduceEqDiff, Nat.reduceAdd, h26]
  refine sw_loop (σ := Nat × AV × List AV) (fun s e H' => e 37 = .int .i64 s.1 ∧ e 36 = .int .i64 n ∧ e 3 = .ptr b2 0 ∧ e 4 = .ptr b3 0 ∧ e 6 = .ptr bg 0 ∧ e 8 = lv ∧ e 9 = pv ∧ e 10 = s.2.1 ∧ s.1 ≤ n ∧ Ext H6 H' ∧ H' b2 = .rw [.int .i64 n, v] ∧ H' b3 = .rw [.int .i64 0, .nils] ∧ Own H6 H' s.2.1 s.2.2 ∧ RowsB H' s.2.2 (freeP (fF p m mod) l piv n s.1)) (fun s => n - s.1) (0, .nils, []) ?_ ?_
  · simp (disch := first | assumption | omega) only [↓RP, RQ, TY, loadT, reduceIte, Nat.reduceEqDiff, Nat.reduceAdd]
    exact ⟨by omega, Ext.refl _, h26, h36, Own.nils, RowsB.nil⟩
  rintro ⟨c, w, ws⟩ e H7 ⟨e37, e36, e3, e4, e6, e8, e9, e10, hc, hE7, h27, h37, ho, hB⟩
  dsimp only at *
  by_cases hlt : (c : Int) < n
  rotate_left
  · have hcn : c = n := by omega
    subst hcn
    have fl := freeP_len (F := fF p m mod) (l := l) (piv := piv) (n := c) (c := c)
    simp (disch := first | assumption | omega) only [↓RP, RQ, TY, loadT, reduceIte, Nat.reduceEqDiff, Nat.reduceAdd, e37, e36, e3, e4, e6, e8, e9, e10, hlt, h27]
    refine c_canonP A (hg6.ext hE7) o1 (hB.rows ho.sl) (free_rect (F := fF p m mod) l piv c) (free_els ok hel piv c) (by omega) (by omega) (Nat.le_refl _) fun lv2 pv2 us8 H8 hE8 hr8 hp8 of1 of2 of3 => ?_
    have h28 := hE8.rw h27
    have h38 := hE8.rw h37
    have i1 : (AV.int .i64 (c : Int)).one = true := rfl
    have i2 := isSl_one hr8.sl.isSl
    simp (disch := first | assumption | omega) only [↓RP, RQ, TY, loadT, reduceIte, Nat.reduceEqDiff, Nat.reduceAdd, e3, e4, h28, h38, fill_mat hr8.sl.isSl, u_st2 h38 i1 i2, aRes, aResL, aRes1, Option.map_some]
    refine hQ1 _ us8 _ (((hE06.trans hE7).trans hE8).upd f3 _) he ?_ (of1.old (hE06.trans hE7)) (fun u hu => (of2 u hu).old (hE06.trans hE7))
    rw [hker]
    exact hr8.updOff of1 of2 (by rw [h37]; exact fun q => by cases q) _
  have hcn : c < n := by omega
  have hbl := hB.len
  have fl := freeP_len (F := fF p m mod) (l := l) (piv := piv) (n := n) (c := c)
  have hfs := freeP_succ (F := fF p m mod) (l := l) (piv := piv) (n := n) (c := c)
  simp (disch := first | assumption | omega) only [↓RP, RQ, TY, loadT, reduceIte, Nat.reduceEqDiff, Nat.reduceAdd, e37, e36, e3, e4, e6, e8, e9, e10, hlt]
  refine c_Contains (hp6.ext hE7) (by rw [natsI_length]; omega) ?_
  rw [natsI_contains]
  cases hct : piv.contains c
  rotate_left
  · rw [hct, if_pos rfl, List.append_nil] at hfs
    simp (disch := first | assumption | omega) only [↓RP, RQ, TY, loadT, reduceIte, Nat.reduceEqDiff, Nat.reduceAdd, e37, e36, e3, e4, e6, e8, e9, e10]
    refine ⟨(c + 1, w, ws), ?_, by dsimp only; omega⟩
    simp (disch := first | assumption | omega) only [↓RP, RQ, TY, loadT, reduceIte, Nat.reduceEqDiff, Nat.reduceAdd, e37, e36, e3, e4, e6, e8, e9, e10]
    exact ⟨by omega, hE7, h27, h37, ho, by rw [hfs]; exact hB⟩
  rw [hct, if_neg (by simp)] at hfs
  simp (disch := first | assumption | omega) only [↓RP, RQ, TY, loadT, reduceIte, Nat.reduceEqDiff, Nat.reduceAdd, e37, e36, e3, e4, e6, e8, e9, e10, h27, Int.toNat_natCast]
  refine kNew_intro fun bx H8 hbx hE8 hH8 => ?_
  rw [ints_rep] at hH8
  have hil := ints_length (List.replicate n (0 : Int))
  rw [List.length_replicate] at hil
  simp (disch := first | assumption | omega) only [↓RP, RQ, TY, loadT, reduceIte, Nat.reduceEqDiff, Nat.reduceAdd, e37, e36, e3, e4, e6, e8, e9, e10, hH8, ints_set]
  have hE8u := hE8.upd hbx (.rw (ints ((List.replicate n 0).set c 1)))
  have h8u : (H8.upd bx (.rw (ints ((List.replicate n 0).set c 1)))) bx = .rw (ints ((List.replicate n 0).set c 1)) := updEq
  generalize H8.upd bx (.rw (ints ((List.replicate n 0).set c 1))) = H9 at *
  have hp9 := (hp6.ext hE7).ext hE8u
  have hpi9 := hp9.ints
  rw [natsI_length] at hpi9
  simp (disch := first | assumption | omega) only [↓RP, RQ, TY, loadT, reduceIte, Nat.reduceEqDiff, Nat.reduceAdd, hpi9]
  refine sw_loop (σ := Nat × List Int) (fun s e H' => e 51 = .int .i64 s.1 ∧ e 50 = .int .i64 piv.length ∧ e 49 = pv ∧ e 12 = .sl bx 0 n (.own 1) ∧ e 11 = .int .i64 c ∧ e 37 = .int .i64 c ∧ e 36 = .int .i64 n ∧ e 3 = .ptr b2 0 ∧ e 4 = .ptr b3 0 ∧ e 6 = .ptr bg 0 ∧ e 8 = lv ∧ e 9 = pv ∧ e 10 = w ∧ s.1 ≤ piv.length ∧ Ext H7 H' ∧ H' bx = .rw (ints s.2) ∧ s.2.length = n ∧
    ∀ j, j < n → s.2.getD j 0 = if j ∈ piv.take s.1 then (fF p m mod).neg (ent l (piv.idxOf j) c) else if j = c then 1 else 0) (fun s => piv.length - s.1) (0, (List.replicate n 0).set c 1) ?_ ?_
  · simp (disch := first | assumption | omega) only [↓RP, RQ, TY, loadT, reduceIte, Nat.reduceEqDiff, Nat.reduceAdd, e37, e36, e3, e4, e6, e8, e9, e10]
    refine ⟨by omega, hE8u, h8u, by simp, fun j hj => ?_⟩
    rw [getD_setN]
    by_cases q : j = c
    · rw [if_pos ⟨q, by simp; omega⟩]; simp [q]
    · rw [if_neg (fun z => q z.1)]; simp [q, List.getD_eq_getElem?_getD, hj]
  clear h8u hE8u hp9 hpi9
  rintro ⟨t, X⟩ e' H10 ⟨g51, g50, g49, g12, g11, g37, g36, g3, g4, g6, g8, g9, g10, ht, hE10, hX, hXl, hXs⟩
  dsimp only at *
  have hE610 := hE7.trans hE10
  have hiX := ints_length X
  by_cases htl : (t : Int) < piv.length
  · have htp : t < piv.length := by omega
    have hp10 := (hp6.ext hE610).ints
    rw [natsI_length] at hp10
    have hr10 := hr6.ext hE610
    have hrw := (hr10.row t (by omega)).ints
    rw [hR.rect t (by omega)] at hrw
    have hlt10 := hR.lt t (by omega)
    have htl2 : t < l.length := by omega
    have he1 : (rowAt l t).getD c 0 = ent l t c := rfl
    simp (disch := first | assumption | omega) only [↓RP, RQ, TY, loadT, reduceIte, Nat.reduceEqDiff, Nat.reduceAdd, g51, g50, g49, g12, g11, g37, g36, g3, g4, g6, g8, g9, g10, htl, hp10, natsI_gd, hr10.run, hrw, he1]
    refine c_GNeg ((hg6.ext hE610)) (hel t c).1 (hel t c).2 ?_
    simp (disch := first | assumption | omega) only [↓RP, RQ, TY, loadT, reduceIte, Nat.reduceEqDiff, Nat.reduceAdd, g51, g50, g49, g12, g11, g37, g36, g3, g4, g6, g8, g9, g10, hX, ints_set]
    refine ⟨(t + 1, X.set (piv.getD t 0) (fneg p m (ent l t c))), ?_, by dsimp only; omega⟩
    simp (disch := first | assumption | omega) only [↓RP, RQ, TY, loadT, reduceIte, Nat.reduceEqDiff, Nat.reduceAdd, g51, g50, g49, g12, g11, g37, g36, g3, g4, g6, g8, g9, g10]
    refine ⟨by omega, hE10.upd hbx _, by simpa using hXl, fun j hj => ?_⟩
    rw [getD_setN]
    by_cases q : j = piv.getD t 0
    · rw [if_pos ⟨q, by omega⟩, if_pos ((mem_take_get htp).mpr (.inr q)), q, idx_of hpn htp]
      rfl
    · rw [if_neg (fun z => q z.1), hXs j hj]
      by_cases z : j ∈ piv.take t
      · rw [if_pos z, if_pos ((mem_take_get htp).mpr (.inl z))]
      · rw [if_neg z, if_neg (fun y => ((mem_take_get htp).mp y).elim z q)]
  · rw [show t = piv.length by omega, List.take_length] at hXs
    have hXe : X = freeRow (fF p m mod) l piv n c := lst_tab hXl hXs
    have hslx : (AV.sl bx 0 n (.own 1)).isSl = true := rfl
    simp (disch := first | assumption | omega) only [↓RP, RQ, TY, loadT, reduceIte, Nat.reduceEqDiff, Nat.reduceAdd, g51, g50, g49, g12, g11, g37, g36, g3, g4, g6, g8, g9, g10, htl, u_buildS1V]
    refine kNew_intro fun b11 H11 hb11 hE11 hH11 => ?_
    have hE711 := hE10.trans hE11
    have hB11 := hB.ext hE711
    have hs11 : Ints H11 (.sl bx 0 n (.own 1)) X := Sl.own (hE11.rw hX) (by omega)
    simp (disch := first | assumption | omega) only [↓RP, RQ, TY, loadT, reduceIte, Nat.reduceEqDiff, Nat.reduceAdd, g51, g50, g49, g12, g11, g37, g36, g3, g4, g6, g8, g9, g10]
    refine kApp_rows (H0 := H6) (ho.ext hE711) (hE7.trans hE711) (Sl.own hH11 rfl) hB.sl (fun u hu => by rw [List.mem_singleton.mp hu]; rfl) (by simp at hbl ⊢; omega) (by simp at hbl ⊢; omega) fun v12 H12 hE12 ho12 keep5 keep6 => ?_
    simp (disch := first | assumption | omega) only [↓RP, RQ, TY, loadT, reduceIte, Nat.reduceEqDiff, Nat.reduceAdd, g51, g50, g49, g12, g11, g37, g36, g3, g4, g6, g8, g9, g10]
    refine ⟨(c + 1, v12, ws ++ [.sl bx 0 n (.own 1)]), ?_, by dsimp only; omega⟩
    simp (disch := first | assumption | omega) only [↓RP, RQ, TY, loadT, reduceIte, Nat.reduceEqDiff, Nat.reduceAdd, g51, g50, g49, g12, g11, g37, g36, g3, g4, g6, g8, g9, g10]
    refine ⟨by omega, hE12, keep6 b2 _ (hE711.rw h27) ⟨.int .i64 n, by simp, rfl⟩, keep6 b3 _ (hE711.rw h37) ⟨.int .i64 0, by simp, rfl⟩, ho12, ?_⟩
    rw [hfs, ← hXe]
    exact (hB11.keep keep5).push (keep5 _ _ hs11)
end Go.Proofs.YtbkpebmcagdgmaaGreat.AM
/-! The program's codes, first part: own, of, Dual. -/
namespace Go.Proofs.YtbkpebmcagdgmaaGreat.AM
open Go Go.RowKit
set_option linter.unusedVariables false
set_option linter.unusedSimpArgs false
set_option maxRecDepth 20000
theorem u_st3 {P : Program} {K : Kt} {e : Env} {H : AH} {d : Option Nat} {r : Rst} {ds : List Nat} {blk : Nat} {a b c x y z : AV} (h : H blk = .rw [a, b, c]) (hx : x.one = true) (hy : y.one = true) (hz : z.one = true) :
    kStore P ds (some 3) r e H K d (.ptr blk 0) (.agg [x, y, z]) = kRet P ds r e (H.upd blk (.rw [x, y, z])) K d (.tup []) :=
  u_stAgg h rfl (fun v hv => by simp at hv; rcases hv with rfl | rfl | rfl <;> assumption)
theorem u_st5 {P : Program} {K : Kt} {e : Env} {H : AH} {d : Option Nat} {r : Rst} {ds : List Nat} {blk : Nat} {a b c f g x y z w u : AV} (h : H blk = .rw [a, b, c, f, g]) (hx : x.one = true) (hy : y.one = true) (hz : z.one = true) (hw : w.one = true) (hu : u.one = true) :
    kStore P ds (some 5) r e H K d (.ptr blk 0) (.agg [x, y, z, w, u]) = kRet P ds r e (H.upd blk (.rw [x, y, z, w, u])) K d (.tup []) :=
  u_stAgg h rfl (fun v hv => by simp at hv; rcases hv with rfl | rfl | rfl | rfl | rfl <;> assumption)
theorem u_stG3 {P : Program} {K : Kt} {e : Env} {H : AH} {d : Option Nat} {r : Rst} {ds : List Nat} {blk : Nat} {a b c w : AV} (hw : w.one = true) : kSt P ds blk 2 r e H K d w (.rw [a, b, c]) = kRet P ds r e (H.upd blk (.rw [a, b, w])) K d (.tup []) :=
  st_put hw (show 2 < [a, b, c].length by simp)
theorem c_own {p m : Int} {md : AV} {mod : List Int} {H : AH} {Q : AV → AH → Prop} (hm : Ints H md mod) (hl : mod.length ≤ 1000)
    (hQ : ∀ md' H', Ext H H' → Ints H' md' mod → OffH H md' → md'.isSl = true → Q (.agg [.int .i64 p, .int .i64 m, md']) H') : AC Tryz.prog 137 [.agg [.int .i64 p, .int .i64 m, md]] H Q := by
  refine at137 (by simp) ?_
  simp (disch := first | assumption | omega) only [↓RP, RQ, TY, loadT, s137, reduceIte, Nat.reduceEqDiff, Nat.reduceAdd]
  refine kNew_intro fun b1 H1 hb1 hE1 hH1 => ?_
  simp (disch := first | assumption | omega) only [↓RP, RQ, TY, loadT, reduceIte, Nat.reduceEqDiff, Nat.reduceAdd]
  refine kNew_intro fun b2 H2 hb2 hE2 hH2 => ?_
  have hE12 := hE1.trans hE2
  simp (disch := first | assumption | omega) only [↓RP, RQ, TY, loadT, reduceIte, Nat.reduceEqDiff, Nat.reduceAdd, hE2.rw hH1]
  refine c_Clone (hm.ext hE12) hl fun w H3 hE3 ho3 => ?_
  have h13 := hE3.rw (hE2.rw hH1)
  have h23 := hE3.rw hH2
  have hw := ho3.sl.isSl
  have i1 := isSl_one hw
  have ip : (AV.int .i64 p).one = true := rfl
  have im : (AV.int .i64 m).one = true := rfl
  have f1 : H b1 = .free := hb1
  have f2 : H b2 = .free := hE1.free hb2
  have n12 : b2 ≠ b1 := fun q => by rw [q, hH1] at hb2; cases hb2
  have h13u : (H3.upd b1 (.rw [.int .i64 p, .int .i64 m, w])) b1 = .rw [.int .i64 p, .int .i64 m, w] := updEq
  have h23u : (H3.upd b1 (.rw [.int .i64 p, .int .i64 m, w])) b2 = .rw [.int .i64 0, .int .i64 0, .nils] := by rw [updNe n12]; exact h23
  have hof := ho3.offH
  simp (disch := first | assumption | omega) only [↓RP, RQ, TY, loadT, reduceIte, Nat.reduceEqDiff, Nat.reduceAdd, h13, u_storeV hw, u_stG3 i1, h13u, u_st3 h23u ip im i1, aRes, aResL, aRes1, Option.map_some]
  refine hQ w _ (((hE12.trans hE3).upd f1 _).upd f2 _) ?_ (hof.old hE12) hw
  exact (ho3.sl.updOff hof (by rw [hE2.rw hH1]; exact fun q => by cases q) _).updOff hof (by rw [hH2]; exact fun q => by cases q) _
theorem fill_code {p m n : Int} {md v z0 z1 z2 z3 z4 : AV} (h1 : md.isSl = true) (h2 : v.isSl = true) : aFill (fun i => [(0, 3), (3, 1), (4, 1)][i]?) [z0, z1, z2, z3, z4] [(0, .agg [.int .i64 p, .int .i64 m, md]), (1, .int .i64 n), (2, v)] = some [.int .i64 p, .int .i64 m, md, .int .i64 n, v] := by
  cases md <;> cases v <;> first | rfl | (simp [AV.isSl] at h1; done) | (simp [AV.isSl] at h2; done)
theorem c_cof {p m cols er : Int} {md lv : AV} {mod : List Int} {H : AH} {Q : AV → AH → Prop} (hm : er = 0 → Ints H md mod) (hl : er = 0 → mod.length ≤ 1000) (hv : er = 0 → lv.isSl = true)
    (hQ : er = 0 → ∀ md' H', Ext H H' → Ints H' md' mod → OffH H md' → Q (.tup [codeV p m md' cols lv, .int .i64 0]) H') (hQ0 : er ≠ 0 → ∀ H', Ext H H' → Q (.tup [codeV 0 0 .nils 0 .nils, .int .i64 er]) H') :
    AC Tryz.prog 96 [.agg [.int .i64 p, .int .i64 m, md], .agg [.int .i64 cols, lv], .int .i64 er] H Q := by
  refine at96 (by simp) ?_
  simp (disch := first | assumption | omega) only [↓RP, RQ, TY, loadT, s96, reduceIte, Nat.reduceEqDiff, Nat.reduceAdd]
  refine kNew_intro fun b1 H1 hb1 hE1 hH1 => ?_
  simp (disch := first | assumption | omega) only [↓RP, RQ, TY, loadT, reduceIte, Nat.reduceEqDiff, Nat.reduceAdd]
  refine kNew_intro fun b2 H2 hb2 hE2 hH2 => ?_
  simp (disch := first | assumption | omega) only [↓RP, RQ, TY, loadT, reduceIte, Nat.reduceEqDiff, Nat.reduceAdd]
  refine kNew_intro fun b3 H3 hb3 hE3 hH3 => ?_
  have h13 := hE3.rw (hE2.rw hH1)
  have h23 := hE3.rw hH2
  have hE03 := (hE1.trans hE2).trans hE3
  have f3 := (hE1.trans hE2).free hb3
  by_cases he : er = 0
  rotate_left
  · simp (disch := first | assumption | omega) only [↓RP, RQ, TY, loadT, reduceIte, Nat.reduceEqDiff, Nat.reduceAdd, eq_true he, u_fill0, u_st5 (x := .int .i64 0) (y := .int .i64 0) (z := .nils) (w := .int .i64 0) (u := .nils) hH3 rfl rfl rfl rfl rfl, aRes, aResL, aRes1, Option.map_some]
    exact hQ0 he _ (hE03.upd f3 _)
  subst he
  have hvs := hv rfl
  simp (disch := first | assumption | omega) only [↓RP, RQ, TY, loadT, reduceIte, Nat.reduceEqDiff, Nat.reduceAdd, Int.reduceEq, Int.reduceNe, h13, h23]
  refine c_own ((hm rfl).ext hE03) (hl rfl) fun md' H4 hE4 hm4 hof hs4 => ?_
  have h34 := hE4.rw hH3
  have i1 := isSl_one hs4
  have i2 := isSl_one hvs
  have ip : (AV.int .i64 p).one = true := rfl
  have im : (AV.int .i64 m).one = true := rfl
  have ic : (AV.int .i64 cols).one = true := rfl
  simp (disch := first | assumption | omega) only [↓RP, RQ, TY, loadT, reduceIte, Nat.reduceEqDiff, Nat.reduceAdd, hE4.rw h13, hE4.rw h23, fill_code hs4 hvs, u_st5 h34 ip im i1 ic i2, aRes, aResL, aRes1, Option.map_some]
  exact hQ rfl md' _ ((hE03.trans hE4).upd f3 _) (hm4.updOff hof (by rw [hH3]; exact fun q => by cases q) _) (hof.old hE03)
theorem FieldOk.ml {p m : Int} {mod : List Int} (h : FieldOk p m mod) : mod.length ≤ 8 := by
  rcases h.2.2 with ⟨-, rfl⟩ | ⟨-, q, -⟩
  · simp
  · have := (ordr_pos h.1).2.2.1
    omega
theorem c_Dual (A : Alg) {p m n : Int} {md v : AV} {mod : List Int} {us : List AV} {rows : List (List Int)} {H : AH} {Q : AV → AH → Prop} (hm : Ints H md mod) (hlm : mod.length ≤ 9223372036854775807) (hv : Rows H v us rows) (hl : rows.length ≤ 9223372036854775807) (hlr : ∀ i, i < rows.length → (rowAt rows i).length ≤ 9223372036854775807)
    (hQ : codeErr p m mod n rows = 0 → ∀ md' lv us' H', Ext H H' → Ints H' md' mod → Rows H' lv us' (kerL (fF p m mod) rows n.toNat) → Q (.tup [codeV p m md' n lv, .int .i64 0]) H')
    (hQ0 : codeErr p m mod n rows ≠ 0 → ∀ H', Ext H H' → Q (.tup [codeV 0 0 .nils 0 .nils, .int .i64 (codeErr p m mod n rows)]) H') :
    AC Tryz.prog 49 [codeV p m md n v] H Q := by
  refine at49 (by simp) ?_
  simp (disch := first | assumption | omega) only [↓RP, RQ, TY, loadT, s49, reduceIte, Nat.reduceEqDiff, Nat.reduceAdd]
  refine kNew_intro fun b1 H1 hb1 hE1 hH1 => ?_
  simp (disch := first | assumption | omega) only [↓RP, RQ, TY, loadT, reduceIte, Nat.reduceEqDiff, Nat.reduceAdd]
  refine kNew_intro fun b2 H2 hb2 hE2 hH2 => ?_
  have h12 := hE2.rw hH1
  have hE02 := hE1.trans hE2
  have f2 := hE1.free hb2
  simp (disch := first | assumption | omega) only [↓RP, RQ, TY, loadT, reduceIte, Nat.reduceEqDiff, Nat.reduceAdd, h12]
  refine c_cCheck A (hm.ext hE02) hlm (hv.ext hE02) hl hlr fun H3 hE3 => ?_
  have h13 := hE3.rw h12
  have h23 := hE3.rw hH2
  have hE03 := hE02.trans hE3
  by_cases h0 : codeErr p m mod n rows = 0
  rotate_left
  · simp (disch := first | assumption | omega) only [↓RP, RQ, TY, loadT, reduceIte, Nat.reduceEqDiff, Nat.reduceAdd, eq_true h0, u_fill0, u_st5 (x := .int .i64 0) (y := .int .i64 0) (z := .nils) (w := .int .i64 0) (u := .nils) h23 rfl rfl rfl rfl rfl, aRes, aResL, aRes1, Option.map_some]
    exact hQ0 h0 _ (hE03.upd f2 _)
  obtain ⟨hF, n1, n64, hr, els, kn, -⟩ := code_ok A.fo h0
  have me := matErr_ok hF (by omega) (by omega) (show rows.length ≤ 256 by omega) hr els
  simp (disch := first | assumption | omega) only [↓RP, RQ, TY, loadT, reduceIte, Nat.reduceEqDiff, Nat.reduceAdd, eq_false (show ¬ codeErr p m mod n rows ≠ 0 from fun q => q h0), h13]
  refine c_gen hv.sl.isSl fun H4 hE4 => ?_
  have h14 := hE4.rw h13
  have hE04 := hE03.trans hE4
  simp (disch := first | assumption | omega) only [↓RP, RQ, TY, loadT, reduceIte, Nat.reduceEqDiff, Nat.reduceAdd, h14]
  refine c_Kernel A (hm.ext hE04) hlm (hv.ext hE04) hl hlr (fun lv us' H5 hE5 _ hr5 of1 of2 => ?_) (fun H5 hE5 he => absurd me he)
  have h15 := hE5.rw h14
  have hE05 := hE04.trans hE5
  have hls := hr5.sl.isSl
  have i0 : (AV.int .i64 n).one = true := rfl
  have i1 := isSl_one hls
  simp (disch := first | assumption | omega) only [↓RP, RQ, TY, loadT, reduceIte, Nat.reduceEqDiff, Nat.reduceAdd, h15]
  refine kNew_intro fun b6 H6 hb6 hE6 hH6 => ?_
  have h16 := hE6.rw h15
  have h66 : (H6.upd b6 (.rw [.int .i64 n, lv])) b6 = .rw [.int .i64 n, lv] := updEq
  have hE6u := hE6.upd hb6 (.rw [.int .i64 n, lv])
  have h16u := hE6u.rw h15
  simp (disch := first | assumption | omega) only [↓RP, RQ, TY, loadT, reduceIte, Nat.reduceEqDiff, Nat.reduceAdd, h16, u_st2 hH6 i0 i1, h16u]
  generalize H6.upd b6 (.rw [.int .i64 n, lv]) = H7 at *
  have hE07 := hE05.trans hE6u
  refine c_cof (fun _ => hm.ext hE07) (fun _ => by have := hF.ml; omega) (fun _ => hls) (fun _ md' H8 hE8 hm8 of3 => ?_) (fun q => absurd rfl q)
  have h28 := hE8.rw (hE6u.rw (hE5.rw (hE4.rw h23)))
  have i2 := isSl_one hm8.isSl
  have ip : (AV.int .i64 p).one = true := rfl
  have im : (AV.int .i64 m).one = true := rfl
  simp (disch := first | assumption | omega) only [↓RP, RQ, TY, loadT, reduceIte, Nat.reduceEqDiff, Nat.reduceAdd, u_st5 h28 ip im i2 i0 i1, aRes, aResL, aRes1, Option.map_some]
  have b2n : H4 b2 ≠ .free := by rw [hE4.rw h23]; exact fun q => by cases q
  have b2m : H7 b2 ≠ .free := by rw [hE6u.rw (hE5.rw (hE4.rw h23))]; exact fun q => by cases q
  exact hQ h0 md' lv us' _ ((hE07.trans hE8).upd f2 _) (hm8.updOff of3 b2m _) ((hr5.ext (hE6u.trans hE8)).updOff of1 of2 b2n _)
end Go.Proofs.YtbkpebmcagdgmaaGreat.AM
/-! The library's slices.Values and slices.AppendSeq over it (after the kit's worked text on ranges over a function). -/
namespace Go.Proofs.YtbkpebmcagdgmaaGreat.Seq
open Go Go.Proofs Go.RowKit Go.Shelf
set_option linter.unusedVariables false
set_option linter.unusedSimpArgs false
attribute [local go_sem] Oper.semAt_some
/-- what has come when k rounds are over -/
def upto {α : Type} (f : Nat → α) (k : Nat) : List α := (List.range k).map f
theorem upto_succ {α : Type} (f : Nat → α) (k : Nat) : upto f (k + 1) = upto f k ++ [f k] := by simp [upto, List.range_succ]
theorem upto_length {α : Type} (f : Nat → α) (k : Nat) : (upto f k).length = k := by simp [upto]
theorem upto_all (zs : List Int) : upto (fun j => zs[j]?.getD 0) zs.length = zs := by
  apply List.ext_getElem
  · simp [upto]
  · intro i h1 h2
    simp [upto, h2]
set_option maxRecDepth 100000 in
set_option maxHeartbeats 2000000 in
theorem values1_in (F : Fence) (n : Nat) (h7 : F.fn 122) (hro : F.round = none) (hn : 1 ≤ n) (l Bs n₀ b off len cap : Nat) (zs : List Int) (hreach : len * 8 ≤ 140737488351232) (hb : b < n₀) (J Jx : List Int → World → Prop)
    (hY : ∀ pre x W, J pre W → pre.length < len → YieldAt F (n - 1) Tryz.prog l #[.int .i64 x] W fun e W' =>
      (e = .returned (.bool true) ∧ J (pre ++ [x]) W' ∧ Below n₀ W W') ∨ (e = .returned (.bool false) ∧ Jx (pre ++ [x]) W'))
    (W : World) (hBs : W.cell? ⟨Bs, 0, none⟩ = some (.slice (some ⟨b, off, none⟩) len cap)) (hc : ∀ j, j < len → W.cell? ⟨b, off + j, none⟩ = some (.int .i64 (zs[j]?.getD 0))) (h0 : J [] W) :
    CallsIn F n Tryz.prog 122 #[.func (.yield l) #[] #[], .pointer (some ⟨Bs, 0, none⟩)] W fun e W' => (∃ v, e = .returned v) ∧
      ((∃ ys, ys = upto (fun j => zs[j]?.getD 0) len ∧ J ys W') ∨ (∃ pre, (∃ k, k ≤ len ∧ pre = upto (fun j => zs[j]?.getD 0) k) ∧ Jx pre W')) := by
  refine callsIn_of_wp Tryz.func122 rfl h7 ?_ hro
  simp only [Tryz.ntmps122, List.size_toArray, List.length_cons, List.length_nil, Nat.reduceAdd, Nat.reduceSub, Array.replicate_succ, Array.replicate_zero, List.push_toArray, List.append_toArray, List.nil_append, List.cons_append]
  gi_wp2
  gi_loopw [7] (fun i wr => ∃ k : Nat, k ≤ len ∧ i = .int .i64 k ∧ J (upto (fun j => zs[j]?.getD 0) k) wr ∧ Below n₀ W wr)
    (fun i _ => len - (intOf i).toNat)
  case atStart => exact ⟨0, Nat.zero_le _, rfl, h0, Below.refl _ _⟩
  case round =>
    obtain ⟨k, hk, rfl, hJs, hnx⟩ := hrel
    have hcx : k < len → wr.cell? ⟨b, off + k, none⟩ = some (.int .i64 (zs[k]?.getD 0)) := fun h => (hnx.cell (p := ⟨b, off + k, none⟩) hb).trans (hc k h)
    by_cases hlt : k < len
    · obtain ⟨fn, tmps, assign, body, hy, hR⟩ := hY _ (zs[k]?.getD 0) wr hJs (by rw [upto_length]; exact hlt)
      have hcx' := hcx hlt
      gi_wp2
      refine hR.mono ?_
      rintro e W3 (⟨rfl, hJ3, hk3⟩ | ⟨rfl, hJx3⟩)
      · gi_wp2
        go_roundw
        case rel => exact ⟨k + 1, by omega, by simp, by rw [upto_succ]; exact hJ3, hnx.trans hk3⟩
        case measure => simp [intOf]; omega
      · gi_wp2
        refine bodyPost_ret (results_none rfl _ _ _) rfl ?_
        exact ⟨⟨_, rfl⟩, .inr ⟨_, ⟨k + 1, by omega, (upto_succ _ _).symm⟩, hJx3⟩⟩
    · obtain rfl : k = len := by omega
      gi_wp2
      go_end0
      exact ⟨⟨_, rfl⟩, .inl ⟨_, rfl, hJs⟩⟩
theorem upto_take (zs : List Int) {k : Nat} (hk : k ≤ zs.length) : upto (fun j => zs[j]?.getD 0) k = zs.take k := by
  apply List.ext_getElem
  · simp [upto, hk]
  · intro i h1 h2
    have : i < zs.length := by simp [upto] at h1; omega
    simp [upto, this]
/-- the slice value holds these numbers, in a block below n₀; or it has no entry -/
def SInts (n₀ : Nat) (W : World) (sv : Value) (zs : List Int) : Prop :=
  (zs = [] ∧ ∃ a cap, sv = .slice a 0 cap) ∨ ∃ b off cap, sv = .slice (some ⟨b, off, none⟩) zs.length cap ∧ b < n₀ ∧ ∀ j, j < zs.length → W.cell? ⟨b, off + j, none⟩ = some (.int .i64 (zs[j]?.getD 0))
theorem SInts.below {n₀ : Nat} {A B : World} (h : Below n₀ A B) {sv : Value} {zs : List Int} : SInts n₀ A sv zs → SInts n₀ B sv zs
  | .inl e => .inl e
  | .inr ⟨b, off, cap, e, hb, hc⟩ => .inr ⟨b, off, cap, e, hb, fun j hj => (h.cell (p := ⟨b, off + j, none⟩) hb).trans (hc j hj)⟩
set_option maxRecDepth 100000 in
set_option maxHeartbeats 1000000 in
theorem values1_nil_in (F : Fence) (n : Nat) (h7 : F.fn 122) (hro : F.round = none) (l Bs : Nat) (a : Option Addr) (cap : Nat) (J : List Int → World → Prop) (W : World) (hBs : W.cell? ⟨Bs, 0, none⟩ = some (.slice a 0 cap)) (h0 : J [] W) :
    CallsIn F n Tryz.prog 122 #[.func (.yield l) #[] #[], .pointer (some ⟨Bs, 0, none⟩)] W fun e W' => (∃ v, e = .returned v) ∧ J [] W' := by
  refine callsIn_of_wp Tryz.func122 rfl h7 ?_ hro
  simp only [Tryz.ntmps122, List.size_toArray, List.length_cons, List.length_nil, Nat.reduceAdd, Nat.reduceSub, Array.replicate_succ, Array.replicate_zero, List.push_toArray, List.append_toArray, List.nil_append, List.cons_append]
  gi_wp2
  gi_loopw [7] (fun i wr => i = .int .i64 0 ∧ J [] wr) (fun _ _ => 0)
  case atStart => exact ⟨rfl, h0⟩
  case round =>
    obtain ⟨rfl, hJs⟩ := hrel
    gi_wp2
    go_end0
    exact ⟨⟨_, rfl⟩, hJs⟩
theorem values_stops (F : Fence) (n : Nat) (h7 : F.fn 122) (hro : F.round = none) (hn : 1 ≤ n) (Bs n₀ : Nat) (sv : Value) (zs : List Int) (hreach : zs.length * 8 ≤ 140737488351232) (w : World) (hBs : Bs < w.heap.size) (hn₀ : n₀ ≤ w.heap.size)
    (hc : w.cell? ⟨Bs, 0, none⟩ = some sv) (hI : SInts n₀ w sv zs) :
    SeqStopsK F n Tryz.prog 122 #[.pointer (some ⟨Bs, 0, none⟩)] (fun x : Int => #[Value.int .i64 x]) (Below n₀) (fun ys => ys = zs) (fun pre => pre <+: zs) zs.length w := fun l J Jx W hW _ _ hY h0 => by
  have hc' := (hW.cell (p := ⟨Bs, 0, none⟩) hBs).trans hc
  rcases hI.below (hW.mono hn₀) with ⟨rfl, a, cap, rfl⟩ | ⟨b, off, cap, rfl, hb, hcs⟩
  · exact (values1_nil_in F n h7 hro l Bs a cap J W hc' h0).mono fun e W' ⟨he, hj⟩ => ⟨he, .inl ⟨_, rfl, hj⟩⟩
  · refine (values1_in F n h7 hro hn l Bs n₀ b off zs.length cap zs hreach hb J Jx hY W hc' hcs h0).mono ?_
    rintro e W' ⟨he, ⟨ys, rfl, hj⟩ | ⟨pre, ⟨k, hk, rfl⟩, hj⟩⟩
    · exact ⟨he, .inl ⟨_, upto_all zs, hj⟩⟩
    · exact ⟨he, .inr ⟨_, by rw [upto_take zs hk]; exact List.take_prefix _ _, hj⟩⟩
theorem info3 : (Tryz.prog.info? 3).map (fun i => (i.zero, i.size, i.bytes)) = some (some (.int .i64 0), 1, 8) := by kernel_rfl
set_option maxRecDepth 100000 in
set_option maxHeartbeats 2000000 in
theorem appendSeq_values (F : Fence) (n : Nat) (hA : F.fn 163) (hV : F.fn 122) (hro : F.round = none) (hn : 3 ≤ n) (Bs : Nat) (sv : Value) (zs : List Int) (hreach : zs.length * 8 ≤ 140737488351232) (w : World) (hBs : Bs < w.heap.size)
    (hc : w.cell? ⟨Bs, 0, none⟩ = some sv) (hI : SInts w.heap.size w sv zs) :
    CallsIn F n Tryz.prog 163 #[.slice none 0 0, .func (.func 122) #[] #[.pointer (some ⟨Bs, 0, none⟩)]] w fun e w' => ∃ v, e = .returned v ∧
      w'.ownsRow w.heap.size 3 1 v zs.length (zs.map (Value.int .i64)) ∧ (v = .slice none 0 0 ↔ zs = []) ∧ Below w.heap.size w w' := by
  have h1 : 1 ≤ n := by omega
  obtain ⟨i0, hi, hz0, hz1, hz2⟩ := info_parts info3
  refine callsIn_of_wp_marks Tryz.func163 rfl hA ?_ hro
  simp only [Tryz.ntmps163, List.size_toArray, List.length_cons, List.length_nil, Nat.reduceAdd, Nat.reduceSub, Array.replicate_succ, Array.replicate_zero, List.push_toArray, List.append_toArray, List.nil_append, List.cons_append]
  gi_wp2
  have bS := Boxed.new w 22 (.slice none 0 0)
  have hB0 : Below w.heap.size w (w.alloc (.cells #[.slice none 0 0] 22)) := (Below.refl _ w).alloc (Nat.le_refl _) _
  refine wpIn_rangeFunc_ownG hro h1 (gf := 122) (lb := #[.pointer (some ⟨Bs, 0, none⟩)]) rfl hV (enters_of Tryz.func122 (by kernel_rfl) rfl)
    (values_stops F (n - 1) hV hro (by omega) Bs w.heap.size sv zs hreach _ (by simp; omega) (by simp) ((hB0.cell (p := ⟨Bs, 0, none⟩) hBs).trans hc) (hI.below hB0)) belowK_t (belowK_b (by simp)) (Below.refl _ _) (fun _ => rfl)
    (fun pre W => (∃ v, Boxed W w.heap.size 22 v ∧ W.ownsRow w.heap.size 3 1 v pre.length (pre.map (Value.int .i64)) ∧ (v = .slice none 0 0 ↔ pre = [])) ∧ Below w.heap.size w W)
    (fun _ _ _ => False)
    (OwnFrom.and (Own.from (holdsRow_own w.heap.size w.heap.size 22 3 1 (fun pre : List Int => pre.length) (fun pre => pre.map (Value.int .i64)) (fun pre v => v = .slice none 0 0 ↔ pre = [])) _) (ownFrom_below (Nat.le_refl _) (by simp)))
    (fun _ _ _ _ _ hs _ _ => hs)
    ⟨⟨_, bS, World.ownsRow_nil _ _ _ _, by simp⟩, hB0⟩
    (fun x => { tmps := #[.slice none 0 0, .func (.func 122) #[] #[.pointer (some ⟨Bs, 0, none⟩)], .pointer (some ⟨w.heap.size, 0, none⟩), undef, .slice none 0 0, .int .i64 x, .func (.func 122) #[] #[.pointer (some ⟨Bs, 0, none⟩)], .int .i64 x, undef, undef, undef, undef, undef], defers := [] }) ?assign ?body ?done ?stop
  case assign =>
    intro l x W K hK
    gi_wp2
    exact hK
  case body =>
    rintro l pre x W ⟨⟨v, hv, hrow, hnil⟩, hB⟩ hlt
    have hcv := hv.cell
    have hle : w.heap.size ≤ w.heap.size := Nat.le_refl _
    gi_wp2_with (gi_at_builtin; refine wpListIn_append_own _ rfl _ _ 22 rfl w.heap.size 3 i0 (.int .i64 0) 1 8 Tryz.underlying22 hi hz0 hz1 hz2 rfl (by decide) _ _ _ rfl (hrow.alloc _) ⟨W.heap.size, 0, none⟩ 1 1 [.int .i64 x] rfl rfl (cell_one_new _ _ _) (by simp [Value.oneCell']) (by have : maxLen = 9223372036854775807 := rfl; omega) (by omega) (by have := hB.size; simp; omega) ?_; intro v' w1 hown' hgrow _; obtain ⟨g', cap', rfl⟩ := ownsRow_succ hown'; obtain ⟨hv1, hv2, hr2, hk2, hb2⟩ := hv.appended (by decide) hrow hB.size hle hown' hgrow; have hc1 := hv1.cell; have hf1 := hv1.frozen)
    exact ⟨hk2.from _, hb2, ⟨_, hv2, by simpa using hr2, by simp⟩, hB.trans hb2⟩
  case done =>
    rintro D ys W hD rfl ⟨⟨v, hv, hrow, hnil⟩, hB⟩ hK
    have hcv := hv.cell
    gi_wp2
    refine ⟨by simp, .inl ⟨_, _, rfl, run_takeDeferred hK, ?_⟩⟩
    exact ⟨_, results_tmp rfl _ _ _, v, rfl, ownsRow_putObj hrow _ hK rfl, hnil, hB.trans (belowK_b (w := w) (Nat.le_refl _) W D _ _ (by simp at hD; omega) hK rfl rfl)⟩
  case stop =>
    rintro D c pre W _ _ h _
    exact h.elim
end Go.Proofs.YtbkpebmcagdgmaaGreat.Seq
/-! The library's slices.AppendSeq, Collect and Values on the abstract machine. -/
namespace Go.Proofs.YtbkpebmcagdgmaaGreat.AM
open Go Go.RowKit
set_option linter.unusedVariables false
set_option linter.unusedSimpArgs false
set_option maxRecDepth 20000
theorem Rep.below {H : AH} {w w' : World} (h : Rep H w) (hB : Below w.heap.size w w') : Rep H w' := by
  have hp := Pres.of_old hB.size hB.block
  refine ⟨fun b hb => h.fresh b (Nat.le_trans hB.size hb), fun b o v hc => ?_, fun b xs hb => ?_⟩
  · obtain ⟨arr, ty, fr, u, h1, h2, h3⟩ := h.cell b o v hc
    exact ⟨arr, ty, fr, u, (hB.block b (cell_lt h hc)).trans h1, h2, h3.mono hp⟩
  · obtain ⟨arr, ty, h1, h2⟩ := h.own b xs hb
    exact ⟨arr, ty, (hB.block b (not_free_lt h (by rw [hb]; exact fun q => by cases q))).trans h1, h2⟩
theorem Stp.below {H : AH} {w w' : World} (hB : Below w.heap.size w w') : Stp H H w w' :=
  ⟨hB.os, hB.tape, hB.output, Pres.of_old hB.size hB.block, fun b hb _ => hB.block b hb, fun _ _ h => h, fun _ _ h => h⟩
/-- a new block of ints behind what the call found -/
theorem Rep.newInts {H : AH} {w w' : World} (h : Rep H w) (hB : Below w.heap.size w w') {g : Nat} {cur : Array Value} {ty : TypeId} {xs : List Int} (hg : w.heap.size ≤ g) (hb : w'.heap[g]? = some (.cells cur ty (0, 0))) (hl : xs.length ≤ cur.size) (hc : cur.toList.take xs.length = xs.map (Value.int .i64)) :
    Rep (H.upd g (.rw (ints xs))) w' ∧ Stp H (H.upd g (.rw (ints xs))) w w' := by
  have hr := h.below hB
  have hgl : g < w'.heap.size := (Array.getElem?_eq_some_iff.1 hb).1
  refine ⟨⟨fun b hb' => ?_, fun b o v hv => ?_, fun b us hu => ?_⟩, ⟨hB.os, hB.tape, hB.output, Pres.of_old hB.size hB.block, fun b hb _ => hB.block b hb, fun b hb hf => ?_, fun b hb hn => ?_⟩⟩
  · rw [upd_ne _ _ (by omega)]; exact hr.fresh b hb'
  · by_cases q : b = g
    · subst q
      simp only [AH.cell, upd_same] at hv
      have ho : o < xs.length := by
        have := (List.getElem?_eq_some_iff.1 hv).1
        rwa [ints_length] at this
      rw [ints_get ho] at hv
      cases hv
      refine ⟨cur, ty, (0, 0), .int .i64 (xs.getD o 0), hb, ?_, .int _ _⟩
      have h1 : (cur.toList.take xs.length)[o]? = (xs.map (Value.int .i64))[o]? := by rw [hc]
      rw [List.getElem?_take_of_lt ho, Array.getElem?_toList] at h1
      rw [h1, List.getElem?_map, List.getD_eq_getElem?_getD, List.getElem?_eq_getElem ho]
      rfl
    · have hv' : H.cell b o = some v := by simpa only [AH.cell, upd_ne _ _ q] using hv
      exact hr.cell b o v hv'
  · by_cases q : b = g
    · subst q
      rw [upd_same] at hu
      cases hu
      exact ⟨cur, ty, hb, by rw [ints_length]; exact hl⟩
    · rw [upd_ne _ _ q] at hu
      exact hr.own b us hu
  · rw [upd_ne _ _ (by omega)]; exact hf
  · rw [upd_ne _ _ (by omega)]; exact hn
theorem ints_eq_nil {xs : List Int} (h : ints xs = []) : xs = [] := by
  cases xs with
  | nil => rfl
  | cons a l => simp [ints] at h
theorem sints_of {H : AH} {W : World} (hR : Rep H W) {v : AV} {u : Value} {xs : List Int} (hv : Ints H v xs) (hu : RV W v u) : Seq.SInts W.heap.size W u xs := by
  rcases hv with ⟨rfl, h2⟩ | ⟨b, o, c, rfl, h2⟩
  · cases hu
    exact .inl ⟨ints_eq_nil h2, _, _, rfl⟩
  · have hl := ints_length xs
    generalize hk : (ints xs).length = k at hu hl
    cases hu with
    | sl _ _ _ cap _ a hn hm hc ho =>
      rcases ho with ⟨rfl, hb⟩ | ⟨h0, -⟩
      · refine .inr ⟨b, o, cap, by rw [hl], hb, fun j hj => ?_⟩
        have h3 := h2 j _ (ints_get hj)
        obtain ⟨x, hx, hx2⟩ := hR.cell? h3
        cases hx2
        rw [hx, List.getD_eq_getElem?_getD]
      · exact .inl ⟨List.eq_nil_of_length_eq_zero (by omega), _, _, by rw [h0]⟩
set_option maxRecDepth 100000 in
theorem c_AppendSeq {H : AH} {bs : Nat} {v : AV} {xs : List Int} {Q : AV → AH → Prop} (hb : H bs = .rw [v]) (hv : Ints H v xs) (hl : xs.length ≤ 1000) (hQ : ∀ w H', Ext H H' → Own H H' w (ints xs) → (w = .nils ↔ xs = []) → Q w H') :
    AC Tryz.prog 163 [.nils, .fn 122 [.ptr bs 0]] H Q := by
  refine ⟨by kernel_rfl, fun W argv hR hA => ?_⟩
  obtain ⟨hlen, hA⟩ := hA
  obtain ⟨l⟩ := argv
  match l, hlen with
  | [x, y], _ =>
    have h0 := hA 0 .nils x rfl rfl
    have h1 := hA 1 (.fn 122 [.ptr bs 0]) y rfl rfl
    cases h0
    cases h1 with
    | fn _ _ vs hs hvs =>
      obtain ⟨vl⟩ := vs
      match vl, hs with
      | [z], _ =>
        have h2 := hvs 0 (.ptr bs 0) z rfl rfl
        cases h2 with
        | ptr _ _ hbs =>
          obtain ⟨u, hu, hu2⟩ := hR.cell? (b := bs) (o := 0) (v := v) (by simp [AH.cell, hb])
          refine (callsIn_wide.1 (Seq.appendSeq_values Fence.wide 3 trivial trivial rfl (Nat.le_refl _) bs u xs (by omega) W hbs hu (sints_of hR hv hu2))).mono ?_
          rintro e w' ⟨v', rfl, hown, hnil, hB⟩
          rcases hown.2 with ⟨rfl, hz⟩ | ⟨g, cap, cur, rfl, hg, hgb, hn, hcap, hsz, htk⟩
          · have hx : xs = [] := List.eq_nil_of_length_eq_zero hz
            subst hx
            exact ⟨_, .nils, H, rfl, hQ .nils H (Ext.refl H) Own.nils ⟨fun _ => rfl, fun _ => rfl⟩, hR.below hB, .nils, Stp.below hB⟩
          · rw [Nat.mul_one] at htk hsz
            obtain ⟨r1, r2⟩ := hR.newInts hB hg hgb (by omega) htk
            have hf : H g = .free := hR.fresh g hg
            refine ⟨_, .sl g 0 xs.length (.own 1), _, rfl, hQ _ _ (Ext.new hf _) (Own.mk (upd_same _ _ _) hf (by rw [ints_length])) ⟨fun q => (by cases q), fun q => ?_⟩, r1, ?_, r2⟩
            · have := hnil.mpr q
              cases this
            · exact .sl g 0 xs.length cap _ _ hn hcap ⟨rfl, cur, 3, (0, 0), hgb, by omega⟩ (.inl ⟨rfl, (Array.getElem?_eq_some_iff.1 hgb).1⟩)
end Go.Proofs.YtbkpebmcagdgmaaGreat.AM
/-! The library's slices.Sort at this program: laid by the kit's tool in plain words. -/
namespace Go.Proofs.YtbkpebmcagdgmaaGreat.SortL
open Go Go.Proofs Go.Shelf
def lays189_ren : Go.Shelf.Ren := ⟨fun | 189 => 80 | 125 => 124 | 257 => 123 | 128 => 173 | 129 => 174 | 294 => 164 | 295 => 165 | 296 => 166 | 297 => 167 | 298 => 168 | 299 => 169 | 216 => 170 | 300 => 171 | 301 => 172 | 328 => 194 | 329 => 195 | 330 => 196 | 331 => 197 | 332 => 198 | 215 => 199 | 343 => 203 | n => n, fun | 28 => 22 | 3 => 3 | 46 => 140 | 0 => 0 | 51 => 178 | 53 => 116 | 4 => 4 | 183 => 170 | 182 => 169 | 131 => 175 | 5 => 5 | 9 => 9 | 218 => 188 | 222 => 192 | 228 => 194 | 229 => 81 | n => n, fun | n => n⟩
theorem lays189 : Go.Proofs.Lays.n189 Tryz.prog lays189_ren := {
  mixed := by kernel_rfl
  f125 := Tryz.func124.trans (congrArg some (by kernel_rfl))
  f128 := Tryz.func173.trans (congrArg some (by kernel_rfl))
  f129 := Tryz.func174.trans (congrArg some (by kernel_rfl))
  f189 := Tryz.func80.trans (congrArg some (by kernel_rfl))
  f215 := Tryz.func199.trans (congrArg some (by kernel_rfl))
  f216 := Tryz.func170.trans (congrArg some (by kernel_rfl))
  f257 := Tryz.func123.trans (congrArg some (by kernel_rfl))
  f294 := Tryz.func164.trans (congrArg some (by kernel_rfl))
  f295 := Tryz.func165.trans (congrArg some (by kernel_rfl))
  f296 := Tryz.func166.trans (congrArg some (by kernel_rfl))
  f297 := Tryz.func167.trans (congrArg some (by kernel_rfl))
  f298 := Tryz.func168.trans (congrArg some (by kernel_rfl))
  f299 := Tryz.func169.trans (congrArg some (by kernel_rfl))
  f300 := Tryz.func171.trans (congrArg some (by kernel_rfl))
  f301 := Tryz.func172.trans (congrArg some (by kernel_rfl))
  f328 := Tryz.func194.trans (congrArg some (by kernel_rfl))
  f329 := Tryz.func195.trans (congrArg some (by kernel_rfl))
  f330 := Tryz.func196.trans (congrArg some (by kernel_rfl))
  f331 := Tryz.func197.trans (congrArg some (by kernel_rfl))
  f332 := Tryz.func198.trans (congrArg some (by kernel_rfl))
  f343 := Tryz.func203.trans (congrArg some (by kernel_rfl))
  t0 := Tryz.underlying0
  a0 := Tryz.isAgg0
  z0 := Tryz.sizeOf0
  v0 := Tryz.zeroValue0
  t3 := Tryz.underlying3
  a3 := Tryz.isAgg3
  z3 := Tryz.sizeOf3
  v3 := Tryz.zeroValue3
  t4 := Tryz.underlying4
  a4 := Tryz.isAgg4
  z4 := Tryz.sizeOf4
  v4 := Tryz.zeroValue4
  t5 := Tryz.underlying5
  a5 := Tryz.isAgg5
  z5 := Tryz.sizeOf5
  v5 := Tryz.zeroValue5
  t9 := Tryz.underlying9
  a9 := Tryz.isAgg9
  z9 := Tryz.sizeOf9
  v9 := Tryz.zeroValue9
  t28 := Tryz.underlying22
  a28 := Tryz.isAgg22
  z28 := Tryz.sizeOf22
  v28 := Tryz.zeroValue22
  t46 := Tryz.underlying140
  a46 := Tryz.isAgg140
  z46 := Tryz.sizeOf140
  v46 := Tryz.zeroValue140
  t51 := Tryz.underlying178
  a51 := Tryz.isAgg178
  z51 := Tryz.sizeOf178
  v51 := Tryz.zeroValue178
  t53 := Tryz.underlying116
  a53 := Tryz.isAgg116
  z53 := Tryz.sizeOf116
  v53 := Tryz.zeroValue116
  t131 := Tryz.underlying175
  a131 := Tryz.isAgg175
  z131 := Tryz.sizeOf175
  v131 := Tryz.zeroValue175
  t182 := Tryz.underlying169
  a182 := Tryz.isAgg169
  z182 := Tryz.sizeOf169
  v182 := Tryz.zeroValue169
  t183 := Tryz.underlying170
  a183 := Tryz.isAgg170
  z183 := Tryz.sizeOf170
  v183 := Tryz.zeroValue170
  t218 := Tryz.underlying188
  a218 := Tryz.isAgg188
  z218 := Tryz.sizeOf188
  v218 := Tryz.zeroValue188
  t222 := Tryz.underlying192
  a222 := Tryz.isAgg192
  z222 := Tryz.sizeOf192
  v222 := Tryz.zeroValue192
  t228 := Tryz.underlying194
  a228 := Tryz.isAgg194
  z228 := Tryz.sizeOf194
  v228 := Tryz.zeroValue194
  t229 := Tryz.underlying81
  a229 := Tryz.isAgg81
  z229 := Tryz.sizeOf81
  v229 := Tryz.zeroValue81 }
open Go.Sort Go.RowKit in
theorem sort_int (blk off cap : Nat) (zs : List Int) (w : World) (hH : Holds (Value.int .i64) w blk off zs.toArray) (hblk : blk < w.heap.size) (hsz : zs.length < 4611686018427387904) :
    Calls Tryz.prog 80 #[.slice (some ⟨blk, off, none⟩) zs.length cap] w fun e w' =>
      e = .returned (.tuple #[]) ∧ ∃ n os, w' = grow (putRow (Value.int .i64) (Sort.ahead w n) blk off (zs.mergeSort fun x y => decide (x ≤ y)).toArray) os := Any.slices_Sort_int lays189 blk off cap zs w hH hblk hsz
open Go.Sort Go.RowKit in
theorem sort_none (p : Option Addr) (cap : Nat) (w : World) : Calls Tryz.prog 80 #[.slice p 0 cap] w fun e w' => e = .returned (.tuple #[]) ∧ w' = w := Any.slices_Sort_int_none lays189 p cap w
end Go.Proofs.YtbkpebmcagdgmaaGreat.SortL
/-! The library's slices.Sort, Values, Collect and Sorted on the abstract machine. -/
namespace Go.Proofs.YtbkpebmcagdgmaaGreat.AM
open Go Go.RowKit
set_option linter.unusedVariables false
set_option linter.unusedSimpArgs false
set_option maxRecDepth 20000
/-- a list in ascending order -/
def sortL (xs : List Int) : List Int := xs.mergeSort fun x y => decide (x ≤ y)
theorem sortL_length (xs : List Int) : (sortL xs).length = xs.length := List.length_mergeSort xs
theorem Rep.turn {H : AH} {w w' : World} (h : Rep H w) {b : Nat} {ys : List AV} {ts : List Int} (hb : H b = .rw ys) (hg : w.grownBy w' (some b)) {cur cur' : Array Value} {ty : TypeId} (h1 : w.heap[b]? = some (.cells cur ty (0, 0))) (h2 : w'.heap[b]? = some (.cells cur' ty (0, 0))) (hs : cur'.size = cur.size) (hl : ts.length ≤ cur'.size) (ht : cur'.toList.take ts.length = ts.map (Value.int .i64)) :
    Rep (H.upd b (.rw (ints ts))) w' ∧ Stp H (H.upd b (.rw (ints ts))) w w' := by
  obtain ⟨g1, g2, g3, g4, g5⟩ := hg
  have hbl : b < w.heap.size := (Array.getElem?_eq_some_iff.1 h1).1
  have same : ∀ k, k < w.heap.size → k ≠ b → w'.heap[k]? = w.heap[k]? := fun k hk hne => g5 k hk (fun q => hne (by cases q; rfl))
  have hp : Pres w w' := ⟨g4, fun k arr ty' fr hk => by
    by_cases q : k = b
    · subst q
      rw [h1] at hk
      cases hk
      exact ⟨cur', _, _, h2, hs⟩
    · have hkl : k < w.heap.size := (Array.getElem?_eq_some_iff.1 hk).1
      exact ⟨arr, ty', fr, (same k hkl q).trans hk, rfl⟩⟩
  refine ⟨⟨fun k hk => ?_, fun k o v hv => ?_, fun k us hu => ?_⟩, ⟨g1, g2, g3, hp, fun k hk hn => ?_, fun k hk hf => ?_, fun k hk hn => ?_⟩⟩
  · rw [upd_ne _ _ (by omega)]; exact h.fresh k (by omega)
  · by_cases q : k = b
    · subst q
      simp only [AH.cell, upd_same] at hv
      have ho : o < ts.length := by
        have := (List.getElem?_eq_some_iff.1 hv).1
        rwa [ints_length] at this
      rw [ints_get ho] at hv
      cases hv
      refine ⟨cur', ty, (0, 0), .int .i64 (ts.getD o 0), h2, ?_, .int _ _⟩
      have h3 : (cur'.toList.take ts.length)[o]? = (ts.map (Value.int .i64))[o]? := by rw [ht]
      rw [List.getElem?_take_of_lt ho, Array.getElem?_toList] at h3
      rw [h3, List.getElem?_map, List.getD_eq_getElem?_getD, List.getElem?_eq_getElem ho]
      rfl
    · have hv' : H.cell k o = some v := by simpa only [AH.cell, upd_ne _ _ q] using hv
      obtain ⟨arr, ty', fr, u, q1, q2, q3⟩ := h.cell k o v hv'
      exact ⟨arr, ty', fr, u, (same k (cell_lt h hv') q).trans q1, q2, q3.mono hp⟩
  · by_cases q : k = b
    · subst q
      rw [upd_same] at hu
      cases hu
      exact ⟨cur', ty, h2, by rw [ints_length]; exact hl⟩
    · rw [upd_ne _ _ q] at hu
      obtain ⟨arr, ty', q1, q2⟩ := h.own k us hu
      exact ⟨arr, ty', (same k (Array.getElem?_eq_some_iff.1 q1).1 q).trans q1, q2⟩
  · by_cases q : k = b
    · subst q
      exact absurd hb (hn _)
    · exact same k hk q
  · by_cases q : k = b
    · subst q
      rw [hb] at hf
      cases hf
    · rw [upd_ne _ _ q]; exact hf
  · by_cases q : k = b
    · subst q
      exact absurd hb (hn _)
    · rw [upd_ne _ _ q]; exact hn
open Go.Sort in
theorem c_SortB {H : AH} {b : Nat} {xs : List Int} {Q : AV → AH → Prop} (hb : H b = .rw (ints xs)) (hl : xs.length ≤ 1000) (hQ : Q (.tup []) (H.upd b (.rw (ints (sortL xs))))) : AC Tryz.prog 80 [.sl b 0 xs.length (.own 1)] H Q := by
  refine ⟨by kernel_rfl, fun W argv hR hA => ?_⟩
  obtain ⟨hlen, hA⟩ := hA
  obtain ⟨l⟩ := argv
  match l, hlen with
  | [x], _ =>
    have h0 := hA 0 (.sl b 0 xs.length (.own 1)) x rfl rfl
    generalize hk : xs.length = k at h0
    cases h0 with
    | sl _ _ _ cap _ a hn hm hc ho =>
      rcases ho with ⟨rfl, hbl⟩ | ⟨-, h0⟩
      · obtain ⟨cur, ty, h1, h2⟩ := hR.own b _ hb
        rw [ints_length] at h2
        have ht : cur.toList.take xs.length = xs.map (Value.int .i64) := by
          apply List.ext_getElem?
          intro j
          by_cases hj : j < xs.length
          · rw [List.getElem?_take_of_lt hj, Array.getElem?_toList]
            obtain ⟨arr, ty', fr, u, q1, q2, q3⟩ := hR.cell b j _ (show H.cell b j = some (.int .i64 (xs.getD j 0)) by simp only [AH.cell, hb]; exact ints_get hj)
            rw [h1] at q1
            cases q1
            cases q3
            rw [q2, List.getElem?_map, List.getD_eq_getElem?_getD, List.getElem?_eq_getElem hj]
            rfl
          · rw [List.getElem?_take_eq_none (by omega), List.getElem?_eq_none (by simp; omega)]
        subst hk
        refine (SortL.sort_int b 0 cap xs W (holds_of_blockI h1 ht) hbl (by omega)).mono ?_
        rintro e w' ⟨rfl, n, os, rfl⟩
        have e1 : (xs.mergeSort fun x y => decide (x ≤ y)) = sortL xs := rfl
        rw [e1]
        have hs := sortL_length xs
        obtain ⟨r1, r2⟩ := hR.turn hb (grownBy_sortedI (w := W) (n := n) (os := os) (g := b) (sortL xs).toArray) h1 (heap_sortedI (n := n) (os := os) (sortL xs).toArray h1) (by simp [putCells]) (by simp [putCells]; omega) (take_putCellsI cur (sortL xs) (by omega))
        exact ⟨_, .tup [], _, rfl, hQ, r1, .tup [] #[] rfl (fun i c v hc _ => by simp at hc), r2⟩
      · exact absurd rfl (h0 1)
open Go.Sort in
theorem c_SortN {H : AH} {Q : AV → AH → Prop} (hQ : Q (.tup []) H) : AC Tryz.prog 80 [.nils] H Q := by
  refine ⟨by kernel_rfl, fun W argv hR hA => ?_⟩
  obtain ⟨hlen, hA⟩ := hA
  obtain ⟨l⟩ := argv
  match l, hlen with
  | [x], _ =>
    have h0 := hA 0 .nils x rfl rfl
    cases h0
    refine (SortL.sort_none none 0 W).mono ?_
    rintro e w' ⟨rfl, rfl⟩
    exact ⟨_, .tup [], H, rfl, hQ, hR, .tup [] #[] rfl (fun i c v hc _ => by simp at hc), Stp.refl H _⟩
/-- Sort of a slice of the call's own -/
theorem c_Sort {H0 H : AH} {v : AV} {xs : List Int} {L : List (AV × List AV)} {Q : AV → AH → Prop} (h : Hp H0 H ((v, ints xs) :: L)) (hl : xs.length ≤ 1000) (hQ : ∀ H', Hp H0 H' ((v, ints (sortL xs)) :: L) → Q (.tup []) H') : AC Tryz.prog 80 [v] H Q := by
  rcases h.head with ⟨rfl, h2⟩ | ⟨b, rfl, hb, h0⟩
  · have hx := ints_eq_nil h2
    subst hx
    exact c_SortN (hQ H (by rw [show sortL [] = [] from List.mergeSort_nil]; exact h))
  · rw [ints_length] at h ⊢
    refine c_SortB hb hl (hQ _ ?_)
    have := h.upd (us' := ints (sortL xs)) (by rw [ints_length, ints_length, sortL_length])
    rw [ints_length]
    exact this
theorem c_Values {v : AV} {H : AH} {Q : AV → AH → Prop} (hv : v.isSl = true) (hQ : ∀ b H', Ext H H' → H' b = .rw [v] → Q (.fn 122 [.ptr b 0]) H') : AC Tryz.prog 79 [v] H Q := by
  refine at79 (by simp) ?_
  simp (disch := first | assumption | omega) only [↓RP, RQ, TY, loadT, s79, reduceIte, Nat.reduceEqDiff, Nat.reduceAdd]
  have hs : v.sure = true := by cases v <;> first | rfl | (simp [AV.isSl] at hv)
  have hc : v.cells = [v] := by cases v <;> first | rfl | (simp [AV.isSl] at hv)
  refine ⟨hs, ?_⟩
  rw [hc]
  refine kNew_intro fun b H1 hb hE1 hH1 => ?_
  simp (disch := first | assumption | omega) only [↓RP, RQ, TY, loadT, reduceIte, Nat.reduceEqDiff, Nat.reduceAdd]
  exact hQ b H1 hE1 hH1
theorem c_Collect {H : AH} {bs : Nat} {v : AV} {xs : List Int} {Q : AV → AH → Prop} (hb : H bs = .rw [v]) (hv : Ints H v xs) (hl : xs.length ≤ 1000) (hQ : ∀ w H', Ext H H' → Own H H' w (ints xs) → Q w H') :
    AC Tryz.prog 121 [.fn 122 [.ptr bs 0]] H Q := by
  refine at121 (by simp) ?_
  simp (disch := first | assumption | omega) only [↓RP, RQ, TY, loadT, s121, reduceIte, Nat.reduceEqDiff, Nat.reduceAdd]
  refine c_AppendSeq hb hv hl fun w H' hE ho _ => ?_
  simp (disch := first | assumption | omega) only [↓RP, RQ, TY, loadT, reduceIte, Nat.reduceEqDiff, Nat.reduceAdd]
  exact hQ w H' hE ho
theorem c_Sorted {H : AH} {bs : Nat} {v : AV} {xs : List Int} {Q : AV → AH → Prop} (hb : H bs = .rw [v]) (hv : Ints H v xs) (hl : xs.length ≤ 1000) (hQ : ∀ w H', Ext H H' → Own H H' w (ints (sortL xs)) → Q w H') :
    AC Tryz.prog 78 [.fn 122 [.ptr bs 0]] H Q := by
  refine at78 (by simp) ?_
  simp (disch := first | assumption | omega) only [↓RP, RQ, TY, loadT, s78, reduceIte, Nat.reduceEqDiff, Nat.reduceAdd]
  refine c_Collect hb hv hl fun w H1 hE1 ho1 => ?_
  simp (disch := first | assumption | omega) only [↓RP, RQ, TY, loadT, reduceIte, Nat.reduceEqDiff, Nat.reduceAdd]
  refine c_Sort (H0 := H) ((Hp.nil (Ext.refl H)).made (H1 := H) hE1 ho1) hl fun H2 hp2 => ?_
  simp (disch := first | assumption | omega) only [↓RP, RQ, TY, loadT, reduceIte, Nat.reduceEqDiff, Nat.reduceAdd]
  exact hQ w H2 hp2.ext hp2.head
end Go.Proofs.YtbkpebmcagdgmaaGreat.AM
/-! The law OrderingSteps. -/
namespace Go.Proofs.YtbkpebmcagdgmaaGreat.AM
open Go Go.RowKit
set_option linter.unusedVariables false
set_option linter.unusedSimpArgs false
set_option maxRecDepth 20000
theorem dimP_one {p m : Int} {mod : List Int} (h : (fF p m mod).Ok) {n : Int} (hn : 0 ≤ n) {rows : List (List Int)} (he : Els (fF p m mod) rows) {s t : Nat → Bool} {x : Nat} (hst : ∀ i, i < n.toNat → t i = (s i || decide (i = x))) : dimP p m mod n rows s ≤ dimP p m mod n rows t + 1 ∧ dimP p m mod n rows t ≤ dimP p m mod n rows s + 1 := by
  letI := h.fd
  have a1 := (clo (colV h rows)).R_one (s := s) (t := t) (p := x) hst
  have a2 := (clo (colV h rows)).R_mono (n := n.toNat) (s := s) (t := t) fun i hi q => by rw [hst i hi, q]; rfl
  by_cases hx : x < n.toNat ∧ s x = false
  · have a3 := (clo (colV h rows)).R_one (n := n.toNat) (s := fun i => !t i) (t := fun i => !s i) (p := x) fun i hi => by
      rw [hst i hi]
      by_cases q : i = x
      · subst q; simp [hx.2]
      · simp [q]
    have a4 := (clo (colV h rows)).R_mono (n := n.toNat) (s := fun i => !t i) (t := fun i => !s i) fun i hi q => by
      rw [hst i hi] at q
      simp at q
      simp [q.1]
    rw [dimP, dimP, rankP_R h he, rankP_R h he, rankP_R h he, rankP_R h he]
    omega
  · have e : dimP p m mod n rows t = dimP p m mod n rows s := dimP_congr fun i hi => by
      rw [hst i (by omega)]
      by_cases q : i = x
      · subst q
        have : s i = true := by
          cases hs : s i with
          | true => rfl
          | false => exact absurd ⟨by omega, hs⟩ hx
        simp [this]
      · simp [q]
    omega
theorem dimP_ge {p m n : Int} {mod : List Int} {rows : List (List Int)} (s : Nat → Bool) : -(rows.length : Int) ≤ dimP p m mod n rows s := by rw [dimP]; omega
theorem maskL_len (k : Nat) (s : Nat → Bool) : (maskL k s).length ≤ k := by
  rw [maskL, natsI_length]
  have := List.length_filter_le s (List.range k)
  simpa using this
theorem contains_take_succ {set : List Int} {i : Nat} (hi : i < set.length) (x : Int) : (set.take (i + 1)).contains x = ((set.take i).contains x || decide (set.getD i 0 = x)) := by
  rw [Bool.eq_iff_iff]
  simp only [List.contains_iff_mem, Bool.or_eq_true, decide_eq_true_eq]
  rw [mem_take_succ hi]
  exact or_congr Iff.rfl eq_comm
end Go.Proofs.YtbkpebmcagdgmaaGreat.AM
/-! The law OrderingModular. -/
namespace Go.Proofs.YtbkpebmcagdgmaaGreat.AM
open Go Go.RowKit
set_option linter.unusedVariables false
set_option linter.unusedSimpArgs false
set_option maxRecDepth 20000
theorem dimP_sub {p m : Int} {mod : List Int} (h : (fF p m mod).Ok) {n : Int} {rows : List (List Int)} (he : Els (fF p m mod) rows) (s t : Nat → Bool) : dimP p m mod n rows (fun i => s i || t i) + dimP p m mod n rows (fun i => s i && t i) ≤ dimP p m mod n rows s + dimP p m mod n rows t := by
  letI := h.fd
  have a1 := (clo (colV h rows)).R_sub n.toNat s t
  have a2 := (clo (colV h rows)).R_sub n.toNat (fun i => !s i) (fun i => !t i)
  have e1 : (fun i => !(s i || t i)) = fun i => !s i && !t i := funext fun i => by simp
  have e2 : (fun i => !(s i && t i)) = fun i => !s i || !t i := funext fun i => by simp
  rw [dimP, dimP, dimP, dimP, e1, e2]
  simp only [rankP_R h he]
  omega
theorem count_take_succ {set : List Int} {i : Nat} (hi : i < set.length) (x : Int) : (set.take (i + 1)).count x = (set.take i).count x + if set.getD i 0 = x then 1 else 0 := by
  rw [← take_push 0 hi, List.count_append, List.count_singleton]
  by_cases q : set.getD i 0 = x <;> simp [q]
theorem Subset.count {n : Int} {s : List Int} (h : Subset n s) (x : Int) : s.count x = if s.contains x = true then 1 else 0 := by
  by_cases q : s.contains x = true
  · rw [if_pos q]
    have h1 := List.nodup_iff_count.mp h.nodup x
    have h2 := List.count_pos_iff.mpr (List.contains_iff_mem.mp q)
    omega
  · rw [if_neg q]
    exact List.count_eq_zero.mpr fun w => q (List.contains_iff_mem.mpr w)
theorem maskL_yes {n : Nat} {s : Nat → Bool} (h : s n = true) : maskL (n + 1) s = maskL n s ++ [(n : Int)] := by rw [maskL_succ, if_pos h]
theorem maskL_no {n : Nat} {s : Nat → Bool} (h : s n = false) : maskL (n + 1) s = maskL n s := by rw [maskL_succ, if_neg (by simp [h]), List.append_nil]
theorem count_take_le (s : List Int) (i : Nat) (x : Int) : (s.take i).count x ≤ s.length := Nat.le_trans List.count_le_length (by rw [List.length_take]; omega)
end Go.Proofs.YtbkpebmcagdgmaaGreat.AM
/-! The program's orderings, third part: Greedy; the greedy order as a list. -/
namespace Go.Proofs.YtbkpebmcagdgmaaGreat.AM
open Go Go.RowKit
set_option linter.unusedVariables false
set_option linter.unusedSimpArgs false
set_option maxRecDepth 20000
/-- of some positions the first with the least value, and the value -/
def pickB (d : Nat → Int) (xs : List Nat) (s : Int × Int) : Int × Int := xs.foldl (fun s x => if d x < s.2 then ((x : Int), d x) else s) s
theorem pickB_app {d : Nat → Int} {xs ys : List Nat} {s : Int × Int} : pickB d (xs ++ ys) s = pickB d ys (pickB d xs s) := List.foldl_append
theorem pickB_one {d : Nat → Int} {x : Nat} {s : Int × Int} : pickB d [x] s = if d x < s.2 then ((x : Int), d x) else s := rfl
theorem pickB_ind {d : Nat → Int} {xs : List Nat} {b b' l : Int} (hx : xs ≠ []) (hd : ∀ x, x ∈ xs → d x < l) : pickB d xs (b, l) = pickB d xs (b', l) := by
  cases xs with
  | nil => exact absurd rfl hx
  | cons x xs => simp only [pickB, List.foldl_cons, if_pos (hd x (by simp))]
theorem pickB_mem {d : Nat → Int} : ∀ (xs : List Nat) (s : Int × Int), pickB d xs s = s ∨ ∃ x, x ∈ xs ∧ (pickB d xs s).1 = (x : Int)
  | [], s => .inl rfl
  | x :: xs, s => by
    have e : pickB d (x :: xs) s = pickB d xs (if d x < s.2 then ((x : Int), d x) else s) := rfl
    rw [e]
    rcases pickB_mem xs (if d x < s.2 then ((x : Int), d x) else s) with h | ⟨y, hy, h⟩
    · rw [h]
      by_cases q : d x < s.2
      · rw [if_pos q]; exact .inr ⟨x, by simp, rfl⟩
      · rw [if_neg q]; exact .inl rfl
    · exact .inr ⟨y, by simp [hy], h⟩
theorem perm_mask {n : Nat} {set : List Int} (hp : Poss n set) (hn : set.Nodup) : (set.map Int.toNat).Perm ((List.range n).filter (inL set)) := by
  refine (List.perm_ext_iff_of_nodup ?_ (filter_nodup _ _)).mpr fun a => ?_
  · rw [List.Nodup, List.pairwise_iff_getElem] at hn ⊢
    intro i j hi hj hij q
    simp only [List.length_map] at hi hj
    simp only [List.getElem_map] at q
    have h1 := hp i hi
    have h2 := hp j hj
    simp only [List.getD_eq_getElem?_getD, List.getElem?_eq_getElem hi, List.getElem?_eq_getElem hj, Option.getD_some] at h1 h2
    exact hn i j hi hj hij (by omega)
  · simp only [List.mem_map, List.mem_filter, List.mem_range, inL, List.contains_iff_mem]
    constructor
    · rintro ⟨x, hx, rfl⟩
      obtain ⟨i, hi, rfl⟩ := List.getElem_of_mem hx
      have h1 := hp i hi
      simp only [List.getD_eq_getElem?_getD, List.getElem?_eq_getElem hi, Option.getD_some] at h1
      exact ⟨by omega, by rw [Int.toNat_of_nonneg h1.1]; exact hx⟩
    · rintro ⟨h1, h2⟩
      exact ⟨a, h2, rfl⟩
theorem othersN_len {n : Nat} {set : List Int} (hp : Poss n set) (hn : set.Nodup) : set.length + (othersN n set).length = n := by
  have h1 := (perm_mask hp hn).length_eq
  have h2 := filter_len n (inL set)
  have e : othersN n set = (List.range n).filter fun i => !inL set i := rfl
  rw [e]
  rw [List.length_map] at h1
  omega
theorem mem_others {n : Nat} {set : List Int} {x : Nat} : x ∈ othersN n set ↔ x < n ∧ (x : Int) ∉ set := by
  simp [othersN]
theorem poss_mem {n : Int} {set : List Int} : Poss n set ↔ ∀ x, x ∈ set → 0 ≤ x ∧ x < n := by
  constructor
  · intro h x hx
    obtain ⟨i, hi, rfl⟩ := List.getElem_of_mem hx
    have := h i hi
    simpa only [List.getD_eq_getElem?_getD, List.getElem?_eq_getElem hi, Option.getD_some] using this
  · intro h i hi
    have := h _ (List.getElem_mem hi)
    simpa only [List.getD_eq_getElem?_getD, List.getElem?_eq_getElem hi, Option.getD_some] using this
/-- the value of one position more -/
noncomputable def grD (p m : Int) (mod : List Int) (n : Int) (rows : List (List Int)) (out : List Int) (x : Nat) : Int := dimP p m mod n rows (inL (out ++ [(x : Int)]))
/-- the greedy order's first positions -/
noncomputable def grL (p m : Int) (mod : List Int) (n : Int) (rows : List (List Int)) : Nat → List Int
  | 0 => []
  | k + 1 => grL p m mod n rows k ++ [(pickB (grD p m mod n rows (grL p m mod n rows k)) (othersN n.toNat (grL p m mod n rows k)) (-1, n + 1)).1]
theorem dimP_lt {p m : Int} {mod : List Int} (h : (fF p m mod).Ok) {n : Int} (hn : 1 ≤ n) {rows : List (List Int)} (he : Els (fF p m mod) rows) (s : Nat → Bool) : dimP p m mod n rows s < n + 1 := by
  obtain ⟨h1, h2⟩ := dimP_le h (n := n) (by omega) he s
  omega
theorem nodup_push {l : List Int} {x : Int} (h : l.Nodup) (hx : x ∉ l) : (l ++ [x]).Nodup := by
  rw [List.nodup_append]
  exact ⟨h, by simp, fun a ha b hb => by simp at hb; subst hb; exact fun q => hx (q ▸ ha)⟩
theorem grL_ok {p m : Int} {mod : List Int} (h : (fF p m mod).Ok) {n : Int} (hn : 1 ≤ n) {rows : List (List Int)} (he : Els (fF p m mod) rows) : ∀ k, k ≤ n.toNat → (grL p m mod n rows k).length = k ∧ Poss n (grL p m mod n rows k) ∧ (grL p m mod n rows k).Nodup
  | 0, _ => ⟨rfl, fun i hi => by simp [grL] at hi, by simp [grL]⟩
  | k + 1, hk => by
    obtain ⟨i1, i2, i3⟩ := grL_ok h hn he k (by omega)
    have hl := othersN_len (n := n.toNat) (by rwa [Int.toNat_of_nonneg (by omega)]) i3
    generalize hd : grD p m mod n rows (grL p m mod n rows k) = d
    have hmem : ∃ x, x ∈ othersN n.toNat (grL p m mod n rows k) ∧ (pickB d (othersN n.toNat (grL p m mod n rows k)) (-1, n + 1)).1 = (x : Int) := by
      have hne : othersN n.toNat (grL p m mod n rows k) ≠ [] := fun q => by rw [q] at hl; simp at hl; omega
      have hlt : ∀ x, x ∈ othersN n.toNat (grL p m mod n rows k) → d x < n + 1 := fun x _ => hd ▸ dimP_lt h hn he _
      cases ho : othersN n.toNat (grL p m mod n rows k) with
      | nil => exact absurd ho hne
      | cons a l =>
        have e : pickB d (a :: l) (-1, n + 1) = pickB d l ((a : Int), d a) := by
          simp only [pickB, List.foldl_cons, if_pos (show d a < n + 1 from hlt a (by rw [ho]; simp))]
        rw [e]
        rcases pickB_mem (d := d) l ((a : Int), d a) with w | ⟨y, hy, w⟩
        · exact ⟨a, by simp, by rw [w]⟩
        · exact ⟨y, by simp [hy], w⟩
    obtain ⟨x, hx, hxe⟩ := hmem
    obtain ⟨x1, x2⟩ := mem_others.mp hx
    have e : grL p m mod n rows (k + 1) = grL p m mod n rows k ++ [(x : Int)] := by rw [grL, hd, hxe]
    rw [e]
    refine ⟨by simp [i1], poss_mem.mpr fun y hy => ?_, nodup_push i3 x2⟩
    rcases List.mem_append.mp hy with q | q
    · exact poss_mem.mp i2 y q
    · simp at q; omega
theorem grL_step {p m : Int} {mod : List Int} (h : (fF p m mod).Ok) {n : Int} (hn : 1 ≤ n) {rows : List (List Int)} (he : Els (fF p m mod) rows) {k : Nat} (hk : k < n.toNat) : ∃ x : Nat, (x : Int) < n ∧ (pickB (grD p m mod n rows (grL p m mod n rows k)) (othersN n.toNat (grL p m mod n rows k)) (-1, n + 1)).1 = (x : Int) := by
  obtain ⟨i1, i2, i3⟩ := grL_ok h hn he (k + 1) (by omega)
  have := i2 k (by omega)
  rw [grL, getD_appI, if_neg (by have := (grL_ok h hn he k (by omega)).1; omega), if_pos (grL_ok h hn he k (by omega)).1.symm] at this
  exact ⟨_, by omega, (Int.toNat_of_nonneg this.1).symm⟩
theorem inL_push {l : List Int} {x i : Nat} : inL (l ++ [(x : Int)]) i = (inL l i || decide (x = i)) := by
  rw [Bool.eq_iff_iff]
  simp only [inL, List.contains_iff_mem, List.mem_append, List.mem_singleton, Bool.or_eq_true, decide_eq_true_eq]
  exact or_congr Iff.rfl (by omega)
theorem testBit_push {k x : Nat} {l : List Int} (hk : k.testBit = inL l) : (k ||| 2 ^ x).testBit = inL (l ++ [(x : Int)]) := funext fun i => by
  rw [inL_push, Nat.testBit_or, Nat.testBit_two_pow, hk]
end Go.Proofs.YtbkpebmcagdgmaaGreat.AM
/-! The reference's words: Compare, Same; its greedy order. -/
namespace Go.Proofs.YtbkpebmcagdgmaaGreat.AM
open Go Go.RowKit
set_option linter.unusedVariables false
set_option linter.unusedSimpArgs false
set_option maxRecDepth 20000
theorem natsI_getDn {l : List Nat} {i : Nat} (h : i < l.length) : (natsI l).getD i 0 = ((l.getD i 0 : Nat) : Int) := by
  simp [natsI, List.getD_eq_getElem?_getD, h]
theorem getD_mem' {l : List Nat} {i : Nat} (h : i < l.length) : l.getD i 0 ∈ l := by
  simp [List.getD_eq_getElem?_getD, h]
end Go.Proofs.YtbkpebmcagdgmaaGreat.AM
/-! The program's orderings, fourth part: ordered, width, Width; the reference's IsOrder, Order, Width. -/
namespace Go.Proofs.YtbkpebmcagdgmaaGreat.AM
open Go Go.RowKit
set_option linter.unusedVariables false
set_option linter.unusedSimpArgs false
set_option maxRecDepth 20000
/-- each position once -/
def IsOrd (n : Int) (order : List Int) : Prop := (order.length : Int) = n ∧ Poss n order ∧ order.Nodup
open Classical in
noncomputable def ordErr (p m : Int) (mod : List Int) (n : Int) (rows : List (List Int)) (order : List Int) : Int := if codeErr p m mod n rows ≠ 0 then codeErr p m mod n rows else if IsOrd n order then 0 else 5
/-- what both loops know of the entries so far -/
def SeenB (n : Int) (order : List Int) (i : Nat) (L : List Bool) : Prop := L.length = n.toNat ∧ (∀ j, j < n.toNat → (L.getD j false = true ↔ (j : Int) ∈ order.take i)) ∧ Poss n (order.take i) ∧ (order.take i).Nodup
theorem SeenB.zero {n : Int} {order : List Int} : SeenB n order 0 (List.replicate n.toNat false) := by
  refine ⟨by simp, fun j hj => ?_, fun i hi => by simp at hi, by simp⟩
  simp [List.getD_eq_getElem?_getD, hj]
theorem SeenB.bad {n : Int} {order : List Int} {i : Nat} {L : List Bool} (h : SeenB n order i L) (hi : i < order.length) (hb : order.getD i 0 < 0 ∨ n ≤ order.getD i 0 ∨ L.getD (order.getD i 0).toNat false = true) : ¬ IsOrd n order := by
  rintro ⟨-, q2, q3⟩
  have q := q2 i hi
  rcases hb with b | b | b
  · omega
  · omega
  · have w := (h.2.1 _ (by omega)).mp b
    rw [Int.toNat_of_nonneg q.1] at w
    have e := take_push (l := order) (i := i) 0 hi
    have nd : (order.take (i + 1)).Nodup := List.Nodup.sublist (List.take_sublist _ _) q3
    rw [← e, List.nodup_append] at nd
    exact nd.2.2 _ w _ (by simp) rfl
theorem SeenB.step {n : Int} {order : List Int} {i : Nat} {L : List Bool} (h : SeenB n order i L) (hi : i < order.length) (h0 : 0 ≤ order.getD i 0) (h1 : order.getD i 0 < n) (h2 : L.getD (order.getD i 0).toNat false = false) : SeenB n order (i + 1) (L.set (order.getD i 0).toNat true) := by
  obtain ⟨s1, s2, s3, s4⟩ := h
  have nm : order.getD i 0 ∉ order.take i := fun q => by
    have := (s2 (order.getD i 0).toNat (by omega)).mpr (by rwa [Int.toNat_of_nonneg h0])
    rw [h2] at this
    cases this
  have e := take_push (l := order) (i := i) 0 hi
  refine ⟨by simpa using s1, fun j hj => ?_, ?_, ?_⟩
  · rw [mem_take_succ hi, getD_setN, ← s2 j hj]
    by_cases hjs : j = (order.getD i 0).toNat
    · rw [if_pos ⟨hjs, by omega⟩]
      exact ⟨fun _ => .inr (by omega), fun _ => rfl⟩
    · rw [if_neg (fun q => hjs q.1)]
      constructor
      · exact .inl
      · rintro (q | q)
        · exact q
        · omega
  · rw [← e]
    refine poss_mem.mpr fun y hy => ?_
    rcases List.mem_append.mp hy with q | q
    · exact poss_mem.mp s3 y q
    · simp only [List.mem_singleton] at q; omega
  · rw [← e]
    exact nodup_push s4 nm
theorem SeenB.done {n : Int} {order : List Int} {L : List Bool} {i : Nat} (hl : (order.length : Int) = n) (hi : order.length ≤ i) (h : SeenB n order i L) : IsOrd n order := by
  obtain ⟨s1, s2, s3, s4⟩ := h
  rw [List.take_of_length_le hi] at s3 s4
  exact ⟨hl, s3, s4⟩
theorem c_ordered (A : Alg) {p m n : Int} {md v sv : AV} {mod set : List Int} {us : List AV} {rows : List (List Int)} {H : AH} {Q : AV → AH → Prop} (hm : Ints H md mod) (hlm : mod.length ≤ 9223372036854775807) (hv : Rows H v us rows) (hs : Ints H sv set) (hl : rows.length ≤ 9223372036854775807) (hlr : ∀ i, i < rows.length → (rowAt rows i).length ≤ 9223372036854775807) (hls : set.length ≤ 9223372036854775807)
    (hQ : ∀ H', Ext H H' → Q (.int .i64 (ordErr p m mod n rows set)) H') : AC Tryz.prog 57 [codeV p m md n v, sv] H Q := by
  refine at57 (by simp) ?_
  simp (disch := first | assumption | omega) only [↓RP, RQ, TY, loadT, s57, reduceIte, Nat.reduceEqDiff, Nat.reduceAdd]
  refine kNew_intro fun b H1 hb hE1 hH1 => ?_
  simp (disch := first | assumption | omega) only [↓RP, RQ, TY, loadT, reduceIte, Nat.reduceEqDiff, Nat.reduceAdd, hH1]
  refine c_cCheck A (hm.ext hE1) hlm (hv.ext hE1) hl hlr fun H2 hE2 => ?_
  have hE12 := hE1.trans hE2
  have h2 := hE2.rw hH1
  by_cases h0 : codeErr p m mod n rows = 0
  rotate_left
  · simp (disch := first | assumption | omega) only [↓RP, RQ, TY, loadT, reduceIte, Nat.reduceEqDiff, Nat.reduceAdd, eq_false h0]
    have := hQ H2 hE12
    rwa [ordErr, if_pos h0] at this
  have ca := A.fo.ca h0 (hm.ext hE12) (hv.ext hE12)
  have n1 := ca.n1
  have n64 := ca.n64
  have hs2 := hs.ext hE12
  have no : ¬ IsOrd n set → ∀ H3, Ext H H3 → Q (.int .i64 5) H3 := fun h H3 hE3 => by
    have := hQ H3 hE3
    rwa [ordErr, if_neg (by simpa using h0), if_neg h] at this
  by_cases hlen : (set.length : Int) = n
  rotate_left
  · simp (disch := first | assumption | omega) only [↓RP, RQ, TY, loadT, reduceIte, Nat.reduceEqDiff, Nat.reduceAdd, eq_true h0, h2, hs2.ints, hlen]
    exact no (fun q => hlen q.1) _ hE12
  simp (disch := first | assumption | omega) only [↓RP, RQ, TY, loadT, reduceIte, Nat.reduceEqDiff, Nat.reduceAdd, eq_true h0, h2, hs2.ints, hlen]
  refine kNew_intro fun b4 H4 hb4 hE4 hH4 => ?_
  rw [bools_repl] at hH4
  have hp4 := (((Hp.nil (Ext.refl H)).new hb hE1 hH1 rfl).more hE2).new (n := n.toNat) hb4 hE4 hH4 (by simp [bools_length])
  have hs4 := hs2.ext hE4
  simp (disch := first | assumption | omega) only [↓RP, RQ, TY, loadT, reduceIte, Nat.reduceEqDiff, Nat.reduceAdd, hs4.ints, hlen]
  refine sw_loop (σ := Nat × List Bool) (fun s e H' => e 24 = .int .i64 s.1 ∧ e 23 = .int .i64 n ∧ e 22 = sv ∧ e 6 = .sl b4 0 n.toNat (.own 1) ∧ e 2 = .ptr b 0 ∧ s.1 ≤ set.length ∧ Hp H H' [(.sl b4 0 n.toNat (.own 1), bools s.2), (.sl b 0 5 (.own 1), [.int .i64 p, .int .i64 m, md, .int .i64 n, v])] ∧ SeenB n set s.1 s.2) (fun s => set.length - s.1) (0, List.replicate n.toNat false) ?_ ?_
  · simp (disch := first | assumption | omega) only [↓RP, RQ, TY, loadT, reduceIte, Nat.reduceEqDiff, Nat.reduceAdd]
    exact ⟨by omega, hp4, SeenB.zero⟩
  rintro ⟨i, L⟩ e H' ⟨e24, e23, e22, e6, e2, hi, hp, hseen⟩
  dsimp only at *
  have hs5 := hs.ext hp.ext
  have h5 := (hp.blkOf (y := (.sl b 0 5 (.own 1), [.int .i64 p, .int .i64 m, md, .int .i64 n, v])) (by simp) rfl).1
  have hL5 := (hp.blkOf (y := (.sl b4 0 n.toNat (.own 1), bools L)) (by simp) rfl).1
  by_cases hlt : (i : Int) < n
  · have hi' : i < set.length := by omega
    by_cases c1 : set.getD i 0 < 0
    · simp (disch := first | assumption | omega) only [↓RP, RQ, TY, loadT, reduceIte, Nat.reduceEqDiff, Nat.reduceAdd, e24, e23, e22, e6, e2, hlt, hs5.ints, h5, c1]
      exact no (hseen.bad hi' (.inl c1)) _ hp.ext
    by_cases c2 : n ≤ set.getD i 0
    · simp (disch := first | assumption | omega) only [↓RP, RQ, TY, loadT, reduceIte, Nat.reduceEqDiff, Nat.reduceAdd, e24, e23, e22, e6, e2, hlt, hs5.ints, h5, c1, c2]
      exact no (hseen.bad hi' (.inr (.inl c2))) _ hp.ext
    have hbl := bools_length L
    have hLl := hseen.1
    cases c3 : L.getD (set.getD i 0).toNat false
    · simp (disch := first | assumption | omega) only [↓RP, RQ, TY, loadT, reduceIte, Nat.reduceEqDiff, Nat.reduceAdd, e24, e23, e22, e6, e2, hlt, hs5.ints, h5, c1, c2, hL5, bools_get, c3, bools_set]
      refine ⟨(i + 1, L.set (set.getD i 0).toNat true), ?_, by dsimp only; omega⟩
      simp (disch := first | assumption | omega) only [↓RP, RQ, TY, loadT, reduceIte, Nat.reduceEqDiff, Nat.reduceAdd, e24, e23, e22, e6, e2]
      exact ⟨by omega, hp.upd (by simp [bools_length]), hseen.step hi' (by omega) (by omega) c3⟩
    · simp (disch := first | assumption | omega) only [↓RP, RQ, TY, loadT, reduceIte, Nat.reduceEqDiff, Nat.reduceAdd, e24, e23, e22, e6, e2, hlt, hs5.ints, h5, c1, c2, hL5, bools_get, c3]
      exact no (hseen.bad hi' (.inr (.inr c3))) _ hp.ext
  · simp (disch := first | assumption | omega) only [↓RP, RQ, TY, loadT, reduceIte, Nat.reduceEqDiff, Nat.reduceAdd, e24, e23, e22, e6, e2, hlt]
    have := hQ H' hp.ext
    rwa [ordErr, if_neg (by simpa using h0), if_pos (SeenB.done hlen (by omega) hseen)] at this
theorem c_IsOrder {n : Int} {v : AV} {set : List Int} {H : AH} {Q : AV → AH → Prop} (hn : 0 ≤ n) (hn' : n ≤ 1000) (hs : Ints H v set) (hls : set.length ≤ 9223372036854775807) (hQ : ∀ H', Ext H H' → ∀ w : Bool, (w = true ↔ IsOrd n set) → Q (.bool w) H') : AC Tryz.prog 104 [.int .i64 n, v] H Q := by
  refine at104 (by simp) ?_
  simp (disch := first | assumption | omega) only [↓RP, RQ, TY, loadT, s104, reduceIte, Nat.reduceEqDiff, Nat.reduceAdd]
  have no : ¬ IsOrd n set → ∀ H3, Ext H H3 → Q (.bool false) H3 := fun h H3 hE3 => hQ H3 hE3 false ⟨fun q => (by cases q), fun q => absurd q h⟩
  by_cases hlen : (set.length : Int) = n
  rotate_left
  · simp (disch := first | assumption | omega) only [↓RP, RQ, TY, loadT, reduceIte, Nat.reduceEqDiff, Nat.reduceAdd, hs.ints, hlen]
    exact no (fun q => hlen q.1) _ (Ext.refl H)
  simp (disch := first | assumption | omega) only [↓RP, RQ, TY, loadT, reduceIte, Nat.reduceEqDiff, Nat.reduceAdd, hs.ints, hlen]
  refine kNew_intro fun b4 H4 hb4 hE4 hH4 => ?_
  rw [bools_repl] at hH4
  have hp4 := (Hp.nil (Ext.refl H)).new (n := n.toNat) hb4 hE4 hH4 (by simp [bools_length])
  simp (disch := first | assumption | omega) only [↓RP, RQ, TY, loadT, reduceIte, Nat.reduceEqDiff, Nat.reduceAdd]
  refine sw_loop (σ := Nat × List Bool) (fun s e H' => e 6 = .int .i64 s.1 ∧ e 0 = .int .i64 n ∧ e 1 = v ∧ e 5 = .sl b4 0 n.toNat (.own 1) ∧ s.1 ≤ set.length ∧ Hp H H' [(.sl b4 0 n.toNat (.own 1), bools s.2)] ∧ SeenB n set s.1 s.2) (fun s => set.length - s.1) (0, List.replicate n.toNat false) ?_ ?_
  · simp (disch := first | assumption | omega) only [↓RP, RQ, TY, loadT, reduceIte, Nat.reduceEqDiff, Nat.reduceAdd]
    exact ⟨by omega, hp4, SeenB.zero⟩
  rintro ⟨i, L⟩ e H' ⟨e6, e0, e1, e5, hi, hp, hseen⟩
  dsimp only at *
  have hs5 := hs.ext hp.ext
  have hL5 := (hp.blkOf (y := (.sl b4 0 n.toNat (.own 1), bools L)) (by simp) rfl).1
  by_cases hlt : (i : Int) < n
  · have hi' : i < set.length := by omega
    by_cases c1 : set.getD i 0 < 0
    · simp (disch := first | assumption | omega) only [↓RP, RQ, TY, loadT, reduceIte, Nat.reduceEqDiff, Nat.reduceAdd, e6, e0, e1, e5, hlt, hs5.ints, c1]
      exact no (hseen.bad hi' (.inl c1)) _ hp.ext
    by_cases c2 : n ≤ set.getD i 0
    · simp (disch := first | assumption | omega) only [↓RP, RQ, TY, loadT, reduceIte, Nat.reduceEqDiff, Nat.reduceAdd, e6, e0, e1, e5, hlt, hs5.ints, c1, c2]
      exact no (hseen.bad hi' (.inr (.inl c2))) _ hp.ext
    have hbl := bools_length L
    have hLl := hseen.1
    cases c3 : L.getD (set.getD i 0).toNat false
    · simp (disch := first | assumption | omega) only [↓RP, RQ, TY, loadT, reduceIte, Nat.reduceEqDiff, Nat.reduceAdd, e6, e0, e1, e5, hlt, hs5.ints, c1, c2, hL5, bools_get, c3, bools_set]
      refine ⟨(i + 1, L.set (set.getD i 0).toNat true), ?_, by dsimp only; omega⟩
      simp (disch := first | assumption | omega) only [↓RP, RQ, TY, loadT, reduceIte, Nat.reduceEqDiff, Nat.reduceAdd, e6, e0, e1, e5]
      exact ⟨by omega, hp.upd (by simp [bools_length]), hseen.step hi' (by omega) (by omega) c3⟩
    · simp (disch := first | assumption | omega) only [↓RP, RQ, TY, loadT, reduceIte, Nat.reduceEqDiff, Nat.reduceAdd, e6, e0, e1, e5, hlt, hs5.ints, c1, c2, hL5, bools_get, c3]
      exact no (hseen.bad hi' (.inr (.inr c3))) _ hp.ext
  · simp (disch := first | assumption | omega) only [↓RP, RQ, TY, loadT, reduceIte, Nat.reduceEqDiff, Nat.reduceAdd, e6, e0, e1, e5, hlt]
    exact hQ H' hp.ext true ⟨fun _ => SeenB.done hlen (by omega) hseen, fun _ => rfl⟩
theorem c_Order48 (A : Alg) {p m n : Int} {md v sv : AV} {mod set : List Int} {us : List AV} {rows : List (List Int)} {H : AH} {Q : AV → AH → Prop} (hm : Ints H md mod) (hv : Rows H v us rows) (hs : Ints H sv set) (hl : rows.length ≤ 9223372036854775807) (hlr : ∀ i, i < rows.length → (rowAt rows i).length ≤ 9223372036854775807) (hls : set.length ≤ 9223372036854775807)
    (hQ : ∀ H', Ext H H' → Q (.int .i64 (ordErr p m mod n rows set)) H') : AC Tryz.prog 59 [codeV p m md n v, sv] H Q := by
  refine at59 (by simp) ?_
  simp (disch := first | assumption | omega) only [↓RP, RQ, TY, loadT, s59, reduceIte, Nat.reduceEqDiff, Nat.reduceAdd]
  refine kNew_intro fun b H1 hb hE1 hH1 => ?_
  simp (disch := first | assumption | omega) only [↓RP, RQ, TY, loadT, reduceIte, Nat.reduceEqDiff, Nat.reduceAdd, hH1]
  refine c_Check12 A.fo (hm.ext hE1) (hv.ext hE1) hl hlr fun H2 hE2 => ?_
  have hE12 := hE1.trans hE2
  have h2 := hE2.rw hH1
  by_cases h0 : codeErr p m mod n rows = 0
  rotate_left
  · simp (disch := first | assumption | omega) only [↓RP, RQ, TY, loadT, reduceIte, Nat.reduceEqDiff, Nat.reduceAdd, eq_false h0]
    have := hQ H2 hE12
    rwa [ordErr, if_pos h0] at this
  have ca := A.fo.ca h0 (hm.ext hE12) (hv.ext hE12)
  have n1 := ca.n1
  have n64 := ca.n64
  simp (disch := first | assumption | omega) only [↓RP, RQ, TY, loadT, reduceIte, Nat.reduceEqDiff, Nat.reduceAdd, eq_true h0, h2]
  refine c_IsOrder (by omega) (by omega) (hs.ext hE12) hls fun H3 hE3 w hw => ?_
  have := hQ H3 (hE12.trans hE3)
  cases w
  · simp (disch := first | assumption | omega) only [↓RP, RQ, TY, loadT, reduceIte, Nat.reduceEqDiff, Nat.reduceAdd, eq_true h0]
    rwa [ordErr, if_neg (by simpa using h0), if_neg (fun q => by have := hw.mpr q; cases this)] at this
  · simp (disch := first | assumption | omega) only [↓RP, RQ, TY, loadT, reduceIte, Nat.reduceEqDiff, Nat.reduceAdd, eq_true h0]
    rw [ordErr, if_neg (by simpa using h0), if_pos (hw.mp rfl)] at this
    rw [h0]
    exact this
end Go.Proofs.YtbkpebmcagdgmaaGreat.AM
/-! The widths of an order: the program's width and Width, the reference's Width. -/
namespace Go.Proofs.YtbkpebmcagdgmaaGreat.AM
open Go Go.RowKit
set_option linter.unusedVariables false
set_option linter.unusedSimpArgs false
set_option maxRecDepth 20000
/-- the width of an order's beginnings up to one -/
noncomputable def widL (p m : Int) (mod : List Int) (n : Int) (rows : List (List Int)) (order : List Int) : Nat → Int
  | 0 => 0
  | k + 1 => max (widL p m mod n rows order k) (dimP p m mod n rows (inL (order.take (k + 1))))
open Classical in
noncomputable def widVal (p m : Int) (mod : List Int) (n : Int) (rows : List (List Int)) (order : List Int) : Int := if ordErr p m mod n rows order = 0 then widL p m mod n rows order order.length else 0
theorem ordErr_iff {p m n : Int} {mod set : List Int} {rows : List (List Int)} : ordErr p m mod n rows set = 0 ↔ codeErr p m mod n rows = 0 ∧ IsOrd n set := by
  constructor
  · intro h
    rw [ordErr] at h
    split at h
    · contradiction
    · rename_i q
      split at h
      · rename_i w; exact ⟨by simpa using q, w⟩
      · cases h
  · rintro ⟨h1, h2⟩
    rw [ordErr, if_neg (by simpa using h1), if_pos h2]
theorem IsOrd.take {n : Int} {order : List Int} (h : IsOrd n order) (i : Nat) : Poss n (order.take i) ∧ (order.take i).Nodup := ⟨poss_mem.mpr fun y hy => poss_mem.mp h.2.1 y (List.mem_of_mem_take hy), List.Nodup.sublist (List.take_sublist _ _) h.2.2⟩
theorem widL_bd {p m : Int} {mod : List Int} (h : (fF p m mod).Ok) {n : Int} (hn : 1 ≤ n) {rows : List (List Int)} (he : Els (fF p m mod) rows) (order : List Int) : ∀ k, 0 ≤ widL p m mod n rows order k ∧ widL p m mod n rows order k ≤ n
  | 0 => ⟨by rw [widL]; omega, by rw [widL]; omega⟩
  | k + 1 => by
    obtain ⟨h1, h2⟩ := widL_bd h hn he order k
    have := dimP_lt h hn he (inL (order.take (k + 1)))
    rw [widL]
    omega
theorem dimP_empty {p m : Int} {mod : List Int} (h : (fF p m mod).Ok) {n : Int} {rows : List (List Int)} (he : Els (fF p m mod) rows) : dimP p m mod n rows (inL []) ≤ 0 := by
  letI := h.fd
  have a1 := (clo (colV h rows)).R_le n.toNat (inL [])
  have a2 := R_le_rows h (n := n.toNat) he (fun i => !inL [] i)
  have e : (List.range n.toNat).filter (inL []) = [] := List.filter_eq_nil_iff.mpr fun a _ => by simp [inL]
  rw [e, List.length_nil] at a1
  rw [dimP, rankP_R h he, rankP_R h he]
  omega
theorem c_owidth (A : Alg) {p m n : Int} {md v sv : AV} {mod set : List Int} {us : List AV} {rows : List (List Int)} {H : AH} {Q : AV → AH → Prop} (hm : Ints H md mod) (hlm : mod.length ≤ 9223372036854775807) (hv : Rows H v us rows) (hs : Ints H sv set) (h0 : codeErr p m mod n rows = 0) (ho : IsOrd n set)
    (hQ : ∀ H', Ext H H' → Q (.int .i64 (widL p m mod n rows set set.length)) H') : AC Tryz.prog 58 [codeV p m md n v, sv] H Q := by
  have ca := A.fo.ca h0 hm hv
  have n1 := ca.n1
  have n64 := ca.n64
  have ok := ca.fa.ok
  have els := ca.els
  have hl := ho.1
  refine at58 (by simp) ?_
  simp (disch := first | assumption | omega) only [↓RP, RQ, TY, loadT, s58, reduceIte, Nat.reduceEqDiff, Nat.reduceAdd]
  refine kNew_intro fun b H1 hb hE1 hH1 => ?_
  have hs1 := hs.ext hE1
  simp (disch := first | assumption | omega) only [↓RP, RQ, TY, loadT, reduceIte, Nat.reduceEqDiff, Nat.reduceAdd, hs1.ints]
  refine sw_loop (σ := Nat × Nat) (fun s e H' => e 11 = .int .i64 s.1 ∧ e 10 = .int .i64 set.length ∧ e 9 = sv ∧ e 2 = .ptr b 0 ∧ e 6 = .int .i64 (widL p m mod n rows set s.1) ∧ e 5 = .int .u64 (s.2 : Nat) ∧ s.1 ≤ set.length ∧ s.2 < 18446744073709551616 ∧ s.2.testBit = inL (set.take s.1) ∧ Ext H1 H') (fun s => set.length - s.1) (0, 0) ?_ ?_
  · simp (disch := first | assumption | omega) only [↓RP, RQ, TY, loadT, reduceIte, Nat.reduceEqDiff, Nat.reduceAdd]
    exact ⟨rfl, by omega, by omega, funext fun i => by simp [inL], Ext.refl _⟩
  rintro ⟨t, k⟩ e H2 ⟨e11, e10, e9, e2, e6, e5, ht, hk, hbit, hE2⟩
  dsimp only at *
  have hE12 := hE1.trans hE2
  have h2 := hE2.rw hH1
  have hs2 := hs1.ext hE2
  by_cases hlt : (t : Int) < set.length
  · have hp := ho.2.1 t (by omega)
    obtain ⟨x, hx⟩ : ∃ x : Nat, set.getD t 0 = x := ⟨(set.getD t 0).toNat, by omega⟩
    obtain ⟨o1, o2⟩ := bit_or (k := k) (x := x) hk (by omega)
    have xlt : x < 64 := by omega
    have htk := take_push (l := set) (i := t) 0 (by omega)
    rw [hx] at htk
    have htb : (k ||| 2 ^ x).testBit = inL (set.take (t + 1)) := by rw [← htk]; exact testBit_push hbit
    simp (disch := first | assumption | omega) only [↓RP, RQ, TY, loadT, reduceIte, Nat.reduceEqDiff, Nat.reduceAdd, e11, e10, e9, e2, e6, e5, hlt, hs2.ints, h2, hx, o1]
    refine c_odim A (hm.ext hE12) hlm (hv.ext hE12) h0 o2 fun H3 hE3 => ?_
    have hde : (rankP p m mod n rows (k ||| 2 ^ x).testBit : Int) + rankP p m mod n rows (fun j => !(k ||| 2 ^ x).testBit j) - rows.length = dimP p m mod n rows (inL (set.take (t + 1))) := by
      rw [htb]; rfl
    rw [hde]
    simp (disch := first | assumption | omega) only [↓RP, RQ, TY, loadT, reduceIte, Nat.reduceEqDiff, Nat.reduceAdd, e11, e10, e9, e2, e6, e5]
    refine ⟨(t + 1, k ||| 2 ^ x), ?_, by dsimp only; omega⟩
    simp (disch := first | assumption | omega) only [↓RP, RQ, TY, loadT, reduceIte, Nat.reduceEqDiff, Nat.reduceAdd, e11, e10, e9, e2, e6, e5]
    exact ⟨by rw [widL]; congr 1; split <;> omega, by omega, o2, htb, hE2.trans hE3⟩
  · rw [show t = set.length by omega] at e6
    simp (disch := first | assumption | omega) only [↓RP, RQ, TY, loadT, reduceIte, Nat.reduceEqDiff, Nat.reduceAdd, e11, e10, e9, e2, e6, e5, hlt]
    exact hQ H2 hE12
theorem c_OWidth (A : Alg) {p m n : Int} {md v sv : AV} {mod set : List Int} {us : List AV} {rows : List (List Int)} {H : AH} {Q : AV → AH → Prop} (hm : Ints H md mod) (hlm : mod.length ≤ 9223372036854775807) (hv : Rows H v us rows) (hs : Ints H sv set) (hl : rows.length ≤ 9223372036854775807) (hlr : ∀ i, i < rows.length → (rowAt rows i).length ≤ 9223372036854775807) (hls : set.length ≤ 9223372036854775807)
    (hQ : ∀ H', Ext H H' → Q (.tup [.int .i64 (widVal p m mod n rows set), .int .i64 (ordErr p m mod n rows set)]) H') : AC Tryz.prog 14 [codeV p m md n v, sv] H Q := by
  refine at14 (by simp) ?_
  simp (disch := first | assumption | omega) only [↓RP, RQ, TY, loadT, s14, reduceIte, Nat.reduceEqDiff, Nat.reduceAdd]
  refine kNew_intro fun b H1 hb hE1 hH1 => ?_
  simp (disch := first | assumption | omega) only [↓RP, RQ, TY, loadT, reduceIte, Nat.reduceEqDiff, Nat.reduceAdd, hH1]
  refine c_ordered A (hm.ext hE1) hlm (hv.ext hE1) (hs.ext hE1) hl hlr hls fun H2 hE2 => ?_
  have hE12 := hE1.trans hE2
  have h2 := hE2.rw hH1
  by_cases h0 : ordErr p m mod n rows set = 0
  · obtain ⟨q1, q2⟩ := ordErr_iff.mp h0
    simp (disch := first | assumption | omega) only [↓RP, RQ, TY, loadT, reduceIte, Nat.reduceEqDiff, Nat.reduceAdd, eq_true h0, h0, h2]
    refine c_owidth A (hm.ext hE12) hlm (hv.ext hE12) (hs.ext hE12) q1 q2 fun H3 hE3 => ?_
    simp (disch := first | assumption | omega) only [↓RP, RQ, TY, loadT, reduceIte, Nat.reduceEqDiff, Nat.reduceAdd]
    have := hQ H3 (hE12.trans hE3)
    rwa [widVal, if_pos h0, h0] at this
  · simp (disch := first | assumption | omega) only [↓RP, RQ, TY, loadT, reduceIte, Nat.reduceEqDiff, Nat.reduceAdd, eq_false h0]
    have := hQ H2 hE12
    rwa [widVal, if_neg h0] at this
theorem c_Width48 (A : Alg) {p m n : Int} {md v sv : AV} {mod set : List Int} {us : List AV} {rows : List (List Int)} {H : AH} {Q : AV → AH → Prop} (hm : Ints H md mod) (hv : Rows H v us rows) (hs : Ints H sv set) (hl : rows.length ≤ 9223372036854775807) (hlr : ∀ i, i < rows.length → (rowAt rows i).length ≤ 9223372036854775807) (hls : set.length ≤ 9223372036854775807)
    (hQ : ∀ H', Ext H H' → Q (.tup [.int .i64 (widVal p m mod n rows set), .int .i64 (ordErr p m mod n rows set)]) H') : AC Tryz.prog 15 [codeV p m md n v, sv] H Q := by
  refine at15 (by simp) ?_
  simp (disch := first | assumption | omega) only [↓RP, RQ, TY, loadT, s15, reduceIte, Nat.reduceEqDiff, Nat.reduceAdd]
  refine kNew_intro fun b H1 hb hE1 hH1 => ?_
  simp (disch := first | assumption | omega) only [↓RP, RQ, TY, loadT, reduceIte, Nat.reduceEqDiff, Nat.reduceAdd, hH1]
  refine c_Order48 A (hm.ext hE1) (hv.ext hE1) (hs.ext hE1) hl hlr hls fun H2 hE2 => ?_
  have hE12 := hE1.trans hE2
  have h2 := hE2.rw hH1
  by_cases h0 : ordErr p m mod n rows set = 0
  rotate_left
  · simp (disch := first | assumption | omega) only [↓RP, RQ, TY, loadT, reduceIte, Nat.reduceEqDiff, Nat.reduceAdd, eq_false h0]
    have := hQ H2 hE12
    rwa [widVal, if_neg h0] at this
  obtain ⟨q1, q2⟩ := ordErr_iff.mp h0
  have ca := A.fo.ca q1 (hm.ext hE12) (hv.ext hE12)
  have n1 := ca.n1
  have n64 := ca.n64
  have ok := ca.fa.ok
  have els := ca.els
  have hl := q2.1
  have hs2 := hs.ext hE12
  simp (disch := first | assumption | omega) only [↓RP, RQ, TY, loadT, reduceIte, Nat.reduceEqDiff, Nat.reduceAdd, eq_true h0, h2]
  refine sw_loop (σ := Nat) (fun i e H' => e 8 = .int .i64 i ∧ e 7 = .int .i64 (widL p m mod n rows set (i - 1)) ∧ e 2 = .ptr b 0 ∧ e 1 = sv ∧ i ≤ n.toNat + 1 ∧ Ext H2 H') (fun i => n.toNat + 1 - i) 0 ?_ ?_
  · simp (disch := first | assumption | omega) only [↓RP, RQ, TY, loadT, reduceIte, Nat.reduceEqDiff, Nat.reduceAdd]
    exact ⟨rfl, by omega, Ext.refl _⟩
  rintro i e H3 ⟨e8, e7, e2, e1, hi, hE3⟩
  have h3 := hE3.rw h2
  have hE13 := hE12.trans hE3
  have hs3 := hs2.ext hE3
  by_cases hlt : (i : Int) ≤ n
  · have htn := hs3.taken (n := i) (by rw [ints_length]; omega)
    rw [show (ints set).take i = ints (set.take i) by simp [ints, List.map_take]] at htn
    obtain ⟨t1, t2⟩ := q2.take i
    have hil := ints_length set
    simp (disch := first | assumption | omega) only [↓RP, RQ, TY, loadT, reduceIte, Nat.reduceEqDiff, Nat.reduceAdd, e8, e7, e2, e1, hlt, h3, hs3.slice, m_nat]
    refine c_Of (ca.ext hE3) htn t1 (by rw [List.length_take]; omega) fun H4 hE4 => ?_
    rw [dimS_eq ok (by omega) els t1 t2]
    simp (disch := first | assumption | omega) only [↓RP, RQ, TY, loadT, reduceIte, Nat.reduceEqDiff, Nat.reduceAdd, e8, e7, e2, e1]
    refine ⟨i + 1, ?_, by dsimp only; omega⟩
    simp (disch := first | assumption | omega) only [↓RP, RQ, TY, loadT, reduceIte, Nat.reduceEqDiff, Nat.reduceAdd, e8, e7, e2, e1]
    refine ⟨?_, by omega, hE3.trans hE4⟩
    rw [Nat.add_sub_cancel]
    cases i with
    | zero =>
      have hd := dimP_empty ok (n := n) els
      rw [List.take_zero, widL]
      congr 1
      split <;> omega
    | succ i =>
      rw [Nat.add_sub_cancel, widL]
      congr 1
      split <;> omega
  · rw [show i = set.length + 1 by omega, Nat.add_sub_cancel] at e7
    simp (disch := first | assumption | omega) only [↓RP, RQ, TY, loadT, reduceIte, Nat.reduceEqDiff, Nat.reduceAdd, e8, e7, e2, e1, hlt, h3]
    have := hQ H3 hE13
    rwa [widVal, if_pos h0, h0] at this
end Go.Proofs.YtbkpebmcagdgmaaGreat.AM
/-! The program's trellises: span, ranks, Profile. -/
namespace Go.Proofs.YtbkpebmcagdgmaaGreat.AM
open Go Go.RowKit
set_option linter.unusedVariables false
set_option linter.unusedSimpArgs false
set_option maxRecDepth 20000
/-- the numbers from lo on, k of them -/
def spanI (lo k : Nat) : List Int := tabN k fun j => ((lo + j : Nat) : Int)
theorem spanI_length (lo k : Nat) : (spanI lo k).length = k := tabN_length _ _
theorem spanI_succ (lo k : Nat) : spanI lo (k + 1) = spanI lo k ++ [((lo + k : Nat) : Int)] := by simp [spanI, tabN, List.range_succ]
theorem c_span {lo hi : Nat} {H : AH} {Q : AV → AH → Prop} (hh : hi ≤ 1000) (hQ : ∀ w H', Ext H H' → Own H H' w (ints (spanI lo (hi - lo))) → Q w H') : AC Tryz.prog 110 [.int .i64 lo, .int .i64 hi] H Q := by
  refine at110 (by simp) ?_
  simp (disch := first | assumption | omega) only [↓RP, RQ, TY, loadT, s110, reduceIte, Nat.reduceEqDiff, Nat.reduceAdd]
  refine sw_loop (σ := Nat × AV) (fun s e H' => e 6 = .int .i64 ((lo + s.1 : Nat) : Int) ∧ e 1 = .int .i64 hi ∧ e 5 = s.2 ∧ (0 < s.1 → lo + s.1 ≤ hi) ∧ Hp H H' [(s.2, ints (spanI lo s.1))]) (fun s => hi - (lo + s.1)) (0, .nils) ?_ ?_
  · simp (disch := first | assumption | omega) only [↓RP, RQ, TY, loadT, reduceIte, Nat.reduceEqDiff, Nat.reduceAdd]
    exact ⟨by omega, (Hp.nil (Ext.refl H)).nils⟩
  rintro ⟨k, w⟩ e H1 ⟨e6, e1, e5, hk, hp⟩
  dsimp only at *
  by_cases hlt : ((lo + k : Nat) : Int) < hi
  · have sl := spanI_length lo k
    have hnx : ((lo + k : Nat) : Int) + 1 = ((lo + (k + 1) : Nat) : Int) := by omega
    simp (disch := first | assumption | omega) only [↓RP, RQ, TY, loadT, reduceIte, Nat.reduceEqDiff, Nat.reduceAdd, e6, e1, e5, hlt]
    refine kNew_intro fun b2 H2 hb2 hE2 hH2 => ?_
    simp (disch := first | assumption | omega) only [↓RP, RQ, TY, loadT, reduceIte, Nat.reduceEqDiff, Nat.reduceAdd, e6, e1, e5]
    refine kApp_hp (us := ints [((lo + k : Nat) : Int)]) (hp.more hE2) (Sl.own hH2 rfl) ints_ones (by rw [ints_length, ints_length, List.length_singleton]; omega) (by rw [ints_length, ints_length, List.length_singleton]; omega) fun v3 H3 hp3 => ?_
    rw [ints_app, ← spanI_succ] at hp3
    simp (disch := first | assumption | omega) only [↓RP, RQ, TY, loadT, reduceIte, Nat.reduceEqDiff, Nat.reduceAdd, e6, e1, e5, hnx]
    refine ⟨(k + 1, v3), ?_, by dsimp only; omega⟩
    simp (disch := first | assumption | omega) only [↓RP, RQ, TY, loadT, reduceIte, Nat.reduceEqDiff, Nat.reduceAdd, e6, e1, e5]
    exact ⟨by omega, hp3⟩
  · simp (disch := first | assumption | omega) only [↓RP, RQ, TY, loadT, reduceIte, Nat.reduceEqDiff, Nat.reduceAdd, e6, e1, e5, hlt]
    refine hQ w H1 hp.ext ?_
    by_cases q : k = 0
    · subst q
      rw [show hi - lo = 0 by omega]; exact hp.head
    · rw [show hi - lo = k by have := hk (by omega); omega]; exact hp.head
theorem span_sub {n : Int} {lo k : Nat} (h : ((lo + k : Nat) : Int) ≤ n) : Subset n (spanI lo k) := fun i hi => by
  rw [spanI_length] at hi
  rw [spanI, tabN_getD _ hi]
  refine ⟨by omega, by omega, fun h0 => ?_⟩
  rw [tabN_getD _ (by omega)]
  omega
theorem range_lt {n i : Nat} (h : i ≤ n) : (List.range n).filter (fun j => decide (j < i)) = List.range i := by
  obtain ⟨k, rfl⟩ : ∃ k, n = i + k := ⟨n - i, by omega⟩
  rw [List.range_add, List.filter_append, List.filter_eq_self.mpr (fun a ha => by simpa using ha), List.filter_eq_nil_iff.mpr, List.append_nil]
  intro a ha
  obtain ⟨j, -, rfl⟩ := List.mem_map.mp ha
  simp
theorem range_ge {n i : Nat} (h : i ≤ n) : (List.range n).filter (fun j => !decide (j < i)) = (List.range (n - i)).map (i + ·) := by
  obtain ⟨k, rfl⟩ : ∃ k, n = i + k := ⟨n - i, by omega⟩
  rw [List.range_add, List.filter_append, List.filter_eq_nil_iff.mpr, List.nil_append, List.filter_eq_self.mpr, show i + k - i = k by omega]
  · intro a ha
    obtain ⟨j, -, rfl⟩ := List.mem_map.mp ha
    simp
  · intro a ha
    simpa using ha
theorem span_mask {n i : Nat} (h : i ≤ n) : spanI 0 i = maskL n (fun j => decide (j < i)) := by
  rw [maskL, range_lt h, spanI, tabN, natsI]
  simp
theorem span_mask' {n i : Nat} (h : i ≤ n) : spanI i (n - i) = maskL n (fun j => !decide (j < i)) := by
  rw [maskL, range_ge h, spanI, tabN, natsI, List.map_map]
  rfl
theorem rankP_le' {p m : Int} {mod : List Int} (h : (fF p m mod).Ok) {n : Int} {rows : List (List Int)} (he : Els (fF p m mod) rows) (s : Nat → Bool) : rankP p m mod n rows s ≤ rows.length := by
  letI := h.fd
  rw [rankP_R h he]
  exact R_le_rows h he s
theorem c_ranks (A : Alg) {p m n : Int} {md v : AV} {mod : List Int} {us : List AV} {rows : List (List Int)} {i : Nat} {H : AH} {Q : AV → AH → Prop} (hm : Ints H md mod) (hlm : mod.length ≤ 9223372036854775807) (hv : Rows H v us rows) (h0 : codeErr p m mod n rows = 0) (hi : (i : Int) ≤ n)
    (hQ : ∀ H', Ext H H' → Q (.tup [.int .i64 (rankP p m mod n rows (fun j => decide (j < i)) : Nat), .int .i64 (rankP p m mod n rows (fun j => !decide (j < i)) : Nat)]) H') : AC Tryz.prog 64 [codeV p m md n v, .int .i64 i] H Q := by
  have ca := A.fo.ca h0 hm hv
  have n1 := ca.n1
  have n64 := ca.n64
  have kn := ca.kn
  have hlr : ∀ i, i < rows.length → (rowAt rows i).length ≤ 9223372036854775807 := fun i hi => by rw [ca.rect i hi]; omega
  obtain ⟨N, rfl⟩ : ∃ N : Nat, n = N := ⟨n.toNat, by omega⟩
  have hn : ((N : Int)).toNat = N := Int.toNat_natCast N
  have e1 : rkErr p m mod N rows (spanI 0 (i - 0)) = 0 := by rw [rkErr, if_neg (by simpa using h0), if_pos (span_sub (by omega))]
  have e2 : rkErr p m mod N rows (spanI i (N - i)) = 0 := by rw [rkErr, if_neg (by simpa using h0), if_pos (span_sub (by omega))]
  have v1 : rkVal p m mod N rows (spanI 0 (i - 0)) = (rankP p m mod N rows (fun j => decide (j < i)) : Nat) := by
    rw [rkVal, if_pos e1, Nat.sub_zero, span_mask (n := N) (by omega)]; rfl
  have v2 : rkVal p m mod N rows (spanI i (N - i)) = (rankP p m mod N rows (fun j => !decide (j < i)) : Nat) := by
    rw [rkVal, if_pos e2, span_mask' (n := N) (by omega)]; rfl
  refine at64 (by simp) ?_
  simp (disch := first | assumption | omega) only [↓RP, RQ, TY, loadT, s64, reduceIte, Nat.reduceEqDiff, Nat.reduceAdd]
  refine kNew_intro fun b H1 hb hE1 hH1 => ?_
  simp (disch := first | assumption | omega) only [↓RP, RQ, TY, loadT, reduceIte, Nat.reduceEqDiff, Nat.reduceAdd, hH1]
  refine c_span (lo := 0) (hi := i) (by omega) fun w2 H2 hE2 ho2 => ?_
  have hE12 := hE1.trans hE2
  have h2 := hE2.rw hH1
  simp (disch := first | assumption | omega) only [↓RP, RQ, TY, loadT, reduceIte, Nat.reduceEqDiff, Nat.reduceAdd, h2]
  refine c_Rank A (hm.ext hE12) hlm (hv.ext hE12) (by omega) hlr ho2.sl (by rw [spanI_length]; omega) fun H3 hE3 => ?_
  rw [e1, v1]
  have hE13 := hE12.trans hE3
  have h3 := hE3.rw h2
  simp (disch := first | assumption | omega) only [↓RP, RQ, TY, loadT, reduceIte, Nat.reduceEqDiff, Nat.reduceAdd, h3]
  refine c_span (lo := i) (hi := N) (by omega) fun w4 H4 hE4 ho4 => ?_
  have hE14 := hE13.trans hE4
  have h4 := hE4.rw h3
  simp (disch := first | assumption | omega) only [↓RP, RQ, TY, loadT, reduceIte, Nat.reduceEqDiff, Nat.reduceAdd, h4]
  refine c_Rank A (hm.ext hE14) hlm (hv.ext hE14) (by omega) hlr ho4.sl (by rw [spanI_length]; omega) fun H5 hE5 => ?_
  rw [e2, v2]
  simp (disch := first | assumption | omega) only [↓RP, RQ, TY, loadT, reduceIte, Nat.reduceEqDiff, Nat.reduceAdd]
  exact hQ H5 (hE14.trans hE5)
/-- the dimensions of the beginnings -/
noncomputable def profL (p m : Int) (mod : List Int) (n : Int) (rows : List (List Int)) : List Int := tabN (n.toNat + 1) fun i => dimP p m mod n rows (fun j => decide (j < i))
theorem c_Profile (A : Alg) {p m n : Int} {md v : AV} {mod : List Int} {us : List AV} {rows : List (List Int)} {H : AH} {Q : AV → AH → Prop} (hm : Ints H md mod) (hlm : mod.length ≤ 9223372036854775807) (hv : Rows H v us rows) (h0 : codeErr p m mod n rows = 0)
    (hQ : ∀ w H', Ext H H' → Own H H' w (ints (profL p m mod n rows)) → Q (.tup [w, .int .i64 0]) H') : AC Tryz.prog 18 [codeV p m md n v] H Q := by
  have ca := A.fo.ca h0 hm hv
  have n1 := ca.n1
  have n64 := ca.n64
  have kn := ca.kn
  have ok := ca.fa.ok
  have els := ca.els
  have hlr : ∀ i, i < rows.length → (rowAt rows i).length ≤ 9223372036854775807 := fun i hi => by rw [ca.rect i hi]; omega
  refine at18 (by simp) ?_
  simp (disch := first | assumption | omega) only [↓RP, RQ, TY, loadT, s18, reduceIte, Nat.reduceEqDiff, Nat.reduceAdd]
  refine kNew_intro fun b H1 hb hE1 hH1 => ?_
  simp (disch := first | assumption | omega) only [↓RP, RQ, TY, loadT, reduceIte, Nat.reduceEqDiff, Nat.reduceAdd, hH1]
  refine c_cCheck A (hm.ext hE1) hlm (hv.ext hE1) (by omega) hlr fun H2 hE2 => ?_
  have hE12 := hE1.trans hE2
  have h2 := hE2.rw hH1
  have hp2 := ((Hp.nil (Ext.refl H)).new hb hE1 hH1 rfl).more hE2
  obtain ⟨N, hN⟩ : ∃ N : Nat, n = N := ⟨n.toNat, by omega⟩
  subst hN
  obtain ⟨M, hM⟩ : ∃ M, N + 1 = M := ⟨_, rfl⟩
  have hN1 : (N : Int) + 1 = (M : Int) := by omega
  rw [h0]
  simp (disch := first | assumption | omega) only [↓RP, RQ, TY, loadT, reduceIte, Nat.reduceEqDiff, Nat.reduceAdd, h2, hN1, Int.reduceEq, Int.reduceNe, Int.toNat_natCast]
  refine kNew_intro fun b3 H3 hb3 hE3 hH3 => ?_
  rw [ints_rep] at hH3
  have hp3 := hp2.new (n := M) hb3 hE3 hH3 (by simp [ints_length])
  simp (disch := first | assumption | omega) only [↓RP, RQ, TY, loadT, reduceIte, Nat.reduceEqDiff, Nat.reduceAdd]
  refine sw_loop (σ := Nat × List Int) (fun s e H' => e 20 = .int .i64 s.1 ∧ e 19 = .int .i64 (M : Int) ∧ e 5 = .sl b3 0 M (.own 1) ∧ e 1 = .ptr b 0 ∧ s.1 ≤ M ∧ s.2.length = M ∧ (∀ j, j < s.1 → s.2.getD j 0 = dimP p m mod N rows (fun k => decide (k < j))) ∧ Hp H H' [(.sl b3 0 M (.own 1), ints s.2), (.sl b 0 5 (.own 1), [.int .i64 p, .int .i64 m, md, .int .i64 N, v])]) (fun s => M - s.1) (0, List.replicate M 0) ?_ ?_
  · simp (disch := first | assumption | omega) only [↓RP, RQ, TY, loadT, reduceIte, Nat.reduceEqDiff, Nat.reduceAdd]
    exact ⟨by omega, by simp, fun j hj => by omega, hp3⟩
  rintro ⟨t, L⟩ e H4 ⟨e20, e19, e5, e1, ht, hL, hLs, hp⟩
  dsimp only at *
  have h4 := (hp.blkOf (y := (.sl b 0 5 (.own 1), [.int .i64 p, .int .i64 m, md, .int .i64 N, v])) (by simp) rfl).1
  have hE4 := hp.ext
  by_cases hlt : (t : Int) < (M : Int)
  · simp (disch := first | assumption | omega) only [↓RP, RQ, TY, loadT, reduceIte, Nat.reduceEqDiff, Nat.reduceAdd, e20, e19, e5, e1, hlt, h4]
    refine c_ranks A (hm.ext hE4) hlm (hv.ext hE4) h0 (by omega) fun H5 hE5 => ?_
    have hp5 := hp.more hE5
    have h5 := hE5.rw h4
    have hL5 := (hp5.blkOf (y := (.sl b3 0 M (.own 1), ints L)) (by simp) rfl).1
    have hil := ints_length L
    have hv5 := hv.ext (hE4.trans hE5)
    have r1 := rankP_le' ok (n := N) els (fun j => decide (j < t))
    have r2 := rankP_le' ok (n := N) els (fun j => !decide (j < t))
    have hd : ((rankP p m mod N rows (fun j => decide (j < t)) : Nat) : Int) + (rankP p m mod N rows (fun j => !decide (j < t)) : Nat) - rows.length = dimP p m mod N rows (fun j => decide (j < t)) := rfl
    simp (disch := first | assumption | omega) only [↓RP, RQ, TY, loadT, reduceIte, Nat.reduceEqDiff, Nat.reduceAdd, e20, e19, e5, e1, h5, hv5.run, hL5, ints_set]
    rw [hd]
    refine ⟨(t + 1, L.set t (dimP p m mod N rows (fun j => decide (j < t)))), ?_, by dsimp only; omega⟩
    simp (disch := first | assumption | omega) only [↓RP, RQ, TY, loadT, reduceIte, Nat.reduceEqDiff, Nat.reduceAdd, e20, e19, e5, e1]
    refine ⟨by omega, by simpa using hL, fun j hj => ?_, hp5.upd (by simp [ints_length])⟩
    rw [getD_setN]
    by_cases q : j = t
    · rw [if_pos ⟨q, by omega⟩, q]
    · rw [if_neg (fun w => q w.1)]
      exact hLs j (by omega)
  · rw [show t = M by omega] at hLs
    have hLe : L = profL p m mod N rows := by
      rw [profL, Int.toNat_natCast, hM]
      refine List.ext_getElem (by rw [hL, tabN_length]) fun i h1 h2 => ?_
      have := hLs i (by omega)
      rw [List.getD_eq_getElem?_getD, List.getElem?_eq_getElem h1, Option.getD_some] at this
      rw [this]
      simp [tabN]
    rw [hLe] at hp
    simp (disch := first | assumption | omega) only [↓RP, RQ, TY, loadT, reduceIte, Nat.reduceEqDiff, Nat.reduceAdd, e20, e19, e5, e1, hlt]
    exact hQ _ H4 hp.ext hp.head
end Go.Proofs.YtbkpebmcagdgmaaGreat.AM
/-! The program's codes, second part: New; permuted codes. -/
namespace Go.Proofs.YtbkpebmcagdgmaaGreat.AM
open Go Go.RowKit
set_option linter.unusedVariables false
set_option linter.unusedSimpArgs false
set_option maxRecDepth 20000
theorem c_Canonical2 (A : Alg) {p m cols : Int} {md v : AV} {mod : List Int} {us : List AV} {rows : List (List Int)} {H : AH} {Q : AV → AH → Prop} (hm : Ints H md mod) (hlm : mod.length ≤ 9223372036854775807) (hv : Rows H v us rows) (hl : rows.length ≤ 9223372036854775807) (hlr : ∀ i, i < rows.length → (rowAt rows i).length ≤ 9223372036854775807)
    (hQ1 : ∀ lv pv us' H', Ext H H' → matErr p m mod cols rows = 0 → Rows H' lv us' (canon (fF p m mod) rows cols.toNat).1 → Ints H' pv (natsI (canon (fF p m mod) rows cols.toNat).2) → OffH H lv → (∀ u, u ∈ us' → OffH H u) → Q (.tup [.agg [.int .i64 cols, lv], pv, .int .i64 0]) H')
    (hQ0 : ∀ H', Ext H H' → matErr p m mod cols rows ≠ 0 → Q (.tup [.agg [.int .i64 0, .nils], .nils, .int .i64 (matErr p m mod cols rows)]) H') :
    AC Tryz.prog 94 [.agg [.int .i64 p, .int .i64 m, md], .agg [.int .i64 cols, v]] H Q := by
  have hsl := isSl_one hv.sl.isSl
  refine at94 (by simp) ?_
  simp (disch := first | assumption | omega) only [↓RP, RQ, TY, loadT, s94, reduceIte, Nat.reduceEqDiff, Nat.reduceAdd]
  refine kNew_intro fun b1 H1 hb1 hE1 hH1 => ?_
  simp (disch := first | assumption | omega) only [↓RP, RQ, TY, loadT, reduceIte, Nat.reduceEqDiff, Nat.reduceAdd]
  refine kNew_intro fun b2 H2 hb2 hE2 hH2 => ?_
  simp (disch := first | assumption | omega) only [↓RP, RQ, TY, loadT, reduceIte, Nat.reduceEqDiff, Nat.reduceAdd]
  refine kNew_intro fun b3 H3 hb3 hE3 hH3 => ?_
  have h13 := hE3.rw (hE2.rw hH1)
  have h23 := hE3.rw hH2
  have hE03 := (hE1.trans hE2).trans hE3
  have f3 := (hE1.trans hE2).free hb3
  simp (disch := first | assumption | omega) only [↓RP, RQ, TY, loadT, reduceIte, Nat.reduceEqDiff, Nat.reduceAdd, h13, h23, u_buildS1M]
  refine kNew_intro fun b4 H4 hb4 hE4 hH4 => ?_
  have hE04 := hE03.trans hE4
  simp (disch := first | assumption | omega) only [↓RP, RQ, TY, loadT, reduceIte, Nat.reduceEqDiff, Nat.reduceAdd]
  refine c_openP A.gi (hm.ext hE04) hlm hH4 (hv.ext hE04) hl hlr (fun bg H5 hE5 he hg => ?_) (fun H5 hE5 he => ?_)
  rotate_left
  · have h35 := hE5.rw (hE4.rw hH3)
    simp (disch := first | assumption | omega) only [↓RP, RQ, TY, loadT, reduceIte, Nat.reduceEqDiff, Nat.reduceAdd, eq_false he, h35, u_fill0, u_st2 (x := .int .i64 0) (y := .nils) h35 rfl rfl, aRes, aResL, aRes1, Option.map_some]
    exact hQ0 _ ((hE04.trans hE5).upd f3 _) he
  obtain ⟨o1, o2, o3, o4, o5, o6⟩ := mat_ok he
  have h25 := hE5.rw (hE4.rw h23)
  have h35 := hE5.rw (hE4.rw hH3)
  have hE05 := hE04.trans hE5
  obtain ⟨c, rfl⟩ : ∃ c : Nat, cols = c := ⟨cols.toNat, by omega⟩
  rw [Int.toNat_natCast] at o5 hQ1
  simp (disch := first | assumption | omega) only [↓RP, RQ, TY, loadT, reduceIte, Nat.reduceEqDiff, Nat.reduceAdd, Int.reduceEq, Int.reduceNe, h25]
  refine c_canonP A hg o1 (hv.ext hE05) o5 o6 (by omega) (by omega) (Nat.le_refl _) fun lv pv us' H6 hE6 hr6 hp6 of1 of2 of3 => ?_
  have h26 := hE6.rw h25
  have h36 := hE6.rw h35
  have i1 : (AV.int .i64 (c : Int)).one = true := rfl
  have i2 := isSl_one hr6.sl.isSl
  simp (disch := first | assumption | omega) only [↓RP, RQ, TY, loadT, reduceIte, Nat.reduceEqDiff, Nat.reduceAdd, h26, h36, fill_mat hr6.sl.isSl, u_st2 h36 i1 i2, aRes, aResL, aRes1, Option.map_some]
  refine hQ1 _ _ us' _ ((hE05.trans hE6).upd f3 _) he ?_ ?_ (of1.old hE05) (fun u hu => (of2 u hu).old hE05)
  · exact hr6.updOff of1 of2 (by rw [h35]; exact fun q => by cases q) _
  · exact hp6.updOff of3 (by rw [h35]; exact fun q => by cases q) _
open Classical in
/-- the error of New -/
noncomputable def newErr (p m : Int) (mod : List Int) (cols : Int) (rows : List (List Int)) : Int :=
  if matErr p m mod cols rows ≠ 0 then matErr p m mod cols rows else if cols < 1 ∨ 64 < cols then 4 else 0
theorem c_CNew (A : Alg) {p m cols : Int} {md v : AV} {mod : List Int} {us : List AV} {rows : List (List Int)} {H : AH} {Q : AV → AH → Prop} (hm : Ints H md mod) (hlm : mod.length ≤ 9223372036854775807) (hv : Rows H v us rows) (hl : rows.length ≤ 9223372036854775807) (hlr : ∀ i, i < rows.length → (rowAt rows i).length ≤ 9223372036854775807)
    (hQ : newErr p m mod cols rows = 0 → ∀ md' lv us' H', Ext H H' → Ints H' md' mod → Rows H' lv us' (canon (fF p m mod) rows cols.toNat).1 → OffH H lv → (∀ u, u ∈ us' → OffH H u) → OffH H md' → Q (.tup [codeV p m md' cols lv, .int .i64 0]) H')
    (hQ0 : newErr p m mod cols rows ≠ 0 → ∀ H', Ext H H' → Q (.tup [codeV 0 0 .nils 0 .nils, .int .i64 (newErr p m mod cols rows)]) H') :
    AC Tryz.prog 45 [.agg [.int .i64 p, .int .i64 m, md], .agg [.int .i64 cols, v]] H Q := by
  have hsl := isSl_one hv.sl.isSl
  refine at45 (by simp) ?_
  simp (disch := first | assumption | omega) only [↓RP, RQ, TY, loadT, s45, reduceIte, Nat.reduceEqDiff, Nat.reduceAdd]
  refine kNew_intro fun b1 H1 hb1 hE1 hH1 => ?_
  simp (disch := first | assumption | omega) only [↓RP, RQ, TY, loadT, reduceIte, Nat.reduceEqDiff, Nat.reduceAdd]
  refine kNew_intro fun b2 H2 hb2 hE2 hH2 => ?_
  simp (disch := first | assumption | omega) only [↓RP, RQ, TY, loadT, reduceIte, Nat.reduceEqDiff, Nat.reduceAdd]
  refine kNew_intro fun b3 H3 hb3 hE3 hH3 => ?_
  have h13 := hE3.rw (hE2.rw hH1)
  have h23 := hE3.rw hH2
  have hE03 := (hE1.trans hE2).trans hE3
  have f3 := (hE1.trans hE2).free hb3
  have z0 : (AV.int .i64 0).one = true := rfl
  have zn : AV.nils.one = true := rfl
  simp (disch := first | assumption | omega) only [↓RP, RQ, TY, loadT, reduceIte, Nat.reduceEqDiff, Nat.reduceAdd, h13, h23]
  refine c_Canonical2 A (hm.ext hE03) hlm (hv.ext hE03) hl hlr (fun lv pv us' H4 hE4 he hr4 hp4 of1 of2 => ?_) (fun H4 hE4 he => ?_)
  rotate_left
  · have hE04 := hE03.trans hE4
    have hne : newErr p m mod cols rows = matErr p m mod cols rows := by rw [newErr, if_pos he]
    simp (disch := first | assumption | omega) only [↓RP, RQ, TY, loadT, reduceIte, Nat.reduceEqDiff, Nat.reduceAdd]
    refine kNew_intro fun b5 H5 hb5 hE5 hH5 => ?_
    have hE5u := hE5.upd hb5 (.rw [.int .i64 0, .nils])
    have h55 : (H5.upd b5 (.rw [.int .i64 0, .nils])) b5 = .rw [.int .i64 0, .nils] := updEq
    have h15 := hE5u.rw (hE4.rw h13)
    have h35 := hE5u.rw (hE4.rw hH3)
    simp (disch := first | assumption | omega) only [↓RP, RQ, TY, loadT, reduceIte, Nat.reduceEqDiff, Nat.reduceAdd, u_st2 (x := .int .i64 0) (y := .nils) hH5 z0 zn, eq_false he, h15, h55]
    generalize H5.upd b5 (.rw [.int .i64 0, .nils]) = H6 at *
    refine c_cof (mod := mod) (fun q => absurd q he) (fun q => absurd q he) (fun q => absurd q he) (fun q => absurd q he) (fun _ H7 hE7 => ?_)
    simp (disch := first | assumption | omega) only [↓RP, RQ, TY, loadT, reduceIte, Nat.reduceEqDiff, Nat.reduceAdd, u_st5 (x := .int .i64 0) (y := .int .i64 0) (z := .nils) (w := .int .i64 0) (u := .nils) (hE7.rw h35) z0 z0 zn z0 zn, aRes, aResL, aRes1, Option.map_some]
    have := hQ0 (by rw [hne]; exact he) _ (((hE04.trans hE5u).trans hE7).upd f3 (.rw [.int .i64 0, .int .i64 0, .nils, .int .i64 0, .nils]))
    rwa [hne] at this
  have hE04 := hE03.trans hE4
  have hls := hr4.sl.isSl
  have i0 : (AV.int .i64 cols).one = true := rfl
  have i1 := isSl_one hls
  simp (disch := first | assumption | omega) only [↓RP, RQ, TY, loadT, reduceIte, Nat.reduceEqDiff, Nat.reduceAdd]
  refine kNew_intro fun b5 H5 hb5 hE5 hH5 => ?_
  have hE5u := hE5.upd hb5 (.rw [.int .i64 cols, lv])
  have h55 : (H5.upd b5 (.rw [.int .i64 cols, lv])) b5 = .rw [.int .i64 cols, lv] := updEq
  have h15 := hE5u.rw (hE4.rw h13)
  have h25 := hE5u.rw (hE4.rw h23)
  have h35 := hE5u.rw (hE4.rw hH3)
  simp (disch := first | assumption | omega) only [↓RP, RQ, TY, loadT, reduceIte, Nat.reduceEqDiff, Nat.reduceAdd, u_st2 hH5 i0 i1, Int.reduceEq, h25]
  generalize H5.upd b5 (.rw [.int .i64 cols, lv]) = H6 at *
  have hE06 := hE04.trans hE5u
  refine c_clen ?_
  obtain ⟨o1, o2, o3, o4, o5, o6⟩ := mat_ok he
  have b3n : H3 b3 ≠ .free := by rw [hH3]; exact fun q => by cases q
  have b3m : H6 b3 ≠ .free := by rw [h35]; exact fun q => by cases q
  simp (disch := first | assumption | omega) only [↓RP, RQ, TY, loadT, reduceIte, Nat.reduceEqDiff, Nat.reduceAdd, h15, h55]
  have hne : newErr p m mod cols rows = if cols < 1 ∨ 64 < cols then 4 else 0 := by
    rw [newErr, if_neg (by simpa using he)]
  rw [← hne]
  refine c_cof (fun _ => hm.ext hE06) (fun _ => by have := o1.ml; omega) (fun _ => hls) (fun h0 md' H7 hE7 hm7 of3 => ?_) (fun h0 H7 hE7 => ?_)
  · have i2 := isSl_one hm7.isSl
    have ip : (AV.int .i64 p).one = true := rfl
    have im : (AV.int .i64 m).one = true := rfl
    simp (disch := first | assumption | omega) only [↓RP, RQ, TY, loadT, reduceIte, Nat.reduceEqDiff, Nat.reduceAdd, u_st5 (hE7.rw h35) ip im i2 i0 i1, aRes, aResL, aRes1, Option.map_some]
    exact hQ h0 md' lv us' _ ((hE06.trans hE7).upd f3 _) (hm7.updOff of3 b3m _) ((hr4.ext (hE5u.trans hE7)).updOff of1 of2 b3n _) (of1.old hE03) (fun u hu => (of2 u hu).old hE03) (of3.old hE06)
  · simp (disch := first | assumption | omega) only [↓RP, RQ, TY, loadT, reduceIte, Nat.reduceEqDiff, Nat.reduceAdd, u_st5 (x := .int .i64 0) (y := .int .i64 0) (z := .nils) (w := .int .i64 0) (u := .nils) (hE7.rw h35) z0 z0 zn z0 zn, aRes, aResL, aRes1, Option.map_some]
    exact hQ0 h0 _ ((hE06.trans hE7).upd f3 _)
open Classical in
theorem c_mset {n : Int} {v : AV} {s : List Int} {H : AH} {Q : AV → AH → Prop} (hv : Ints H v s) (hl : s.length ≤ 9223372036854775807) (hQ : Q (.bool (decide (Subset n s))) H) : AC Tryz.prog 107 [v, .int .i64 n] H Q := by
  refine at107 (by simp) ?_
  simp (disch := first | assumption | omega) only [↓RP, RQ, TY, loadT, s107, reduceIte, Nat.reduceEqDiff, Nat.reduceAdd, hv.ints]
  refine sw_loop (σ := Nat) (fun i e H' => e 9 = .int .i64 i ∧ e 8 = .int .i64 s.length ∧ e 7 = v ∧ e 1 = .int .i64 n ∧ e 0 = v ∧ i ≤ s.length ∧ H' = H ∧ ∀ j, j < i → 0 ≤ s.getD j 0 ∧ s.getD j 0 < n ∧ (0 < j → s.getD (j - 1) 0 < s.getD j 0)) (fun i => s.length - i) 0 ?_ ?_
  · simp (disch := first | assumption | omega) only [↓RP, RQ, TY, loadT, reduceIte, Nat.reduceEqDiff, Nat.reduceAdd]
    exact ⟨by omega, fun j hj => by omega⟩
  rintro i e H' ⟨e9, e8, e7, e1, e0, hi, rfl, hj⟩
  by_cases hlt : (i : Int) < s.length
  · by_cases c1 : s.getD i 0 < 0
    · simp (disch := first | assumption | omega) only [↓RP, RQ, TY, loadT, reduceIte, Nat.reduceEqDiff, Nat.reduceAdd, e9, e8, e7, e1, e0, hlt, hv.ints, c1]
      rwa [decide_eq_false (fun q => absurd (q i (by omega)).1 (by omega))] at hQ
    by_cases c2 : n ≤ s.getD i 0
    · simp (disch := first | assumption | omega) only [↓RP, RQ, TY, loadT, reduceIte, Nat.reduceEqDiff, Nat.reduceAdd, e9, e8, e7, e1, e0, hlt, hv.ints, c1, c2]
      rwa [decide_eq_false (fun q => absurd (q i (by omega)).2.1 (by omega))] at hQ
    by_cases c3 : (0 : Int) < i
    · have ei : ((i : Int) - 1).toNat = i - 1 := by omega
      by_cases c4 : s.getD i 0 ≤ s.getD (i - 1) 0
      · simp (disch := first | assumption | omega) only [↓RP, RQ, TY, loadT, reduceIte, Nat.reduceEqDiff, Nat.reduceAdd, e9, e8, e7, e1, e0, hlt, hv.ints, c1, c2, c3, ei, c4]
        rwa [decide_eq_false (fun q => absurd ((q i (by omega)).2.2 (by omega)) (by omega))] at hQ
      · simp (disch := first | assumption | omega) only [↓RP, RQ, TY, loadT, reduceIte, Nat.reduceEqDiff, Nat.reduceAdd, e9, e8, e7, e1, e0, hlt, hv.ints, c1, c2, c3, ei, c4]
        refine ⟨i + 1, ?_, by dsimp only; omega⟩
        simp (disch := first | assumption | omega) only [↓RP, RQ, TY, loadT, reduceIte, Nat.reduceEqDiff, Nat.reduceAdd, e9, e8, e7, e1, e0]
        refine ⟨by omega, fun j h => ?_⟩
        by_cases hji : j = i
        · rw [hji]; exact ⟨by omega, by omega, fun _ => by omega⟩
        · exact hj j (by omega)
    · simp (disch := first | assumption | omega) only [↓RP, RQ, TY, loadT, reduceIte, Nat.reduceEqDiff, Nat.reduceAdd, e9, e8, e7, e1, e0, hlt, hv.ints, c1, c2, c3]
      refine ⟨i + 1, ?_, by dsimp only; omega⟩
      simp (disch := first | assumption | omega) only [↓RP, RQ, TY, loadT, reduceIte, Nat.reduceEqDiff, Nat.reduceAdd, e9, e8, e7, e1, e0]
      refine ⟨by omega, fun j h => ?_⟩
      by_cases hji : j = i
      · rw [hji]; exact ⟨by omega, by omega, fun _ => by omega⟩
      · exact hj j (by omega)
  · simp (disch := first | assumption | omega) only [↓RP, RQ, TY, loadT, reduceIte, Nat.reduceEqDiff, Nat.reduceAdd, e9, e8, e7, e1, e0, hlt]
    have hS : Subset n s := fun j h => hj j (by omega)
    rwa [decide_eq_true hS] at hQ
theorem sortL_perm (xs : List Int) : (sortL xs).Perm xs := List.mergeSort_perm xs _
theorem sortL_sorted (xs : List Int) : (sortL xs).Pairwise (· ≤ ·) := by
  have := List.pairwise_mergeSort (le := fun (x y : Int) => decide (x ≤ y)) (fun a b c h1 h2 => by simp at h1 h2 ⊢; omega) (fun a b => by simp; omega) xs
  exact this.imp fun h => by simpa using h
theorem sort_sub {n : Int} {xs : List Int} : Subset n (sortL xs) ↔ Poss n xs ∧ xs.Nodup := by
  have hp := sortL_perm xs
  constructor
  · intro h
    have hn : (sortL xs).Nodup := h.nodup
    exact ⟨poss_mem.mpr fun x hx => by
      obtain ⟨i, hi, rfl⟩ := List.getElem_of_mem (hp.mem_iff.mpr hx)
      have := h i hi
      rw [List.getD_eq_getElem?_getD, List.getElem?_eq_getElem hi, Option.getD_some] at this
      exact ⟨this.1, this.2.1⟩, hp.nodup_iff.mp hn⟩
  · rintro ⟨h1, h2⟩ i hi
    have hm : (sortL xs)[i] ∈ xs := hp.mem_iff.mp (List.getElem_mem hi)
    have h3 := poss_mem.mp h1 _ hm
    rw [List.getD_eq_getElem?_getD, List.getElem?_eq_getElem hi, Option.getD_some]
    refine ⟨h3.1, h3.2, fun h0 => ?_⟩
    have hi' : i - 1 < (sortL xs).length := by omega
    rw [List.getD_eq_getElem?_getD, List.getElem?_eq_getElem hi', Option.getD_some]
    have hs := sortL_sorted xs
    have hn := hp.nodup_iff.mpr h2
    rw [List.Nodup] at hn
    rw [List.pairwise_iff_getElem] at hs hn
    have a1 := hs (i - 1) i hi' hi (by omega)
    have a2 := hn (i - 1) i hi' hi (by omega)
    omega
end Go.Proofs.YtbkpebmcagdgmaaGreat.AM
/-! Permuted codes: modify.Permute, ordering.Reorder. -/
namespace Go.Proofs.YtbkpebmcagdgmaaGreat.AM
open Go Go.RowKit
set_option linter.unusedVariables false
set_option linter.unusedSimpArgs false
set_option maxRecDepth 20000
theorem u_stG2 {P : Program} {K : Kt} {e : Env} {H : AH} {d : Option Nat} {r : Rst} {ds : List Nat} {blk : Nat} {a b w : AV} (hw : w.one = true) : kSt P ds blk 1 r e H K d w (.rw [a, b]) = kRet P ds r e (H.upd blk (.rw [a, w])) K d (.tup []) :=
  st_put hw (show 1 < [a, b].length by simp)
theorem idxZ_get {l : List Int} {j : Int} (hj : j ∈ l) : l.idxOf j < l.length ∧ l.getD (l.idxOf j) 0 = j := by
  have h1 := List.idxOf_lt_length_iff.mpr hj
  exact ⟨h1, by rw [List.getD_eq_getElem?_getD, List.getElem?_eq_getElem h1, Option.getD_some, List.getElem_idxOf h1]⟩
theorem idxZ_of {l : List Int} (hd : l.Nodup) {i : Nat} (hi : i < l.length) : l.idxOf (l.getD i 0) = i := by
  have hm : l.getD i 0 ∈ l := by
    rw [List.getD_eq_getElem?_getD, List.getElem?_eq_getElem hi, Option.getD_some]
    exact List.getElem_mem hi
  obtain ⟨h1, h2⟩ := idxZ_get hm
  generalize l.idxOf (l.getD i 0) = k at h1 h2 ⊢
  rw [List.Nodup, List.pairwise_iff_getElem] at hd
  rw [List.getD_eq_getElem?_getD, List.getElem?_eq_getElem h1, Option.getD_some, List.getD_eq_getElem?_getD, List.getElem?_eq_getElem hi, Option.getD_some] at h2
  rcases Nat.lt_trichotomy k i with q | q | q
  · exact absurd h2 (hd _ _ h1 hi q)
  · exact q
  · exact absurd h2.symm (hd _ _ hi h1 q)
theorem mem_takeZ {l : List Int} {t : Nat} {j : Int} (ht : t < l.length) : (j ∈ l.take (t + 1)) ↔ (j ∈ l.take t ∨ j = l.getD t 0) := by
  rw [← take_push 0 ht, List.mem_append, List.mem_singleton]
/-- a row whose entries go to the places that a list says -/
def mvL (perm : List Int) (r : List Int) : List Int := tabN perm.length fun j => r.getD (perm.idxOf (j : Int)) 0
/-- every position stands in an order -/
theorem IsOrd.mem {n : Int} {l : List Int} (h : IsOrd n l) {j : Nat} (hj : (j : Int) < n) : (j : Int) ∈ l := by
  have hl := othersN_len (n := n.toNat) (by rw [Int.toNat_of_nonneg (by omega)]; exact h.2.1) h.2.2
  have h1 := h.1
  have e : othersN n.toNat l = [] := List.eq_nil_of_length_eq_zero (by omega)
  refine Classical.byContradiction fun q => ?_
  have : j ∈ othersN n.toNat l := mem_others.mpr ⟨by omega, q⟩
  rw [e] at this
  cases this
theorem Hp.rows {H0 H : AH} {v : AV} {ws : List AV} {l : List (List Int)} {L : List (AV × List AV)} (h : Hp H0 H L) (hv : (v, ws) ∈ L) (hr : ∀ y, y ∈ rowsL ws l → y ∈ L) (hl : ws.length = l.length) : Rows H v ws l :=
  ⟨h.sl hv, hl, fun i hi => h.sl (hr _ (rowsL_mem hl hi))⟩
set_option maxHeartbeats 4000000 in
theorem c_Permute (A : Alg) {p m n : Int} {md v pv : AV} {mod perm : List Int} {us : List AV} {rows : List (List Int)} {H : AH} {Q : AV → AH → Prop} (hm : Ints H md mod) (hlm : mod.length ≤ 9223372036854775807) (hv : Rows H v us rows) (h0 : codeErr p m mod n rows = 0) (hpv : Ints H pv perm) (ho : IsOrd n perm)
    (hQ : ∀ md' lv us' H', Ext H H' → Ints H' md' mod → Rows H' lv us' (canon (fF p m mod) (rows.map (mvL perm)) n.toNat).1 → OffH H lv → (∀ u, u ∈ us' → OffH H u) → OffH H md' → Q (.tup [codeV p m md' n lv, .int .i64 0]) H') :
    AC Tryz.prog 62 [codeV p m md n v, pv] H Q := by
  have ca := A.fo.ca h0 hm hv
  have n1 := ca.n1
  have n64 := ca.n64
  have kn := ca.kn
  have ok := ca.fa.ok
  have els := ca.els
  have hF := (code_ok A.fo h0).1
  have hlr : ∀ i, i < rows.length → (rowAt rows i).length ≤ 9223372036854775807 := fun i hi => by rw [ca.rect i hi]; omega
  have hpl := ho.1
  obtain ⟨N, hN⟩ : ∃ N : Nat, n = N := ⟨n.toNat, by omega⟩
  subst hN
  rw [Int.toNat_natCast] at hQ kn
  have hpN : perm.length = N := by omega
  refine at62 (by simp) ?_
  simp (disch := first | assumption | omega) only [↓RP, RQ, TY, loadT, s62, reduceIte, Nat.reduceEqDiff, Nat.reduceAdd]
  refine kNew_intro fun b2 H1 hb2 hE1 hH1 => ?_
  simp (disch := first | assumption | omega) only [↓RP, RQ, TY, loadT, reduceIte, Nat.reduceEqDiff, Nat.reduceAdd]
  refine kNew_intro fun b4 H2 hb4 hE2 hH2 => ?_
  have hp2 := ((Hp.nil (Ext.refl H)).new hb2 hE1 hH1 rfl).new hb4 hE2 hH2 rfl
  simp (disch := first | assumption | omega) only [↓RP, RQ, TY, loadT, reduceIte, Nat.reduceEqDiff, Nat.reduceAdd, hE2.rw hH1]
  refine c_cCheck A (hm.ext hp2.ext) hlm (hv.ext hp2.ext) (by omega) hlr fun H3 hE3 => ?_
  have hp3 := hp2.more hE3
  rw [h0]
  simp (disch := first | assumption | omega) only [↓RP, RQ, TY, loadT, reduceIte, Nat.reduceEqDiff, Nat.reduceAdd, Int.reduceEq, Int.reduceNe]
  refine c_Values (hpv.isSl) fun bs H4 hE4 hH4 => ?_
  have hp4 := hp3.more hE4
  simp (disch := first | assumption | omega) only [↓RP, RQ, TY, loadT, reduceIte, Nat.reduceEqDiff, Nat.reduceAdd]
  refine c_Sorted hH4 (hpv.ext hp4.ext) (by omega) fun w5 H5 hE5 ho5 => ?_
  have hp5 := hp4.more hE5
  have h25 := (hp5.blkOf (y := (.sl b2 0 5 (.own 1), [.int .i64 p, .int .i64 m, md, .int .i64 N, v])) (by simp) rfl).1
  have hsub : Subset N (sortL perm) := sort_sub.mpr ho.2
  have hpv5 := hpv.ext hp5.ext
  have hpi := hpv5.ints
  have hcN : ¬ ((perm.length : Int) ≠ N) := fun q => q hpl
  simp (disch := first | assumption | omega) only [↓RP, RQ, TY, loadT, reduceIte, Nat.reduceEqDiff, Nat.reduceAdd, hpi, h25, eq_false hcN]
  refine c_mset ho5.sl (by rw [sortL_length]; omega) ?_
  have fm : aFill (fun i => [(0, 1), (1, 1)][i]?) [.int .i64 0, .nils] [(0, .int .i64 N)] = some [.int .i64 N, .nils] := rfl
  simp (disch := first | assumption | omega) only [↓RP, RQ, TY, loadT, reduceIte, Nat.reduceEqDiff, Nat.reduceAdd, hsub, h25, fm]
  refine kNew_intro fun b8 H6 hb8 hE6 hH6 => ?_
  have hp6 := hp5.new hb8 hE6 hH6 rfl
  have iN : (AV.int .i64 N).one = true := rfl
  have in_ : (AV.nils).one = true := rfl
  have hp7 := hp6.upd (us' := [.int .i64 N, .nils]) rfl
  simp (disch := first | assumption | omega) only [↓RP, RQ, TY, loadT, reduceIte, Nat.reduceEqDiff, Nat.reduceAdd, u_st2 hH6 iN in_]
  generalize hH7 : H6.upd b8 (.rw [.int .i64 N, .nils]) = H7 at *
  have h27 := (hp7.blkOf (y := (.sl b2 0 5 (.own 1), [.int .i64 p, .int .i64 m, md, .int .i64 N, v])) (by simp) rfl).1
  have hr7 := hv.ext hp7.ext
  simp (disch := first | assumption | omega) only [↓RP, RQ, TY, loadT, reduceIte, Nat.reduceEqDiff, Nat.reduceAdd, h27, hr7.run]
  have hmr : Rect N (rows.map (mvL perm)) := fun i hi => by
    rw [List.length_map] at hi
    rw [rowAt_map hi, mvL, tabN_length, hpN]
  have hme : Els (fF p m mod) (rows.map (mvL perm)) := fun i j => by
    by_cases hi : i < rows.length
    · rw [ent, rowAt_map hi]
      by_cases hj : j < perm.length
      · rw [mvL, tabN_getD _ hj]; exact els _ _
      · rw [getD_len _ (by rw [mvL, tabN_length]; omega)]; exact ok.el0
    · rw [ent_ge j (by rw [List.length_map]; omega)]; exact ok.el0
  have hne : newErr p m mod N (rows.map (mvL perm)) = 0 := by
    rw [newErr, if_neg (by simpa using matErr_ok hF (cols := N) (by omega) (by omega) (by rw [List.length_map]; omega) hmr hme), if_neg (by omega)]
  clear hsub hpi h27 h25 hp2 hp3 hp4 hp5 hp6
  refine sw_loop (σ := Nat × AV × List AV) (fun s e H' => e 42 = .int .i64 s.1 ∧ e 41 = .int .i64 rows.length ∧ e 40 = v ∧ e 2 = .ptr b2 0 ∧ e 4 = .ptr b4 0 ∧ e 8 = .ptr b8 0 ∧ e 1 = pv ∧ s.1 ≤ rows.length ∧ s.2.2.length = s.1 ∧ (∀ u, u ∈ s.2.2 → u.isSl = true) ∧
    Hp H H' ((s.2.1, s.2.2) :: (.sl b8 0 2 (.own 1), [.int .i64 N, s.2.1]) :: (.sl b4 0 5 (.own 1), [.int .i64 0, .int .i64 0, .nils, .int .i64 0, .nils]) :: (.sl b2 0 5 (.own 1), [.int .i64 p, .int .i64 m, md, .int .i64 N, v]) :: rowsL s.2.2 ((rows.map (mvL perm)).take s.1))) (fun s => rows.length - s.1) (0, .nils, []) ?_ ?_
  · simp (disch := first | assumption | omega) only [↓RP, RQ, TY, loadT, reduceIte, Nat.reduceEqDiff, Nat.reduceAdd]
    exact ⟨by omega, rfl, fun u hu => (by simp at hu), hp7.nils⟩
  clear hp7 hr7 hH7 hpv5
  rintro ⟨i, w, ws⟩ e H8 ⟨e42, e41, e40, e2, e4, e8, e1, hi, hwl, hws, hp⟩
  dsimp only at *
  have h2 := (hp.blkOf (y := (.sl b2 0 5 (.own 1), [.int .i64 p, .int .i64 m, md, .int .i64 N, v])) (by simp) rfl).1
  have h8 := (hp.blkOf (y := (.sl b8 0 2 (.own 1), [.int .i64 N, w])) (by simp) rfl).1
  have hr8 := hv.ext hp.ext
  by_cases hlt : (i : Int) < rows.length
  · simp (disch := first | assumption | omega) only [↓RP, RQ, TY, loadT, reduceIte, Nat.reduceEqDiff, Nat.reduceAdd, e42, e41, e40, e2, e4, e8, e1, hlt, hr8.run, h2]
    refine kNew_intro fun bx H9 hbx hE9 hH9 => ?_
    rw [ints_rep] at hH9
    have hp9 := hp.new (n := N) hbx hE9 hH9 (by simp [ints_length])
    have hpv9 := (hpv.ext hp9.ext).ints
    simp (disch := first | assumption | omega) only [↓RP, RQ, TY, loadT, reduceIte, Nat.reduceEqDiff, Nat.reduceAdd, e42, e41, e40, e2, e4, e8, e1, hpv9]
    refine sw_loop (σ := Nat × List Int) (fun s e H' => e 51 = .int .i64 s.1 ∧ e 50 = .int .i64 perm.length ∧ e 49 = pv ∧ e 11 = .sl bx 0 N (.own 1) ∧ e 10 = us.getD i .junk ∧ e 42 = .int .i64 i ∧ e 41 = .int .i64 rows.length ∧ e 40 = v ∧ e 2 = .ptr b2 0 ∧ e 4 = .ptr b4 0 ∧ e 8 = .ptr b8 0 ∧ e 1 = pv ∧ s.1 ≤ N ∧ s.2.length = N ∧
      (∀ j, j < N → s.2.getD j 0 = if (j : Int) ∈ perm.take s.1 then (rowAt rows i).getD (perm.idxOf (j : Int)) 0 else 0) ∧
      Hp H H' ((.sl bx 0 N (.own 1), ints s.2) :: (w, ws) :: (.sl b8 0 2 (.own 1), [.int .i64 N, w]) :: (.sl b4 0 5 (.own 1), [.int .i64 0, .int .i64 0, .nils, .int .i64 0, .nils]) :: (.sl b2 0 5 (.own 1), [.int .i64 p, .int .i64 m, md, .int .i64 N, v]) :: rowsL ws ((rows.map (mvL perm)).take i))) (fun s => N - s.1) (0, List.replicate N 0) ?_ ?_
    · simp (disch := first | assumption | omega) only [↓RP, RQ, TY, loadT, reduceIte, Nat.reduceEqDiff, Nat.reduceAdd, e42, e41, e40, e2, e4, e8, e1]
      exact ⟨by omega, by simp, fun j hj => by simp [List.getD_eq_getElem?_getD, hj], hp9⟩
    clear hp9 hpv9 hH9 hE9
    rintro ⟨t, X⟩ e' H10 ⟨g51, g50, g49, g11, g10, g42, g41, g40, g2, g4, g8, g1, ht, hX, hXs, hp10⟩
    dsimp only at *
    have hil := ints_length X
    by_cases htl : (t : Int) < perm.length
    · have hpt := ho.2.1 t (by omega)
      have hpv10 := (hpv.ext hp10.ext).ints
      have hrw := ((hv.ext hp10.ext).row i (by omega)).ints
      rw [ca.rect i (by omega), Int.toNat_natCast] at hrw
      have hbX := (hp10.blkOf (y := (.sl bx 0 N (.own 1), ints X)) (by simp) rfl).1
      have htN : t < N := by omega
      simp (disch := first | assumption | omega) only [↓RP, RQ, TY, loadT, reduceIte, Nat.reduceEqDiff, Nat.reduceAdd, g51, g50, g49, g11, g10, g42, g41, g40, g2, g4, g8, g1, htl, hpv10, hrw, hbX, ints_set]
      refine ⟨(t + 1, X.set (perm.getD t 0).toNat ((rowAt rows i).getD t 0)), ?_, by dsimp only; omega⟩
      simp (disch := first | assumption | omega) only [↓RP, RQ, TY, loadT, reduceIte, Nat.reduceEqDiff, Nat.reduceAdd, g51, g50, g49, g11, g10, g42, g41, g40, g2, g4, g8, g1]
      refine ⟨by omega, by simpa using hX, fun j hj => ?_, hp10.upd (by simp [ints_length])⟩
      rw [getD_setN]
      by_cases q : (j : Int) = perm.getD t 0
      · rw [if_pos ⟨by omega, by omega⟩, if_pos ((mem_takeZ (by omega)).mpr (.inr q)), q, idxZ_of ho.2.2 (by omega)]
      · rw [if_neg (fun z => q (by omega)), hXs j hj]
        by_cases z : (j : Int) ∈ perm.take t
        · rw [if_pos z, if_pos ((mem_takeZ (by omega)).mpr (.inl z))]
        · rw [if_neg z, if_neg (fun y => ((mem_takeZ (by omega)).mp y).elim z q)]
    · rw [show t = N by omega] at hXs
      have hXe : X = mvL perm (rowAt rows i) := by
        refine lst_tab (by omega) fun j hj => ?_
        rw [hXs j (by omega), if_pos]
        rw [List.take_of_length_le (by omega)]
        exact ho.mem (by omega)
      have hslx : (AV.sl bx 0 N (.own 1)).isSl = true := rfl
      have h810 := (hp10.blkOf (y := (.sl b8 0 2 (.own 1), [.int .i64 N, w])) (by simp) rfl).1
      simp (disch := first | assumption | omega) only [↓RP, RQ, TY, loadT, reduceIte, Nat.reduceEqDiff, Nat.reduceAdd, g51, g50, g49, g11, g10, g42, g41, g40, g2, g4, g8, g1, htl, h810, u_buildS1V]
      refine kNew_intro fun b11 H11 hb11 hE11 hH11 => ?_
      have hp11 := (hp10.more hE11).perm (swap2 _ _ _)
      simp (disch := first | assumption | omega) only [↓RP, RQ, TY, loadT, reduceIte, Nat.reduceEqDiff, Nat.reduceAdd, g51, g50, g49, g11, g10, g42, g41, g40, g2, g4, g8, g1]
      refine kApp_hp (us := [.sl bx 0 N (.own 1)]) hp11 (Sl.own hH11 rfl) (fun u hu => by rw [List.mem_singleton.mp hu]; rfl) (by simp; omega) (by simp; omega) fun v12 H12 hp12 => ?_
      have hv12 := hp12.head.sl.isSl
      have h812 := (hp12.blkOf (y := (.sl b8 0 2 (.own 1), [.int .i64 N, w])) (by simp) rfl).1
      have hp13 := (hp12.perm (List.perm_middle (l₁ := [_, _]))).upd (us' := [.int .i64 N, v12]) rfl
      simp (disch := first | assumption | omega) only [↓RP, RQ, TY, loadT, reduceIte, Nat.reduceEqDiff, Nat.reduceAdd, g51, g50, g49, g11, g10, g42, g41, g40, g2, g4, g8, g1, h812, u_storeV hv12, u_stG2 (isSl_one hv12)]
      refine ⟨(i + 1, v12, ws ++ [.sl bx 0 N (.own 1)]), ?_, by dsimp only; omega⟩
      simp (disch := first | assumption | omega) only [↓RP, RQ, TY, loadT, reduceIte, Nat.reduceEqDiff, Nat.reduceAdd, g51, g50, g49, g11, g10, g42, g41, g40, g2, g4, g8, g1]
      refine ⟨by omega, by simp [hwl], fun u hu => ?_, ?_⟩
      · rcases List.mem_append.mp hu with q | q
        · exact hws u q
        · rw [List.mem_singleton.mp q]; rfl
      · rw [← map_take_push (mvL perm) (show i < rows.length by omega), rowsL_app _ _ (by rw [List.length_take, List.length_map]; omega), ← hXe]
        refine hp13.perm ((swap2 _ _ _).trans (.cons _ (.cons _ ?_)))
        exact (List.perm_append_singleton _ _).symm
  · have hiR : i = rows.length := by omega
    rw [List.take_of_length_le (by simp; omega)] at hp
    have h48 := (hp.blkOf (y := (.sl b4 0 5 (.own 1), [.int .i64 0, .int .i64 0, .nils, .int .i64 0, .nils])) (by simp) rfl).1
    have hrw8 : Rows H8 w ws (rows.map (mvL perm)) := hp.rows (by simp) (fun y hy => by simp [hy]) (by simp; omega)
    simp (disch := first | assumption | omega) only [↓RP, RQ, TY, loadT, reduceIte, Nat.reduceEqDiff, Nat.reduceAdd, e42, e41, e40, e2, e4, e8, e1, hlt, h2, h8]
    refine c_CNew A (hm.ext hp.ext) hlm hrw8 (by simp; omega) (fun j hj => by rw [hmr j hj]; omega) (fun _ md' lv us' H9 hE9 hm9 hr9 of1 of2 of3 => ?_) (fun q => absurd hne q)
    have hE49 := hE9.rw h48
    have b4n : H8 b4 ≠ .free := by rw [h48]; exact fun q => by cases q
    have i1 := isSl_one hr9.sl.isSl
    have i2 := isSl_one hm9.isSl
    have ip : (AV.int .i64 p).one = true := rfl
    have im : (AV.int .i64 m).one = true := rfl
    simp (disch := first | assumption | omega) only [↓RP, RQ, TY, loadT, reduceIte, Nat.reduceEqDiff, Nat.reduceAdd, e4, u_st5 hE49 ip im i2 iN i1, aRes, aResL, aRes1, Option.map_some]
    have f4 : H b4 = .free := (hp.blkOf (y := (.sl b4 0 5 (.own 1), [.int .i64 0, .int .i64 0, .nils, .int .i64 0, .nils])) (by simp) rfl).2
    exact hQ md' lv us' _ ((hp.ext.trans hE9).upd f4 _) (hm9.updOff of3 b4n _) (hr9.updOff of1 of2 b4n _) (of1.old hp.ext) (fun u hu => (of2 u hu).old hp.ext) (of3.old hp.ext)
/-- the places of an order's entries -/
def invL (order : List Int) : List Int := tabN order.length fun j => (order.idxOf (j : Int) : Int)
theorem invL_get {order : List Int} {j : Nat} (hj : j < order.length) : (invL order).getD j 0 = (order.idxOf (j : Int) : Nat) := by rw [invL, tabN_getD _ hj]
theorem invL_ord {n : Int} {order : List Int} (h : IsOrd n order) : IsOrd n (invL order) := by
  have hl : (invL order).length = order.length := tabN_length _ _
  refine ⟨by rw [hl]; exact h.1, fun i hi => ?_, ?_⟩
  · rw [hl] at hi
    have := (idxZ_get (h.mem (j := i) (by have := h.1; omega))).1
    have h1 := h.1
    rw [invL_get hi]
    omega
  · rw [List.Nodup, List.pairwise_iff_getElem]
    intro i j hi hj hij q
    rw [hl] at hi hj
    have e1 := invL_get hi
    have e2 := invL_get hj
    rw [List.getD_eq_getElem?_getD, List.getElem?_eq_getElem (by omega), Option.getD_some] at e1 e2
    have m1 := (idxZ_get (h.mem (j := i) (by have := h.1; omega))).2
    have m2 := (idxZ_get (h.mem (j := j) (by have := h.1; omega))).2
    rw [e1, e2] at q
    have q' : order.idxOf (i : Int) = order.idxOf (j : Int) := by omega
    rw [q', m2] at m1
    omega
theorem mv_inv {n : Int} {order : List Int} (h : IsOrd n order) (r : List Int) : mvL (invL order) r = pickL r order := by
  have hl : (invL order).length = order.length := tabN_length _ _
  rw [mvL, pickL, hl]
  refine tabN_congr fun j hj => ?_
  have hp := h.2.1 j hj
  have h1 := h.1
  have hx : (order.getD j 0).toNat < order.length := by omega
  have e : (invL order).getD (order.getD j 0).toNat 0 = j := by
    rw [invL_get hx, Int.toNat_of_nonneg hp.1, idxZ_of h.2.2 hj]
  rw [← e, idxZ_of (invL_ord h).2.2 (by rw [hl]; exact hx)]
theorem c_Reorder (A : Alg) {p m n : Int} {md v sv : AV} {mod set : List Int} {us : List AV} {rows : List (List Int)} {H : AH} {Q : AV → AH → Prop} (hm : Ints H md mod) (hlm : mod.length ≤ 9223372036854775807) (hv : Rows H v us rows) (hs : Ints H sv set) (hl : rows.length ≤ 9223372036854775807) (hlr : ∀ i, i < rows.length → (rowAt rows i).length ≤ 9223372036854775807) (hls : set.length ≤ 9223372036854775807)
    (hQ : ordErr p m mod n rows set = 0 → ∀ md' lv us' H', Ext H H' → Ints H' md' mod → Rows H' lv us' (canon (fF p m mod) (rows.map fun r => pickL r set) n.toNat).1 → Q (.tup [codeV p m md' n lv, .int .i64 0]) H')
    (hQ0 : ordErr p m mod n rows set ≠ 0 → ∀ H', Ext H H' → Q (.tup [codeV 0 0 .nils 0 .nils, .int .i64 (ordErr p m mod n rows set)]) H') :
    AC Tryz.prog 17 [codeV p m md n v, sv] H Q := by
  refine at17 (by simp) ?_
  simp (disch := first | assumption | omega) only [↓RP, RQ, TY, loadT, s17, reduceIte, Nat.reduceEqDiff, Nat.reduceAdd]
  refine kNew_intro fun b2 H1 hb2 hE1 hH1 => ?_
  simp (disch := first | assumption | omega) only [↓RP, RQ, TY, loadT, reduceIte, Nat.reduceEqDiff, Nat.reduceAdd]
  refine kNew_intro fun b4 H2 hb4 hE2 hH2 => ?_
  have hp2 := ((Hp.nil (Ext.refl H)).new hb2 hE1 hH1 rfl).new hb4 hE2 hH2 rfl
  have z0 : (AV.int .i64 0).one = true := rfl
  have zn : AV.nils.one = true := rfl
  simp (disch := first | assumption | omega) only [↓RP, RQ, TY, loadT, reduceIte, Nat.reduceEqDiff, Nat.reduceAdd, hE2.rw hH1]
  refine c_ordered A (hm.ext hp2.ext) hlm (hv.ext hp2.ext) (hs.ext hp2.ext) hl hlr hls fun H3 hE3 => ?_
  have hp3 := hp2.more hE3
  have h43 := (hp3.blkOf (y := (.sl b4 0 5 (.own 1), [.int .i64 0, .int .i64 0, .nils, .int .i64 0, .nils])) (by simp) rfl)
  have h23 := (hp3.blkOf (y := (.sl b2 0 5 (.own 1), [.int .i64 p, .int .i64 m, md, .int .i64 n, v])) (by simp) rfl).1
  by_cases h0 : ordErr p m mod n rows set = 0
  rotate_left
  · simp (disch := first | assumption | omega) only [↓RP, RQ, TY, loadT, reduceIte, Nat.reduceEqDiff, Nat.reduceAdd, eq_true h0, u_fill0, u_st5 (x := .int .i64 0) (y := .int .i64 0) (z := .nils) (w := .int .i64 0) (u := .nils) h43.1 z0 z0 zn z0 zn, aRes, aResL, aRes1, Option.map_some]
    exact hQ0 h0 _ (hp3.ext.upd h43.2 _)
  obtain ⟨hc, ho⟩ := ordErr_iff.mp h0
  have ca := A.fo.ca hc (hm.ext hp3.ext) (hv.ext hp3.ext)
  have n1 := ca.n1
  have n64 := ca.n64
  have hol := ho.1
  obtain ⟨N, hN⟩ : ∃ N : Nat, n = N := ⟨n.toNat, by omega⟩
  subst hN
  have hsN : set.length = N := by omega
  simp (disch := first | assumption | omega) only [↓RP, RQ, TY, loadT, reduceIte, Nat.reduceEqDiff, Nat.reduceAdd, eq_false (show ¬ ordErr p m mod N rows set ≠ 0 from fun q => q h0), h23, Int.toNat_natCast]
  refine kNew_intro fun b7 H4 hb7 hE4 hH4 => ?_
  rw [ints_rep] at hH4
  have hp4 := hp3.new (n := N) hb7 hE4 hH4 (by simp [ints_length])
  have hs4 := (hs.ext hp4.ext).ints
  clear h43 h23
  simp (disch := first | assumption | omega) only [↓RP, RQ, TY, loadT, reduceIte, Nat.reduceEqDiff, Nat.reduceAdd, hs4]
  refine sw_loop (σ := Nat × List Int) (fun s e H' => e 22 = .int .i64 s.1 ∧ e 21 = .int .i64 set.length ∧ e 20 = sv ∧ e 7 = .sl b7 0 N (.own 1) ∧ e 2 = .ptr b2 0 ∧ e 4 = .ptr b4 0 ∧ s.1 ≤ N ∧ s.2.length = N ∧ (∀ j, j < N → s.2.getD j 0 = if (j : Int) ∈ set.take s.1 then (set.idxOf (j : Int) : Int) else 0) ∧
    Hp H H' [(.sl b7 0 N (.own 1), ints s.2), (.sl b4 0 5 (.own 1), [.int .i64 0, .int .i64 0, .nils, .int .i64 0, .nils]), (.sl b2 0 5 (.own 1), [.int .i64 p, .int .i64 m, md, .int .i64 N, v])]) (fun s => N - s.1) (0, List.replicate N 0) ?_ ?_
  · simp (disch := first | assumption | omega) only [↓RP, RQ, TY, loadT, reduceIte, Nat.reduceEqDiff, Nat.reduceAdd]
    exact ⟨by omega, by simp, fun j hj => by simp [List.getD_eq_getElem?_getD, hj], hp4⟩
  clear hp4 hp3 hp2 hs4 hH4 hE4
  rintro ⟨t, X⟩ e H5 ⟨e22, e21, e20, e7, e2, e4, ht, hX, hXs, hp⟩
  dsimp only at *
  have hil := ints_length X
  have hbX := (hp.blkOf (y := (.sl b7 0 N (.own 1), ints X)) (by simp) rfl).1
  by_cases htl : (t : Int) < set.length
  · have hpt := ho.2.1 t (by omega)
    have hs5 := (hs.ext hp.ext).ints
    simp (disch := first | assumption | omega) only [↓RP, RQ, TY, loadT, reduceIte, Nat.reduceEqDiff, Nat.reduceAdd, e22, e21, e20, e7, e2, e4, htl, hs5, hbX, ints_set]
    refine ⟨(t + 1, X.set (set.getD t 0).toNat t), ?_, by dsimp only; omega⟩
    simp (disch := first | assumption | omega) only [↓RP, RQ, TY, loadT, reduceIte, Nat.reduceEqDiff, Nat.reduceAdd, e22, e21, e20, e7, e2, e4]
    refine ⟨by omega, by simpa using hX, fun j hj => ?_, hp.upd (by simp [ints_length])⟩
    rw [getD_setN]
    by_cases q : (j : Int) = set.getD t 0
    · rw [if_pos ⟨by omega, by omega⟩, if_pos ((mem_takeZ (by omega)).mpr (.inr q)), q, idxZ_of ho.2.2 (by omega)]
    · rw [if_neg (fun z => q (by omega)), hXs j hj]
      by_cases z : (j : Int) ∈ set.take t
      · rw [if_pos z, if_pos ((mem_takeZ (by omega)).mpr (.inl z))]
      · rw [if_neg z, if_neg (fun y => ((mem_takeZ (by omega)).mp y).elim z q)]
  · have hXe : X = invL set := by
      refine lst_tab (by omega) fun j hj => ?_
      rw [hXs j (by omega), if_pos]
      rw [List.take_of_length_le (by omega)]
      exact ho.mem (by omega)
    have h25 := (hp.blkOf (y := (.sl b2 0 5 (.own 1), [.int .i64 p, .int .i64 m, md, .int .i64 N, v])) (by simp) rfl).1
    have h45 := (hp.blkOf (y := (.sl b4 0 5 (.own 1), [.int .i64 0, .int .i64 0, .nils, .int .i64 0, .nils])) (by simp) rfl)
    simp (disch := first | assumption | omega) only [↓RP, RQ, TY, loadT, reduceIte, Nat.reduceEqDiff, Nat.reduceAdd, e22, e21, e20, e7, e2, e4, htl, h25]
    refine c_Permute A (hm.ext hp.ext) hlm (hv.ext hp.ext) hc hp.head.sl (hXe ▸ invL_ord ho) fun md' lv us' H6 hE6 hm6 hr6 of1 of2 of3 => ?_
    rw [hXe] at hr6
    have em : (rows.map (mvL (invL set))) = rows.map fun r => pickL r set := List.map_congr_left fun r _ => mv_inv ho r
    rw [em] at hr6
    have b4n : H5 b4 ≠ .free := by rw [h45.1]; exact fun q => by cases q
    have i1 := isSl_one hr6.sl.isSl
    have i2 := isSl_one hm6.isSl
    have ip : (AV.int .i64 p).one = true := rfl
    have im : (AV.int .i64 m).one = true := rfl
    have iN : (AV.int .i64 N).one = true := rfl
    simp (disch := first | assumption | omega) only [↓RP, RQ, TY, loadT, reduceIte, Nat.reduceEqDiff, Nat.reduceAdd, e4, u_st5 (hE6.rw h45.1) ip im i2 iN i1, aRes, aResL, aRes1, Option.map_some]
    exact hQ h0 md' lv us' _ ((hp.ext.trans hE6).upd h45.2 _) (hm6.updOff of3 b4n _) (hr6.updOff of1 of2 b4n _)
end Go.Proofs.YtbkpebmcagdgmaaGreat.AM
/-! The law OrderingWidths. -/
namespace Go.Proofs.YtbkpebmcagdgmaaGreat.AM
open Go Go.RowKit
set_option linter.unusedVariables false
set_option linter.unusedSimpArgs false
set_option maxRecDepth 20000
section
variable {p m : Int} {mod : List Int} (h : (fF p m mod).Ok)
include h in
/-- the first positions of a reordered code -/
theorem pick_R {n : Nat} {rows : List (List Int)} (he : Els (fF p m mod) rows) {order : List Int} (ho : IsOrd n order) {i : Nat} (hi : i ≤ n) : letI := h.fd;
    (clo (colV h (rows.map fun r => pickL r order))).R n (fun j => decide (j < i)) = (clo (colV h rows)).R n (inL (order.take i)) ∧
    (clo (colV h (rows.map fun r => pickL r order))).R n (fun j => !decide (j < i)) = (clo (colV h rows)).R n (fun j => !inL (order.take i) j) := by
  letI := h.fd
  have hl := ho.1
  have hV : ∀ j, j < n → colV h (rows.map fun r => pickL r order) j = colV h rows (order.getD j 0).toNat := fun j hj => by
    funext r
    show h.k _ = h.k _
    rw [pick_ent r (by omega)]
  have key : ∀ (l : List Nat), (∀ j, j ∈ l → j < n) → (clo (colV h (rows.map fun r => pickL r order))).rk (fun _ => False) l = (clo (colV h rows)).rk (fun _ => False) (l.map fun j => (order.getD j 0).toNat) := fun l hlt => by
    rw [rk_pull (V := colV h rows) (fun j => (order.getD j 0).toNat) l _ (fun j hj => hV j (hlt j hj)) (fun j hj => hj.elim)]
    exact Clo.rk_ext _ (fun z => by simp) _
  obtain ⟨t1, t2⟩ := ho.take i
  have d1 : Poss n (order.drop i) := poss_mem.mpr fun y hy => poss_mem.mp ho.2.1 y (List.mem_of_mem_drop hy)
  have d2 : (order.drop i).Nodup := List.Nodup.sublist (List.drop_sublist _ _) ho.2.2
  constructor
  · rw [Clo.R, range_lt hi, key _ (fun j hj => by have := List.mem_range.mp hj; omega)]
    rw [← rankS_set h he t1 t2, rankS_rk h he]
    congr 1
    refine List.ext_getElem (by simp; omega) fun j h1 h2 => ?_
    simp at h1 h2
    simp [List.getD_eq_getElem?_getD, List.getElem?_eq_getElem (show j < order.length by omega)]
  · rw [Clo.R, range_ge hi, key _ (fun j hj => by
      obtain ⟨k, hk, rfl⟩ := List.mem_map.mp hj
      have := List.mem_range.mp hk
      omega)]
    have e1 : (clo (colV h rows)).R n (fun j => !inL (order.take i) j) = (clo (colV h rows)).R n (inL (order.drop i)) := by
      rw [Clo.R, Clo.R]
      congr 1
      refine List.filter_congr fun j hj => ?_
      have hjn := List.mem_range.mp hj
      have hm := ho.mem (j := j) (by omega)
      have hnd := ho.2.2
      rw [← List.take_append_drop i order] at hm hnd
      rw [List.nodup_append] at hnd
      rw [inL, inL]
      rcases List.mem_append.mp hm with q | q
      · have q2 : (j : Int) ∉ order.drop i := fun w => hnd.2.2 _ q _ w rfl
        rw [List.contains_iff_mem.mpr q]
        cases hd : (order.drop i).contains (j : Int) with
        | false => rfl
        | true => exact absurd (List.contains_iff_mem.mp hd) q2
      · have q2 : (j : Int) ∉ order.take i := fun w => hnd.2.2 _ w _ q rfl
        rw [List.contains_iff_mem.mpr q]
        cases hd : (order.take i).contains (j : Int) with
        | false => rfl
        | true => exact absurd (List.contains_iff_mem.mp hd) q2
    rw [e1, ← rankS_set h he d1 d2, rankS_rk h he]
    congr 1
    refine List.ext_getElem (by simp; omega) fun j h1 h2 => ?_
    simp at h1 h2
    simp [List.getD_eq_getElem?_getD, List.getElem?_eq_getElem (show i + j < order.length by omega)]
include h in
theorem pick_all {n : Nat} {rows : List (List Int)} (he : Els (fF p m mod) rows) (hr : Rect n rows) (hc : (canon (fF p m mod) rows n).1 = rows) {order : List Int} (ho : IsOrd n order) : (canon (fF p m mod) (rows.map fun r => pickL r order) n).1.length = rows.length := by
  letI := h.fd
  have hl := ho.1
  have pr : Rect n (rows.map fun r => pickL r order) := by
    have := pick_rect rows order
    rwa [show order.length = n by omega] at this
  have pe := pick_els h.el0 order he
  have hR := canon_red h pr pe
  have h1 := red_R h hR (canon_els h pr pe)
  have h2 : (clo (colV h (canon (fF p m mod) (rows.map fun r => pickL r order) n).1)).R n (fun _ => true) = (clo (colV h (rows.map fun r => pickL r order))).R n (fun _ => true) := (rk_same h (canon_rel h pr pe) _ _).symm
  have hRr := canon_red h hr he
  rw [hc] at hRr
  have h3 := red_R h hRr he
  have h4 := (pick_R h he ho (i := n) (Nat.le_refl n)).1
  have e1 : (clo (colV h (rows.map fun r => pickL r order))).R n (fun _ => true) = (clo (colV h (rows.map fun r => pickL r order))).R n (fun j => decide (j < n)) := by
    rw [Clo.R, Clo.R]
    congr 1
    exact List.filter_congr fun j hj => by simpa using hj
  have e2 : (clo (colV h rows)).R n (inL (order.take n)) = (clo (colV h rows)).R n (fun _ => true) := by
    rw [Clo.R, Clo.R]
    congr 1
    refine List.filter_congr fun j hj => ?_
    rw [List.take_of_length_le (by omega)]
    exact List.contains_iff_mem.mpr (ho.mem (by have := List.mem_range.mp hj; omega))
  omega
include h in
theorem reord_dim {n : Int} (hn : 0 ≤ n) {rows : List (List Int)} (he : Els (fF p m mod) rows) (hr : Rect n.toNat rows) (hc : (canon (fF p m mod) rows n.toNat).1 = rows) {order : List Int} (ho : IsOrd n order) {i : Nat} (hi : i ≤ n.toNat) :
    dimP p m mod n (canon (fF p m mod) (rows.map fun r => pickL r order) n.toNat).1 (fun j => decide (j < i)) = dimP p m mod n rows (inL (order.take i)) := by
  letI := h.fd
  obtain ⟨N, rfl⟩ : ∃ N : Nat, n = N := ⟨n.toNat, by omega⟩
  rw [Int.toNat_natCast] at *
  have hl := ho.1
  have pr : Rect N (rows.map fun r => pickL r order) := by
    have := pick_rect rows order
    rwa [show order.length = N by omega] at this
  have pe := pick_els h.el0 order he
  obtain ⟨h1, h2⟩ := pick_R h he ho hi
  have h3 := pick_all h he hr hc ho
  have hs : ∀ s, (clo (colV h (canon (fF p m mod) (rows.map fun r => pickL r order) N).1)).R N s = (clo (colV h (rows.map fun r => pickL r order))).R N s := fun s => (rk_same h (canon_rel h pr pe) _ _).symm
  have ce := canon_els h pr pe
  rw [dimP, dimP, rankP_R h he, rankP_R h he, rankP_R h ce, rankP_R h ce, Int.toNat_natCast, hs, hs, h1, h2, h3]
end
theorem law_Widths (A : Alg) {p m n : Int} {md v sv : AV} {mod set : List Int} {us : List AV} {rows : List (List Int)} {H : AH} (hm : Ints H md mod) (hlm : mod.length ≤ 9223372036854775807) (hv : Rows H v us rows) (hl : rows.length ≤ 9223372036854775807) (hlr : ∀ i, i < rows.length → (rowAt rows i).length ≤ 9223372036854775807) (hs : Ints H sv set) (hls : set.length ≤ 9223372036854775807) :
    AC Tryz.prog 3 [codeV p m md n v, sv] H fun r H' => r = .bool true ∧ Ext H H' := by
  refine at3 (by simp) ?_
  simp (disch := first | assumption | omega) only [↓RP, RQ, TY, loadT, s3, reduceIte, Nat.reduceEqDiff, Nat.reduceAdd]
  refine kNew_intro fun b H1 hb hE1 hH1 => ?_
  simp (disch := first | assumption | omega) only [↓RP, RQ, TY, loadT, reduceIte, Nat.reduceEqDiff, Nat.reduceAdd, hH1]
  refine c_OWidth A (hm.ext hE1) hlm (hv.ext hE1) (hs.ext hE1) hl hlr hls fun H2 hE2 => ?_
  have hE12 := hE1.trans hE2
  have h2 := hE2.rw hH1
  simp (disch := first | assumption | omega) only [↓RP, RQ, TY, loadT, reduceIte, Nat.reduceEqDiff, Nat.reduceAdd, h2]
  refine c_Width48 A (hm.ext hE12) (hv.ext hE12) (hs.ext hE12) hl hlr hls fun H3 hE3 => ?_
  have hE13 := hE12.trans hE3
  have h3 := hE3.rw h2
  simp (disch := first | assumption | omega) only [↓RP, RQ, TY, loadT, reduceIte, Nat.reduceEqDiff, Nat.reduceAdd, eq_false (show ¬ widVal p m mod n rows set ≠ widVal p m mod n rows set by simp), eq_false (show ¬ ordErr p m mod n rows set ≠ ordErr p m mod n rows set by simp)]
  refine c_alive A fun H4 hE4 => ?_
  have hE14 := hE13.trans hE4
  have h4 := hE4.rw h3
  by_cases h0 : ordErr p m mod n rows set = 0
  rotate_left
  · simp (disch := first | assumption | omega) only [↓RP, RQ, TY, loadT, reduceIte, Nat.reduceEqDiff, Nat.reduceAdd, eq_true h0]
    exact ⟨rfl, hE14⟩
  obtain ⟨hc, ho⟩ := ordErr_iff.mp h0
  simp (disch := first | assumption | omega) only [↓RP, RQ, TY, loadT, reduceIte, Nat.reduceEqDiff, Nat.reduceAdd, eq_false (show ¬ ordErr p m mod n rows set ≠ 0 from fun q => q h0), h4]
  refine c_Reorder A (hm.ext hE14) hlm (hv.ext hE14) (hs.ext hE14) hl hlr hls (fun _ md' lv us' H5 hE5 hm5 hr5 => ?_) (fun q => absurd h0 q)
  obtain ⟨hF, n1, n64, hr, els, kn, -⟩ := code_ok A.fo hc
  have ok := A.fo _ _ _ hF
  have hcan := code_canon hc
  obtain ⟨N, hN⟩ : ∃ N : Nat, n = N := ⟨n.toNat, by omega⟩
  subst hN
  rw [Int.toNat_natCast] at *
  have hol := ho.1
  have pr : Rect N (rows.map fun r => pickL r set) := by
    have := pick_rect rows set
    rwa [show set.length = N by omega] at this
  have pe := pick_els ok.el0 set els
  have kr := canon_red ok pr pe
  have ke := canon_els ok pr pe
  have kl := pick_all ok els hr hcan ho
  have hd := fun (i : Nat) (hi : i ≤ N) => reord_dim ok (n := N) (by omega) els (by rwa [Int.toNat_natCast]) (by rwa [Int.toNat_natCast]) ho (i := i) (by rwa [Int.toNat_natCast])
  rw [Int.toNat_natCast] at hd
  generalize hD : (canon (fF p m mod) (rows.map fun r => pickL r set) N).1 = D at *
  have hc' : codeErr p m mod N D = 0 := code_mk hF n1 n64 (by omega) (by rw [Int.toNat_natCast]; exact kr.rect) ke (by rw [Int.toNat_natCast]; exact congrArg Prod.fst (red_canon (F := fF p m mod) kr))
  have i1 := isSl_one hr5.sl.isSl
  have i2 := isSl_one hm5.isSl
  have ip : (AV.int .i64 p).one = true := rfl
  have im : (AV.int .i64 m).one = true := rfl
  have i0 : (AV.int .i64 N).one = true := rfl
  have hE15 := hE14.trans hE5
  simp (disch := first | assumption | omega) only [↓RP, RQ, TY, loadT, reduceIte, Nat.reduceEqDiff, Nat.reduceAdd]
  refine kNew_intro fun b6 H6 hb6 hE6 hH6 => ?_
  have h66 : (H6.upd b6 (.rw [.int .i64 p, .int .i64 m, md', .int .i64 N, lv])) b6 = .rw [.int .i64 p, .int .i64 m, md', .int .i64 N, lv] := updEq
  have hE6u := hE6.upd hb6 (.rw [.int .i64 p, .int .i64 m, md', .int .i64 N, lv])
  simp (disch := first | assumption | omega) only [↓RP, RQ, TY, loadT, reduceIte, Nat.reduceEqDiff, Nat.reduceAdd, u_st5 hH6 ip im i2 i0 i1, h66]
  generalize H6.upd b6 (.rw [.int .i64 p, .int .i64 m, md', .int .i64 N, lv]) = H7 at *
  have hE17 := hE15.trans hE6u
  refine c_Profile A (hm5.ext hE6u) hlm (hr5.ext hE6u) hc' fun w8 H8 hE8 ho8 => ?_
  have hpl : (profL p m mod N D).length = N + 1 := by rw [profL, tabN_length, Int.toNat_natCast]
  have hpg : ∀ i, i ≤ N → (profL p m mod N D).getD i 0 = dimP p m mod N rows (inL (set.take i)) := fun i hi => by
    rw [profL, Int.toNat_natCast, tabN_getD _ (by omega)]
    exact hd i hi
  have h18 := hE8.rw (hE6u.rw (hE5.rw h4))
  have hps := ho8.sl.ints
  have hcl : ¬ (((N + 1 : Nat) : Int) ≠ (N : Int) + 1) := fun q => q (by omega)
  obtain ⟨M, hM⟩ : ∃ M, N + 1 = M := ⟨_, rfl⟩
  rw [hM] at hpl hcl
  rw [hpl] at hps
  simp (disch := first | assumption | omega) only [↓RP, RQ, TY, loadT, reduceIte, Nat.reduceEqDiff, Nat.reduceAdd, Int.reduceEq, Int.reduceNe, hps, h18, eq_false hcl]
  refine sw_loop (σ := Nat) (fun i e H' => e 14 = .int .i64 i ∧ e 13 = .int .i64 (widL p m mod N rows set (i - 1)) ∧ e 11 = w8 ∧ e 5 = .int .i64 (widVal p m mod N rows set) ∧ i ≤ M ∧ H' = H8) (fun i => M - i) 0 ?_ ?_
  · simp (disch := first | assumption | omega) only [↓RP, RQ, TY, loadT, reduceIte, Nat.reduceEqDiff, Nat.reduceAdd]
    exact ⟨rfl, by omega⟩
  rintro i e H' ⟨e14, e13, e11, e5, hi, rfl⟩
  by_cases hlt : (i : Int) < M
  · have hg := hpg i (by omega)
    simp (disch := first | assumption | omega) only [↓RP, RQ, TY, loadT, reduceIte, Nat.reduceEqDiff, Nat.reduceAdd, e14, e13, e11, e5, hlt, hps, hg]
    refine ⟨i + 1, ?_, by dsimp only; omega⟩
    simp (disch := first | assumption | omega) only [↓RP, RQ, TY, loadT, reduceIte, Nat.reduceEqDiff, Nat.reduceAdd, e14, e13, e11, e5]
    refine ⟨?_, by omega⟩
    rw [Nat.add_sub_cancel]
    cases i with
    | zero =>
      have hd0 := dimP_empty ok (n := N) els
      rw [List.take_zero, widL]
      congr 1
      split <;> omega
    | succ i =>
      rw [Nat.add_sub_cancel, widL]
      congr 1
      split <;> omega
  · have hw : widVal p m mod N rows set = widL p m mod N rows set set.length := by rw [widVal, if_pos h0]
    rw [hw] at e5
    rw [show i - 1 = set.length by omega] at e13
    simp (disch := first | assumption | omega) only [↓RP, RQ, TY, loadT, reduceIte, Nat.reduceEqDiff, Nat.reduceAdd, e14, e13, e11, e5, hlt, hps]
    exact ⟨rfl, hE17.trans hE8⟩
end Go.Proofs.YtbkpebmcagdgmaaGreat.AM
