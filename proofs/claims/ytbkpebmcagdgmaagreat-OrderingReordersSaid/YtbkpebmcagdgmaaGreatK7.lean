/- Helpers. The library's slices.AppendSeq, Collect and Values on the abstract machine. · The library's slices.Sort at this program: laid by the kit's tool in plain words. · The library's slices.Sort, Values, Collect and Sorted on the abstract machine. · The law OrderingSteps. · The law OrderingModular. · The program's orderings, third part: Greedy; the greedy order as a list. · The reference's words: Compare, Same; its greedy order. · The program's orderings, fourth part: ordered, width, Width; the reference's IsOrder, Order, Width. · The widths of an order: the program's width and Width, the reference's Width. · The program's trellises: span, ranks, Profile. · The program's codes, second part: New; permuted codes. · Permuted codes: modify.Permute, ordering.Reorder. · Rows of a matrix: elimination keeps their span; words of a code reduce to zero (plain law). · The program's spaces: open with its view, words, reduction; code.list, word, Has. · The reference's codes: Same, Field, Make, List, Combine, Encode; Reorder. · The program's spaces, second part: views, reduction, Has; code.word, code.Has. · The program's spaces, third part: zero, has, Has; code.word, code.Has. · The reference's Combine, Encode; its Reorder; words of reordered codes. · The law OrderingWidths. · The law OrderingReorders. -/
import Derived.Test.YtbkpebmcagdgmaaGreatK6
import Derived.Shelf.Sort.Plain
import Derived.Shelf.Slices.In.SortNone
import Derived.Test.YtbkpebmcagdgmaaGreatProg
import Derived.Sort.OwnSortedInts
/-! The library's slices.AppendSeq, Collect and Values on the abstract machine. -/
namespace Go.Proofs.YtbkpebmcagdgmaaGreat.AM
open Go Go.RowKit
set_option linter.unusedVariables false
set_option linter.unusedSimpArgs false
set_option maxRecDepth 20000
theorem Rep.below {H : AH} {w w' : World} (h : Rep H w) (hB : Below w.heap.size w w') : Rep H w' := by
  have hp := Pres.of_old hB.size hB.block
  refine ⟨fun b hb => h.fresh b (Nat.le_trans hB.size hb), fun b o v hc => ?_, fun b xs hb => ?_⟩
  · obtain ⟨arr, ty, fr, u, h1, h2, h3⟩ := h.cell b o v hc
    exact ⟨arr, ty, fr, u, (hB.block b (cell_lt h hc)).trans h1, h2, h3.mono hp⟩
  · obtain ⟨arr, ty, h1, h2⟩ := h.own b xs hb
    exact ⟨arr, ty, (hB.block b (not_free_lt h (by rw [hb]; exact fun q => by cases q))).trans h1, h2⟩
theorem Stp.below {H : AH} {w w' : World} (hB : Below w.heap.size w w') : Stp H H w w' :=
  ⟨hB.os, hB.tape, hB.output, Pres.of_old hB.size hB.block, fun b hb _ => hB.block b hb, fun _ _ h => h, fun _ _ h => h⟩
/-- a new block of ints behind what the call found -/
theorem Rep.newInts {H : AH} {w w' : World} (h : Rep H w) (hB : Below w.heap.size w w') {g : Nat} {cur : Array Value} {ty : TypeId} {xs : List Int} (hg : w.heap.size ≤ g) (hb : w'.heap[g]? = some (.cells cur ty (0, 0))) (hl : xs.length ≤ cur.size) (hc : cur.toList.take xs.length = xs.map (Value.int .i64)) :
    Rep (H.upd g (.rw (ints xs))) w' ∧ Stp H (H.upd g (.rw (ints xs))) w w' := by
  have hr := h.below hB
  have hgl : g < w'.heap.size := (Array.getElem?_eq_some_iff.1 hb).1
  refine ⟨⟨fun b hb' => ?_, fun b o v hv => ?_, fun b us hu => ?_⟩, ⟨hB.os, hB.tape, hB.output, Pres.of_old hB.size hB.block, fun b hb _ => hB.block b hb, fun b hb hf => ?_, fun b hb hn => ?_⟩⟩
  · rw [upd_ne _ _ (by omega)]; exact hr.fresh b hb'
  · by_cases q : b = g
    · subst q
      simp only [AH.cell, upd_same] at hv
      have ho : o < xs.length := by
        have := (List.getElem?_eq_some_iff.1 hv).1
        rwa [ints_length] at this
      rw [ints_get ho] at hv
      cases hv
      refine ⟨cur, ty, (0, 0), .int .i64 (xs.getD o 0), hb, ?_, .int _ _⟩
      have h1 : (cur.toList.take xs.length)[o]? = (xs.map (Value.int .i64))[o]? := by rw [hc]
      rw [List.getElem?_take_of_lt ho, Array.getElem?_toList] at h1
      rw [h1, List.getElem?_map, List.getD_eq_getElem?_getD, List.getElem?_eq_getElem ho]
      rfl
    · have hv' : H.cell b o = some v := by simpa only [AH.cell, upd_ne _ _ q] using hv
      exact hr.cell b o v hv'
  · by_cases q : b = g
    · subst q
      rw [upd_same] at hu
      cases hu
      exact ⟨cur, ty, hb, by rw [ints_length]; exact hl⟩
    · rw [upd_ne _ _ q] at hu
      exact hr.own b us hu
  · rw [upd_ne _ _ (by omega)]; exact hf
  · rw [upd_ne _ _ (by omega)]; exact hn
theorem ints_eq_nil {xs : List Int} (h : ints xs = []) : xs = [] := by
  cases xs with
  | nil => rfl
  | cons a l => simp [ints] at h
theorem sints_of {H : AH} {W : World} (hR : Rep H W) {v : AV} {u : Value} {xs : List Int} (hv : Ints H v xs) (hu : RV W v u) : Seq.SInts W.heap.size W u xs := by
  rcases hv with ⟨rfl, h2⟩ | ⟨b, o, c, rfl, h2⟩
  · cases hu
    exact .inl ⟨ints_eq_nil h2, _, _, rfl⟩
  · have hl := ints_length xs
    generalize hk : (ints xs).length = k at hu hl
    cases hu with
    | sl _ _ _ cap _ a hn hm hc ho =>
      rcases ho with ⟨rfl, hb⟩ | ⟨h0, -⟩
      · refine .inr ⟨b, o, cap, by rw [hl], hb, fun j hj => ?_⟩
        have h3 := h2 j _ (ints_get hj)
        obtain ⟨x, hx, hx2⟩ := hR.cell? h3
        cases hx2
        rw [hx, List.getD_eq_getElem?_getD]
      · exact .inl ⟨List.eq_nil_of_length_eq_zero (by omega), _, _, by rw [h0]⟩
set_option maxRecDepth 100000 in
theorem c_AppendSeq {H : AH} {bs : Nat} {v : AV} {xs : List Int} {Q : AV → AH → Prop} (hb : H bs = .rw [v]) (hv : Ints H v xs) (hl : xs.length ≤ 1000) (hQ : ∀ w H', Ext H H' → Own H H' w (ints xs) → (w = .nils ↔ xs = []) → Q w H') :
    AC Tryz.prog 163 [.nils, .fn 122 [.ptr bs 0]] H Q := by
  refine ⟨by kernel_rfl, fun W argv hR hA => ?_⟩
  obtain ⟨hlen, hA⟩ := hA
  obtain ⟨l⟩ := argv
  match l, hlen with
  | [x, y], _ =>
    have h0 := hA 0 .nils x rfl rfl
    have h1 := hA 1 (.fn 122 [.ptr bs 0]) y rfl rfl
    cases h0
    cases h1 with
    | fn _ _ vs hs hvs =>
      obtain ⟨vl⟩ := vs
      match vl, hs with
      | [z], _ =>
        have h2 := hvs 0 (.ptr bs 0) z rfl rfl
        cases h2 with
        | ptr _ _ hbs =>
          obtain ⟨u, hu, hu2⟩ := hR.cell? (b := bs) (o := 0) (v := v) (by simp [AH.cell, hb])
          refine (callsIn_wide.1 (Seq.appendSeq_values Fence.wide 3 trivial trivial rfl (Nat.le_refl _) bs u xs (by omega) W hbs hu (sints_of hR hv hu2))).mono ?_
          rintro e w' ⟨v', rfl, hown, hnil, hB⟩
          rcases hown.2 with ⟨rfl, hz⟩ | ⟨g, cap, cur, rfl, hg, hgb, hn, hcap, hsz, htk⟩
          · have hx : xs = [] := List.eq_nil_of_length_eq_zero hz
            subst hx
            exact ⟨_, .nils, H, rfl, hQ .nils H (Ext.refl H) Own.nils ⟨fun _ => rfl, fun _ => rfl⟩, hR.below hB, .nils, Stp.below hB⟩
          · rw [Nat.mul_one] at htk hsz
            obtain ⟨r1, r2⟩ := hR.newInts hB hg hgb (by omega) htk
            have hf : H g = .free := hR.fresh g hg
            refine ⟨_, .sl g 0 xs.length (.own 1), _, rfl, hQ _ _ (Ext.new hf _) (Own.mk (upd_same _ _ _) hf (by rw [ints_length])) ⟨fun q => (by cases q), fun q => ?_⟩, r1, ?_, r2⟩
            · have := hnil.mpr q
              cases this
            · exact .sl g 0 xs.length cap _ _ hn hcap ⟨rfl, cur, 3, (0, 0), hgb, by omega⟩ (.inl ⟨rfl, (Array.getElem?_eq_some_iff.1 hgb).1⟩)
end Go.Proofs.YtbkpebmcagdgmaaGreat.AM
/-! The library's slices.Sort at this program: laid by the kit's tool in plain words. -/
namespace Go.Proofs.YtbkpebmcagdgmaaGreat.SortL
open Go Go.Proofs Go.Shelf
def lays189_ren : Go.Shelf.Ren := ⟨fun | 189 => 80 | 125 => 124 | 257 => 123 | 128 => 173 | 129 => 174 | 294 => 164 | 295 => 165 | 296 => 166 | 297 => 167 | 298 => 168 | 299 => 169 | 216 => 170 | 300 => 171 | 301 => 172 | 328 => 194 | 329 => 195 | 330 => 196 | 331 => 197 | 332 => 198 | 215 => 199 | 343 => 203 | n => n, fun | 28 => 22 | 3 => 3 | 46 => 140 | 0 => 0 | 51 => 178 | 53 => 116 | 4 => 4 | 183 => 170 | 182 => 169 | 131 => 175 | 5 => 5 | 9 => 9 | 218 => 188 | 222 => 192 | 228 => 194 | 229 => 81 | n => n, fun | n => n⟩
theorem lays189 : Go.Proofs.Lays.n189 Tryz.prog lays189_ren := {
  mixed := by kernel_rfl
  f125 := Tryz.func124.trans (congrArg some (by kernel_rfl))
  f128 := Tryz.func173.trans (congrArg some (by kernel_rfl))
  f129 := Tryz.func174.trans (congrArg some (by kernel_rfl))
  f189 := Tryz.func80.trans (congrArg some (by kernel_rfl))
  f215 := Tryz.func199.trans (congrArg some (by kernel_rfl))
  f216 := Tryz.func170.trans (congrArg some (by kernel_rfl))
  f257 := Tryz.func123.trans (congrArg some (by kernel_rfl))
  f294 := Tryz.func164.trans (congrArg some (by kernel_rfl))
  f295 := Tryz.func165.trans (congrArg some (by kernel_rfl))
  f296 := Tryz.func166.trans (congrArg some (by kernel_rfl))
  f297 := Tryz.func167.trans (congrArg some (by kernel_rfl))
  f298 := Tryz.func168.trans (congrArg some (by kernel_rfl))
  f299 := Tryz.func169.trans (congrArg some (by kernel_rfl))
  f300 := Tryz.func171.trans (congrArg some (by kernel_rfl))
  f301 := Tryz.func172.trans (congrArg some (by kernel_rfl))
  f328 := Tryz.func194.trans (congrArg some (by kernel_rfl))
  f329 := Tryz.func195.trans (congrArg some (by kernel_rfl))
  f330 := Tryz.func196.trans (congrArg some (by kernel_rfl))
  f331 := Tryz.func197.trans (congrArg some (by kernel_rfl))
  f332 := Tryz.func198.trans (congrArg some (by kernel_rfl))
  f343 := Tryz.func203.trans (congrArg some (by kernel_rfl))
  t0 := Tryz.underlying0
  a0 := Tryz.isAgg0
  z0 := Tryz.sizeOf0
  v0 := Tryz.zeroValue0
  t3 := Tryz.underlying3
  a3 := Tryz.isAgg3
  z3 := Tryz.sizeOf3
  v3 := Tryz.zeroValue3
  t4 := Tryz.underlying4
  a4 := Tryz.isAgg4
  z4 := Tryz.sizeOf4
  v4 := Tryz.zeroValue4
  t5 := Tryz.underlying5
  a5 := Tryz.isAgg5
  z5 := Tryz.sizeOf5
  v5 := Tryz.zeroValue5
  t9 := Tryz.underlying9
  a9 := Tryz.isAgg9
  z9 := Tryz.sizeOf9
  v9 := Tryz.zeroValue9
  t28 := Tryz.underlying22
  a28 := Tryz.isAgg22
  z28 := Tryz.sizeOf22
  v28 := Tryz.zeroValue22
  t46 := Tryz.underlying140
  a46 := Tryz.isAgg140
  z46 := Tryz.sizeOf140
  v46 := Tryz.zeroValue140
  t51 := Tryz.underlying178
  a51 := Tryz.isAgg178
  z51 := Tryz.sizeOf178
  v51 := Tryz.zeroValue178
  t53 := Tryz.underlying116
  a53 := Tryz.isAgg116
  z53 := Tryz.sizeOf116
  v53 := Tryz.zeroValue116
  t131 := Tryz.underlying175
  a131 := Tryz.isAgg175
  z131 := Tryz.sizeOf175
  v131 := Tryz.zeroValue175
  t182 := Tryz.underlying169
  a182 := Tryz.isAgg169
  z182 := Tryz.sizeOf169
  v182 := Tryz.zeroValue169
  t183 := Tryz.underlying170
  a183 := Tryz.isAgg170
  z183 := Tryz.sizeOf170
  v183 := Tryz.zeroValue170
  t218 := Tryz.underlying188
  a218 := Tryz.isAgg188
  z218 := Tryz.sizeOf188
  v218 := Tryz.zeroValue188
  t222 := Tryz.underlying192
  a222 := Tryz.isAgg192
  z222 := Tryz.sizeOf192
  v222 := Tryz.zeroValue192
  t228 := Tryz.underlying194
  a228 := Tryz.isAgg194
  z228 := Tryz.sizeOf194
  v228 := Tryz.zeroValue194
  t229 := Tryz.underlying81
  a229 := Tryz.isAgg81
  z229 := Tryz.sizeOf81
  v229 := Tryz.zeroValue81 }
open Go.Sort Go.RowKit in
theorem sort_int (blk off cap : Nat) (zs : List Int) (w : World) (hH : Holds (Value.int .i64) w blk off zs.toArray) (hblk : blk < w.heap.size) (hsz : zs.length < 4611686018427387904) :
    Calls Tryz.prog 80 #[.slice (some ⟨blk, off, none⟩) zs.length cap] w fun e w' =>
      e = .returned (.tuple #[]) ∧ ∃ n os, w' = grow (putRow (Value.int .i64) (Sort.ahead w n) blk off (zs.mergeSort fun x y => decide (x ≤ y)).toArray) os := Any.slices_Sort_int lays189 blk off cap zs w hH hblk hsz
open Go.Sort Go.RowKit in
theorem sort_none (p : Option Addr) (cap : Nat) (w : World) : Calls Tryz.prog 80 #[.slice p 0 cap] w fun e w' => e = .returned (.tuple #[]) ∧ w' = w := Any.slices_Sort_int_none lays189 p cap w
end Go.Proofs.YtbkpebmcagdgmaaGreat.SortL
/-! The library's slices.Sort, Values, Collect and Sorted on the abstract machine. -/
namespace Go.Proofs.YtbkpebmcagdgmaaGreat.AM
open Go Go.RowKit
set_option linter.unusedVariables false
set_option linter.unusedSimpArgs false
set_option maxRecDepth 20000
/-- a list in ascending order -/
def sortL (xs : List Int) : List Int := xs.mergeSort fun x y => decide (x ≤ y)
theorem sortL_length (xs : List Int) : (sortL xs).length = xs.length := List.length_mergeSort xs
theorem Rep.turn {H : AH} {w w' : World} (h : Rep H w) {b : Nat} {ys : List AV} {ts : List Int} (hb : H b = .rw ys) (hg : w.grownBy w' (some b)) {cur cur' : Array Value} {ty : TypeId} (h1 : w.heap[b]? = some (.cells cur ty (0, 0))) (h2 : w'.heap[b]? = some (.cells cur' ty (0, 0))) (hs : cur'.size = cur.size) (hl : ts.length ≤ cur'.size) (ht : cur'.toList.take ts.length = ts.map (Value.int .i64)) :
    Rep (H.upd b (.rw (ints ts))) w' ∧ Stp H (H.upd b (.rw (ints ts))) w w' := by
  obtain ⟨g1, g2, g3, g4, g5⟩ := hg
  have hbl : b < w.heap.size := (Array.getElem?_eq_some_iff.1 h1).1
  have same : ∀ k, k < w.heap.size → k ≠ b → w'.heap[k]? = w.heap[k]? := fun k hk hne => g5 k hk (fun q => hne (by cases q; rfl))
  have hp : Pres w w' := ⟨g4, fun k arr ty' fr hk => by
    by_cases q : k = b
    · subst q
      rw [h1] at hk
      cases hk
      exact ⟨cur', _, _, h2, hs⟩
    · have hkl : k < w.heap.size := (Array.getElem?_eq_some_iff.1 hk).1
      exact ⟨arr, ty', fr, (same k hkl q).trans hk, rfl⟩⟩
  refine ⟨⟨fun k hk => ?_, fun k o v hv => ?_, fun k us hu => ?_⟩, ⟨g1, g2, g3, hp, fun k hk hn => ?_, fun k hk hf => ?_, fun k hk hn => ?_⟩⟩
  · rw [upd_ne _ _ (by omega)]; exact h.fresh k (by omega)
  · by_cases q : k = b
    · subst q
      simp only [AH.cell, upd_same] at hv
      have ho : o < ts.length := by
        have := (List.getElem?_eq_some_iff.1 hv).1
        rwa [ints_length] at this
      rw [ints_get ho] at hv
      cases hv
      refine ⟨cur', ty, (0, 0), .int .i64 (ts.getD o 0), h2, ?_, .int _ _⟩
      have h3 : (cur'.toList.take ts.length)[o]? = (ts.map (Value.int .i64))[o]? := by rw [ht]
      rw [List.getElem?_take_of_lt ho, Array.getElem?_toList] at h3
      rw [h3, List.getElem?_map, List.getD_eq_getElem?_getD, List.getElem?_eq_getElem ho]
      rfl
    · have hv' : H.cell k o = some v := by simpa only [AH.cell, upd_ne _ _ q] using hv
      obtain ⟨arr, ty', fr, u, q1, q2, q3⟩ := h.cell k o v hv'
      exact ⟨arr, ty', fr, u, (same k (cell_lt h hv') q).trans q1, q2, q3.mono hp⟩
  · by_cases q : k = b
    · subst q
      rw [upd_same] at hu
      cases hu
      exact ⟨cur', ty, h2, by rw [ints_length]; exact hl⟩
    · rw [upd_ne _ _ q] at hu
      obtain ⟨arr, ty', q1, q2⟩ := h.own k us hu
      exact ⟨arr, ty', (same k (Array.getElem?_eq_some_iff.1 q1).1 q).trans q1, q2⟩
  · by_cases q : k = b
    · subst q
      exact absurd hb (hn _)
    · exact same k hk q
  · by_cases q : k = b
    · subst q
      rw [hb] at hf
      cases hf
    · rw [upd_ne _ _ q]; exact hf
  · by_cases q : k = b
    · subst q
      exact absurd hb (hn _)
    · rw [upd_ne _ _ q]; exact hn
open Go.Sort in
theorem c_SortB {H : AH} {b : Nat} {xs : List Int} {Q : AV → AH → Prop} (hb : H b = .rw (ints xs)) (hl : xs.length ≤ 1000) (hQ : Q (.tup []) (H.upd b (.rw (ints (sortL xs))))) : AC Tryz.prog 80 [.sl b 0 xs.length (.own 1)] H Q := by
  refine ⟨by kernel_rfl, fun W argv hR hA => ?_⟩
  obtain ⟨hlen, hA⟩ := hA
  obtain ⟨l⟩ := argv
  match l, hlen with
  | [x], _ =>
    have h0 := hA 0 (.sl b 0 xs.length (.own 1)) x rfl rfl
    generalize hk : xs.length = k at h0
    cases h0 with
    | sl _ _ _ cap _ a hn hm hc ho =>
      rcases ho with ⟨rfl, hbl⟩ | ⟨-, h0⟩
      · obtain ⟨cur, ty, h1, h2⟩ := hR.own b _ hb
        rw [ints_length] at h2
        have ht : cur.toList.take xs.length = xs.map (Value.int .i64) := by
          apply List.ext_getElem?
          intro j
          by_cases hj : j < xs.length
          · rw [List.getElem?_take_of_lt hj, Array.getElem?_toList]
            obtain ⟨arr, ty', fr, u, q1, q2, q3⟩ := hR.cell b j _ (show H.cell b j = some (.int .i64 (xs.getD j 0)) by simp only [AH.cell, hb]; exact ints_get hj)
            rw [h1] at q1
            cases q1
            cases q3
            rw [q2, List.getElem?_map, List.getD_eq_getElem?_getD, List.getElem?_eq_getElem hj]
            rfl
          · rw [List.getElem?_take_eq_none (by omega), List.getElem?_eq_none (by simp; omega)]
        subst hk
        refine (SortL.sort_int b 0 cap xs W (holds_of_blockI h1 ht) hbl (by omega)).mono ?_
        rintro e w' ⟨rfl, n, os, rfl⟩
        have e1 : (xs.mergeSort fun x y => decide (x ≤ y)) = sortL xs := rfl
        rw [e1]
        have hs := sortL_length xs
        obtain ⟨r1, r2⟩ := hR.turn hb (grownBy_sortedI (w := W) (n := n) (os := os) (g := b) (sortL xs).toArray) h1 (heap_sortedI (n := n) (os := os) (sortL xs).toArray h1) (by simp [putCells]) (by simp [putCells]; omega) (take_putCellsI cur (sortL xs) (by omega))
        exact ⟨_, .tup [], _, rfl, hQ, r1, .tup [] #[] rfl (fun i c v hc _ => by simp at hc), r2⟩
      · exact absurd rfl (h0 1)
open Go.Sort in
theorem c_SortN {H : AH} {Q : AV → AH → Prop} (hQ : Q (.tup []) H) : AC Tryz.prog 80 [.nils] H Q := by
  refine ⟨by kernel_rfl, fun W argv hR hA => ?_⟩
  obtain ⟨hlen, hA⟩ := hA
  obtain ⟨l⟩ := argv
  match l, hlen with
  | [x], _ =>
    have h0 := hA 0 .nils x rfl rfl
    cases h0
    refine (SortL.sort_none none 0 W).mono ?_
    rintro e w' ⟨rfl, rfl⟩
    exact ⟨_, .tup [], H, rfl, hQ, hR, .tup [] #[] rfl (fun i c v hc _ => by simp at hc), Stp.refl H _⟩
/-- Sort of a slice of the call's own -/
theorem c_Sort {H0 H : AH} {v : AV} {xs : List Int} {L : List (AV × List AV)} {Q : AV → AH → Prop} (h : Hp H0 H ((v, ints xs) :: L)) (hl : xs.length ≤ 1000) (hQ : ∀ H', Hp H0 H' ((v, ints (sortL xs)) :: L) → Q (.tup []) H') : AC Tryz.prog 80 [v] H Q := by
  rcases h.head with ⟨rfl, h2⟩ | ⟨b, rfl, hb, h0⟩
  · have hx := ints_eq_nil h2
    subst hx
    exact c_SortN (hQ H (by rw [show sortL [] = [] from List.mergeSort_nil]; exact h))
  · rw [ints_length] at h ⊢
    refine c_SortB hb hl (hQ _ ?_)
    have := h.upd (us' := ints (sortL xs)) (by rw [ints_length, ints_length, sortL_length])
    rw [ints_length]
    exact this
theorem c_Values {v : AV} {H : AH} {Q : AV → AH → Prop} (hv : v.isSl = true) (hQ : ∀ b H', Ext H H' → H' b = .rw [v] → Q (.fn 122 [.ptr b 0]) H') : AC Tryz.prog 79 [v] H Q := by
  refine at79 (by simp) ?_
  simp (disch := first | assumption | omega) only [↓RP, RQ, TY, loadT, s79, reduceIte, Nat.reduceEqDiff, Nat.reduceAdd]
  have hs : v.sure = true := by cases v <;> first | rfl | (simp [AV.isSl] at hv)
  have hc : v.cells = [v] := by cases v <;> first | rfl | (simp [AV.isSl] at hv)
  refine ⟨hs, ?_⟩
  rw [hc]
  refine kNew_intro fun b H1 hb hE1 hH1 => ?_
  simp (disch := first | assumption | omega) only [↓RP, RQ, TY, loadT, reduceIte, Nat.reduceEqDiff, Nat.reduceAdd]
  exact hQ b H1 hE1 hH1
theorem c_Collect {H : AH} {bs : Nat} {v : AV} {xs : List Int} {Q : AV → AH → Prop} (hb : H bs = .rw [v]) (hv : Ints H v xs) (hl : xs.length ≤ 1000) (hQ : ∀ w H', Ext H H' → Own H H' w (ints xs) → Q w H') :
    AC Tryz.prog 121 [.fn 122 [.ptr bs 0]] H Q := by
  refine at121 (by simp) ?_
  simp (disch := first | assumption | omega) only [↓RP, RQ, TY, loadT, s121, reduceIte, Nat.reduceEqDiff, Nat.reduceAdd]
  refine c_AppendSeq hb hv hl fun w H' hE ho _ => ?_
  simp (disch := first | assumption | omega) only [↓RP, RQ, TY, loadT, reduceIte, Nat.reduceEqDiff, Nat.reduceAdd]
  exact hQ w H' hE ho
theorem c_Sorted {H : AH} {bs : Nat} {v : AV} {xs : List Int} {Q : AV → AH → Prop} (hb : H bs = .rw [v]) (hv : Ints H v xs) (hl : xs.length ≤ 1000) (hQ : ∀ w H', Ext H H' → Own H H' w (ints (sortL xs)) → Q w H') :
    AC Tryz.prog 78 [.fn 122 [.ptr bs 0]] H Q := by
  refine at78 (by simp) ?_
  simp (disch := first | assumption | omega) only [↓RP, RQ, TY, loadT, s78, reduceIte, Nat.reduceEqDiff, Nat.reduceAdd]
  refine c_Collect hb hv hl fun w H1 hE1 ho1 => ?_
  simp (disch := first | assumption | omega) only [↓RP, RQ, TY, loadT, reduceIte, Nat.reduceEqDiff, Nat.reduceAdd]
  refine c_Sort (H0 := H) ((Hp.nil (Ext.refl H)).made (H1 := H) hE1 ho1) hl fun H2 hp2 => ?_
  simp (disch := first | assumption | omega) only [↓RP, RQ, TY, loadT, reduceIte, Nat.reduceEqDiff, Nat.reduceAdd]
  exact hQ w H2 hp2.ext hp2.head
end Go.Proofs.YtbkpebmcagdgmaaGreat.AM
/-! The law OrderingSteps. -/
namespace Go.Proofs.YtbkpebmcagdgmaaGreat.AM
open Go Go.RowKit
set_option linter.unusedVariables false
set_option linter.unusedSimpArgs false
set_option maxRecDepth 20000
end Go.Proofs.YtbkpebmcagdgmaaGreat.AM
/-! The law OrderingModular. -/
namespace Go.Proofs.YtbkpebmcagdgmaaGreat.AM
open Go Go.RowKit
set_option linter.unusedVariables false
set_option linter.unusedSimpArgs false
set_option maxRecDepth 20000
theorem Subset.count {n : Int} {s : List Int} (h : Subset n s) (x : Int) : s.count x = if s.contains x = true then 1 else 0 := by
  by_cases q : s.contains x = true
  · rw [if_pos q]
    have h1 := List.nodup_iff_count.mp h.nodup x
    have h2 := List.count_pos_iff.mpr (List.contains_iff_mem.mp q)
    omega
  · rw [if_neg q]
    exact List.count_eq_zero.mpr fun w => q (List.contains_iff_mem.mpr w)
end Go.Proofs.YtbkpebmcagdgmaaGreat.AM
/-! The program's orderings, third part: Greedy; the greedy order as a list. -/
namespace Go.Proofs.YtbkpebmcagdgmaaGreat.AM
open Go Go.RowKit
set_option linter.unusedVariables false
set_option linter.unusedSimpArgs false
set_option maxRecDepth 20000
theorem perm_mask {n : Nat} {set : List Int} (hp : Poss n set) (hn : set.Nodup) : (set.map Int.toNat).Perm ((List.range n).filter (inL set)) := by
  refine (List.perm_ext_iff_of_nodup ?_ (filter_nodup _ _)).mpr fun a => ?_
  · rw [List.Nodup, List.pairwise_iff_getElem] at hn ⊢
    intro i j hi hj hij q
    simp only [List.length_map] at hi hj
    simp only [List.getElem_map] at q
    have h1 := hp i hi
    have h2 := hp j hj
    simp only [List.getD_eq_getElem?_getD, List.getElem?_eq_getElem hi, List.getElem?_eq_getElem hj, Option.getD_some] at h1 h2
    exact hn i j hi hj hij (by omega)
  · simp only [List.mem_map, List.mem_filter, List.mem_range, inL, List.contains_iff_mem]
    constructor
    · rintro ⟨x, hx, rfl⟩
      obtain ⟨i, hi, rfl⟩ := List.getElem_of_mem hx
      have h1 := hp i hi
      simp only [List.getD_eq_getElem?_getD, List.getElem?_eq_getElem hi, Option.getD_some] at h1
      exact ⟨by omega, by rw [Int.toNat_of_nonneg h1.1]; exact hx⟩
    · rintro ⟨h1, h2⟩
      exact ⟨a, h2, rfl⟩
theorem othersN_len {n : Nat} {set : List Int} (hp : Poss n set) (hn : set.Nodup) : set.length + (othersN n set).length = n := by
  have h1 := (perm_mask hp hn).length_eq
  have h2 := filter_len n (inL set)
  have e : othersN n set = (List.range n).filter fun i => !inL set i := rfl
  rw [e]
  rw [List.length_map] at h1
  omega
theorem mem_others {n : Nat} {set : List Int} {x : Nat} : x ∈ othersN n set ↔ x < n ∧ (x : Int) ∉ set := by
  simp [othersN]
theorem poss_mem {n : Int} {set : List Int} : Poss n set ↔ ∀ x, x ∈ set → 0 ≤ x ∧ x < n := by
  constructor
  · intro h x hx
    obtain ⟨i, hi, rfl⟩ := List.getElem_of_mem hx
    have := h i hi
    simpa only [List.getD_eq_getElem?_getD, List.getElem?_eq_getElem hi, Option.getD_some] using this
  · intro h i hi
    have := h _ (List.getElem_mem hi)
    simpa only [List.getD_eq_getElem?_getD, List.getElem?_eq_getElem hi, Option.getD_some] using this
theorem nodup_push {l : List Int} {x : Int} (h : l.Nodup) (hx : x ∉ l) : (l ++ [x]).Nodup := by
  rw [List.nodup_append]
  exact ⟨h, by simp, fun a ha b hb => by simp at hb; subst hb; exact fun q => hx (q ▸ ha)⟩
end Go.Proofs.YtbkpebmcagdgmaaGreat.AM
/-! The reference's words: Compare, Same; its greedy order. -/
namespace Go.Proofs.YtbkpebmcagdgmaaGreat.AM
open Go Go.RowKit
set_option linter.unusedVariables false
set_option linter.unusedSimpArgs false
set_option maxRecDepth 20000
end Go.Proofs.YtbkpebmcagdgmaaGreat.AM
/-! The program's orderings, fourth part: ordered, width, Width; the reference's IsOrder, Order, Width. -/
namespace Go.Proofs.YtbkpebmcagdgmaaGreat.AM
open Go Go.RowKit
set_option linter.unusedVariables false
set_option linter.unusedSimpArgs false
set_option maxRecDepth 20000
/-- each position once -/
def IsOrd (n : Int) (order : List Int) : Prop := (order.length : Int) = n ∧ Poss n order ∧ order.Nodup
open Classical in
noncomputable def ordErr (p m : Int) (mod : List Int) (n : Int) (rows : List (List Int)) (order : List Int) : Int := if codeErr p m mod n rows ≠ 0 then codeErr p m mod n rows else if IsOrd n order then 0 else 5
/-- what both loops know of the entries so far -/
def SeenB (n : Int) (order : List Int) (i : Nat) (L : List Bool) : Prop := L.length = n.toNat ∧ (∀ j, j < n.toNat → (L.getD j false = true ↔ (j : Int) ∈ order.take i)) ∧ Poss n (order.take i) ∧ (order.take i).Nodup
theorem SeenB.zero {n : Int} {order : List Int} : SeenB n order 0 (List.replicate n.toNat false) := by
  refine ⟨by simp, fun j hj => ?_, fun i hi => by simp at hi, by simp⟩
  simp [List.getD_eq_getElem?_getD, hj]
theorem SeenB.bad {n : Int} {order : List Int} {i : Nat} {L : List Bool} (h : SeenB n order i L) (hi : i < order.length) (hb : order.getD i 0 < 0 ∨ n ≤ order.getD i 0 ∨ L.getD (order.getD i 0).toNat false = true) : ¬ IsOrd n order := by
  rintro ⟨-, q2, q3⟩
  have q := q2 i hi
  rcases hb with b | b | b
  · omega
  · omega
  · have w := (h.2.1 _ (by omega)).mp b
    rw [Int.toNat_of_nonneg q.1] at w
    have e := take_push (l := order) (i := i) 0 hi
    have nd : (order.take (i + 1)).Nodup := List.Nodup.sublist (List.take_sublist _ _) q3
    rw [← e, List.nodup_append] at nd
    exact nd.2.2 _ w _ (by simp) rfl
theorem SeenB.step {n : Int} {order : List Int} {i : Nat} {L : List Bool} (h : SeenB n order i L) (hi : i < order.length) (h0 : 0 ≤ order.getD i 0) (h1 : order.getD i 0 < n) (h2 : L.getD (order.getD i 0).toNat false = false) : SeenB n order (i + 1) (L.set (order.getD i 0).toNat true) := by
  obtain ⟨s1, s2, s3, s4⟩ := h
  have nm : order.getD i 0 ∉ order.take i := fun q => by
    have := (s2 (order.getD i 0).toNat (by omega)).mpr (by rwa [Int.toNat_of_nonneg h0])
    rw [h2] at this
    cases this
  have e := take_push (l := order) (i := i) 0 hi
  refine ⟨by simpa using s1, fun j hj => ?_, ?_, ?_⟩
  · rw [mem_take_succ hi, getD_setN, ← s2 j hj]
    by_cases hjs : j = (order.getD i 0).toNat
    · rw [if_pos ⟨hjs, by omega⟩]
      exact ⟨fun _ => .inr (by omega), fun _ => rfl⟩
    · rw [if_neg (fun q => hjs q.1)]
      constructor
      · exact .inl
      · rintro (q | q)
        · exact q
        · omega
  · rw [← e]
    refine poss_mem.mpr fun y hy => ?_
    rcases List.mem_append.mp hy with q | q
    · exact poss_mem.mp s3 y q
    · simp only [List.mem_singleton] at q; omega
  · rw [← e]
    exact nodup_push s4 nm
theorem SeenB.done {n : Int} {order : List Int} {L : List Bool} {i : Nat} (hl : (order.length : Int) = n) (hi : order.length ≤ i) (h : SeenB n order i L) : IsOrd n order := by
  obtain ⟨s1, s2, s3, s4⟩ := h
  rw [List.take_of_length_le hi] at s3 s4
  exact ⟨hl, s3, s4⟩
theorem c_ordered (A : Alg) {p m n : Int} {md v sv : AV} {mod set : List Int} {us : List AV} {rows : List (List Int)} {H : AH} {Q : AV → AH → Prop} (hm : Ints H md mod) (hlm : mod.length ≤ 9223372036854775807) (hv : Rows H v us rows) (hs : Ints H sv set) (hl : rows.length ≤ 9223372036854775807) (hlr : ∀ i, i < rows.length → (rowAt rows i).length ≤ 9223372036854775807) (hls : set.length ≤ 9223372036854775807)
    (hQ : ∀ H', Ext H H' → Q (.int .i64 (ordErr p m mod n rows set)) H') : AC Tryz.prog 57 [codeV p m md n v, sv] H Q := by
  refine at57 (by simp) ?_
  simp (disch := first | assumption | omega) only [↓RP, RQ, TY, loadT, s57, reduceIte, Nat.reduceEqDiff, Nat.reduceAdd]
  refine kNew_intro fun b H1 hb hE1 hH1 => ?_
  simp (disch := first | assumption | omega) only [↓RP, RQ, TY, loadT, reduceIte, Nat.reduceEqDiff, Nat.reduceAdd, hH1]
  refine c_cCheck A (hm.ext hE1) hlm (hv.ext hE1) hl hlr fun H2 hE2 => ?_
  have hE12 := hE1.trans hE2
  have h2 := hE2.rw hH1
  by_cases h0 : codeErr p m mod n rows = 0
  rotate_left
  · simp (disch := first | assumption | omega) only [↓RP, RQ, TY, loadT, reduceIte, Nat.reduceEqDiff, Nat.reduceAdd, eq_false h0]
    have := hQ H2 hE12
    rwa [ordErr, if_pos h0] at this
  have ca := A.fo.ca h0 (hm.ext hE12) (hv.ext hE12)
  have n1 := ca.n1
  have n64 := ca.n64
  have hs2 := hs.ext hE12
  have no : ¬ IsOrd n set → ∀ H3, Ext H H3 → Q (.int .i64 5) H3 := fun h H3 hE3 => by
    have := hQ H3 hE3
    rwa [ordErr, if_neg (by simpa using h0), if_neg h] at this
  by_cases hlen : (set.length : Int) = n
  rotate_left
  · simp (disch := first | assumption | omega) only [↓RP, RQ, TY, loadT, reduceIte, Nat.reduceEqDiff, Nat.reduceAdd, eq_true h0, h2, hs2.ints, hlen]
    exact no (fun q => hlen q.1) _ hE12
  simp (disch := first | assumption | omega) only [↓RP, RQ, TY, loadT, reduceIte, Nat.reduceEqDiff, Nat.reduceAdd, eq_true h0, h2, hs2.ints, hlen]
  refine kNew_intro fun b4 H4 hb4 hE4 hH4 => ?_
  rw [bools_repl] at hH4
  have hp4 := (((Hp.nil (Ext.refl H)).new hb hE1 hH1 rfl).more hE2).new (n := n.toNat) hb4 hE4 hH4 (by simp [bools_length])
  have hs4 := hs2.ext hE4
  simp (disch := first | assumption | omega) only [↓RP, RQ, TY, loadT, reduceIte, Nat.reduceEqDiff, Nat.reduceAdd, hs4.ints, hlen]
  refine sw_loop (σ := Nat × List Bool) (fun s e H' => e 24 = .int .i64 s.1 ∧ e 23 = .int .i64 n ∧ e 22 = sv ∧ e 6 = .sl b4 0 n.toNat (.own 1) ∧ e 2 = .ptr b 0 ∧ s.1 ≤ set.length ∧ Hp H H' [(.sl b4 0 n.toNat (.own 1), bools s.2), (.sl b 0 5 (.own 1), [.int .i64 p, .int .i64 m, md, .int .i64 n, v])] ∧ SeenB n set s.1 s.2) (fun s => set.length - s.1) (0, List.replicate n.toNat false) ?_ ?_
  · simp (disch := first | assumption | omega) only [↓RP, RQ, TY, loadT, reduceIte, Nat.reduceEqDiff, Nat.reduceAdd]
    exact ⟨by omega, hp4, SeenB.zero⟩
  rintro ⟨i, L⟩ e H' ⟨e24, e23, e22, e6, e2, hi, hp, hseen⟩
  dsimp only at *
  have hs5 := hs.ext hp.ext
  have h5 := (hp.blkOf (y := (.sl b 0 5 (.own 1), [.int .i64 p, .int .i64 m, md, .int .i64 n, v])) (by simp) rfl).1
  have hL5 := (hp.blkOf (y := (.sl b4 0 n.toNat (.own 1), bools L)) (by simp) rfl).1
  by_cases hlt : (i : Int) < n
  · have hi' : i < set.length := by omega
    by_cases c1 : set.getD i 0 < 0
    · simp (disch := first | assumption | omega) only [↓RP, RQ, TY, loadT, reduceIte, Nat.reduceEqDiff, Nat.reduceAdd, e24, e23, e22, e6, e2, hlt, hs5.ints, h5, c1]
      exact no (hseen.bad hi' (.inl c1)) _ hp.ext
    by_cases c2 : n ≤ set.getD i 0
    · simp (disch := first | assumption | omega) only [↓RP, RQ, TY, loadT, reduceIte, Nat.reduceEqDiff, Nat.reduceAdd, e24, e23, e22, e6, e2, hlt, hs5.ints, h5, c1, c2]
      exact no (hseen.bad hi' (.inr (.inl c2))) _ hp.ext
    have hbl := bools_length L
    have hLl := hseen.1
    cases c3 : L.getD (set.getD i 0).toNat false
    · simp (disch := first | assumption | omega) only [↓RP, RQ, TY, loadT, reduceIte, Nat.reduceEqDiff, Nat.reduceAdd, e24, e23, e22, e6, e2, hlt, hs5.ints, h5, c1, c2, hL5, bools_get, c3, bools_set]
      refine ⟨(i + 1, L.set (set.getD i 0).toNat true), ?_, by dsimp only; omega⟩
      simp (disch := first | assumption | omega) only [↓RP, RQ, TY, loadT, reduceIte, Nat.reduceEqDiff, Nat.reduceAdd, e24, e23, e22, e6, e2]
      exact ⟨by omega, hp.upd (by simp [bools_length]), hseen.step hi' (by omega) (by omega) c3⟩
    · simp (disch := first | assumption | omega) only [↓RP, RQ, TY, loadT, reduceIte, Nat.reduceEqDiff, Nat.reduceAdd, e24, e23, e22, e6, e2, hlt, hs5.ints, h5, c1, c2, hL5, bools_get, c3]
      exact no (hseen.bad hi' (.inr (.inr c3))) _ hp.ext
  · simp (disch := first | assumption | omega) only [↓RP, RQ, TY, loadT, reduceIte, Nat.reduceEqDiff, Nat.reduceAdd, e24, e23, e22, e6, e2, hlt]
    have := hQ H' hp.ext
    rwa [ordErr, if_neg (by simpa using h0), if_pos (SeenB.done hlen (by omega) hseen)] at this
theorem c_IsOrder {n : Int} {v : AV} {set : List Int} {H : AH} {Q : AV → AH → Prop} (hn : 0 ≤ n) (hn' : n ≤ 1000) (hs : Ints H v set) (hls : set.length ≤ 9223372036854775807) (hQ : ∀ H', Ext H H' → ∀ w : Bool, (w = true ↔ IsOrd n set) → Q (.bool w) H') : AC Tryz.prog 104 [.int .i64 n, v] H Q := by
  refine at104 (by simp) ?_
  simp (disch := first | assumption | omega) only [↓RP, RQ, TY, loadT, s104, reduceIte, Nat.reduceEqDiff, Nat.reduceAdd]
  have no : ¬ IsOrd n set → ∀ H3, Ext H H3 → Q (.bool false) H3 := fun h H3 hE3 => hQ H3 hE3 false ⟨fun q => (by cases q), fun q => absurd q h⟩
  by_cases hlen : (set.length : Int) = n
  rotate_left
  · simp (disch := first | assumption | omega) only [↓RP, RQ, TY, loadT, reduceIte, Nat.reduceEqDiff, Nat.reduceAdd, hs.ints, hlen]
    exact no (fun q => hlen q.1) _ (Ext.refl H)
  simp (disch := first | assumption | omega) only [↓RP, RQ, TY, loadT, reduceIte, Nat.reduceEqDiff, Nat.reduceAdd, hs.ints, hlen]
  refine kNew_intro fun b4 H4 hb4 hE4 hH4 => ?_
  rw [bools_repl] at hH4
  have hp4 := (Hp.nil (Ext.refl H)).new (n := n.toNat) hb4 hE4 hH4 (by simp [bools_length])
  simp (disch := first | assumption | omega) only [↓RP, RQ, TY, loadT, reduceIte, Nat.reduceEqDiff, Nat.reduceAdd]
  refine sw_loop (σ := Nat × List Bool) (fun s e H' => e 6 = .int .i64 s.1 ∧ e 0 = .int .i64 n ∧ e 1 = v ∧ e 5 = .sl b4 0 n.toNat (.own 1) ∧ s.1 ≤ set.length ∧ Hp H H' [(.sl b4 0 n.toNat (.own 1), bools s.2)] ∧ SeenB n set s.1 s.2) (fun s => set.length - s.1) (0, List.replicate n.toNat false) ?_ ?_
  · simp (disch := first | assumption | omega) only [↓RP, RQ, TY, loadT, reduceIte, Nat.reduceEqDiff, Nat.reduceAdd]
    exact ⟨by omega, hp4, SeenB.zero⟩
  rintro ⟨i, L⟩ e H' ⟨e6, e0, e1, e5, hi, hp, hseen⟩
  dsimp only at *
  have hs5 := hs.ext hp.ext
  have hL5 := (hp.blkOf (y := (.sl b4 0 n.toNat (.own 1), bools L)) (by simp) rfl).1
  by_cases hlt : (i : Int) < n
  · have hi' : i < set.length := by omega
    by_cases c1 : set.getD i 0 < 0
    · simp (disch := first | assumption | omega) only [↓RP, RQ, TY, loadT, reduceIte, Nat.reduceEqDiff, Nat.reduceAdd, e6, e0, e1, e5, hlt, hs5.ints, c1]
      exact no (hseen.bad hi' (.inl c1)) _ hp.ext
    by_cases c2 : n ≤ set.getD i 0
    · simp (disch := first | assumption | omega) only [↓RP, RQ, TY, loadT, reduceIte, Nat.reduceEqDiff, Nat.reduceAdd, e6, e0, e1, e5, hlt, hs5.ints, c1, c2]
      exact no (hseen.bad hi' (.inr (.inl c2))) _ hp.ext
    have hbl := bools_length L
    have hLl := hseen.1
    cases c3 : L.getD (set.getD i 0).toNat false
    · simp (disch := first | assumption | omega) only [↓RP, RQ, TY, loadT, reduceIte, Nat.reduceEqDiff, Nat.reduceAdd, e6, e0, e1, e5, hlt, hs5.ints, c1, c2, hL5, bools_get, c3, bools_set]
      refine ⟨(i + 1, L.set (set.getD i 0).toNat true), ?_, by dsimp only; omega⟩
      simp (disch := first | assumption | omega) only [↓RP, RQ, TY, loadT, reduceIte, Nat.reduceEqDiff, Nat.reduceAdd, e6, e0, e1, e5]
      exact ⟨by omega, hp.upd (by simp [bools_length]), hseen.step hi' (by omega) (by omega) c3⟩
    · simp (disch := first | assumption | omega) only [↓RP, RQ, TY, loadT, reduceIte, Nat.reduceEqDiff, Nat.reduceAdd, e6, e0, e1, e5, hlt, hs5.ints, c1, c2, hL5, bools_get, c3]
      exact no (hseen.bad hi' (.inr (.inr c3))) _ hp.ext
  · simp (disch := first | assumption | omega) only [↓RP, RQ, TY, loadT, reduceIte, Nat.reduceEqDiff, Nat.reduceAdd, e6, e0, e1, e5, hlt]
    exact hQ H' hp.ext true ⟨fun _ => SeenB.done hlen (by omega) hseen, fun _ => rfl⟩
theorem c_Order48 (A : Alg) {p m n : Int} {md v sv : AV} {mod set : List Int} {us : List AV} {rows : List (List Int)} {H : AH} {Q : AV → AH → Prop} (hm : Ints H md mod) (hv : Rows H v us rows) (hs : Ints H sv set) (hl : rows.length ≤ 9223372036854775807) (hlr : ∀ i, i < rows.length → (rowAt rows i).length ≤ 9223372036854775807) (hls : set.length ≤ 9223372036854775807)
    (hQ : ∀ H', Ext H H' → Q (.int .i64 (ordErr p m mod n rows set)) H') : AC Tryz.prog 59 [codeV p m md n v, sv] H Q := by
  refine at59 (by simp) ?_
  simp (disch := first | assumption | omega) only [↓RP, RQ, TY, loadT, s59, reduceIte, Nat.reduceEqDiff, Nat.reduceAdd]
  refine kNew_intro fun b H1 hb hE1 hH1 => ?_
  simp (disch := first | assumption | omega) only [↓RP, RQ, TY, loadT, reduceIte, Nat.reduceEqDiff, Nat.reduceAdd, hH1]
  refine c_Check12 A.fo (hm.ext hE1) (hv.ext hE1) hl hlr fun H2 hE2 => ?_
  have hE12 := hE1.trans hE2
  have h2 := hE2.rw hH1
  by_cases h0 : codeErr p m mod n rows = 0
  rotate_left
  · simp (disch := first | assumption | omega) only [↓RP, RQ, TY, loadT, reduceIte, Nat.reduceEqDiff, Nat.reduceAdd, eq_false h0]
    have := hQ H2 hE12
    rwa [ordErr, if_pos h0] at this
  have ca := A.fo.ca h0 (hm.ext hE12) (hv.ext hE12)
  have n1 := ca.n1
  have n64 := ca.n64
  simp (disch := first | assumption | omega) only [↓RP, RQ, TY, loadT, reduceIte, Nat.reduceEqDiff, Nat.reduceAdd, eq_true h0, h2]
  refine c_IsOrder (by omega) (by omega) (hs.ext hE12) hls fun H3 hE3 w hw => ?_
  have := hQ H3 (hE12.trans hE3)
  cases w
  · simp (disch := first | assumption | omega) only [↓RP, RQ, TY, loadT, reduceIte, Nat.reduceEqDiff, Nat.reduceAdd, eq_true h0]
    rwa [ordErr, if_neg (by simpa using h0), if_neg (fun q => by have := hw.mpr q; cases this)] at this
  · simp (disch := first | assumption | omega) only [↓RP, RQ, TY, loadT, reduceIte, Nat.reduceEqDiff, Nat.reduceAdd, eq_true h0]
    rw [ordErr, if_neg (by simpa using h0), if_pos (hw.mp rfl)] at this
    rw [h0]
    exact this
end Go.Proofs.YtbkpebmcagdgmaaGreat.AM
/-! The widths of an order: the program's width and Width, the reference's Width. -/
namespace Go.Proofs.YtbkpebmcagdgmaaGreat.AM
open Go Go.RowKit
set_option linter.unusedVariables false
set_option linter.unusedSimpArgs false
set_option maxRecDepth 20000
theorem ordErr_iff {p m n : Int} {mod set : List Int} {rows : List (List Int)} : ordErr p m mod n rows set = 0 ↔ codeErr p m mod n rows = 0 ∧ IsOrd n set := by
  constructor
  · intro h
    rw [ordErr] at h
    split at h
    · contradiction
    · rename_i q
      split at h
      · rename_i w; exact ⟨by simpa using q, w⟩
      · cases h
  · rintro ⟨h1, h2⟩
    rw [ordErr, if_neg (by simpa using h1), if_pos h2]
theorem IsOrd.take {n : Int} {order : List Int} (h : IsOrd n order) (i : Nat) : Poss n (order.take i) ∧ (order.take i).Nodup := ⟨poss_mem.mpr fun y hy => poss_mem.mp h.2.1 y (List.mem_of_mem_take hy), List.Nodup.sublist (List.take_sublist _ _) h.2.2⟩
end Go.Proofs.YtbkpebmcagdgmaaGreat.AM
/-! The program's trellises: span, ranks, Profile. -/
namespace Go.Proofs.YtbkpebmcagdgmaaGreat.AM
open Go Go.RowKit
set_option linter.unusedVariables false
set_option linter.unusedSimpArgs false
set_option maxRecDepth 20000
theorem range_lt {n i : Nat} (h : i ≤ n) : (List.range n).filter (fun j => decide (j < i)) = List.range i := by
  obtain ⟨k, rfl⟩ : ∃ k, n = i + k := ⟨n - i, by omega⟩
  rw [List.range_add, List.filter_append, List.filter_eq_self.mpr (fun a ha => by simpa using ha), List.filter_eq_nil_iff.mpr, List.append_nil]
  intro a ha
  obtain ⟨j, -, rfl⟩ := List.mem_map.mp ha
  simp
theorem range_ge {n i : Nat} (h : i ≤ n) : (List.range n).filter (fun j => !decide (j < i)) = (List.range (n - i)).map (i + ·) := by
  obtain ⟨k, rfl⟩ : ∃ k, n = i + k := ⟨n - i, by omega⟩
  rw [List.range_add, List.filter_append, List.filter_eq_nil_iff.mpr, List.nil_append, List.filter_eq_self.mpr, show i + k - i = k by omega]
  · intro a ha
    obtain ⟨j, -, rfl⟩ := List.mem_map.mp ha
    simp
  · intro a ha
    simpa using ha
end Go.Proofs.YtbkpebmcagdgmaaGreat.AM
/-! The program's codes, second part: New; permuted codes. -/
namespace Go.Proofs.YtbkpebmcagdgmaaGreat.AM
open Go Go.RowKit
set_option linter.unusedVariables false
set_option linter.unusedSimpArgs false
set_option maxRecDepth 20000
theorem c_Canonical2 (A : Alg) {p m cols : Int} {md v : AV} {mod : List Int} {us : List AV} {rows : List (List Int)} {H : AH} {Q : AV → AH → Prop} (hm : Ints H md mod) (hlm : mod.length ≤ 9223372036854775807) (hv : Rows H v us rows) (hl : rows.length ≤ 9223372036854775807) (hlr : ∀ i, i < rows.length → (rowAt rows i).length ≤ 9223372036854775807)
    (hQ1 : ∀ lv pv us' H', Ext H H' → matErr p m mod cols rows = 0 → Rows H' lv us' (canon (fF p m mod) rows cols.toNat).1 → Ints H' pv (natsI (canon (fF p m mod) rows cols.toNat).2) → OffH H lv → (∀ u, u ∈ us' → OffH H u) → Q (.tup [.agg [.int .i64 cols, lv], pv, .int .i64 0]) H')
    (hQ0 : ∀ H', Ext H H' → matErr p m mod cols rows ≠ 0 → Q (.tup [.agg [.int .i64 0, .nils], .nils, .int .i64 (matErr p m mod cols rows)]) H') :
    AC Tryz.prog 94 [.agg [.int .i64 p, .int .i64 m, md], .agg [.int .i64 cols, v]] H Q := by
  have hsl := isSl_one hv.sl.isSl
  refine at94 (by simp) ?_
  simp (disch := first | assumption | omega) only [↓RP, RQ, TY, loadT, s94, reduceIte, Nat.reduceEqDiff, Nat.reduceAdd]
  refine kNew_intro fun b1 H1 hb1 hE1 hH1 => ?_
  simp (disch := first | assumption | omega) only [↓RP, RQ, TY, loadT, reduceIte, Nat.reduceEqDiff, Nat.reduceAdd]
  refine kNew_intro fun b2 H2 hb2 hE2 hH2 => ?_
  simp (disch := first | assumption | omega) only [↓RP, RQ, TY, loadT, reduceIte, Nat.reduceEqDiff, Nat.reduceAdd]
  refine kNew_intro fun b3 H3 hb3 hE3 hH3 => ?_
  have h13 := hE3.rw (hE2.rw hH1)
  have h23 := hE3.rw hH2
  have hE03 := (hE1.trans hE2).trans hE3
  have f3 := (hE1.trans hE2).free hb3
  simp (disch := first | assumption | omega) only [↓RP, RQ, TY, loadT, reduceIte, Nat.reduceEqDiff, Nat.reduceAdd, h13, h23, u_buildS1M]
  refine kNew_intro fun b4 H4 hb4 hE4 hH4 => ?_
  have hE04 := hE03.trans hE4
  simp (disch := first | assumption | omega) only [↓RP, RQ, TY, loadT, reduceIte, Nat.reduceEqDiff, Nat.reduceAdd]
  refine c_openP A.gi (hm.ext hE04) hlm hH4 (hv.ext hE04) hl hlr (fun bg H5 hE5 he hg => ?_) (fun H5 hE5 he => ?_)
  rotate_left
  · have h35 := hE5.rw (hE4.rw hH3)
    simp (disch := first | assumption | omega) only [↓RP, RQ, TY, loadT, reduceIte, Nat.reduceEqDiff, Nat.reduceAdd, eq_false he, h35, u_fill0, u_st2 (x := .int .i64 0) (y := .nils) h35 rfl rfl, aRes, aResL, aRes1, Option.map_some]
    exact hQ0 _ ((hE04.trans hE5).upd f3 _) he
  obtain ⟨o1, o2, o3, o4, o5, o6⟩ := mat_ok he
  have h25 := hE5.rw (hE4.rw h23)
  have h35 := hE5.rw (hE4.rw hH3)
  have hE05 := hE04.trans hE5
  obtain ⟨c, rfl⟩ : ∃ c : Nat, cols = c := ⟨cols.toNat, by omega⟩
  rw [Int.toNat_natCast] at o5 hQ1
  simp (disch := first | assumption | omega) only [↓RP, RQ, TY, loadT, reduceIte, Nat.reduceEqDiff, Nat.reduceAdd, Int.reduceEq, Int.reduceNe, h25]
  refine c_canonP A hg o1 (hv.ext hE05) o5 o6 (by omega) (by omega) (Nat.le_refl _) fun lv pv us' H6 hE6 hr6 hp6 of1 of2 of3 => ?_
  have h26 := hE6.rw h25
  have h36 := hE6.rw h35
  have i1 : (AV.int .i64 (c : Int)).one = true := rfl
  have i2 := isSl_one hr6.sl.isSl
  simp (disch := first | assumption | omega) only [↓RP, RQ, TY, loadT, reduceIte, Nat.reduceEqDiff, Nat.reduceAdd, h26, h36, fill_mat hr6.sl.isSl, u_st2 h36 i1 i2, aRes, aResL, aRes1, Option.map_some]
  refine hQ1 _ _ us' _ ((hE05.trans hE6).upd f3 _) he ?_ ?_ (of1.old hE05) (fun u hu => (of2 u hu).old hE05)
  · exact hr6.updOff of1 of2 (by rw [h35]; exact fun q => by cases q) _
  · exact hp6.updOff of3 (by rw [h35]; exact fun q => by cases q) _
open Classical in
/-- the error of New -/
noncomputable def newErr (p m : Int) (mod : List Int) (cols : Int) (rows : List (List Int)) : Int :=
  if matErr p m mod cols rows ≠ 0 then matErr p m mod cols rows else if cols < 1 ∨ 64 < cols then 4 else 0
theorem c_CNew (A : Alg) {p m cols : Int} {md v : AV} {mod : List Int} {us : List AV} {rows : List (List Int)} {H : AH} {Q : AV → AH → Prop} (hm : Ints H md mod) (hlm : mod.length ≤ 9223372036854775807) (hv : Rows H v us rows) (hl : rows.length ≤ 9223372036854775807) (hlr : ∀ i, i < rows.length → (rowAt rows i).length ≤ 9223372036854775807)
    (hQ : newErr p m mod cols rows = 0 → ∀ md' lv us' H', Ext H H' → Ints H' md' mod → Rows H' lv us' (canon (fF p m mod) rows cols.toNat).1 → OffH H lv → (∀ u, u ∈ us' → OffH H u) → OffH H md' → Q (.tup [codeV p m md' cols lv, .int .i64 0]) H')
    (hQ0 : newErr p m mod cols rows ≠ 0 → ∀ H', Ext H H' → Q (.tup [codeV 0 0 .nils 0 .nils, .int .i64 (newErr p m mod cols rows)]) H') :
    AC Tryz.prog 45 [.agg [.int .i64 p, .int .i64 m, md], .agg [.int .i64 cols, v]] H Q := by
  have hsl := isSl_one hv.sl.isSl
  refine at45 (by simp) ?_
  simp (disch := first | assumption | omega) only [↓RP, RQ, TY, loadT, s45, reduceIte, Nat.reduceEqDiff, Nat.reduceAdd]
  refine kNew_intro fun b1 H1 hb1 hE1 hH1 => ?_
  simp (disch := first | assumption | omega) only [↓RP, RQ, TY, loadT, reduceIte, Nat.reduceEqDiff, Nat.reduceAdd]
  refine kNew_intro fun b2 H2 hb2 hE2 hH2 => ?_
  simp (disch := first | assumption | omega) only [↓RP, RQ, TY, loadT, reduceIte, Nat.reduceEqDiff, Nat.reduceAdd]
  refine kNew_intro fun b3 H3 hb3 hE3 hH3 => ?_
  have h13 := hE3.rw (hE2.rw hH1)
  have h23 := hE3.rw hH2
  have hE03 := (hE1.trans hE2).trans hE3
  have f3 := (hE1.trans hE2).free hb3
  have z0 : (AV.int .i64 0).one = true := rfl
  have zn : AV.nils.one = true := rfl
  simp (disch := first | assumption | omega) only [↓RP, RQ, TY, loadT, reduceIte, Nat.reduceEqDiff, Nat.reduceAdd, h13, h23]
  refine c_Canonical2 A (hm.ext hE03) hlm (hv.ext hE03) hl hlr (fun lv pv us' H4 hE4 he hr4 hp4 of1 of2 => ?_) (fun H4 hE4 he => ?_)
  rotate_left
  · have hE04 := hE03.trans hE4
    have hne : newErr p m mod cols rows = matErr p m mod cols rows := by rw [newErr, if_pos he]
    simp (disch := first | assumption | omega) only [↓RP, RQ, TY, loadT, reduceIte, Nat.reduceEqDiff, Nat.reduceAdd]
    refine kNew_intro fun b5 H5 hb5 hE5 hH5 => ?_
    have hE5u := hE5.upd hb5 (.rw [.int .i64 0, .nils])
    have h55 : (H5.upd b5 (.rw [.int .i64 0, .nils])) b5 = .rw [.int .i64 0, .nils] := updEq
    have h15 := hE5u.rw (hE4.rw h13)
    have h35 := hE5u.rw (hE4.rw hH3)
    simp (disch := first | assumption | omega) only [↓RP, RQ, TY, loadT, reduceIte, Nat.reduceEqDiff, Nat.reduceAdd, u_st2 (x := .int .i64 0) (y := .nils) hH5 z0 zn, eq_false he, h15, h55]
    generalize H5.upd b5 (.rw [.int .i64 0, .nils]) = H6 at *
    refine c_cof (mod := mod) (fun q => absurd q he) (fun q => absurd q he) (fun q => absurd q he) (fun q => absurd q he) (fun _ H7 hE7 => ?_)
    simp (disch := first | assumption | omega) only [↓RP, RQ, TY, loadT, reduceIte, Nat.reduceEqDiff, Nat.reduceAdd, u_st5 (x := .int .i64 0) (y := .int .i64 0) (z := .nils) (w := .int .i64 0) (u := .nils) (hE7.rw h35) z0 z0 zn z0 zn, aRes, aResL, aRes1, Option.map_some]
    have := hQ0 (by rw [hne]; exact he) _ (((hE04.trans hE5u).trans hE7).upd f3 (.rw [.int .i64 0, .int .i64 0, .nils, .int .i64 0, .nils]))
    rwa [hne] at this
  have hE04 := hE03.trans hE4
  have hls := hr4.sl.isSl
  have i0 : (AV.int .i64 cols).one = true := rfl
  have i1 := isSl_one hls
  simp (disch := first | assumption | omega) only [↓RP, RQ, TY, loadT, reduceIte, Nat.reduceEqDiff, Nat.reduceAdd]
  refine kNew_intro fun b5 H5 hb5 hE5 hH5 => ?_
  have hE5u := hE5.upd hb5 (.rw [.int .i64 cols, lv])
  have h55 : (H5.upd b5 (.rw [.int .i64 cols, lv])) b5 = .rw [.int .i64 cols, lv] := updEq
  have h15 := hE5u.rw (hE4.rw h13)
  have h25 := hE5u.rw (hE4.rw h23)
  have h35 := hE5u.rw (hE4.rw hH3)
  simp (disch := first | assumption | omega) only [↓RP, RQ, TY, loadT, reduceIte, Nat.reduceEqDiff, Nat.reduceAdd, u_st2 hH5 i0 i1, Int.reduceEq, h25]
  generalize H5.upd b5 (.rw [.int .i64 cols, lv]) = H6 at *
  have hE06 := hE04.trans hE5u
  refine c_clen ?_
  obtain ⟨o1, o2, o3, o4, o5, o6⟩ := mat_ok he
  have b3n : H3 b3 ≠ .free := by rw [hH3]; exact fun q => by cases q
  have b3m : H6 b3 ≠ .free := by rw [h35]; exact fun q => by cases q
  simp (disch := first | assumption | omega) only [↓RP, RQ, TY, loadT, reduceIte, Nat.reduceEqDiff, Nat.reduceAdd, h15, h55]
  have hne : newErr p m mod cols rows = if cols < 1 ∨ 64 < cols then 4 else 0 := by
    rw [newErr, if_neg (by simpa using he)]
  rw [← hne]
  refine c_cof (fun _ => hm.ext hE06) (fun _ => by have := o1.ml; omega) (fun _ => hls) (fun h0 md' H7 hE7 hm7 of3 => ?_) (fun h0 H7 hE7 => ?_)
  · have i2 := isSl_one hm7.isSl
    have ip : (AV.int .i64 p).one = true := rfl
    have im : (AV.int .i64 m).one = true := rfl
    simp (disch := first | assumption | omega) only [↓RP, RQ, TY, loadT, reduceIte, Nat.reduceEqDiff, Nat.reduceAdd, u_st5 (hE7.rw h35) ip im i2 i0 i1, aRes, aResL, aRes1, Option.map_some]
    exact hQ h0 md' lv us' _ ((hE06.trans hE7).upd f3 _) (hm7.updOff of3 b3m _) ((hr4.ext (hE5u.trans hE7)).updOff of1 of2 b3n _) (of1.old hE03) (fun u hu => (of2 u hu).old hE03) (of3.old hE06)
  · simp (disch := first | assumption | omega) only [↓RP, RQ, TY, loadT, reduceIte, Nat.reduceEqDiff, Nat.reduceAdd, u_st5 (x := .int .i64 0) (y := .int .i64 0) (z := .nils) (w := .int .i64 0) (u := .nils) (hE7.rw h35) z0 z0 zn z0 zn, aRes, aResL, aRes1, Option.map_some]
    exact hQ0 h0 _ ((hE06.trans hE7).upd f3 _)
open Classical in
theorem c_mset {n : Int} {v : AV} {s : List Int} {H : AH} {Q : AV → AH → Prop} (hv : Ints H v s) (hl : s.length ≤ 9223372036854775807) (hQ : Q (.bool (decide (Subset n s))) H) : AC Tryz.prog 107 [v, .int .i64 n] H Q := by
  refine at107 (by simp) ?_
  simp (disch := first | assumption | omega) only [↓RP, RQ, TY, loadT, s107, reduceIte, Nat.reduceEqDiff, Nat.reduceAdd, hv.ints]
  refine sw_loop (σ := Nat) (fun i e H' => e 9 = .int .i64 i ∧ e 8 = .int .i64 s.length ∧ e 7 = v ∧ e 1 = .int .i64 n ∧ e 0 = v ∧ i ≤ s.length ∧ H' = H ∧ ∀ j, j < i → 0 ≤ s.getD j 0 ∧ s.getD j 0 < n ∧ (0 < j → s.getD (j - 1) 0 < s.getD j 0)) (fun i => s.length - i) 0 ?_ ?_
  · simp (disch := first | assumption | omega) only [↓RP, RQ, TY, loadT, reduceIte, Nat.reduceEqDiff, Nat.reduceAdd]
    exact ⟨by omega, fun j hj => by omega⟩
  rintro i e H' ⟨e9, e8, e7, e1, e0, hi, rfl, hj⟩
  by_cases hlt : (i : Int) < s.length
  · by_cases c1 : s.getD i 0 < 0
    · simp (disch := first | assumption | omega) only [↓RP, RQ, TY, loadT, reduceIte, Nat.reduceEqDiff, Nat.reduceAdd, e9, e8, e7, e1, e0, hlt, hv.ints, c1]
      rwa [decide_eq_false (fun q => absurd (q i (by omega)).1 (by omega))] at hQ
    by_cases c2 : n ≤ s.getD i 0
    · simp (disch := first | assumption | omega) only [↓RP, RQ, TY, loadT, reduceIte, Nat.reduceEqDiff, Nat.reduceAdd, e9, e8, e7, e1, e0, hlt, hv.ints, c1, c2]
      rwa [decide_eq_false (fun q => absurd (q i (by omega)).2.1 (by omega))] at hQ
    by_cases c3 : (0 : Int) < i
    · have ei : ((i : Int) - 1).toNat = i - 1 := by omega
      by_cases c4 : s.getD i 0 ≤ s.getD (i - 1) 0
      · simp (disch := first | assumption | omega) only [↓RP, RQ, TY, loadT, reduceIte, Nat.reduceEqDiff, Nat.reduceAdd, e9, e8, e7, e1, e0, hlt, hv.ints, c1, c2, c3, ei, c4]
        rwa [decide_eq_false (fun q => absurd ((q i (by omega)).2.2 (by omega)) (by omega))] at hQ
      · simp (disch := first | assumption | omega) only [↓RP, RQ, TY, loadT, reduceIte, Nat.reduceEqDiff, Nat.reduceAdd, e9, e8, e7, e1, e0, hlt, hv.ints, c1, c2, c3, ei, c4]
        refine ⟨i + 1, ?_, by dsimp only; omega⟩
        simp (disch := first | assumption | omega) only [↓RP, RQ, TY, loadT, reduceIte, Nat.reduceEqDiff, Nat.reduceAdd, e9, e8, e7, e1, e0]
        refine ⟨by omega, fun j h => ?_⟩
        by_cases hji : j = i
        · rw [hji]; exact ⟨by omega, by omega, fun _ => by omega⟩
        · exact hj j (by omega)
    · simp (disch := first | assumption | omega) only [↓RP, RQ, TY, loadT, reduceIte, Nat.reduceEqDiff, Nat.reduceAdd, e9, e8, e7, e1, e0, hlt, hv.ints, c1, c2, c3]
      refine ⟨i + 1, ?_, by dsimp only; omega⟩
      simp (disch := first | assumption | omega) only [↓RP, RQ, TY, loadT, reduceIte, Nat.reduceEqDiff, Nat.reduceAdd, e9, e8, e7, e1, e0]
      refine ⟨by omega, fun j h => ?_⟩
      by_cases hji : j = i
      · rw [hji]; exact ⟨by omega, by omega, fun _ => by omega⟩
      · exact hj j (by omega)
  · simp (disch := first | assumption | omega) only [↓RP, RQ, TY, loadT, reduceIte, Nat.reduceEqDiff, Nat.reduceAdd, e9, e8, e7, e1, e0, hlt]
    have hS : Subset n s := fun j h => hj j (by omega)
    rwa [decide_eq_true hS] at hQ
theorem sortL_perm (xs : List Int) : (sortL xs).Perm xs := List.mergeSort_perm xs _
theorem sortL_sorted (xs : List Int) : (sortL xs).Pairwise (· ≤ ·) := by
  have := List.pairwise_mergeSort (le := fun (x y : Int) => decide (x ≤ y)) (fun a b c h1 h2 => by simp at h1 h2 ⊢; omega) (fun a b => by simp; omega) xs
  exact this.imp fun h => by simpa using h
theorem sort_sub {n : Int} {xs : List Int} : Subset n (sortL xs) ↔ Poss n xs ∧ xs.Nodup := by
  have hp := sortL_perm xs
  constructor
  · intro h
    have hn : (sortL xs).Nodup := h.nodup
    exact ⟨poss_mem.mpr fun x hx => by
      obtain ⟨i, hi, rfl⟩ := List.getElem_of_mem (hp.mem_iff.mpr hx)
      have := h i hi
      rw [List.getD_eq_getElem?_getD, List.getElem?_eq_getElem hi, Option.getD_some] at this
      exact ⟨this.1, this.2.1⟩, hp.nodup_iff.mp hn⟩
  · rintro ⟨h1, h2⟩ i hi
    have hm : (sortL xs)[i] ∈ xs := hp.mem_iff.mp (List.getElem_mem hi)
    have h3 := poss_mem.mp h1 _ hm
    rw [List.getD_eq_getElem?_getD, List.getElem?_eq_getElem hi, Option.getD_some]
    refine ⟨h3.1, h3.2, fun h0 => ?_⟩
    have hi' : i - 1 < (sortL xs).length := by omega
    rw [List.getD_eq_getElem?_getD, List.getElem?_eq_getElem hi', Option.getD_some]
    have hs := sortL_sorted xs
    have hn := hp.nodup_iff.mpr h2
    rw [List.Nodup] at hn
    rw [List.pairwise_iff_getElem] at hs hn
    have a1 := hs (i - 1) i hi' hi (by omega)
    have a2 := hn (i - 1) i hi' hi (by omega)
    omega
end Go.Proofs.YtbkpebmcagdgmaaGreat.AM
/-! Permuted codes: modify.Permute, ordering.Reorder. -/
namespace Go.Proofs.YtbkpebmcagdgmaaGreat.AM
open Go Go.RowKit
set_option linter.unusedVariables false
set_option linter.unusedSimpArgs false
set_option maxRecDepth 20000
theorem u_stG2 {P : Program} {K : Kt} {e : Env} {H : AH} {d : Option Nat} {r : Rst} {ds : List Nat} {blk : Nat} {a b w : AV} (hw : w.one = true) : kSt P ds blk 1 r e H K d w (.rw [a, b]) = kRet P ds r e (H.upd blk (.rw [a, w])) K d (.tup []) :=
  st_put hw (show 1 < [a, b].length by simp)
theorem idxZ_get {l : List Int} {j : Int} (hj : j ∈ l) : l.idxOf j < l.length ∧ l.getD (l.idxOf j) 0 = j := by
  have h1 := List.idxOf_lt_length_iff.mpr hj
  exact ⟨h1, by rw [List.getD_eq_getElem?_getD, List.getElem?_eq_getElem h1, Option.getD_some, List.getElem_idxOf h1]⟩
theorem idxZ_of {l : List Int} (hd : l.Nodup) {i : Nat} (hi : i < l.length) : l.idxOf (l.getD i 0) = i := by
  have hm : l.getD i 0 ∈ l := by
    rw [List.getD_eq_getElem?_getD, List.getElem?_eq_getElem hi, Option.getD_some]
    exact List.getElem_mem hi
  obtain ⟨h1, h2⟩ := idxZ_get hm
  generalize l.idxOf (l.getD i 0) = k at h1 h2 ⊢
  rw [List.Nodup, List.pairwise_iff_getElem] at hd
  rw [List.getD_eq_getElem?_getD, List.getElem?_eq_getElem h1, Option.getD_some, List.getD_eq_getElem?_getD, List.getElem?_eq_getElem hi, Option.getD_some] at h2
  rcases Nat.lt_trichotomy k i with q | q | q
  · exact absurd h2 (hd _ _ h1 hi q)
  · exact q
  · exact absurd h2.symm (hd _ _ hi h1 q)
theorem mem_takeZ {l : List Int} {t : Nat} {j : Int} (ht : t < l.length) : (j ∈ l.take (t + 1)) ↔ (j ∈ l.take t ∨ j = l.getD t 0) := by
  rw [← take_push 0 ht, List.mem_append, List.mem_singleton]
/-- a row whose entries go to the places that a list says -/
def mvL (perm : List Int) (r : List Int) : List Int := tabN perm.length fun j => r.getD (perm.idxOf (j : Int)) 0
/-- every position stands in an order -/
theorem IsOrd.mem {n : Int} {l : List Int} (h : IsOrd n l) {j : Nat} (hj : (j : Int) < n) : (j : Int) ∈ l := by
  have hl := othersN_len (n := n.toNat) (by rw [Int.toNat_of_nonneg (by omega)]; exact h.2.1) h.2.2
  have h1 := h.1
  have e : othersN n.toNat l = [] := List.eq_nil_of_length_eq_zero (by omega)
  refine Classical.byContradiction fun q => ?_
  have : j ∈ othersN n.toNat l := mem_others.mpr ⟨by omega, q⟩
  rw [e] at this
  cases this
theorem Hp.rows {H0 H : AH} {v : AV} {ws : List AV} {l : List (List Int)} {L : List (AV × List AV)} (h : Hp H0 H L) (hv : (v, ws) ∈ L) (hr : ∀ y, y ∈ rowsL ws l → y ∈ L) (hl : ws.length = l.length) : Rows H v ws l :=
  ⟨h.sl hv, hl, fun i hi => h.sl (hr _ (rowsL_mem hl hi))⟩
set_option maxHeartbeats 4000000 in
theorem c_Permute (A : Alg) {p m n : Int} {md v pv : AV} {mod perm : List Int} {us : List AV} {rows : List (List Int)} {H : AH} {Q : AV → AH → Prop} (hm : Ints H md mod) (hlm : mod.length ≤ 9223372036854775807) (hv : Rows H v us rows) (h0 : codeErr p m mod n rows = 0) (hpv : Ints H pv perm) (ho : IsOrd n perm)
    (hQ : ∀ md' lv us' H', Ext H H' → Ints H' md' mod → Rows H' lv us' (canon (fF p m mod) (rows.map (mvL perm)) n.toNat).1 → OffH H lv → (∀ u, u ∈ us' → OffH H u) → OffH H md' → Q (.tup [codeV p m md' n lv, .int .i64 0]) H') :
    AC Tryz.prog 62 [codeV p m md n v, pv] H Q := by
  have ca := A.fo.ca h0 hm hv
  have n1 := ca.n1
  have n64 := ca.n64
  have kn := ca.kn
  have ok := ca.fa.ok
  have els := ca.els
  have hF := (code_ok A.fo h0).1
  have hlr : ∀ i, i < rows.length → (rowAt rows i).length ≤ 9223372036854775807 := fun i hi => by rw [ca.rect i hi]; omega
  have hpl := ho.1
  obtain ⟨N, hN⟩ : ∃ N : Nat, n = N := ⟨n.toNat, by omega⟩
  subst hN
  rw [Int.toNat_natCast] at hQ kn
  have hpN : perm.length = N := by omega
  refine at62 (by simp) ?_
  simp (disch := first | assumption | omega) only [↓RP, RQ, TY, loadT, s62, reduceIte, Nat.reduceEqDiff, Nat.reduceAdd]
  refine kNew_intro fun b2 H1 hb2 hE1 hH1 => ?_
  simp (disch := first | assumption | omega) only [↓RP, RQ, TY, loadT, reduceIte, Nat.reduceEqDiff, Nat.reduceAdd]
  refine kNew_intro fun b4 H2 hb4 hE2 hH2 => ?_
  have hp2 := ((Hp.nil (Ext.refl H)).new hb2 hE1 hH1 rfl).new hb4 hE2 hH2 rfl
  simp (disch := first | assumption | omega) only [↓RP, RQ, TY, loadT, reduceIte, Nat.reduceEqDiff, Nat.reduceAdd, hE2.rw hH1]
  refine c_cCheck A (hm.ext hp2.ext) hlm (hv.ext hp2.ext) (by omega) hlr fun H3 hE3 => ?_
  have hp3 := hp2.more hE3
  rw [h0]
  simp (disch := first | assumption | omega) only [↓RP, RQ, TY, loadT, reduceIte, Nat.reduceEqDiff, Nat.reduceAdd, Int.reduceEq, Int.reduceNe]
  refine c_Values (hpv.isSl) fun bs H4 hE4 hH4 => ?_
  have hp4 := hp3.more hE4
  simp (disch := first | assumption | omega) only [↓RP, RQ, TY, loadT, reduceIte, Nat.reduceEqDiff, Nat.reduceAdd]
  refine c_Sorted hH4 (hpv.ext hp4.ext) (by omega) fun w5 H5 hE5 ho5 => ?_
  have hp5 := hp4.more hE5
  have h25 := (hp5.blkOf (y := (.sl b2 0 5 (.own 1), [.int .i64 p, .int .i64 m, md, .int .i64 N, v])) (by simp) rfl).1
  have hsub : Subset N (sortL perm) := sort_sub.mpr ho.2
  have hpv5 := hpv.ext hp5.ext
  have hpi := hpv5.ints
  have hcN : ¬ ((perm.length : Int) ≠ N) := fun q => q hpl
  simp (disch := first | assumption | omega) only [↓RP, RQ, TY, loadT, reduceIte, Nat.reduceEqDiff, Nat.reduceAdd, hpi, h25, eq_false hcN]
  refine c_mset ho5.sl (by rw [sortL_length]; omega) ?_
  have fm : aFill (fun i => [(0, 1), (1, 1)][i]?) [.int .i64 0, .nils] [(0, .int .i64 N)] = some [.int .i64 N, .nils] := rfl
  simp (disch := first | assumption | omega) only [↓RP, RQ, TY, loadT, reduceIte, Nat.reduceEqDiff, Nat.reduceAdd, hsub, h25, fm]
  refine kNew_intro fun b8 H6 hb8 hE6 hH6 => ?_
  have hp6 := hp5.new hb8 hE6 hH6 rfl
  have iN : (AV.int .i64 N).one = true := rfl
  have in_ : (AV.nils).one = true := rfl
  have hp7 := hp6.upd (us' := [.int .i64 N, .nils]) rfl
  simp (disch := first | assumption | omega) only [↓RP, RQ, TY, loadT, reduceIte, Nat.reduceEqDiff, Nat.reduceAdd, u_st2 hH6 iN in_]
  generalize hH7 : H6.upd b8 (.rw [.int .i64 N, .nils]) = H7 at *
  have h27 := (hp7.blkOf (y := (.sl b2 0 5 (.own 1), [.int .i64 p, .int .i64 m, md, .int .i64 N, v])) (by simp) rfl).1
  have hr7 := hv.ext hp7.ext
  simp (disch := first | assumption | omega) only [↓RP, RQ, TY, loadT, reduceIte, Nat.reduceEqDiff, Nat.reduceAdd, h27, hr7.run]
  have hmr : Rect N (rows.map (mvL perm)) := fun i hi => by
    rw [List.length_map] at hi
    rw [rowAt_map hi, mvL, tabN_length, hpN]
  have hme : Els (fF p m mod) (rows.map (mvL perm)) := fun i j => by
    by_cases hi : i < rows.length
    · rw [ent, rowAt_map hi]
      by_cases hj : j < perm.length
      · rw [mvL, tabN_getD _ hj]; exact els _ _
      · rw [getD_len _ (by rw [mvL, tabN_length]; omega)]; exact ok.el0
    · rw [ent_ge j (by rw [List.length_map]; omega)]; exact ok.el0
  have hne : newErr p m mod N (rows.map (mvL perm)) = 0 := by
    rw [newErr, if_neg (by simpa using matErr_ok hF (cols := N) (by omega) (by omega) (by rw [List.length_map]; omega) hmr hme), if_neg (by omega)]
  clear hsub hpi h27 h25 hp2 hp3 hp4 hp5 hp6
  refine sw_loop (σ := Nat × AV × List AV) (fun s e H' => e 42 = .int .i64 s.1 ∧ e 41 = .int .i64 rows.length ∧ e 40 = v ∧ e 2 = .ptr b2 0 ∧ e 4 = .ptr b4 0 ∧ e 8 = .ptr b8 0 ∧ e 1 = pv ∧ s.1 ≤ rows.length ∧ s.2.2.length = s.1 ∧ (∀ u, u ∈ s.2.2 → u.isSl = true) ∧
    Hp H H' ((s.2.1, s.2.2) :: (.sl b8 0 2 (.own 1), [.int .i64 N, s.2.1]) :: (.sl b4 0 5 (.own 1), [.int .i64 0, .int .i64 0, .nils, .int .i64 0, .nils]) :: (.sl b2 0 5 (.own 1), [.int .i64 p, .int .i64 m, md, .int .i64 N, v]) :: rowsL s.2.2 ((rows.map (mvL perm)).take s.1))) (fun s => rows.length - s.1) (0, .nils, []) ?_ ?_
  · simp (disch := first | assumption | omega) only [↓RP, RQ, TY, loadT, reduceIte, Nat.reduceEqDiff, Nat.reduceAdd]
    exact ⟨by omega, rfl, fun u hu => (by simp at hu), hp7.nils⟩
  clear hp7 hr7 hH7 hpv5
  rintro ⟨i, w, ws⟩ e H8 ⟨e42, e41, e40, e2, e4, e8, e1, hi, hwl, hws, hp⟩
  dsimp only at *
  have h2 := (hp.blkOf (y := (.sl b2 0 5 (.own 1), [.int .i64 p, .int .i64 m, md, .int .i64 N, v])) (by simp) rfl).1
  have h8 := (hp.blkOf (y := (.sl b8 0 2 (.own 1), [.int .i64 N, w])) (by simp) rfl).1
  have hr8 := hv.ext hp.ext
  by_cases hlt : (i : Int) < rows.length
  · simp (disch := first | assumption | omega) only [↓RP, RQ, TY, loadT, reduceIte, Nat.reduceEqDiff, Nat.reduceAdd, e42, e41, e40, e2, e4, e8, e1, hlt, hr8.run, h2]
    refine kNew_intro fun bx H9 hbx hE9 hH9 => ?_
    rw [ints_rep] at hH9
    have hp9 := hp.new (n := N) hbx hE9 hH9 (by simp [ints_length])
    have hpv9 := (hpv.ext hp9.ext).ints
    simp (disch := first | assumption | omega) only [↓RP, RQ, TY, loadT, reduceIte, Nat.reduceEqDiff, Nat.reduceAdd, e42, e41, e40, e2, e4, e8, e1, hpv9]
    refine sw_loop (σ := Nat × List Int) (fun s e H' => e 51 = .int .i64 s.1 ∧ e 50 = .int .i64 perm.length ∧ e 49 = pv ∧ e 11 = .sl bx 0 N (.own 1) ∧ e 10 = us.getD i .junk ∧ e 42 = .int .i64 i ∧ e 41 = .int .i64 rows.length ∧ e 40 = v ∧ e 2 = .ptr b2 0 ∧ e 4 = .ptr b4 0 ∧ e 8 = .ptr b8 0 ∧ e 1 = pv ∧ s.1 ≤ N ∧ s.2.length = N ∧
      (∀ j, j < N → s.2.getD j 0 = if (j : Int) ∈ perm.take s.1 then (rowAt rows i).getD (perm.idxOf (j : Int)) 0 else 0) ∧
      Hp H H' ((.sl bx 0 N (.own 1), ints s.2) :: (w, ws) :: (.sl b8 0 2 (.own 1), [.int .i64 N, w]) :: (.sl b4 0 5 (.own 1), [.int .i64 0, .int .i64 0, .nils, .int .i64 0, .nils]) :: (.sl b2 0 5 (.own 1), [.int .i64 p, .int .i64 m, md, .int .i64 N, v]) :: rowsL ws ((rows.map (mvL perm)).take i))) (fun s => N - s.1) (0, List.replicate N 0) ?_ ?_
    · simp (disch := first | assumption | omega) only [↓RP, RQ, TY, loadT, reduceIte, Nat.reduceEqDiff, Nat.reduceAdd, e42, e41, e40, e2, e4, e8, e1]
      exact ⟨by omega, by simp, fun j hj => by simp [List.getD_eq_getElem?_getD, hj], hp9⟩
    clear hp9 hpv9 hH9 hE9
    rintro ⟨t, X⟩ e' H10 ⟨g51, g50, g49, g11, g10, g42, g41, g40, g2, g4, g8, g1, ht, hX, hXs, hp10⟩
    dsimp only at *
    have hil := ints_length X
    by_cases htl : (t : Int) < perm.length
    · have hpt := ho.2.1 t (by omega)
      have hpv10 := (hpv.ext hp10.ext).ints
      have hrw := ((hv.ext hp10.ext).row i (by omega)).ints
      rw [ca.rect i (by omega), Int.toNat_natCast] at hrw
      have hbX := (hp10.blkOf (y := (.sl bx 0 N (.own 1), ints X)) (by simp) rfl).1
      have htN : t < N := by omega
      simp (disch := first | assumption | omega) only [↓RP, RQ, TY, loadT, reduceIte, Nat.reduceEqDiff, Nat.reduceAdd, g51, g50, g49, g11, g10, g42, g41, g40, g2, g4, g8, g1, htl, hpv10, hrw, hbX, ints_set]
      refine ⟨(t + 1, X.set (perm.getD t 0).toNat ((rowAt rows i).getD t 0)), ?_, by dsimp only; omega⟩
      simp (disch := first | assumption | omega) only [↓RP, RQ, TY, loadT, reduceIte, Nat.reduceEqDiff, Nat.reduceAdd, g51, g50, g49, g11, g10, g42, g41, g40, g2, g4, g8, g1]
      refine ⟨by omega, by simpa using hX, fun j hj => ?_, hp10.upd (by simp [ints_length])⟩
      rw [getD_setN]
      by_cases q : (j : Int) = perm.getD t 0
      · rw [if_pos ⟨by omega, by omega⟩, if_pos ((mem_takeZ (by omega)).mpr (.inr q)), q, idxZ_of ho.2.2 (by omega)]
      · rw [if_neg (fun z => q (by omega)), hXs j hj]
        by_cases z : (j : Int) ∈ perm.take t
        · rw [if_pos z, if_pos ((mem_takeZ (by omega)).mpr (.inl z))]
        · rw [if_neg z, if_neg (fun y => ((mem_takeZ (by omega)).mp y).elim z q)]
    · rw [show t = N by omega] at hXs
      have hXe : X = mvL perm (rowAt rows i) := by
        refine lst_tab (by omega) fun j hj => ?_
        rw [hXs j (by omega), if_pos]
        rw [List.take_of_length_le (by omega)]
        exact ho.mem (by omega)
      have hslx : (AV.sl bx 0 N (.own 1)).isSl = true := rfl
      have h810 := (hp10.blkOf (y := (.sl b8 0 2 (.own 1), [.int .i64 N, w])) (by simp) rfl).1
      simp (disch := first | assumption | omega) only [↓RP, RQ, TY, loadT, reduceIte, Nat.reduceEqDiff, Nat.reduceAdd, g51, g50, g49, g11, g10, g42, g41, g40, g2, g4, g8, g1, htl, h810, u_buildS1V]
      refine kNew_intro fun b11 H11 hb11 hE11 hH11 => ?_
      have hp11 := (hp10.more hE11).perm (swap2 _ _ _)
      simp (disch := first | assumption | omega) only [↓RP, RQ, TY, loadT, reduceIte, Nat.reduceEqDiff, Nat.reduceAdd, g51, g50, g49, g11, g10, g42, g41, g40, g2, g4, g8, g1]
      refine kApp_hp (us := [.sl bx 0 N (.own 1)]) hp11 (Sl.own hH11 rfl) (fun u hu => by rw [List.mem_singleton.mp hu]; rfl) (by simp; omega) (by simp; omega) fun v12 H12 hp12 => ?_
      have hv12 := hp12.head.sl.isSl
      have h812 := (hp12.blkOf (y := (.sl b8 0 2 (.own 1), [.int .i64 N, w])) (by simp) rfl).1
      have hp13 := (hp12.perm (List.perm_middle (l₁ := [_, _]))).upd (us' := [.int .i64 N, v12]) rfl
      simp (disch := first | assumption | omega) only [↓RP, RQ, TY, loadT, reduceIte, Nat.reduceEqDiff, Nat.reduceAdd, g51, g50, g49, g11, g10, g42, g41, g40, g2, g4, g8, g1, h812, u_storeV hv12, u_stG2 (isSl_one hv12)]
      refine ⟨(i + 1, v12, ws ++ [.sl bx 0 N (.own 1)]), ?_, by dsimp only; omega⟩
      simp (disch := first | assumption | omega) only [↓RP, RQ, TY, loadT, reduceIte, Nat.reduceEqDiff, Nat.reduceAdd, g51, g50, g49, g11, g10, g42, g41, g40, g2, g4, g8, g1]
      refine ⟨by omega, by simp [hwl], fun u hu => ?_, ?_⟩
      · rcases List.mem_append.mp hu with q | q
        · exact hws u q
        · rw [List.mem_singleton.mp q]; rfl
      · rw [← map_take_push (mvL perm) (show i < rows.length by omega), rowsL_app _ _ (by rw [List.length_take, List.length_map]; omega), ← hXe]
        refine hp13.perm ((swap2 _ _ _).trans (.cons _ (.cons _ ?_)))
        exact (List.perm_append_singleton _ _).symm
  · have hiR : i = rows.length := by omega
    rw [List.take_of_length_le (by simp; omega)] at hp
    have h48 := (hp.blkOf (y := (.sl b4 0 5 (.own 1), [.int .i64 0, .int .i64 0, .nils, .int .i64 0, .nils])) (by simp) rfl).1
    have hrw8 : Rows H8 w ws (rows.map (mvL perm)) := hp.rows (by simp) (fun y hy => by simp [hy]) (by simp; omega)
    simp (disch := first | assumption | omega) only [↓RP, RQ, TY, loadT, reduceIte, Nat.reduceEqDiff, Nat.reduceAdd, e42, e41, e40, e2, e4, e8, e1, hlt, h2, h8]
    refine c_CNew A (hm.ext hp.ext) hlm hrw8 (by simp; omega) (fun j hj => by rw [hmr j hj]; omega) (fun _ md' lv us' H9 hE9 hm9 hr9 of1 of2 of3 => ?_) (fun q => absurd hne q)
    have hE49 := hE9.rw h48
    have b4n : H8 b4 ≠ .free := by rw [h48]; exact fun q => by cases q
    have i1 := isSl_one hr9.sl.isSl
    have i2 := isSl_one hm9.isSl
    have ip : (AV.int .i64 p).one = true := rfl
    have im : (AV.int .i64 m).one = true := rfl
    simp (disch := first | assumption | omega) only [↓RP, RQ, TY, loadT, reduceIte, Nat.reduceEqDiff, Nat.reduceAdd, e4, u_st5 hE49 ip im i2 iN i1, aRes, aResL, aRes1, Option.map_some]
    have f4 : H b4 = .free := (hp.blkOf (y := (.sl b4 0 5 (.own 1), [.int .i64 0, .int .i64 0, .nils, .int .i64 0, .nils])) (by simp) rfl).2
    exact hQ md' lv us' _ ((hp.ext.trans hE9).upd f4 _) (hm9.updOff of3 b4n _) (hr9.updOff of1 of2 b4n _) (of1.old hp.ext) (fun u hu => (of2 u hu).old hp.ext) (of3.old hp.ext)
/-- the places of an order's entries -/
def invL (order : List Int) : List Int := tabN order.length fun j => (order.idxOf (j : Int) : Int)
theorem invL_get {order : List Int} {j : Nat} (hj : j < order.length) : (invL order).getD j 0 = (order.idxOf (j : Int) : Nat) := by rw [invL, tabN_getD _ hj]
theorem invL_ord {n : Int} {order : List Int} (h : IsOrd n order) : IsOrd n (invL order) := by
  have hl : (invL order).length = order.length := tabN_length _ _
  refine ⟨by rw [hl]; exact h.1, fun i hi => ?_, ?_⟩
  · rw [hl] at hi
    have := (idxZ_get (h.mem (j := i) (by have := h.1; omega))).1
    have h1 := h.1
    rw [invL_get hi]
    omega
  · rw [List.Nodup, List.pairwise_iff_getElem]
    intro i j hi hj hij q
    rw [hl] at hi hj
    have e1 := invL_get hi
    have e2 := invL_get hj
    rw [List.getD_eq_getElem?_getD, List.getElem?_eq_getElem (by omega), Option.getD_some] at e1 e2
    have m1 := (idxZ_get (h.mem (j := i) (by have := h.1; omega))).2
    have m2 := (idxZ_get (h.mem (j := j) (by have := h.1; omega))).2
    rw [e1, e2] at q
    have q' : order.idxOf (i : Int) = order.idxOf (j : Int) := by omega
    rw [q', m2] at m1
    omega
theorem mv_inv {n : Int} {order : List Int} (h : IsOrd n order) (r : List Int) : mvL (invL order) r = pickL r order := by
  have hl : (invL order).length = order.length := tabN_length _ _
  rw [mvL, pickL, hl]
  refine tabN_congr fun j hj => ?_
  have hp := h.2.1 j hj
  have h1 := h.1
  have hx : (order.getD j 0).toNat < order.length := by omega
  have e : (invL order).getD (order.getD j 0).toNat 0 = j := by
    rw [invL_get hx, Int.toNat_of_nonneg hp.1, idxZ_of h.2.2 hj]
  rw [← e, idxZ_of (invL_ord h).2.2 (by rw [hl]; exact hx)]
theorem c_Reorder (A : Alg) {p m n : Int} {md v sv : AV} {mod set : List Int} {us : List AV} {rows : List (List Int)} {H : AH} {Q : AV → AH → Prop} (hm : Ints H md mod) (hlm : mod.length ≤ 9223372036854775807) (hv : Rows H v us rows) (hs : Ints H sv set) (hl : rows.length ≤ 9223372036854775807) (hlr : ∀ i, i < rows.length → (rowAt rows i).length ≤ 9223372036854775807) (hls : set.length ≤ 9223372036854775807)
    (hQ : ordErr p m mod n rows set = 0 → ∀ md' lv us' H', Ext H H' → Ints H' md' mod → Rows H' lv us' (canon (fF p m mod) (rows.map fun r => pickL r set) n.toNat).1 → Q (.tup [codeV p m md' n lv, .int .i64 0]) H')
    (hQ0 : ordErr p m mod n rows set ≠ 0 → ∀ H', Ext H H' → Q (.tup [codeV 0 0 .nils 0 .nils, .int .i64 (ordErr p m mod n rows set)]) H') :
    AC Tryz.prog 17 [codeV p m md n v, sv] H Q := by
  refine at17 (by simp) ?_
  simp (disch := first | assumption | omega) only [↓RP, RQ, TY, loadT, s17, reduceIte, Nat.reduceEqDiff, Nat.reduceAdd]
  refine kNew_intro fun b2 H1 hb2 hE1 hH1 => ?_
  simp (disch := first | assumption | omega) only [↓RP, RQ, TY, loadT, reduceIte, Nat.reduceEqDiff, Nat.reduceAdd]
  refine kNew_intro fun b4 H2 hb4 hE2 hH2 => ?_
  have hp2 := ((Hp.nil (Ext.refl H)).new hb2 hE1 hH1 rfl).new hb4 hE2 hH2 rfl
  have z0 : (AV.int .i64 0).one = true := rfl
  have zn : AV.nils.one = true := rfl
  simp (disch := first | assumption | omega) only [↓RP, RQ, TY, loadT, reduceIte, Nat.reduceEqDiff, Nat.reduceAdd, hE2.rw hH1]
  refine c_ordered A (hm.ext hp2.ext) hlm (hv.ext hp2.ext) (hs.ext hp2.ext) hl hlr hls fun H3 hE3 => ?_
  have hp3 := hp2.more hE3
  have h43 := (hp3.blkOf (y := (.sl b4 0 5 (.own 1), [.int .i64 0, .int .i64 0, .nils, .int .i64 0, .nils])) (by simp) rfl)
  have h23 := (hp3.blkOf (y := (.sl b2 0 5 (.own 1), [.int .i64 p, .int .i64 m, md, .int .i64 n, v])) (by simp) rfl).1
  by_cases h0 : ordErr p m mod n rows set = 0
  rotate_left
  · simp (disch := first | assumption | omega) only [↓RP, RQ, TY, loadT, reduceIte, Nat.reduceEqDiff, Nat.reduceAdd, eq_true h0, u_fill0, u_st5 (x := .int .i64 0) (y := .int .i64 0) (z := .nils) (w := .int .i64 0) (u := .nils) h43.1 z0 z0 zn z0 zn, aRes, aResL, aRes1, Option.map_some]
    exact hQ0 h0 _ (hp3.ext.upd h43.2 _)
  obtain ⟨hc, ho⟩ := ordErr_iff.mp h0
  have ca := A.fo.ca hc (hm.ext hp3.ext) (hv.ext hp3.ext)
  have n1 := ca.n1
  have n64 := ca.n64
  have hol := ho.1
  obtain ⟨N, hN⟩ : ∃ N : Nat, n = N := ⟨n.toNat, by omega⟩
  subst hN
  have hsN : set.length = N := by omega
  simp (disch := first | assumption | omega) only [↓RP, RQ, TY, loadT, reduceIte, Nat.reduceEqDiff, Nat.reduceAdd, eq_false (show ¬ ordErr p m mod N rows set ≠ 0 from fun q => q h0), h23, Int.toNat_natCast]
  refine kNew_intro fun b7 H4 hb7 hE4 hH4 => ?_
  rw [ints_rep] at hH4
  have hp4 := hp3.new (n := N) hb7 hE4 hH4 (by simp [ints_length])
  have hs4 := (hs.ext hp4.ext).ints
  clear h43 h23
  simp (disch := first | assumption | omega) only [↓RP, RQ, TY, loadT, reduceIte, Nat.reduceEqDiff, Nat.reduceAdd, hs4]
  refine sw_loop (σ := Nat × List Int) (fun s e H' => e 22 = .int .i64 s.1 ∧ e 21 = .int .i64 set.length ∧ e 20 = sv ∧ e 7 = .sl b7 0 N (.own 1) ∧ e 2 = .ptr b2 0 ∧ e 4 = .ptr b4 0 ∧ s.1 ≤ N ∧ s.2.length = N ∧ (∀ j, j < N → s.2.getD j 0 = if (j : Int) ∈ set.take s.1 then (set.idxOf (j : Int) : Int) else 0) ∧
    Hp H H' [(.sl b7 0 N (.own 1), ints s.2), (.sl b4 0 5 (.own 1), [.int .i64 0, .int .i64 0, .nils, .int .i64 0, .nils]), (.sl b2 0 5 (.own 1), [.int .i64 p, .int .i64 m, md, .int .i64 N, v])]) (fun s => N - s.1) (0, List.replicate N 0) ?_ ?_
  · simp (disch := first | assumption | omega) only [↓RP, RQ, TY, loadT, reduceIte, Nat.reduceEqDiff, Nat.reduceAdd]
    exact ⟨by omega, by simp, fun j hj => by simp [List.getD_eq_getElem?_getD, hj], hp4⟩
  clear hp4 hp3 hp2 hs4 hH4 hE4
  rintro ⟨t, X⟩ e H5 ⟨e22, e21, e20, e7, e2, e4, ht, hX, hXs, hp⟩
  dsimp only at *
  have hil := ints_length X
  have hbX := (hp.blkOf (y := (.sl b7 0 N (.own 1), ints X)) (by simp) rfl).1
  by_cases htl : (t : Int) < set.length
  · have hpt := ho.2.1 t (by omega)
    have hs5 := (hs.ext hp.ext).ints
    simp (disch := first | assumption | omega) only [↓RP, RQ, TY, loadT, reduceIte, Nat.reduceEqDiff, Nat.reduceAdd, e22, e21, e20, e7, e2, e4, htl, hs5, hbX, ints_set]
    refine ⟨(t + 1, X.set (set.getD t 0).toNat t), ?_, by dsimp only; omega⟩
    simp (disch := first | assumption | omega) only [↓RP, RQ, TY, loadT, reduceIte, Nat.reduceEqDiff, Nat.reduceAdd, e22, e21, e20, e7, e2, e4]
    refine ⟨by omega, by simpa using hX, fun j hj => ?_, hp.upd (by simp [ints_length])⟩
    rw [getD_setN]
    by_cases q : (j : Int) = set.getD t 0
    · rw [if_pos ⟨by omega, by omega⟩, if_pos ((mem_takeZ (by omega)).mpr (.inr q)), q, idxZ_of ho.2.2 (by omega)]
    · rw [if_neg (fun z => q (by omega)), hXs j hj]
      by_cases z : (j : Int) ∈ set.take t
      · rw [if_pos z, if_pos ((mem_takeZ (by omega)).mpr (.inl z))]
      · rw [if_neg z, if_neg (fun y => ((mem_takeZ (by omega)).mp y).elim z q)]
  · have hXe : X = invL set := by
      refine lst_tab (by omega) fun j hj => ?_
      rw [hXs j (by omega), if_pos]
      rw [List.take_of_length_le (by omega)]
      exact ho.mem (by omega)
    have h25 := (hp.blkOf (y := (.sl b2 0 5 (.own 1), [.int .i64 p, .int .i64 m, md, .int .i64 N, v])) (by simp) rfl).1
    have h45 := (hp.blkOf (y := (.sl b4 0 5 (.own 1), [.int .i64 0, .int .i64 0, .nils, .int .i64 0, .nils])) (by simp) rfl)
    simp (disch := first | assumption | omega) only [↓RP, RQ, TY, loadT, reduceIte, Nat.reduceEqDiff, Nat.reduceAdd, e22, e21, e20, e7, e2, e4, htl, h25]
    refine c_Permute A (hm.ext hp.ext) hlm (hv.ext hp.ext) hc hp.head.sl (hXe ▸ invL_ord ho) fun md' lv us' H6 hE6 hm6 hr6 of1 of2 of3 => ?_
    rw [hXe] at hr6
    have em : (rows.map (mvL (invL set))) = rows.map fun r => pickL r set := List.map_congr_left fun r _ => mv_inv ho r
    rw [em] at hr6
    have b4n : H5 b4 ≠ .free := by rw [h45.1]; exact fun q => by cases q
    have i1 := isSl_one hr6.sl.isSl
    have i2 := isSl_one hm6.isSl
    have ip : (AV.int .i64 p).one = true := rfl
    have im : (AV.int .i64 m).one = true := rfl
    have iN : (AV.int .i64 N).one = true := rfl
    simp (disch := first | assumption | omega) only [↓RP, RQ, TY, loadT, reduceIte, Nat.reduceEqDiff, Nat.reduceAdd, e4, u_st5 (hE6.rw h45.1) ip im i2 iN i1, aRes, aResL, aRes1, Option.map_some]
    exact hQ h0 md' lv us' _ ((hp.ext.trans hE6).upd h45.2 _) (hm6.updOff of3 b4n _) (hr6.updOff of1 of2 b4n _)
end Go.Proofs.YtbkpebmcagdgmaaGreat.AM
/-! Rows of a matrix: elimination keeps their span; words of a code reduce to zero (plain law). -/
namespace Go.Proofs.YtbkpebmcagdgmaaGreat.AM
open Go Go.RowKit
set_option linter.unusedVariables false
set_option linter.unusedSimpArgs false
section
variable {F : FOps} (h : F.Ok)
/-- the rows as vectors -/
noncomputable def rowV (l : List (List Int)) : Nat → Vc F.K := fun i => vecL h (rowAt l i)
theorem rowV_at (l : List (List Int)) (i j : Nat) : rowV h l i j = h.k (ent l i j) := rfl
/-- the rows of l are combinations of those of l' -/
def RS (l l' : List (List Int)) : Prop := letI := h.fd; ∀ i, Spn (rowV h l') (fun i => i < l'.length) (rowV h l i)
theorem rowV_ge {l : List (List Int)} {i : Nat} (hi : l.length ≤ i) : letI := h.fd; rowV h l i = vz := by
  letI := h.fd
  funext j
  rw [rowV_at, ent_ge j hi, h.k_zero]
  rfl
theorem RS.refl (l : List (List Int)) : RS h l l := by
  letI := h.fd
  intro i
  by_cases hi : i < l.length
  · exact Spn.one hi
  · rw [rowV_ge h (by omega)]; exact .zero
theorem RS.trans {l l' l2 : List (List Int)} (h1 : RS h l l') (h2 : RS h l' l2) : RS h l l2 := by
  letI := h.fd
  exact fun i => Spn.trans (fun j _ => h2 j) (h1 i)
theorem RS.spn {l l' : List (List Int)} (h1 : RS h l l') : letI := h.fd; ∀ {S : Nat → Prop} {v : Vc F.K}, Spn (rowV h l) S v → Spn (rowV h l') (fun i => i < l'.length) v := by
  letI := h.fd
  intro S v hv
  exact Spn.trans (fun j _ => h1 j) hv
theorem swap_rs {l : List (List Int)} {a k : Nat} (ha : a < l.length) (hk : k < l.length) : RS h l (swapL l a k) := by
  letI := h.fd
  intro i
  by_cases hi : i < l.length
  · have e : rowV h l i = rowV h (swapL l a k) (if i = a then k else if i = k then a else i) := by
      funext j
      rw [rowV_at, rowV_at, ent, ent, rowAt_swap ha hk]
      congr 3
      by_cases h1 : i = a
      · subst h1
        by_cases h2 : k = i <;> simp [h2]
      · by_cases h2 : i = k
        · subst h2; simp [h1]
        · simp [h1, h2]
    rw [e]
    refine Spn.one ?_
    rw [swapL_length]
    split
    · exact hk
    · split <;> assumption
  · rw [rowV_ge h (by omega)]; exact .zero
theorem unit_rs {l : List (List Int)} {c a : Nat} (he : Els F l) (ha : a < l.length) (h0 : ent l a c ≠ 0) : RS h l (unitL F c a l) := by
  letI := h.fd
  have hd : h.k (ent l a c) ≠ Fd.z := fun q => h0 ((h.k_z_iff (he _ _)).mp q)
  intro i
  by_cases hi : i < l.length
  · by_cases hia : i = a
    · have e : rowV h l i = vs (h.k (ent l a c)) (rowV h (unitL F c a l) a) := by
        funext j
        simp only [vs]
        rw [rowV_at, rowV_at, unitL_ent h c a he ha a j h0, if_pos rfl, h.k_mul (h.inv_el (he _ _)) (he _ _), h.k_inv (he _ _), ← Fd.mul_assoc, Fd.mul_inv _ hd, Fd.u_mul, hia]
      rw [e]
      exact (Spn.one (V := rowV h (unitL F c a l)) (S := fun i => i < (unitL F c a l).length) (show a < (unitL F c a l).length by rw [unitL_length]; exact ha)).smul _
    · have e : rowV h l i = rowV h (unitL F c a l) i := by
        funext j
        rw [rowV_at, rowV_at, unitL_ent h c a he ha i j h0, if_neg hia]
      rw [e]
      exact Spn.one (V := rowV h (unitL F c a l)) (S := fun i => i < (unitL F c a l).length) (show i < (unitL F c a l).length by rw [unitL_length]; exact hi)
  · rw [rowV_ge h (by omega)]; exact .zero
theorem clear_rs {n : Nat} {l : List (List Int)} {c a : Nat} (hr : Rect n l) (he : Els F l) (ha : a < l.length) : RS h l (clearL F c a l) := by
  letI := h.fd
  intro i
  by_cases hi : i < l.length
  · by_cases hia : i = a
    · have e : rowV h l i = rowV h (clearL F c a l) i := by
        funext j
        rw [rowV_at, rowV_at, clearL_ent h c a hr he ha i j, if_neg (by simpa using hia)]
      rw [e]
      exact Spn.one (V := rowV h (clearL F c a l)) (S := fun i => i < (clearL F c a l).length) (show i < (clearL F c a l).length by rw [clearL_length]; exact hi)
    · have e : rowV h l i = va (rowV h (clearL F c a l) i) (vs (h.k (ent l i c)) (rowV h (clearL F c a l) a)) := by
        funext j
        simp only [va, vs]
        rw [rowV_at, rowV_at, rowV_at, clearL_ent h c a hr he ha i j, clearL_ent h c a hr he ha a j, if_pos hia, if_neg (by simp), h.k_add (he _ _) (h.mul_el (h.neg_el (he _ _)) (he _ _)), h.k_mul (h.neg_el (he _ _)) (he _ _), h.k_neg (he _ _), Fd.add_assoc, ← Fd.add_mul, Fd.neg_add, Fd.z_mul, Fd.add_z]
      rw [e]
      exact Spn.step (V := rowV h (clearL F c a l)) (S := fun i => i < (clearL F c a l).length) _ (show a < (clearL F c a l).length by rw [clearL_length]; exact ha) (Spn.one (V := rowV h (clearL F c a l)) (S := fun i => i < (clearL F c a l).length) (show i < (clearL F c a l).length by rw [clearL_length]; exact hi))
  · rw [rowV_ge h (by omega)]; exact .zero
theorem elim_rs {n : Nat} {rows : List (List Int)} (hr : Rect n rows) (he : Els F rows) : ∀ c, RS h rows (elim F rows c).1
  | 0 => RS.refl h rows
  | c + 1 => by
    have ih := elim_rs hr he c
    have inv := elim_inv h hr he c
    refine RS.trans h ih ?_
    rw [elim_succ]
    generalize elim F rows c = s at inv ⊢
    obtain ⟨l, piv⟩ := s
    obtain ⟨k1, k2, k3, k4⟩ := firstNZ_spec l c (l.length - piv.length) piv.length
    have hle := inv.le
    dsimp only at *
    simp only [elimStep]
    split
    · rename_i hk
      have ha : piv.length < l.length := by omega
      have h0 := k4 (by omega)
      have e1 := swapL_els inv.els ha hk
      have r1 := swapL_rect inv.rect ha hk
      have ha1 : piv.length < (swapL l piv.length (firstNZ l c (l.length - piv.length) piv.length)).length := by rw [swapL_length]; exact ha
      have p1 : ent (swapL l piv.length (firstNZ l c (l.length - piv.length) piv.length)) piv.length c ≠ 0 := by rw [ent, rowAt_swap ha hk, if_pos rfl]; exact h0
      have e2 := unitL_els h c piv.length e1 ha1 p1
      have r2 := unitL_rect (F := F) c piv.length r1
      refine RS.trans h (swap_rs h ha hk) (RS.trans h (unit_rs h e1 ha1 p1) (clear_rs h r2 e2 (by rw [unitL_length]; exact ha1)))
    · exact RS.refl h l
theorem canon_rs {n : Nat} {rows : List (List Int)} (hr : Rect n rows) (he : Els F rows) : RS h rows (canon F rows n).1 := by
  letI := h.fd
  have inv := elim_inv h hr he n
  refine RS.trans h (elim_rs h hr he n) fun i => ?_
  by_cases hi : i < (elim F rows n).2.length
  · have e : rowV h (elim F rows n).1 i = rowV h (canon F rows n).1 i := by
      funext j
      rw [rowV_at, rowV_at]
      exact congrArg h.k (ent_take hi j).symm
    rw [e]
    refine Spn.one ?_
    have := inv.le
    rw [canon, List.length_take]
    omega
  · have e : rowV h (elim F rows n).1 i = vz := by
      funext j
      rw [rowV_at]
      by_cases hj : j < n
      · rw [inv.hi i j (by omega) hj, h.k_zero]; rfl
      · rw [ent_col inv.rect i (by omega), h.k_zero]; rfl
    rw [e]
    exact .zero
theorem Red.bok {n : Nat} {l : List (List Int)} {piv : List Nat} (hR : Red n l piv) (he : Els F l) : BOk F n l piv := ⟨hR.rect, he, hR.len, hR.lt⟩
include h in
/-- a word of the code reduces to zero -/
theorem red_word {n : Nat} {l : List (List Int)} {piv : List Nat} (hR : Red n l piv) (he : Els F l) {v : List Int} (hv : v.length = n ∧ ∀ j, F.El (v.getD j 0)) (hs : letI := h.fd; Spn (rowV h l) (fun i => i < l.length) (vecL h v)) : ∀ j, (redB F l piv v).getD j 0 = 0 := by
  letI := h.fd
  have one : ∀ i, i < l.length → ent l i (piv.getD i 0) = 1 := fun i hi => by rw [hR.pv i i hi hi, if_pos rfl]
  have zero : ∀ i j, j < i → i < l.length → ent l i (piv.getD j 0) = 0 := fun i j hji hi => by rw [hR.pv j i (by omega) hi, if_neg (by omega)]
  obtain ⟨⟨w, hw, hu⟩, hz⟩ := red_vec h (hR.bok he) one zero hv l.length (Nat.le_refl _)
  obtain ⟨u1, u2⟩ := red_len (places := piv) h he hv
  change vecL h (redB F l piv v) = va (vecL h v) w at hu
  change ∀ i, i < l.length → (redB F l piv v).getD (piv.getD i 0) 0 = 0 at hz
  have hsp : Spn (rowV h l) (fun i => i < l.length) (vecL h (redB F l piv v)) := by rw [hu]; exact hs.add hw
  have h0 := basis_zero h one zero hsp fun i hi => by
    show h.k _ = _
    rw [hz i hi, h.k_zero]
  exact (vecL_zero h u2).mp h0
end
end Go.Proofs.YtbkpebmcagdgmaaGreat.AM
/-! The program's spaces: open with its view, words, reduction; code.list, word, Has. -/
namespace Go.Proofs.YtbkpebmcagdgmaaGreat.AM
open Go Go.RowKit
set_option linter.unusedVariables false
set_option linter.unusedSimpArgs false
set_option maxRecDepth 20000
theorem u_stGP1 {P : Program} {K : Kt} {e : Env} {H : AH} {d : Option Nat} {r : Rst} {ds : List Nat} {blk b o : Nat} {x : AV} : kSt P ds blk 0 r e H K d (.ptr b o) (.rw [x]) = kRet P ds r e (H.upd blk (.rw [.ptr b o])) K d (.tup []) :=
  st_put rfl (show 0 < [x].length by simp)
theorem c_IndexFuncG {v : AV} {g : Nat} {caps : List AV} {pr : Int → Bool} {xs : List Int} {H : AH} {Q : AV → AH → Prop} (hv : Ints H v xs) (hl : xs.length ≤ 9223372036854775807)
    (hg : ∀ i, i < xs.length → ∀ Q' : AV → AH → Prop, Q' (.bool (pr (xs.getD i 0))) H → AC Tryz.prog g (.int .i64 (xs.getD i 0) :: caps) H Q')
    (hQ : ∀ r : Int, (0 ≤ r ↔ xs.any pr = true) → Q (.int .i64 r) H) : AC Tryz.prog 159 [v, .fn g caps] H Q := by
  refine at159 (by simp) ?_
  simp (disch := first | assumption | omega) only [↓RP, RQ, TY, loadT, s159, reduceIte, Nat.reduceEqDiff, Nat.reduceAdd, hv.ints]
  refine sw_loop (σ := Nat) (fun i e H' => e 8 = .int .i64 i ∧ e 7 = .int .i64 xs.length ∧ e 0 = v ∧ e 1 = .fn g caps ∧ i ≤ xs.length ∧ H' = H ∧ ∀ j, j < i → pr (xs.getD j 0) = false) (fun i => xs.length - i) 0 ?_ ?_
  · simp (disch := first | assumption | omega) only [↓RP, RQ, TY, loadT, reduceIte, Nat.reduceEqDiff, Nat.reduceAdd]
    exact ⟨by omega, fun j hj => by omega⟩
  rintro i e H' ⟨e8, e7, e0, e1, hi, rfl, hj⟩
  by_cases hlt : (i : Int) < xs.length
  · simp (disch := first | assumption | omega) only [↓RP, RQ, TY, loadT, reduceIte, Nat.reduceEqDiff, Nat.reduceAdd, e8, e7, e0, e1, hlt, hv.ints]
    refine hg i (by omega) _ ?_
    cases hz : pr (xs.getD i 0)
    · simp (disch := first | assumption | omega) only [↓RP, RQ, TY, loadT, reduceIte, Nat.reduceEqDiff, Nat.reduceAdd, e8, e7, e0, e1]
      refine ⟨i + 1, ?_, by dsimp only; omega⟩
      simp (disch := first | assumption | omega) only [↓RP, RQ, TY, loadT, reduceIte, Nat.reduceEqDiff, Nat.reduceAdd, e8, e7, e0, e1]
      refine ⟨by omega, fun j h => ?_⟩
      by_cases hji : j = i
      · rw [hji]; exact hz
      · exact hj j (by omega)
    · simp (disch := first | assumption | omega) only [↓RP, RQ, TY, loadT, reduceIte, Nat.reduceEqDiff, Nat.reduceAdd, e8, e7, e0, e1]
      refine hQ i ⟨fun _ => ?_, fun _ => by omega⟩
      have hi' : i < xs.length := by omega
      rw [List.any_eq_true]
      refine ⟨xs[i], List.getElem_mem hi', ?_⟩
      rwa [List.getD_eq_getElem?_getD, List.getElem?_eq_getElem hi', Option.getD_some] at hz
  · simp (disch := first | assumption | omega) only [↓RP, RQ, TY, loadT, reduceIte, Nat.reduceEqDiff, Nat.reduceAdd, e8, e7, e0, e1, hlt]
    refine hQ (-1) ⟨fun q => by omega, fun q => ?_⟩
    obtain ⟨x, hx, hp⟩ := List.any_eq_true.mp q
    obtain ⟨k, hk, rfl⟩ := List.getElem_of_mem hx
    have := hj k (by omega)
    rw [List.getD_eq_getElem?_getD, List.getElem?_eq_getElem hk, Option.getD_some, hp] at this
    cases this
theorem c_ContainsFunc {v : AV} {g : Nat} {caps : List AV} {pr : Int → Bool} {xs : List Int} {H : AH} {Q : AV → AH → Prop} (hv : Ints H v xs) (hl : xs.length ≤ 9223372036854775807)
    (hg : ∀ i, i < xs.length → ∀ Q' : AV → AH → Prop, Q' (.bool (pr (xs.getD i 0))) H → AC Tryz.prog g (.int .i64 (xs.getD i 0) :: caps) H Q')
    (hQ : Q (.bool (xs.any pr)) H) : AC Tryz.prog 139 [v, .fn g caps] H Q := by
  refine at139 (by simp) ?_
  simp (disch := first | assumption | omega) only [↓RP, RQ, TY, loadT, s139, reduceIte, Nat.reduceEqDiff, Nat.reduceAdd]
  refine c_IndexFuncG hv hl hg fun r hr => ?_
  by_cases q : 0 ≤ r
  · rw [hr.mp q] at hQ
    simp (disch := first | assumption | omega) only [↓RP, RQ, TY, loadT, reduceIte, Nat.reduceEqDiff, Nat.reduceAdd, q]
    exact hQ
  · rw [Bool.eq_false_iff.mpr (fun w => q (hr.mpr w))] at hQ
    simp (disch := first | assumption | omega) only [↓RP, RQ, TY, loadT, reduceIte, Nat.reduceEqDiff, Nat.reduceAdd, q]
    exact hQ
open Classical in
theorem any_el {p m : Int} {xs : List Int} : (xs.any fun x => !decide (0 ≤ x ∧ x < ordr p m)) = !decide (AllEl p m xs) := by
  rw [Bool.eq_iff_iff]
  simp only [List.any_eq_true, Bool.not_eq_true', decide_eq_false_iff_not]
  constructor
  · rintro ⟨x, hx, hn⟩ h
    obtain ⟨i, hi, rfl⟩ := List.getElem_of_mem hx
    have := h i hi
    rw [List.getD_eq_getElem?_getD, List.getElem?_eq_getElem hi, Option.getD_some] at this
    exact hn this
  · intro h
    simp only [AllEl, Classical.not_forall] at h
    obtain ⟨i, hi, hn⟩ := h
    rw [List.getD_eq_getElem?_getD, List.getElem?_eq_getElem hi, Option.getD_some] at hn
    exact ⟨xs[i], List.getElem_mem hi, hn⟩
open Classical in
/-- the error of a list of n elements -/
noncomputable def listErr (p m : Int) (xs : List Int) (n : Int) : Int := if (xs.length : Int) ≠ n then 4 else if AllEl p m xs then 0 else 2
theorem c_list1 {bg bc : Nat} {p m x : Int} {mod : List Int} {H : AH} {Q : AV → AH → Prop} (hg : GFA H bg p m mod) (hc : H bc = .rw [.ptr bg 0]) (hQ : Q (.bool (!decide (0 ≤ x ∧ x < ordr p m))) H) : AC Tryz.prog 140 [.int .i64 x, .ptr bc 0] H Q := by
  refine at140 (by simp) ?_
  simp (disch := first | assumption | omega) only [↓RP, RQ, TY, loadT, s140, reduceIte, Nat.reduceEqDiff, Nat.reduceAdd, hc]
  refine c_GIs hg ?_
  simp (disch := first | assumption | omega) only [↓RP, RQ, TY, loadT, reduceIte, Nat.reduceEqDiff, Nat.reduceAdd]
  exact hQ
open Classical in
theorem c_clist (A : Alg) {p m n : Int} {md w : AV} {mod xs : List Int} {H : AH} {Q : AV → AH → Prop} (hm : Ints H md mod) (hlm : mod.length ≤ 9223372036854775807) (hF : FieldOk p m mod) (hw : Ints H w xs) (hl : xs.length ≤ 9223372036854775807)
    (hQ : ∀ H', Ext H H' → Q (.int .i64 (listErr p m xs n)) H') : AC Tryz.prog 98 [.agg [.int .i64 p, .int .i64 m, md], w, .int .i64 n] H Q := by
  refine at98 (by simp) ?_
  simp (disch := first | assumption | omega) only [↓RP, RQ, TY, loadT, s98, reduceIte, Nat.reduceEqDiff, Nat.reduceAdd]
  refine kNew_intro fun b1 H1 hb1 hE1 hH1 => ?_
  have hw1 := (hw.ext hE1).ints
  by_cases hlen : (xs.length : Int) = n
  rotate_left
  · simp (disch := first | assumption | omega) only [↓RP, RQ, TY, loadT, reduceIte, Nat.reduceEqDiff, Nat.reduceAdd, hw1, eq_true (show (xs.length : Int) ≠ n from hlen)]
    have := hQ H1 hE1
    rwa [listErr, if_pos hlen] at this
  simp (disch := first | assumption | omega) only [↓RP, RQ, TY, loadT, reduceIte, Nat.reduceEqDiff, Nat.reduceAdd, hw1, eq_false (show ¬ ((xs.length : Int) ≠ n) from fun q => q hlen), hH1]
  refine c_New A.gi (hm.ext hE1) hlm (fun bg H2 hE2 _ hg => ?_) (fun H2 hE2 q => absurd hF q)
  have hE12 := hE1.trans hE2
  simp (disch := first | assumption | omega) only [↓RP, RQ, TY, loadT, reduceIte, Nat.reduceEqDiff, Nat.reduceAdd]
  refine kNew_intro fun b3 H3 hb3 hE3 hH3 => ?_
  have hE3u := hE3.upd hb3 (.rw [.ptr bg 0])
  have h33 : (H3.upd b3 (.rw [.ptr bg 0])) b3 = .rw [.ptr bg 0] := updEq
  simp (disch := first | assumption | omega) only [↓RP, RQ, TY, loadT, reduceIte, Nat.reduceEqDiff, Nat.reduceAdd, hH3, u_stGP1, Int.reduceNe, Int.reduceEq]
  generalize H3.upd b3 (.rw [.ptr bg 0]) = H4 at *
  have hE14 := hE12.trans hE3u
  refine c_ContainsFunc (pr := fun x => !decide (0 ≤ x ∧ x < ordr p m)) (hw.ext hE14) hl (fun i hi Q' hq => c_list1 (hg.ext hE3u) h33 hq) ?_
  rw [any_el]
  have := hQ H4 hE14
  rw [listErr, if_neg (by simpa using hlen)] at this
  by_cases hA : AllEl p m xs
  · rw [if_pos hA] at this
    simp (disch := first | assumption | omega) only [↓RP, RQ, TY, loadT, reduceIte, Nat.reduceEqDiff, Nat.reduceAdd, hA]
    exact this
  · rw [if_neg hA] at this
    simp (disch := first | assumption | omega) only [↓RP, RQ, TY, loadT, reduceIte, Nat.reduceEqDiff, Nat.reduceAdd, hA]
    exact this
end Go.Proofs.YtbkpebmcagdgmaaGreat.AM
/-! The reference's codes: Same, Field, Make, List, Combine, Encode; Reorder. -/
namespace Go.Proofs.YtbkpebmcagdgmaaGreat.AM
open Go Go.RowKit
set_option linter.unusedVariables false
set_option linter.unusedSimpArgs false
set_option maxRecDepth 20000
theorem c_Same04 {p m : Int} {md md' : AV} {mod : List Int} {H : AH} {Q : AV → AH → Prop} (hm : Ints H md mod) (hm' : Ints H md' mod) (hl : mod.length ≤ 9223372036854775807) (hQ : ∀ H', Ext H H' → Q (.bool true) H') : AC Tryz.prog 66 [.agg [.int .i64 p, .int .i64 m, md], .agg [.int .i64 p, .int .i64 m, md']] H Q := by
  refine at66 (by simp) ?_
  simp (disch := first | assumption | omega) only [↓RP, RQ, TY, loadT, s66, reduceIte, Nat.reduceEqDiff, Nat.reduceAdd]
  refine kNew_intro fun b1 H1 hb1 hE1 hH1 => ?_
  simp (disch := first | assumption | omega) only [↓RP, RQ, TY, loadT, reduceIte, Nat.reduceEqDiff, Nat.reduceAdd]
  refine kNew_intro fun b2 H2 hb2 hE2 hH2 => ?_
  have hE12 := hE1.trans hE2
  have h12 := hE2.rw hH1
  have i1 := (hm.ext hE12).ints
  have i2 := (hm'.ext hE12).ints
  simp (disch := first | assumption | omega) only [↓RP, RQ, TY, loadT, reduceIte, Nat.reduceEqDiff, Nat.reduceAdd, h12, hH2, i1, i2, eq_false (show ¬ (p ≠ p) from fun q => q rfl), eq_false (show ¬ (m ≠ m) from fun q => q rfl), eq_false (show ¬ ((mod.length : Int) ≠ mod.length) from fun q => q rfl)]
  refine sw_loop (σ := Nat) (fun i e H' => e 5 = .int .i64 i ∧ e 2 = .ptr b1 0 ∧ e 3 = .ptr b2 0 ∧ i ≤ mod.length ∧ H' = H2) (fun i => mod.length - i) 0 ?_ ?_
  · simp (disch := first | assumption | omega) only [↓RP, RQ, TY, loadT, reduceIte, Nat.reduceEqDiff, Nat.reduceAdd]
    omega
  rintro i e H' ⟨e5, e2, e3, hi, rfl⟩
  by_cases hlt : (i : Int) < mod.length
  · simp (disch := first | assumption | omega) only [↓RP, RQ, TY, loadT, reduceIte, Nat.reduceEqDiff, Nat.reduceAdd, e5, e2, e3, hlt, h12, hH2, i1, i2, eq_false (show ¬ (mod.getD i 0 ≠ mod.getD i 0) from fun q => q rfl)]
    refine ⟨i + 1, ?_, by dsimp only; omega⟩
    simp (disch := first | assumption | omega) only [↓RP, RQ, TY, loadT, reduceIte, Nat.reduceEqDiff, Nat.reduceAdd, e5, e2, e3]
    omega
  · simp (disch := first | assumption | omega) only [↓RP, RQ, TY, loadT, reduceIte, Nat.reduceEqDiff, Nat.reduceAdd, e5, e2, e3, hlt, h12, hH2, i1, i2]
    exact hQ H' hE12
theorem c_Same12 {p m n : Int} {md md' v v' : AV} {mod : List Int} {us us' : List AV} {rows : List (List Int)} {H : AH} {Q : AV → AH → Prop} (hm : Ints H md mod) (hm' : Ints H md' mod) (hl : mod.length ≤ 9223372036854775807) (hv : Rows H v us rows) (hv' : Rows H v' us' rows) (hk : rows.length ≤ 9223372036854775807) (hlr : ∀ i, i < rows.length → (rowAt rows i).length ≤ 9223372036854775807)
    (hQ : ∀ H', Ext H H' → Q (.bool true) H') : AC Tryz.prog 20 [codeV p m md n v, codeV p m md' n v'] H Q := by
  refine at20 (by simp) ?_
  simp (disch := first | assumption | omega) only [↓RP, RQ, TY, loadT, s20, reduceIte, Nat.reduceEqDiff, Nat.reduceAdd]
  refine kNew_intro fun b1 H1 hb1 hE1 hH1 => ?_
  simp (disch := first | assumption | omega) only [↓RP, RQ, TY, loadT, reduceIte, Nat.reduceEqDiff, Nat.reduceAdd]
  refine kNew_intro fun b2 H2 hb2 hE2 hH2 => ?_
  have hE12 := hE1.trans hE2
  have h12 := hE2.rw hH1
  simp (disch := first | assumption | omega) only [↓RP, RQ, TY, loadT, reduceIte, Nat.reduceEqDiff, Nat.reduceAdd, h12, hH2]
  refine c_Same04 (hm.ext hE12) (hm'.ext hE12) hl fun H3 hE3 => ?_
  have hE13 := hE12.trans hE3
  simp (disch := first | assumption | omega) only [↓RP, RQ, TY, loadT, reduceIte, Nat.reduceEqDiff, Nat.reduceAdd, hE3.rw h12, hE3.rw hH2, eq_true (show n = n from rfl)]
  refine c_SameRows (hv.ext hE13) (hv'.ext hE13) hk hk hlr hlr ?_
  simp (disch := first | assumption | omega) only [↓RP, RQ, TY, loadT, reduceIte, Nat.reduceEqDiff, Nat.reduceAdd, eq_true (show rows = rows from rfl)]
  exact hQ H3 hE13
theorem fill_fld3 {p m : Int} {v a b c : AV} (hv : v.isSl = true) : aFill (fun i => [(0, 1), (1, 1), (2, 1)][i]?) [a, b, c] [(0, .int .i64 p), (1, .int .i64 m), (2, v)] = some [.int .i64 p, .int .i64 m, v] := by
  cases v <;> first | rfl | (simp [AV.isSl] at hv)
theorem c_Field12 {p m : Int} {md : AV} {mod : List Int} {H : AH} {Q : AV → AH → Prop} (hm : Ints H md mod) (hl : mod.length ≤ 1000)
    (hQ : ∀ md' H', Ext H H' → Ints H' md' mod → md'.isSl = true → Q (.agg [.int .i64 p, .int .i64 m, md']) H') : AC Tryz.prog 112 [.agg [.int .i64 p, .int .i64 m, md]] H Q := by
  refine at112 (by simp) ?_
  simp (disch := first | assumption | omega) only [↓RP, RQ, TY, loadT, s112, reduceIte, Nat.reduceEqDiff, Nat.reduceAdd]
  refine kNew_intro fun b1 H1 hb1 hE1 hH1 => ?_
  simp (disch := first | assumption | omega) only [↓RP, RQ, TY, loadT, reduceIte, Nat.reduceEqDiff, Nat.reduceAdd]
  refine kNew_intro fun b2 H2 hb2 hE2 hH2 => ?_
  have hE12 := hE1.trans hE2
  have f2 := hE1.free hb2
  simp (disch := first | assumption | omega) only [↓RP, RQ, TY, loadT, reduceIte, Nat.reduceEqDiff, Nat.reduceAdd, hE2.rw hH1]
  refine kNew_intro fun b3 H3 hb3 hE3 hH3 => ?_
  have hE13 := hE12.trans hE3
  simp (disch := first | assumption | omega) only [↓RP, RQ, TY, loadT, reduceIte, Nat.reduceEqDiff, Nat.reduceAdd, hE3.rw (hE2.rw hH1)]
  refine kApp_own (H0 := H2) (zs := []) (us := ints mod) (Own.mk hH3 hb3 rfl) hE3 (hm.ext hE13) ints_ones (by simp [ints_length]; omega) (by simp [ints_length]; omega) fun v4 H4 hE4 ho4 keep4 => ?_
  rw [List.nil_append] at ho4
  have h24 := hE4.rw hH2
  have h14 := hE4.rw (hE2.rw hH1)
  have hs4 := ho4.sl.isSl
  have ip : (AV.int .i64 p).one = true := rfl
  have im : (AV.int .i64 m).one = true := rfl
  simp (disch := first | assumption | omega) only [↓RP, RQ, TY, loadT, reduceIte, Nat.reduceEqDiff, Nat.reduceAdd, h14, fill_fld3 hs4, u_st3 h24 ip im (isSl_one hs4), aRes, aResL, aRes1, Option.map_some]
  exact hQ v4 _ ((hE12.trans hE4).upd f2 _) (ho4.sl.updOff ho4.offH (by rw [hH2]; exact fun q => by cases q) _) hs4
theorem c_Make (A : Alg) {p m : Int} {md v : AV} {mod : List Int} {us : List AV} {rows : List (List Int)} {n : Nat} {H : AH} {Q : AV → AH → Prop} (hf : FA H p m md mod) (hlm : mod.length ≤ 1000) (hv : Rows H v us rows) (hr : Rect n rows) (he : Els (fF p m mod) rows) (hn : n ≤ 1000) (hk : rows.length ≤ 1000)
    (hQ : ∀ md' lv us' H', Ext H H' → Ints H' md' mod → Rows H' lv us' (canon (fF p m mod) rows n).1 → Q (codeV p m md' n lv) H') :
    AC Tryz.prog 65 [.agg [.int .i64 p, .int .i64 m, md], v, .int .i64 n] H Q := by
  refine at65 (by simp) ?_
  simp (disch := first | assumption | omega) only [↓RP, RQ, TY, loadT, s65, reduceIte, Nat.reduceEqDiff, Nat.reduceAdd]
  refine kNew_intro fun b1 H1 hb1 hE1 hH1 => ?_
  simp (disch := first | assumption | omega) only [↓RP, RQ, TY, loadT, reduceIte, Nat.reduceEqDiff, Nat.reduceAdd]
  refine kNew_intro fun b2 H2 hb2 hE2 hH2 => ?_
  have hE12 := hE1.trans hE2
  have f2 := hE1.free hb2
  have n12 : b1 ≠ b2 := fun q => by rw [← q, hH1] at hb2; cases hb2
  simp (disch := first | assumption | omega) only [↓RP, RQ, TY, loadT, reduceIte, Nat.reduceEqDiff, Nat.reduceAdd, hE2.rw hH1]
  refine AC.frame hH2 ?_
  have hEd := hE12.upd f2 .dead
  refine c_Canon (hf.ext hEd) (hv.ext hEd) hr he hn hk (Nat.le_refl _) fun lv pv us' H3 hE3 hr3 hp3 => ?_
  have d3 := hE3.back
  have hE3u := hE3.undead
  rw [hH2] at hE3u
  have h13 := hE3u.rw (hE2.rw hH1)
  have h23 : (H3.upd b2 (.rw [.int .i64 0, .int .i64 0, .nils, .int .i64 0, .nils])) b2 = .rw [.int .i64 0, .int .i64 0, .nils, .int .i64 0, .nils] := updEq
  generalize hG : H3.upd b2 (.rw [.int .i64 0, .int .i64 0, .nils, .int .i64 0, .nils]) = G at *
  have hE0G := hE12.trans hE3u
  simp (disch := first | assumption | omega) only [↓RP, RQ, TY, loadT, reduceIte, Nat.reduceEqDiff, Nat.reduceAdd, h13]
  refine AC.frame h23 ?_
  have hEd2 := hE0G.upd f2 .dead
  refine c_Field12 (hf.hm.ext hEd2) hlm fun md' H4 hE4 hm4 hs4 => ?_
  have d4 := hE4.back
  have hE34 : Ext H3 H4 := (Ext.redead (H' := G) (b := b2) (s := .rw [.int .i64 0, .int .i64 0, .nils, .int .i64 0, .nils]) (hG ▸ Ext.refl _) d3).trans hE4
  have hE4u := hE4.undead
  rw [h23] at hE4u
  have h24 : (H4.upd b2 (.rw [.int .i64 0, .int .i64 0, .nils, .int .i64 0, .nils])) b2 = .rw [.int .i64 0, .int .i64 0, .nils, .int .i64 0, .nils] := updEq
  generalize hG4 : H4.upd b2 (.rw [.int .i64 0, .int .i64 0, .nils, .int .i64 0, .nils]) = G4 at *
  have ip : (AV.int .i64 p).one = true := rfl
  have im : (AV.int .i64 m).one = true := rfl
  have i0 : (AV.int .i64 n).one = true := rfl
  have hls := hr3.sl.isSl
  simp (disch := first | assumption | omega) only [↓RP, RQ, TY, loadT, reduceIte, Nat.reduceEqDiff, Nat.reduceAdd, fill_code hs4 hls, u_st5 h24 ip im (isSl_one hs4) i0 (isSl_one hls), aRes, aResL, aRes1, Option.map_some]
  refine hQ md' lv us' _ ((hE0G.trans hE4u).upd f2 _) ?_ ?_
  · have := hm4.dead d4 (.rw [.int .i64 p, .int .i64 m, md', .int .i64 n, lv])
    rwa [← hG4, show (H4.upd b2 (.rw [.int .i64 0, .int .i64 0, .nils, .int .i64 0, .nils])).upd b2 (.rw [.int .i64 p, .int .i64 m, md', .int .i64 n, lv]) = H4.upd b2 (.rw [.int .i64 p, .int .i64 m, md', .int .i64 n, lv]) from upd2 _ _ _ _]
  · have := (hr3.ext hE34).dead d4 (.rw [.int .i64 p, .int .i64 m, md', .int .i64 n, lv])
    rwa [← hG4, show (H4.upd b2 (.rw [.int .i64 0, .int .i64 0, .nils, .int .i64 0, .nils])).upd b2 (.rw [.int .i64 p, .int .i64 m, md', .int .i64 n, lv]) = H4.upd b2 (.rw [.int .i64 p, .int .i64 m, md', .int .i64 n, lv]) from upd2 _ _ _ _]
open Classical in
theorem c_List12 {p m n : Int} {md w : AV} {mod xs : List Int} {H : AH} {Q : AV → AH → Prop} (hw : Ints H w xs) (hl : xs.length ≤ 9223372036854775807)
    (hQ : ∀ H', Ext H H' → Q (.int .i64 (listErr p m xs n)) H') : AC Tryz.prog 53 [.agg [.int .i64 p, .int .i64 m, md], w, .int .i64 n] H Q := by
  refine at53 (by simp) ?_
  simp (disch := first | assumption | omega) only [↓RP, RQ, TY, loadT, s53, reduceIte, Nat.reduceEqDiff, Nat.reduceAdd]
  refine kNew_intro fun b1 H1 hb1 hE1 hH1 => ?_
  have hw1 := (hw.ext hE1).ints
  by_cases hlen : (xs.length : Int) = n
  rotate_left
  · simp (disch := first | assumption | omega) only [↓RP, RQ, TY, loadT, reduceIte, Nat.reduceEqDiff, Nat.reduceAdd, hw1, eq_true (show (xs.length : Int) ≠ n from hlen)]
    have := hQ H1 hE1
    rwa [listErr, if_pos hlen] at this
  simp (disch := first | assumption | omega) only [↓RP, RQ, TY, loadT, reduceIte, Nat.reduceEqDiff, Nat.reduceAdd, hw1, eq_false (show ¬ ((xs.length : Int) ≠ n) from fun q => q hlen), hH1]
  refine c_Entries (hw.ext hE1) hl fun H2 hE2 => ?_
  simp (disch := first | assumption | omega) only [↓RP, RQ, TY, loadT, reduceIte, Nat.reduceEqDiff, Nat.reduceAdd]
  have := hQ H2 (hE1.trans hE2)
  rwa [listErr, if_neg (by simpa using hlen)] at this
end Go.Proofs.YtbkpebmcagdgmaaGreat.AM
/-! The program's spaces, second part: views, reduction, Has; code.word, code.Has. -/
namespace Go.Proofs.YtbkpebmcagdgmaaGreat.AM
open Go Go.RowKit
set_option linter.unusedVariables false
set_option linter.unusedSimpArgs false
set_option maxRecDepth 20000
theorem spc_ok {p m cols : Int} {mod : List Int} {rows : List (List Int)} (h0 : spcErr p m mod cols rows = 0) : matErr p m mod cols rows = 0 ∧ (canon (fF p m mod) rows cols.toNat).1 = rows := by
  rw [spcErr] at h0
  split at h0
  · contradiction
  · rename_i q
    split at h0
    · rename_i w; exact ⟨by simpa using q, w⟩
    · cases h0
theorem c_sopen2 (A : Alg) {p m cols : Int} {md v : AV} {mod : List Int} {us : List AV} {rows : List (List Int)} {H : AH} {Q : AV → AH → Prop} (hm : Ints H md mod) (hlm : mod.length ≤ 9223372036854775807) (hv : Rows H v us rows) (hl : rows.length ≤ 9223372036854775807) (hlr : ∀ i, i < rows.length → (rowAt rows i).length ≤ 9223372036854775807) (h0 : spcErr p m mod cols rows = 0)
    (hQ : ∀ bg pv H', Ext H H' → GFA H' bg p m mod → Ints H' pv (natsI (canon (fF p m mod) rows cols.toNat).2) → Q (.tup [.agg [.ptr bg 0, .int .i64 cols, v, pv], .int .i64 0]) H') :
    AC Tryz.prog 114 [.agg [.int .i64 p, .int .i64 m, md], .agg [.int .i64 cols, v]] H Q := by
  obtain ⟨he, hcan⟩ := spc_ok h0
  obtain ⟨o1, o2, o3, o4, o5, o6⟩ := mat_ok he
  have hsl := isSl_one hv.sl.isSl
  refine at114 (by simp) ?_
  simp (disch := first | assumption | omega) only [↓RP, RQ, TY, loadT, s114, reduceIte, Nat.reduceEqDiff, Nat.reduceAdd]
  refine kNew_intro fun b1 H1 hb1 hE1 hH1 => ?_
  simp (disch := first | assumption | omega) only [↓RP, RQ, TY, loadT, reduceIte, Nat.reduceEqDiff, Nat.reduceAdd]
  refine kNew_intro fun b2 H2 hb2 hE2 hH2 => ?_
  simp (disch := first | assumption | omega) only [↓RP, RQ, TY, loadT, reduceIte, Nat.reduceEqDiff, Nat.reduceAdd]
  refine kNew_intro fun b3 H3 hb3 hE3 hH3 => ?_
  have h13 := hE3.rw (hE2.rw hH1)
  have h23 := hE3.rw hH2
  have hE03 := (hE1.trans hE2).trans hE3
  have f3 := (hE1.trans hE2).free hb3
  have n13 : b1 ≠ b3 := fun q => by rw [← q, hE2.rw hH1] at hb3; cases hb3
  have n23 : b2 ≠ b3 := fun q => by rw [← q, hH2] at hb3; cases hb3
  have hE3d := hE03.upd f3 .dead
  simp (disch := first | assumption | omega) only [↓RP, RQ, TY, loadT, reduceIte, Nat.reduceEqDiff, Nat.reduceAdd, h13, h23]
  refine AC.frame hH3 ?_
  refine c_Canonical A (hm.ext hE3d) hlm (hv.ext hE3d) hl hlr (fun lv pv us' H4 hE4 _ hr4 hp4 => ?_) (fun H4 hE4 q => absurd he q)
  have d4 := hE4.back
  have hE4u := hE4.undead
  rw [hH3] at hE4u
  have hr4u := hr4.dead d4 (.rw [.nilp, .int .i64 0, .nils, .nils])
  have h14 := hE4u.rw h13
  have h24 := hE4u.rw h23
  have h34 : (H4.upd b3 (.rw [.nilp, .int .i64 0, .nils, .nils])) b3 = .rw [.nilp, .int .i64 0, .nils, .nils] := updEq
  have i1 : (AV.int .i64 cols).one = true := rfl
  have i2 := isSl_one hr4.sl.isSl
  have i3 := isSl_one hp4.isSl
  obtain ⟨k1, k2⟩ := canon_ok (F := fF p m mod) (cols := cols.toNat) o5
  generalize hG : H4.upd b3 (.rw [.nilp, .int .i64 0, .nils, .nils]) = G at *
  have hE0G := hE03.trans hE4u
  simp (disch := first | assumption | omega) only [↓RP, RQ, TY, loadT, reduceIte, Nat.reduceEqDiff, Nat.reduceAdd]
  refine kNew_intro fun b5 H5 hb5 hE5 hH5 => ?_
  have hE6 := hE5.upd hb5 (.rw [.int .i64 cols, lv])
  have h56 : (H5.upd b5 (.rw [.int .i64 cols, lv])) b5 = .rw [.int .i64 cols, lv] := updEq
  simp (disch := first | assumption | omega) only [↓RP, RQ, TY, loadT, reduceIte, Nat.reduceEqDiff, Nat.reduceAdd, u_st2 hH5 i1 i2, Int.reduceEq, Int.reduceNe, h56, hE6.rw h24]
  generalize H5.upd b5 (.rw [.int .i64 cols, lv]) = H6 at *
  have h36 := hE6.rw h34
  have h26 := hE6.rw h24
  have h16 := hE6.rw h14
  have hE06 := hE0G.trans hE6
  refine c_EqualFunc (hr4u.ext hE6) (hv.ext hE06) (by omega) (by omega) (fun i hi => by rw [k2 i hi]; omega) (fun i hi => by rw [o5 i hi]; omega) ?_
  simp (disch := first | assumption | omega) only [↓RP, RQ, TY, loadT, reduceIte, Nat.reduceEqDiff, Nat.reduceAdd, eq_true hcan, h16]
  refine AC.frame h36 ?_
  have hE6d := hE06.upd f3 .dead
  have hE46 : Ext H4 (H6.upd b3 .dead) := Ext.redead (s := .rw [.nilp, .int .i64 0, .nils, .nils]) (hG ▸ hE6) d4
  refine c_New A.gi (hm.ext hE6d) hlm (fun bg H7 hE7 hF hg => ?_) (fun H7 hE7 hF => absurd o1 hF)
  have d7 := hE7.back
  have hE7u := hE7.undead
  rw [h36] at hE7u
  have h37 : (H7.upd b3 (.rw [.nilp, .int .i64 0, .nils, .nils])) b3 = .rw [.nilp, .int .i64 0, .nils, .nils] := updEq
  have h27 := hE7u.rw h26
  have i4 : (AV.ptr bg 0).one = true := rfl
  have hp7 := hp4.ext (hE46.trans hE7)
  generalize hG7 : H7.upd b3 (.rw [.nilp, .int .i64 0, .nils, .nils]) = G7 at *
  simp (disch := first | assumption | omega) only [↓RP, RQ, TY, loadT, reduceIte, Nat.reduceEqDiff, Nat.reduceAdd, h27, fill_view hp4.isSl i4, u_st4 h37 i4 i1 hsl i3, aRes, aResL, aRes1, Option.map_some]
  refine hQ bg pv _ ((hE06.trans hE7u).upd f3 _) ?_ ?_
  · have := hg.dead d7 (.rw [.ptr bg 0, .int .i64 cols, v, pv])
    rwa [← hG7, show (H7.upd b3 (.rw [.nilp, .int .i64 0, .nils, .nils])).upd b3 (.rw [.ptr bg 0, .int .i64 cols, v, pv]) = H7.upd b3 (.rw [.ptr bg 0, .int .i64 cols, v, pv]) from upd2 _ _ _ _]
  · have := hp7.dead d7 (.rw [.ptr bg 0, .int .i64 cols, v, pv])
    rwa [← hG7, show (H7.upd b3 (.rw [.nilp, .int .i64 0, .nils, .nils])).upd b3 (.rw [.ptr bg 0, .int .i64 cols, v, pv]) = H7.upd b3 (.rw [.ptr bg 0, .int .i64 cols, v, pv]) from upd2 _ _ _ _]
theorem c_vword1 {bg bc : Nat} {p m x : Int} {cols : Int} {lv pv : AV} {mod : List Int} {H : AH} {Q : AV → AH → Prop} (hg : GFA H bg p m mod) (hc : H bc = .rw [.ptr bg 0, .int .i64 cols, lv, pv]) (hQ : Q (.bool (!decide (0 ≤ x ∧ x < ordr p m))) H) : AC Tryz.prog 154 [.int .i64 x, .ptr bc 0] H Q := by
  refine at154 (by simp) ?_
  simp (disch := first | assumption | omega) only [↓RP, RQ, TY, loadT, s154, reduceIte, Nat.reduceEqDiff, Nat.reduceAdd, hc]
  refine c_GIs hg ?_
  simp (disch := first | assumption | omega) only [↓RP, RQ, TY, loadT, reduceIte, Nat.reduceEqDiff, Nat.reduceAdd]
  exact hQ
theorem c_vword {bg : Nat} {p m cols : Int} {lv pv w : AV} {mod xs : List Int} {H : AH} {Q : AV → AH → Prop} (hg : GFA H bg p m mod) (hlv : lv.isSl = true) (hpv : pv.isSl = true) (hw : Ints H w xs) (hl : (xs.length : Int) = cols) (hl' : xs.length ≤ 1000) (hA : AllEl p m xs)
    (hQ : ∀ H', Ext H H' → Q (.int .i64 0) H') : AC Tryz.prog 115 [.agg [.ptr bg 0, .int .i64 cols, lv, pv], w] H Q := by
  refine at115 (by simp) ?_
  simp (disch := first | assumption | omega) only [↓RP, RQ, TY, loadT, s115, reduceIte, Nat.reduceEqDiff, Nat.reduceAdd]
  refine kNew_intro fun b1 H1 hb1 hE1 hH1 => ?_
  have hw1 := (hw.ext hE1).ints
  simp (disch := first | assumption | omega) only [↓RP, RQ, TY, loadT, reduceIte, Nat.reduceEqDiff, Nat.reduceAdd, hw1, hH1, eq_false (show ¬ ((xs.length : Int) ≠ cols) from fun q => q hl)]
  refine c_ContainsFunc (pr := fun x => !decide (0 ≤ x ∧ x < ordr p m)) (hw.ext hE1) (by omega) (fun i hi Q' hq => c_vword1 (hg.ext hE1) hH1 hq) ?_
  rw [any_el]
  simp (disch := first | assumption | omega) only [↓RP, RQ, TY, loadT, reduceIte, Nat.reduceEqDiff, Nat.reduceAdd, hA]
  exact hQ H1 hE1
set_option maxHeartbeats 2000000 in
theorem c_reduce (A : Alg) {bg : Nat} {p m cols : Int} {lv pv w : AV} {mod xs : List Int} {us : List AV} {l : List (List Int)} {piv : List Nat} {n : Nat} {H : AH} {Q : AV → AH → Prop} (hg : GFA H bg p m mod) (hF : FieldOk p m mod) (hv : Rows H lv us l) (hpv : Ints H pv (natsI piv)) (hw : Ints H w xs) (hn : n ≤ 1000) (hb : BOk (fF p m mod) n l piv) (hx : xs.length = n ∧ ∀ j, (fF p m mod).El (xs.getD j 0)) (hk : l.length ≤ 1000)
    (hQ : ∀ r t H', Ext H H' → Ints H' r (redB (fF p m mod) l piv xs) → Q (.tup [r, t]) H') : AC Tryz.prog 155 [.agg [.ptr bg 0, .int .i64 cols, lv, pv], w] H Q := by
  have ok := A.fo _ _ _ hF
  have hpl := hb.pl
  refine at155 (by simp) ?_
  simp (disch := first | assumption | omega) only [↓RP, RQ, TY, loadT, s155, reduceIte, Nat.reduceEqDiff, Nat.reduceAdd]
  refine kNew_intro fun b1 H1 hb1 hE1 hH1 => ?_
  simp (disch := first | assumption | omega) only [↓RP, RQ, TY, loadT, reduceIte, Nat.reduceEqDiff, Nat.reduceAdd]
  refine c_Clone (hw.ext hE1) (by omega) fun r H2 hE2 ho2 => ?_
  have hp2 := ((Hp.nil (Ext.refl H)).new hb1 hE1 hH1 rfl).made (H1 := H) hE2 (ho2)
  have hpi := (hpv.ext hp2.ext).ints
  rw [natsI_length] at hpi
  simp (disch := first | assumption | omega) only [↓RP, RQ, TY, loadT, reduceIte, Nat.reduceEqDiff, Nat.reduceAdd, hE2.rw hH1, hpi]
  refine sw_loop (σ := Nat × AV × List Int) (fun s e H' => e 16 = .int .i64 s.1 ∧ e 15 = .int .i64 piv.length ∧ e 14 = pv ∧ e 4 = r ∧ e 5 = s.2.1 ∧ e 2 = .ptr b1 0 ∧ s.1 ≤ piv.length ∧ s.2.2.length = s.1 ∧ Hp H H' [(s.2.1, ints s.2.2), (r, ints (uptoN (redStep (fF p m mod) l piv) s.1 xs)), (.sl b1 0 4 (.own 1), [.ptr bg 0, .int .i64 cols, lv, pv])]) (fun s => piv.length - s.1) (0, .nils, []) ?_ ?_
  · simp (disch := first | assumption | omega) only [↓RP, RQ, TY, loadT, reduceIte, Nat.reduceEqDiff, Nat.reduceAdd]
    exact ⟨by omega, rfl, hp2.nils⟩
  clear hp2 hpi
  rintro ⟨i, tk, ts⟩ e H3 ⟨e16, e15, e14, e4, e5, e2, hi, hts, hp⟩
  dsimp only at *
  have h13 := (hp.blkOf (y := (.sl b1 0 4 (.own 1), [.ptr bg 0, .int .i64 cols, lv, pv])) (by simp) rfl).1
  by_cases hlt : (i : Int) < piv.length
  rotate_left
  · rw [show i = l.length by omega] at hp
    simp (disch := first | assumption | omega) only [↓RP, RQ, TY, loadT, reduceIte, Nat.reduceEqDiff, Nat.reduceAdd, e16, e15, e14, e4, e5, e2, hlt]
    exact hQ r tk H3 hp.ext (hp.sl (y := (r, ints (uptoN (redStep (fF p m mod) l piv) l.length xs))) (by simp))
  obtain ⟨u1, u2⟩ := red_ok (places := piv) ok hb.els hx i
  have hstep : uptoN (redStep (fF p m mod) l piv) (i + 1) xs = redStep (fF p m mod) l piv i (uptoN (redStep (fF p m mod) l piv) i xs) := rfl
  generalize hU : uptoN (redStep (fF p m mod) l piv) i xs = U at *
  have hpi := (hpv.ext hp.ext).ints
  rw [natsI_length] at hpi
  have hrs := hp.sl (y := (r, ints U)) (by simp)
  have hri := Sl.ints hrs
  dsimp only at hri
  have plt := hb.lt i (by omega)
  have ipv : (natsI piv).getD i 0 = (piv.getD i 0 : Nat) := natsI_gd
  rw [u1] at hri
  simp (disch := first | assumption | omega) only [↓RP, RQ, TY, loadT, reduceIte, Nat.reduceEqDiff, Nat.reduceAdd, e16, e15, e14, e4, e5, e2, hlt, hpi, ipv, hri]
  refine kNew_intro fun b4 H4 hb4 hE4 hH4 => ?_
  simp (disch := first | assumption | omega) only [↓RP, RQ, TY, loadT, reduceIte, Nat.reduceEqDiff, Nat.reduceAdd, e16, e15, e14, e4, e5, e2]
  refine kApp_hp (us := ints [U.getD (piv.getD i 0) 0]) (hp.more hE4) (Sl.own hH4 rfl) ints_ones (by rw [ints_length, ints_length, List.length_singleton]; omega) (by rw [ints_length, ints_length, List.length_singleton]; omega) fun tk5 H5 hp5 => ?_
  rw [ints_app] at hp5
  have h15 := (hp5.blkOf (y := (.sl b1 0 4 (.own 1), [.ptr bg 0, .int .i64 cols, lv, pv])) (by simp) rfl).1
  by_cases hz : U.getD (piv.getD i 0) 0 = 0
  · simp (disch := first | assumption | omega) only [↓RP, RQ, TY, loadT, reduceIte, Nat.reduceEqDiff, Nat.reduceAdd, e16, e15, e14, e4, e5, e2, hz]
    refine ⟨(i + 1, tk5, ts ++ [U.getD (piv.getD i 0) 0]), ?_, by dsimp only; omega⟩
    simp (disch := first | assumption | omega) only [↓RP, RQ, TY, loadT, reduceIte, Nat.reduceEqDiff, Nat.reduceAdd, e16, e15, e14, e4, e5, e2]
    refine ⟨by omega, by simp [hts], ?_⟩
    rw [hstep, redStep, if_neg (by simpa using hz)]
    exact hp5
  have hr5 := hv.ext hp5.ext
  have hrow := (hr5.row i (by omega)).ints
  rw [hb.rect i (by omega)] at hrow
  have hil : i < l.length := by omega
  simp (disch := first | assumption | omega) only [↓RP, RQ, TY, loadT, reduceIte, Nat.reduceEqDiff, Nat.reduceAdd, e16, e15, e14, e4, e5, e2, hz, h15, hr5.run, hrow]
  refine sw_loop (σ := Nat × List Int) (fun s e H' => e 38 = .int .i64 s.1 ∧ e 37 = .int .i64 n ∧ e 36 = us.getD i .junk ∧ e 8 = .int .i64 (U.getD (piv.getD i 0) 0) ∧ e 16 = .int .i64 i ∧ e 15 = .int .i64 piv.length ∧ e 14 = pv ∧ e 4 = r ∧ e 5 = tk5 ∧ e 2 = .ptr b1 0 ∧ s.1 ≤ n ∧ s.2.length = n ∧ (∀ j, j < n → s.2.getD j 0 = if j < s.1 then (fF p m mod).add (U.getD j 0) ((fF p m mod).neg ((fF p m mod).mul (U.getD (piv.getD i 0) 0) ((rowAt l i).getD j 0))) else U.getD j 0) ∧
    Hp H H' [(r, ints s.2), (tk5, ints (ts ++ [U.getD (piv.getD i 0) 0])), (.sl b1 0 4 (.own 1), [.ptr bg 0, .int .i64 cols, lv, pv])]) (fun s => n - s.1) (0, U) ?_ ?_
  · simp (disch := first | assumption | omega) only [↓RP, RQ, TY, loadT, reduceIte, Nat.reduceEqDiff, Nat.reduceAdd, e16, e15, e14, e4, e5, e2]
    exact ⟨by omega, u1, fun j hj => by simp, hp5.perm (swap2 _ _ _)⟩
  clear hp5 h15 hr5 hrow
  rintro ⟨t, X⟩ e' H6 ⟨g38, g37, g36, g8, g16, g15, g14, g4, g5, g2, ht, hX, hXs, hp6⟩
  dsimp only at *
  have h16 := (hp6.blkOf (y := (.sl b1 0 4 (.own 1), [.ptr bg 0, .int .i64 cols, lv, pv])) (by simp) rfl).1
  by_cases htl : (t : Int) < n
  · have hrow := ((hv.ext hp6.ext).row i (by omega)).ints
    rw [hb.rect i (by omega)] at hrow
    have hgx := hXs t (by omega)
    rw [if_neg (Nat.lt_irrefl _)] at hgx
    have hne : ints X ≠ [] := fun q => by have := congrArg List.length q; rw [ints_length, hX, List.length_nil] at this; omega
    obtain ⟨br, hbr, hHr, -⟩ := hp6.head.block hne
    rw [ints_length, hX] at hbr
    have hil2 := ints_length X
    have el1 := u2 (piv.getD i 0)
    have el2 : (fF p m mod).El ((rowAt l i).getD t 0) := hb.els i t
    have el3 := u2 t
    have hg6 := hg.ext hp6.ext
    have em := ok.mul_el el1 el2
    have en := ok.neg_el em
    rw [hbr] at g4
    have htn : t < n := by omega
    simp (disch := first | assumption | omega) only [↓RP, RQ, TY, loadT, reduceIte, Nat.reduceEqDiff, Nat.reduceAdd, g38, g37, g36, g8, g16, g15, g14, g4, g5, g2, htl, hrow, h16, hHr, ints_get, hgx]
    refine c_GMul A hg6 el1.1 el1.2 el2.1 el2.2 ?_
    simp (disch := first | assumption | omega) only [↓RP, RQ, TY, loadT, reduceIte, Nat.reduceEqDiff, Nat.reduceAdd, g38, g37, g36, g8, g16, g15, g14, g4, g5, g2, htl, hrow, h16, hHr, ints_get, hgx]
    refine c_GSub hg6 el3.1 el3.2 em.1 em.2 en ?_
    simp (disch := first | assumption | omega) only [↓RP, RQ, TY, loadT, reduceIte, Nat.reduceEqDiff, Nat.reduceAdd, g38, g37, g36, g8, g16, g15, g14, g4, g5, g2, hHr, ints_get, hgx, ints_set]
    refine ⟨(t + 1, X.set t (fadd p m (U.getD t 0) (fneg p m (fmul p m mod (U.getD (piv.getD i 0) 0) ((rowAt l i).getD t 0))))), ?_, by dsimp only; omega⟩
    simp (disch := first | assumption | omega) only [↓RP, RQ, TY, loadT, reduceIte, Nat.reduceEqDiff, Nat.reduceAdd, g38, g37, g36, g8, g16, g15, g14, g4, g5, g2]
    rw [hbr] at hp6 ⊢
    refine ⟨rfl, by omega, by simpa using hX, fun j hj => ?_, hp6.upd (by simp [ints_length])⟩
    rw [getD_setN]
    by_cases q : j = t
    · rw [if_pos ⟨q, by omega⟩, if_pos (by omega), q]; rfl
    · rw [if_neg (fun z => q z.1), hXs j hj]
      by_cases z : j < t
      · rw [if_pos z, if_pos (by omega)]
      · rw [if_neg z, if_neg (by omega)]
  · have hXe : X = subRow (fF p m mod) U (U.getD (piv.getD i 0) 0) (rowAt l i) := by
      rw [subRow]
      refine lst_tab (by omega) fun j hj => ?_
      rw [hXs j (by omega), if_pos (by omega)]
    simp (disch := first | assumption | omega) only [↓RP, RQ, TY, loadT, reduceIte, Nat.reduceEqDiff, Nat.reduceAdd, g38, g37, g36, g8, g16, g15, g14, g4, g5, g2, htl]
    refine ⟨(i + 1, tk5, ts ++ [U.getD (piv.getD i 0) 0]), ?_, by dsimp only; omega⟩
    simp (disch := first | assumption | omega) only [↓RP, RQ, TY, loadT, reduceIte, Nat.reduceEqDiff, Nat.reduceAdd, g38, g37, g36, g8, g16, g15, g14, g4, g5, g2]
    refine ⟨by omega, by simp [hts], ?_⟩
    rw [hstep, redStep, if_pos hz, ← hXe]
    exact hp6.perm (swap2 _ _ _)
end Go.Proofs.YtbkpebmcagdgmaaGreat.AM
/-! The program's spaces, third part: zero, has, Has; code.word, code.Has. -/
namespace Go.Proofs.YtbkpebmcagdgmaaGreat.AM
open Go Go.RowKit
set_option linter.unusedVariables false
set_option linter.unusedSimpArgs false
set_option maxRecDepth 20000
theorem c_zero1 {x : Int} {H : AH} {Q : AV → AH → Prop} (hQ : Q (.bool (decide (x ≠ 0))) H) : AC Tryz.prog 193 [.int .i64 x] H Q := by
  refine at193 (by simp) ?_
  simp (disch := first | assumption | omega) only [↓RP, RQ, TY, loadT, s193, reduceIte, Nat.reduceEqDiff, Nat.reduceAdd]
  exact hQ
/-- are all entries 0? -/
def zeroB (xs : List Int) : Bool := !xs.any fun x => decide (x ≠ 0)
theorem c_zero {v : AV} {xs : List Int} {H : AH} {Q : AV → AH → Prop} (hv : Ints H v xs) (hl : xs.length ≤ 1000) (hQ : Q (.bool (zeroB xs)) H) : AC Tryz.prog 156 [v] H Q := by
  refine at156 (by simp) ?_
  simp (disch := first | assumption | omega) only [↓RP, RQ, TY, loadT, s156, reduceIte, Nat.reduceEqDiff, Nat.reduceAdd]
  refine c_ContainsFunc (pr := fun x => decide (x ≠ 0)) hv (by omega) (fun i hi Q' hq => c_zero1 hq) ?_
  simp (disch := first | assumption | omega) only [↓RP, RQ, TY, loadT, reduceIte, Nat.reduceEqDiff, Nat.reduceAdd]
  exact hQ
theorem c_vhas (A : Alg) {bg : Nat} {p m cols : Int} {lv pv w : AV} {mod xs : List Int} {us : List AV} {l : List (List Int)} {piv : List Nat} {n : Nat} {H : AH} {Q : AV → AH → Prop} (hg : GFA H bg p m mod) (hF : FieldOk p m mod) (hv : Rows H lv us l) (hpv : Ints H pv (natsI piv)) (hw : Ints H w xs) (hn : n ≤ 1000) (hb : BOk (fF p m mod) n l piv) (hx : xs.length = n ∧ ∀ j, (fF p m mod).El (xs.getD j 0)) (hk : l.length ≤ 1000)
    (hQ : ∀ H', Ext H H' → Q (.bool (zeroB (redB (fF p m mod) l piv xs))) H') : AC Tryz.prog 116 [.agg [.ptr bg 0, .int .i64 cols, lv, pv], w] H Q := by
  have hrl := (red_len (places := piv) (A.fo _ _ _ hF) hb.els hx).1
  refine at116 (by simp) ?_
  simp (disch := first | assumption | omega) only [↓RP, RQ, TY, loadT, s116, reduceIte, Nat.reduceEqDiff, Nat.reduceAdd]
  refine kNew_intro fun b1 H1 hb1 hE1 hH1 => ?_
  simp (disch := first | assumption | omega) only [↓RP, RQ, TY, loadT, reduceIte, Nat.reduceEqDiff, Nat.reduceAdd, hH1]
  refine c_reduce A (hg.ext hE1) hF (hv.ext hE1) (hpv.ext hE1) (hw.ext hE1) hn hb hx hk fun r t H2 hE2 hr2 => ?_
  simp (disch := first | assumption | omega) only [↓RP, RQ, TY, loadT, reduceIte, Nat.reduceEqDiff, Nat.reduceAdd]
  refine c_zero hr2 (by omega) ?_
  simp (disch := first | assumption | omega) only [↓RP, RQ, TY, loadT, reduceIte, Nat.reduceEqDiff, Nat.reduceAdd]
  exact hQ H2 (hE1.trans hE2)
theorem c_sHas (A : Alg) {p m cols : Int} {md v w : AV} {mod xs : List Int} {us : List AV} {rows : List (List Int)} {H : AH} {Q : AV → AH → Prop} (hm : Ints H md mod) (hlm : mod.length ≤ 9223372036854775807) (hv : Rows H v us rows) (hl : rows.length ≤ 9223372036854775807) (hlr : ∀ i, i < rows.length → (rowAt rows i).length ≤ 9223372036854775807) (h0 : spcErr p m mod cols rows = 0)
    (hw : Ints H w xs) (hxl : (xs.length : Int) = cols) (hA : AllEl p m xs)
    (hQ : ∀ H', Ext H H' → Q (.tup [.bool (zeroB (redB (fF p m mod) rows (canon (fF p m mod) rows cols.toNat).2 xs)), .int .i64 0]) H') : AC Tryz.prog 69 [.agg [.int .i64 p, .int .i64 m, md], .agg [.int .i64 cols, v], w] H Q := by
  obtain ⟨he, hcan⟩ := spc_ok h0
  obtain ⟨o1, o2, o3, o4, o5, o6⟩ := mat_ok he
  have ok := A.fo _ _ _ o1
  have hR := canon_red ok o5 o6
  rw [hcan] at hR
  have hb := hR.bok o6
  have hx : xs.length = cols.toNat ∧ ∀ j, (fF p m mod).El (xs.getD j 0) := ⟨by omega, fun j => by
    by_cases hj : j < xs.length
    · exact hA j hj
    · rw [getD_len _ (by omega)]; exact ok.el0⟩
  refine at69 (by simp) ?_
  simp (disch := first | assumption | omega) only [↓RP, RQ, TY, loadT, s69, reduceIte, Nat.reduceEqDiff, Nat.reduceAdd]
  refine kNew_intro fun b1 H1 hb1 hE1 hH1 => ?_
  simp (disch := first | assumption | omega) only [↓RP, RQ, TY, loadT, reduceIte, Nat.reduceEqDiff, Nat.reduceAdd]
  refine kNew_intro fun b2 H2 hb2 hE2 hH2 => ?_
  have hE12 := hE1.trans hE2
  simp (disch := first | assumption | omega) only [↓RP, RQ, TY, loadT, reduceIte, Nat.reduceEqDiff, Nat.reduceAdd, hE2.rw hH1, hH2]
  refine c_sopen2 A (hm.ext hE12) hlm (hv.ext hE12) hl hlr h0 fun bg pv H3 hE3 hg hp3 => ?_
  have hE13 := hE12.trans hE3
  have i0 : (AV.ptr bg 0).one = true := rfl
  have i1 : (AV.int .i64 cols).one = true := rfl
  have i2 := isSl_one hv.sl.isSl
  have i3 := isSl_one hp3.isSl
  simp (disch := first | assumption | omega) only [↓RP, RQ, TY, loadT, reduceIte, Nat.reduceEqDiff, Nat.reduceAdd]
  refine kNew_intro fun b4 H4 hb4 hE4 hH4 => ?_
  have hE4u := hE4.upd hb4 (.rw [.ptr bg 0, .int .i64 cols, v, pv])
  have h44 : (H4.upd b4 (.rw [.ptr bg 0, .int .i64 cols, v, pv])) b4 = .rw [.ptr bg 0, .int .i64 cols, v, pv] := updEq
  simp (disch := first | assumption | omega) only [↓RP, RQ, TY, loadT, reduceIte, Nat.reduceEqDiff, Nat.reduceAdd, u_st4 hH4 i0 i1 i2 i3, Int.reduceEq, h44]
  generalize H4.upd b4 (.rw [.ptr bg 0, .int .i64 cols, v, pv]) = H5 at *
  have hE15 := hE13.trans hE4u
  refine c_vword (hg.ext hE4u) hv.sl.isSl hp3.isSl (hw.ext hE15) hxl (by omega) hA fun H6 hE6 => ?_
  have hE16 := hE15.trans hE6
  simp (disch := first | assumption | omega) only [↓RP, RQ, TY, loadT, reduceIte, Nat.reduceEqDiff, Nat.reduceAdd, Int.reduceEq, hE6.rw h44]
  refine c_vhas A (hg.ext (hE4u.trans hE6)) o1 (hv.ext hE16) (hp3.ext (hE4u.trans hE6)) (hw.ext hE16) (n := cols.toNat) (by omega) hb hx (by omega) fun H7 hE7 => ?_
  simp (disch := first | assumption | omega) only [↓RP, RQ, TY, loadT, reduceIte, Nat.reduceEqDiff, Nat.reduceAdd]
  exact hQ H7 (hE16.trans hE7)
theorem c_cword (A : Alg) {p m n : Int} {md v w : AV} {mod xs : List Int} {us : List AV} {rows : List (List Int)} {H : AH} {Q : AV → AH → Prop} (hm : Ints H md mod) (hlm : mod.length ≤ 9223372036854775807) (hv : Rows H v us rows) (h0 : codeErr p m mod n rows = 0) (hw : Ints H w xs) (hl : xs.length ≤ 9223372036854775807)
    (hQ : ∀ H', Ext H H' → Q (.int .i64 (listErr p m xs n)) H') : AC Tryz.prog 68 [codeV p m md n v, w] H Q := by
  obtain ⟨hF, n1, n64, hr, els, kn, -⟩ := code_ok A.fo h0
  refine at68 (by simp) ?_
  simp (disch := first | assumption | omega) only [↓RP, RQ, TY, loadT, s68, reduceIte, Nat.reduceEqDiff, Nat.reduceAdd]
  refine kNew_intro fun b1 H1 hb1 hE1 hH1 => ?_
  simp (disch := first | assumption | omega) only [↓RP, RQ, TY, loadT, reduceIte, Nat.reduceEqDiff, Nat.reduceAdd, hH1]
  refine c_cCheck A (hm.ext hE1) hlm (hv.ext hE1) (by omega) (fun i hi => by rw [hr i hi]; omega) fun H2 hE2 => ?_
  rw [h0]
  have hE12 := hE1.trans hE2
  simp (disch := first | assumption | omega) only [↓RP, RQ, TY, loadT, reduceIte, Nat.reduceEqDiff, Nat.reduceAdd, Int.reduceNe, hE2.rw hH1]
  refine c_clist A (hm.ext hE12) hlm hF (hw.ext hE12) hl fun H3 hE3 => ?_
  simp (disch := first | assumption | omega) only [↓RP, RQ, TY, loadT, reduceIte, Nat.reduceEqDiff, Nat.reduceAdd]
  exact hQ H3 (hE12.trans hE3)
theorem c_cHas (A : Alg) {p m n : Int} {md v w : AV} {mod xs : List Int} {us : List AV} {rows : List (List Int)} {H : AH} {Q : AV → AH → Prop} (hm : Ints H md mod) (hlm : mod.length ≤ 9223372036854775807) (hv : Rows H v us rows) (h0 : codeErr p m mod n rows = 0) (hw : Ints H w xs) (h1 : listErr p m xs n = 0)
    (hQ : ∀ H', Ext H H' → Q (.tup [.bool (zeroB (redB (fF p m mod) rows (canon (fF p m mod) rows n.toNat).2 xs)), .int .i64 0]) H') : AC Tryz.prog 22 [codeV p m md n v, w] H Q := by
  obtain ⟨hF, n1, n64, hr, els, kn, -⟩ := code_ok A.fo h0
  have hlr : ∀ i, i < rows.length → (rowAt rows i).length ≤ 9223372036854775807 := fun i hi => by rw [hr i hi]; omega
  have h2 : (xs.length : Int) = n ∧ AllEl p m xs := by
    rw [listErr] at h1
    split at h1
    · cases h1
    · rename_i q
      split at h1
      · rename_i w; exact ⟨by simpa using q, w⟩
      · cases h1
  have hs : spcErr p m mod n rows = 0 := by
    rw [codeErr, if_neg (by simpa using hF), if_neg (by omega)] at h0
    exact h0
  refine at22 (by simp) ?_
  simp (disch := first | assumption | omega) only [↓RP, RQ, TY, loadT, s22, reduceIte, Nat.reduceEqDiff, Nat.reduceAdd]
  refine kNew_intro fun b1 H1 hb1 hE1 hH1 => ?_
  simp (disch := first | assumption | omega) only [↓RP, RQ, TY, loadT, reduceIte, Nat.reduceEqDiff, Nat.reduceAdd, hH1]
  refine c_cword A (hm.ext hE1) hlm (hv.ext hE1) h0 (hw.ext hE1) (by omega) fun H2 hE2 => ?_
  rw [h1]
  have hE12 := hE1.trans hE2
  have h12 := hE2.rw hH1
  simp (disch := first | assumption | omega) only [↓RP, RQ, TY, loadT, reduceIte, Nat.reduceEqDiff, Nat.reduceAdd, Int.reduceNe, h12]
  refine c_gen hv.sl.isSl fun H3 hE3 => ?_
  have hE13 := hE12.trans hE3
  simp (disch := first | assumption | omega) only [↓RP, RQ, TY, loadT, reduceIte, Nat.reduceEqDiff, Nat.reduceAdd, hE3.rw h12]
  refine c_sHas A (hm.ext hE13) hlm (hv.ext hE13) (by omega) hlr hs (hw.ext hE13) h2.1 h2.2 fun H4 hE4 => ?_
  simp (disch := first | assumption | omega) only [↓RP, RQ, TY, loadT, reduceIte, Nat.reduceEqDiff, Nat.reduceAdd]
  exact hQ H4 (hE13.trans hE4)
end Go.Proofs.YtbkpebmcagdgmaaGreat.AM
/-! The reference's Combine, Encode; its Reorder; words of reordered codes. -/
namespace Go.Proofs.YtbkpebmcagdgmaaGreat.AM
open Go Go.RowKit
set_option linter.unusedVariables false
set_option linter.unusedSimpArgs false
set_option maxRecDepth 20000
def combStep (F : FOps) (x : List Int) (rows : List (List Int)) (i : Nat) (v : List Int) : List Int := if x.getD i 0 ≠ 0 then addToL F v (x.getD i 0) (rowAt rows i) else v
/-- the combination of rows -/
def combL (F : FOps) (x : List Int) (rows : List (List Int)) (n : Nat) : List Int := uptoN (combStep F x rows) rows.length (List.replicate n 0)
section
variable {F : FOps} (h : F.Ok)
theorem comb_ok (h : F.Ok) {x : List Int} {rows : List (List Int)} {n : Nat} (hx : ∀ j, F.El (x.getD j 0)) (hr : Rect n rows) (he : Els F rows) : letI := h.fd; ∀ t, t ≤ rows.length → (uptoN (combStep F x rows) t (List.replicate n 0)).length = n ∧ (∀ j, F.El ((uptoN (combStep F x rows) t (List.replicate n 0)).getD j 0)) ∧ Spn (rowV h rows) (fun i => i < rows.length) (vecL h (uptoN (combStep F x rows) t (List.replicate n 0))) := by
  letI := h.fd
  intro t
  induction t with
  | zero =>
    intro _
    have hz : ∀ j, (List.replicate n (0 : Int)).getD j 0 = 0 := fun j => by
      rw [List.getD_eq_getElem?_getD, List.getElem?_replicate]
      split <;> rfl
    refine ⟨by simp [uptoN], fun j => by rw [uptoN, hz]; exact h.el0, ?_⟩
    have e : vecL h (uptoN (combStep F x rows) 0 (List.replicate n 0)) = vz := funext fun j => by
      show h.k _ = _
      rw [uptoN, hz, h.k_zero]
      rfl
    rw [e]
    exact .zero
  | succ t ih =>
    intro ht
    obtain ⟨i1, i2, i3⟩ := ih (by omega)
    have e : uptoN (combStep F x rows) (t + 1) (List.replicate n 0) = combStep F x rows t (uptoN (combStep F x rows) t (List.replicate n 0)) := rfl
    rw [e]
    generalize uptoN (combStep F x rows) t (List.replicate n 0) = V at *
    rw [combStep]
    split
    · have hl : (rowAt rows t).length = V.length := by rw [hr t (by omega), i1]
      have ga : ∀ j, (addToL F V (x.getD t 0) (rowAt rows t)).getD j 0 = F.add (V.getD j 0) (F.mul (x.getD t 0) ((rowAt rows t).getD j 0)) := fun j => addToL_get h (hx t) j hl (i2 j) (he t j)
      refine ⟨by rw [addToL_length, i1], fun j => ?_, ?_⟩
      · rw [ga]; exact h.add_el (i2 j) (h.mul_el (hx t) (he t j))
      · have ev : vecL h (addToL F V (x.getD t 0) (rowAt rows t)) = va (vecL h V) (vs (h.k (x.getD t 0)) (rowV h rows t)) := funext fun j => by
          have het : F.El ((rowAt rows t).getD j 0) := he t j
          simp only [va, vs]
          show h.k _ = _
          rw [ga, h.k_add (i2 j) (h.mul_el (hx t) het), h.k_mul (hx t) het]
          rfl
        rw [ev]
        exact Spn.step _ (show t < rows.length by omega) i3
    · exact ⟨i1, i2, i3⟩
/-- picked entries of a word of a code are a word of the picked rows' span -/
theorem pick_spn {rows : List (List Int)} {w set : List Int} (hs : letI := h.fd; Spn (rowV h rows) (fun i => i < rows.length) (vecL h w)) : letI := h.fd; Spn (rowV h (rows.map fun r => pickL r set)) (fun i => i < (rows.map fun r => pickL r set).length) (vecL h (pickL w set)) := by
  letI := h.fd
  have m0 : (fun j => if j < set.length then (vz : Vc F.K) (set.getD j 0).toNat else Fd.z) = vz := funext fun j => by
    show (if _ then Fd.z else Fd.z) = Fd.z
    split <;> rfl
  have m1 : ∀ v w : Vc F.K, (fun j => if j < set.length then (va v w) (set.getD j 0).toNat else Fd.z) = va (fun j => if j < set.length then v (set.getD j 0).toNat else Fd.z) (fun j => if j < set.length then w (set.getD j 0).toNat else Fd.z) := fun v w => funext fun j => by
    simp only [va]
    split
    · rfl
    · exact (Fd.add_z _).symm
  have m2 : ∀ (c : F.K) (v : Vc F.K), (fun j => if j < set.length then (vs c v) (set.getD j 0).toNat else Fd.z) = vs c (fun j => if j < set.length then v (set.getD j 0).toNat else Fd.z) := fun c v => funext fun j => by
    simp only [vs]
    split
    · rfl
    · exact (Fd.mul_z _).symm
  have hm := Spn.map (fun v => fun j => if j < set.length then v (set.getD j 0).toNat else Fd.z) m0 m1 m2 hs
  have e : ∀ v : List Int, vecL h (pickL v set) = fun j => if j < set.length then vecL h v (set.getD j 0).toNat else Fd.z := fun v => funext fun j => by
    show h.k _ = _
    by_cases hj : j < set.length
    · rw [if_pos hj, pickL, tabN_getD _ hj]; rfl
    · rw [if_neg hj, getD_len _ (by rw [pickL_length]; omega), h.k_zero]
  rw [e]
  have e2 := Spn.congrV (V' := rowV h (rows.map fun r => pickL r set)) hm fun i hi => by
    show _ = vecL h (rowAt _ i)
    rw [rowAt_map hi, e]
    rfl
  exact e2.mono fun i hi => by rw [List.length_map]; exact hi
end
theorem c_Combine {p m : Int} {md v w : AV} {mod xs : List Int} {us : List AV} {rows : List (List Int)} {n : Nat} {H : AH} {Q : AV → AH → Prop} (hf : FA H p m md mod) (hv : Rows H v us rows) (hw : Ints H w xs) (hr : Rect n rows) (he : Els (fF p m mod) rows) (hx : ∀ j, (fF p m mod).El (xs.getD j 0)) (hxl : xs.length = rows.length) (hn : n ≤ 1000) (hk : rows.length ≤ 1000)
    (hQ : ∀ r H', Ext H H' → Own H H' r (ints (combL (fF p m mod) xs rows n)) → Q r H') : AC Tryz.prog 67 [.agg [.int .i64 p, .int .i64 m, md], w, v, .int .i64 n] H Q := by
  have cok := fun t ht => comb_ok hf.ok (x := xs) (n := n) hx hr he t ht
  refine at67 (by simp) ?_
  simp (disch := first | assumption | omega) only [↓RP, RQ, TY, loadT, s67, reduceIte, Nat.reduceEqDiff, Nat.reduceAdd]
  refine kNew_intro fun b1 H1 hb1 hE1 hH1 => ?_
  simp (disch := first | assumption | omega) only [↓RP, RQ, TY, loadT, reduceIte, Nat.reduceEqDiff, Nat.reduceAdd]
  refine kNew_intro fun b2 H2 hb2 hE2 hH2 => ?_
  rw [ints_rep] at hH2
  have hE12 := hE1.trans hE2
  simp (disch := first | assumption | omega) only [↓RP, RQ, TY, loadT, reduceIte, Nat.reduceEqDiff, Nat.reduceAdd]
  refine sw_loop (σ := Nat × AV) (fun s e H' => e 10 = .int .i64 s.1 ∧ e 4 = .ptr b1 0 ∧ e 1 = w ∧ e 2 = v ∧ e 9 = s.2 ∧ s.1 ≤ rows.length ∧ Ext H H' ∧ H' b1 = .rw [.int .i64 p, .int .i64 m, md] ∧ Own H H' s.2 (ints (uptoN (combStep (fF p m mod) xs rows) s.1 (List.replicate n 0)))) (fun s => rows.length - s.1) (0, .sl b2 0 n (.own 1)) ?_ ?_
  · simp (disch := first | assumption | omega) only [↓RP, RQ, TY, loadT, reduceIte, Nat.reduceEqDiff, Nat.reduceAdd]
    exact ⟨by omega, hE12, hE2.rw hH1, Own.mk hH2 (hE1.free hb2) (by rw [ints_length]; simp [uptoN])⟩
  rintro ⟨i, u⟩ e H3 ⟨e10, e4, e1, e2, e9, hi, hE3, h13, ho⟩
  dsimp only at *
  have hr3 := hv.ext hE3
  have hw3 := (hw.ext hE3).ints
  by_cases hlt : (i : Int) < rows.length
  · have hst : uptoN (combStep (fF p m mod) xs rows) (i + 1) (List.replicate n 0) = combStep (fF p m mod) xs rows i (uptoN (combStep (fF p m mod) xs rows) i (List.replicate n 0)) := rfl
    obtain ⟨c1, c2, -⟩ := cok i hi
    generalize uptoN (combStep (fF p m mod) xs rows) i (List.replicate n 0) = V at *
    have hix : (i : Int) < xs.length := by omega
    by_cases hz : xs.getD i 0 = 0
    · simp (disch := first | assumption | omega) only [↓RP, RQ, TY, loadT, reduceIte, Nat.reduceEqDiff, Nat.reduceAdd, e10, e4, e1, e2, e9, hlt, hix, hr3.run, hw3, hz]
      refine ⟨(i + 1, u), ?_, by dsimp only; omega⟩
      simp (disch := first | assumption | omega) only [↓RP, RQ, TY, loadT, reduceIte, Nat.reduceEqDiff, Nat.reduceAdd, e10, e4, e1, e2, e9]
      refine ⟨by omega, hE3, h13, ?_⟩
      rw [hst, combStep, if_neg (by simpa using hz)]
      exact ho
    · simp (disch := first | assumption | omega) only [↓RP, RQ, TY, loadT, reduceIte, Nat.reduceEqDiff, Nat.reduceAdd, e10, e4, e1, e2, e9, hlt, hix, hr3.run, hw3, hz, h13]
      refine c_AddTo (hf.ext hE3) (hx i) ho.sl (hr3.row i (by omega)) (by omega) (by rw [hr i (by omega), c1]) c2 (fun j => he i j) fun b4 H4 hb4 hE4 hH4 => ?_
      simp (disch := first | assumption | omega) only [↓RP, RQ, TY, loadT, reduceIte, Nat.reduceEqDiff, Nat.reduceAdd, e10, e4, e1, e2, e9]
      refine ⟨(i + 1, .sl b4 0 V.length (.own 1)), ?_, by dsimp only; omega⟩
      simp (disch := first | assumption | omega) only [↓RP, RQ, TY, loadT, reduceIte, Nat.reduceEqDiff, Nat.reduceAdd, e10, e4, e1, e2, e9]
      refine ⟨by omega, hE3.trans hE4, hE4.rw h13, ?_⟩
      rw [hst, combStep, if_pos hz]
      exact Own.mk hH4 (hE3.free hb4) (by rw [ints_length, addToL_length])
  · rw [show i = rows.length by omega] at ho
    simp (disch := first | assumption | omega) only [↓RP, RQ, TY, loadT, reduceIte, Nat.reduceEqDiff, Nat.reduceAdd, e10, e4, e1, e2, e9, hlt, hr3.run, hw3]
    exact hQ u H3 hE3 ho
open Classical in
noncomputable def encErr (p m : Int) (mod : List Int) (n : Int) (rows : List (List Int)) (msg : List Int) : Int := if codeErr p m mod n rows ≠ 0 then codeErr p m mod n rows else listErr p m msg rows.length
theorem list_ok {p m n : Int} {xs : List Int} (h : listErr p m xs n = 0) : (xs.length : Int) = n ∧ AllEl p m xs := by
  rw [listErr] at h
  split at h
  · cases h
  · rename_i q
    split at h
    · rename_i w; exact ⟨by simpa using q, w⟩
    · cases h
theorem allEl_el {p m : Int} {mod xs : List Int} (ok : (fF p m mod).Ok) (h : AllEl p m xs) : ∀ j, (fF p m mod).El (xs.getD j 0) := fun j => by
  by_cases hj : j < xs.length
  · exact h j hj
  · rw [getD_len _ (by omega)]; exact ok.el0
theorem c_Encode12 (A : Alg) {p m n : Int} {md v w : AV} {mod msg : List Int} {us : List AV} {rows : List (List Int)} {H : AH} {Q : AV → AH → Prop} (hm : Ints H md mod) (hv : Rows H v us rows) (hl : rows.length ≤ 9223372036854775807) (hlr : ∀ i, i < rows.length → (rowAt rows i).length ≤ 9223372036854775807) (hw : Ints H w msg) (hlw : msg.length ≤ 9223372036854775807)
    (hQ : encErr p m mod n rows msg = 0 → ∀ r H', Ext H H' → Own H H' r (ints (combL (fF p m mod) msg rows n.toNat)) → Q (.tup [r, .int .i64 0]) H')
    (hQ0 : encErr p m mod n rows msg ≠ 0 → ∀ H', Ext H H' → Q (.tup [.nils, .int .i64 (encErr p m mod n rows msg)]) H') :
    AC Tryz.prog 21 [codeV p m md n v, w] H Q := by
  refine at21 (by simp) ?_
  simp (disch := first | assumption | omega) only [↓RP, RQ, TY, loadT, s21, reduceIte, Nat.reduceEqDiff, Nat.reduceAdd]
  refine kNew_intro fun b1 H1 hb1 hE1 hH1 => ?_
  simp (disch := first | assumption | omega) only [↓RP, RQ, TY, loadT, reduceIte, Nat.reduceEqDiff, Nat.reduceAdd, hH1]
  refine c_Check12 A.fo (hm.ext hE1) (hv.ext hE1) hl hlr fun H2 hE2 => ?_
  have hE12 := hE1.trans hE2
  have h12 := hE2.rw hH1
  by_cases h0 : codeErr p m mod n rows = 0
  rotate_left
  · have e : encErr p m mod n rows msg = codeErr p m mod n rows := by rw [encErr, if_pos h0]
    simp (disch := first | assumption | omega) only [↓RP, RQ, TY, loadT, reduceIte, Nat.reduceEqDiff, Nat.reduceAdd, eq_false h0]
    have := hQ0 (by rw [e]; exact h0) H2 hE12
    rwa [e] at this
  have e : encErr p m mod n rows msg = listErr p m msg rows.length := by rw [encErr, if_neg (by simpa using h0)]
  rw [e] at hQ hQ0
  simp (disch := first | assumption | omega) only [↓RP, RQ, TY, loadT, reduceIte, Nat.reduceEqDiff, Nat.reduceAdd, eq_true h0, h12, (hv.ext hE12).run]
  refine c_List12 (mod := mod) (hw.ext hE12) hlw fun H3 hE3 => ?_
  have hE13 := hE12.trans hE3
  have h13 := hE3.rw h12
  by_cases h1 : listErr p m msg rows.length = 0
  rotate_left
  · simp (disch := first | assumption | omega) only [↓RP, RQ, TY, loadT, reduceIte, Nat.reduceEqDiff, Nat.reduceAdd, eq_false h1]
    exact hQ0 h1 H3 hE13
  obtain ⟨l1, l2⟩ := list_ok h1
  have ca := A.fo.ca h0 (hm.ext hE13) (hv.ext hE13)
  have n1 := ca.n1
  have n64 := ca.n64
  have kn := ca.kn
  obtain ⟨N, hN⟩ : ∃ N : Nat, n = N := ⟨n.toNat, by omega⟩
  subst hN
  rw [Int.toNat_natCast] at hQ kn
  simp (disch := first | assumption | omega) only [↓RP, RQ, TY, loadT, reduceIte, Nat.reduceEqDiff, Nat.reduceAdd, eq_true h1, h13]
  refine c_Combine ca.fa (hv.ext hE13) (hw.ext hE13) (n := N) (by simpa using ca.rect) ca.els (allEl_el ca.fa.ok l2) (by omega) (by omega) (by omega) fun r H4 hE4 ho4 => ?_
  simp (disch := first | assumption | omega) only [↓RP, RQ, TY, loadT, reduceIte, Nat.reduceEqDiff, Nat.reduceAdd]
  exact hQ h1 r H4 (hE13.trans hE4) (ho4.old hE13)
theorem Hp.aside {H0 H : AH} {b n : Nat} {c : Cap} {us : List AV} {L : List (AV × List AV)} (h : Hp H0 H ((.sl b 0 n c, us) :: L)) : Hp H0 (H.upd b .dead) L := by
  have hb := (h.blkOf (y := (.sl b 0 n c, us)) (by simp) rfl).2
  refine ⟨h.ext.upd hb _, fun y hy => ?_, h.tail.nd⟩
  rcases h.own y (List.mem_cons_of_mem _ hy) with q | ⟨b2, q1, q2, q3⟩
  · exact .inl q
  · have hne : b2 ≠ b := fun w => h.off hy (b := b2) (by rw [q1]; rfl) _ _ _ (by rw [w])
    exact .inr ⟨b2, q1, by rw [upd_ne _ _ hne]; exact q2, q3⟩
theorem c_Reorder48 (A : Alg) {p m n : Int} {md v sv : AV} {mod set : List Int} {us : List AV} {rows : List (List Int)} {H : AH} {Q : AV → AH → Prop} (hm : Ints H md mod) (hv : Rows H v us rows) (hs : Ints H sv set) (hl : rows.length ≤ 9223372036854775807) (hlr : ∀ i, i < rows.length → (rowAt rows i).length ≤ 9223372036854775807) (hls : set.length ≤ 9223372036854775807)
    (hQ : ordErr p m mod n rows set = 0 → ∀ md' lv us' H', Ext H H' → Ints H' md' mod → Rows H' lv us' (canon (fF p m mod) (rows.map fun r => pickL r set) n.toNat).1 → Q (.tup [codeV p m md' n lv, .int .i64 0]) H')
    (hQ0 : ordErr p m mod n rows set ≠ 0 → ∀ H', Ext H H' → Q (.tup [codeV 0 0 .nils 0 .nils, .int .i64 (ordErr p m mod n rows set)]) H') :
    AC Tryz.prog 19 [codeV p m md n v, sv] H Q := by
  refine at19 (by simp) ?_
  simp (disch := first | assumption | omega) only [↓RP, RQ, TY, loadT, s19, reduceIte, Nat.reduceEqDiff, Nat.reduceAdd]
  refine kNew_intro fun b2 H1 hb2 hE1 hH1 => ?_
  simp (disch := first | assumption | omega) only [↓RP, RQ, TY, loadT, reduceIte, Nat.reduceEqDiff, Nat.reduceAdd]
  refine kNew_intro fun b4 H2 hb4 hE2 hH2 => ?_
  have hp2 := ((Hp.nil (Ext.refl H)).new (n := 5) hb2 hE1 hH1 rfl).new (n := 5) hb4 hE2 hH2 rfl
  have hE12 := hE1.trans hE2
  have f4 := hE1.free hb4
  have z0 : (AV.int .i64 0).one = true := rfl
  have zn : AV.nils.one = true := rfl
  simp (disch := first | assumption | omega) only [↓RP, RQ, TY, loadT, reduceIte, Nat.reduceEqDiff, Nat.reduceAdd, hE2.rw hH1]
  refine c_Order48 A (hm.ext hE12) (hv.ext hE12) (hs.ext hE12) hl hlr hls fun H3 hE3 => ?_
  have hE13 := hE12.trans hE3
  have h43 := hE3.rw hH2
  have h23 := hE3.rw (hE2.rw hH1)
  have hp3 := hp2.more hE3
  by_cases h0 : ordErr p m mod n rows set = 0
  rotate_left
  · simp (disch := first | assumption | omega) only [↓RP, RQ, TY, loadT, reduceIte, Nat.reduceEqDiff, Nat.reduceAdd, eq_true h0, u_fill0, u_st5 (x := .int .i64 0) (y := .int .i64 0) (z := .nils) (w := .int .i64 0) (u := .nils) h43 z0 z0 zn z0 zn, aRes, aResL, aRes1, Option.map_some]
    exact hQ0 h0 _ (hE13.upd f4 _)
  obtain ⟨hc, ho⟩ := ordErr_iff.mp h0
  have ca := A.fo.ca hc (hm.ext hE13) (hv.ext hE13)
  have n1 := ca.n1
  have n64 := ca.n64
  have kn := ca.kn
  have hF := (code_ok A.fo hc).1
  have hol := ho.1
  obtain ⟨N, hN⟩ : ∃ N : Nat, n = N := ⟨n.toNat, by omega⟩
  subst hN
  rw [Int.toNat_natCast] at hQ kn
  have hsN : set.length = N := by omega
  have hrect : ∀ i, i < rows.length → (rowAt rows i).length = N := fun i hi => by rw [ca.rect i hi]; simp
  simp (disch := first | assumption | omega) only [↓RP, RQ, TY, loadT, reduceIte, Nat.reduceEqDiff, Nat.reduceAdd, eq_false (show ¬ ordErr p m mod N rows set ≠ 0 from fun q => q h0)]
  refine kNew_intro fun b5 H4 hb5 hE4 hH4 => ?_
  have hp4 := hp3.new (n := 0) hb5 hE4 hH4 rfl
  simp (disch := first | assumption | omega) only [↓RP, RQ, TY, loadT, reduceIte, Nat.reduceEqDiff, Nat.reduceAdd]
  refine sw_loop (σ := Nat × AV × List AV) (fun s e H' => e 8 = .int .i64 s.1 ∧ e 7 = s.2.1 ∧ e 1 = sv ∧ e 2 = .ptr b2 0 ∧ e 4 = .ptr b4 0 ∧ s.1 ≤ rows.length ∧ s.2.2.length = s.1 ∧ (∀ u, u ∈ s.2.2 → u.isSl = true) ∧
    Hp H H' ((s.2.1, s.2.2) :: (.sl b4 0 5 (.own 1), [.int .i64 0, .int .i64 0, .nils, .int .i64 0, .nils]) :: (.sl b2 0 5 (.own 1), [.int .i64 p, .int .i64 m, md, .int .i64 N, v]) :: rowsL s.2.2 ((rows.map fun r => pickL r set).take s.1))) (fun s => rows.length - s.1) (0, .sl b5 0 0 (.own 1), []) ?_ ?_
  · simp (disch := first | assumption | omega) only [↓RP, RQ, TY, loadT, reduceIte, Nat.reduceEqDiff, Nat.reduceAdd]
    exact ⟨by omega, rfl, fun u hu => (by simp at hu), hp4⟩
  clear hp2 hp3 hp4
  rintro ⟨i, w, ws⟩ e H5 ⟨e8, e7, e1, e2, e4, hi, hwl, hws, hp⟩
  dsimp only at *
  have h25 := (hp.blkOf (y := (.sl b2 0 5 (.own 1), [.int .i64 p, .int .i64 m, md, .int .i64 N, v])) (by simp) rfl).1
  have hE := hp.ext
  have hr5 := hv.ext hE
  by_cases hlt : (i : Int) < rows.length
  · simp (disch := first | assumption | omega) only [↓RP, RQ, TY, loadT, reduceIte, Nat.reduceEqDiff, Nat.reduceAdd, e8, e7, e1, e2, e4, hlt, h25, hr5.run]
    refine c_Pick (hr5.row i (by omega)) (hs.ext hE) (by omega) (fun j hj => by have := ho.2.1 j hj; rw [hrect i (by omega)]; omega) fun b6 H6 hb6 hE6 hH6 => ?_
    have lp := pickL_length (rowAt rows i) set
    have hsl : (AV.sl b6 0 set.length (.own 1)).isSl = true := rfl
    have hp6 := hp.new (n := set.length) hb6 hE6 hH6 (by rw [ints_length, lp])
    simp (disch := first | assumption | omega) only [↓RP, RQ, TY, loadT, reduceIte, Nat.reduceEqDiff, Nat.reduceAdd, e8, e7, e1, e2, e4, u_buildS1V]
    refine kNew_intro fun b7 H7 hb7 hE7 hH7 => ?_
    have hp7 := (hp6.more hE7).perm (swap2 _ _ _)
    simp (disch := first | assumption | omega) only [↓RP, RQ, TY, loadT, reduceIte, Nat.reduceEqDiff, Nat.reduceAdd, e8, e7, e1, e2, e4]
    refine kApp_hp (us := [.sl b6 0 set.length (.own 1)]) hp7 (Sl.own hH7 rfl) (fun u hu => by rw [List.mem_singleton.mp hu]; rfl) (by simp; omega) (by simp; omega) fun v8 H8 hp8 => ?_
    simp (disch := first | assumption | omega) only [↓RP, RQ, TY, loadT, reduceIte, Nat.reduceEqDiff, Nat.reduceAdd, e8, e7, e1, e2, e4]
    refine ⟨(i + 1, v8, ws ++ [.sl b6 0 set.length (.own 1)]), ?_, by dsimp only; omega⟩
    simp (disch := first | assumption | omega) only [↓RP, RQ, TY, loadT, reduceIte, Nat.reduceEqDiff, Nat.reduceAdd, e8, e7, e1, e2, e4]
    refine ⟨by omega, by simp [hwl], fun u hu => ?_, ?_⟩
    · rcases List.mem_append.mp hu with q | q
      · exact hws u q
      · rw [List.mem_singleton.mp q]; rfl
    · rw [← map_take_push (fun r => pickL r set) (show i < rows.length by omega), rowsL_app _ _ (by rw [List.length_take, List.length_map]; omega)]
      refine hp8.perm (.cons _ ?_)
      refine ((swap2 _ _ _).trans (.cons _ ((swap2 _ _ _).trans (.cons _ ?_))))
      exact (List.perm_append_singleton _ _).symm
  · rw [List.take_of_length_le (by simp; omega)] at hp
    have pr : Rect N (rows.map fun r => pickL r set) := by
      have := pick_rect rows set
      rwa [hsN] at this
    have pe := pick_els ca.fa.ok.el0 set ca.els
    have h45 := (hp.blkOf (y := (.sl b4 0 5 (.own 1), [.int .i64 0, .int .i64 0, .nils, .int .i64 0, .nils])) (by simp) rfl).1
    have hpd := (hp.perm (swap2 _ _ _)).aside
    have hrd : Rows (H5.upd b4 .dead) w ws (rows.map fun r => pickL r set) := hpd.rows (by simp) (fun y hy => by simp [hy]) (by simp; omega)
    simp (disch := first | assumption | omega) only [↓RP, RQ, TY, loadT, reduceIte, Nat.reduceEqDiff, Nat.reduceAdd, e8, e7, e1, e2, e4, hlt, h25, hr5.run]
    refine AC.frame h45 ?_
    have hlm : mod.length ≤ 1000 := by have := hF.ml; omega
    refine c_Make A ((A.fo.ca hc (hm.ext hpd.ext) (hv.ext hpd.ext)).fa) hlm hrd pr pe (by omega) (by simp; omega) fun md' lv us' H6 hE6 hm6 hr6 => ?_
    have d6 := hE6.back
    have hE6u := hE6.undead
    rw [h45] at hE6u
    have h46 : (H6.upd b4 (.rw [.int .i64 0, .int .i64 0, .nils, .int .i64 0, .nils])) b4 = .rw [.int .i64 0, .int .i64 0, .nils, .int .i64 0, .nils] := updEq
    generalize hG : H6.upd b4 (.rw [.int .i64 0, .int .i64 0, .nils, .int .i64 0, .nils]) = G at *
    have ip : (AV.int .i64 p).one = true := rfl
    have im : (AV.int .i64 m).one = true := rfl
    have iN : (AV.int .i64 N).one = true := rfl
    have i1 := isSl_one hr6.sl.isSl
    have i2 := isSl_one hm6.isSl
    simp (disch := first | assumption | omega) only [↓RP, RQ, TY, loadT, reduceIte, Nat.reduceEqDiff, Nat.reduceAdd, e4, u_st5 h46 ip im i2 iN i1, aRes, aResL, aRes1, Option.map_some]
    refine hQ h0 md' lv us' _ ((hE.trans hE6u).upd f4 _) ?_ ?_
    · have := hm6.dead d6 (.rw [.int .i64 p, .int .i64 m, md', .int .i64 N, lv])
      rwa [← hG, upd2]
    · have := hr6.dead d6 (.rw [.int .i64 p, .int .i64 m, md', .int .i64 N, lv])
      rwa [← hG, upd2]
end Go.Proofs.YtbkpebmcagdgmaaGreat.AM
/-! The law OrderingWidths. -/
namespace Go.Proofs.YtbkpebmcagdgmaaGreat.AM
open Go Go.RowKit
set_option linter.unusedVariables false
set_option linter.unusedSimpArgs false
set_option maxRecDepth 20000
section
variable {p m : Int} {mod : List Int} (h : (fF p m mod).Ok)
include h in
/-- the first positions of a reordered code -/
theorem pick_R {n : Nat} {rows : List (List Int)} (he : Els (fF p m mod) rows) {order : List Int} (ho : IsOrd n order) {i : Nat} (hi : i ≤ n) : letI := h.fd;
    (clo (colV h (rows.map fun r => pickL r order))).R n (fun j => decide (j < i)) = (clo (colV h rows)).R n (inL (order.take i)) ∧
    (clo (colV h (rows.map fun r => pickL r order))).R n (fun j => !decide (j < i)) = (clo (colV h rows)).R n (fun j => !inL (order.take i) j) := by
  letI := h.fd
  have hl := ho.1
  have hV : ∀ j, j < n → colV h (rows.map fun r => pickL r order) j = colV h rows (order.getD j 0).toNat := fun j hj => by
    funext r
    show h.k _ = h.k _
    rw [pick_ent r (by omega)]
  have key : ∀ (l : List Nat), (∀ j, j ∈ l → j < n) → (clo (colV h (rows.map fun r => pickL r order))).rk (fun _ => False) l = (clo (colV h rows)).rk (fun _ => False) (l.map fun j => (order.getD j 0).toNat) := fun l hlt => by
    rw [rk_pull (V := colV h rows) (fun j => (order.getD j 0).toNat) l _ (fun j hj => hV j (hlt j hj)) (fun j hj => hj.elim)]
    exact Clo.rk_ext _ (fun z => by simp) _
  obtain ⟨t1, t2⟩ := ho.take i
  have d1 : Poss n (order.drop i) := poss_mem.mpr fun y hy => poss_mem.mp ho.2.1 y (List.mem_of_mem_drop hy)
  have d2 : (order.drop i).Nodup := List.Nodup.sublist (List.drop_sublist _ _) ho.2.2
  constructor
  · rw [Clo.R, range_lt hi, key _ (fun j hj => by have := List.mem_range.mp hj; omega)]
    rw [← rankS_set h he t1 t2, rankS_rk h he]
    congr 1
    refine List.ext_getElem (by simp; omega) fun j h1 h2 => ?_
    simp at h1 h2
    simp [List.getD_eq_getElem?_getD, List.getElem?_eq_getElem (show j < order.length by omega)]
  · rw [Clo.R, range_ge hi, key _ (fun j hj => by
      obtain ⟨k, hk, rfl⟩ := List.mem_map.mp hj
      have := List.mem_range.mp hk
      omega)]
    have e1 : (clo (colV h rows)).R n (fun j => !inL (order.take i) j) = (clo (colV h rows)).R n (inL (order.drop i)) := by
      rw [Clo.R, Clo.R]
      congr 1
      refine List.filter_congr fun j hj => ?_
      have hjn := List.mem_range.mp hj
      have hm := ho.mem (j := j) (by omega)
      have hnd := ho.2.2
      rw [← List.take_append_drop i order] at hm hnd
      rw [List.nodup_append] at hnd
      rw [inL, inL]
      rcases List.mem_append.mp hm with q | q
      · have q2 : (j : Int) ∉ order.drop i := fun w => hnd.2.2 _ q _ w rfl
        rw [List.contains_iff_mem.mpr q]
        cases hd : (order.drop i).contains (j : Int) with
        | false => rfl
        | true => exact absurd (List.contains_iff_mem.mp hd) q2
      · have q2 : (j : Int) ∉ order.take i := fun w => hnd.2.2 _ w _ q rfl
        rw [List.contains_iff_mem.mpr q]
        cases hd : (order.take i).contains (j : Int) with
        | false => rfl
        | true => exact absurd (List.contains_iff_mem.mp hd) q2
    rw [e1, ← rankS_set h he d1 d2, rankS_rk h he]
    congr 1
    refine List.ext_getElem (by simp; omega) fun j h1 h2 => ?_
    simp at h1 h2
    simp [List.getD_eq_getElem?_getD, List.getElem?_eq_getElem (show i + j < order.length by omega)]
include h in
theorem pick_all {n : Nat} {rows : List (List Int)} (he : Els (fF p m mod) rows) (hr : Rect n rows) (hc : (canon (fF p m mod) rows n).1 = rows) {order : List Int} (ho : IsOrd n order) : (canon (fF p m mod) (rows.map fun r => pickL r order) n).1.length = rows.length := by
  letI := h.fd
  have hl := ho.1
  have pr : Rect n (rows.map fun r => pickL r order) := by
    have := pick_rect rows order
    rwa [show order.length = n by omega] at this
  have pe := pick_els h.el0 order he
  have hR := canon_red h pr pe
  have h1 := red_R h hR (canon_els h pr pe)
  have h2 : (clo (colV h (canon (fF p m mod) (rows.map fun r => pickL r order) n).1)).R n (fun _ => true) = (clo (colV h (rows.map fun r => pickL r order))).R n (fun _ => true) := (rk_same h (canon_rel h pr pe) _ _).symm
  have hRr := canon_red h hr he
  rw [hc] at hRr
  have h3 := red_R h hRr he
  have h4 := (pick_R h he ho (i := n) (Nat.le_refl n)).1
  have e1 : (clo (colV h (rows.map fun r => pickL r order))).R n (fun _ => true) = (clo (colV h (rows.map fun r => pickL r order))).R n (fun j => decide (j < n)) := by
    rw [Clo.R, Clo.R]
    congr 1
    exact List.filter_congr fun j hj => by simpa using hj
  have e2 : (clo (colV h rows)).R n (inL (order.take n)) = (clo (colV h rows)).R n (fun _ => true) := by
    rw [Clo.R, Clo.R]
    congr 1
    refine List.filter_congr fun j hj => ?_
    rw [List.take_of_length_le (by omega)]
    exact List.contains_iff_mem.mpr (ho.mem (by have := List.mem_range.mp hj; omega))
  omega
end
end Go.Proofs.YtbkpebmcagdgmaaGreat.AM
/-! The law OrderingReorders. -/
namespace Go.Proofs.YtbkpebmcagdgmaaGreat.AM
open Go Go.RowKit
set_option linter.unusedVariables false
set_option linter.unusedSimpArgs false
set_option maxRecDepth 20000
theorem zeroB_all {xs : List Int} (h : ∀ j, xs.getD j 0 = 0) : zeroB xs = true := by
  rw [zeroB, Bool.not_eq_true', List.any_eq_false]
  intro x hx
  obtain ⟨i, hi, rfl⟩ := List.mem_iff_getElem.mp hx
  have := h i
  rw [List.getD_eq_getElem?_getD, List.getElem?_eq_getElem hi, Option.getD_some] at this
  simp [this]
theorem law_Reorders (A : Alg) {p m n : Int} {md v sv mv : AV} {mod set msg : List Int} {us : List AV} {rows : List (List Int)} {H : AH} (hm : Ints H md mod) (hlm : mod.length ≤ 9223372036854775807) (hv : Rows H v us rows) (hl : rows.length ≤ 9223372036854775807) (hlr : ∀ i, i < rows.length → (rowAt rows i).length ≤ 9223372036854775807) (hs : Ints H sv set) (hls : set.length ≤ 9223372036854775807) (hw : Ints H mv msg) (hlw : msg.length ≤ 9223372036854775807) :
    AC Tryz.prog 4 [codeV p m md n v, sv, mv] H fun r H' => r = .bool true ∧ Ext H H' := by
  have z0 : (AV.int .i64 0).one = true := rfl
  have zn : AV.nils.one = true := rfl
  refine at4 (by simp) ?_
  simp (disch := first | assumption | omega) only [↓RP, RQ, TY, loadT, s4, reduceIte, Nat.reduceEqDiff, Nat.reduceAdd]
  refine kNew_intro fun b H1 hb1 hE1 hH1 => ?_
  simp (disch := first | assumption | omega) only [↓RP, RQ, TY, loadT, reduceIte, Nat.reduceEqDiff, Nat.reduceAdd, hH1]
  by_cases h0 : ordErr p m mod n rows set = 0
  rotate_left
  · refine c_Reorder A (hm.ext hE1) hlm (hv.ext hE1) (hs.ext hE1) hl hlr hls (fun q => absurd q h0) (fun _ H2 hE2 => ?_)
    have hE12 := hE1.trans hE2
    simp (disch := first | assumption | omega) only [↓RP, RQ, TY, loadT, reduceIte, Nat.reduceEqDiff, Nat.reduceAdd]
    refine kNew_intro fun b3 H3 hb3 hE3 hH3 => ?_
    have hE3u := hE3.upd hb3 (.rw [.int .i64 0, .int .i64 0, .nils, .int .i64 0, .nils])
    have h33 : (H3.upd b3 (.rw [.int .i64 0, .int .i64 0, .nils, .int .i64 0, .nils])) b3 = .rw [.int .i64 0, .int .i64 0, .nils, .int .i64 0, .nils] := updEq
    simp (disch := first | assumption | omega) only [↓RP, RQ, TY, loadT, reduceIte, Nat.reduceEqDiff, Nat.reduceAdd, u_st5 (x := .int .i64 0) (y := .int .i64 0) (z := .nils) (w := .int .i64 0) (u := .nils) hH3 z0 z0 zn z0 zn, hE3u.rw (hE2.rw hH1)]
    generalize H3.upd b3 (.rw [.int .i64 0, .int .i64 0, .nils, .int .i64 0, .nils]) = H4 at *
    have hE14 := hE12.trans hE3u
    have h14 := hE3u.rw (hE2.rw hH1)
    refine c_Reorder48 A (hm.ext hE14) (hv.ext hE14) (hs.ext hE14) hl hlr hls (fun q => absurd q h0) (fun _ H5 hE5 => ?_)
    have hE15 := hE14.trans hE5
    simp (disch := first | assumption | omega) only [↓RP, RQ, TY, loadT, reduceIte, Nat.reduceEqDiff, Nat.reduceAdd]
    refine kNew_intro fun b6 H6 hb6 hE6 hH6 => ?_
    have hE6u := hE6.upd hb6 (.rw [.int .i64 0, .int .i64 0, .nils, .int .i64 0, .nils])
    have h66 : (H6.upd b6 (.rw [.int .i64 0, .int .i64 0, .nils, .int .i64 0, .nils])) b6 = .rw [.int .i64 0, .int .i64 0, .nils, .int .i64 0, .nils] := updEq
    have h36 := hE6u.rw (hE5.rw h33)
    simp (disch := first | assumption | omega) only [↓RP, RQ, TY, loadT, reduceIte, Nat.reduceEqDiff, Nat.reduceAdd, u_st5 (x := .int .i64 0) (y := .int .i64 0) (z := .nils) (w := .int .i64 0) (u := .nils) hH6 z0 z0 zn z0 zn, eq_false (show ¬ ordErr p m mod n rows set ≠ ordErr p m mod n rows set by simp)]
    have hE16 := hE15.trans hE6u
    have h16 := hE6u.rw (hE5.rw h14)
    generalize H6.upd b6 (.rw [.int .i64 0, .int .i64 0, .nils, .int .i64 0, .nils]) = H7 at *
    simp (disch := first | assumption | omega) only [↓RP, RQ, TY, loadT, reduceIte, Nat.reduceEqDiff, Nat.reduceAdd, h36, h66]
    refine c_Same12 (mod := []) (us := []) (us' := []) (rows := []) (.inl ⟨rfl, rfl⟩) (.inl ⟨rfl, rfl⟩) (by simp) ⟨(.inl ⟨rfl, rfl⟩), rfl, fun i hi => by simp at hi⟩ ⟨(.inl ⟨rfl, rfl⟩), rfl, fun i hi => by simp at hi⟩ (by simp) (fun i hi => by simp at hi) fun H8 hE8 => ?_
    have hE18 := hE16.trans hE8
    simp (disch := first | assumption | omega) only [↓RP, RQ, TY, loadT, reduceIte, Nat.reduceEqDiff, Nat.reduceAdd]
    refine c_alive A fun H9 hE9 => ?_
    have hE19 := hE18.trans hE9
    simp (disch := first | assumption | omega) only [↓RP, RQ, TY, loadT, reduceIte, Nat.reduceEqDiff, Nat.reduceAdd, hE9.rw (hE8.rw h16)]
    by_cases h1 : encErr p m mod n rows msg = 0
    · refine c_Encode12 A (hm.ext hE19) (hv.ext hE19) hl hlr (hw.ext hE19) hlw (fun _ r H10 hE10 ho => ?_) (fun q => absurd h1 q)
      simp (disch := first | assumption | omega) only [↓RP, RQ, TY, loadT, reduceIte, Nat.reduceEqDiff, Nat.reduceAdd, eq_true h0]
      exact ⟨rfl, hE19.trans hE10⟩
    · refine c_Encode12 A (hm.ext hE19) (hv.ext hE19) hl hlr (hw.ext hE19) hlw (fun q => absurd q h1) (fun _ H10 hE10 => ?_)
      simp (disch := first | assumption | omega) only [↓RP, RQ, TY, loadT, reduceIte, Nat.reduceEqDiff, Nat.reduceAdd, eq_true h0]
      exact ⟨rfl, hE19.trans hE10⟩
  refine c_Reorder A (hm.ext hE1) hlm (hv.ext hE1) (hs.ext hE1) hl hlr hls (fun _ md' lv us' H2 hE2 hm2 hr2 => ?_) (fun q => absurd h0 q)
  obtain ⟨hc, ho⟩ := ordErr_iff.mp h0
  obtain ⟨hF, n1, n64, hr, els, kn, -⟩ := code_ok A.fo hc
  have ok := A.fo _ _ _ hF
  have hcan := code_canon hc
  have hml := hF.ml
  obtain ⟨N, hN⟩ : ∃ N : Nat, n = N := ⟨n.toNat, by omega⟩
  subst hN
  rw [Int.toNat_natCast] at *
  have hol := ho.1
  have hsN : set.length = N := by omega
  have pr : Rect N (rows.map fun r => pickL r set) := by
    have := pick_rect rows set
    rwa [hsN] at this
  have pe := pick_els ok.el0 set els
  have kr := canon_red ok pr pe
  have ke := canon_els ok pr pe
  have kl := pick_all ok els hr hcan ho
  have krs := canon_rs ok pr pe
  generalize hD : (canon (fF p m mod) (rows.map fun r => pickL r set) N).1 = D at *
  generalize hP : (canon (fF p m mod) (rows.map fun r => pickL r set) N).2 = piv at *
  have hcD : (canon (fF p m mod) D N).2 = piv := congrArg Prod.snd (red_canon (F := fF p m mod) kr)
  have hc' : codeErr p m mod N D = 0 := code_mk hF n1 n64 (by omega) (by rw [Int.toNat_natCast]; exact kr.rect) ke (by rw [Int.toNat_natCast]; exact congrArg Prod.fst (red_canon (F := fF p m mod) kr))
  have hE12 := hE1.trans hE2
  have i1 := isSl_one hr2.sl.isSl
  have i2 := isSl_one hm2.isSl
  have ip : (AV.int .i64 p).one = true := rfl
  have im : (AV.int .i64 m).one = true := rfl
  have i0 : (AV.int .i64 N).one = true := rfl
  simp (disch := first | assumption | omega) only [↓RP, RQ, TY, loadT, reduceIte, Nat.reduceEqDiff, Nat.reduceAdd]
  refine kNew_intro fun b3 H3 hb3 hE3 hH3 => ?_
  have hE3u := hE3.upd hb3 (.rw [.int .i64 p, .int .i64 m, md', .int .i64 N, lv])
  have h33 : (H3.upd b3 (.rw [.int .i64 p, .int .i64 m, md', .int .i64 N, lv])) b3 = .rw [.int .i64 p, .int .i64 m, md', .int .i64 N, lv] := updEq
  simp (disch := first | assumption | omega) only [↓RP, RQ, TY, loadT, reduceIte, Nat.reduceEqDiff, Nat.reduceAdd, u_st5 hH3 ip im i2 i0 i1, hE3u.rw (hE2.rw hH1)]
  generalize H3.upd b3 (.rw [.int .i64 p, .int .i64 m, md', .int .i64 N, lv]) = H4 at *
  have hE14 := hE12.trans hE3u
  have h14 := hE3u.rw (hE2.rw hH1)
  refine c_Reorder48 A (hm.ext hE14) (hv.ext hE14) (hs.ext hE14) hl hlr hls (fun _ md2 lv2 us2 H5 hE5 hm5 hr5 => ?_) (fun q => absurd h0 q)
  rw [Int.toNat_natCast, hD] at hr5
  have hE15 := hE14.trans hE5
  have j1 := isSl_one hr5.sl.isSl
  have j2 := isSl_one hm5.isSl
  simp (disch := first | assumption | omega) only [↓RP, RQ, TY, loadT, reduceIte, Nat.reduceEqDiff, Nat.reduceAdd]
  refine kNew_intro fun b6 H6 hb6 hE6 hH6 => ?_
  have hE6u := hE6.upd hb6 (.rw [.int .i64 p, .int .i64 m, md2, .int .i64 N, lv2])
  have h66 : (H6.upd b6 (.rw [.int .i64 p, .int .i64 m, md2, .int .i64 N, lv2])) b6 = .rw [.int .i64 p, .int .i64 m, md2, .int .i64 N, lv2] := updEq
  have h36 := hE6u.rw (hE5.rw h33)
  simp (disch := first | assumption | omega) only [↓RP, RQ, TY, loadT, reduceIte, Nat.reduceEqDiff, Nat.reduceAdd, u_st5 hH6 ip im j2 i0 j1]
  have hE16 := hE15.trans hE6u
  have h16 := hE6u.rw (hE5.rw h14)
  have hE46 := hE5.trans hE6u
  have m7 := (hm2.ext hE3u).ext hE46
  have r7 := (hr2.ext hE3u).ext hE46
  generalize H6.upd b6 (.rw [.int .i64 p, .int .i64 m, md2, .int .i64 N, lv2]) = H7 at *
  simp (disch := first | assumption | omega) only [↓RP, RQ, TY, loadT, reduceIte, Nat.reduceEqDiff, Nat.reduceAdd, h36, h66, Int.reduceEq, Int.reduceNe]
  refine c_Same12 m7 (hm5.ext hE6u) (by omega) r7 (hr5.ext hE6u) (by omega) (fun i hi => by rw [kr.rect i hi]; omega) fun H8 hE8 => ?_
  have hE18 := hE16.trans hE8
  simp (disch := first | assumption | omega) only [↓RP, RQ, TY, loadT, reduceIte, Nat.reduceEqDiff, Nat.reduceAdd]
  refine c_alive A fun H9 hE9 => ?_
  have hE19 := hE18.trans hE9
  have hE79 := hE8.trans hE9
  simp (disch := first | assumption | omega) only [↓RP, RQ, TY, loadT, reduceIte, Nat.reduceEqDiff, Nat.reduceAdd, hE79.rw h16]
  by_cases h1 : encErr p m mod N rows msg = 0
  rotate_left
  · refine c_Encode12 A (hm.ext hE19) (hv.ext hE19) hl hlr (hw.ext hE19) hlw (fun q => absurd q h1) (fun _ H10 hE10 => ?_)
    simp (disch := first | assumption | omega) only [↓RP, RQ, TY, loadT, reduceIte, Nat.reduceEqDiff, Nat.reduceAdd, eq_true h1, Int.reduceEq, Int.reduceNe]
    exact ⟨rfl, hE19.trans hE10⟩
  have h2 : listErr p m msg rows.length = 0 := by rwa [encErr, if_neg (by simpa using hc)] at h1
  obtain ⟨l1, l2⟩ := list_ok h2
  have hx := allEl_el ok l2
  obtain ⟨cl, ce, cs⟩ := comb_ok ok hx hr els rows.length (Nat.le_refl _)
  have cs2 := pick_spn ok (set := set) cs
  have cs3 := RS.spn ok krs cs2
  refine c_Encode12 A (hm.ext hE19) (hv.ext hE19) hl hlr (hw.ext hE19) hlw (fun _ r H10 hE10 ho10 => ?_) (fun q => absurd h1 q)
  rw [Int.toNat_natCast] at ho10
  have hC : combL (fF p m mod) msg rows N = uptoN (combStep (fF p m mod) msg rows) rows.length (List.replicate N 0) := rfl
  rw [← hC] at cl ce cs cs2 cs3
  generalize combL (fF p m mod) msg rows N = C at *
  have hE1A := hE19.trans hE10
  have hE7A := hE79.trans hE10
  simp (disch := first | assumption | omega) only [↓RP, RQ, TY, loadT, reduceIte, Nat.reduceEqDiff, Nat.reduceAdd, Int.reduceEq, Int.reduceNe, hE7A.rw h36]
  refine c_Pick ho10.sl (hs.ext hE1A) (by omega) (fun j hj => by have := ho.2.1 j hj; rw [cl]; omega) fun b11 H11 hb11 hE11 hH11 => ?_
  have hE7B := hE7A.trans hE11
  have lp := pickL_length C set
  have hpe : ∀ j, (fF p m mod).El ((pickL C set).getD j 0) := fun j => by
    by_cases hj : j < set.length
    · rw [pickL, tabN_getD _ hj]; exact ce _
    · rw [getD_len _ (by omega)]; exact ok.el0
  have hle : listErr p m (pickL C set) N = 0 := by
    rw [listErr, if_neg (by omega), if_pos (show AllEl p m (pickL C set) from fun j hj => hpe j)]
  simp (disch := first | assumption | omega) only [↓RP, RQ, TY, loadT, reduceIte, Nat.reduceEqDiff, Nat.reduceAdd, hE7B.rw h36]
  refine c_cHas A (m7.ext hE7B) (by omega) (r7.ext hE7B) hc' (Sl.own hH11 (by rw [ints_length, lp])) hle fun H12 hE12' => ?_
  have hz : zeroB (redB (fF p m mod) D (canon (fF p m mod) D N).2 (pickL C set)) = true := by
    rw [hcD]
    have := red_word ok kr ke (v := pickL C set) ⟨by omega, hpe⟩ cs3
    exact zeroB_all this
  simp (disch := first | assumption | omega) only [↓RP, RQ, TY, loadT, reduceIte, Nat.reduceEqDiff, Nat.reduceAdd, hz]
  exact ⟨rfl, (hE1A.trans hE11).trans hE12'⟩
end Go.Proofs.YtbkpebmcagdgmaaGreat.AM
