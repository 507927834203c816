/- Helpers. A statement whose order Go leaves open: one order stands for all, where a check of its text says so. · A statement whose order Go leaves open: the model's own orders, all of them. · The abstract machine over whole functions: what must hold ahead of a piece of code, and that a function's contract follows from it. · A function's text, without what the abstract machine does not look at. · Equations by which simp carries a text out. · The runner: rules by which simp carries a stripped text out, one operation after the other; what cannot be decided stays as it is. · What the runner does with a step whose operands are worked out; slices of ints. · The rules in two bundles. -/
import Derived.Test.YtbkpebmcagdgmaaGreatK2
/-! A statement whose order Go leaves open: one order stands for all, where a check of its text says so. -/
namespace Go.Proofs.YtbkpebmcagdgmaaGreat.AM
open Go Go.RowKit
set_option linter.unusedVariables false
set_option linter.unusedSimpArgs false

/-- A load that was made: its operation's place, type, block, offset, value. -/
abbrev Seen := List (Nat × TypeId × Nat × Nat × AV)
/-- An order; beside each operation the loads that must still hold behind it. -/
abbrev Plan := List (Nat × List Nat)

def watch (i : Nat) (op : Op) (e : Env) (v : AV) (σ : Seen) : Seen :=
  match op with
  | .load t x => match ev e x with
    | .ptr b o => (i, t, b, o, v) :: σ
    | _ => σ
  | _ => σ

def holds (P : Program) (H : AH) (s : Nat × TypeId × Nat × Nat × AV) : Prop := loadT P s.2.1 H s.2.2.1 s.2.2.2.1 = some s.2.2.2.2

def dStep (P : Program) (all : List Oper) (x : Nat × List Nat) (σ : Seen) (e : Env) (H : AH) (κ : Seen → Env → AH → Prop) : Prop :=
  ∃ o, all[x.1]? = some o ∧ ∃ b, aw all o e = some b ∧
    (b = false → κ σ (e.put o.dst (.tup [])) H) ∧
    (b = true → if isW o.op = true then aop P e H (fun v H' => (isAl o.op = false → ∀ s, s ∈ σ → s.1 ∈ x.2 → holds P H' s) ∧ κ σ (e.put o.dst v) H') o.op
      else aop P e H (fun v _ => κ (watch x.1 o.op e v σ) (e.put o.dst v) H) o.op)

def aD (P : Program) (all : List Oper) (K : Env → AH → Prop) : Plan → Seen → Env → AH → Prop
  | [], _, e, H => K e H
  | x :: rest, σ, e, H => dStep P all x σ e H fun σ e H => aD P all K rest σ e H

/-! ### the check -/
def tmpOf : Operand → Option Nat
  | .tmp t => some t
  | _ => none
def looks (all : List Oper) (o : Oper) : List Nat :=
  o.op.operands.toList.filterMap tmpOf ++ (match o.guard with
    | some (g, _) => ((all[g]?).bind (·.dst)).toList
    | none => [])
def apart (all : List Oper) (x y : Oper) : Bool :=
  (match x.dst with
   | some d => !(looks all y).contains d && y.dst != some d
   | none => true) &&
  (match y.dst with
   | some d => !(looks all x).contains d
   | none => true)
def preds (o : Oper) : List Nat := (o.after.toList.filter fun e => Region.binds .any e).map (·.on)

def pairOk (all : List Oper) (T : List Nat) (x y : Nat × List Nat) : Bool :=
  x.1 != y.1 && ((T.getD y.1 0).testBit x.1 ||
  match all[x.1]?, all[y.1]? with
  | some ox, some oy => apart all ox oy &&
    (if isW ox.op then isAl oy.op && oy.guard.isNone else !isW oy.op || !isR ox.op || isAl oy.op || y.2.contains x.1)
  | _, _ => false)
def pairsOk (all : List Oper) (T : List Nat) : Plan → Bool
  | [] => true
  | x :: rest => rest.all (pairOk all T x) && pairsOk all T rest
def tabOk (all : List Oper) (T : List Nat) : Bool :=
  (List.range all.length).all fun i => match all[i]? with
    | some o => (preds o).all (· < i) && (List.range all.length).all fun p => !(T.getD i 0).testBit p || (preds o).any fun q => q == p || (T.getD q 0).testBit p
    | none => false
def befs (all : List Oper) : List Nat := all.foldl (fun acc o => acc ++ [(preds o).foldl (fun s j => s ||| 2 ^ j ||| acc.getD j 0) 0]) []
def planOk (all : List Oper) (pl : Plan) : Bool :=
  pl.length == all.length && pl.all (fun x => decide (x.1 < all.length)) && (List.range all.length).all (fun i => (pl.map (·.1)).contains i) && tabOk all (befs all) && pairsOk all (befs all) pl

/-! ### steps -/
section
variable {P : Program} {all : List Oper} {e : Env} {H : AH}

theorem dStep_mono {x : Nat × List Nat} {σ : Seen} {κ κ' : Seen → Env → AH → Prop} (hk : ∀ σ e H, κ σ e H → κ' σ e H) (h : dStep P all x σ e H κ) : dStep P all x σ e H κ' := by
  obtain ⟨o, ho, b, hb, h1, h2⟩ := h
  refine ⟨o, ho, b, hb, fun q => hk _ _ _ (h1 q), fun q => ?_⟩
  have h3 := h2 q
  split
  · rename_i hw; rw [if_pos hw] at h3; exact aop_mono (fun v H' hh => ⟨hh.1, hk _ _ _ hh.2⟩) h3
  · rename_i hw; rw [if_neg hw] at h3; exact aop_mono (fun v H' hh => hk _ _ _ hh) h3

theorem watch_sub {i : Nat} {op : Op} {v : AV} {σ σ' : Seen} (h : ∀ s, s ∈ σ' → s ∈ σ) : ∀ s, s ∈ watch i op e v σ' → s ∈ watch i op e v σ := by
  intro s hs
  unfold watch at hs ⊢
  split at hs
  · split at hs
    · rename_i b o hx
      first
        | (rcases List.mem_cons.1 hs with h1 | h1
           · exact List.mem_cons.2 (.inl h1)
           · exact List.mem_cons.2 (.inr (h s h1)))
        | (simp only [hx]
           rcases List.mem_cons.1 hs with h1 | h1
           · exact List.mem_cons.2 (.inl h1)
           · exact List.mem_cons.2 (.inr (h s h1)))
    · exact h s hs
  · exact h s hs
theorem watch_in {i : Nat} {op : Op} {v : AV} {σ : Seen} : ∀ s, s ∈ σ → s ∈ watch i op e v σ := by
  intro s hs
  unfold watch
  split
  · split
    · exact List.mem_cons.2 (.inr hs)
    · exact hs
  · exact hs

theorem watch_app {i : Nat} {op : Op} {v : AV} {σ : Seen} : watch i op e v σ = watch i op e v [] ++ σ := by
  cases op <;> try rfl
  case load t x =>
    simp only [watch]
    split <;> rfl

theorem aD_sub {K : Env → AH → Prop} : ∀ (l : Plan) (σ σ' : Seen) (e : Env) (H : AH), (∀ s, s ∈ σ' → s ∈ σ) → aD P all K l σ e H → aD P all K l σ' e H
  | [], σ, σ', e, H, _, h => h
  | x :: rest, σ, σ', e, H, hs, h => by
    obtain ⟨o, ho, b, hb, h1, h2⟩ := h
    refine ⟨o, ho, b, hb, fun q => aD_sub rest σ σ' _ _ hs (h1 q), fun q => ?_⟩
    have h3 := h2 q
    split
    · rename_i hw; rw [if_pos hw] at h3; exact aop_mono (fun v H' hh => ⟨fun ha s hm => hh.1 ha s (hs s hm), aD_sub rest σ σ' _ _ hs hh.2⟩) h3
    · rename_i hw; rw [if_neg hw] at h3; exact aop_mono (fun v H' hh => aD_sub rest _ _ _ _ (watch_sub hs) hh) h3

theorem ev_put {d : Option Nat} {v : AV} {x : Operand} (h : ∀ t, d = some t → x ≠ .tmp t) : ev (e.put d v) x = ev e x := by
  cases d with
  | none => rfl
  | some t =>
    cases x with
    | tmp s =>
      have : s ≠ t := fun q => h t rfl (by rw [q])
      simp [ev, Env.put, this]
    | _ => rfl
theorem ops_put {d : Option Nat} {v : AV} {o : Oper} (h : ∀ t, d = some t → t ∉ looks all o) : ∀ x ∈ o.op.operands, ev (e.put d v) x = ev e x := by
  intro x hx
  refine ev_put fun t ht hxt => h t ht ?_
  subst hxt
  unfold looks
  exact List.mem_append.2 (.inl (List.mem_filterMap.2 ⟨_, Array.mem_toList_iff.2 hx, rfl⟩))
theorem aw_put {d : Option Nat} {v : AV} {o : Oper} (h : ∀ t, d = some t → t ∉ looks all o) : aw all o (e.put d v) = aw all o e := by
  unfold aw
  cases hg : o.guard with
  | none => rfl
  | some gw =>
    obtain ⟨g, wn⟩ := gw
    dsimp only
    cases hd : (all[g]?).bind (·.dst) with
    | none => rfl
    | some c =>
      dsimp only
      have : (e.put d v) c = e c := by
        cases d with
        | none => rfl
        | some t =>
          have hne : c ≠ t := by
            rintro rfl
            refine h c rfl ?_
            unfold looks
            rw [hg]
            exact List.mem_append.2 (.inr (by simp [hd]))
          simp [Env.put, hne]
      rw [this]
theorem put_comm {c d : Option Nat} (h : ∀ t, c = some t → d ≠ some t) (v u : AV) : (e.put c v).put d u = (e.put d u).put c v := by
  cases c with
  | none => rfl
  | some s =>
    cases d with
    | none => rfl
    | some t =>
      have hne : s ≠ t := fun q => h s rfl (by rw [q])
      funext i
      simp only [Env.put]
      by_cases h1 : i = s <;> by_cases h2 : i = t <;> simp_all
theorem watch_congr {e' : Env} {i : Nat} {op : Op} {v : AV} {σ : Seen} (h : ∀ x ∈ op.operands, ev e x = ev e' x) : watch i op e v σ = watch i op e' v σ := by
  unfold watch
  cases op <;> try rfl
  case load t x => simp only [h x (by simp [Op.operands])]

theorem apart_spec {x y : Oper} (h : apart all x y = true) : (∀ t, x.dst = some t → t ∉ looks all y) ∧ (∀ t, x.dst = some t → y.dst ≠ some t) ∧ (∀ t, y.dst = some t → t ∉ looks all x) := by
  unfold apart at h
  simp only [Bool.and_eq_true] at h
  refine ⟨fun t ht => ?_, fun t ht => ?_, fun t ht => ?_⟩
  · have := h.1; rw [ht] at this; simp at this; exact this.1
  · have := h.1; rw [ht] at this; simp at this; exact this.2
  · have := h.2; rw [ht] at this; simp at this; exact this

theorem Yields.congr {e' : Env} {op : Op} {v : AV} (hc : ∀ x ∈ op.operands, ev e x = ev e' x) (h : Yields P e H op v) : Yields P e' H op v := fun K hk => by rw [← aop_congr hc]; exact h K hk

/-! ### operations that make a block -/
def mkAl : Option (Nat × Nat) → Nat → AV
  | none, b => .ptr b 0
  | some (n, s), b => .sl b 0 n (.own s)

def Al (P : Program) (e : Env) (op : Op) (cs : List AV) (m : Option (Nat × Nat)) : Prop :=
  match op with
  | .alloc t => zrT P t = some cs ∧ m = none
  | .box _ x => (ev e x).sure = true ∧ cs = (ev e x).cells ∧ m = none
  | .buildSlice t len parts => ∃ s z, szE P t = some s ∧ zrE P t = some z ∧ z.length = s ∧ 0 < s ∧ len * s ≤ 16777216 ∧
      aFill (fun i => some (i * s, s)) (reps z len) (parts.toList.map fun p => (p.1, ev e p.2)) = some cs ∧ m = some (len, s)
  | .makeSlice t l c => match ev e l, ev e c with
    | .int _ n, .int _ k => ∃ s z b_, szE P t = some s ∧ zrE P t = some z ∧ byE P t = some b_ ∧ z.length = s ∧ 0 < s ∧ k = n ∧ 0 ≤ n ∧ n * b_ ≤ 281474976710656 ∧ n ≤ 281474976710656 ∧
        cs = reps z n.toNat ∧ m = some (n.toNat, s)
    | _, _ => False
  | _ => False

theorem al_out {op : Op} (ha : isAl op = true) {K : AV → AH → Prop} (h : aop P e H K op) : ∃ cs m, Al P e op cs m ∧ aNew H cs fun b H' => K (mkAl m b) H' := by
  cases op with
  | alloc t => obtain ⟨z, hz, h⟩ := h; exact ⟨z, none, ⟨hz, rfl⟩, h⟩
  | box t x => exact ⟨_, none, ⟨h.1, rfl, rfl⟩, h.2⟩
  | buildSlice t l p => obtain ⟨s, z, cs, h1, h2, h3, h4, h5, h6, h⟩ := h; exact ⟨cs, some (l, s), ⟨s, z, h1, h2, h3, h4, h5, h6, rfl⟩, h⟩
  | makeSlice t l c =>
    simp only [aop] at h
    split at h
    · rename_i k n k' m' hl hc
      obtain ⟨s, z, b_, h1, h2, h3, h4, h5, h6, h7, h8, h9, h⟩ := h
      exact ⟨_, some (n.toNat, s), by simp only [Al, hl, hc]; exact ⟨s, z, b_, h1, h2, h3, h4, h5, h6, h7, h8, h9, rfl, rfl⟩, h⟩
    · exact h.elim
  | _ => simp [isAl] at ha

theorem al_in {op : Op} {cs : List AV} {m : Option (Nat × Nat)} (hA : Al P e op cs m) {K : AV → AH → Prop} (h : aNew H cs fun b H' => K (mkAl m b) H') : aop P e H K op := by
  cases op with
  | alloc t => obtain ⟨h1, rfl⟩ := hA; exact ⟨cs, h1, h⟩
  | box t x => obtain ⟨h1, rfl, rfl⟩ := hA; exact ⟨h1, h⟩
  | buildSlice t l p => obtain ⟨s, z, h1, h2, h3, h4, h5, h6, rfl⟩ := hA; exact ⟨s, z, cs, h1, h2, h3, h4, h5, h6, h⟩
  | makeSlice t l c =>
    simp only [Al] at hA
    simp only [aop]
    split at hA
    · rename_i k n k' m0 hl hc
      simp only [hl, hc]
      obtain ⟨s, z, b_, h1, h2, h3, h4, h5, h6, h7, h8, h9, rfl, rfl⟩ := hA
      exact ⟨s, z, b_, h1, h2, h3, h4, h5, h6, h7, h8, h9, h⟩
    · exact hA.elim
  | _ => exact hA.elim

theorem al_unique {op : Op} {cs cs' : List AV} {m m' : Option (Nat × Nat)} (h : Al P e op cs m) (h' : Al P e op cs' m') : cs = cs' ∧ m = m' := by
  cases op with
  | alloc t => obtain ⟨h1, rfl⟩ := h; obtain ⟨h2, rfl⟩ := h'; rw [h1] at h2; cases h2; exact ⟨rfl, rfl⟩
  | box t x => obtain ⟨h1, rfl, rfl⟩ := h; obtain ⟨h2, rfl, rfl⟩ := h'; exact ⟨rfl, rfl⟩
  | buildSlice t l p =>
    obtain ⟨s, z, h1, h2, h3, h4, h5, h6, rfl⟩ := h
    obtain ⟨s', z', g1, g2, g3, g4, g5, g6, rfl⟩ := h'
    rw [h1] at g1; cases g1
    rw [h2] at g2; cases g2
    rw [h6] at g6; cases g6
    exact ⟨rfl, rfl⟩
  | makeSlice t l c =>
    simp only [Al] at h h'
    split at h
    · rename_i k n k' m0 hl hc
      try simp only [hl, hc] at h'
      obtain ⟨s, z, b_, h1, h2, h3, h4, h5, h6, h7, h8, h9, rfl, rfl⟩ := h
      obtain ⟨s', z', b', g1, g2, g3, g4, g5, g6, g7, g8, g9, rfl, rfl⟩ := h'
      rw [h1] at g1; cases g1
      rw [h2] at g2; cases g2
      exact ⟨rfl, rfl⟩
    · exact h.elim
  | _ => exact h.elim

theorem al_congr {e' : Env} {op : Op} {cs : List AV} {m : Option (Nat × Nat)} (hc : ∀ x ∈ op.operands, ev e x = ev e' x) (h : Al P e op cs m) : Al P e' op cs m := by
  have ha : isAl op = true := by cases op <;> first | rfl | exact h.elim
  have h1 : aop P e (fun _ => .free) (fun _ _ => True) op := al_in h fun _ _ => trivial
  rw [aop_congr hc] at h1
  cases op with
  | alloc t => exact h
  | box t x => obtain ⟨g1, g2, g3⟩ := h; have hx := hc x (by simp [Op.operands]); exact ⟨by rw [← hx]; exact g1, by rw [← hx]; exact g2, g3⟩
  | buildSlice t n ps =>
    obtain ⟨s, z, q1, q2, q3, q4, q5, q6, q7⟩ := h
    have : (ps.toList.map fun p => (p.1, ev e p.2)) = ps.toList.map fun p => (p.1, ev e' p.2) := List.map_congr_left fun p hp => by
      have := hc p.2 (by simp only [Op.operands, List.mem_toArray, List.mem_map]; exact ⟨p, hp, rfl⟩)
      simp only [this]
    exact ⟨s, z, q1, q2, q3, q4, q5, by rw [← this]; exact q6, q7⟩
  | makeSlice t l c =>
    have h2 := hc l (by simp [Op.operands])
    have h3 := hc c (by simp [Op.operands])
    simp only [Al] at h ⊢
    rw [← h2, ← h3]
    exact h
  | _ => exact h.elim

theorem isW_of_isAl {op : Op} (h : isAl op = true) : isW op = true := by cases op <;> first | rfl | simp [isAl] at h

/-! ### two neighbours change places -/
theorem seen_upd {b : Nat} (hb : H b = .free) (s : Slot) {q : Nat × TypeId × Nat × Nat × AV} (h : holds P H q) : holds P (H.upd b s) q := loadT_upd hb s h

theorem swap {x y : Nat × List Nat} {ox oy : Oper} (hox : all[x.1]? = some ox) (hoy : all[y.1]? = some oy) (hap : apart all ox oy = true)
    (hcl : if isW ox.op = true then isAl oy.op = true ∧ oy.guard = none ∧ ∃ cs m, Al P e oy.op cs m else (isW oy.op = true → isR ox.op = true → isAl oy.op = false → x.1 ∈ y.2))
    {σ : Seen} {κ : Seen → Env → AH → Prop} (hκ : ∀ σ σ' e H, (∀ s, s ∈ σ' → s ∈ σ) → κ σ e H → κ σ' e H)
    (h : dStep P all x σ e H fun σ e H => dStep P all y σ e H κ) : dStep P all y σ e H fun σ e H => dStep P all x σ e H κ := by
  obtain ⟨a1, a2, a3⟩ := apart_spec hap
  obtain ⟨ox', hox', bx, hbx, hx0, hx1⟩ := h
  rw [hox] at hox'
  cases hox'
  -- y's operands before x is done
  have yc : ∀ v, ∀ z ∈ oy.op.operands, ev (e.put ox.dst v) z = ev e z := fun v => ops_put a1
  have ya : ∀ v, aw all oy (e.put ox.dst v) = aw all oy e := fun v => aw_put a1
  have xc : ∀ v, ∀ z ∈ ox.op.operands, ev e z = ev (e.put oy.dst v) z := fun v z hz => (ops_put a3 z hz).symm
  have xa : ∀ v, aw all ox (e.put oy.dst v) = aw all ox e := fun v => aw_put a3
  have pc : ∀ v u, (e.put ox.dst v).put oy.dst u = (e.put oy.dst u).put ox.dst v := fun v u => put_comm a2 v u
  by_cases hwx : isW ox.op = true
  · -- x writes, makes or calls: y only makes
    rw [if_pos hwx] at hcl
    obtain ⟨hal, hgn, cs, m, hA⟩ := hcl
    have hwy := isW_of_isAl hal
    have hawy : ∀ e', aw all oy e' = some true := fun e' => by simp [aw, hgn]
    refine ⟨oy, hoy, true, hawy e, fun q => by simp at q, fun _ => ?_⟩
    rw [if_pos hwy]
    refine al_in hA fun b0 hb0 => ⟨fun q => by rw [hal] at q; simp at q, ?_⟩
    have fin : ∀ v H1, dStep P all y σ (e.put ox.dst v) H1 κ → H1 b0 = .free → κ σ ((e.put oy.dst (mkAl m b0)).put ox.dst v) (H1.upd b0 (.rw cs)) := by
      intro v H1 hh hf
      obtain ⟨o', ho', b', hb', _, h2⟩ := hh
      rw [hoy] at ho'
      cases ho'
      rw [hawy] at hb'
      cases hb'
      have h3 := h2 rfl
      rw [if_pos hwy] at h3
      obtain ⟨cs', m', hA', hn⟩ := al_out hal h3
      obtain ⟨rfl, rfl⟩ := al_unique hA (al_congr (yc v) hA')
      rw [← pc]
      exact (hn b0 hf).2
    refine ⟨ox, hox, bx, by rw [xa]; exact hbx, fun q => fin _ _ (hx0 q) hb0, fun q => ?_⟩
    have h3 := hx1 q
    rw [if_pos hwx] at h3 ⊢
    rw [← aop_congr (xc _)]
    refine aop_mono (fun v H2 hh => ?_) (frame h3 hb0 cs)
    obtain ⟨H1, ⟨h4, h5⟩, hf, rfl⟩ := hh
    exact ⟨fun q1 s hs hm => seen_upd hf _ (h4 q1 s hs hm), fin v H1 h5 hf⟩
  · -- x computes or reads
    rw [if_neg hwx] at hcl
    have hwx' : isW ox.op = false := by simpa using hwx
    -- what x comes to, and that it does so behind y, too
    have key : ∀ vx : AV, ∀ σ1 : Seen, (∀ s, s ∈ σ → s ∈ σ1) → dStep P all y σ1 (e.put ox.dst vx) H κ →
        (∀ (u : AV) (H' : AH) (σ2 : Seen), (∀ s, s ∈ σ → s ∈ σ2) → (isW oy.op = true → σ2 = σ ∧ (isAl oy.op = false → ∀ s, s ∈ σ1 → s.1 ∈ y.2 → holds P H' s) ∧ (isAl oy.op = true → ∃ b0 s0, H b0 = .free ∧ H' = H.upd b0 s0)) → (isW oy.op = false → H' = H ∧ σ2 = watch y.1 oy.op e u σ) →
          κ (if isW oy.op = true then σ1 else watch y.1 oy.op e u σ1) ((e.put ox.dst vx).put oy.dst u) H' → dStep P all x σ2 (e.put oy.dst u) H' κ) →
        (κ σ1 ((e.put ox.dst vx).put oy.dst (.tup [])) H → dStep P all x σ (e.put oy.dst (.tup [])) H κ) →
        dStep P all y σ e H fun σ e H => dStep P all x σ e H κ := by
      intro vx σ1 hσ hh hyes hno
      obtain ⟨o', ho', b', hb', h1, h2⟩ := hh
      rw [hoy] at ho'
      cases ho'
      rw [ya] at hb'
      refine ⟨oy, hoy, b', hb', fun q => hno (h1 q), fun q => ?_⟩
      have h3 := h2 q
      split
      · rename_i hwy
        rw [if_pos hwy] at h3
        rw [aop_congr (yc vx)] at h3
        by_cases hal : isAl oy.op = true
        · obtain ⟨cs, m, hA, hn⟩ := al_out hal h3
          refine al_in hA fun b0 hb0 => ?_
          obtain ⟨h4, h5⟩ := hn b0 hb0
          refine ⟨fun q1 => by rw [hal] at q1; simp at q1, hyes _ _ σ (fun s hs => hs) (fun _ => ⟨rfl, h4, fun _ => ⟨b0, _, hb0, rfl⟩⟩) (fun q2 => by rw [hwy] at q2; simp at q2) (by rw [if_pos hwy]; exact h5)⟩
        · refine aop_mono (fun u H' hh => ?_) h3
          obtain ⟨h4, h5⟩ := hh
          exact ⟨fun q1 s hs hm => h4 q1 s (hσ s hs) hm, hyes _ _ σ (fun s hs => hs) (fun _ => ⟨rfl, h4, fun q2 => absurd q2 hal⟩) (fun q2 => by rw [hwy] at q2; simp at q2) (by rw [if_pos hwy]; exact h5)⟩
      · rename_i hwy
        rw [if_neg hwy] at h3
        rw [aop_congr (yc vx)] at h3
        obtain ⟨u, h4, hy⟩ := det (by simpa using hwy) h3
        refine hy _ (hyes _ _ _ watch_in (fun q2 => absurd q2 hwy) (fun _ => ⟨rfl, rfl⟩) ?_)
        rw [if_neg hwy, ← watch_congr (yc vx)]
        exact h4
    cases bx with
    | false =>
      refine key (.tup []) σ (fun s hs => hs) (hx0 rfl) (fun u H' σ2 hσ2 hW hN hk => ?_) (fun hk => ?_)
      · refine ⟨ox, hox, false, by rw [xa]; exact hbx, fun _ => ?_, fun q => by simp at q⟩
        rw [← pc]
        refine hκ _ _ _ _ ?_ hk
        by_cases hwy : isW oy.op = true
        · rw [if_pos hwy, (hW hwy).1]; exact fun s hs => hs
        · rw [if_neg hwy, (hN (by simpa using hwy)).2]; exact fun s hs => hs
      · refine ⟨ox, hox, false, by rw [xa]; exact hbx, fun _ => ?_, fun q => by simp at q⟩
        rw [← pc]
        exact hk
    | true =>
      have h3 := hx1 rfl
      rw [if_neg hwx] at h3
      obtain ⟨vx, hv, hy⟩ := det hwx' h3
      have again : ∀ (u : AV) (H' : AH) (σ2 : Seen), Yields P e H' ox.op vx → κ (watch x.1 ox.op e vx σ2) ((e.put ox.dst vx).put oy.dst u) H' → dStep P all x σ2 (e.put oy.dst u) H' κ := by
        intro u H' σ2 hyy hk
        refine ⟨ox, hox, true, by rw [xa]; exact hbx, fun q => by simp at q, fun _ => ?_⟩
        rw [if_neg hwx]
        refine (hyy.congr (xc u)) _ ?_
        rw [← pc, ← watch_congr (xc u)]
        exact hk
      refine key vx _ watch_in hv (fun u H' σ2 hσ2 hW hN hk => ?_) (fun hk => ?_)
      · by_cases hwy : isW oy.op = true
        · obtain ⟨rfl, h4, h5⟩ := hW hwy
          rw [if_pos hwy] at hk
          refine again u H' σ2 ?_ hk
          by_cases hR : isR ox.op = true
          · by_cases hal : isAl oy.op = true
            · obtain ⟨b0, s0, hb0, rfl⟩ := h5 hal
              exact hy.upd hwx' hb0 s0
            · have hal' : isAl oy.op = false := by simpa using hal
              have hmem := hcl hwy hR hal'
              have hload : ∃ t z, ox.op = .load t z := by cases hop : ox.op <;> simp [hop, isR] at hR; exact ⟨_, _, rfl⟩
              obtain ⟨t, z, hop⟩ := hload
              rw [hop] at hy h4 ⊢
              have hz := hy (fun q _ => q = vx) rfl
              simp only [aop] at hz
              split at hz
              · rename_i b o hx
                obtain ⟨q, hq, rfl⟩ := hz
                have h6 := h4 hal' (x.1, t, b, o, q) (by simp [watch, hx]) hmem
                intro K hk
                simp only [aop, hx]
                exact ⟨q, h6, hk⟩
              · exact hz.elim
          · exact hy.blind hwx' (by simpa using hR) H'
        · have hwy' : isW oy.op = false := by simpa using hwy
          obtain ⟨rfl, rfl⟩ := hN hwy'
          rw [if_neg hwy] at hk
          refine again u _ _ hy (hκ _ _ _ _ ?_ hk)
          intro s hs
          rw [watch_app (σ := watch _ _ _ _ σ)] at hs ⊢
          rw [watch_app (σ := σ)] at hs ⊢
          simp only [List.mem_append] at hs ⊢
          rcases hs with h1 | h1 | h1
          · exact .inr (.inl h1)
          · exact .inl h1
          · exact .inr (.inr h1)
      · exact again _ _ _ hy hk

end
end Go.Proofs.YtbkpebmcagdgmaaGreat.AM
/-! A statement whose order Go leaves open: the model's own orders, all of them. -/
namespace Go.Proofs.YtbkpebmcagdgmaaGreat.AM
open Go Go.RowKit
set_option linter.unusedVariables false
set_option linter.unusedSimpArgs false

section
variable {P : Program} {a : Act} {w : World}

theorem wp_live {o : Oper} {next : Act → World → Prop} (h : o.wp P a w next fun _ _ _ => False) : ∃ a' w', next a' w' := by
  unfold Oper.wp at h
  cases hr : (execOp a.eval o).run P w with
  | ok x w' =>
    rw [hr] at h
    cases x <;> simp only [Oper.upon] at h
    case value v => exact ⟨_, _, h⟩
    case skip => exact ⟨_, _, h⟩
    case defer d => exact ⟨_, _, h⟩
    case enter f args =>
      obtain ⟨e, w2, fr, hR, _⟩ := h []
      cases e with
      | returned v => exact ⟨_, _, hR⟩
      | panicked c => exact hR.elim
      | outgrown => obtain ⟨_, _, hf⟩ := hR; exact hf.elim
    case row r args =>
      obtain ⟨v, w2, hR, _⟩ := h default []
      exact ⟨_, _, hR⟩
  | halt x w' =>
    rw [hr] at h
    cases x <;> simp only [Oper.upon] at h

theorem live {o : Oper} {e : Env} {H : AH} {K : AV → AH → Prop} (hr : Rep H w) (he : EnvRel w e a) (h : aop P e H K o.op) : ∃ v H' u w', K v H' ∧ Rep H' w' ∧ RV w' v u ∧ Pres w w' := by
  have := aop_sound (o := o) (next := fun _ w' => ∃ v H' u, K v H' ∧ Rep H' w' ∧ RV w' v u ∧ Pres w w') (Q := fun _ _ _ => False) hr he h (fun v H' u w' h1 h2 h3 h4 => ⟨v, H', u, h1, h2, h3, h4.pres⟩)
  obtain ⟨_, w', v, H', u, h1⟩ := wp_live this
  exact ⟨v, H', u, w', h1⟩

variable {all : List Oper}

/-- x may change places with y behind it. -/
def Free (all : List Oper) (x y : Nat × List Nat) (ox oy : Oper) : Prop :=
  apart all ox oy = true ∧ if isW ox.op = true then isAl oy.op = true ∧ oy.guard = none else (isW oy.op = true → isR ox.op = true → isAl oy.op = false → x.1 ∈ y.2)

theorem path {n : Nat} (hd : ∀ o ∈ all, okDst n o) {K : Env → AH → Prop} {y : Nat × List Nat} {oy : Oper} (hoy : all[y.1]? = some oy) (hal : isAl oy.op = true) (hg : oy.guard = none) (l2 : Plan) :
    ∀ (l1 : Plan) (σ : Seen) (e : Env) (H : AH) (a : Act) (w : World), Rep H w → EnvRel w e a → a.tmps.size = n → (∀ x ∈ l1, ∃ ox, all[x.1]? = some ox ∧ apart all ox oy = true) →
      aD P all K (l1 ++ y :: l2) σ e H → ∃ cs m, Al P e oy.op cs m
  | [], σ, e, H, a, w, hr, he, hn, hx, h => by
    obtain ⟨o, ho, b, hb, h1, h2⟩ := h
    rw [hoy] at ho
    cases ho
    have : aw all oy e = some true := by simp [aw, hg]
    rw [this] at hb
    cases hb
    have h3 := h2 rfl
    rw [if_pos (isW_of_isAl hal)] at h3
    obtain ⟨cs, m, hA, _⟩ := al_out hal h3
    exact ⟨cs, m, hA⟩
  | x :: l1, σ, e, H, a, w, hr, he, hn, hx, h => by
    obtain ⟨ox, hox, hap⟩ := hx x (by simp)
    obtain ⟨a1, a2, a3⟩ := apart_spec hap
    have back : ∀ v, (∃ cs m, Al P (e.put ox.dst v) oy.op cs m) → ∃ cs m, Al P e oy.op cs m := fun v ⟨cs, m, hA⟩ => ⟨cs, m, al_congr (ops_put a1) hA⟩
    have hdx : ∀ d, ox.dst = some d → d < n := hd ox (List.mem_of_getElem? hox)
    have hx' : ∀ z ∈ l1, ∃ oz, all[z.1]? = some oz ∧ apart all oz oy = true := fun z hz => hx z (by simp [hz])
    obtain ⟨o, ho, b, hb, h1, h2⟩ := h
    rw [hox] at ho
    cases ho
    cases b with
    | false => exact back _ (path hd hoy hal hg l2 l1 σ _ H (a.put ox.dst undef) w hr (he.put hn hdx (undef_rel w)) (by rw [put_size]; exact hn) hx' (h1 rfl))
    | true =>
      have h3 := h2 rfl
      split at h3
      · obtain ⟨v, H', u, w', hk, hr', hu, hp⟩ := live (o := ox) hr he h3
        exact back v (path hd hoy hal hg l2 l1 σ _ H' (a.put ox.dst u) w' hr' ((he.mono hp).put hn hdx hu) (by rw [put_size]; exact hn) hx' hk.2)
      · rename_i hw
        obtain ⟨v, hk, hy⟩ := det (by simpa using hw) h3
        obtain ⟨v', H', u, w', hk', hr', hu, hp⟩ := live (o := ox) hr he (hy (fun q G => q = v ∧ G = H) ⟨rfl, rfl⟩)
        obtain ⟨rfl, rfl⟩ := hk'
        exact back v' (path hd hoy hal hg l2 l1 _ _ H' (a.put ox.dst u) w' hr' ((he.mono hp).put hn hdx hu) (by rw [put_size]; exact hn) hx' hk)

theorem dStep_mono' {x : Nat × List Nat} {ox : Oper} (hox : all[x.1]? = some ox) {σ : Seen} {e : Env} {H : AH} {κ κ' : Seen → Env → AH → Prop} (hk : ∀ σ v H, κ σ (e.put ox.dst v) H → κ' σ (e.put ox.dst v) H)
    (h : dStep P all x σ e H κ) : dStep P all x σ e H κ' := by
  obtain ⟨o, ho, b, hb, h1, h2⟩ := h
  rw [hox] at ho
  cases ho
  refine ⟨ox, hox, b, hb, fun q => hk _ _ _ (h1 q), fun q => ?_⟩
  have h3 := h2 q
  split
  · rename_i hw; rw [if_pos hw] at h3; exact aop_mono (fun v H' hh => ⟨hh.1, hk _ _ _ hh.2⟩) h3
  · rename_i hw; rw [if_neg hw] at h3; exact aop_mono (fun v H' hh => hk _ _ _ hh) h3

theorem bubble {K : Env → AH → Prop} {y : Nat × List Nat} {oy : Oper} (hoy : all[y.1]? = some oy) (l2 : Plan) :
    ∀ (l1 : Plan) (σ : Seen) (e : Env) (H : AH), (∀ x ∈ l1, ∃ ox, all[x.1]? = some ox ∧ Free all x y ox oy) → ((∃ x ∈ l1, ∃ ox, all[x.1]? = some ox ∧ isW ox.op = true) → ∃ cs m, Al P e oy.op cs m) →
      aD P all K (l1 ++ y :: l2) σ e H → aD P all K (y :: (l1 ++ l2)) σ e H
  | [], σ, e, H, _, _, h => h
  | x :: l1, σ, e, H, hf, hal, h => by
    obtain ⟨ox, hox, hap, hcl⟩ := hf x (by simp)
    obtain ⟨a1, a2, a3⟩ := apart_spec hap
    have h' : dStep P all x σ e H fun σ e H => aD P all K (y :: (l1 ++ l2)) σ e H := by
      refine dStep_mono' hox (fun σ' v H' hh => bubble hoy l2 l1 σ' _ H' (fun z hz => hf z (by simp [hz])) (fun hz => ?_) hh) h
      obtain ⟨cs, m, hA⟩ := hal (by obtain ⟨z, hz, q⟩ := hz; exact ⟨z, by simp [hz], q⟩)
      exact ⟨cs, m, al_congr (fun z hz => (ops_put a1 z hz).symm) hA⟩
    refine swap hox hoy hap ?_ (fun σ σ' e H hs hh => aD_sub _ σ σ' e H hs hh) h'
    split
    · rename_i hw
      rw [if_pos hw] at hcl
      exact ⟨hcl.1, hcl.2, hal ⟨x, by simp, ox, hox, hw⟩⟩
    · rename_i hw
      rw [if_neg hw] at hcl
      exact hcl

theorem min_of : ∀ (l : List Nat), l ≠ [] → ∃ m ∈ l, ∀ q ∈ l, m ≤ q
  | [], h => absurd rfl h
  | [x], _ => ⟨x, by simp, fun q hq => by simp at hq; omega⟩
  | x :: y :: l, _ => by
    obtain ⟨m, hm, hl⟩ := min_of (y :: l) (by simp)
    by_cases h : x ≤ m
    · exact ⟨x, by simp, fun q hq => by
        rcases List.mem_cons.1 hq with rfl | hq
        · exact Nat.le_refl _
        · exact Nat.le_trans h (hl q hq)⟩
    · exact ⟨m, List.mem_cons_of_mem _ hm, fun q hq => by
        rcases List.mem_cons.1 hq with rfl | hq
        · omega
        · exact hl q hq⟩

theorem pairsOk_pairwise {T : List Nat} : ∀ {pl : Plan}, pairsOk all T pl = true → pl.Pairwise fun x y => pairOk all T x y = true
  | [], _ => .nil
  | x :: rest, h => by
    simp only [pairsOk, Bool.and_eq_true, List.all_eq_true] at h
    exact .cons h.1 (pairsOk_pairwise h.2)

theorem wanted_sound {ops : Array Oper} {n : Nat} (hd : ∀ o ∈ ops, okDst n o) {e : Env} (he : EnvRel w e a) (hn : a.tmps.size = n) {o : Oper} {b : Bool} (h : aw ops.toList o e = some b) : Region.wanted o (yielded ops a.tmps) = b := by
  unfold aw at h
  unfold Region.wanted
  cases hg : o.guard with
  | none => rw [hg] at h; cases h; rfl
  | some gw =>
    obtain ⟨g, wn⟩ := gw
    rw [hg] at h
    dsimp only at h ⊢
    unfold yielded
    rw [Array.getElem?_toList] at h
    cases hx : (ops[g]?).bind (·.dst) with
    | none => rw [hx] at h; cases h; simp
    | some d =>
      rw [hx] at h
      dsimp only at h
      have hdn : d < a.tmps.size := by
        cases hog : ops[g]? with
        | none => rw [hog] at hx; cases hx
        | some og =>
          rw [hog] at hx
          rw [hn]
          exact hd og (Array.mem_of_getElem? hog) d hx
      have hrel := he d
      simp only [Option.bind_some, Array.getElem?_eq_getElem hdn]
      rw [Array.getD_eq_getD_getElem?, Array.getElem?_eq_getElem hdn, Option.getD_some] at hrel
      generalize a.tmps[d] = u at hrel
      generalize e d = q at hrel h
      cases hrel <;> first
        | (cases h; done)
        | (cases h; simp)

theorem draw_sound {ops : Array Oper} {pl : Plan} (hok : planOk ops.toList pl = true) {n : Nat} (hd : ∀ o ∈ ops, okDst n o) {K : Env → AH → Prop} {e : Env} {H : AH} {Q : Exit → Act → World → Prop}
    (hK : aD P ops.toList K pl [] e H) (hr : Rep H w) (he : EnvRel w e a) (hn : a.tmps.size = n)
    (hQ : ∀ e' H' a' w', K e' H' → Rep H' w' → EnvRel w' e' a' → a'.tmps.size = n → a'.defers = a.defers → Stp H H' w w' → Q .normal a' w') :
    wpAny P .any ops Q ops.size (Array.replicate ops.size false) a w := by
  simp only [planOk, Bool.and_eq_true, beq_iff_eq, Array.length_toList, List.all_eq_true, List.mem_range] at hok
  obtain ⟨⟨⟨⟨hlen, hlt0⟩, hin⟩, htab⟩, hpairs⟩ := hok
  generalize hT : befs ops.toList = T at htab hpairs
  have hd' : ∀ o ∈ ops.toList, okDst n o := fun o ho => hd o (Array.mem_toList_iff.1 ho)
  have htab' : ∀ i, i < ops.size → ∃ o, ops[i]? = some o ∧ (∀ q ∈ preds o, q < i) ∧ ∀ p, p < ops.size → (T.getD i 0).testBit p = true → ∃ q ∈ preds o, q = p ∨ (T.getD q 0).testBit p = true := by
    intro i hi
    unfold tabOk at htab
    simp only [List.all_eq_true, List.mem_range, Array.length_toList] at htab
    have h1 := htab i hi
    rw [Array.getElem?_toList, Array.getElem?_eq_getElem hi] at h1
    refine ⟨ops[i], Array.getElem?_eq_getElem hi, ?_⟩
    simp only [Bool.and_eq_true, List.all_eq_true, decide_eq_true_eq, List.mem_range, Array.length_toList, Bool.or_eq_true, Bool.not_eq_true', List.any_eq_true, beq_iff_eq] at h1
    refine ⟨h1.1, fun p hp ht => ?_⟩
    rcases h1.2 p hp with h2 | h2
    · rw [ht] at h2; cases h2
    · exact h2
  have hpred : ∀ (o : Oper) (q : Nat), q ∈ preds o ↔ ∃ ed ∈ o.after, Region.binds .any ed = true ∧ ed.on = q := by
    intro o q
    unfold preds
    simp only [List.mem_map, List.mem_filter, Array.mem_toList_iff]
    exact ⟨fun ⟨ed, ⟨h1, h2⟩, h3⟩ => ⟨ed, h1, h2, h3⟩, fun ⟨ed, h1, h2, h3⟩ => ⟨ed, ⟨h1, h2⟩, h3⟩⟩
  -- what stands before i has been carried out, if i's own edges have
  have clos : ∀ (listed : Array Bool), (∀ i o, ops[i]? = some o → listed.getD i false = true → ∀ q ∈ preds o, listed.getD q false = true) →
      ∀ i o, ops[i]? = some o → (∀ q ∈ preds o, listed.getD q false = true) → ∀ p, p < ops.size → (T.getD i 0).testBit p = true → listed.getD p false = true := by
    intro listed hc i
    induction i using Nat.strongRecOn with
    | _ i ih =>
      intro o ho hq p hp ht
      have hi : i < ops.size := (Array.getElem?_eq_some_iff.1 ho).1
      obtain ⟨o', ho', h1, h2⟩ := htab' i hi
      rw [ho] at ho'
      cases ho'
      obtain ⟨q, hqm, hor⟩ := h2 p hp ht
      rcases hor with rfl | hor
      · exact hq q hqm
      · have hqi := h1 q hqm
        have hqs : q < ops.size := by omega
        exact ih q hqi _ (Array.getElem?_eq_getElem hqs) (hc q _ (Array.getElem?_eq_getElem hqs) (hq q hqm)) p hp hor
  have main : ∀ (fuel : Nat) (pend : Plan) (listed : Array Bool) (σ : Seen) (e1 : Env) (H1 : AH) (a1 : Act) (w1 : World), pend.length = fuel → listed.size = ops.size →
      (∀ x ∈ pend, x.1 < ops.size) → (∀ j, j < ops.size → (listed.getD j false = false ↔ j ∈ pend.map (·.1))) →
      (∀ i o, ops[i]? = some o → listed.getD i false = true → ∀ q ∈ preds o, listed.getD q false = true) → (pend.Pairwise fun x y => pairOk ops.toList T x y = true) →
      aD P ops.toList K pend σ e1 H1 → Rep H1 w1 → EnvRel w1 e1 a1 → a1.tmps.size = n → a1.defers = a.defers → Stp H H1 w w1 → wpAny P .any ops Q fuel listed a1 w1 := by
    intro fuel
    induction fuel with
    | zero =>
      intro pend listed σ e1 H1 a1 w1 hlen hsz hlt hiff hc hp hA hr1 he1 hn1 hdf hst
      have : pend = [] := List.eq_nil_of_length_eq_zero hlen
      subst this
      refine ⟨?_, hQ _ _ _ _ hA hr1 he1 hn1 hdf hst⟩
      rw [List.eq_nil_iff_forall_not_mem]
      intro j hj
      rw [mem_ready] at hj
      obtain ⟨h0, o, ho, _⟩ := hj
      have hjs : j < ops.size := (Array.getElem?_eq_some_iff.1 ho).1
      have hf : listed.getD j false = false := by
        rw [Array.getD_eq_getD_getElem?, Array.getElem?_eq_getElem (by omega)] at h0 ⊢
        exact h0
      have := (hiff j hjs).1 hf
      simp at this
    | succ fuel ih =>
      intro pend listed σ e1 H1 a1 w1 hlen hsz hlt hiff hc hp hA hr1 he1 hn1 hdf hst
      refine ⟨fun hnil => ?_, fun i hi => ?_⟩
      · exfalso
        have hne : pend.map (·.1) ≠ [] := by
          intro h0
          have h0' : pend = [] := by simpa using h0
          subst h0'
          simp at hlen
        obtain ⟨m, hm, hmin⟩ := min_of _ hne
        have hms : m < ops.size := by
          obtain ⟨x, hx, rfl⟩ := List.mem_map.1 hm
          exact hlt x hx
        have hmf := (hiff m hms).2 hm
        obtain ⟨o, ho, h1, _⟩ := htab' m hms
        have : m ∈ Region.ready .any ops listed := by
          rw [mem_ready]
          refine ⟨by rw [Array.getD_eq_getD_getElem?, Array.getElem?_eq_getElem (by omega)] at hmf ⊢; exact hmf, o, ho, fun ed hed hb => ?_⟩
          have hq : ed.on ∈ preds o := (hpred o ed.on).2 ⟨ed, hed, hb, rfl⟩
          have hqlt := h1 _ hq
          cases hl : listed.getD ed.on false with
          | true => rfl
          | false =>
            have := hmin _ ((hiff ed.on (by omega)).1 hl)
            omega
        rw [hnil] at this
        simp at this
      · rw [mem_ready] at hi
        obtain ⟨h0, o, ho, hall⟩ := hi
        have his : i < ops.size := (Array.getElem?_eq_some_iff.1 ho).1
        have hif : listed.getD i false = false := by
          rw [Array.getD_eq_getD_getElem?, Array.getElem?_eq_getElem (by omega)] at h0 ⊢
          exact h0
        have hready : ∀ q ∈ preds o, listed.getD q false = true := by
          intro q hq
          obtain ⟨ed, h1, h2, rfl⟩ := (hpred o q).1 hq
          exact hall ed h1 h2
        obtain ⟨y, hy, hyi⟩ := List.mem_map.1 ((hiff i his).1 hif)
        subst hyi
        obtain ⟨l1, l2, rfl⟩ := List.append_of_mem hy
        have hoy : ops.toList[y.1]? = some o := by rw [Array.getElem?_toList]; exact ho
        rw [List.pairwise_append] at hp
        obtain ⟨hp1, hp2, hp12⟩ := hp
        rw [List.pairwise_cons] at hp2
        have hfree : ∀ x ∈ l1, ∃ ox, ops.toList[x.1]? = some ox ∧ Free ops.toList x y ox o := by
          intro x hx
          have hxs : x.1 < ops.size := hlt x (by simp [hx])
          have hxf : listed.getD x.1 false = false := (hiff x.1 hxs).2 (List.mem_map.2 ⟨x, by simp [hx], rfl⟩)
          have hpo := hp12 x hx y (by simp)
          simp only [pairOk, Bool.and_eq_true] at hpo
          obtain ⟨_, hpo⟩ := hpo
          have hnb : (T.getD y.1 0).testBit x.1 = false := by
            cases hb : (T.getD y.1 0).testBit x.1 with
            | false => rfl
            | true =>
              have := clos listed hc y.1 o ho hready x.1 hxs hb
              rw [hxf] at this
              cases this
          rw [hnb, Bool.false_or, hoy, Array.getElem?_toList, Array.getElem?_eq_getElem hxs] at hpo
          simp only [Bool.and_eq_true] at hpo
          refine ⟨ops[x.1], by rw [Array.getElem?_toList, Array.getElem?_eq_getElem hxs], hpo.1, ?_⟩
          have h2 := hpo.2
          split at h2
          · rename_i hw
            rw [if_pos hw]
            simp only [Bool.and_eq_true] at h2
            exact ⟨h2.1, Option.isNone_iff_eq_none.1 h2.2⟩
          · rename_i hw
            rw [if_neg hw]
            intro q1 q2 q3
            simp only [q1, q2, q3, Bool.not_true, Bool.false_or] at h2
            simpa using h2
        have hA' := bubble hoy l2 l1 σ e1 H1 hfree (fun ⟨x, hx, ox, hox, hw⟩ => by
          obtain ⟨ox', hox', hf1, hf2⟩ := hfree x hx
          rw [hox] at hox'
          cases hox'
          rw [if_pos hw] at hf2
          exact path hd' hoy hf2.1 hf2.2 l2 l1 σ e1 H1 a1 w1 hr1 he1 hn1 (fun z hz => by obtain ⟨oz, h1, h2, _⟩ := hfree z hz; exact ⟨oz, h1, h2⟩) hA) hA
        -- the rest, once y is done
        have hnext : ∀ (σ' : Seen) (e2 : Env) (H2 : AH) (a2 : Act) (w2 : World), aD P ops.toList K (l1 ++ l2) σ' e2 H2 → Rep H2 w2 → EnvRel w2 e2 a2 → a2.tmps.size = n → a2.defers = a.defers → Stp H H2 w w2 →
            wpAny P .any ops Q fuel (listed.setIfInBounds y.1 true) a2 w2 := by
          intro σ' e2 H2 a2 w2 g1 g2 g3 g4 g5 g6
          have hne : ∀ x ∈ l1 ++ l2, x.1 ≠ y.1 := by
            intro x hx
            rcases List.mem_append.1 hx with hx | hx
            · have hpo := hp12 x hx y (by simp)
              simp only [pairOk, Bool.and_eq_true, bne_iff_ne] at hpo
              exact hpo.1
            · have hpo := hp2.1 x hx
              simp only [pairOk, Bool.and_eq_true, bne_iff_ne] at hpo
              exact Ne.symm hpo.1
          refine ih (l1 ++ l2) _ σ' e2 H2 a2 w2 ?_ (by simpa using hsz) (fun x hx => hlt x ?_) (fun j hj => ?_) (fun i' o' ho' hl q hq => ?_) ?_ g1 g2 g3 g4 g5 g6
          · simp only [List.length_append, List.length_cons] at hlen ⊢
            omega
          · rcases List.mem_append.1 hx with hx | hx <;> simp [hx]
          · by_cases hjy : y.1 = j
            · subst hjy
              have hset : (listed.setIfInBounds y.1 true).getD y.1 false = true := by
                rw [Array.getD_eq_getD_getElem?, Array.getElem?_setIfInBounds_self_of_lt (by omega)]
                rfl
              rw [hset]
              refine ⟨(fun h => by cases h), fun h => ?_⟩
              obtain ⟨x, hx, hxe⟩ := List.mem_map.1 h
              exact absurd hxe (hne x hx)
            · rw [getD_set_ne false hjy, hiff j hj]
              simp only [List.map_append, List.map_cons, List.mem_append, List.mem_cons]
              constructor
              · rintro (h | h | h)
                · exact .inl h
                · exact absurd h.symm hjy
                · exact .inr h
              · rintro (h | h)
                · exact .inl h
                · exact .inr (.inr h)
          · by_cases hjy : y.1 = i'
            · subst hjy
              rw [ho] at ho'
              cases ho'
              exact getD_set_true (hready q hq)
            · rw [getD_set_ne false hjy] at hl
              exact getD_set_true (hc i' o' ho' hl q hq)
          · rw [List.pairwise_append]
            exact ⟨hp1, hp2.2, fun x hx z hz => hp12 x hx z (by simp [hz])⟩
        unfold wpOp
        rw [ho]
        dsimp only
        obtain ⟨o', ho', b, hb, h1, h2⟩ := hA'
        rw [hoy] at ho'
        cases ho'
        rw [wanted_sound hd he1 hn1 hb]
        have hdx : ∀ d, o.dst = some d → d < n := hd o (Array.mem_of_getElem? ho)
        cases b with
        | false =>
          rw [if_neg (by simp)]
          exact hnext σ _ H1 _ w1 (h1 rfl) hr1 (he1.put hn1 hdx (undef_rel w1)) (by rw [put_size]; exact hn1) (by rw [put_defers]; exact hdf) hst
        | true =>
          rw [if_pos rfl]
          refine .inl ?_
          have h3 := h2 rfl
          split at h3
          · refine aop_sound hr1 he1 h3 fun v H' u w' hk hr' hu hs => ?_
            exact hnext σ _ H' _ w' hk.2 hr' ((he1.mono hs.pres).put hn1 hdx hu) (by rw [put_size]; exact hn1) (by rw [put_defers]; exact hdf) (hst.trans hs)
          · rename_i hw
            obtain ⟨v, hk, hyl⟩ := det (by simpa using hw) h3
            refine aop_sound hr1 he1 (hyl (fun q G => q = v ∧ G = H1) ⟨rfl, rfl⟩) fun v' H' u w' hk' hr' hu hs => ?_
            obtain ⟨rfl, rfl⟩ := hk'
            exact hnext _ _ H' _ w' hk hr' ((he1.mono hs.pres).put hn1 hdx hu) (by rw [put_size]; exact hn1) (by rw [put_defers]; exact hdf) (hst.trans hs)
  have hall : ∀ x ∈ pl, x.1 < ops.size := fun x hx => by simpa using hlt0 x hx
  refine main ops.size pl _ [] e H a w hlen (by simp) hall (fun j hj => ?_) (fun i o ho hl => ?_) (pairsOk_pairwise hpairs) hK hr he hn rfl (Stp.refl _ _)
  · have : (Array.replicate ops.size false).getD j false = false := by simp [Array.getD]
    rw [this]
    exact ⟨fun _ => by simpa using hin j hj, fun _ => rfl⟩
  · have : (Array.replicate ops.size false).getD i false = false := by simp [Array.getD]
    rw [this] at hl
    cases hl

end
end Go.Proofs.YtbkpebmcagdgmaaGreat.AM
/-! The abstract machine over whole functions: what must hold ahead of a piece of code, and that a function's contract follows from it. -/
namespace Go.Proofs.YtbkpebmcagdgmaaGreat.AM
open Go Go.RowKit
set_option linter.unusedVariables false
set_option linter.unusedSimpArgs false

abbrev APost := AX → Env → AH → Prop

def AX.then (K : Env → AH → Prop) (Q : APost) : APost
  | .normal => K
  | x => Q x
def AX.inBlock (id : Nat) (Q : APost) : APost
  | .exit i => if i = id then Q .normal else Q (.exit i)
  | x => Q x

def awp (P : Program) (pl : Nat → Plan) : Code → APost → Env → AH → Prop
  | .skip, Q => Q .normal
  | .region id ops draw, Q => fun e H => if draw = true then aD P ops.toList (Q .normal) (pl id) [] e H else aops P ops.toList ops.toList e H (Q .normal)
  | .seq a b, Q => awp P pl a (AX.then (awp P pl b Q) Q)
  | .cond c a b, Q => fun e H => match ev e c with
    | .bool t => (t = true → awp P pl a Q e H) ∧ (t = false → awp P pl b Q e H)
    | _ => False
  | .block id c, Q => awp P pl c (AX.inBlock id Q)
  | .loop c, Q => fun e H => ∃ (I : Env → AH → Prop) (μ : Env → AH → Nat), I e H ∧ ∀ e H, I e H → awp P pl c (AX.then (fun e' H' => I e' H' ∧ μ e' H' < μ e H) Q) e H
  | .exit id, Q => Q (.exit id)
  | .ret, Q => Q .ret
  | _, _ => fun _ _ => False

def dstOk (n : Nat) (o : Oper) : Bool := match o.dst with
  | some d => decide (d < n)
  | none => true
def codeOk (n : Nat) (pl : Nat → Plan) : Code → Bool
  | .region id ops draw => ops.all (dstOk n) && (!draw || planOk ops.toList (pl id))
  | .seq a b => codeOk n pl a && codeOk n pl b
  | .cond _ a b => codeOk n pl a && codeOk n pl b
  | .block _ c => codeOk n pl c
  | .loop c => codeOk n pl c
  | _ => true

def aRes1 (P : Program) (e : Env) (H : AH) : ResultVar → Option AV
  | .tmp t => some (e t)
  | .cell a t => match e a with
    | .ptr b o => loadT P t H b o
    | _ => none
def aResL (P : Program) (e : Env) (H : AH) : List ResultVar → Option (List AV)
  | [] => some []
  | r :: rest => match aRes1 P e H r with
    | some v => (aResL P e H rest).map (v :: ·)
    | none => none
def aRes (P : Program) (e : Env) (H : AH) (rs : List ResultVar) : Option AV :=
  match aResL P e H rs with
  | some [v] => some v
  | some vs => some (.tup vs)
  | none => none

def env0 (args : List AV) : Env := fun t => args.getD t (.tup [])

section
variable {P : Program} {pl : Nat → Plan} {n : Nat}

def exOf : Exit → Option AX
  | .normal => some .normal
  | .exit id => some (.exit id)
  | .ret => some .ret
  | _ => none

def Lift (n : Nat) (H0 : AH) (w0 : World) (Q : APost) : Exit → Act → World → Prop := fun x a w => ∃ X e H, exOf x = some X ∧ Q X e H ∧ Rep H w ∧ EnvRel w e a ∧ a.tmps.size = n ∧ a.defers = [] ∧ Stp H0 H w0 w

theorem dstOk_spec {o : Oper} (h : dstOk n o = true) : okDst n o := by
  intro d hd
  unfold dstOk at h
  rw [hd] at h
  simpa using h

theorem aops_sound {ops : Array Oper} (hd : ∀ o ∈ ops, okDst n o) {H0 : AH} {w0 : World} {Q : APost} :
    ∀ (l : List Oper) (e : Env) (H : AH) (a : Act) (w : World), (∀ o ∈ l, okDst n o) → aops P ops.toList l e H (Q .normal) → Rep H w → EnvRel w e a → a.tmps.size = n → a.defers = [] → Stp H0 H w0 w →
      wpList P ops (Lift n H0 w0 Q) l a w
  | [], e, H, a, w, _, h, hr, he, hn, hdf, hs => ⟨.normal, e, H, rfl, h, hr, he, hn, hdf, hs⟩
  | o :: l, e, H, a, w, hdl, h, hr, he, hn, hdf, hs => by
    obtain ⟨b, hb, h1, h2⟩ := h
    have hdo := hdl o (by simp)
    have hdl' : ∀ o ∈ l, okDst n o := fun z hz => hdl z (by simp [hz])
    unfold wpList
    rw [wanted_sound hd he hn hb]
    cases b with
    | false =>
      rw [if_neg (by simp)]
      exact aops_sound hd l _ H _ w hdl' (h2 rfl) hr (he.put hn hdo (undef_rel w)) (by rw [put_size]; exact hn) (by rw [put_defers]; exact hdf) hs
    | true =>
      rw [if_pos rfl]
      exact .inl (aop_sound hr he (h1 rfl) fun v H' u w' hk hr' hu hs' =>
        aops_sound hd l _ H' _ w' hdl' hk hr' ((he.mono hs'.pres).put hn hdo hu) (by rw [put_size]; exact hn) (by rw [put_defers]; exact hdf) (hs.trans hs'))

theorem awp_sound (hm : P.follows .mixedOrders = true) {H0 : AH} {w0 : World} : ∀ (c : Code) (Q : APost) (e : Env) (H : AH) (a : Act) (w : World), codeOk n pl c = true → awp P pl c Q e H → Rep H w → EnvRel w e a → a.tmps.size = n → a.defers = [] → Stp H0 H w0 w →
      c.wp P (Lift n H0 w0 Q) a w := by
  intro c
  induction c with
  | skip => exact fun Q e H a w _ h hr he hn hdf hs => wp_skip ⟨.normal, e, H, rfl, h, hr, he, hn, hdf, hs⟩
  | exit id => exact fun Q e H a w _ h hr he hn hdf hs => wp_exit ⟨.exit id, e, H, rfl, h, hr, he, hn, hdf, hs⟩
  | ret => exact fun Q e H a w _ h hr he hn hdf hs => wp_ret ⟨.ret, e, H, rfl, h, hr, he, hn, hdf, hs⟩
  | region id ops draw =>
    intro Q e H a w hok h hr he hn hdf hs
    simp only [codeOk, Bool.and_eq_true, Array.all_eq_true_iff_forall_mem] at hok
    have hd : ∀ o ∈ ops, okDst n o := fun o ho => dstOk_spec (hok.1 o ho)
    cases draw with
    | false =>
      simp only [awp, Bool.false_eq_true, if_false] at h
      exact wp_region_list (aops_sound hd ops.toList e H a w (fun o ho => hd o (Array.mem_toList_iff.1 ho)) h hr he hn hdf hs)
    | true =>
      simp only [awp, if_true] at h
      have hpl : planOk ops.toList (pl id) = true := by simpa using hok.2
      refine wp_region_any hm ?_
      exact draw_sound (w := w.drew) hpl hd h hr.drew (he.mono (w' := w.drew) (Pres.of_old (Nat.le_refl _) fun _ _ => rfl)) hn
        (fun e' H' a' w' hk hr' he' hn' hdf' hs' => ⟨.normal, e', H', rfl, hk, hr', he', hn', hdf'.trans hdf, hs.trans hs'.undrew⟩)
  | seq x y ihx ihy =>
    intro Q e H a w hok h hr he hn hdf hs
    simp only [codeOk, Bool.and_eq_true] at hok
    refine wp_seq (Code.wp_mono (fun ex a' w' hl => ?_) (ihx _ e H a w hok.1 h hr he hn hdf hs))
    obtain ⟨X, e', H', hX, hq, hr', he', hn', hdf', hs'⟩ := hl
    cases ex with
    | normal => cases hX; exact ihy Q e' H' a' w' hok.2 hq hr' he' hn' hdf' hs'
    | exit id => cases hX; exact ⟨.exit id, e', H', rfl, hq, hr', he', hn', hdf', hs'⟩
    | ret => cases hX; exact ⟨.ret, e', H', rfl, hq, hr', he', hn', hdf', hs'⟩
    | goto l => cases hX
    | panic c => cases hX
    | outgrown => cases hX
  | cond c x y ihx ihy =>
    intro Q e H a w hok h hr he hn hdf hs
    simp only [codeOk, Bool.and_eq_true] at hok
    simp only [awp] at h
    split at h
    · rename_i t ht
      have hc := he.ev c
      rw [ht] at hc
      generalize hcv : a.eval c = cv at hc
      cases hc
      cases t with
      | true => exact wp_cond_true hcv (ihx Q e H a w hok.1 (h.1 rfl) hr he hn hdf hs)
      | false => exact wp_cond_false hcv (ihy Q e H a w hok.2 (h.2 rfl) hr he hn hdf hs)
    · exact h.elim
  | block id c ih =>
    intro Q e H a w hok h hr he hn hdf hs
    simp only [codeOk] at hok
    refine wp_block (Code.wp_mono (fun ex a' w' hl => ?_) (ih _ e H a w hok h hr he hn hdf hs))
    obtain ⟨X, e', H', hX, hq, hr', he', hn', hdf', hs'⟩ := hl
    cases ex with
    | normal => cases hX; exact ⟨.normal, e', H', rfl, hq, hr', he', hn', hdf', hs'⟩
    | exit i =>
      cases hX
      simp only [AX.inBlock] at hq
      simp only [Exit.inBlock]
      split at hq
      · rename_i hi; rw [if_pos hi]; exact ⟨.normal, e', H', rfl, hq, hr', he', hn', hdf', hs'⟩
      · rename_i hi; rw [if_neg hi]; exact ⟨.exit i, e', H', rfl, hq, hr', he', hn', hdf', hs'⟩
    | ret => cases hX; exact ⟨.ret, e', H', rfl, hq, hr', he', hn', hdf', hs'⟩
    | goto l => cases hX
    | panic c => cases hX
    | outgrown => cases hX
  | loop c ih =>
    intro Q e H a w hok h hr he hn hdf hs
    simp only [codeOk] at hok
    obtain ⟨I, μ, h0, hround⟩ := h
    intro b k cs
    have key : ∀ m e H a w, μ e H = m → I e H → Rep H w → EnvRel w e a → a.tmps.size = n → a.defers = [] → Stp H0 H w0 w →
        ∃ x a' w', Lift n H0 w0 Q x a' w' ∧ Arrives P (lone (b.at a (.code c :: .inLoop c :: k)) cs w) b k cs x a' w' := by
      intro m
      induction m using Nat.strongRecOn with
      | _ m ihm =>
        intro e H a w hm' hI hr he hn hdf hs
        obtain ⟨x, a1, w1, hq, harr⟩ := ih _ e H a w hok (hround e H hI) hr he hn hdf hs b (.inLoop c :: k) cs
        obtain ⟨X, e', H', hX, hq, hr', he', hn', hdf', hs'⟩ := hq
        cases x with
        | normal =>
          cases hX
          obtain ⟨hI1, hlt⟩ := hq
          obtain ⟨x2, a2, w2, hq2, harr2⟩ := ihm (μ e' H') (hm' ▸ hlt) e' H' a1 w1 rfl hI1 hr' he' hn' hdf' hs'
          exact ⟨x2, a2, w2, hq2, .of_steps (Steps.trans harr (.one step_inLoop)) harr2⟩
        | exit id => cases hX; exact ⟨_, a1, w1, ⟨.exit id, e', H', rfl, hq, hr', he', hn', hdf', hs'⟩, .pass (x := .inLoop c) rfl (fun _ _ => .inl (by simp)) harr⟩
        | ret => cases hX; exact ⟨_, a1, w1, ⟨.ret, e', H', rfl, hq, hr', he', hn', hdf', hs'⟩, .pass (x := .inLoop c) rfl (fun _ _ => .inl (by simp)) harr⟩
        | goto l => cases hX
        | panic c => cases hX
        | outgrown => cases hX
    obtain ⟨x, a', w', hq, harr⟩ := key _ e H a w rfl h0 hr he hn hdf hs
    exact ⟨x, a', w', hq, .of_steps (.one step_loop) harr⟩
  | _ => exact fun Q e H a w _ h => h.elim

def resSem (tmps : Array Value) : ResultVar → Sem Value
  | .tmp t => pure (tmps.getD t undef)
  | .cell x t => do loadVar t (← asAddr (tmps.getD x undef))

theorem aRes1_sound {e : Env} {H : AH} {a : Act} {w : World} (hr : Rep H w) (he : EnvRel w e a) {r : ResultVar} {v : AV} (h : aRes1 P e H r = some v) :
    ∃ u, RV w v u ∧ (resSem a.tmps r).run P w = .ok u w := by
  cases r with
  | tmp t => cases h; exact ⟨_, he t, by simp [resSem]⟩
  | cell x t =>
    simp only [aRes1] at h
    split at h
    · rename_i b o hx
      have hxr := he x
      rw [hx] at hxr
      generalize hxv : a.tmps.getD x undef = xv at hxr
      cases hxr
      obtain ⟨u, hu, hrun⟩ := loadT_sound (P := P) h hr
      refine ⟨u, hu, ?_⟩
      simpa [resSem, Instr.loadAt, Instr.sureAddr, hxv, asAddr] using hrun
    · cases h

theorem aResL_sound {e : Env} {H : AH} {a : Act} {w : World} (hr : Rep H w) (he : EnvRel w e a) : ∀ (rs : List ResultVar) (vs : List AV), aResL P e H rs = some vs →
    ∃ us : List Value, RVs w vs us ∧ (rs.mapM (resSem a.tmps)).run P w = .ok us w
  | [], vs, h => by
    cases h
    exact ⟨[], ⟨rfl, fun i c v hc => by simp at hc⟩, by simp⟩
  | r :: rs, vs, h => by
    simp only [aResL] at h
    cases h1 : aRes1 P e H r with
    | none => simp [h1] at h
    | some v =>
      simp only [h1] at h
      cases h2 : aResL P e H rs with
      | none => simp [h2] at h
      | some vs' =>
        simp only [h2, Option.map_some, Option.some.injEq] at h
        subst h
        obtain ⟨u, hu, hrun⟩ := aRes1_sound (P := P) hr he h1
        obtain ⟨us, ⟨hl, hus⟩, hruns⟩ := aResL_sound hr he rs vs' h2
        refine ⟨u :: us, ⟨by simp [hl], fun i c x hc hx => ?_⟩, ?_⟩
        · cases i with
          | zero => simp at hc hx; subst hc; subst hx; exact hu
          | succ i => exact hus i c x (by simpa using hc) (by simpa using hx)
        · simp only [List.mapM_cons, Sem.run_bind, hrun, Result.andThen_ok, hruns, Sem.run_pure]

theorem aRes_sound {fn : Func} {e : Env} {H : AH} {a : Act} {w : World} (hr : Rep H w) (he : EnvRel w e a) {v : AV} (h : aRes P e H fn.results.toList = some v) : ∃ u, RV w v u ∧ (results fn a.tmps).run P w = .ok u w := by
  unfold aRes at h
  cases hL : aResL P e H fn.results.toList with
  | none => simp [hL] at h
  | some vs =>
    obtain ⟨us, ⟨hl, hus⟩, hrun⟩ := aResL_sound (P := P) hr he _ _ hL
    have hres : (results fn a.tmps).run P w = .ok (if h : us.toArray.size = 1 then us.toArray[0] else .tuple us.toArray) w := by
      show (do let vs ← fn.results.mapM (resSem a.tmps); pure (if h : vs.size = 1 then vs[0] else .tuple vs) : Sem Value).run P w = _
      rw [Array.mapM_eq_mapM_toList, Sem.run_bind]
      simp only [Sem.run_map, hrun, Result.andThen_ok]
      simp [Result.andThen]
    rw [hL] at h
    match vs, us, hl, hus, h, hres with
    | [x], [u], _, hus, h, hres =>
      cases h
      exact ⟨u, hus 0 _ _ rfl rfl, by simpa using hres⟩
    | [], [], _, hus, h, hres =>
      cases h
      exact ⟨.tuple #[], .tup _ _ rfl fun i c v hc => by simp at hc, by simpa using hres⟩
    | x :: y :: vs, u :: t :: us, hl, hus, h, hres =>
      cases h
      exact ⟨.tuple (u :: t :: us).toArray, .tup _ _ (by simpa using hl) fun i c v hc hv => hus i c v hc (by simpa using hv), by simpa using hres⟩

/-- A FUNCTION's CONTRACT, from what holds ahead of its body. -/
theorem AC.intro {f : FuncId} {fn : Func} {c : Code} {args : List AV} {H : AH} {Q : AV → AH → Prop} (pl : Nat → Plan) (hf : P.funcs[f]? = some fn) (hb : fn.body = some c) (hcb : callable P f = true) (hm : P.follows .mixedOrders = true)
    (hok : codeOk fn.ntmps pl c = true) (hlen : args.length ≤ fn.ntmps)
    (h : awp P pl c (fun x e' H' => (match x with | .exit _ => False | _ => True) ∧ ∃ r, aRes P e' H' fn.results.toList = some r ∧ Q r H') (env0 args) H) : AC P f args H Q := by
  refine ⟨hcb, fun w as hr hv => calls_of_wp hf hb ?_⟩
  have hsz : as.size = args.length := by have := hv.1; simp at this; exact this.symm
  have he : EnvRel w (env0 args) { tmps := as ++ Array.replicate (fn.ntmps - as.size) undef, defers := [] } := by
    intro t
    simp only [env0, List.getD_eq_getElem?_getD, Array.getD_eq_getD_getElem?]
    by_cases ht : t < args.length
    · rw [List.getElem?_eq_getElem ht, Array.getElem?_append_left (by omega), Array.getElem?_eq_getElem (by omega)]
      exact hv.2 t _ _ (List.getElem?_eq_getElem ht) (by rw [Array.getElem?_toList, Array.getElem?_eq_getElem (by omega)]; rfl)
    · rw [List.getElem?_eq_none (by omega), Array.getElem?_append_right (by omega)]
      have : ((Array.replicate (fn.ntmps - as.size) undef)[t - as.size]?).getD undef = undef := by
        by_cases h1 : t - as.size < fn.ntmps - as.size
        · rw [Array.getElem?_eq_getElem (by simpa using h1)]; simp
        · rw [Array.getElem?_eq_none (by simpa using h1)]; rfl
      rw [this]
      exact undef_rel w
  refine Code.wp_mono (fun x a' w' hl => ?_) (awp_sound (n := fn.ntmps) (pl := pl) hm c _ _ H _ w hok h hr he (by simp; omega) rfl (Stp.refl H w))
  obtain ⟨X, e', H', hX, ⟨hx, r, hres, hq⟩, hr', he', hn', hdf', hs'⟩ := hl
  have fin : ∃ v, (results fn a'.tmps).run P w' = .ok v w' ∧ ∃ v1 r H', Ending.returned v = .returned v1 ∧ Q r H' ∧ Rep H' w' ∧ RV w' r v1 ∧ Stp H H' w w' := by
    obtain ⟨u, hu, hrun⟩ := aRes_sound hr' he' hres
    exact ⟨u, hrun, u, r, H', rfl, hq, hr', hu, hs'⟩
  cases x with
  | normal => exact ⟨hdf', fin⟩
  | ret => exact ⟨hdf', fin⟩
  | exit id => cases hX; exact hx.elim
  | goto l => cases hX
  | panic c => cases hX
  | outgrown => cases hX

end
end Go.Proofs.YtbkpebmcagdgmaaGreat.AM
/-! A function's text, without what the abstract machine does not look at. -/
namespace Go.Proofs.YtbkpebmcagdgmaaGreat.AM
open Go Go.RowKit
set_option linter.unusedVariables false
set_option linter.unusedSimpArgs false

/-- An operation: the slot it writes; the slot that its guard reads, and what must stand there. -/
structure SO where
  d : Option Nat
  op : Op
  g : Option (Nat × Bool)

inductive SC where
  | skip
  | reg (l : List SO)
  | draw (l : List (Nat × List Nat × SO))
  | seq (a b : SC)
  | cond (c : Operand) (a b : SC)
  | block (id : Nat) (c : SC)
  | loop (c : SC)
  | exit (id : Nat)
  | ret
  | bad

def sO (all : List Oper) (o : Oper) : Option SO :=
  match o.guard with
  | none => some ⟨o.dst, o.op, none⟩
  | some (j, want) => match (all[j]?).bind (·.dst) with
    | some d => some ⟨o.dst, o.op, some (d, want)⟩
    | none => none

def sD (all : List Oper) (x : Nat × List Nat) : Option (Nat × List Nat × SO) :=
  match all[x.1]? with
  | some o => (sO all o).map fun s => (x.1, x.2, s)
  | none => none

def strip (pl : Nat → Plan) : Code → SC
  | .skip => .skip
  | .region id ops draw => if draw = true then match (pl id).mapM (sD ops.toList) with
      | some l => .draw l
      | none => .bad
    else match ops.toList.mapM (sO ops.toList) with
      | some l => .reg l
      | none => .bad
  | .seq a b => .seq (strip pl a) (strip pl b)
  | .cond c a b => .cond c (strip pl a) (strip pl b)
  | .block id c => .block id (strip pl c)
  | .loop c => .loop (strip pl c)
  | .exit id => .exit id
  | .ret => .ret
  | _ => .bad

/-- Behind a guard that is decided its slot holds what it was decided to be. -/
def sGuard (g : Option (Nat × Bool)) (e : Env) (yes no : Env → Prop) : Prop :=
  match g with
  | none => yes e
  | some (d, want) => match e d with
    | .bool b => if b = want then yes (e.put (some d) (.bool want)) else no (e.put (some d) (.bool (!want)))
    | .junk => False
    | _ => no e

def sops (P : Program) : List SO → Env → AH → (Env → AH → Prop) → Prop
  | [], e, H, K => K e H
  | o :: rest, e, H, K => sGuard o.g e (fun e => aop P e H (fun v H' => sops P rest (e.put o.d v) H' K) o.op) (fun e => sops P rest (e.put o.d (.tup [])) H K)

def sDraw (P : Program) : List (Nat × List Nat × SO) → Seen → Env → AH → (Env → AH → Prop) → Prop
  | [], σ, e, H, K => K e H
  | o :: rest, σ, e, H, K => sGuard o.2.2.g e
      (fun e => if isW o.2.2.op = true then aop P e H (fun v H' => (isAl o.2.2.op = false → ∀ s, s ∈ σ → s.1 ∈ o.2.1 → holds P H' s) ∧ sDraw P rest σ (e.put o.2.2.d v) H' K) o.2.2.op
       else aop P e H (fun v _ => sDraw P rest (watch o.1 o.2.2.op e v σ) (e.put o.2.2.d v) H K) o.2.2.op)
      (fun e => sDraw P rest σ (e.put o.2.2.d (.tup [])) H K)

def swp (P : Program) : SC → APost → Env → AH → Prop
  | .skip, Q => Q .normal
  | .reg l, Q => fun e H => sops P l e H (Q .normal)
  | .draw l, Q => fun e H => sDraw P l [] e H (Q .normal)
  | .seq a b, Q => swp P a (AX.then (swp P b Q) Q)
  | .cond c a b, Q => fun e H => match ev e c with
    | .bool t => if t = true then swp P a Q e H else swp P b Q e H
    | _ => False
  | .block id c, Q => swp P c (AX.inBlock id Q)
  | .loop c, Q => fun e H => ∃ (I : Env → AH → Prop) (μ : Env → AH → Nat), I e H ∧ ∀ e H, I e H → swp P c (AX.then (fun e' H' => I e' H' ∧ μ e' H' < μ e H) Q) e H
  | .exit id, Q => Q (.exit id)
  | .ret, Q => Q .ret
  | .bad, _ => fun _ _ => False

section
variable {P : Program} {pl : Nat → Plan}

theorem beq_false_not : ∀ b w : Bool, (b == w) = false → b = !w ∧ b ≠ w := by decide

theorem sO_guard {all : List Oper} {o : Oper} {s : SO} (hs : sO all o = some s) {e : Env} {yes no : Env → Prop} (h : sGuard s.g e yes no) : s.d = o.dst ∧ s.op = o.op ∧ ∃ b, aw all o e = some b ∧ (b = true → yes e) ∧ (b = false → no e) := by
  unfold sO at hs
  unfold aw
  cases hg : o.guard with
  | none =>
    rw [hg] at hs
    cases hs
    exact ⟨rfl, rfl, true, rfl, fun _ => h, fun q => by cases q⟩
  | some gw =>
    obtain ⟨j, want⟩ := gw
    rw [hg] at hs
    dsimp only at hs ⊢
    cases hd : (all[j]?).bind (·.dst) with
    | none => rw [hd] at hs; cases hs
    | some d =>
      rw [hd] at hs
      cases hs
      refine ⟨rfl, rfl, ?_⟩
      simp only [sGuard] at h
      dsimp only
      cases hed : e d <;> simp only [hed] at h ⊢
      case bool b =>
        have hput : ∀ b', b = b' → e.put (some d) (.bool b') = e := by
          rintro _ rfl
          funext i
          by_cases hi : i = d <;> simp [Env.put, hi, hed]
        refine ⟨b == want, rfl, fun q => ?_, fun q => ?_⟩
        · have hb : b = want := by simpa using q
          rw [if_pos hb, hput _ hb] at h
          exact h
        · obtain ⟨hb, hne⟩ := beq_false_not b want q
          rw [if_neg hne, hput _ hb] at h
          exact h
      all_goals exact ⟨false, rfl, (fun q => by cases q), fun _ => h⟩

theorem sops_sound {all : List Oper} : ∀ (ops : List Oper) (l : List SO) (e : Env) (H : AH) (K : Env → AH → Prop), ops.mapM (sO all) = some l → sops P l e H K → aops P all ops e H K
  | [], l, e, H, K, hm, h => by
    simp at hm
    subst hm
    exact h
  | o :: ops, l, e, H, K, hm, h => by
    simp only [List.mapM_cons, Option.bind_eq_bind, Option.pure_def] at hm
    cases ho : sO all o with
    | none => simp [ho] at hm
    | some s =>
      cases hr : ops.mapM (sO all) with
      | none => simp [ho, hr] at hm
      | some rest =>
        simp [ho, hr] at hm
        subst hm
        simp only [sops] at h
        obtain ⟨h1, h2, b, hb, hy, hn⟩ := sO_guard ho h
        rw [h1, h2] at hy
        rw [h1] at hn
        exact ⟨b, hb, fun q => aop_mono (fun v H' hh => sops_sound ops rest _ _ K hr hh) (hy q), fun q => sops_sound ops rest _ _ K hr (hn q)⟩

theorem sDraw_sound {all : List Oper} {K : Env → AH → Prop} : ∀ (p : Plan) (l : List (Nat × List Nat × SO)) (σ : Seen) (e : Env) (H : AH), p.mapM (sD all) = some l → sDraw P l σ e H K → aD P all K p σ e H
  | [], l, σ, e, H, hm, h => by
    simp at hm
    subst hm
    exact h
  | x :: p, l, σ, e, H, hm, h => by
    simp only [List.mapM_cons, Option.bind_eq_bind, Option.pure_def] at hm
    cases hx : sD all x with
    | none => simp [hx] at hm
    | some s =>
      cases hr : p.mapM (sD all) with
      | none => simp [hx, hr] at hm
      | some rest =>
        simp [hx, hr] at hm
        subst hm
        unfold sD at hx
        cases ho : all[x.1]? with
        | none => simp [ho] at hx
        | some o =>
          simp only [ho] at hx
          cases hs : sO all o with
          | none => simp [hs] at hx
          | some so =>
            simp [hs] at hx
            subst hx
            simp only [sDraw] at h
            obtain ⟨h1, h2, b, hb, hy, hn⟩ := sO_guard hs h
            rw [h1, h2] at hy
            rw [h1] at hn
            refine ⟨o, ho, b, hb, fun q => sDraw_sound p rest σ _ _ hr (hn q), fun q => ?_⟩
            have h3 := hy q
            split
            · rename_i hw
              rw [if_pos hw] at h3
              exact aop_mono (fun v H' hh => ⟨hh.1, sDraw_sound p rest σ _ _ hr hh.2⟩) h3
            · rename_i hw
              rw [if_neg hw] at h3
              exact aop_mono (fun v H' hh => sDraw_sound p rest _ _ _ hr hh) h3

theorem awp_mono : ∀ (c : Code) {Q Q' : APost} {e : Env} {H : AH}, (∀ x e H, Q x e H → Q' x e H) → awp P pl c Q e H → awp P pl c Q' e H := by
  intro c
  induction c with
  | skip => exact fun hq h => hq _ _ _ h
  | exit id => exact fun hq h => hq _ _ _ h
  | ret => exact fun hq h => hq _ _ _ h
  | region id ops draw =>
    intro Q Q' e H hq h
    have hs : ∀ (l : List Oper) (e : Env) (H : AH), aops P ops.toList l e H (Q .normal) → aops P ops.toList l e H (Q' .normal) := by
      intro l
      induction l with
      | nil => exact fun e H h => hq _ _ _ h
      | cons o l ih => exact fun e H ⟨b, hb, h1, h2⟩ => ⟨b, hb, fun q => aop_mono (fun v H' hh => ih _ _ hh) (h1 q), fun q => ih _ _ (h2 q)⟩
    have hd : ∀ (p : Plan) (σ : Seen) (e : Env) (H : AH), aD P ops.toList (Q .normal) p σ e H → aD P ops.toList (Q' .normal) p σ e H := by
      intro p
      induction p with
      | nil => exact fun σ e H h => hq _ _ _ h
      | cons x p ih => exact fun σ e H h => dStep_mono (fun σ e H hh => ih σ e H hh) h
    simp only [awp] at h ⊢
    split
    · rename_i hdr; rw [if_pos hdr] at h; exact hd _ _ _ _ h
    · rename_i hdr; rw [if_neg hdr] at h; exact hs _ _ _ h
  | seq x y ihx ihy =>
    intro Q Q' e H hq h
    refine ihx (fun X e H hh => ?_) h
    cases X with
    | normal => exact ihy hq hh
    | exit id => exact hq _ _ _ hh
    | ret => exact hq _ _ _ hh
  | cond c x y ihx ihy =>
    intro Q Q' e H hq h
    simp only [awp] at h ⊢
    split at h
    · exact ⟨fun q => ihx hq (h.1 q), fun q => ihy hq (h.2 q)⟩
    · exact h.elim
  | block id c ih =>
    intro Q Q' e H hq h
    refine ih (fun X e H hh => ?_) h
    cases X with
    | normal => exact hq _ _ _ hh
    | exit i =>
      simp only [AX.inBlock] at hh ⊢
      split
      · rename_i hi; rw [if_pos hi] at hh; exact hq _ _ _ hh
      · rename_i hi; rw [if_neg hi] at hh; exact hq _ _ _ hh
    | ret => exact hq _ _ _ hh
  | loop c ih =>
    intro Q Q' e H hq ⟨I, μ, h0, h1⟩
    refine ⟨I, μ, h0, fun e H hI => ih (fun X e' H' hh => ?_) (h1 e H hI)⟩
    cases X with
    | normal => exact hh
    | exit id => exact hq _ _ _ hh
    | ret => exact hq _ _ _ hh
  | _ => exact fun _ h => h.elim

theorem swp_sound : ∀ (c : Code) (Q : APost) (e : Env) (H : AH), swp P (strip pl c) Q e H → awp P pl c Q e H := by
  intro c
  induction c with
  | skip => exact fun Q e H h => h
  | exit id => exact fun Q e H h => h
  | ret => exact fun Q e H h => h
  | region id ops draw =>
    intro Q e H h
    simp only [strip] at h
    simp only [awp]
    split
    · rename_i hd
      rw [if_pos hd] at h
      split at h
      · rename_i l hl; exact sDraw_sound _ _ _ _ _ hl h
      · exact h.elim
    · rename_i hd
      rw [if_neg hd] at h
      split at h
      · rename_i l hl; exact sops_sound _ _ _ _ _ hl h
      · exact h.elim
  | seq x y ihx ihy =>
    intro Q e H h
    refine awp_mono x (fun X e H hh => ?_) (ihx _ e H h)
    cases X with
    | normal => exact ihy Q e H hh
    | exit id => exact hh
    | ret => exact hh
  | cond c x y ihx ihy =>
    intro Q e H h
    simp only [strip, swp] at h
    simp only [awp]
    cases hc : ev e c <;> simp only [hc] at h ⊢
    case bool t => exact ⟨fun q => ihx Q e H (by rw [if_pos q] at h; exact h), fun q => ihy Q e H (by rw [if_neg (by simp [q])] at h; exact h)⟩
  | block id c ih => exact fun Q e H h => ih _ e H h
  | loop c ih =>
    intro Q e H ⟨I, μ, h0, h1⟩
    exact ⟨I, μ, h0, fun e H hI => ih _ e H (h1 e H hI)⟩
  | _ => exact fun Q e H h => h.elim

/-- A FUNCTION's CONTRACT, from its stripped text. -/
theorem AC.of {f : FuncId} {fn : Func} {c : Code} {s : SC} {rs : List ResultVar} {args : List AV} {H : AH} {Q : AV → AH → Prop} (pl : Nat → Plan) (hf : P.funcs[f]? = some fn) (hb : fn.body = some c) (hcb : callable P f = true) (hm : P.follows .mixedOrders = true)
    (hok : codeOk fn.ntmps pl c = true) (hs : strip pl c = s) (hrs : fn.results.toList = rs) (hlen : args.length ≤ fn.ntmps)
    (h : swp P s (fun x e' H' => (match x with | .exit _ => False | _ => True) ∧ ∃ r, aRes P e' H' rs = some r ∧ Q r H') (env0 args) H) : AC P f args H Q :=
  AC.intro pl hf hb hcb hm hok hlen (by subst hs; subst hrs; exact swp_sound c _ _ _ h)

end
end Go.Proofs.YtbkpebmcagdgmaaGreat.AM
/-! Equations by which simp carries a text out. -/
namespace Go.Proofs.YtbkpebmcagdgmaaGreat.AM
open Go Go.RowKit
set_option linter.unusedVariables false
set_option linter.unusedSimpArgs false

section
variable {P : Program} {K : AV → Prop} {k : IntKind} {a b n : Int} {e : Env} {H : AH}
theorem ev_tmp {t : Nat} : ev e (.tmp t) = e t := rfl
theorem ev_func {f : Nat} : ev e (.func f) = .fn f [] := rfl
theorem ev_int : ev e (.const (.int k n)) = .int k n := rfl
theorem ev_bool {b : Bool} : ev e (.const (.bool b)) = .bool b := rfl
theorem ev_nils : ev e (.const (.slice none 0 0)) = .nils := rfl
theorem ev_nilp : ev e (.const (.pointer none)) = .nilp := rfl
theorem ev_agg {vs : Array Value} : ev e (.const (.agg vs)) = .agg (vs.toList.map ofCell) := rfl
theorem oc_int : ofCell (.int k n) = .int k n := rfl
theorem oc_bool {b : Bool} : ofCell (.bool b) = .bool b := rfl
theorem oc_nils : ofCell (.slice none 0 0) = .nils := rfl
theorem oc_nilp : ofCell (.pointer none) = .nilp := rfl
theorem put_at {d : Nat} {v : AV} {t : Nat} : (e.put (some d) v) t = if t = d then v else e t := rfl
theorem put_no {v : AV} : e.put none v = e := rfl
theorem cs_int : (AV.int k n).cells = [.int k n] := rfl
theorem cs_bool {b : Bool} : (AV.bool b).cells = [.bool b] := rfl
theorem cs_ptr {b o : Nat} : (AV.ptr b o).cells = [.ptr b o] := rfl
theorem cs_nilp : AV.nilp.cells = [.nilp] := rfl
theorem cs_sl {b o n : Nat} {c : Cap} : (AV.sl b o n c).cells = [.sl b o n c] := rfl
theorem cs_nils : AV.nils.cells = [.nils] := rfl
theorem cs_fn {f : Nat} {cs : List AV} : (AV.fn f cs).cells = [.fn f cs] := rfl
theorem cs_agg {cs : List AV} : (AV.agg cs).cells = cs := rfl
theorem su_int : (AV.int k n).sure = true := rfl
theorem su_bool {b : Bool} : (AV.bool b).sure = true := rfl
theorem su_ptr {b o : Nat} : (AV.ptr b o).sure = true := rfl
theorem su_nilp : AV.nilp.sure = true := rfl
theorem su_sl {b o n : Nat} {c : Cap} : (AV.sl b o n c).sure = true := rfl
theorem su_nils : AV.nils.sure = true := rfl
theorem su_fn {f : Nat} {cs : List AV} : (AV.fn f cs).sure = true := rfl
theorem su_agg {cs : List AV} : (AV.agg cs).sure = true := rfl
theorem on_int : (AV.int k n).one = true := rfl
theorem on_bool {b : Bool} : (AV.bool b).one = true := rfl
theorem on_ptr {b o : Nat} : (AV.ptr b o).one = true := rfl
theorem on_nilp : AV.nilp.one = true := rfl
theorem on_sl {b o n : Nat} {c : Cap} : (AV.sl b o n c).one = true := rfl
theorem on_nils : AV.nils.one = true := rfl
theorem on_fn {f : Nat} {cs : List AV} : (AV.fn f cs).one = true := rfl
theorem env0_at {args : List AV} {t : Nat} : env0 args t = args.getD t (.tup []) := rfl
end

end Go.Proofs.YtbkpebmcagdgmaaGreat.AM
/-! The runner: rules by which simp carries a stripped text out, one operation after the other; what cannot be decided stays as it is. -/
namespace Go.Proofs.YtbkpebmcagdgmaaGreat.AM
open Go Go.RowKit
set_option linter.unusedVariables false
set_option linter.unusedSimpArgs false

abbrev Kt := Env → AH → Prop

def memN (i : Nat) : List Nat → Bool
  | [] => false
  | j :: l => if i = j then true else memN i l
theorem memN_iff (i : Nat) : ∀ l, (memN i l = true) = (i ∈ l)
  | [] => by simp [memN]
  | j :: l => by
    by_cases h : i = j
    · simp [memN, h]
    · simp [memN, h, memN_iff i l]
/-- The loads in σ that must hold behind an operation hold. -/
def chk (P : Program) (H : AH) (ds : List Nat) (σ : Seen) : Prop := ∀ s, s ∈ σ → s.1 ∈ ds → holds P H s
theorem chk_none {P : Program} {H : AH} {σ : Seen} : chk P H [] σ = True := by simp [chk]
theorem chk_nil {P : Program} {H : AH} {ds : List Nat} : chk P H ds [] = True := by simp [chk]
theorem chk_cons {P : Program} {H : AH} {j : Nat} {ds : List Nat} {i : Nat} {t : TypeId} {b o : Nat} {v : AV} {σ : Seen} :
    chk P H (j :: ds) ((i, t, b, o, v) :: σ) = ((if memN i (j :: ds) = true then loadT P t H b o = some v else True) ∧ chk P H (j :: ds) σ) := by
  by_cases h : memN i (j :: ds) = true
  · rw [if_pos h]
    rw [memN_iff] at h
    exact propext ⟨fun hh => ⟨hh (i, t, b, o, v) (by simp) h, fun s hs => hh s (List.mem_cons_of_mem _ hs)⟩, fun hh s hs hm => (List.mem_cons.mp hs).elim (fun q => by subst q; exact hh.1) fun q => hh.2 s q hm⟩
  · rw [if_neg h, true_and]
    rw [memN_iff] at h
    exact propext ⟨fun hh s hs => hh s (List.mem_cons_of_mem _ hs), fun hh s hs hm => (List.mem_cons.mp hs).elim (fun q => by subst q; exact (h hm).elim) fun q => hh s q hm⟩

/-- What is still to be done: a region's rest, drawn or not. -/
inductive Rst where
  | s (l : List SO)
  | d (l : List (Nat × List Nat × SO)) (σ : Seen)
def Rst.see : Rst → Nat → TypeId → Nat → Nat → AV → Rst
  | .s l, _, _, _, _, _ => .s l
  | .d l σ, i, t, b, o, v => .d l ((i, t, b, o, v) :: σ)
def Rst.chk (P : Program) (H : AH) (ds : List Nat) : Rst → Prop
  | .s _ => True
  | .d _ σ => AM.chk P H ds σ
def go (P : Program) : Rst → Env → AH → Kt → Prop
  | .s l, e, H, K => sops P l e H K
  | .d l σ, e, H, K => sDraw P l σ e H K

def kPut (P : Program)  (r : Rst) (e : Env) (H : AH) (K : Kt) (d : Option Nat) (v : AV) : Prop :=
  go P r (e.put d v) H K

@[congr] theorem kPut_congr {P : Program} {v : AV} {v' : AV} {r : Rst} {e : Env} {H : AH} {K : Kt} {d : Option Nat} (h0 : v = v') : kPut P  r e H K d v = kPut P  r e H K d v' := by
  subst h0; rfl

def kLoad (P : Program) (i : Nat) (t : TypeId) (r : Rst) (e : Env) (H : AH) (K : Kt) (d : Option Nat) (v : AV) : Prop :=
  match v with
  | .ptr b o => ∃ u, loadT P t H b o = some u ∧ go P (r.see i t b o u) (e.put d u) H K
  | _ => False

@[congr] theorem kLoad_congr {P : Program} {i : Nat} {t : TypeId} {v : AV} {v' : AV} {r : Rst} {e : Env} {H : AH} {K : Kt} {d : Option Nat} (h0 : v = v') : kLoad P i t r e H K d v = kLoad P i t r e H K d v' := by
  subst h0; rfl

def kLd (P : Program) (i : Nat) (t : TypeId) (b o : Nat) (r : Rst) (e : Env) (H : AH) (K : Kt) (d : Option Nat) (u : Option AV) : Prop :=
  ∃ w, u = some w ∧ go P (r.see i t b o w) (e.put d w) H K

@[congr] theorem kLd_congr {P : Program} {i : Nat} {t : TypeId} {b : Nat} {o : Nat} {u : Option AV} {u' : Option AV} {r : Rst} {e : Env} {H : AH} {K : Kt} {d : Option Nat} (h0 : u = u') : kLd P i t b o r e H K d u = kLd P i t b o r e H K d u' := by
  subst h0; rfl

def kBin (P : Program) (op : BinOp) (t : TypeId) (r : Rst) (e : Env) (H : AH) (K : Kt) (d : Option Nat) (x y : AV) : Prop :=
  match op with
  | .eql | .neq => (match x with
    | .int k a => aBin op (.int k a) y fun v => go P r (e.put d v) H K
    | v => aEq P t op v y fun v => go P r (e.put d v) H K)
  | _ => aBin op x y fun v => go P r (e.put d v) H K

@[congr] theorem kBin_congr {P : Program} {op : BinOp} {t : TypeId} {x : AV} {y : AV} {x' : AV} {y' : AV} {r : Rst} {e : Env} {H : AH} {K : Kt} {d : Option Nat} (h0 : x = x') (h1 : y = y') : kBin P op t r e H K d x y = kBin P op t r e H K d x' y' := by
  subst h0; subst h1; rfl

def kUn (P : Program) (op : UnOp) (r : Rst) (e : Env) (H : AH) (K : Kt) (d : Option Nat) (x : AV) : Prop :=
  aUn op x fun v => go P r (e.put d v) H K

@[congr] theorem kUn_congr {P : Program} {op : UnOp} {x : AV} {x' : AV} {r : Rst} {e : Env} {H : AH} {K : Kt} {d : Option Nat} (h0 : x = x') : kUn P op r e H K d x = kUn P op r e H K d x' := by
  subst h0; rfl

def kPick (P : Program)  (r : Rst) (e : Env) (H : AH) (K : Kt) (d : Option Nat) (x a b : AV) : Prop :=
  match x with
  | .bool t => go P r (e.put d (if t then a else b)) H K
  | _ => False

@[congr] theorem kPick_congr {P : Program} {x : AV} {a : AV} {b : AV} {x' : AV} {r : Rst} {e : Env} {H : AH} {K : Kt} {d : Option Nat} (h0 : x = x') : kPick P  r e H K d x a b = kPick P  r e H K d x' a b := by
  subst h0; rfl

def kCv (P : Program) (s t : Option IntKind) (r : Rst) (e : Env) (H : AH) (K : Kt) (d : Option Nat) (x : AV) : Prop :=
  match t, x with
  | some k, .int _ n => s.isSome = true ∧ go P r (e.put d (.int k (k.wrap n))) H K
  | _, _ => False

@[congr] theorem kCv_congr {P : Program} {s : Option IntKind} {t : Option IntKind} {x : AV} {s' : Option IntKind} {t' : Option IntKind} {x' : AV} {r : Rst} {e : Env} {H : AH} {K : Kt} {d : Option Nat} (h0 : s = s') (h1 : t = t') (h2 : x = x') : kCv P s t r e H K d x = kCv P s' t' r e H K d x' := by
  subst h0; subst h1; subst h2; rfl

def kStore (P : Program) (ds : List Nat) (sz : Option Nat) (r : Rst) (e : Env) (H : AH) (K : Kt) (d : Option Nat) (x y : AV) : Prop :=
  match x with
  | .ptr b o => ∃ xs, H b = .rw xs ∧ y.sure = true ∧ sz = some y.cells.length ∧ (∀ v, v ∈ y.cells → v.one = true) ∧ o + y.cells.length ≤ xs.length ∧
      r.chk P (H.upd b (.rw (splice xs o y.cells))) ds ∧ go P r (e.put d (.tup [])) (H.upd b (.rw (splice xs o y.cells))) K
  | _ => False

@[congr] theorem kStore_congr {P : Program} {ds : List Nat} {sz : Option Nat} {x : AV} {y : AV} {sz' : Option Nat} {x' : AV} {y' : AV} {r : Rst} {e : Env} {H : AH} {K : Kt} {d : Option Nat} (h0 : sz = sz') (h1 : x = x') (h2 : y = y') : kStore P ds sz r e H K d x y = kStore P ds sz' r e H K d x' y' := by
  subst h0; subst h1; subst h2; rfl

def kNil (P : Program)  (r : Rst) (e : Env) (H : AH) (K : Kt) (d : Option Nat) (x : AV) : Prop :=
  match x with
  | .ptr b o => go P r (e.put d (.ptr b o)) H K
  | .fn f cs => go P r (e.put d (.fn f cs)) H K
  | _ => False

@[congr] theorem kNil_congr {P : Program} {x : AV} {x' : AV} {r : Rst} {e : Env} {H : AH} {K : Kt} {d : Option Nat} (h0 : x = x') : kNil P  r e H K d x = kNil P  r e H K d x' := by
  subst h0; rfl

def kFld (P : Program) (f : Option Nat) (r : Rst) (e : Env) (H : AH) (K : Kt) (d : Option Nat) (x : AV) : Prop :=
  match x with
  | .ptr b o => ∃ c, f = some c ∧ go P r (e.put d (.ptr b (o + c))) H K
  | _ => False

@[congr] theorem kFld_congr {P : Program} {f : Option Nat} {x : AV} {f' : Option Nat} {x' : AV} {r : Rst} {e : Env} {H : AH} {K : Kt} {d : Option Nat} (h0 : f = f') (h1 : x = x') : kFld P f r e H K d x = kFld P f' r e H K d x' := by
  subst h0; subst h1; rfl

def kIdx (P : Program) (sz : Option Nat) (r : Rst) (e : Env) (H : AH) (K : Kt) (d : Option Nat) (x i : AV) : Prop :=
  match x, i with
  | .sl b o n _, .int _ j => ∃ s, sz = some s ∧ 0 ≤ j ∧ j < n ∧ go P r (e.put d (.ptr b (o + j.toNat * s))) H K
  | _, _ => False

@[congr] theorem kIdx_congr {P : Program} {sz : Option Nat} {x : AV} {i : AV} {sz' : Option Nat} {x' : AV} {i' : AV} {r : Rst} {e : Env} {H : AH} {K : Kt} {d : Option Nat} (h0 : sz = sz') (h1 : x = x') (h2 : i = i') : kIdx P sz r e H K d x i = kIdx P sz' r e H K d x' i' := by
  subst h0; subst h1; subst h2; rfl

def kSlice (P : Program) (sz : Option Nat) (r : Rst) (e : Env) (H : AH) (K : Kt) (d : Option Nat) (x : AV) (lo hi mx : Option AV) : Prop :=
  ∃ s, sz = some s ∧ aSlice s x lo hi mx fun v => go P r (e.put d v) H K

@[congr] theorem kSlice_congr {P : Program} {sz : Option Nat} {x : AV} {lo : Option AV} {hi : Option AV} {mx : Option AV} {sz' : Option Nat} {x' : AV} {lo' : Option AV} {hi' : Option AV} {mx' : Option AV} {r : Rst} {e : Env} {H : AH} {K : Kt} {d : Option Nat} (h0 : sz = sz') (h1 : x = x') (h2 : lo = lo') (h3 : hi = hi') (h4 : mx = mx') : kSlice P sz r e H K d x lo hi mx = kSlice P sz' r e H K d x' lo' hi' mx' := by
  subst h0; subst h1; subst h2; subst h3; subst h4; rfl

def kNew (P : Program) (m : Nat → AV) (r : Rst) (e : Env) (H : AH) (K : Kt) (d : Option Nat) (cs : List AV) : Prop :=
  aNew H cs fun b H' => go P r (e.put d (m b)) H' K

@[congr] theorem kNew_congr {P : Program} {m : Nat → AV} {cs : List AV} {cs' : List AV} {r : Rst} {e : Env} {H : AH} {K : Kt} {d : Option Nat} (h0 : cs = cs') : kNew P m r e H K d cs = kNew P m r e H K d cs' := by
  subst h0; rfl

def kBox (P : Program)  (r : Rst) (e : Env) (H : AH) (K : Kt) (d : Option Nat) (x : AV) : Prop :=
  x.sure = true ∧ kNew P (fun b => .ptr b 0) r e H K d x.cells

@[congr] theorem kBox_congr {P : Program} {x : AV} {x' : AV} {r : Rst} {e : Env} {H : AH} {K : Kt} {d : Option Nat} (h0 : x = x') : kBox P  r e H K d x = kBox P  r e H K d x' := by
  subst h0; rfl

def kAlloc (P : Program)  (r : Rst) (e : Env) (H : AH) (K : Kt) (d : Option Nat) (z : Option (List AV)) : Prop :=
  ∃ cs, z = some cs ∧ kNew P (fun b => .ptr b 0) r e H K d cs

@[congr] theorem kAlloc_congr {P : Program} {z : Option (List AV)} {z' : Option (List AV)} {r : Rst} {e : Env} {H : AH} {K : Kt} {d : Option Nat} (h0 : z = z') : kAlloc P  r e H K d z = kAlloc P  r e H K d z' := by
  subst h0; rfl

def kBuild (P : Program)  (r : Rst) (e : Env) (H : AH) (K : Kt) (d : Option Nat) (z : Option (List AV)) (pl : Option (List (Nat × Nat))) (ps : List (Nat × AV)) : Prop :=
  ∃ z' pl' cs, z = some z' ∧ pl = some pl' ∧ aFill (fun i => pl'[i]?) z' ps = some cs ∧ go P r (e.put d (.agg cs)) H K

@[congr] theorem kBuild_congr {P : Program} {z : Option (List AV)} {pl : Option (List (Nat × Nat))} {ps : List (Nat × AV)} {z' : Option (List AV)} {pl' : Option (List (Nat × Nat))} {ps' : List (Nat × AV)} {r : Rst} {e : Env} {H : AH} {K : Kt} {d : Option Nat} (h0 : z = z') (h1 : pl = pl') (h2 : ps = ps') : kBuild P  r e H K d z pl ps = kBuild P  r e H K d z' pl' ps' := by
  subst h0; subst h1; subst h2; rfl

def kBuildS (P : Program) (len : Nat) (r : Rst) (e : Env) (H : AH) (K : Kt) (d : Option Nat) (sz : Option Nat) (z : Option (List AV)) (ps : List (Nat × AV)) : Prop :=
  ∃ s z' cs, sz = some s ∧ z = some z' ∧ z'.length = s ∧ 0 < s ∧ len * s ≤ 16777216 ∧ aFill (fun i => some (i * s, s)) (reps z' len) ps = some cs ∧ kNew P (fun b => .sl b 0 len (.own s)) r e H K d cs

@[congr] theorem kBuildS_congr {P : Program} {len : Nat} {sz : Option Nat} {z : Option (List AV)} {ps : List (Nat × AV)} {sz' : Option Nat} {z' : Option (List AV)} {ps' : List (Nat × AV)} {r : Rst} {e : Env} {H : AH} {K : Kt} {d : Option Nat} (h0 : sz = sz') (h1 : z = z') (h2 : ps = ps') : kBuildS P len r e H K d sz z ps = kBuildS P len r e H K d sz' z' ps' := by
  subst h0; subst h1; subst h2; rfl

def kMake (P : Program)  (r : Rst) (e : Env) (H : AH) (K : Kt) (d : Option Nat) (sz : Option Nat) (z : Option (List AV)) (by_ : Option Nat) (l c : AV) : Prop :=
  match l, c with
  | .int _ n, .int _ m => ∃ s z' b_, sz = some s ∧ z = some z' ∧ by_ = some b_ ∧ z'.length = s ∧ 0 < s ∧ m = n ∧ 0 ≤ n ∧ n * b_ ≤ 281474976710656 ∧ n ≤ 281474976710656 ∧
      kNew P (fun b => .sl b 0 n.toNat (.own s)) r e H K d (reps z' n.toNat)
  | _, _ => False

@[congr] theorem kMake_congr {P : Program} {sz : Option Nat} {z : Option (List AV)} {by_ : Option Nat} {l : AV} {c : AV} {sz' : Option Nat} {z' : Option (List AV)} {by_' : Option Nat} {l' : AV} {c' : AV} {r : Rst} {e : Env} {H : AH} {K : Kt} {d : Option Nat} (h0 : sz = sz') (h1 : z = z') (h2 : by_ = by_') (h3 : l = l') (h4 : c = c') : kMake P  r e H K d sz z by_ l c = kMake P  r e H K d sz' z' by_' l' c' := by
  subst h0; subst h1; subst h2; subst h3; subst h4; rfl

def kExt (P : Program) (i : Nat) (r : Rst) (e : Env) (H : AH) (K : Kt) (d : Option Nat) (x : AV) : Prop :=
  match x with
  | .tup vs => ∃ v, vs[i]? = some v ∧ go P r (e.put d v) H K
  | _ => False

@[congr] theorem kExt_congr {P : Program} {i : Nat} {x : AV} {x' : AV} {r : Rst} {e : Env} {H : AH} {K : Kt} {d : Option Nat} (h0 : x = x') : kExt P i r e H K d x = kExt P i r e H K d x' := by
  subst h0; rfl

def kLen (P : Program) (t : Option Nat) (r : Rst) (e : Env) (H : AH) (K : Kt) (d : Option Nat) (x : AV) : Prop :=
  match x with
  | .sl b o n k => t.isSome = true ∧ go P r (e.put d (.int .i64 n)) H K
  | .nils => t.isSome = true ∧ go P r (e.put d (.int .i64 0)) H K
  | _ => False

@[congr] theorem kLen_congr {P : Program} {t : Option Nat} {x : AV} {t' : Option Nat} {x' : AV} {r : Rst} {e : Env} {H : AH} {K : Kt} {d : Option Nat} (h0 : t = t') (h1 : x = x') : kLen P t r e H K d x = kLen P t' r e H K d x' := by
  subst h0; subst h1; rfl

def kRet (P : Program) (ds : List Nat) (r : Rst) (e : Env) (H : AH) (K : Kt) (d : Option Nat) (v : AV) : Prop :=
  r.chk P H ds ∧ go P r (e.put d v) H K

@[congr] theorem kRet_congr {P : Program} {ds : List Nat} {v : AV} {v' : AV} {r : Rst} {e : Env} {H : AH} {K : Kt} {d : Option Nat} (h0 : v = v') : kRet P ds r e H K d v = kRet P ds r e H K d v' := by
  subst h0; rfl

def kApp (P : Program) (ds : List Nat) (sz by_ : Option Nat) (z : Option (List AV)) (r : Rst) (e : Env) (H : AH) (K : Kt) (d : Option Nat) (x y : AV) : Prop :=
  ∃ s b_ z', sz = some s ∧ by_ = some b_ ∧ z = some z' ∧ z'.length = s ∧ aAppend s b_ x y H fun v H' => kRet P ds r e H' K d v

@[congr] theorem kApp_congr {P : Program} {ds : List Nat} {sz : Option Nat} {by_ : Option Nat} {z : Option (List AV)} {x : AV} {y : AV} {sz' : Option Nat} {by_' : Option Nat} {z' : Option (List AV)} {x' : AV} {y' : AV} {r : Rst} {e : Env} {H : AH} {K : Kt} {d : Option Nat} (h0 : sz = sz') (h1 : by_ = by_') (h2 : z = z') (h3 : x = x') (h4 : y = y') : kApp P ds sz by_ z r e H K d x y = kApp P ds sz' by_' z' r e H K d x' y' := by
  subst h0; subst h1; subst h2; subst h3; subst h4; rfl

def kCopy (P : Program) (ds : List Nat) (sz : Option Nat) (r : Rst) (e : Env) (H : AH) (K : Kt) (d : Option Nat) (x y : AV) : Prop :=
  sz = some 1 ∧ aCopy 1 x y H fun v H' => kRet P ds r e H' K d v

@[congr] theorem kCopy_congr {P : Program} {ds : List Nat} {sz : Option Nat} {x : AV} {y : AV} {sz' : Option Nat} {x' : AV} {y' : AV} {r : Rst} {e : Env} {H : AH} {K : Kt} {d : Option Nat} (h0 : sz = sz') (h1 : x = x') (h2 : y = y') : kCopy P ds sz r e H K d x y = kCopy P ds sz' r e H K d x' y' := by
  subst h0; subst h1; subst h2; rfl

def kMax (P : Program)  (r : Rst) (e : Env) (H : AH) (K : Kt) (d : Option Nat) (x y : AV) : Prop :=
  aMax [x, y] fun v => go P r (e.put d v) H K

@[congr] theorem kMax_congr {P : Program} {x : AV} {y : AV} {x' : AV} {y' : AV} {r : Rst} {e : Env} {H : AH} {K : Kt} {d : Option Nat} (h0 : x = x') (h1 : y = y') : kMax P  r e H K d x y = kMax P  r e H K d x' y' := by
  subst h0; subst h1; rfl

def kMin (P : Program)  (r : Rst) (e : Env) (H : AH) (K : Kt) (d : Option Nat) (x y : AV) : Prop :=
  aMin [x, y] fun v => go P r (e.put d v) H K

@[congr] theorem kMin_congr {P : Program} {x : AV} {y : AV} {x' : AV} {y' : AV} {r : Rst} {e : Env} {H : AH} {K : Kt} {d : Option Nat} (h0 : x = x') (h1 : y = y') : kMin P  r e H K d x y = kMin P  r e H K d x' y' := by
  subst h0; subst h1; rfl

def kCall (P : Program) (ds : List Nat) (r : Rst) (e : Env) (H : AH) (K : Kt) (d : Option Nat) (f : AV) (args : List AV) : Prop :=
  match f with
  | .fn g caps => AC P g (args ++ caps) H fun v H' => kRet P ds r e H' K d v
  | _ => False

@[congr] theorem kCall_congr {P : Program} {ds : List Nat} {f : AV} {args : List AV} {f' : AV} {args' : List AV} {r : Rst} {e : Env} {H : AH} {K : Kt} {d : Option Nat} (h0 : f = f') (h1 : args = args') : kCall P ds r e H K d f args = kCall P ds r e H K d f' args' := by
  subst h0; subst h1; rfl

def kAC (P : Program) (ds : List Nat) (g : Nat) (r : Rst) (e : Env) (H : AH) (K : Kt) (d : Option Nat) (args : List AV) : Prop :=
  AC P g args H fun v H' => kRet P ds r e H' K d v

@[congr] theorem kAC_congr {P : Program} {ds : List Nat} {g : Nat} {args : List AV} {args' : List AV} {r : Rst} {e : Env} {H : AH} {K : Kt} {d : Option Nat} (h0 : args = args') : kAC P ds g r e H K d args = kAC P ds g r e H K d args' := by
  subst h0; rfl

def kG (P : Program) (want : Bool) (g : Nat) (rn : Rst) (r : Rst) (e : Env) (H : AH) (K : Kt) (d : Option Nat) (x : AV) : Prop :=
  match x with
  | .bool b => if b = want then go P r (e.put (some g) (.bool want)) H K else go P rn ((e.put (some g) (.bool (!want))).put d (.tup [])) H K
  | .junk => False
  | _ => go P rn (e.put d (.tup [])) H K

@[congr] theorem kG_congr {P : Program} {want : Bool} {g : Nat} {rn : Rst} {x : AV} {x' : AV} {r : Rst} {e : Env} {H : AH} {K : Kt} {d : Option Nat} (h0 : x = x') : kG P want g rn r e H K d x = kG P want g rn r e H K d x' := by
  subst h0; rfl

def kIf (P : Program) (a b : SC) (Q : APost) (e : Env) (H : AH) (x : AV) : Prop :=
  match x with
  | .bool t => if t = true then swp P a Q e H else swp P b Q e H
  | _ => False
@[congr] theorem kIf_congr {P : Program} {a b : SC} {Q : APost} {e : Env} {H : AH} {x x' : AV} (h : x = x') : kIf P a b Q e H x = kIf P a b Q e H x' := by
  subst h; rfl
/-- The end: what comes back. -/
def kQ (Q : AV → AH → Prop) (H : AH) (v : AV) : Prop := Q v H
@[congr] theorem kQ_congr {Q : AV → AH → Prop} {H : AH} {x x' : AV} (h : x = x') : kQ Q H x = kQ Q H x' := by
  subst h; rfl
def kRes (Q : AV → AH → Prop) (H : AH) (v : Option AV) : Prop := ∃ r, v = some r ∧ Q r H
@[congr] theorem kRes_congr {Q : AV → AH → Prop} {H : AH} {x x' : Option AV} (h : x = x') : kRes Q H x = kRes Q H x' := by
  subst h; rfl
def fin (P : Program) (rs : List ResultVar) (Q : AV → AH → Prop) : APost := fun x e H => (match x with | .exit _ => False | _ => True) ∧ ∃ r, aRes P e H rs = some r ∧ Q r H
/-- A round's end: the state is one of the loop's and less. -/
def kInv {σ : Type} (st : σ → Env → AH → Prop) (μ : σ → Nat) (s : σ) (e : Env) (H : AH) : Prop := ∃ s', st s' e H ∧ μ s' < μ s


section
variable {P : Program} {K : Kt} {Q : APost} {e : Env} {H : AH} {d : Option Nat} {l : List SO} {l' : List (Nat × List Nat × SO)} {σ : Seen} {i : Nat} {ds : List Nat} {r : Rst}

theorem gs_move {x : Operand} : go P (.s (⟨d, .move x, none⟩ :: l)) e H K = kPut P (.s l) e H K d (ev e x) := rfl
theorem gd_move {x : Operand} : go P (.d ((i, ds, ⟨d, .move x, none⟩) :: l') σ) e H K = kPut P (.d l' σ) e H K d (ev e x) := rfl
theorem gs_assign {x : Operand} : go P (.s (⟨d, .assign x, none⟩ :: l)) e H K = kPut P (.s l) e H K d (ev e x) := rfl
theorem gd_assign {x : Operand} : go P (.d ((i, ds, ⟨d, .assign x, none⟩) :: l') σ) e H K = kPut P (.d l' σ) e H K d (ev e x) := rfl
theorem gs_pick {c : Operand} {a : Operand} {b : Operand} : go P (.s (⟨d, .pick c a b, none⟩ :: l)) e H K = kPick P (.s l) e H K d (ev e c) (ev e a) (ev e b) := rfl
theorem gd_pick {c : Operand} {a : Operand} {b : Operand} : go P (.d ((i, ds, ⟨d, .pick c a b, none⟩) :: l') σ) e H K = kPick P (.d l' σ) e H K d (ev e c) (ev e a) (ev e b) := rfl
theorem gs_bin {op : BinOp} {t : TypeId} {u : TypeId} {x : Operand} {y : Operand} : go P (.s (⟨d, .binOp op t x y u, none⟩ :: l)) e H K = kBin P op t (.s l) e H K d (ev e x) (ev e y) := rfl
theorem gd_bin {op : BinOp} {t : TypeId} {u : TypeId} {x : Operand} {y : Operand} : go P (.d ((i, ds, ⟨d, .binOp op t x y u, none⟩) :: l') σ) e H K = kBin P op t (.d l' σ) e H K d (ev e x) (ev e y) := rfl
theorem gs_un {op : UnOp} {u : TypeId} {x : Operand} : go P (.s (⟨d, .unOp op u x, none⟩ :: l)) e H K = kUn P op (.s l) e H K d (ev e x) := rfl
theorem gd_un {op : UnOp} {u : TypeId} {x : Operand} : go P (.d ((i, ds, ⟨d, .unOp op u x, none⟩) :: l') σ) e H K = kUn P op (.d l' σ) e H K d (ev e x) := rfl
theorem gs_cv {s : TypeId} {t : TypeId} {x : Operand} : go P (.s (⟨d, .convert s t x, none⟩ :: l)) e H K = kCv P (intT P s) (intT P t) (.s l) e H K d (ev e x) := rfl
theorem gd_cv {s : TypeId} {t : TypeId} {x : Operand} : go P (.d ((i, ds, ⟨d, .convert s t x, none⟩) :: l') σ) e H K = kCv P (intT P s) (intT P t) (.d l' σ) e H K d (ev e x) := rfl
theorem gs_load {t : TypeId} {x : Operand} : go P (.s (⟨d, .load t x, none⟩ :: l)) e H K = kLoad P 0 t (.s l) e H K d (ev e x) := by
  simp only [go, sops, sDraw, sGuard, aop, kStore, kLoad, kCall, kRet, kLen, kApp, kCopy, kMax, kMin, Rst.chk, Rst.see, isW, isAl, watch, if_true, true_and, forall_const, reduceCtorEq, if_false, Bool.false_eq_true, List.map_cons, List.map_nil, Array.toList]; cases ev e x <;> first | rfl | (simp [chk, kPut, kAlloc, kBox, kNew, kBuildS, kMake, go, aNew]; done)
theorem gd_load {t : TypeId} {x : Operand} : go P (.d ((i, ds, ⟨d, .load t x, none⟩) :: l') σ) e H K = kLoad P i t (.d l' σ) e H K d (ev e x) := by
  simp only [go, sops, sDraw, sGuard, aop, kStore, kLoad, kCall, kRet, kLen, kApp, kCopy, kMax, kMin, Rst.chk, Rst.see, isW, isAl, watch, if_true, true_and, forall_const, reduceCtorEq, if_false, Bool.false_eq_true, List.map_cons, List.map_nil, Array.toList]; cases ev e x <;> first | rfl | (simp [chk, kPut, kAlloc, kBox, kNew, kBuildS, kMake, go, aNew]; done)
theorem gs_store {t : TypeId} {x : Operand} {y : Operand} : go P (.s (⟨d, .store t x y, none⟩ :: l)) e H K = kStore P [] (szT P t) (.s l) e H K d (ev e x) (ev e y) := by
  simp only [go, sops, sDraw, sGuard, aop, kStore, kLoad, kCall, kRet, kLen, kApp, kCopy, kMax, kMin, Rst.chk, Rst.see, isW, isAl, watch, if_true, true_and, forall_const, reduceCtorEq, if_false, Bool.false_eq_true, List.map_cons, List.map_nil, Array.toList]; cases ev e x <;> first | rfl | (simp [chk, kPut, kAlloc, kBox, kNew, kBuildS, kMake, go, aNew]; done)
theorem gd_store {t : TypeId} {x : Operand} {y : Operand} : go P (.d ((i, ds, ⟨d, .store t x y, none⟩) :: l') σ) e H K = kStore P ds (szT P t) (.d l' σ) e H K d (ev e x) (ev e y) := by
  simp only [go, sops, sDraw, sGuard, aop, kStore, kLoad, kCall, kRet, kLen, kApp, kCopy, kMax, kMin, Rst.chk, Rst.see, isW, isAl, watch, if_true, true_and, forall_const, reduceCtorEq, if_false, Bool.false_eq_true, List.map_cons, List.map_nil, Array.toList]; cases ev e x <;> first | rfl | (simp [chk, kPut, kAlloc, kBox, kNew, kBuildS, kMake, go, aNew]; done)
theorem gs_nilc {x : Operand} : go P (.s (⟨d, .nilCheck x, none⟩ :: l)) e H K = kNil P (.s l) e H K d (ev e x) := rfl
theorem gd_nilc {x : Operand} : go P (.d ((i, ds, ⟨d, .nilCheck x, none⟩) :: l') σ) e H K = kNil P (.d l' σ) e H K d (ev e x) := rfl
theorem gs_fld {s : TypeId} {x : Operand} {f : Nat} : go P (.s (⟨d, .fieldAddr s x f, none⟩ :: l)) e H K = kFld P (fOff P s f) (.s l) e H K d (ev e x) := rfl
theorem gd_fld {s : TypeId} {x : Operand} {f : Nat} : go P (.d ((i, ds, ⟨d, .fieldAddr s x f, none⟩) :: l') σ) e H K = kFld P (fOff P s f) (.d l' σ) e H K d (ev e x) := rfl
theorem gs_idx {t : TypeId} {x : Operand} {j : Operand} : go P (.s (⟨d, .indexAddr t x j, none⟩ :: l)) e H K = kIdx P (szE P t) (.s l) e H K d (ev e x) (ev e j) := rfl
theorem gd_idx {t : TypeId} {x : Operand} {j : Operand} : go P (.d ((i, ds, ⟨d, .indexAddr t x j, none⟩) :: l') σ) e H K = kIdx P (szE P t) (.d l' σ) e H K d (ev e x) (ev e j) := rfl
theorem gs_slice {t : TypeId} {x : Operand} {lo : Option Operand} {hi : Option Operand} {mx : Option Operand} : go P (.s (⟨d, .slice t x lo hi mx, none⟩ :: l)) e H K = kSlice P (szE P t) (.s l) e H K d (ev e x) (lo.map (ev e)) (hi.map (ev e)) (mx.map (ev e)) := rfl
theorem gd_slice {t : TypeId} {x : Operand} {lo : Option Operand} {hi : Option Operand} {mx : Option Operand} : go P (.d ((i, ds, ⟨d, .slice t x lo hi mx, none⟩) :: l') σ) e H K = kSlice P (szE P t) (.d l' σ) e H K d (ev e x) (lo.map (ev e)) (hi.map (ev e)) (mx.map (ev e)) := rfl
theorem gs_alloc {t : TypeId} : go P (.s (⟨d, .alloc t, none⟩ :: l)) e H K = kAlloc P (.s l) e H K d (zrT P t) := by
  simp only [go, sops, sDraw, sGuard, aop, kStore, kLoad, kCall, kRet, kLen, kApp, kCopy, kMax, kMin, Rst.chk, Rst.see, isW, isAl, watch, if_true, true_and, forall_const, reduceCtorEq, if_false, Bool.false_eq_true, List.map_cons, List.map_nil, Array.toList] <;> first | rfl | (simp [chk, kPut, kAlloc, kBox, kNew, kBuildS, kMake, go, aNew]; done)
theorem gd_alloc {t : TypeId} : go P (.d ((i, ds, ⟨d, .alloc t, none⟩) :: l') σ) e H K = kAlloc P (.d l' σ) e H K d (zrT P t) := by
  simp only [go, sops, sDraw, sGuard, aop, kStore, kLoad, kCall, kRet, kLen, kApp, kCopy, kMax, kMin, Rst.chk, Rst.see, isW, isAl, watch, if_true, true_and, forall_const, reduceCtorEq, if_false, Bool.false_eq_true, List.map_cons, List.map_nil, Array.toList] <;> first | rfl | (simp [chk, kPut, kAlloc, kBox, kNew, kBuildS, kMake, go, aNew]; done)
theorem gs_box {t : TypeId} {x : Operand} : go P (.s (⟨d, .box t x, none⟩ :: l)) e H K = kBox P (.s l) e H K d (ev e x) := by
  simp only [go, sops, sDraw, sGuard, aop, kStore, kLoad, kCall, kRet, kLen, kApp, kCopy, kMax, kMin, Rst.chk, Rst.see, isW, isAl, watch, if_true, true_and, forall_const, reduceCtorEq, if_false, Bool.false_eq_true, List.map_cons, List.map_nil, Array.toList] <;> first | rfl | (simp [chk, kPut, kAlloc, kBox, kNew, kBuildS, kMake, go, aNew]; done)
theorem gd_box {t : TypeId} {x : Operand} : go P (.d ((i, ds, ⟨d, .box t x, none⟩) :: l') σ) e H K = kBox P (.d l' σ) e H K d (ev e x) := by
  simp only [go, sops, sDraw, sGuard, aop, kStore, kLoad, kCall, kRet, kLen, kApp, kCopy, kMax, kMin, Rst.chk, Rst.see, isW, isAl, watch, if_true, true_and, forall_const, reduceCtorEq, if_false, Bool.false_eq_true, List.map_cons, List.map_nil, Array.toList] <;> first | rfl | (simp [chk, kPut, kAlloc, kBox, kNew, kBuildS, kMake, go, aNew]; done)
theorem gs_build {t : TypeId} {ps : Array (Nat × Operand)} : go P (.s (⟨d, .build t ps, none⟩ :: l)) e H K = kBuild P (.s l) e H K d (zrT P t) (plT P t) (ps.toList.map fun p => (p.1, ev e p.2)) := rfl
theorem gd_build {t : TypeId} {ps : Array (Nat × Operand)} : go P (.d ((i, ds, ⟨d, .build t ps, none⟩) :: l') σ) e H K = kBuild P (.d l' σ) e H K d (zrT P t) (plT P t) (ps.toList.map fun p => (p.1, ev e p.2)) := rfl
theorem gs_buildS {t : TypeId} {n : Nat} {ps : Array (Nat × Operand)} : go P (.s (⟨d, .buildSlice t n ps, none⟩ :: l)) e H K = kBuildS P n (.s l) e H K d (szE P t) (zrE P t) (ps.toList.map fun p => (p.1, ev e p.2)) := by
  simp only [go, sops, sDraw, sGuard, aop, kStore, kLoad, kCall, kRet, kLen, kApp, kCopy, kMax, kMin, Rst.chk, Rst.see, isW, isAl, watch, if_true, true_and, forall_const, reduceCtorEq, if_false, Bool.false_eq_true, List.map_cons, List.map_nil, Array.toList] <;> first | rfl | (simp [chk, kPut, kAlloc, kBox, kNew, kBuildS, kMake, go, aNew]; done)
theorem gd_buildS {t : TypeId} {n : Nat} {ps : Array (Nat × Operand)} : go P (.d ((i, ds, ⟨d, .buildSlice t n ps, none⟩) :: l') σ) e H K = kBuildS P n (.d l' σ) e H K d (szE P t) (zrE P t) (ps.toList.map fun p => (p.1, ev e p.2)) := by
  simp only [go, sops, sDraw, sGuard, aop, kStore, kLoad, kCall, kRet, kLen, kApp, kCopy, kMax, kMin, Rst.chk, Rst.see, isW, isAl, watch, if_true, true_and, forall_const, reduceCtorEq, if_false, Bool.false_eq_true, List.map_cons, List.map_nil, Array.toList] <;> first | rfl | (simp [chk, kPut, kAlloc, kBox, kNew, kBuildS, kMake, go, aNew]; done)
theorem gs_make {t : TypeId} {x : Operand} {y : Operand} : go P (.s (⟨d, .makeSlice t x y, none⟩ :: l)) e H K = kMake P (.s l) e H K d (szE P t) (zrE P t) (byE P t) (ev e x) (ev e y) := by
  simp only [go, sops, sDraw, sGuard, aop, kStore, kLoad, kCall, kRet, kLen, kApp, kCopy, kMax, kMin, Rst.chk, Rst.see, isW, isAl, watch, if_true, true_and, forall_const, reduceCtorEq, if_false, Bool.false_eq_true, List.map_cons, List.map_nil, Array.toList]; cases ev e x <;> cases ev e y <;> first | rfl | (simp [chk, kPut, kAlloc, kBox, kNew, kBuildS, kMake, go, aNew]; done)
theorem gd_make {t : TypeId} {x : Operand} {y : Operand} : go P (.d ((i, ds, ⟨d, .makeSlice t x y, none⟩) :: l') σ) e H K = kMake P (.d l' σ) e H K d (szE P t) (zrE P t) (byE P t) (ev e x) (ev e y) := by
  simp only [go, sops, sDraw, sGuard, aop, kStore, kLoad, kCall, kRet, kLen, kApp, kCopy, kMax, kMin, Rst.chk, Rst.see, isW, isAl, watch, if_true, true_and, forall_const, reduceCtorEq, if_false, Bool.false_eq_true, List.map_cons, List.map_nil, Array.toList]; cases ev e x <;> cases ev e y <;> first | rfl | (simp [chk, kPut, kAlloc, kBox, kNew, kBuildS, kMake, go, aNew]; done)
theorem gs_func {f : Nat} {cs : Array Operand} : go P (.s (⟨d, .makeFunc (.func f) #[] cs, none⟩ :: l)) e H K = kPut P (.s l) e H K d (.fn f (cs.toList.map (ev e))) := by
  simp only [go, sops, sDraw, sGuard, aop, kStore, kLoad, kCall, kRet, kLen, kApp, kCopy, kMax, kMin, Rst.chk, Rst.see, isW, isAl, watch, if_true, true_and, forall_const, reduceCtorEq, if_false, Bool.false_eq_true, List.map_cons, List.map_nil, Array.toList] <;> first | rfl | (simp [chk, kPut, kAlloc, kBox, kNew, kBuildS, kMake, go, aNew]; done)
theorem gd_func {f : Nat} {cs : Array Operand} : go P (.d ((i, ds, ⟨d, .makeFunc (.func f) #[] cs, none⟩) :: l') σ) e H K = kPut P (.d l' σ) e H K d (.fn f (cs.toList.map (ev e))) := by
  simp only [go, sops, sDraw, sGuard, aop, kStore, kLoad, kCall, kRet, kLen, kApp, kCopy, kMax, kMin, Rst.chk, Rst.see, isW, isAl, watch, if_true, true_and, forall_const, reduceCtorEq, if_false, Bool.false_eq_true, List.map_cons, List.map_nil, Array.toList] <;> first | rfl | (simp [chk, kPut, kAlloc, kBox, kNew, kBuildS, kMake, go, aNew]; done)
theorem gs_ext {x : Operand} {j : Nat} : go P (.s (⟨d, .extract x j, none⟩ :: l)) e H K = kExt P j (.s l) e H K d (ev e x) := rfl
theorem gd_ext {x : Operand} {j : Nat} : go P (.d ((i, ds, ⟨d, .extract x j, none⟩) :: l') σ) e H K = kExt P j (.d l' σ) e H K d (ev e x) := rfl
theorem gs_len {x : Operand} {t : TypeId} : go P (.s (⟨d, .call { callee := .builtin .len, args := #[x], argTypes := #[t] }, none⟩ :: l)) e H K = kLen P (elT P t) (.s l) e H K d (ev e x) := by
  simp only [go, sops, sDraw, sGuard, aop, kStore, kLoad, kCall, kRet, kLen, kApp, kCopy, kMax, kMin, Rst.chk, Rst.see, isW, isAl, watch, if_true, true_and, forall_const, reduceCtorEq, if_false, Bool.false_eq_true, List.map_cons, List.map_nil, Array.toList]; cases ev e x <;> first | rfl | (simp [chk, kPut, kAlloc, kBox, kNew, kBuildS, kMake, go, aNew]; done)
theorem gd_len {x : Operand} {t : TypeId} : go P (.d ((i, ds, ⟨d, .call { callee := .builtin .len, args := #[x], argTypes := #[t] }, none⟩) :: l') σ) e H K = kLen P (elT P t) (.d l' σ) e H K d (ev e x) := by
  simp only [go, sops, sDraw, sGuard, aop, kStore, kLoad, kCall, kRet, kLen, kApp, kCopy, kMax, kMin, Rst.chk, Rst.see, isW, isAl, watch, if_true, true_and, forall_const, reduceCtorEq, if_false, Bool.false_eq_true, List.map_cons, List.map_nil, Array.toList]; cases ev e x <;> first | rfl | (simp [chk, kPut, kAlloc, kBox, kNew, kBuildS, kMake, go, aNew]; done)
theorem gs_app {x : Operand} {y : Operand} {t : TypeId} : go P (.s (⟨d, .call { callee := .builtin .append, args := #[x, y], argTypes := #[t, t] }, none⟩ :: l)) e H K = kApp P [] (szE P t) (byE P t) (zrE P t) (.s l) e H K d (ev e x) (ev e y) := by
  simp only [go, sops, sDraw, sGuard, aop, kStore, kLoad, kCall, kRet, kLen, kApp, kCopy, kMax, kMin, Rst.chk, Rst.see, isW, isAl, watch, if_true, true_and, forall_const, reduceCtorEq, if_false, Bool.false_eq_true, List.map_cons, List.map_nil, Array.toList] <;> first | rfl | (simp [chk, kPut, kAlloc, kBox, kNew, kBuildS, kMake, go, aNew]; done)
theorem gd_app {x : Operand} {y : Operand} {t : TypeId} : go P (.d ((i, ds, ⟨d, .call { callee := .builtin .append, args := #[x, y], argTypes := #[t, t] }, none⟩) :: l') σ) e H K = kApp P ds (szE P t) (byE P t) (zrE P t) (.d l' σ) e H K d (ev e x) (ev e y) := by
  simp only [go, sops, sDraw, sGuard, aop, kStore, kLoad, kCall, kRet, kLen, kApp, kCopy, kMax, kMin, Rst.chk, Rst.see, isW, isAl, watch, if_true, true_and, forall_const, reduceCtorEq, if_false, Bool.false_eq_true, List.map_cons, List.map_nil, Array.toList] <;> first | rfl | (simp [chk, kPut, kAlloc, kBox, kNew, kBuildS, kMake, go, aNew]; done)
theorem gs_copy {x : Operand} {y : Operand} {t : TypeId} {t' : TypeId} : go P (.s (⟨d, .call { callee := .builtin .copy, args := #[x, y], argTypes := #[t, t'] }, none⟩ :: l)) e H K = kCopy P [] (szE P t) (.s l) e H K d (ev e x) (ev e y) := by
  simp only [go, sops, sDraw, sGuard, aop, kStore, kLoad, kCall, kRet, kLen, kApp, kCopy, kMax, kMin, Rst.chk, Rst.see, isW, isAl, watch, if_true, true_and, forall_const, reduceCtorEq, if_false, Bool.false_eq_true, List.map_cons, List.map_nil, Array.toList] <;> first | rfl | (simp [chk, kPut, kAlloc, kBox, kNew, kBuildS, kMake, go, aNew]; done)
theorem gd_copy {x : Operand} {y : Operand} {t : TypeId} {t' : TypeId} : go P (.d ((i, ds, ⟨d, .call { callee := .builtin .copy, args := #[x, y], argTypes := #[t, t'] }, none⟩) :: l') σ) e H K = kCopy P ds (szE P t) (.d l' σ) e H K d (ev e x) (ev e y) := by
  simp only [go, sops, sDraw, sGuard, aop, kStore, kLoad, kCall, kRet, kLen, kApp, kCopy, kMax, kMin, Rst.chk, Rst.see, isW, isAl, watch, if_true, true_and, forall_const, reduceCtorEq, if_false, Bool.false_eq_true, List.map_cons, List.map_nil, Array.toList] <;> first | rfl | (simp [chk, kPut, kAlloc, kBox, kNew, kBuildS, kMake, go, aNew]; done)
theorem gs_max {x : Operand} {y : Operand} {ts : Array TypeId} : go P (.s (⟨d, .call { callee := .builtin .max, args := #[x, y], argTypes := ts }, none⟩ :: l)) e H K = kMax P (.s l) e H K d (ev e x) (ev e y) := by
  simp only [go, sops, sDraw, sGuard, aop, kStore, kLoad, kCall, kRet, kLen, kApp, kCopy, kMax, kMin, Rst.chk, Rst.see, isW, isAl, watch, if_true, true_and, forall_const, reduceCtorEq, if_false, Bool.false_eq_true, List.map_cons, List.map_nil, Array.toList] <;> first | rfl | (simp [chk, kPut, kAlloc, kBox, kNew, kBuildS, kMake, go, aNew]; done)
theorem gd_max {x : Operand} {y : Operand} {ts : Array TypeId} : go P (.d ((i, ds, ⟨d, .call { callee := .builtin .max, args := #[x, y], argTypes := ts }, none⟩) :: l') σ) e H K = kMax P (.d l' σ) e H K d (ev e x) (ev e y) := by
  simp only [go, sops, sDraw, sGuard, aop, kStore, kLoad, kCall, kRet, kLen, kApp, kCopy, kMax, kMin, Rst.chk, Rst.see, isW, isAl, watch, if_true, true_and, forall_const, reduceCtorEq, if_false, Bool.false_eq_true, List.map_cons, List.map_nil, Array.toList] <;> first | rfl | (simp [chk, kPut, kAlloc, kBox, kNew, kBuildS, kMake, go, aNew]; done)
theorem gs_min {x : Operand} {y : Operand} {ts : Array TypeId} : go P (.s (⟨d, .call { callee := .builtin .min, args := #[x, y], argTypes := ts }, none⟩ :: l)) e H K = kMin P (.s l) e H K d (ev e x) (ev e y) := by
  simp only [go, sops, sDraw, sGuard, aop, kStore, kLoad, kCall, kRet, kLen, kApp, kCopy, kMax, kMin, Rst.chk, Rst.see, isW, isAl, watch, if_true, true_and, forall_const, reduceCtorEq, if_false, Bool.false_eq_true, List.map_cons, List.map_nil, Array.toList] <;> first | rfl | (simp [chk, kPut, kAlloc, kBox, kNew, kBuildS, kMake, go, aNew]; done)
theorem gd_min {x : Operand} {y : Operand} {ts : Array TypeId} : go P (.d ((i, ds, ⟨d, .call { callee := .builtin .min, args := #[x, y], argTypes := ts }, none⟩) :: l') σ) e H K = kMin P (.d l' σ) e H K d (ev e x) (ev e y) := by
  simp only [go, sops, sDraw, sGuard, aop, kStore, kLoad, kCall, kRet, kLen, kApp, kCopy, kMax, kMin, Rst.chk, Rst.see, isW, isAl, watch, if_true, true_and, forall_const, reduceCtorEq, if_false, Bool.false_eq_true, List.map_cons, List.map_nil, Array.toList] <;> first | rfl | (simp [chk, kPut, kAlloc, kBox, kNew, kBuildS, kMake, go, aNew]; done)
theorem gs_call {f : Operand} {as : Array Operand} {ts : Array TypeId} : go P (.s (⟨d, .call { callee := .value f, args := as, argTypes := ts }, none⟩ :: l)) e H K = kCall P [] (.s l) e H K d (ev e f) (as.toList.map (ev e)) := by
  simp only [go, sops, sDraw, sGuard, aop, kStore, kLoad, kCall, kRet, kLen, kApp, kCopy, kMax, kMin, Rst.chk, Rst.see, isW, isAl, watch, if_true, true_and, forall_const, reduceCtorEq, if_false, Bool.false_eq_true, List.map_cons, List.map_nil, Array.toList]; cases ev e f <;> first | rfl | (simp [chk, kPut, kAlloc, kBox, kNew, kBuildS, kMake, go, aNew]; done)
theorem gd_call {f : Operand} {as : Array Operand} {ts : Array TypeId} : go P (.d ((i, ds, ⟨d, .call { callee := .value f, args := as, argTypes := ts }, none⟩) :: l') σ) e H K = kCall P ds (.d l' σ) e H K d (ev e f) (as.toList.map (ev e)) := by
  simp only [go, sops, sDraw, sGuard, aop, kStore, kLoad, kCall, kRet, kLen, kApp, kCopy, kMax, kMin, Rst.chk, Rst.see, isW, isAl, watch, if_true, true_and, forall_const, reduceCtorEq, if_false, Bool.false_eq_true, List.map_cons, List.map_nil, Array.toList]; cases ev e f <;> first | rfl | (simp [chk, kPut, kAlloc, kBox, kNew, kBuildS, kMake, go, aNew]; done)
theorem gs_g {g : Nat} {w : Bool} {op : Op} : go P (.s (⟨d, op, some (g, w)⟩ :: l)) e H K = kG P w g (.s l) (.s (⟨d, op, none⟩ :: l)) e H K d (e g) := by
  unfold kG; simp only [go, sops, sDraw, sGuard] <;> (cases e g <;> rfl)
theorem gd_g {g : Nat} {w : Bool} {op : Op} : go P (.d ((i, ds, ⟨d, op, some (g, w)⟩) :: l') σ) e H K = kG P w g (.d l' σ) (.d ((i, ds, ⟨d, op, none⟩) :: l') σ) e H K d (e g) := by
  unfold kG; simp only [go, sops, sDraw, sGuard] <;> (cases e g <;> rfl)
theorem gs_nil : go P (.s []) e H K = K e H := rfl
theorem gd_nil : go P (.d [] σ) e H K = K e H := rfl
theorem w_skip : swp P .skip Q e H = Q .normal e H := rfl
theorem w_reg : swp P (.reg l) Q e H = go P (.s l) e H (Q .normal) := rfl
theorem w_draw : swp P (.draw l') Q e H = go P (.d l' []) e H (Q .normal) := rfl
theorem w_seq {a : SC} {b : SC} : swp P (.seq a b) Q e H = swp P a (AX.then (swp P b Q) Q) e H := rfl
theorem w_cond {c : Operand} {a : SC} {b : SC} : swp P (.cond c a b) Q e H = kIf P a b Q e H (ev e c) := rfl
theorem w_block {n : Nat} {c : SC} : swp P (.block n c) Q e H = swp P c (AX.inBlock n Q) e H := rfl
theorem w_exit {n : Nat} : swp P (.exit n) Q e H = Q (.exit n) e H := rfl
theorem w_ret : swp P .ret Q e H = Q .ret e H := rfl
theorem x_then : AX.then K Q .normal e H = K e H := rfl
theorem x_thenE {n : Nat} : AX.then K Q (.exit n) e H = Q (.exit n) e H := rfl
theorem x_thenR : AX.then K Q .ret e H = Q .ret e H := rfl
theorem x_in {n : Nat} : AX.inBlock n Q .normal e H = Q .normal e H := rfl
theorem x_inE {n : Nat} {m : Nat} : AX.inBlock n Q (.exit m) e H = if m = n then Q .normal e H else Q (.exit m) e H := by
  by_cases h : m = n <;> simp [AX.inBlock, h]
theorem x_inR {n : Nat} : AX.inBlock n Q .ret e H = Q .ret e H := rfl
theorem f_ret {rs : List ResultVar} {Q : AV → AH → Prop} : fin P rs Q .ret e H = kRes Q H (aRes P e H rs) := by
  simp [fin, kRes]
theorem f_norm {rs : List ResultVar} {Q : AV → AH → Prop} : fin P rs Q .normal e H = kRes Q H (aRes P e H rs) := by
  simp [fin, kRes]
end

end Go.Proofs.YtbkpebmcagdgmaaGreat.AM
/-! What the runner does with a step whose operands are worked out; slices of ints. -/
namespace Go.Proofs.YtbkpebmcagdgmaaGreat.AM
open Go Go.RowKit
set_option linter.unusedVariables false
set_option linter.unusedSimpArgs false

/-! ### second locks -/
def kSt (P : Program) (ds : List Nat) (b o : Nat) (r : Rst) (e : Env) (H : AH) (K : Kt) (d : Option Nat) (y : AV) (s : Slot) : Prop :=
  ∃ xs, s = .rw xs ∧ y.sure = true ∧ (∀ v, v ∈ y.cells → v.one = true) ∧ o + y.cells.length ≤ xs.length ∧
      r.chk P (H.upd b (.rw (splice xs o y.cells))) ds ∧ go P r (e.put d (.tup [])) (H.upd b (.rw (splice xs o y.cells))) K
@[congr] theorem kSt_congr {P : Program} {ds : List Nat} {b o : Nat} {r : Rst} {e : Env} {H : AH} {K : Kt} {d : Option Nat} {y : AV} {s s' : Slot} (h : s = s') : kSt P ds b o r e H K d y s = kSt P ds b o r e H K d y s' := by
  subst h; rfl
def kOpt (P : Program) (r : Rst) (e : Env) (H : AH) (K : Kt) (d : Option Nat) (v : Option AV) : Prop := ∃ u, v = some u ∧ go P r (e.put d u) H K
@[congr] theorem kOpt_congr {P : Program} {r : Rst} {e : Env} {H : AH} {K : Kt} {d : Option Nat} {v v' : Option AV} (h : v = v') : kOpt P r e H K d v = kOpt P r e H K d v' := by
  subst h; rfl
def kAgg (P : Program) (r : Rst) (e : Env) (H : AH) (K : Kt) (d : Option Nat) (v : Option (List AV)) : Prop := ∃ u, v = some u ∧ go P r (e.put d (.agg u)) H K
@[congr] theorem kAgg_congr {P : Program} {r : Rst} {e : Env} {H : AH} {K : Kt} {d : Option Nat} {v v' : Option (List AV)} (h : v = v') : kAgg P r e H K d v = kAgg P r e H K d v' := by
  subst h; rfl
def kNewO (P : Program) (m : Nat → AV) (r : Rst) (e : Env) (H : AH) (K : Kt) (d : Option Nat) (v : Option (List AV)) : Prop := ∃ u, v = some u ∧ kNew P m r e H K d u
@[congr] theorem kNewO_congr {P : Program} {m : Nat → AV} {r : Rst} {e : Env} {H : AH} {K : Kt} {d : Option Nat} {v v' : Option (List AV)} (h : v = v') : kNewO P m r e H K d v = kNewO P m r e H K d v' := by
  subst h; rfl

def cellsCons (v : Option AV) (l : Option (List AV)) : Option (List AV) :=
  match v, l with
  | some v, some l => some (v :: l)
  | _, _ => none

def slotCell : Slot → Nat → Option AV
  | .ro f, o => f o
  | .rw xs, o => xs[o]?
  | _, _ => none

section
variable {P : Program} {K : Kt} {Q : APost} {e : Env} {H : AH} {d : Option Nat} {r : Rst} {k k' k'' : IntKind} {a b n m : Int} {ds : List Nat} {t : TypeId} {i c o blk s : Nat}

theorem u_put {v : AV} : kPut P r e H K d v = go P r (e.put d v) H K := rfl
theorem u_load : kLoad P i t r e H K d (.ptr blk o) = kLd P i t blk o r e H K d (loadT P t H blk o) := rfl
theorem u_ldS {l : List SO} {u : AV} : kLd P i t blk o (.s l) e H K d (some u) = kPut P (.s l) e H K d u := by simp [kLd, kPut, Rst.see]
theorem u_ldD {l : List (Nat × List Nat × SO)} {σ : Seen} {u : AV} : kLd P i t blk o (.d l σ) e H K d (some u) = kPut P (.d l ((i, t, blk, o, u) :: σ)) e H K d u := by simp [kLd, kPut, Rst.see]
theorem u_shl (h : 0 ≤ b) : kBin P .shl t r e H K d (.int k a) (.int k' b) = kPut P r e H K d (.int k (k.wrap (a * 2 ^ (min b.toNat k.bits)))) := by simp [kBin, aBin, kPut, h]
theorem u_shr (h : 0 ≤ b) : kBin P .shr t r e H K d (.int k a) (.int k' b) = kPut P r e H K d (.int k (a.fdiv (2 ^ (min b.toNat k.bits)))) := by simp [kBin, aBin, kPut, h]
theorem u_add : kBin P .add t r e H K d (.int k a) (.int k b) = kPut P r e H K d (.int k (k.wrap (a + b))) := by simp [kBin, aBin, kPut]
theorem u_sub : kBin P .sub t r e H K d (.int k a) (.int k b) = kPut P r e H K d (.int k (k.wrap (a - b))) := by simp [kBin, aBin, kPut]
theorem u_mul : kBin P .mul t r e H K d (.int k a) (.int k b) = kPut P r e H K d (.int k (k.wrap (a * b))) := by simp [kBin, aBin, kPut]
theorem u_quo (h : b ≠ 0) : kBin P .quo t r e H K d (.int k a) (.int k b) = kPut P r e H K d (.int k (k.wrap (a.tdiv b))) := by simp [kBin, aBin, kPut, h]
theorem u_rem (h : b ≠ 0) : kBin P .rem t r e H K d (.int k a) (.int k b) = kPut P r e H K d (.int k (a.tmod b)) := by simp [kBin, aBin, kPut, h]
theorem u_and : kBin P .and t r e H K d (.int k a) (.int k b) = kPut P r e H K d (.int k (k.wrap (BitVec.ofInt k.bits a &&& BitVec.ofInt k.bits b).toNat)) := by simp [kBin, aBin, kPut]
theorem u_or : kBin P .or t r e H K d (.int k a) (.int k b) = kPut P r e H K d (.int k (k.wrap (BitVec.ofInt k.bits a ||| BitVec.ofInt k.bits b).toNat)) := by simp [kBin, aBin, kPut]
theorem u_xor : kBin P .xor t r e H K d (.int k a) (.int k b) = kPut P r e H K d (.int k (k.wrap (BitVec.ofInt k.bits a ^^^ BitVec.ofInt k.bits b).toNat)) := by simp only [kBin, aBin, kPut, true_and]
theorem u_andNot : kBin P .andNot t r e H K d (.int k a) (.int k b) = kPut P r e H K d (.int k (k.wrap (BitVec.ofInt k.bits a &&& ~~~ BitVec.ofInt k.bits b).toNat)) := by simp only [kBin, aBin, kPut, true_and]
theorem u_eql : kBin P .eql t r e H K d (.int k a) (.int k b) = kPut P r e H K d (.bool (decide (a = b))) := by simp [kBin, aBin, kPut]
theorem u_neq : kBin P .neq t r e H K d (.int k a) (.int k b) = kPut P r e H K d (.bool (decide (a ≠ b))) := by simp only [kBin, aBin, kPut, true_and]
theorem u_lss : kBin P .lss t r e H K d (.int k a) (.int k b) = kPut P r e H K d (.bool (decide (a < b))) := by simp [kBin, aBin, kPut]
theorem u_leq : kBin P .leq t r e H K d (.int k a) (.int k b) = kPut P r e H K d (.bool (decide (a ≤ b))) := by simp [kBin, aBin, kPut]
theorem u_gtr : kBin P .gtr t r e H K d (.int k a) (.int k b) = kPut P r e H K d (.bool (decide (b < a))) := by simp only [kBin, aBin, kPut, true_and, gt_iff_lt]
theorem u_geq : kBin P .geq t r e H K d (.int k a) (.int k b) = kPut P r e H K d (.bool (decide (b ≤ a))) := by simp only [kBin, aBin, kPut, true_and, ge_iff_le]
theorem u_eqN {b o n : Nat} {c : Cap} : kBin P .eql t r e H K d (.sl b o n c) .nils = ((elT P t).isSome = true ∧ kPut P r e H K d (.bool false)) := rfl
theorem u_eqNN : kBin P .eql t r e H K d .nils .nils = ((elT P t).isSome = true ∧ kPut P r e H K d (.bool true)) := rfl
theorem u_neN {b o n : Nat} {c : Cap} : kBin P .neq t r e H K d (.sl b o n c) .nils = ((elT P t).isSome = true ∧ kPut P r e H K d (.bool true)) := rfl
theorem u_neNN : kBin P .neq t r e H K d .nils .nils = ((elT P t).isSome = true ∧ kPut P r e H K d (.bool false)) := rfl
theorem u_not {b : Bool} : kUn P .not r e H K d (.bool b) = kPut P r e H K d (.bool (!b)) := rfl
theorem u_neg : kUn P .neg r e H K d (.int k n) = kPut P r e H K d (.int k (k.wrap (-n))) := rfl
theorem u_inv : kUn P .xor r e H K d (.int k n) = kPut P r e H K d (.int k (k.wrap (BitVec.ofInt k.bits (if k.signed then -1 else k.max) ^^^ BitVec.ofInt k.bits n).toNat)) := rfl
theorem u_pickT {x y : AV} : kPick P r e H K d (.bool true) x y = kPut P r e H K d x := rfl
theorem u_pickF {x y : AV} : kPick P r e H K d (.bool false) x y = kPut P r e H K d y := rfl
theorem u_cv : kCv P (some k'') (some k) r e H K d (.int k' n) = kPut P r e H K d (.int k (k.wrap n)) := by simp [kCv, kPut]
theorem splice_one (xs : List AV) (o : Nat) (v : AV) (h : o < xs.length) : splice xs o [v] = xs.set o v := by
  simp [splice, List.set_eq_take_append_cons_drop, h]
theorem one_cells {y : AV} (h : y.one = true) : y.cells = [y] ∧ y.sure = true := by
  cases y <;> first | exact ⟨rfl, rfl⟩ | (simp [AV.one] at h)
theorem st_one {y : AV} (hy : y.one = true) : kStore P ds (some 1) r e H K d (.ptr blk o) y = kSt P ds blk o r e H K d y (H blk) := by
  refine propext ⟨?_, ?_⟩
  · rintro ⟨xs, h1, h2, -, h4, h5, h6⟩; exact ⟨xs, h1, h2, h4, h5, h6⟩
  · rintro ⟨xs, h1, h2, h4, h5, h6⟩; exact ⟨xs, h1, h2, by rw [(one_cells hy).1]; rfl, h4, h5, h6⟩
theorem st_put {y : AV} {xs : List AV} (hy : y.one = true) (h : o < xs.length) : kSt P ds blk o r e H K d y (.rw xs) = kRet P ds r e (H.upd blk (.rw (xs.set o y))) K d (.tup []) := by
  obtain ⟨h1, h2⟩ := one_cells hy
  refine propext ⟨?_, ?_⟩
  · rintro ⟨xs', h1', -, -, -, h6⟩
    cases h1'
    rw [h1, splice_one _ _ _ h] at h6
    exact h6
  · intro h6
    refine ⟨xs, rfl, h2, by rw [h1]; simpa using hy, by rw [h1]; exact h, ?_⟩
    rw [h1, splice_one _ _ _ h]
    exact h6
theorem u_storeI {k : IntKind} {n : Int} : kStore P ds (some 1) r e H K d (.ptr blk o) (.int k n) = kSt P ds blk o r e H K d (.int k n) (H blk) := st_one rfl
theorem u_stGI {k : IntKind} {n : Int} {xs : List AV} (h : o < xs.length) : kSt P ds blk o r e H K d (.int k n) (.rw xs) = kRet P ds r e (H.upd blk (.rw (xs.set o (.int k n)))) K d (.tup []) := st_put rfl h
theorem u_storeB {w : Bool} : kStore P ds (some 1) r e H K d (.ptr blk o) (.bool w) = kSt P ds blk o r e H K d (.bool w) (H blk) := st_one rfl
theorem u_stGB {w : Bool} {xs : List AV} (h : o < xs.length) : kSt P ds blk o r e H K d (.bool w) (.rw xs) = kRet P ds r e (H.upd blk (.rw (xs.set o (.bool w)))) K d (.tup []) := st_put rfl h
theorem u_storeP {b o' : Nat} : kStore P ds (some 1) r e H K d (.ptr blk o) (.ptr b o') = kSt P ds blk o r e H K d (.ptr b o') (H blk) := st_one rfl
theorem u_stGP {b o' : Nat} {xs : List AV} (h : o < xs.length) : kSt P ds blk o r e H K d (.ptr b o') (.rw xs) = kRet P ds r e (H.upd blk (.rw (xs.set o (.ptr b o')))) K d (.tup []) := st_put rfl h
theorem u_storeZ  : kStore P ds (some 1) r e H K d (.ptr blk o) (.nilp) = kSt P ds blk o r e H K d (.nilp) (H blk) := st_one rfl
theorem u_stGZ  {xs : List AV} (h : o < xs.length) : kSt P ds blk o r e H K d (.nilp) (.rw xs) = kRet P ds r e (H.upd blk (.rw (xs.set o (.nilp)))) K d (.tup []) := st_put rfl h
theorem u_storeL {b o' n : Nat} {cp : Cap} : kStore P ds (some 1) r e H K d (.ptr blk o) (.sl b o' n cp) = kSt P ds blk o r e H K d (.sl b o' n cp) (H blk) := st_one rfl
theorem u_stGL {b o' n : Nat} {cp : Cap} {xs : List AV} (h : o < xs.length) : kSt P ds blk o r e H K d (.sl b o' n cp) (.rw xs) = kRet P ds r e (H.upd blk (.rw (xs.set o (.sl b o' n cp)))) K d (.tup []) := st_put rfl h
theorem u_storeN  : kStore P ds (some 1) r e H K d (.ptr blk o) (.nils) = kSt P ds blk o r e H K d (.nils) (H blk) := st_one rfl
theorem u_stGN  {xs : List AV} (h : o < xs.length) : kSt P ds blk o r e H K d (.nils) (.rw xs) = kRet P ds r e (H.upd blk (.rw (xs.set o (.nils)))) K d (.tup []) := st_put rfl h
def ints (xs : List Int) : List AV := xs.map (AV.int .i64)
theorem u_stI {L : List Int} {v : Int} (h : o < L.length) : kSt P ds blk o r e H K d (.int .i64 v) (.rw (ints L)) = kRet P ds r e (H.upd blk (.rw (ints (L.set o v)))) K d (.tup []) := by
  rw [st_put rfl (by simpa [ints] using h)]
  simp [ints, List.map_set]
theorem u_getI {xs : List Int} {i : Nat} (h : i < xs.length) : (ints xs)[i]? = some (.int .i64 (xs.getD i 0)) := by
  simp [ints, h, List.getD_eq_getElem?_getD]
def capFrom (c : Cap) (l : Nat) : Cap := match c with | .any => .any | .kn c => .kn (c - l) | .own s' => if l = 0 then .own s' else .any
theorem u_sliceH {n : Nat} {h : Int} {c : Cap} (h0 : 0 ≤ h) (h1 : h ≤ n) : kSlice P (some 1) r e H K d (.sl blk o n c) none (some (.int k h)) none = kPut P r e H K d (.sl blk o h.toNat c) := by
  have hh : ((h.toNat : Nat) : Int) = h := Int.toNat_of_nonneg h0
  refine propext ⟨?_, ?_⟩
  · rintro ⟨s, hs, l, hh', rfl, ⟨k', h2⟩, h3, h4, h5⟩
    cases hs
    cases h2
    cases c <;> simpa [kPut] using h5
  · intro h2
    refine ⟨1, rfl, 0, h.toNat, rfl, ⟨k, by rw [hh]⟩, by omega, by omega, ?_⟩
    cases c <;> simpa [kPut] using h2
theorem u_sliceL {n : Nat} {l : Int} {c : Cap} (h0 : 0 ≤ l) (h1 : l ≤ n) : kSlice P (some 1) r e H K d (.sl blk o n c) (some (.int k l)) none none = kPut P r e H K d (.sl blk (o + l.toNat) (n - l.toNat) (capFrom c l.toNat)) := by
  have hh : ((l.toNat : Nat) : Int) = l := Int.toNat_of_nonneg h0
  refine propext ⟨?_, ?_⟩
  · rintro ⟨s, hs, l', hh', ⟨k', h2⟩, rfl, h3, h4, h5⟩
    cases hs
    cases h2
    cases c <;> simpa [kPut, capFrom] using h5
  · intro h2
    refine ⟨1, rfl, l.toNat, n, ⟨k, by rw [hh]⟩, rfl, by omega, by omega, ?_⟩
    cases c <;> simpa [kPut, capFrom] using h2
theorem u_nilP : kNil P r e H K d (.ptr blk o) = kPut P r e H K d (.ptr blk o) := rfl
theorem u_nilF {f : Nat} {cs : List AV} : kNil P r e H K d (.fn f cs) = kPut P r e H K d (.fn f cs) := rfl
theorem u_fld : kFld P (some c) r e H K d (.ptr blk o) = kPut P r e H K d (.ptr blk (o + c)) := by simp [kFld, kPut]
theorem u_idx {l : Nat} {cp : Cap} (h0 : 0 ≤ n) (h1 : n < l) : kIdx P (some s) r e H K d (.sl blk o l cp) (.int k n) = kPut P r e H K d (.ptr blk (o + n.toNat * s)) := by simp [kIdx, kPut, h0, h1]
theorem u_alloc {cs : List AV} : kAlloc P r e H K d (some cs) = kNew P (fun b => .ptr b 0) r e H K d cs := by simp [kAlloc]
theorem u_box {x : AV} : kBox P r e H K d x = (x.sure = true ∧ kNew P (fun b => .ptr b 0) r e H K d x.cells) := rfl
theorem u_build {z : List AV} {pl : List (Nat × Nat)} {ps : List (Nat × AV)} : kBuild P r e H K d (some z) (some pl) ps = kAgg P r e H K d (aFill (fun i => pl[i]?) z ps) := by simp [kBuild, kAgg]
theorem u_agg {cs : List AV} : kAgg P r e H K d (some cs) = kPut P r e H K d (.agg cs) := by simp [kAgg, kPut]
theorem u_buildS0 {z : AV} : kBuildS P 0 r e H K d (some 1) (some [z]) [] = kNew P (fun b => .sl b 0 0 (.own 1)) r e H K d [] := by simp [kBuildS, aFill, reps]
theorem u_buildS1 {z v : AV} (h : v.one = true) : kBuildS P 1 r e H K d (some 1) (some [z]) [(0, v)] = kNew P (fun b => .sl b 0 1 (.own 1)) r e H K d [v] := by
  obtain ⟨h1, h2⟩ := one_cells h
  simp [kBuildS, aFill, reps, h1, h2, splice]
theorem u_buildS1I {z : AV} : kBuildS P 1 r e H K d (some 1) (some [z]) [(0, .int k n)] = kNew P (fun b => .sl b 0 1 (.own 1)) r e H K d [.int k n] := u_buildS1 rfl
theorem u_newO {m : Nat → AV} {cs : List AV} : kNewO P m r e H K d (some cs) = kNew P m r e H K d cs := by simp [kNewO]
theorem reps_one (z : AV) : ∀ n, reps [z] n = List.replicate n z
  | 0 => rfl
  | n + 1 => by simp [reps, reps_one z n, List.replicate_succ]
theorem u_make {z : AV} {by_ : Nat} (h0 : 0 ≤ n) (h1 : n * by_ ≤ 281474976710656) (h2 : n ≤ 281474976710656) : kMake P r e H K d (some 1) (some [z]) (some by_) (.int k n) (.int k' n) = kNew P (fun b => .sl b 0 n.toNat (.own 1)) r e H K d (List.replicate n.toNat z) := by simp [kMake, h0, h1, h2, reps_one]
theorem u_ext {vs : List AV} : kExt P i r e H K d (.tup vs) = kOpt P r e H K d (vs[i]?) := rfl
theorem u_opt {v : AV} : kOpt P r e H K d (some v) = kPut P r e H K d v := by simp [kOpt, kPut]
theorem u_len {o n : Nat} {cp : Cap} : kLen P (some t) r e H K d (.sl blk o n cp) = kPut P r e H K d (.int .i64 n) := by simp [kLen, kPut]
theorem u_lenN : kLen P (some t) r e H K d .nils = kPut P r e H K d (.int .i64 0) := by simp [kLen, kPut]
theorem u_retS {l : List SO} {v : AV} : kRet P ds (.s l) e H K d v = kPut P (.s l) e H K d v := by simp [kRet, kPut, Rst.chk]
theorem u_retD {l : List (Nat × List Nat × SO)} {σ : Seen} {v : AV} : kRet P ds (.d l σ) e H K d v = (chk P H ds σ ∧ kPut P (.d l σ) e H K d v) := rfl
theorem u_max : kMax P r e H K d (.int k a) (.int k b) = kPut P r e H K d (.int k (if a < b then b else a)) := by simp only [kMax, aMax, kPut, true_and, gt_iff_lt]
theorem u_min : kMin P r e H K d (.int k a) (.int k b) = kPut P r e H K d (.int k (if b < a then b else a)) := by simp only [kMin, aMin, kPut, true_and]
theorem u_call {g : Nat} {args : List AV} : kCall P ds r e H K d (.fn g []) args = kAC P ds g r e H K d args := by simp [kCall, kAC]
theorem u_callC {g : Nat} {args : List AV} {v : AV} {vs : List AV} : kCall P ds r e H K d (.fn g (v :: vs)) args = kAC P ds g r e H K d (args ++ v :: vs) := by simp [kCall, kAC]
theorem u_gTT {rn : Rst} {g : Nat} : kG P true g rn r e H K d (.bool true) = go P r (e.put (some g) (.bool true)) H K := rfl
theorem u_gFF {rn : Rst} {g : Nat} : kG P false g rn r e H K d (.bool false) = go P r (e.put (some g) (.bool false)) H K := rfl
theorem u_gTF {rn : Rst} {g : Nat} : kG P true g rn r e H K d (.bool false) = go P rn ((e.put (some g) (.bool false)).put d (.tup [])) H K := rfl
theorem u_gFT {rn : Rst} {g : Nat} : kG P false g rn r e H K d (.bool true) = go P rn ((e.put (some g) (.bool true)).put d (.tup [])) H K := rfl
theorem u_gN {w : Bool} {rn : Rst} {g : Nat} : kG P w g rn r e H K d (.tup []) = go P rn (e.put d (.tup [])) H K := rfl
theorem u_ifT {x y : SC} : kIf P x y Q e H (.bool true) = swp P x Q e H := rfl
theorem u_ifF {x y : SC} : kIf P x y Q e H (.bool false) = swp P y Q e H := rfl
theorem u_res {Q : AV → AH → Prop} {v : AV} : kRes Q H (some v) = kQ Q H v := by simp [kRes, kQ]
theorem u_aRes0 : aRes P e H [] = some (.tup []) := rfl
theorem u_aRes1 {t : Nat} : aRes P e H [.tmp t] = some (e t) := rfl
theorem u_aRes2 {t t' : Nat} : aRes P e H [.tmp t, .tmp t'] = some (.tup [e t, e t']) := rfl
theorem u_aRes3 {t t' t'' : Nat} : aRes P e H [.tmp t, .tmp t', .tmp t''] = some (.tup [e t, e t', e t'']) := rfl
theorem u_cell : H.cell blk o = slotCell (H blk) o := by
  unfold AH.cell slotCell; cases H blk <;> rfl
theorem u_cells0 : H.cellsAt blk o 0 = some [] := rfl
theorem u_cellsS {n : Nat} : H.cellsAt blk o (n + 1) = cellsCons (H.cell blk o) (H.cellsAt blk (o + 1) n) := by
  unfold cellsCons
  rw [AH.cellsAt]
  cases H.cell blk o <;> cases H.cellsAt blk (o + 1) n <;> rfl
theorem u_cons {v : AV} {l : List AV} : cellsCons (some v) (some l) = some (v :: l) := rfl
theorem m_ifTP {a b : Prop} : (if true = true then a else b) = a := rfl
theorem m_ifFP {a b : Prop} : (if false = true then a else b) = b := rfl
theorem m_mem {i j : Nat} {l : List Nat} : memN i (j :: l) = if i = j then true else memN i l := rfl
theorem m_memN {i : Nat} : memN i [] = false := rfl
theorem m_bind {n : Nat} {f : Nat → Option (List AV)} : (some n).bind f = f n := rfl
theorem m_mapAgg {l : List AV} : (some l).map AV.agg = some (.agg l) := rfl
theorem u_rw {xs : List AV} : slotCell (.rw xs) o = xs[o]? := rfl
theorem u_updE {s : Slot} : (H.upd blk s) blk = s := by simp [AH.upd]
theorem u_updN {s : Slot} {b' : Nat} (h : b' ≠ blk) : (H.upd blk s) b' = H b' := by simp [AH.upd, h]
theorem u_wrap {x : Int} (h : -9223372036854775808 ≤ x ∧ x ≤ 9223372036854775807) : IntKind.i64.wrap x = x := by
  simp only [IntKind.wrap, IntKind.signed, IntKind.bits, Bool.true_and, Nat.reduceSub, Int.reducePow]
  split <;> rename_i hh <;> simp at hh <;> omega
theorem u_wrapU {x : Int} (h : 0 ≤ x ∧ x ≤ 18446744073709551615) : IntKind.u64.wrap x = x := by
  simp only [IntKind.wrap, IntKind.signed, IntKind.bits, Bool.false_and, Bool.false_eq_true, if_false, Int.reducePow]
  omega
theorem u_tdiv (h : 0 ≤ a) : a.tdiv b = a / b := Int.tdiv_eq_ediv_of_nonneg h
theorem u_tmod (h : 0 ≤ a) : a.tmod b = a % b := Int.tmod_eq_emod_of_nonneg h
theorem m_map {f : Operand → AV} {x : Operand} {l : List Operand} : (x :: l).map f = f x :: l.map f := rfl
theorem m_mapN {f : Operand → AV} : ([] : List Operand).map f = [] := rfl
theorem m_mapP {f : Nat × Operand → Nat × AV} {x : Nat × Operand} {l : List (Nat × Operand)} : (x :: l).map f = f x :: l.map f := rfl
theorem m_mapPN {f : Nat × Operand → Nat × AV} : ([] : List (Nat × Operand)).map f = [] := rfl
theorem m_mapC {f : Value → AV} {x : Value} {l : List Value} : (x :: l).map f = f x :: l.map f := rfl
theorem m_mapCN {f : Value → AV} : ([] : List Value).map f = [] := rfl
theorem m_opt {f : Operand → AV} {x : Operand} : (some x).map f = some (f x) := rfl
theorem m_optN {f : Operand → AV} : (none : Option Operand).map f = none := rfl
theorem m_appN {l : List AV} : [] ++ l = l := rfl
theorem m_app {x : AV} {l l' : List AV} : (x :: l) ++ l' = x :: (l ++ l') := rfl
theorem m_ifT {x y : AV} : (if true = true then x else y) = x := rfl
theorem m_ifF {x y : AV} : (if false = true then x else y) = y := rfl
theorem m_neI {a b : Int} : (a ≠ b) = ¬ (a = b) := rfl
theorem m_nat {n : Nat} : ((n : Int)).toNat = n := rfl
theorem m_cast1 {n : Nat} : ((n + 1 : Nat) : Int) = n + 1 := rfl
theorem m_cast0 : ((0 : Nat) : Int) = 0 := rfl
theorem m_toNat {a : Int} (h : 0 ≤ a) : ((a.toNat : Nat) : Int) = a := Int.toNat_of_nonneg h
theorem m_getD0 {x y : AV} {l : List AV} : (x :: l).getD 0 y = x := rfl
theorem m_getDS {x y : AV} {l : List AV} {n : Nat} : (x :: l).getD (n + 1) y = l.getD n y := rfl
theorem m_getDN {y : AV} {n : Nat} : ([] : List AV).getD n y = y := rfl
theorem m_get0 {x : AV} {l : List AV} : (x :: l)[0]? = some x := rfl
theorem m_getS {x : AV} {l : List AV} {n : Nat} : (x :: l)[n + 1]? = l[n]? := rfl
end
end Go.Proofs.YtbkpebmcagdgmaaGreat.AM
/-! The rules in two bundles. -/
namespace Go.Proofs.YtbkpebmcagdgmaaGreat.AM
open Go Go.RowKit
set_option linter.unusedVariables false
set_option linter.unusedSimpArgs false
set_option maxRecDepth 10000
set_option linter.defProp false

def RP := And.intro @gs_move <|
  And.intro @gd_move <|
  And.intro @gs_assign <|
  And.intro @gd_assign <|
  And.intro @gs_pick <|
  And.intro @gd_pick <|
  And.intro @gs_bin <|
  And.intro @gd_bin <|
  And.intro @gs_un <|
  And.intro @gd_un <|
  And.intro @gs_cv <|
  And.intro @gd_cv <|
  And.intro @gs_load <|
  And.intro @gd_load <|
  And.intro @gs_store <|
  And.intro @gd_store <|
  And.intro @gs_nilc <|
  And.intro @gd_nilc <|
  And.intro @gs_fld <|
  And.intro @gd_fld <|
  And.intro @gs_idx <|
  And.intro @gd_idx <|
  And.intro @gs_slice <|
  And.intro @gd_slice <|
  And.intro @gs_alloc <|
  And.intro @gd_alloc <|
  And.intro @gs_box <|
  And.intro @gd_box <|
  And.intro @gs_build <|
  And.intro @gd_build <|
  And.intro @gs_buildS <|
  And.intro @gd_buildS <|
  And.intro @gs_make <|
  And.intro @gd_make <|
  And.intro @gs_func <|
  And.intro @gd_func <|
  And.intro @gs_ext <|
  And.intro @gd_ext <|
  And.intro @gs_len <|
  And.intro @gd_len <|
  And.intro @gs_app <|
  And.intro @gd_app <|
  And.intro @gs_copy <|
  And.intro @gd_copy <|
  And.intro @gs_max <|
  And.intro @gd_max <|
  And.intro @gs_min <|
  And.intro @gd_min <|
  And.intro @gs_call <|
  And.intro @gd_call <|
  And.intro @gs_g <|
  And.intro @gd_g <|
  And.intro @gs_nil <|
  And.intro @gd_nil <|
  And.intro @w_skip <|
  And.intro @w_reg <|
  And.intro @w_draw <|
  And.intro @w_seq <|
  And.intro @w_cond <|
  And.intro @w_block <|
  And.intro @w_exit <|
  And.intro @w_ret <|
  And.intro @x_then <|
  And.intro @x_thenE <|
  And.intro @x_thenR <|
  And.intro @x_in <|
  And.intro @x_inE <|
  And.intro @x_inR <|
  And.intro @f_ret <|
  And.intro @f_norm <|
  And.intro @ev_tmp <|
  And.intro @ev_func <|
  And.intro @ev_int <|
  And.intro @ev_bool <|
  And.intro @ev_nils <|
  And.intro @ev_nilp <|
  And.intro @ev_agg <|
  And.intro @put_at <|
  And.intro @put_no @env0_at
def RQ := And.intro @u_put <|
  And.intro @u_load <|
  And.intro @u_ldS <|
  And.intro @u_ldD <|
  And.intro @u_shl <|
  And.intro @u_shr <|
  And.intro @u_add <|
  And.intro @u_sub <|
  And.intro @u_mul <|
  And.intro @u_quo <|
  And.intro @u_rem <|
  And.intro @u_and <|
  And.intro @u_or <|
  And.intro @u_xor <|
  And.intro @u_andNot <|
  And.intro @u_eql <|
  And.intro @u_neq <|
  And.intro @u_lss <|
  And.intro @u_leq <|
  And.intro @u_gtr <|
  And.intro @u_geq <|
  And.intro @u_eqN <|
  And.intro @u_eqNN <|
  And.intro @u_neN <|
  And.intro @u_neNN <|
  And.intro @u_not <|
  And.intro @u_neg <|
  And.intro @u_inv <|
  And.intro @u_pickT <|
  And.intro @u_pickF <|
  And.intro @u_cv <|
  And.intro @u_storeI <|
  And.intro @u_stGI <|
  And.intro @u_storeB <|
  And.intro @u_stGB <|
  And.intro @u_storeP <|
  And.intro @u_stGP <|
  And.intro @u_storeZ <|
  And.intro @u_stGZ <|
  And.intro @u_storeL <|
  And.intro @u_stGL <|
  And.intro @u_storeN <|
  And.intro @u_stGN <|
  And.intro @u_stI <|
  And.intro @u_getI <|
  And.intro @u_sliceH <|
  And.intro @u_sliceL <|
  And.intro @u_nilP <|
  And.intro @u_nilF <|
  And.intro @u_fld <|
  And.intro @u_idx <|
  And.intro @u_alloc <|
  And.intro @u_box <|
  And.intro @u_build <|
  And.intro @u_agg <|
  And.intro @u_buildS0 <|
  And.intro @u_buildS1 <|
  And.intro @u_buildS1I <|
  And.intro @u_newO <|
  And.intro @u_make <|
  And.intro @u_ext <|
  And.intro @u_opt <|
  And.intro @u_len <|
  And.intro @u_lenN <|
  And.intro @u_retS <|
  And.intro @u_retD <|
  And.intro @u_max <|
  And.intro @u_min <|
  And.intro @u_call <|
  And.intro @u_callC <|
  And.intro @u_gTT <|
  And.intro @u_gFF <|
  And.intro @u_gTF <|
  And.intro @u_gFT <|
  And.intro @u_gN <|
  And.intro @u_ifT <|
  And.intro @u_ifF <|
  And.intro @u_res <|
  And.intro @u_aRes0 <|
  And.intro @u_aRes1 <|
  And.intro @u_aRes2 <|
  And.intro @u_aRes3 <|
  And.intro @u_cell <|
  And.intro @u_cells0 <|
  And.intro @u_cellsS <|
  And.intro @u_cons <|
  And.intro @m_ifTP <|
  And.intro @m_ifFP <|
  And.intro @m_mem <|
  And.intro @m_memN <|
  And.intro @m_bind <|
  And.intro @m_mapAgg <|
  And.intro @u_rw <|
  And.intro @u_updE <|
  And.intro @u_updN <|
  And.intro @u_wrap <|
  And.intro @u_wrapU <|
  And.intro @u_tdiv <|
  And.intro @u_tmod <|
  And.intro @m_map <|
  And.intro @m_mapN <|
  And.intro @m_mapP <|
  And.intro @m_mapPN <|
  And.intro @m_mapC <|
  And.intro @m_mapCN <|
  And.intro @m_opt <|
  And.intro @m_optN <|
  And.intro @m_appN <|
  And.intro @m_app <|
  And.intro @m_ifT <|
  And.intro @m_ifF <|
  And.intro @m_neI <|
  And.intro @m_nat <|
  And.intro @m_cast1 <|
  And.intro @m_cast0 <|
  And.intro @m_toNat <|
  And.intro @m_getD0 <|
  And.intro @m_getDS <|
  And.intro @m_getDN <|
  And.intro @m_get0 <|
  And.intro @m_getS <|
  And.intro @chk_none <|
  And.intro @chk_nil <|
  And.intro @chk_cons <|
  And.intro @oc_int <|
  And.intro @oc_bool <|
  And.intro @oc_nils <|
  And.intro @oc_nilp <|
  And.intro @cs_int <|
  And.intro @cs_bool <|
  And.intro @cs_ptr <|
  And.intro @cs_nilp <|
  And.intro @cs_sl <|
  And.intro @cs_nils <|
  And.intro @cs_fn <|
  And.intro @cs_agg <|
  And.intro @su_int <|
  And.intro @su_bool <|
  And.intro @su_ptr <|
  And.intro @su_nilp <|
  And.intro @su_sl <|
  And.intro @su_nils <|
  And.intro @su_fn <|
  And.intro @su_agg <|
  And.intro @on_int <|
  And.intro @on_bool <|
  And.intro @on_ptr <|
  And.intro @on_nilp <|
  And.intro @on_sl <|
  And.intro @on_nils <|
  And.intro @on_fn <|
  And.intro @Nat.mul_one <|
  And.intro @Nat.zero_add <|
  And.intro @Nat.add_zero <|
  And.intro @true_and <|
  And.intro @and_true <|
  And.intro @Bool.not_true <|
  And.intro @Bool.not_false <|
  And.intro @decide_true <|
  And.intro @decide_false <|
  And.intro @not_true_eq_false @not_false_eq_true
end Go.Proofs.YtbkpebmcagdgmaaGreat.AM
