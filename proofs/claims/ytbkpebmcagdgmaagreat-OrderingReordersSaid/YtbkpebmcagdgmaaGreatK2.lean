/- Helpers. An abstract machine for Go programs: values, a heap, and what must hold so that a piece of code ends well. No world, no order of evaluation, no capacities. · The abstract machine against the model's worlds: what a new block, a store, a draw do to the relation between them. · Each operation of the model does what the abstract machine says. · Each operation of the model does what the abstract machine says: new blocks, slices, append, copy. · Each operation of the model does what the abstract machine says: cuts of slices, append, copy. · The abstract machine's operations, all in one: whatever holds on the abstract machine behind an operation can be had behind it in the model. · Operations that only compute or read: what they come to is one value; the heap may grow beside them; operands that are not theirs do not matter. -/
import Derived.Tactics
import Derived.Orders
import Derived.Maps.AppendAt
import Derived.OwnWalk
import Derived.Below
import Derived.Laws.Tables
import Derived.Laws.Cells
import Derived.Laws.MakeOwn
import Derived.Laws.CopyRow
import Derived.Laws.Slices
import Derived.Great.BuildSlice
import Derived.Laws.Small
/-! An abstract machine for Go programs: values, a heap, and what must hold so that a piece of code ends well. No world, no order of evaluation, no capacities. -/
namespace Go.Proofs.YtbkpebmcagdgmaaGreat.AM
open Go Go.RowKit
set_option linter.unusedVariables false
set_option linter.unusedSimpArgs false

/-- What is known of a slice's capacity: nothing; its number; the slice begins its own block, whose elements have s cells, and reaches to its end. -/
inductive Cap where
  | any
  | kn (c : Nat)
  | own (s : Nat)

/-- Abstract values. -/
inductive AV where
  | int (k : IntKind) (n : Int)
  | bool (b : Bool)
  | str (s : ByteArray)
  | ptr (b o : Nat)
  | nilp
  | sl (b o n : Nat) (c : Cap)
  | nils
  | agg (cs : List AV)
  | tup (vs : List AV)
  | fn (f : Nat) (caps : List AV)
  | junk

instance : Inhabited AV := ⟨.junk⟩

/-- The cells of a value. -/
def AV.cells : AV → List AV
  | .agg cs => cs
  | v => [v]

/-- A value of one cell, which may be stored. -/
def AV.one : AV → Bool
  | .agg _ | .tup _ | .junk => false
  | _ => true

/-- A value of whose size we are sure. -/
def AV.sure : AV → Bool
  | .junk => false
  | _ => true

def ofCell : Value → AV
  | .bool b => .bool b
  | .int k n => .int k n
  | .string s => .str s
  | .pointer none => .nilp
  | .slice none 0 0 => .nils
  | _ => .junk

def ofV : Value → AV
  | .agg vs => .agg (vs.toList.map ofCell)
  | .tuple vs => if vs.size = 0 then .tup [] else .junk
  | v => ofCell v

/-- A block: unused; not known (any more); only read; written, its first cells known. -/
inductive Slot where
  | free
  | dead
  | ro (f : Nat → Option AV)
  | rw (xs : List AV)

abbrev AH := Nat → Slot
abbrev Env := Nat → AV

def AH.cell (H : AH) (b o : Nat) : Option AV :=
  match H b with
  | .ro f => f o
  | .rw xs => xs[o]?
  | _ => none

def AH.upd (H : AH) (b : Nat) (s : Slot) : AH := fun i => if i = b then s else H i

def AH.cellsAt (H : AH) (b o : Nat) : Nat → Option (List AV)
  | 0 => some []
  | n + 1 => match H.cell b o with
    | some v => (H.cellsAt b (o + 1) n).map (v :: ·)
    | none => none

def Env.put (e : Env) : Option Nat → AV → Env
  | none, _ => e
  | some d, v => fun t => if t = d then v else e t

def ev (e : Env) : Operand → AV
  | .tmp t => e t
  | .const v => ofV v
  | .global _ => .junk
  | .func f => .fn f []

/-! what the program's table of types says -/
def isA (P : Program) (t : TypeId) : Option Bool :=
  match P.underlying t with
  | some (.struct _) | some (.array _ _) => some true
  | some _ => some false
  | none => none
def szT (P : Program) (t : TypeId) : Option Nat := (P.info? t).map (·.size)
def elT (P : Program) (t : TypeId) : Option Nat :=
  match P.underlying t with
  | some (.slice e) => some e
  | _ => none
/-- of a slice type: its element's cells and bytes, its element's zero cells -/
def szE (P : Program) (t : TypeId) : Option Nat := (elT P t).bind (szT P)
def byE (P : Program) (t : TypeId) : Option Nat := (elT P t).bind fun e => (P.info? e).map (·.bytes)
def zrT (P : Program) (t : TypeId) : Option (List AV) := (P.info? t).bind fun i => i.zero.map fun z => z.cells.toList.map ofCell
def zrE (P : Program) (t : TypeId) : Option (List AV) := (elT P t).bind (zrT P)
def fOff (P : Program) (s : TypeId) (f : Nat) : Option Nat :=
  match P.underlying s with
  | some (.struct fs) => match fs[f]? with
    | some fd => match szT P fd.type with
      | some (_ + 1) => some fd.offset
      | _ => none
    | none => none
  | _ => none
def intT (P : Program) (t : TypeId) : Option IntKind :=
  match P.underlying t with
  | some (.int k) => some k
  | _ => none
/-- of a struct type: its fields' offsets and sizes -/
def plT (P : Program) (t : TypeId) : Option (List (Nat × Nat)) :=
  match P.underlying t with
  | some (.struct fs) => fs.toList.mapM fun f => (P.info? f.type).map fun i => (f.offset, i.size)
  | _ => none

def splice (xs : List AV) (o : Nat) (vs : List AV) : List AV := xs.take o ++ vs ++ xs.drop (o + vs.length)

def aFill (place : Nat → Option (Nat × Nat)) (cells : List AV) : List (Nat × AV) → Option (List AV)
  | [] => some cells
  | (i, v) :: rest =>
    match place i with
    | none => none
    | some (off, size) =>
      if v.sure = true ∧ v.cells.length = size ∧ off + size ≤ cells.length then aFill place (splice cells off v.cells) rest else none

def loadT (P : Program) (t : TypeId) (H : AH) (b o : Nat) : Option AV :=
  match isA P t with
  | some true => ((szT P t).bind (H.cellsAt b o)).map .agg
  | some false => H.cell b o
  | none => none

def reps (z : List AV) : Nat → List AV
  | 0 => []
  | n + 1 => z ++ reps z n

/-- May the function be called by its number? -/
def callable (P : Program) (f : FuncId) : Bool :=
  match P.funcs[f]? with
  | some fn => fn.body.isSome && fn.name != "runtime.NumGoroutine"
  | none => false

/-! worlds -/
def CapOk (w : World) (b o cap : Nat) : Cap → Prop
  | .any => True
  | .kn c => cap = c
  | .own s => o = 0 ∧ ∃ (arr : Array Value) (ty : TypeId) (fr : Nat × Nat), w.heap[b]? = some (.cells arr ty fr) ∧ cap * s = arr.size

inductive RV (w : World) : AV → Value → Prop
  | int (k : IntKind) (n : Int) : RV w (.int k n) (.int k n)
  | bool (b : Bool) : RV w (.bool b) (.bool b)
  | str (s : ByteArray) : RV w (.str s) (.string s)
  | ptr (b o : Nat) (h : b < w.heap.size) : RV w (.ptr b o) (.pointer (some ⟨b, o, none⟩))
  | nilp : RV w .nilp (.pointer none)
  | sl (b o n cap : Nat) (c : Cap) (a : Addr) (hn : n ≤ cap) (hm : cap ≤ maxLen) (hc : CapOk w b o cap c) (ho : (a = ⟨b, o, none⟩ ∧ b < w.heap.size) ∨ (n = 0 ∧ ∀ s, c ≠ .own s)) : RV w (.sl b o n c) (.slice (some a) n cap)
  | nils : RV w .nils (.slice none 0 0)
  | agg (cs : List AV) (vs : Array Value) (h : cs.length = vs.size) (hv : ∀ (i : Nat) (c : AV) (v : Value), cs[i]? = some c → vs[i]? = some v → RV w c v) : RV w (.agg cs) (.agg vs)
  | tup (cs : List AV) (vs : Array Value) (h : cs.length = vs.size) (hv : ∀ (i : Nat) (c : AV) (v : Value), cs[i]? = some c → vs[i]? = some v → RV w c v) : RV w (.tup cs) (.tuple vs)
  | fn (f : Nat) (cs : List AV) (vs : Array Value) (h : cs.length = vs.size) (hv : ∀ (i : Nat) (c : AV) (v : Value), cs[i]? = some c → vs[i]? = some v → RV w c v) : RV w (.fn f cs) (.func (.func f) #[] vs)
  | junk (v : Value) : RV w .junk v

def RVs (w : World) (cs : List AV) (vs : List Value) : Prop := cs.length = vs.length ∧ ∀ (i : Nat) c v, cs[i]? = some c → vs[i]? = some v → RV w c v

structure Rep (H : AH) (w : World) : Prop where
  fresh : ∀ b, w.heap.size ≤ b → H b = .free
  cell : ∀ b o v, H.cell b o = some v → ∃ (arr : Array Value) (ty : TypeId) (fr : Nat × Nat) (u : Value), w.heap[b]? = some (.cells arr ty fr) ∧ arr[o]? = some u ∧ RV w v u
  own : ∀ b xs, H b = .rw xs → ∃ (arr : Array Value) (ty : TypeId), w.heap[b]? = some (.cells arr ty (0, 0)) ∧ xs.length ≤ arr.size

/-- Blocks keep their size. -/
def Pres (w w' : World) : Prop :=
  w.heap.size ≤ w'.heap.size ∧ ∀ (b : Nat) (arr : Array Value) (ty : TypeId) (fr : Nat × Nat), w.heap[b]? = some (.cells arr ty fr) → ∃ (arr' : Array Value) (ty' : TypeId) (fr' : Nat × Nat), w'.heap[b]? = some (.cells arr' ty' fr') ∧ arr'.size = arr.size

structure Stp (H H' : AH) (w w' : World) : Prop where
  os : w'.os = w.os
  tape : w'.tape = w.tape
  output : w'.output = w.output
  pres : Pres w w'
  keep : ∀ b, b < w.heap.size → (∀ xs, H b ≠ .rw xs) → w'.heap[b]? = w.heap[b]?
  free : ∀ b, b < w.heap.size → H b = .free → H' b = .free
  rw_ : ∀ b, b < w.heap.size → (∀ xs, H b ≠ .rw xs) → ∀ xs, H' b ≠ .rw xs

/-- THE CONTRACT of a function: called with these arguments on this heap, it returns, and what it returns and leaves is as Q says. -/
def AC (P : Program) (f : FuncId) (args : List AV) (H : AH) (Q : AV → AH → Prop) : Prop :=
  callable P f = true ∧ ∀ (w : World) (as : Array Value), Rep H w → RVs w args as.toList →
    Calls P f as w fun e w' => ∃ v r H', e = .returned v ∧ Q r H' ∧ Rep H' w' ∧ RV w' r v ∧ Stp H H' w w'

/-! operations -/
def aBin (op : BinOp) (x y : AV) (K : AV → Prop) : Prop :=
  match op, x, y with
  | .shl, .int k a, .int _ b => 0 ≤ b ∧ K (.int k (k.wrap (a * 2 ^ (min b.toNat k.bits))))
  | .shr, .int k a, .int _ b => 0 ≤ b ∧ K (.int k (a.fdiv (2 ^ (min b.toNat k.bits))))
  | .add, .int k a, .int k' b => k = k' ∧ K (.int k (k.wrap (a + b)))
  | .sub, .int k a, .int k' b => k = k' ∧ K (.int k (k.wrap (a - b)))
  | .mul, .int k a, .int k' b => k = k' ∧ K (.int k (k.wrap (a * b)))
  | .quo, .int k a, .int k' b => k = k' ∧ b ≠ 0 ∧ K (.int k (k.wrap (a.tdiv b)))
  | .rem, .int k a, .int k' b => k = k' ∧ b ≠ 0 ∧ K (.int k (a.tmod b))
  | .and, .int k a, .int k' b => k = k' ∧ K (.int k (k.wrap (BitVec.ofInt k.bits a &&& BitVec.ofInt k.bits b).toNat))
  | .or, .int k a, .int k' b => k = k' ∧ K (.int k (k.wrap (BitVec.ofInt k.bits a ||| BitVec.ofInt k.bits b).toNat))
  | .xor, .int k a, .int k' b => k = k' ∧ K (.int k (k.wrap (BitVec.ofInt k.bits a ^^^ BitVec.ofInt k.bits b).toNat))
  | .andNot, .int k a, .int k' b => k = k' ∧ K (.int k (k.wrap (BitVec.ofInt k.bits a &&& ~~~ BitVec.ofInt k.bits b).toNat))
  | .eql, .int k a, .int k' b => k = k' ∧ K (.bool (decide (a = b)))
  | .neq, .int k a, .int k' b => k = k' ∧ K (.bool (decide (a ≠ b)))
  | .lss, .int k a, .int k' b => k = k' ∧ K (.bool (decide (a < b)))
  | .leq, .int k a, .int k' b => k = k' ∧ K (.bool (decide (a ≤ b)))
  | .gtr, .int k a, .int k' b => k = k' ∧ K (.bool (decide (a > b)))
  | .geq, .int k a, .int k' b => k = k' ∧ K (.bool (decide (a ≥ b)))
  | _, _, _ => False

/-- '==' and '!=' with a type: a slice against nil. -/
def aEq (P : Program) (t : TypeId) (op : BinOp) (x y : AV) (K : AV → Prop) : Prop :=
  match x, y with
  | .sl _ _ _ _, .nils => (elT P t).isSome = true ∧ K (.bool (match op with | .eql => false | _ => true))
  | .nils, .nils => (elT P t).isSome = true ∧ K (.bool (match op with | .eql => true | _ => false))
  | _, _ => False

def aUn (op : UnOp) (x : AV) (K : AV → Prop) : Prop :=
  match op, x with
  | .not, .bool b => K (.bool (!b))
  | .neg, .int k n => K (.int k (k.wrap (-n)))
  | .xor, .int k n => K (.int k (k.wrap (BitVec.ofInt k.bits (if k.signed then -1 else k.max) ^^^ BitVec.ofInt k.bits n).toNat))
  | _, _ => False

/-- s[l:h:m] -/
def aSlice (s : Nat) (x : AV) (lo hi mx : Option AV) (K : AV → Prop) : Prop :=
  match x with
  | .sl b o n c =>
    ∃ l h : Nat, (match lo with | none => l = 0 | some v => ∃ k, v = .int k l) ∧ (match hi with | none => h = n | some v => ∃ k, v = .int k h) ∧ l ≤ h ∧ h ≤ n ∧
      (match mx with
       | none => K (.sl b (o + l * s) (h - l) (match c with | .any => .any | .kn c => .kn (c - l) | .own s' => if l = 0 then .own s' else .any))
       | some v => ∃ m k, v = .int k (m : Nat) ∧ hi.isSome = true ∧ h ≤ m ∧ m ≤ n ∧ K (.sl b (o + l * s) (h - l) (.kn (m - l))))
  | .nils => (∀ v, lo = some v → ∃ k, v = .int k 0) ∧ (∀ v, hi = some v → ∃ k, v = .int k 0) ∧ (∀ v, mx = some v → hi.isSome = true ∧ ∃ k, v = .int k 0) ∧ K .nils
  | _ => False

/-- a new block -/
def aNew (H : AH) (cs : List AV) (K : Nat → AH → Prop) : Prop := ∀ b, H b = .free → K b (H.upd b (.rw cs))

/-- the cells of a slice with n elements of s cells -/
def slCells (H : AH) (s : Nat) : AV → Option (List AV)
  | .sl b o n _ => H.cellsAt b o (n * s)
  | .nils => some []
  | _ => none
def slLen : AV → Nat
  | .sl _ _ n _ => n
  | _ => 0

def aAppend (s by_ : Nat) (x y : AV) (H : AH) (K : AV → AH → Prop) : Prop :=
  ∃ ys, slCells H s y = some ys ∧ (∀ v, v ∈ ys → v.one = true) ∧ (slLen x + slLen y) * by_ ≤ 140737488355328 ∧ slLen x + slLen y ≤ 140737488355328 ∧ 0 < s ∧
  match x with
  | .nils => (slLen y = 0 → K .nils H) ∧ (0 < slLen y → ∀ b, H b = .free → K (.sl b 0 (slLen y) (.own s)) (H.upd b (.rw ys)))
  | .sl b o n (.own s') => s' = s ∧ ∃ xs, H b = .rw xs ∧ o = 0 ∧ xs.length = n * s ∧
      ∀ b', (b' = b ∨ H b' = .free) → K (.sl b' 0 (n + slLen y) (.own s)) ((H.upd b .dead).upd b' (.rw (xs ++ ys)))
  | .sl b o n (.kn c) => ∃ xs, H.cellsAt b o (n * s) = some xs ∧ (slLen y = 0 → n ≤ c → K x H) ∧ (0 < slLen y → c < n + slLen y ∧ ∀ b', H b' = .free → K (.sl b' 0 (n + slLen y) (.own s)) (H.upd b' (.rw (xs ++ ys))))
  | _ => False

/-- copy(dst, src): dst in a block of the call's own -/
def aCopy (s : Nat) (x y : AV) (H : AH) (K : AV → AH → Prop) : Prop :=
  match x with
  | .sl b o n _ => ∃ xs ys, H b = .rw xs ∧ o + n * s ≤ xs.length ∧ slCells H s y = some ys ∧ (∀ v, v ∈ ys → v.one = true) ∧
      K (.int .i64 (min (slLen y) n : Nat)) (H.upd b (.rw (splice xs o (ys.take (min (slLen y) n * s)))))
  | _ => False

def aMax (l : List AV) (K : AV → Prop) : Prop :=
  match l with
  | [.int k a, .int k' b] => k = k' ∧ K (.int k (if b > a then b else a))
  | _ => False
def aMin (l : List AV) (K : AV → Prop) : Prop :=
  match l with
  | [.int k a, .int k' b] => k = k' ∧ K (.int k (if b < a then b else a))
  | _ => False

def aop (P : Program) (e : Env) (H : AH) (K : AV → AH → Prop) : Op → Prop
  | .move x => K (ev e x) H
  | .assign x => K (ev e x) H
  | .pick c a b => match ev e c with
    | .bool t => K (if t then ev e a else ev e b) H
    | _ => False
  | .binOp op t x y _ => match op with
    | .eql | .neq => match ev e x with
      | .int k a => aBin op (.int k a) (ev e y) fun v => K v H
      | v => aEq P t op v (ev e y) fun v => K v H
    | _ => aBin op (ev e x) (ev e y) fun v => K v H
  | .unOp op _ x => aUn op (ev e x) fun v => K v H
  | .convert s d x => match intT P d, ev e x with
    | some k, .int _ n => (intT P s).isSome = true ∧ K (.int k (k.wrap n)) H
    | _, _ => False
  | .load t x => match ev e x with
    | .ptr b o => ∃ v, loadT P t H b o = some v ∧ K v H
    | _ => False
  | .store t x y => match ev e x with
    | .ptr b o => ∃ xs, H b = .rw xs ∧ (ev e y).sure = true ∧ szT P t = some (ev e y).cells.length ∧ (∀ v, v ∈ (ev e y).cells → v.one = true) ∧ o + (ev e y).cells.length ≤ xs.length ∧
        K (.tup []) (H.upd b (.rw (splice xs o (ev e y).cells)))
    | _ => False
  | .nilCheck x => match ev e x with
    | .ptr b o => K (.ptr b o) H
    | .fn f cs => K (.fn f cs) H
    | _ => False
  | .fieldAddr s x f => match ev e x with
    | .ptr b o => ∃ d, fOff P s f = some d ∧ K (.ptr b (o + d)) H
    | _ => False
  | .indexAddr t x i => match ev e x, ev e i with
    | .sl b o n _, .int _ j => ∃ s, szE P t = some s ∧ 0 ≤ j ∧ j < n ∧ K (.ptr b (o + j.toNat * s)) H
    | _, _ => False
  | .slice t x lo hi mx => ∃ s, szE P t = some s ∧ aSlice s (ev e x) (lo.map (ev e)) (hi.map (ev e)) (mx.map (ev e)) fun v => K v H
  | .alloc t => ∃ z, zrT P t = some z ∧ aNew H z fun b H' => K (.ptr b 0) H'
  | .box _ x => (ev e x).sure = true ∧ aNew H (ev e x).cells fun b H' => K (.ptr b 0) H'
  | .build t parts => ∃ z pl cs, zrT P t = some z ∧ plT P t = some pl ∧ aFill (fun i => pl[i]?) z (parts.toList.map fun p => (p.1, ev e p.2)) = some cs ∧ K (.agg cs) H
  | .buildSlice t len parts => ∃ s z cs, szE P t = some s ∧ zrE P t = some z ∧ z.length = s ∧ 0 < s ∧ len * s ≤ 16777216 ∧
      aFill (fun i => some (i * s, s)) (reps z len) (parts.toList.map fun p => (p.1, ev e p.2)) = some cs ∧ aNew H cs fun b H' => K (.sl b 0 len (.own s)) H'
  | .makeSlice t l c => match ev e l, ev e c with
    | .int _ n, .int _ m => ∃ s z b_, szE P t = some s ∧ zrE P t = some z ∧ byE P t = some b_ ∧ z.length = s ∧ 0 < s ∧ m = n ∧ 0 ≤ n ∧ n * b_ ≤ 281474976710656 ∧ n ≤ 281474976710656 ∧
        aNew H (reps z n.toNat) fun b H' => K (.sl b 0 n.toNat (.own s)) H'
    | _, _ => False
  | .makeFunc (.func f) first captured => first.size = 0 ∧ K (.fn f (captured.toList.map (ev e))) H
  | .extract x i => match ev e x with
    | .tup vs => ∃ v, vs[i]? = some v ∧ K v H
    | _ => False
  | .call c => match c.callee with
    | .builtin .len => match c.args.toList.map (ev e), c.argTypes.toList with
      | [.sl b o n k], [t] => (elT P t).isSome = true ∧ K (.int .i64 n) H
      | [.nils], [t] => (elT P t).isSome = true ∧ K (.int .i64 0) H
      | _, _ => False
    | .builtin .append => match c.args.toList.map (ev e), c.argTypes.toList with
      | [x, y], [t, t'] => t' = t ∧ ∃ s b_ z, szE P t = some s ∧ byE P t = some b_ ∧ zrE P t = some z ∧ z.length = s ∧ aAppend s b_ x y H K
      | _, _ => False
    | .builtin .copy => match c.args.toList.map (ev e), c.argTypes.toList with
      | [x, y], [t, t'] => szE P t = some 1 ∧ aCopy 1 x y H K
      | _, _ => False
    | .builtin .max => aMax (c.args.toList.map (ev e)) fun v => K v H
    | .builtin .min => aMin (c.args.toList.map (ev e)) fun v => K v H
    | .value f => match ev e f with
      | .fn g caps => AC P g (c.args.toList.map (ev e) ++ caps) H K
      | _ => False
    | _ => False
  | _ => False

/-- Is the operation wanted? -/
def aw (all : List Oper) (o : Oper) (e : Env) : Option Bool :=
  match o.guard with
  | none => some true
  | some (j, want) => match (all[j]?).bind (·.dst) with
    | none => some false
    | some d => match e d with
      | .bool b => some (b == want)
      | .junk => none
      | _ => some false

def awOp (P : Program) (all : List Oper) (o : Oper) (e : Env) (H : AH) (K : Env → AH → Prop) : Prop :=
  ∃ b, aw all o e = some b ∧ (b = true → aop P e H (fun v H' => K (e.put o.dst v) H') o.op) ∧ (b = false → K (e.put o.dst (.tup [])) H)

def aops (P : Program) (all : List Oper) : List Oper → Env → AH → (Env → AH → Prop) → Prop
  | [], e, H, K => K e H
  | o :: rest, e, H, K => awOp P all o e H fun e' H' => aops P all rest e' H' K

inductive AX where
  | normal
  | exit (id : Nat)
  | ret

end Go.Proofs.YtbkpebmcagdgmaaGreat.AM
/-! The abstract machine against the model's worlds: what a new block, a store, a draw do to the relation between them. -/
namespace Go.Proofs.YtbkpebmcagdgmaaGreat.AM
open Go Go.RowKit
set_option linter.unusedVariables false
set_option linter.unusedSimpArgs false

/-! ### Pres, Stp -/
theorem Pres.refl (w : World) : Pres w w := ⟨Nat.le_refl _, fun b arr ty fr h => ⟨arr, ty, fr, h, rfl⟩⟩
theorem Pres.trans {a b c : World} (h : Pres a b) (k : Pres b c) : Pres a c :=
  ⟨Nat.le_trans h.1 k.1, fun i arr ty fr hi => by
    obtain ⟨a1, t1, f1, h1, s1⟩ := h.2 i arr ty fr hi
    obtain ⟨a2, t2, f2, h2, s2⟩ := k.2 i a1 t1 f1 h1
    exact ⟨a2, t2, f2, h2, s2.trans s1⟩⟩
theorem Pres.of_old {w w' : World} (hs : w.heap.size ≤ w'.heap.size) (h : ∀ b, b < w.heap.size → w'.heap[b]? = w.heap[b]?) : Pres w w' :=
  ⟨hs, fun b arr ty fr hb => ⟨arr, ty, fr, (h b (Array.getElem?_eq_some_iff.1 hb).1).trans hb, rfl⟩⟩
theorem Pres.alloc (w : World) (o : Obj) : Pres w (w.alloc o) := Pres.of_old (by simp) fun b hb => heap_alloc_old w o b hb
theorem Pres.setRow {w : World} {b : Nat} {arr arr' : Array Value} {ty : TypeId} {fr : Nat × Nat} (hb : w.heap[b]? = some (.cells arr ty fr)) (hs : arr'.size = arr.size) : Pres w (w.setRow b arr') :=
  ⟨by simp, fun i a t f hi => by
    by_cases e : i = b
    · subst e
      rw [hb] at hi
      simp only [Option.some.injEq, Obj.cells.injEq] at hi
      obtain ⟨rfl, rfl, rfl⟩ := hi
      exact ⟨arr', ty, fr, setRow_heap w i arr arr' ty fr hb, hs⟩
    · exact ⟨a, t, f, (setRow_other w b i arr' e).trans hi, rfl⟩⟩

theorem Stp.refl (H : AH) (w : World) : Stp H H w w := ⟨rfl, rfl, rfl, Pres.refl w, fun _ _ _ => rfl, fun _ _ h => h, fun _ _ h => h⟩
theorem Stp.trans {H H1 H2 : AH} {w w1 w2 : World} (h : Stp H H1 w w1) (k : Stp H1 H2 w1 w2) : Stp H H2 w w2 :=
  ⟨k.os.trans h.os, k.tape.trans h.tape, k.output.trans h.output, h.pres.trans k.pres,
   fun b hb hn => (k.keep b (Nat.lt_of_lt_of_le hb h.pres.1) (h.rw_ b hb hn)).trans (h.keep b hb hn),
   fun b hb hf => k.free b (Nat.lt_of_lt_of_le hb h.pres.1) (h.free b hb hf),
   fun b hb hn => k.rw_ b (Nat.lt_of_lt_of_le hb h.pres.1) (h.rw_ b hb hn)⟩
theorem Stp.drew {H H1 : AH} {w w1 : World} (h : Stp H H1 w w1) : Stp H H1 w w1.drew := ⟨h.os, h.tape, h.output, h.pres, h.keep, h.free, h.rw_⟩
theorem Stp.undrew {H H1 : AH} {w w1 : World} (h : Stp H H1 w.drew w1) : Stp H H1 w w1 := ⟨h.os, h.tape, h.output, h.pres, h.keep, h.free, h.rw_⟩

/-! ### RV -/
theorem CapOk.mono {w w' : World} (hp : Pres w w') {b o cap : Nat} {c : Cap} (h : CapOk w b o cap c) : CapOk w' b o cap c := by
  cases c with
  | any => trivial
  | kn n => exact h
  | own s =>
    obtain ⟨h0, arr, ty, fr, hb, hs⟩ := h
    obtain ⟨arr', ty', fr', hb', hs'⟩ := hp.2 b arr ty fr hb
    exact ⟨h0, arr', ty', fr', hb', hs.trans hs'.symm⟩

theorem RV.mono {w w' : World} (hp : Pres w w') {v : AV} {u : Value} (h : RV w v u) : RV w' v u := by
  induction h with
  | int k n => exact .int k n
  | bool b => exact .bool b
  | str s => exact .str s
  | ptr b o h => exact .ptr b o (Nat.lt_of_lt_of_le h hp.1)
  | nilp => exact .nilp
  | sl b o n cap c a hn hm hc ho => exact .sl b o n cap c a hn hm (hc.mono hp) (ho.imp (fun q => ⟨q.1, Nat.lt_of_lt_of_le q.2 hp.1⟩) id)
  | nils => exact .nils
  | agg cs vs h hv ih => exact .agg cs vs h ih
  | tup cs vs h hv ih => exact .tup cs vs h ih
  | fn f cs vs h hv ih => exact .fn f cs vs h ih
  | junk v => exact .junk v

theorem RV.drew {w : World} {v : AV} {u : Value} (h : RV w v u) : RV w.drew v u := RV.mono (w := w) (w' := w.drew) (Pres.of_old (Nat.le_refl _) fun _ _ => rfl) h
theorem RV.undrew {w : World} {v : AV} {u : Value} (h : RV w.drew v u) : RV w v u := RV.mono (w := w.drew) (w' := w) (Pres.of_old (Nat.le_refl _) fun _ _ => rfl) h

theorem ofCell_rel (w : World) (v : Value) : RV w (ofCell v) v := by
  unfold ofCell
  split
  · exact .bool _
  · exact .int _ _
  · exact .str _
  · exact .nilp
  · exact .nils
  · exact .junk _

theorem ofV_rel (w : World) (v : Value) : RV w (ofV v) v := by
  unfold ofV
  split
  · rename_i vs
    refine .agg _ _ (by simp) fun i c v hc hv => ?_
    simp only [List.getElem?_map, Array.getElem?_toList, hv, Option.map_some, Option.some.injEq] at hc
    subst hc
    exact ofCell_rel w v
  · rename_i vs
    split
    · rename_i h0
      exact .tup _ _ (by simp [h0]) fun i c v hc _ => by simp at hc
    · exact .junk _
  · exact ofCell_rel w v

def EnvRel (w : World) (e : Env) (a : Act) : Prop := ∀ t, RV w (e t) (a.tmps.getD t undef)

theorem EnvRel.mono {w w' : World} {e : Env} {a : Act} (h : EnvRel w e a) (hp : Pres w w') : EnvRel w' e a := fun t => (h t).mono hp

theorem EnvRel.ev {w : World} {e : Env} {a : Act} (h : EnvRel w e a) (x : Operand) : RV w (ev e x) (a.eval x) := by
  cases x with
  | tmp t => exact h t
  | const v => exact ofV_rel w v
  | global g => exact .junk _
  | func f => exact .fn f [] #[] rfl fun i c v hc _ => by simp at hc

theorem undef_rel (w : World) : RV w (.tup []) undef := .tup [] #[] rfl fun i c v hc _ => by simp at hc

def okDst (n : Nat) (o : Oper) : Prop := ∀ d, o.dst = some d → d < n

theorem EnvRel.put {w : World} {e : Env} {a : Act} (h : EnvRel w e a) {n : Nat} (hn : a.tmps.size = n) {dst : Option Nat} (hd : ∀ d, dst = some d → d < n) {v : AV} {u : Value} (hv : RV w v u) : EnvRel w (e.put dst v) (a.put dst u) := by
  intro t
  cases dst with
  | none => exact h t
  | some d =>
    have hdn : d < a.tmps.size := hn ▸ hd d rfl
    simp only [Env.put, Act.put]
    by_cases e0 : t = d
    · subst e0
      simpa [Array.getD, hdn] using hv
    · have hh := h t
      rw [if_neg e0]
      have : (a.tmps.setIfInBounds d u).getD t undef = a.tmps.getD t undef := by
        simp only [Array.getD_eq_getD_getElem?, Array.getElem?_setIfInBounds]
        rw [if_neg (fun e1 => e0 e1.symm)]
      rw [this]
      exact hh

theorem put_size (a : Act) (d : Option Nat) (v : Value) : (a.put d v).tmps.size = a.tmps.size := by cases d <;> simp [Act.put]
theorem put_defers (a : Act) (d : Option Nat) (v : Value) : (a.put d v).defers = a.defers := by cases d <;> rfl

/-! ### the heap -/
theorem upd_same (H : AH) (b : Nat) (s : Slot) : H.upd b s b = s := by simp [AH.upd]
theorem upd_ne (H : AH) {b i : Nat} (s : Slot) (h : i ≠ b) : H.upd b s i = H i := by simp [AH.upd, h]
theorem upd_upd (H : AH) (b : Nat) (s t : Slot) : (H.upd b s).upd b t = H.upd b t := by funext i; by_cases h : i = b <;> simp [AH.upd, h]

theorem cell_lt {H : AH} {w : World} (h : Rep H w) {b o : Nat} {v : AV} (hc : H.cell b o = some v) : b < w.heap.size := by
  obtain ⟨arr, ty, fr, u, hb, _⟩ := h.cell b o v hc
  exact (Array.getElem?_eq_some_iff.1 hb).1
theorem not_free_lt {H : AH} {w : World} (h : Rep H w) {b : Nat} (hb : H b ≠ .free) : b < w.heap.size := by
  rcases Nat.lt_or_ge b w.heap.size with hlt | hge
  · exact hlt
  · exact absurd (h.fresh b hge) hb

theorem Rep.drew {H : AH} {w : World} (h : Rep H w) : Rep H w.drew :=
  ⟨h.fresh, fun b o v hc => by obtain ⟨arr, ty, fr, u, h1, h2, h3⟩ := h.cell b o v hc; exact ⟨arr, ty, fr, u, h1, h2, h3.drew⟩, h.own⟩

theorem Rep.alloc {H : AH} {w : World} (h : Rep H w) {cs : List AV} {arr : Array Value} (ty : TypeId) (hl : cs.length ≤ arr.size)
    (hv : ∀ (i : Nat) c v, cs[i]? = some c → arr[i]? = some v → RV w c v) : Rep (H.upd w.heap.size (.rw cs)) (w.alloc (.cells arr ty)) := by
  have hp := Pres.alloc w (.cells arr ty)
  have hnew : (w.alloc (.cells arr ty)).heap[w.heap.size]? = some (.cells arr ty (0, 0)) := heap_alloc_new w _
  refine ⟨fun b hb => ?_, fun b o v hc => ?_, fun b xs hb => ?_⟩
  · simp only [World.size_alloc] at hb
    rw [upd_ne _ _ (by omega)]
    exact h.fresh b (by omega)
  · by_cases e : b = w.heap.size
    · subst e
      simp only [AH.cell, upd_same] at hc
      have ho : o < cs.length := (List.getElem?_eq_some_iff.1 hc).1
      have ha : arr[o]? = some (arr[o]'(by omega)) := Array.getElem?_eq_getElem (by omega)
      exact ⟨arr, ty, (0, 0), _, hnew, ha, (hv o v _ hc ha).mono hp⟩
    · have hc' : H.cell b o = some v := by simpa [AH.cell, upd_ne _ _ e] using hc
      obtain ⟨a1, t1, f1, u, h1, h2, h3⟩ := h.cell b o v hc'
      exact ⟨a1, t1, f1, u, (heap_alloc_old w _ b (cell_lt h hc')).trans h1, h2, h3.mono hp⟩
  · by_cases e : b = w.heap.size
    · subst e
      simp only [upd_same, Slot.rw.injEq] at hb
      subst hb
      exact ⟨arr, ty, hnew, hl⟩
    · rw [upd_ne _ _ e] at hb
      obtain ⟨a1, t1, h1, h2⟩ := h.own b xs hb
      exact ⟨a1, t1, (heap_alloc_old w _ b (not_free_lt h (by rw [hb]; simp))).trans h1, h2⟩

theorem Stp.alloc {H : AH} {w : World} (h : Rep H w) (s : Slot) (o : Obj) : Stp H (H.upd w.heap.size s) w (w.alloc o) :=
  ⟨rfl, rfl, rfl, Pres.alloc w o, fun b hb _ => heap_alloc_old w o b hb, fun b hb hf => by rw [upd_ne _ _ (by omega)]; exact hf, fun b hb hn xs => by rw [upd_ne _ _ (by omega)]; exact hn xs⟩

theorem Rep.kill {H : AH} {w : World} (h : Rep H w) {b : Nat} (hb : b < w.heap.size) : Rep (H.upd b .dead) w := by
  refine ⟨fun i hi => ?_, fun i o v hc => ?_, fun i xs hi => ?_⟩
  · rw [upd_ne _ _ (by omega)]; exact h.fresh i hi
  · by_cases e : i = b
    · subst e; simp [AH.cell, upd_same] at hc
    · exact h.cell i o v (by simpa [AH.cell, upd_ne _ _ e] using hc)
  · by_cases e : i = b
    · subst e; simp [upd_same] at hi
    · rw [upd_ne _ _ e] at hi; exact h.own i xs hi

theorem Stp.kill {H : AH} {w : World} {b : Nat} {xs : List AV} (hb : H b = .rw xs) : Stp H (H.upd b .dead) w w :=
  ⟨rfl, rfl, rfl, Pres.refl w, fun _ _ _ => rfl, fun i _ hf => by rw [upd_ne _ _ (by rintro rfl; rw [hb] at hf; cases hf)]; exact hf,
   fun i _ hn ys => by
    by_cases e : i = b
    · subst e; simp [upd_same]
    · rw [upd_ne _ _ e]; exact hn ys⟩

theorem Rep.setRow {H : AH} {w : World} (h : Rep H w) {b : Nat} {xs xs' : List AV} (hb : H b = .rw xs) {arr arr' : Array Value} {ty : TypeId} (ha : w.heap[b]? = some (.cells arr ty (0, 0))) (hs : arr'.size = arr.size)
    (hl : xs'.length ≤ arr'.size) (hv : ∀ (i : Nat) c v, xs'[i]? = some c → arr'[i]? = some v → RV w c v) : Rep (H.upd b (.rw xs')) (w.setRow b arr') := by
  have hp := Pres.setRow ha hs
  have hlt : b < w.heap.size := (Array.getElem?_eq_some_iff.1 ha).1
  have hnew := setRow_heap w b arr arr' ty (0, 0) ha
  refine ⟨fun i hi => ?_, fun i o v hc => ?_, fun i ys hi => ?_⟩
  · simp only [setRow_size] at hi
    rw [upd_ne _ _ (by omega)]
    exact h.fresh i hi
  · by_cases e : i = b
    · subst e
      simp only [AH.cell, upd_same] at hc
      have ho : o < xs'.length := (List.getElem?_eq_some_iff.1 hc).1
      have ha' : arr'[o]? = some (arr'[o]'(by omega)) := Array.getElem?_eq_getElem (by omega)
      exact ⟨arr', ty, (0, 0), _, hnew, ha', (hv o v _ hc ha').mono hp⟩
    · have hc' : H.cell i o = some v := by simpa [AH.cell, upd_ne _ _ e] using hc
      obtain ⟨a1, t1, f1, u, h1, h2, h3⟩ := h.cell i o v hc'
      exact ⟨a1, t1, f1, u, (setRow_other w b i arr' e).trans h1, h2, h3.mono hp⟩
  · by_cases e : i = b
    · subst e
      simp only [upd_same, Slot.rw.injEq] at hi
      subst hi
      exact ⟨arr', ty, hnew, hl⟩
    · rw [upd_ne _ _ e] at hi
      obtain ⟨a1, t1, h1, h2⟩ := h.own i ys hi
      exact ⟨a1, t1, (setRow_other w b i arr' e).trans h1, h2⟩

theorem Stp.setRow {H : AH} {w : World} {b : Nat} {xs xs' : List AV} (hb : H b = .rw xs) {arr arr' : Array Value} {ty : TypeId} {fr : Nat × Nat} (ha : w.heap[b]? = some (.cells arr ty fr)) (hs : arr'.size = arr.size) : Stp H (H.upd b (.rw xs')) w (w.setRow b arr') :=
  ⟨rfl, rfl, rfl, Pres.setRow ha hs, fun i _ hn => setRow_other w b i arr' (by rintro rfl; exact hn xs hb), fun i _ hf => by rw [upd_ne _ _ (by rintro rfl; rw [hb] at hf; cases hf)]; exact hf,
   fun i _ hn ys => by
    by_cases e : i = b
    · subst e; exact absurd hb (hn xs)
    · rw [upd_ne _ _ e]; exact hn ys⟩

/-! ### cells in a row -/
theorem cellsAt_spec {H : AH} {b : Nat} : ∀ (n o : Nat) (cs : List AV), H.cellsAt b o n = some cs → cs.length = n ∧ ∀ j, j < n → H.cell b (o + j) = cs[j]?
  | 0, o, cs, h => by
    simp only [AH.cellsAt, Option.some.injEq] at h
    subst h
    exact ⟨rfl, fun j hj => absurd hj (Nat.not_lt_zero _)⟩
  | n + 1, o, cs, h => by
    simp only [AH.cellsAt] at h
    cases hc : H.cell b o with
    | none => simp [hc] at h
    | some v =>
      simp only [hc] at h
      cases hr : H.cellsAt b (o + 1) n with
      | none => simp [hr] at h
      | some rest =>
        simp only [hr, Option.map_some, Option.some.injEq] at h
        subst h
        obtain ⟨hl, hj⟩ := cellsAt_spec n (o + 1) rest hr
        refine ⟨by simp [hl], fun j hjn => ?_⟩
        cases j with
        | zero => simpa using hc
        | succ j => rw [show o + (j + 1) = o + 1 + j by omega, hj j (by omega)]; simp

theorem add_lit (b o j : Nat) : (⟨b, o, none⟩ : Addr).add j = ⟨b, o + j, none⟩ := by unfold Addr.add; split <;> simp_all

theorem Rep.cell? {H : AH} {w : World} (h : Rep H w) {b o : Nat} {v : AV} (hc : H.cell b o = some v) : ∃ u, w.cell? ⟨b, o, none⟩ = some u ∧ RV w v u := by
  obtain ⟨arr, ty, fr, u, h1, h2, h3⟩ := h.cell b o v hc
  exact ⟨u, by simp [World.cell?, h1, h2], h3⟩

theorem Rep.cellsAt {H : AH} {w : World} (h : Rep H w) {b o n : Nat} {cs : List AV} (hc : H.cellsAt b o n = some cs) :
    ∃ vs : List Value, vs.length = n ∧ (∀ j v, vs[j]? = some v → w.cell? ((⟨b, o, none⟩ : Addr).add j) = some v) ∧ ∀ (j : Nat) c v, cs[j]? = some c → vs[j]? = some v → RV w c v := by
  obtain ⟨hl, hj⟩ := cellsAt_spec n o cs hc
  refine ⟨(List.range n).map fun j => (w.cell? ⟨b, o + j, none⟩).getD undef, by simp, fun j v hv => ?_, fun j c v hcj hv => ?_⟩
  · rw [List.getElem?_map] at hv
    by_cases hjn : j < n
    · rw [List.getElem?_range hjn] at hv
      simp only [Option.map_some, Option.some.injEq] at hv
      have hcell := hj j hjn
      rw [List.getElem?_eq_getElem (by omega)] at hcell
      obtain ⟨u, hu, _⟩ := h.cell? hcell
      rw [add_lit, hu]
      rw [hu] at hv
      exact congrArg some hv
    · rw [List.getElem?_eq_none (by simpa using hjn)] at hv
      cases hv
  · have hjn : j < n := hl ▸ (List.getElem?_eq_some_iff.1 hcj).1
    rw [List.getElem?_map, List.getElem?_range hjn] at hv
    simp only [Option.map_some, Option.some.injEq] at hv
    have hcell := (hj j hjn).trans hcj
    obtain ⟨u, hu, hr⟩ := h.cell? hcell
    rw [hu] at hv
    simp only [Option.getD_some] at hv
    exact hv ▸ hr

theorem RV.one {w : World} {v : AV} {u : Value} (h : RV w v u) (h1 : v.one = true) : u.oneCell' = true := by
  cases h <;> simp_all [AV.one, Value.oneCell']

theorem RV.cells {w : World} {v : AV} {u : Value} (h : RV w v u) (hs : v.sure = true) : v.cells.length = u.cells.size ∧ ∀ (i : Nat) c x, v.cells[i]? = some c → u.cells[i]? = some x → RV w c x := by
  have one : ∀ {v : AV} {u : Value}, RV w v u → v.cells = [v] → u.cells = #[u] → v.cells.length = u.cells.size ∧ ∀ (i : Nat) c x, v.cells[i]? = some c → u.cells[i]? = some x → RV w c x := by
    intro v u h e1 e2
    rw [e1, e2]
    refine ⟨rfl, fun i c x hc hx => ?_⟩
    cases i with
    | zero => simp at hc hx; subst hc; subst hx; exact h
    | succ i => simp at hc
  cases h with
  | agg cs vs h hv => exact ⟨h, hv⟩
  | junk => simp [AV.sure] at hs
  | int k n => exact one (.int k n) rfl rfl
  | bool b => exact one (.bool b) rfl rfl
  | str s => exact one (.str s) rfl rfl
  | ptr b o h => exact one (.ptr b o h) rfl rfl
  | nilp => exact one .nilp rfl rfl
  | sl b o n cap c a hn hm hc ho => exact one (.sl b o n cap c a hn hm hc ho) rfl rfl
  | nils => exact one .nils rfl rfl
  | tup cs vs h hv => exact one (.tup cs vs h hv) rfl rfl
  | fn f cs vs h hv => exact one (.fn f cs vs h hv) rfl rfl

end Go.Proofs.YtbkpebmcagdgmaaGreat.AM
/-! Each operation of the model does what the abstract machine says. -/
namespace Go.Proofs.YtbkpebmcagdgmaaGreat.AM
open Go Go.RowKit
set_option linter.unusedVariables false
set_option linter.unusedSimpArgs false

section
variable {P : Program} {o : Oper} {a : Act} {w : World} {next : Act → World → Prop} {Q : Exit → Act → World → Prop}

theorem wp_val {v : Value} {w' : World} (hr : (execOp a.eval o).run P w = .ok (.value v) w') (h : next (a.put o.dst v) w') : o.wp P a w next Q := by
  unfold Oper.wp; rw [hr]; exact h

theorem aBin_sound (t : TypeId) (ox oy : Operand) {op : BinOp} {x y : AV} {K : AV → Prop} {u u' : Value} (h : aBin op x y K) (hx : RV w x u) (hy : RV w y u') :
    ∃ v r, K v ∧ RV w v r ∧ (do eqGuard op t ox oy u u'; binOp op t u u').run P w = .ok r w := by
  unfold aBin at h
  split at h <;> first | exact h.elim | skip
  case h_1 => cases hx; cases hy; obtain ⟨h0, hK⟩ := h; exact ⟨_, _, hK, .int _ _, by simp [eqGuard, binOp, Op.shift, Int.not_lt.2 h0]⟩
  case h_2 => cases hx; cases hy; obtain ⟨h0, hK⟩ := h; exact ⟨_, _, hK, .int _ _, by simp [eqGuard, binOp, Op.shift, Int.not_lt.2 h0]⟩
  case h_3 => cases hx; cases hy; obtain ⟨rfl, hK⟩ := h; exact ⟨_, _, hK, .int _ _, by simp [eqGuard, binOp, Op.intArith]⟩
  case h_4 => cases hx; cases hy; obtain ⟨rfl, hK⟩ := h; exact ⟨_, _, hK, .int _ _, by simp [eqGuard, binOp, Op.intArith]⟩
  case h_5 => cases hx; cases hy; obtain ⟨rfl, hK⟩ := h; exact ⟨_, _, hK, .int _ _, by simp [eqGuard, binOp, Op.intArith]⟩
  case h_6 => cases hx; cases hy; obtain ⟨rfl, h0, hK⟩ := h; exact ⟨_, _, hK, .int _ _, by simp [eqGuard, binOp, Op.intDiv, h0]⟩
  case h_7 => cases hx; cases hy; obtain ⟨rfl, h0, hK⟩ := h; exact ⟨_, _, hK, .int _ _, by simp [eqGuard, binOp, Op.intDiv, h0]⟩
  case h_8 => cases hx; cases hy; obtain ⟨rfl, hK⟩ := h; exact ⟨_, _, hK, .int _ _, by simp [eqGuard, binOp, Op.intBits]⟩
  case h_9 => cases hx; cases hy; obtain ⟨rfl, hK⟩ := h; exact ⟨_, _, hK, .int _ _, by simp [eqGuard, binOp, Op.intBits]⟩
  case h_10 => cases hx; cases hy; obtain ⟨rfl, hK⟩ := h; exact ⟨_, _, hK, .int _ _, by simp [eqGuard, binOp, Op.intBits]⟩
  case h_11 => cases hx; cases hy; obtain ⟨rfl, hK⟩ := h; exact ⟨_, _, hK, .int _ _, by simp [eqGuard, binOp, Op.intBits]⟩
  case h_12 => cases hx; cases hy; obtain ⟨rfl, hK⟩ := h; exact ⟨_, _, hK, .bool _, by simp [eqGuard, binOp, Op.intCmp]; rfl⟩
  case h_13 => cases hx; cases hy; obtain ⟨rfl, hK⟩ := h; exact ⟨_, _, hK, .bool _, by simp [eqGuard, binOp, Op.intCmp, bne]; rfl⟩
  case h_14 => cases hx; cases hy; obtain ⟨rfl, hK⟩ := h; exact ⟨_, _, hK, .bool _, by simp [eqGuard, binOp, Op.intCmp]⟩
  case h_15 => cases hx; cases hy; obtain ⟨rfl, hK⟩ := h; exact ⟨_, _, hK, .bool _, by simp [eqGuard, binOp, Op.intCmp]⟩
  case h_16 => cases hx; cases hy; obtain ⟨rfl, hK⟩ := h; exact ⟨_, _, hK, .bool _, by simp [eqGuard, binOp, Op.intCmp]⟩
  case h_17 => cases hx; cases hy; obtain ⟨rfl, hK⟩ := h; exact ⟨_, _, hK, .bool _, by simp [eqGuard, binOp, Op.intCmp]⟩

theorem elT_some {t : TypeId} (h : (elT P t).isSome = true) : ∃ e, P.underlying t = some (.slice e) ∧ elT P t = some e := by
  unfold elT at *
  split at h
  · rename_i e he; exact ⟨e, he, by simp [he]⟩
  · cases h

theorem equal_sl_nil {t e : TypeId} (hu : P.underlying t = some (.slice e)) (ad : Addr) (n cap : Nat) : (Op.equal t (.slice (some ad) n cap) (.slice none 0 0)).run P w = .ok false w := by
  have hs : ∀ d : Nat, (Op.equalIn (d + 1) t (.slice (some ad) n cap) (.slice none 0 0)).run P w = .ok false w := fun d => by simp [Op.equalIn, run_underlying hu]
  exact hs 9999
theorem equal_nil_nil {t e : TypeId} (hu : P.underlying t = some (.slice e)) : (Op.equal t (.slice none 0 0) (.slice none 0 0)).run P w = .ok true w := by
  have hs : ∀ d : Nat, (Op.equalIn (d + 1) t (.slice none 0 0) (.slice none 0 0)).run P w = .ok true w := fun d => by simp [Op.equalIn, run_underlying hu]
  exact hs 9999

theorem aEq_sound (t : TypeId) (ox oy : Operand) {op : BinOp} (hop : op = .eql ∨ op = .neq) {x y : AV} {K : AV → Prop} {u u' : Value} (h : aEq P t op x y K) (hx : RV w x u) (hy : RV w y u') :
    ∃ v r, K v ∧ RV w v r ∧ (do eqGuard op t ox oy u u'; binOp op t u u').run P w = .ok r w := by
  unfold aEq at h
  split at h
  · obtain ⟨he, hK⟩ := h
    obtain ⟨e, hu, _⟩ := elT_some he
    cases hx
    cases hy
    rcases hop with rfl | rfl
    · exact ⟨_, _, hK, .bool _, by simp [eqGuard, binOp, equal_sl_nil hu]⟩
    · exact ⟨_, _, hK, .bool _, by simp [eqGuard, binOp, equal_sl_nil hu]⟩
  · obtain ⟨he, hK⟩ := h
    obtain ⟨e, hu, _⟩ := elT_some he
    cases hx; cases hy
    rcases hop with rfl | rfl
    · exact ⟨_, _, hK, .bool _, by simp [eqGuard, binOp, equal_nil_nil hu]⟩
    · exact ⟨_, _, hK, .bool _, by simp [eqGuard, binOp, equal_nil_nil hu]⟩
  · exact h.elim

theorem aUn_sound {op : UnOp} {x : AV} {K : AV → Prop} {u : Value} (h : aUn op x K) (hx : RV w x u) : ∃ v r, K v ∧ RV w v r ∧ (Op.unary op u).run P w = .ok r w := by
  unfold aUn at h
  split at h
  · cases hx; exact ⟨_, _, h, .bool _, by simp [Op.unary]⟩
  · cases hx; exact ⟨_, _, h, .int _ _, by simp [Op.unary, Op.intArith]⟩
  · cases hx; exact ⟨_, _, h, .int _ _, by simp only [Op.unary, Op.intBits]; rfl⟩
  · exact h.elim


/-! ### what the table of types says -/
theorem szT_run {t : TypeId} {n : Nat} (h : szT P t = some n) : (sizeOf t).run P w = .ok n w := by
  unfold szT at h
  cases hi : P.info? t with
  | none => simp [hi] at h
  | some i => simp [hi] at h; simp [sizeOf, typeInfo, hi, h]
theorem szT_map {t : TypeId} {n : Nat} (h : szT P t = some n) : (P.info? t).map (·.size) = some n := h
theorem szE_some {t : TypeId} {n : Nat} (h : szE P t = some n) : ∃ e, P.underlying t = some (.slice e) ∧ szT P e = some n := by
  unfold szE at h
  cases he : elT P t with
  | none => simp [he] at h
  | some e =>
    simp only [he, Option.bind_some] at h
    obtain ⟨e', hu, he'⟩ := elT_some (P := P) (t := t) (by simp [he])
    rw [he] at he'
    cases he'
    exact ⟨_, hu, h⟩
theorem isA_run {t : TypeId} {x : Bool} (h : isA P t = some x) : (isAgg t).run P w = .ok x w := by
  unfold isA at h
  split at h
  · rename_i fs hu; cases h; simp [isAgg, run_underlying hu]
  · rename_i n e hu; cases h; simp [isAgg, run_underlying hu]
  · rename_i d h1 h2 hu
    cases h
    cases d <;> simp [isAgg, run_underlying hu] <;> first | exact absurd rfl (h1 _) | exact absurd rfl (h2 _ _)
  · cases h

theorem loadT_sound {t : TypeId} {H : AH} {b o : Nat} {v : AV} (h : loadT P t H b o = some v) (hr : Rep H w) :
    ∃ u, RV w v u ∧ (Instr.loadAt t (.pointer (some ⟨b, o, none⟩))).run P w = .ok u w := by
  unfold loadT at h
  split at h
  · rename_i hA
    cases hs : szT P t with
    | none => simp [hs] at h
    | some n =>
      simp only [hs, Option.bind_some] at h
      cases hc : H.cellsAt b o n with
      | none => simp [hc] at h
      | some cs =>
        simp only [hc, Option.map_some, Option.some.injEq] at h
        subst h
        obtain ⟨vs, hl, hcell, hrel⟩ := hr.cellsAt hc
        have hlen := (cellsAt_spec n o cs hc).1
        have hload := run_loadCells_list (P := P) w ⟨b, o, none⟩ vs hcell
        rw [hl] at hload
        exact ⟨.agg vs.toArray, .agg _ _ (by simp [hl, hlen]) (fun i c v h1 h2 => hrel i c v h1 (by simpa using h2)),
          by simp [Instr.loadAt, Instr.sureAddr, loadVar, isA_run hA, szT_run hs, hload]⟩
  · rename_i hA
    obtain ⟨u, hu, hrel⟩ := hr.cell? h
    exact ⟨u, hrel, by simp [Instr.loadAt, Instr.sureAddr, loadVar, isA_run hA, hu]⟩
  · cases h

theorem get_splice {α : Type} (xs vs : List α) (o i : Nat) (h : o + vs.length ≤ xs.length) :
    (xs.take o ++ vs ++ xs.drop (o + vs.length))[i]? = if i < o then xs[i]? else if i < o + vs.length then vs[i - o]? else xs[i]? := by
  have ht : (xs.take o).length = o := by simp; omega
  by_cases h1 : i < o
  · rw [if_pos h1, List.append_assoc, List.getElem?_append_left (by omega), List.getElem?_take, if_pos h1]
  · rw [if_neg h1]
    by_cases h2 : i < o + vs.length
    · rw [if_pos h2, List.append_assoc, List.getElem?_append_right (by omega), List.getElem?_append_left (by omega), ht]
    · rw [if_neg h2, List.getElem?_append_right (by simp; omega), List.getElem?_drop]
      congr 1
      simp
      omega

theorem len_splice {α : Type} (xs vs : List α) (o : Nat) (h : o + vs.length ≤ xs.length) : (xs.take o ++ vs ++ xs.drop (o + vs.length)).length = xs.length := by
  simp only [List.length_append, List.length_take, List.length_drop]
  omega

theorem splice_rel {xs cs : List AV} {arr vs : List Value} {o : Nat} (hl : cs.length = vs.length) (h : o + cs.length ≤ xs.length) (hx : xs.length ≤ arr.length)
    (h1 : ∀ (i : Nat) c v, xs[i]? = some c → arr[i]? = some v → RV w c v) (h2 : ∀ (i : Nat) c v, cs[i]? = some c → vs[i]? = some v → RV w c v) :
    ∀ (i : Nat) c v, (splice xs o cs)[i]? = some c → (arr.take o ++ vs ++ arr.drop (o + vs.length))[i]? = some v → RV w c v := by
  intro i c v hc hv
  unfold splice at hc
  rw [get_splice _ _ _ _ h] at hc
  rw [get_splice _ _ _ _ (by omega), ← hl] at hv
  split at hc
  · rename_i hi; rw [if_pos hi] at hv; exact h1 i c v hc hv
  · rename_i hi
    rw [if_neg hi] at hv
    split at hc
    · rename_i hj; rw [if_pos hj] at hv; exact h2 _ c v hc hv
    · rename_i hj; rw [if_neg hj] at hv; exact h1 i c v hc hv

theorem own_rel {H : AH} (hr : Rep H w) {b : Nat} {xs : List AV} (hb : H b = .rw xs) {arr : Array Value} {ty : TypeId} {fr : Nat × Nat} (ha : w.heap[b]? = some (.cells arr ty fr)) :
    ∀ (i : Nat) c v, xs[i]? = some c → arr.toList[i]? = some v → RV w c v := by
  intro i c v hc hv
  obtain ⟨arr', ty', fr', u, h1, h2, h3⟩ := hr.cell b i c (by simp [AH.cell, hb, hc])
  rw [ha] at h1
  simp only [Option.some.injEq, Obj.cells.injEq] at h1
  obtain ⟨rfl, rfl, rfl⟩ := h1
  rw [Array.getElem?_toList] at hv
  rw [h2] at hv
  cases hv
  exact h3

/-- cells written over the cells of a block -/
theorem write_sound {H : AH} (hr : Rep H w) {b o : Nat} {xs cs : List AV} {vs : List Value} (hb : H b = .rw xs) (ho : o + cs.length ≤ xs.length) (hl : cs.length = vs.length)
    (hv : ∀ (i : Nat) c v, cs[i]? = some c → vs[i]? = some v → RV w c v) :
    ∃ (arr : Array Value) (ty : TypeId), w.heap[b]? = some (.cells arr ty (0, 0)) ∧ o + vs.length ≤ arr.size ∧
      Rep (H.upd b (.rw (splice xs o cs))) (w.setRow b (arr.toList.take o ++ vs ++ arr.toList.drop (o + vs.length)).toArray) ∧
      Stp H (H.upd b (.rw (splice xs o cs))) w (w.setRow b (arr.toList.take o ++ vs ++ arr.toList.drop (o + vs.length)).toArray) ∧
      Pres w (w.setRow b (arr.toList.take o ++ vs ++ arr.toList.drop (o + vs.length)).toArray) := by
  obtain ⟨arr, ty, ha, hsz⟩ := hr.own b xs hb
  have hs : (arr.toList.take o ++ vs ++ arr.toList.drop (o + vs.length)).toArray.size = arr.size := by
    have hq : o + vs.length ≤ arr.toList.length := by simp only [Array.length_toList]; omega
    rw [List.size_toArray, len_splice _ _ _ hq, Array.length_toList]
  refine ⟨arr, ty, ha, by omega, hr.setRow hb ha hs (by rw [hs]; unfold splice; rw [len_splice _ _ _ ho]; exact hsz) ?_, Stp.setRow hb ha hs, Pres.setRow ha hs⟩
  intro i c v h1 h2
  exact splice_rel hl ho (by rw [Array.length_toList]; exact hsz) (own_rel hr hb ha) hv i c v h1 (by simpa using h2)

theorem storeT_sound {t : TypeId} {H : AH} (hr : Rep H w) {b o : Nat} {xs : List AV} {y : AV} {u : Value} (hb : H b = .rw xs) (hy : RV w y u) (hs : y.sure = true) (hz : szT P t = some y.cells.length)
    (h1 : ∀ v, v ∈ y.cells → v.one = true) (ho : o + y.cells.length ≤ xs.length) :
    ∃ w', (Instr.storeAt t (.pointer (some ⟨b, o, none⟩)) u).run P w = .ok () w' ∧ Rep (H.upd b (.rw (splice xs o y.cells))) w' ∧ Stp H (H.upd b (.rw (splice xs o y.cells))) w w' := by
  obtain ⟨hlen, hrel⟩ := hy.cells hs
  have hrel' : ∀ (i : Nat) c v, y.cells[i]? = some c → u.cells.toList[i]? = some v → RV w c v := fun i c v h1 h2 => hrel i c v h1 (by simpa using h2)
  obtain ⟨arr, ty, ha, hfit, h2, h3, _⟩ := write_sound hr hb ho (by rw [Array.length_toList]; exact hlen) hrel'
  have hone : ∀ v ∈ u.cells.toList, v.oneCell' = true := by
    intro v hv
    obtain ⟨i, hi⟩ := List.getElem?_of_mem hv
    have hlt : i < y.cells.length := by
      have := (List.getElem?_eq_some_iff.1 hi).1
      rw [Array.length_toList] at this
      omega
    exact (hrel' i _ v (List.getElem?_eq_getElem hlt) hi).one (h1 _ (List.getElem_mem hlt))
  have hst := run_storeCells_at P b o ty u.cells.toList 0 arr w ha (by simpa using hfit) hone
  refine ⟨_, ?_, h2, h3⟩
  simp only [Nat.add_zero] at hst
  simp [Instr.storeAt, Instr.sureAddr, storeVar, szT_run hz, hlen, hst]

end
end Go.Proofs.YtbkpebmcagdgmaaGreat.AM
/-! Each operation of the model does what the abstract machine says: new blocks, slices, append, copy. -/
namespace Go.Proofs.YtbkpebmcagdgmaaGreat.AM
open Go Go.RowKit
set_option linter.unusedVariables false
set_option linter.unusedSimpArgs false

section
variable {P : Program} {o : Oper} {a : Act} {w : World} {next : Act → World → Prop} {Q : Exit → Act → World → Prop}

theorem fieldAt_sound {s : TypeId} {f d : Nat} (h : fOff P s f = some d) (b off : Nat) : (Instr.fieldAt s (.pointer (some ⟨b, off, none⟩)) f).run P w = .ok (.pointer (some ⟨b, off + d, none⟩)) w := by
  unfold fOff at h
  split at h
  · rename_i fs hu
    split at h
    · rename_i fd hf
      split at h
      · rename_i n hs
        cases h
        simp [Instr.fieldAt, run_underlying hu, hf, Instr.sureAddr, fieldPlace, szT_run hs, add_lit]
      · cases h
    · cases h
  · cases h

theorem indexAt_sound {t : TypeId} {s : Nat} (h : szE P t = some s) (b off n cap : Nat) (k : IntKind) (i : Int) (h0 : 0 ≤ i) (h1 : i < n) :
    (Instr.indexAt t (.slice (some ⟨b, off, none⟩) n cap) (.int k i)).run P w = .ok (.pointer (some ⟨b, off + i.toNat * s, none⟩)) w := by
  obtain ⟨e, hu, hs⟩ := szE_some h
  simp [Instr.indexAt, run_underlying hu, asIntOf, h0, h1, szT_run hs, add_lit]

/-! ### new blocks -/
theorem zrT_some {t : TypeId} {z : List AV} (h : zrT P t = some z) : ∃ i zv, P.info? t = some i ∧ i.zero = some zv ∧ z = zv.cells.toList.map ofCell := by
  unfold zrT at h
  cases hi : P.info? t with
  | none => simp [hi] at h
  | some i =>
    cases hz : i.zero with
    | none => simp [hi, hz] at h
    | some zv => simp [hi, hz] at h; exact ⟨i, zv, rfl, hz, h.symm⟩

theorem zero_rel (w : World) (cs : Array Value) : (cs.toList.map ofCell).length = cs.size ∧ ∀ (i : Nat) c v, (cs.toList.map ofCell)[i]? = some c → cs[i]? = some v → RV w c v := by
  refine ⟨by simp, fun i c v hc hv => ?_⟩
  simp only [List.getElem?_map, Array.getElem?_toList, hv, Option.map_some, Option.some.injEq] at hc
  subst hc
  exact ofCell_rel w v

/-- A new block, and a value that points to it. -/
theorem new_sound {H : AH} (hr : Rep H w) {cs : List AV} {arr : Array Value} (ty : TypeId) (hl : cs.length = arr.size) (hv : ∀ (i : Nat) c v, cs[i]? = some c → arr[i]? = some v → RV w c v)
    {K : Nat → AH → Prop} (h : aNew H cs K) :
    K w.heap.size (H.upd w.heap.size (.rw cs)) ∧ Rep (H.upd w.heap.size (.rw cs)) (w.alloc (.cells arr ty)) ∧ Stp H (H.upd w.heap.size (.rw cs)) w (w.alloc (.cells arr ty)) :=
  ⟨h _ (hr.fresh _ (Nat.le_refl _)), hr.alloc ty (by omega) hv, Stp.alloc hr _ _⟩

theorem ptr_new (w : World) (ob : Obj) : RV (w.alloc ob) (.ptr w.heap.size 0) (.pointer (some ⟨w.heap.size, 0, none⟩)) := .ptr _ _ (by simp)
theorem sl_new (w : World) (arr : Array Value) (ty : TypeId) {n cap s : Nat} (hn : n ≤ cap) (hm : cap ≤ maxLen) (hs : cap * s = arr.size) :
    RV (w.alloc (.cells arr ty)) (.sl w.heap.size 0 n (.own s)) (.slice (some ⟨w.heap.size, 0, none⟩) n cap) :=
  .sl _ _ _ _ _ _ hn hm ⟨rfl, arr, ty, (0, 0), heap_alloc_new w _, hs⟩ (.inl ⟨rfl, by simp⟩)

/-! ### parts laid into cells -/
theorem fold_spec (off : Nat) : ∀ (l : List Value) (k : Nat) (cs : Array Value), off + k + l.length ≤ cs.size →
    ((l.zipIdx k).foldl (fun cs (x : Value × Nat) => cs.setIfInBounds (off + x.2) x.1) cs).toList = cs.toList.take (off + k) ++ l ++ cs.toList.drop (off + k + l.length)
  | [], k, cs, _ => by simp
  | v :: l, k, cs, h => by
    simp only [List.length_cons] at h
    simp only [List.zipIdx_cons, List.foldl_cons]
    rw [fold_spec off l (k + 1) _ (by simp; omega)]
    apply List.ext_getElem?
    intro i
    have e1 : off + (k + 1) + l.length ≤ (cs.setIfInBounds (off + k) v).toList.length := by simp; omega
    have e2 : off + k + (v :: l).length ≤ cs.toList.length := by simp; omega
    rw [get_splice _ _ _ _ e1, get_splice _ _ _ _ e2]
    simp only [Array.toList_setIfInBounds, List.length_cons]
    by_cases h1 : i < off + k
    · rw [if_pos h1, if_pos (by omega), List.getElem?_set_ne (by omega)]
    · rw [if_neg h1]
      by_cases h2 : i = off + k
      · subst h2
        rw [if_pos (by omega), if_pos (by omega), List.getElem?_set_self (by simp; omega)]
        simp
      · rw [if_neg (by omega)]
        by_cases h3 : i < off + k + (l.length + 1)
        · rw [if_pos (by omega), if_pos h3, show i - (off + k) = (i - (off + (k + 1))) + 1 by omega, List.getElem?_cons_succ]
        · rw [if_neg (by omega), if_neg h3, List.getElem?_set_ne (by omega)]

theorem fill_sound (w : World) {place : Nat → Option (Nat × Nat)} : ∀ (parts : List (Nat × AV)) (vals : List (Nat × Value)) (cells cs : List AV) (arr : Array Value),
    parts.length = vals.length → (∀ (i : Nat) p q, parts[i]? = some p → vals[i]? = some q → p.1 = q.1 ∧ RV w p.2 q.2) →
    cells.length = arr.size → (∀ (i : Nat) c v, cells[i]? = some c → arr[i]? = some v → RV w c v) → aFill place cells parts = some cs →
    ∃ arr', Instr.fill place arr vals = some arr' ∧ cs.length = arr'.size ∧ ∀ (i : Nat) c v, cs[i]? = some c → arr'[i]? = some v → RV w c v
  | [], [], cells, cs, arr, _, _, hl, hv, h => by
    simp only [aFill, Option.some.injEq] at h
    subst h
    exact ⟨arr, by simp [Instr.fill], hl, hv⟩
  | [], q :: vals, cells, cs, arr, hlen, _, _, _, _ => by simp at hlen
  | p :: parts, [], cells, cs, arr, hlen, _, _, _, _ => by simp at hlen
  | (i, x) :: parts, (i', v) :: vals, cells, cs, arr, hlen, hpv, hl, hv, h => by
    obtain ⟨rfl, hx⟩ := hpv 0 _ _ rfl rfl
    simp only [aFill] at h
    split at h
    · cases h
    · rename_i off size hpl
      split at h
      · rename_i hc
        obtain ⟨hsure, hsz, hfit⟩ := hc
        have hxx : RV w x v := hx
        obtain ⟨hxl, hxr⟩ := hxx.cells hsure
        have hvl : v.cells.toList.length = v.cells.size := Array.length_toList
        have hal : arr.toList.length = arr.size := Array.length_toList
        have hf := fold_spec off v.cells.toList 0 arr (by simp; omega)
        have harr : (v.cells.zipIdx.foldl (fun cs (x : Value × Nat) => cs.setIfInBounds (off + x.2) x.1) arr) = (arr.toList.take off ++ v.cells.toList ++ arr.toList.drop (off + v.cells.toList.length)).toArray := by
          apply Array.ext'
          rw [← Array.foldl_toList, Array.toList_zipIdx, hf]
          simp
        have hq : off + v.cells.toList.length ≤ arr.toList.length := by simp only [Array.length_toList]; omega
        obtain ⟨arr', h1, h2, h3⟩ := fill_sound w parts vals (splice cells off x.cells) cs (v.cells.zipIdx.foldl (fun cs (x : Value × Nat) => cs.setIfInBounds (off + x.2) x.1) arr) (by simpa using hlen)
          (fun j p q hp hq => hpv (j + 1) p q (by simpa using hp) (by simpa using hq))
          (by rw [harr, List.size_toArray, len_splice _ _ _ hq]; unfold splice; rw [len_splice _ _ _ (by omega)]; simpa using hl)
          (by
            intro j c u hc hu
            rw [harr] at hu
            exact splice_rel (arr := arr.toList) (vs := v.cells.toList) (by omega) (by omega) (by omega) (fun i c v a b => hv i c v a (by rw [← Array.getElem?_toList]; exact b)) (fun i c v a b => hxr i c v a (by rw [← Array.getElem?_toList]; exact b)) j c u hc (by simpa using hu)) h
        refine ⟨arr', ?_, h2, h3⟩
        simp only [Instr.fill, hpl]
        rw [if_neg (by simp; omega)]
        exact h1
      · cases h

theorem parts_rel {e : Env} (he : EnvRel w e a) (parts : Array (Nat × Operand)) :
    (parts.toList.map fun p => (p.1, ev e p.2)).length = (parts.map fun (i, x) => (i, a.eval x)).toList.length ∧
    ∀ (i : Nat) p q, (parts.toList.map fun p => (p.1, ev e p.2))[i]? = some p → (parts.map fun (i, x) => (i, a.eval x)).toList[i]? = some q → p.1 = q.1 ∧ RV w p.2 q.2 := by
  refine ⟨by simp, fun i p q hp hq => ?_⟩
  simp only [Array.toList_map, List.getElem?_map] at hp hq
  cases hx : parts.toList[i]? with
  | none => simp [hx] at hp
  | some x =>
    simp only [hx, Option.map_some, Option.some.injEq] at hp hq
    subst hp; subst hq
    exact ⟨rfl, he.ev x.2⟩

theorem build_sound {t : TypeId} {e : Env} (he : EnvRel w e a) {parts : Array (Nat × Operand)} {z cs : List AV} {pl : List (Nat × Nat)} (hz : zrT P t = some z) (hp : plT P t = some pl)
    (hf : aFill (fun i => pl[i]?) z (parts.toList.map fun p => (p.1, ev e p.2)) = some cs) :
    ∃ u, RV w (.agg cs) u ∧ (Instr.build t (parts.map fun (i, x) => (i, a.eval x))).run P w = .ok u w := by
  obtain ⟨i, zv, hi, hzv, rfl⟩ := zrT_some hz
  obtain ⟨h1, h2⟩ := zero_rel w zv.cells
  obtain ⟨hpl, hpr⟩ := parts_rel he parts
  obtain ⟨arr', h3, h4, h5⟩ := fill_sound w _ _ _ _ _ hpl hpr h1 h2 hf
  refine ⟨.agg arr', .agg _ _ h4 h5, run_build w t _ arr' ?_⟩
  unfold plT at hp
  split at hp
  · rename_i fs hu
    unfold Program.built
    simp only [hi, hu, hzv, hp]
    simpa using h3
  · cases hp

theorem reps_length (z : List AV) : ∀ n, (reps z n).length = n * z.length
  | 0 => by simp [reps]
  | n + 1 => by simp only [reps, List.length_append, reps_length z n, Nat.succ_mul]; omega
theorem reps_get (z : List AV) (hz : 0 < z.length) : ∀ (n i : Nat), i < n * z.length → (reps z n)[i]? = z[i % z.length]?
  | 0, i, h => by simp at h
  | n + 1, i, h => by
    simp only [reps]
    by_cases hi : i < z.length
    · rw [List.getElem?_append_left hi, Nat.mod_eq_of_lt hi]
    · rw [List.getElem?_append_right (by omega), reps_get z hz n (i - z.length) (by rw [Nat.succ_mul] at h; omega), ← Nat.mod_eq_sub_mod (by omega)]

theorem made_rel (w : World) (zc : Array Value) (n : Nat) (hz : 0 < zc.size) :
    (reps (zc.toList.map ofCell) n).length = (madeCells zc (n * zc.size)).size ∧ ∀ (i : Nat) c v, (reps (zc.toList.map ofCell) n)[i]? = some c → (madeCells zc (n * zc.size))[i]? = some v → RV w c v := by
  refine ⟨by rw [reps_length, size_madeCells]; simp, fun i c v hc hv => ?_⟩
  have hi : i < n * zc.size := by
    have := (List.getElem?_eq_some_iff.1 hc).1
    rw [reps_length] at this
    simpa using this
  rw [reps_get _ (by simpa using hz) n i (by simpa using hi)] at hc
  have hm : i % zc.size < zc.size := Nat.mod_lt _ hz
  have hv' : v = zc[i % zc.size] := by
    unfold madeCells at hv
    rw [Array.getElem?_map] at hv
    rw [Array.getElem?_eq_getElem (by simpa using hi)] at hv
    simp only [Array.getElem_range, Option.map_some, Option.some.injEq] at hv
    rw [← hv, getElem!_pos zc _ hm]
  simp only [List.length_map, Array.length_toList, List.getElem?_map, Array.getElem?_toList, Array.getElem?_eq_getElem hm, Option.map_some, Option.some.injEq] at hc
  subst hc
  rw [hv']
  exact ofCell_rel w _

theorem zrE_some {t : TypeId} {z : List AV} (h : zrE P t = some z) {e : TypeId} (hu : P.underlying t = some (.slice e)) : zrT P e = some z := by
  unfold zrE at h
  have : elT P t = some e := by simp [elT, hu]
  simpa [this] using h
theorem byE_some {t : TypeId} {z : Nat} (h : byE P t = some z) {e : TypeId} (hu : P.underlying t = some (.slice e)) : ∃ i, P.info? e = some i ∧ i.bytes = z := by
  unfold byE at h
  have : elT P t = some e := by simp [elT, hu]
  simp only [this, Option.bind_some] at h
  cases hi : P.info? e with
  | none => simp [hi] at h
  | some i => simp [hi] at h; exact ⟨i, rfl, h⟩

theorem madeCells_zero (z : Array Value) : madeCells z 0 = #[] := by simp [madeCells]

theorem buildSlice_sound {t : TypeId} {e : Env} (he : EnvRel w e a) {len s : Nat} {parts : Array (Nat × Operand)} {z cs : List AV} (hs : szE P t = some s) (hz : zrE P t = some z) (hzl : z.length = s) (hs0 : 0 < s)
    (hsm : len * s ≤ 16777216) (hf : aFill (fun i => some (i * s, s)) (reps z len) (parts.toList.map fun p => (p.1, ev e p.2)) = some cs) :
    ∃ (arr : Array Value) (ty : TypeId), (Instr.buildSlice t len (parts.map fun (i, x) => (i, a.eval x))).run P w = .ok (.slice (some ⟨w.heap.size, 0, none⟩) len len) (w.alloc (.cells arr ty)) ∧
      cs.length = arr.size ∧ arr.size = len * s ∧ ∀ (i : Nat) c v, cs[i]? = some c → arr[i]? = some v → RV w c v := by
  obtain ⟨el, hu, hse⟩ := szE_some hs
  obtain ⟨ie, zv, hi, hzv, rfl⟩ := zrT_some (zrE_some hz hu)
  have hz' : zv.cells.size = s := by simpa using hzl
  have hisz : ie.size = s := by simpa [szT, hi] using hse
  obtain ⟨h1, h2⟩ := made_rel w zv.cells len (by omega)
  rw [hz'] at h1 h2
  obtain ⟨hpl, hpr⟩ := parts_rel he parts
  obtain ⟨arr', h3, h4, h5⟩ := fill_sound w _ _ _ _ _ hpl hpr h1 h2 hf
  have hsize : ∀ (ps : List (Nat × AV)) (c0 c1 : List AV), aFill (fun i => some (i * s, s)) c0 ps = some c1 → c1.length = c0.length := by
    intro ps
    induction ps with
    | nil => intro c0 c1 h; simp only [aFill, Option.some.injEq] at h; rw [h]
    | cons p ps ih =>
      intro c0 c1 h
      simp only [aFill] at h
      split at h
      · rename_i hc
        rw [ih _ _ h]
        unfold splice
        rw [len_splice _ _ _ (by omega)]
      · cases h
  have hcl : cs.length = len * s := by rw [hsize _ _ _ hf, reps_length]; simp [hz']
  refine ⟨arr', el, ?_, h4, by omega, h5⟩
  by_cases hl0 : len * s = 0
  · have hm0 : madeCells zv.cells (len * s) = #[] := by rw [hl0]; exact madeCells_zero _
    rw [hm0] at h3
    have h3' : Instr.fill (fun i => some (i * s, s)) #[] (parts.toList.map fun x => (x.1, a.eval x.2)) = some arr' := by simpa using h3
    simp [Instr.buildSlice, run_underlying hu, sizeOf, typeInfo, hi, hisz, hl0, Array.range_zero', newRow, h3']
  · have hrun := run_buildSlice (P := P) w t el len (parts.map fun (i, x) => (i, a.eval x)) arr' ie zv hu hi hzv (by rw [hisz]; omega) (by rw [hisz]; exact hl0)
      (by rw [hisz]; exact h3)
    exact hrun

theorem makeSlice_sound {t : TypeId} {s b_ : Nat} {z : List AV} {n : Int} (kl kc : IntKind) (hs : szE P t = some s) (hz : zrE P t = some z) (hb : byE P t = some b_) (hzl : z.length = s) (hs0 : 0 < s)
    (h0 : 0 ≤ n) (h1 : n * b_ ≤ 281474976710656) (h2 : n ≤ 281474976710656) :
    ∃ (arr : Array Value) (ty : TypeId), (Instr.makeSlice t (.int kl n) (.int kc n)).run P w = .ok (.slice (some ⟨w.heap.size, 0, none⟩) n.toNat n.toNat) (w.alloc (.cells arr ty)) ∧
      (reps z n.toNat).length = arr.size ∧ arr.size = n.toNat * s ∧ ∀ (i : Nat) c v, (reps z n.toNat)[i]? = some c → arr[i]? = some v → RV w c v := by
  obtain ⟨el, hu, hse⟩ := szE_some hs
  obtain ⟨ie, zv, hi, hzv, rfl⟩ := zrT_some (zrE_some hz hu)
  obtain ⟨ie', hi', hby⟩ := byE_some hb hu
  rw [hi] at hi'
  cases hi'
  have hz' : zv.cells.size = s := by simpa using hzl
  have hisz : ie.size = s := by simpa [szT, hi] using hse
  obtain ⟨m1, m2⟩ := made_rel w zv.cells n.toNat (by omega)
  rw [hz'] at m1 m2
  have hrun := run_make (P := P) w t el ie zv hu hi hzv kl kc n n h0 (Int.le_refl _) (by rw [hby, Int.mul_comm]; exact h1) (by omega)
  rw [hisz] at hrun
  exact ⟨_, el, hrun, m1, by rw [← m1, reps_length, hzl], m2⟩

end
end Go.Proofs.YtbkpebmcagdgmaaGreat.AM
/-! Each operation of the model does what the abstract machine says: cuts of slices, append, copy. -/
namespace Go.Proofs.YtbkpebmcagdgmaaGreat.AM
open Go Go.RowKit
set_option linter.unusedVariables false
set_option linter.unusedSimpArgs false

section
variable {P : Program} {o : Oper} {a : Act} {w : World} {next : Act → World → Prop} {Q : Exit → Act → World → Prop}

theorem slice_run {t : TypeId} {s : Nat} (hs : szE P t = some s) (ad : Option Addr) (len cap l h m : Nat) (lo hi mx : Option Value)
    (hlo : (lo = none ∧ l = 0) ∨ ∃ k, lo = some (.int k l)) (hhi : (hi = none ∧ h = len) ∨ ∃ k, hi = some (.int k h)) (hmx : (mx = none ∧ m = cap) ∨ (hi.isSome = true ∧ ∃ k, mx = some (.int k m)))
    (h1 : l ≤ h) (h2 : h ≤ m) (h3 : m ≤ cap) :
    (Instr.sliceAt t (.slice ad len cap) lo hi mx).run P w = .ok (.slice (if m = l then ad else ad.map (·.add (l * s))) (h - l) (m - l)) w := by
  obtain ⟨e, hu, hse⟩ := szE_some hs
  have b1 : ∀ (k : IntKind) (i y : Nat) (c : BoundsCode), i ≤ y → (Instr.sliceBound (.int k (i : Int)) y c).run P w = .ok i w := fun k i y c hi => by
    have := run_sliceBound (P := P) w k (i : Int) y c (by omega) (by omega)
    simpa using this
  have main : (Instr.slice t (.slice ad len cap) lo hi mx).run P w = .ok (.slice (if m = l then ad else ad.map (·.add (l * s))) (h - l) (m - l)) w := by
    rcases hmx with ⟨rfl, rfl⟩ | ⟨hsome, k3, rfl⟩
    · rcases hhi with ⟨rfl, rfl⟩ | ⟨k2, rfl⟩
      · rcases hlo with ⟨rfl, rfl⟩ | ⟨k1, rfl⟩
        · simp [Instr.slice, run_underlying hu, Instr.sliceBounds, szT_run hse]
        · simp [Instr.slice, run_underlying hu, Instr.sliceBounds, szT_run hse, b1 k1 l _ _ h1]
      · rcases hlo with ⟨rfl, rfl⟩ | ⟨k1, rfl⟩
        · simp [Instr.slice, run_underlying hu, Instr.sliceBounds, szT_run hse, b1 k2 h _ _ h2]
        · simp [Instr.slice, run_underlying hu, Instr.sliceBounds, szT_run hse, b1 k2 h _ _ h2, b1 k1 l _ _ h1]
    · rcases hhi with ⟨rfl, rfl⟩ | ⟨k2, rfl⟩
      · simp at hsome
      · rcases hlo with ⟨rfl, rfl⟩ | ⟨k1, rfl⟩
        · simp [Instr.slice, run_underlying hu, Instr.sliceBounds, szT_run hse, b1 k3 m _ _ h3, b1 k2 h _ _ h2]
        · simp [Instr.slice, run_underlying hu, Instr.sliceBounds, szT_run hse, b1 k3 m _ _ h3, b1 k2 h _ _ h2, b1 k1 l _ _ h1]
  simpa [Instr.sliceAt, run_underlying hu] using main

/-- A bound that is given. -/
theorem opt_rel {e : Env} (he : EnvRel w e a) (x : Option Operand) : (x.map (ev e) = none ∧ x.map a.eval = none) ∨ ∃ v u, x.map (ev e) = some v ∧ x.map a.eval = some u ∧ RV w v u := by
  cases x with
  | none => exact .inl ⟨rfl, rfl⟩
  | some x => exact .inr ⟨_, _, rfl, rfl, he.ev x⟩

theorem aSlice_sound {t : TypeId} {s : Nat} (hs : szE P t = some s) {e : Env} (he : EnvRel w e a) {x : AV} {u : Value} (hx : RV w x u) {lo hi mx : Option Operand} {K : AV → Prop}
    (h : aSlice s x (lo.map (ev e)) (hi.map (ev e)) (mx.map (ev e)) K) :
    ∃ v r, K v ∧ RV w v r ∧ (Instr.sliceAt t u (lo.map a.eval) (hi.map a.eval) (mx.map a.eval)).run P w = .ok r w := by
  unfold aSlice at h
  split at h
  · rename_i b off n c
    cases hx with
    | sl _ _ _ cap _ ad hn hm hc hoo =>
    obtain ⟨l, hh, hl, hhi, h1, h2, h3⟩ := h
    have hlo' : (lo.map a.eval = none ∧ l = 0) ∨ ∃ k, lo.map a.eval = some (.int k l) := by
      rcases opt_rel he lo with ⟨e1, e2⟩ | ⟨v, u, e1, e2, hr⟩
      · rw [e1] at hl; exact .inl ⟨e2, hl⟩
      · rw [e1] at hl
        obtain ⟨k, rfl⟩ := hl
        cases hr
        exact .inr ⟨k, e2⟩
    have hhi' : (hi.map a.eval = none ∧ hh = n) ∨ ∃ k, hi.map a.eval = some (.int k hh) := by
      rcases opt_rel he hi with ⟨e1, e2⟩ | ⟨v, u, e1, e2, hr⟩
      · rw [e1] at hhi; exact .inl ⟨e2, hhi⟩
      · rw [e1] at hhi
        obtain ⟨k, rfl⟩ := hhi
        cases hr
        exact .inr ⟨k, e2⟩
    have haddr : ∀ m, (if m = l then (some ad : Option Addr) else (some ad : Option Addr).map (·.add (l * s))) = some (if m = l then ad else ad.add (l * s)) := by
      intro m
      split <;> rfl
    have hoff : ∀ m, hh ≤ m → l < hh → (if m = l then ad else ad.add (l * s)) = ⟨b, off + l * s, none⟩ ∧ b < w.heap.size := by
      intro m hm1 hm2
      rw [if_neg (by omega)]
      rcases hoo with ⟨e, hb⟩ | ⟨e, _⟩
      · rw [e]; exact ⟨add_lit _ _ _, hb⟩
      · omega
    rcases opt_rel he mx with ⟨e1, e2⟩ | ⟨v, u, e1, e2, hr⟩
    · rw [e1] at h3
      refine ⟨_, _, h3, ?_, slice_run hs _ n cap l hh cap _ _ _ hlo' hhi' (.inl ⟨e2, rfl⟩) h1 (by omega) (Nat.le_refl _)⟩
      rw [haddr]
      have fin : ∀ c', CapOk w b (off + l * s) (cap - l) c' → ((∃ s', c' = .own s') → l = 0 ∧ ad = ⟨b, off, none⟩ ∧ b < w.heap.size) → RV w (.sl b (off + l * s) (hh - l) c') (.slice (some (if cap = l then ad else ad.add (l * s))) (hh - l) (cap - l)) := by
        intro c' hc1 hc2
        refine .sl _ _ _ _ _ _ (by omega) (by omega) hc1 ?_
        by_cases hlt : l < hh
        · exact .inl (hoff cap (by omega) hlt)
        · by_cases hown : ∃ s', c' = .own s'
          · obtain ⟨rfl, rfl, hb⟩ := hc2 hown
            refine .inl ⟨?_, hb⟩
            split
            · simp
            · rw [add_lit]
          · exact .inr ⟨by omega, fun s' e => hown ⟨s', e⟩⟩
      cases c with
      | any => exact fin _ trivial (fun ⟨s', e⟩ => by cases e)
      | kn c => have : cap = c := hc; subst this; exact fin _ rfl (fun ⟨s', e⟩ => by cases e)
      | own s' =>
        by_cases hl0 : l = 0
        · obtain ⟨h0, arr, ty, fr, ha, hsz⟩ := hc
          have ho1 : ad = ⟨b, off, none⟩ ∧ b < w.heap.size := by
            rcases hoo with e | ⟨_, e⟩
            · exact e
            · exact absurd rfl (e s')
          subst hl0
          simp only [if_true]
          exact fin _ ⟨by simp [h0], arr, ty, fr, ha, by simpa using hsz⟩ (fun _ => ⟨rfl, ho1⟩)
        · simp only [hl0, if_false]
          exact fin _ trivial (fun ⟨s', e⟩ => by cases e)
    · rw [e1] at h3
      obtain ⟨m, k, rfl, hsome, h4, h5, h6⟩ := h3
      cases hr
      have hsome' : (hi.map a.eval).isSome = true := by simpa using hsome
      refine ⟨_, _, h6, ?_, slice_run hs _ n cap l hh m _ _ _ hlo' hhi' (.inr ⟨hsome', k, e2⟩) h1 h4 (by omega)⟩
      rw [haddr]
      refine .sl _ _ _ _ _ _ (by omega) (by omega) rfl ?_
      by_cases hlt : l < hh
      · exact .inl (hoff m h4 hlt)
      · exact .inr ⟨by omega, fun s' e => by cases e⟩
  · cases hx
    obtain ⟨h1, h2, h3, hK⟩ := h
    have hlo' : (lo.map a.eval = none ∧ 0 = 0) ∨ ∃ k, lo.map a.eval = some (.int k (0 : Nat)) := by
      rcases opt_rel he lo with ⟨e1, e2⟩ | ⟨v, u, e1, e2, hr⟩
      · exact .inl ⟨e2, rfl⟩
      · obtain ⟨k, rfl⟩ := h1 v e1
        cases hr
        exact .inr ⟨k, e2⟩
    have hhi' : (hi.map a.eval = none ∧ 0 = 0) ∨ ∃ k, hi.map a.eval = some (.int k (0 : Nat)) := by
      rcases opt_rel he hi with ⟨e1, e2⟩ | ⟨v, u, e1, e2, hr⟩
      · exact .inl ⟨e2, rfl⟩
      · obtain ⟨k, rfl⟩ := h2 v e1
        cases hr
        exact .inr ⟨k, e2⟩
    have hmx' : (mx.map a.eval = none ∧ 0 = 0) ∨ ((hi.map a.eval).isSome = true ∧ ∃ k, mx.map a.eval = some (.int k (0 : Nat))) := by
      rcases opt_rel he mx with ⟨e1, e2⟩ | ⟨v, u, e1, e2, hr⟩
      · exact .inl ⟨e2, rfl⟩
      · obtain ⟨hsome, k, rfl⟩ := h3 v e1
        cases hr
        exact .inr ⟨by simpa using hsome, k, e2⟩
    have hr := slice_run (P := P) (w := w) hs none 0 0 0 0 0 _ _ _ hlo' hhi' hmx' (Nat.le_refl _) (Nat.le_refl _) (Nat.le_refl _)
    exact ⟨_, _, hK, .nils, by simpa using hr⟩
  · exact h.elim

/-! ### append -/
theorem run_append_in (t ty e : TypeId) (i : TypeInfo) (ht : P.underlying t = some (.slice e)) (hi : P.info? e = some i)
    (g sLen sCap : Nat) (cur : Array Value) (te : TypeId) (hg : w.heap[g]? = some (.cells cur te (0, 0)))
    (src : Value) (m : Nat) (news : List Value) (hlen : (Builtin.lenOf src).run P w = .ok m w) (hf : (Builtin.firstCells i.size m src).run P w = .ok news.toArray w) (h1 : ∀ u ∈ news, u.oneCell' = true)
    (hroom : sLen + m ≤ sCap) (hfit : sLen * i.size + news.length ≤ cur.size) :
    (Builtin.append_ #[t, t] ty #[.slice (some ⟨g, 0, none⟩) sLen sCap, src]).run P w =
      .ok (.slice (some ⟨g, 0, none⟩) (sLen + m) sCap) (w.setRow g (cur.toList.take (sLen * i.size) ++ news ++ cur.toList.drop (sLen * i.size + news.length)).toArray) := by
  have hst := run_storeCells_at P g (sLen * i.size) te news 0 cur w hg (by simpa using hfit) h1
  simp only [Nat.add_zero] at hst
  simp [Builtin.append_, run_underlying ht, sizeOf, typeInfo, hi, hlen, hroom, hf, Addr.add_lit, hst]

/-- What is appended: its length, its cells. -/
theorem src_sound {H : AH} (hr : Rep H w) {s : Nat} {y : AV} {u : Value} (hy : RV w y u) {ys : List AV} (hc : slCells H s y = some ys) :
    ∃ vs : List Value, (∃ ad n c, u = .slice ad n c ∧ n = slLen y ∧ (ad = none → vs = [] ∧ n = 0 ∧ c = 0) ∧ ∀ A, ad = some A → ∀ j v, vs[j]? = some v → w.cell? (A.add j) = some v) ∧ vs.length = slLen y * s ∧ ys.length = vs.length ∧
      ∀ (i : Nat) c v, ys[i]? = some c → vs[i]? = some v → RV w c v := by
  unfold slCells at hc
  split at hc
  · rename_i b off n c
    cases hy with
    | sl _ _ _ cap _ ad hn hm hcap hoo =>
    obtain ⟨vs, hl, hcell, hrel⟩ := hr.cellsAt hc
    refine ⟨vs, ⟨some ad, n, cap, rfl, rfl, fun h => (by cases h), fun A hA => ?_⟩, hl, by rw [hl]; exact (cellsAt_spec _ _ _ hc).1, hrel⟩
    cases hA
    rcases hoo with ⟨e, _⟩ | ⟨e, _⟩
    · subst e; exact hcell
    · subst e
      have hv0 : vs = [] := List.eq_nil_of_length_eq_zero (by simpa using hl)
      subst hv0
      intro j v hj
      simp at hj
  · cases hc
    cases hy
    exact ⟨[], ⟨none, 0, 0, rfl, rfl, fun _ => ⟨rfl, rfl, rfl⟩, fun A hA => by cases hA⟩, by simp [slLen], rfl, fun i c v h => by simp at h⟩
  · cases hc

theorem src_run {ad : Option Addr} {n c s : Nat} {vs : List Value} (hl : vs.length = n * s) (hnil : ad = none → vs = [] ∧ n = 0 ∧ c = 0) (hcell : ∀ A, ad = some A → ∀ j v, vs[j]? = some v → w.cell? (A.add j) = some v) :
    (Builtin.lenOf (.slice ad n c)).run P w = .ok n w ∧ (Builtin.firstCells s n (.slice ad n c)).run P w = .ok vs.toArray w := by
  refine ⟨by simp [Builtin.lenOf], ?_⟩
  cases ad with
  | none =>
    obtain ⟨rfl, _, _⟩ := hnil rfl
    simp [Builtin.firstCells]
  | some A => exact run_firstCells_some w s n A n c vs hl (hcell A rfl)

theorem one_all {ys : List AV} {vs : List Value} (hl : ys.length = vs.length) (h1 : ∀ v, v ∈ ys → v.one = true) (hv : ∀ (i : Nat) c v, ys[i]? = some c → vs[i]? = some v → RV w c v) : ∀ v ∈ vs, v.oneCell' = true := by
  intro v hm
  obtain ⟨i, hi⟩ := List.getElem?_of_mem hm
  have hlt : i < ys.length := by have := (List.getElem?_eq_some_iff.1 hi).1; omega
  exact (hv i _ v (List.getElem?_eq_getElem hlt) hi).one (h1 _ (List.getElem_mem hlt))

theorem append_rel {xs ys : List AV} {us vs : List Value} (hl : xs.length = us.length) (h1 : ∀ (i : Nat) c v, xs[i]? = some c → us[i]? = some v → RV w c v) (h2 : ∀ (i : Nat) c v, ys[i]? = some c → vs[i]? = some v → RV w c v) :
    ∀ (i : Nat) c v, (xs ++ ys)[i]? = some c → (us ++ vs)[i]? = some v → RV w c v := by
  intro i c v hc hv
  by_cases hi : i < xs.length
  · rw [List.getElem?_append_left hi] at hc
    rw [List.getElem?_append_left (by omega)] at hv
    exact h1 i c v hc hv
  · rw [List.getElem?_append_right (by omega)] at hc
    rw [List.getElem?_append_right (by omega), ← hl] at hv
    exact h2 _ c v hc hv

/-- a block that is larger than what is known of it -/
theorem big_rel {cs : List AV} {vs : List Value} {z : Array Value} (hl : cs.length = vs.length) (h : ∀ (i : Nat) c v, cs[i]? = some c → vs[i]? = some v → RV w c v) :
    ∀ (i : Nat) c v, cs[i]? = some c → (vs.toArray ++ z)[i]? = some v → RV w c v := by
  intro i c v hc hv
  have hlt : i < vs.length := hl ▸ (List.getElem?_eq_some_iff.1 hc).1
  rw [Array.getElem?_append_left (by simpa using hlt)] at hv
  exact h i c v hc (by simpa using hv)

theorem grown_new {H : AH} (hr : Rep H w) {cs : List AV} {vs : List Value} {z : Array Value} (ty : TypeId) {n cap s : Nat} (hl : cs.length = vs.length) (h : ∀ (i : Nat) c v, cs[i]? = some c → vs[i]? = some v → RV w c v)
    (hn : n ≤ cap) (hm : cap ≤ maxLen) (hs : cap * s = (vs.toArray ++ z).size) :
    Rep (H.upd w.heap.size (.rw cs)) (w.drew.alloc (.cells (vs.toArray ++ z) ty)) ∧ Stp H (H.upd w.heap.size (.rw cs)) w (w.drew.alloc (.cells (vs.toArray ++ z) ty)) ∧
      RV (w.drew.alloc (.cells (vs.toArray ++ z) ty)) (.sl w.heap.size 0 n (.own s)) (.slice (some ⟨w.heap.size, 0, none⟩) n cap) := by
  have hr' := hr.drew
  refine ⟨hr'.alloc (w := w.drew) ty (by rw [Array.size_append]; simp; omega) (fun i c v h1 h2 => (big_rel hl h i c v h1 h2).drew), (Stp.alloc (w := w.drew) hr' _ _).undrew, ?_⟩
  exact sl_new w.drew _ ty hn hm hs

theorem zeroCells_size {z : Array Value} {s n : Nat} (hz : z.size = s) : (Builtin.zeroCells z n).size = n * s := by rw [size_zeroCells, hz]

theorem aAppend_sound {t ty : TypeId} {s b_ : Nat} {z : List AV} (hs : szE P t = some s) (hb : byE P t = some b_) (hz : zrE P t = some z) (hzl : z.length = s) {H : AH} (hr : Rep H w) {x y : AV} {u u' : Value} (hx : RV w x u) (hy : RV w y u')
    {K : AV → AH → Prop} (h : aAppend s b_ x y H K) :
    ∃ v H' r w', K v H' ∧ Rep H' w' ∧ RV w' v r ∧ Stp H H' w w' ∧ (Builtin.append_ #[t, t] ty #[u, u']).run P w = .ok r w' := by
  obtain ⟨e, hu, hse⟩ := szE_some hs
  obtain ⟨i, zv, hi, hzv, hzz⟩ := zrT_some (zrE_some hz hu)
  obtain ⟨i', hi', hby⟩ := byE_some hb hu
  rw [hi] at hi'
  cases hi'
  have hisz : i.size = s := by simpa [szT, hi] using hse
  have hz' : zv.cells.size = s := by rw [hzz] at hzl; simpa using hzl
  obtain ⟨ys, hys, h1, hbd, hbd2, hs0, h⟩ := h
  obtain ⟨vs, ⟨ad, m, c, rfl, hm, hnil, hcell⟩, hvl, hyl, hyr⟩ := src_sound hr hy hys
  have hone := one_all hyl h1 hyr
  have hvl' : vs.length = m * s := by rw [hm]; exact hvl
  have hrun := src_run (P := P) (w := w) hvl' hnil hcell
  rw [← hm] at h hbd hbd2
  split at h
  · -- nil
    cases hx
    simp only [slLen, Nat.zero_add] at hbd hbd2
    by_cases hm0 : m = 0
    · subst hm0
      refine ⟨_, _, _, w, h.1 rfl, hr, .nils, Stp.refl H w, ?_⟩
      have hv0 : vs = [] := List.eq_nil_of_length_eq_zero (by simpa using hvl')
      subst hv0
      have := hrun.2
      rw [← hisz] at this
      simp [Builtin.append_, run_underlying hu, sizeOf, typeInfo, hi, hrun.1, this]
    · cases ad with
      | none => exact absurd (hnil rfl).2.1 hm0
      | some A =>
        have hr1 := run_append_nil (P := P) w t ty e i zv hu hi hzv A m c vs (by rw [hisz]; exact hvl') (hcell A rfl) (by omega) (by omega) (by rw [hby]; omega)
        obtain ⟨g1, g2, g3⟩ := grown_new (z := Builtin.zeroCells zv.cells (grownCap w m 0 e - m)) hr e (n := m) (cap := grownCap w m 0 e) (s := s) hyl hyr (grownCap_ge w m 0 e) (grownCap_le_maxLen w m 0 e (by unfold maxLen; omega))
          (by
            have hge := grownCap_ge w m 0 e
            rw [Array.size_append, List.size_toArray, zeroCells_size hz', hvl', ← Nat.add_mul]
            congr 1
            omega)
        exact ⟨_, _, _, _, h.2 (by omega) _ (hr.fresh _ (Nat.le_refl _)), g1, g3, g2, hr1⟩
  · -- a row of the call's own
    rename_i b off n s'
    obtain ⟨rfl, xs, hbx, rfl, hxl, hK⟩ := h
    cases hx with
    | sl _ _ _ cap _ ad hn hcm hc hoo =>
    obtain ⟨_, arr0, ty0, fr0, ha0, hsz0⟩ := hc
    have ho1 : ad = ⟨b, 0, none⟩ ∧ b < w.heap.size := by
      rcases hoo with e | ⟨_, e⟩
      · exact e
      · exact absurd rfl (e _)
    obtain ⟨rfl, hbw⟩ := ho1
    obtain ⟨arr, te, ha, hxa⟩ := hr.own b xs hbx
    rw [ha] at ha0
    simp only [Option.some.injEq, Obj.cells.injEq] at ha0
    obtain ⟨rfl, rfl, rfl⟩ := ha0
    simp only [slLen] at hbd hbd2
    by_cases hroom : n + m ≤ cap
    · have hfit : n * i.size + vs.length ≤ arr.size := by rw [hisz, hvl', ← hsz0, ← Nat.add_mul]; exact Nat.mul_le_mul_right _ hroom
      have hr1 := run_append_in (P := P) (w := w) t ty e i hu hi b n cap arr te ha (.slice ad m c) m vs hrun.1 (by rw [hisz]; exact hrun.2) hone hroom hfit
      rw [hisz] at hr1 hfit
      have hsize : (arr.toList.take (n * s') ++ vs ++ arr.toList.drop (n * s' + vs.length)).toArray.size = arr.size := by
        have hq : n * s' + vs.length ≤ arr.toList.length := by simp only [Array.length_toList]; omega
        rw [List.size_toArray, len_splice _ _ _ hq, Array.length_toList]
      have hrel : ∀ (j : Nat) c v, (xs ++ ys)[j]? = some c → (arr.toList.take (n * s') ++ vs ++ arr.toList.drop (n * s' + vs.length)).toArray[j]? = some v → RV w c v := by
        intro j c v hc hv
        have hj : j < xs.length + ys.length := by have := (List.getElem?_eq_some_iff.1 hc).1; simpa using this
        have htk : (arr.toList.take (n * s')).length = n * s' := by rw [List.length_take, Array.length_toList]; omega
        refine append_rel (xs := xs) (us := arr.toList.take (n * s')) (by rw [htk]; exact hxl) (fun i c v p q => ?_) hyr j c v hc ?_
        · rw [List.getElem?_take] at q
          split at q
          · exact own_rel hr hbx ha i c v p q
          · cases q
        · rw [List.getElem?_toArray, List.getElem?_append_left (by simp only [List.length_append, htk]; omega)] at hv
          exact hv
      have g1 := hr.setRow (xs' := xs ++ ys) hbx ha hsize (by rw [hsize, List.length_append]; omega) hrel
      have g2 := Stp.setRow (H := H) (w := w) (xs' := xs ++ ys) hbx ha hsize
      have hp := Pres.setRow ha hsize
      refine ⟨_, _, _, _, hK b (.inl rfl), by rw [upd_upd]; exact g1, ?_, by rw [upd_upd]; exact g2, hr1⟩
      refine .sl _ _ _ _ _ _ hroom hcm ⟨rfl, _, te, (0, 0), setRow_heap w b arr _ te (0, 0) ha, by rw [hsize]; exact hsz0⟩ (.inl ⟨rfl, Nat.lt_of_lt_of_le hbw hp.1⟩)
    · have holds : ∀ j v, (arr.toList.take (n * s'))[j]? = some v → w.cell? ((⟨b, 0, none⟩ : Addr).add j) = some v := by
        intro j v hj
        rw [List.getElem?_take] at hj
        split at hj
        · rw [add_lit, Nat.zero_add]
          simp only [World.cell?, ha]
          simpa using hj
        · cases hj
      have htk : (arr.toList.take (n * s')).length = n * s' := by rw [List.length_take, Array.length_toList]; omega
      cases ad with
      | none => have := (hnil rfl).2.1; omega
      | some A =>
        have hr1 := run_append_grow (P := P) w t ty e i zv hu hi hzv ⟨b, 0, none⟩ n cap (arr.toList.take (n * s')) (by rw [htk, hisz]) holds A m c vs (by rw [hisz]; exact hvl') (hcell A rfl) (by omega) (by omega)
          (growslice_fits (by omega) (by rw [hby]; exact hbd))
        have hrk := hr.kill hbw
        obtain ⟨g1, g2, g3⟩ := grown_new (z := Builtin.zeroCells zv.cells (grownCap w (n + m) cap e - (n + m))) (cs := xs ++ ys) (vs := arr.toList.take (n * s') ++ vs) hrk e (n := n + m) (cap := grownCap w (n + m) cap e) (s := s')
          (by rw [List.length_append, List.length_append, htk]; omega)
          (append_rel (by rw [htk]; exact hxl) (fun i c v p q => by
            rw [List.getElem?_take] at q
            split at q
            · exact own_rel hr hbx ha i c v p q
            · cases q) hyr) (grownCap_ge w (n + m) cap e) (grownCap_le_maxLen w (n + m) cap e (by unfold maxLen; omega))
          (by
            have hge := grownCap_ge w (n + m) cap e
            rw [Array.size_append, List.size_toArray, List.length_append, htk, zeroCells_size hz', hvl', ← Nat.add_mul, ← Nat.add_mul]
            congr 1
            omega)
        have ek : (arr.toList.take (n * s') ++ vs).toArray ++ Builtin.zeroCells zv.cells (grownCap w (n + m) cap e - (n + m)) = (arr.toList.take (n * s')).toArray ++ vs.toArray ++ Builtin.zeroCells zv.cells (grownCap w (n + m) cap e - (n + m)) := by simp
        rw [ek] at g1 g2 g3
        exact ⟨_, _, _, _, hK w.heap.size (.inr (hr.fresh _ (Nat.le_refl _))), g1, g3, (Stp.kill hbx).trans g2, hr1⟩
  · -- a slice whose capacity is known
    rename_i b off n c0
    obtain ⟨xs, hxc, hK0, hK1⟩ := h
    cases hx with
    | sl _ _ _ cap _ ad0 hn hcm hc hoo =>
    have hcap : cap = c0 := hc
    subst hcap
    simp only [slLen] at hbd hbd2
    by_cases hm0 : m = 0
    · subst hm0
      have hv0 : vs = [] := List.eq_nil_of_length_eq_zero (by simpa using hvl')
      subst hv0
      refine ⟨_, _, _, w, hK0 rfl hn, hr, .sl _ _ _ _ _ _ hn hcm hc hoo, Stp.refl H w, ?_⟩
      have := hrun.2
      rw [← hisz] at this
      simp [Builtin.append_, run_underlying hu, sizeOf, typeInfo, hi, hrun.1, this, hn, storeCells]
    · obtain ⟨hlt, hKn⟩ := hK1 (by omega)
      obtain ⟨us, hul, hucell, hurel⟩ := hr.cellsAt hxc
      have hxl := (cellsAt_spec _ _ _ hxc).1
      have hucell' : ∀ j v, us[j]? = some v → w.cell? (ad0.add j) = some v := by
        rcases hoo with ⟨e, _⟩ | ⟨e, _⟩
        · subst e; exact hucell
        · subst e
          have hv0 : us = [] := List.eq_nil_of_length_eq_zero (by simpa using hul)
          subst hv0
          intro j v hj
          simp at hj
      cases ad with
      | none => exact absurd (hnil rfl).2.1 hm0
      | some A =>
        have hr1 := run_append_grow (P := P) w t ty e i zv hu hi hzv ad0 n cap us (by rw [hul, hisz]) hucell' A m c vs (by rw [hisz]; exact hvl') (hcell A rfl) (by omega) (by omega)
          (growslice_fits (by omega) (by rw [hby]; exact hbd))
        obtain ⟨g1, g2, g3⟩ := grown_new (z := Builtin.zeroCells zv.cells (grownCap w (n + m) cap e - (n + m))) (cs := xs ++ ys) (vs := us ++ vs) hr e (n := n + m) (cap := grownCap w (n + m) cap e) (s := s)
          (by rw [List.length_append, List.length_append]; omega) (append_rel (by omega) hurel hyr) (grownCap_ge w (n + m) cap e) (grownCap_le_maxLen w (n + m) cap e (by unfold maxLen; omega))
          (by
            have hge := grownCap_ge w (n + m) cap e
            rw [Array.size_append, List.size_toArray, List.length_append, hul, zeroCells_size hz', hvl', ← Nat.add_mul, ← Nat.add_mul]
            congr 1
            omega)
        have ek : (us ++ vs).toArray ++ Builtin.zeroCells zv.cells (grownCap w (n + m) cap e - (n + m)) = us.toArray ++ vs.toArray ++ Builtin.zeroCells zv.cells (grownCap w (n + m) cap e - (n + m)) := by simp
        rw [ek] at g1 g2 g3
        exact ⟨_, _, _, _, hKn w.heap.size (hr.fresh _ (Nat.le_refl _)), g1, g3, g2, hr1⟩
  · exact h.elim

theorem aCopy_sound {t t' ty : TypeId} (hs : szE P t = some 1) {H : AH} (hr : Rep H w) {x y : AV} {u u' : Value} (hx : RV w x u) (hy : RV w y u') {K : AV → AH → Prop} (h : aCopy 1 x y H K) :
    ∃ v H' r w', K v H' ∧ Rep H' w' ∧ RV w' v r ∧ Stp H H' w w' ∧ (Builtin.copy_ #[t, t'] ty #[u, u']).run P w = .ok r w' := by
  obtain ⟨e, hu, hse⟩ := szE_some hs
  unfold aCopy at h
  split at h
  · rename_i b off n c
    obtain ⟨xs, ys, hbx, hfit, hys, h1, hK⟩ := h
    obtain ⟨vs, ⟨ad, m, c', rfl, hm, hnil, hcell⟩, hvl, hyl, hyr⟩ := src_sound hr hy hys
    rw [← hm] at hK
    cases hx with
    | sl _ _ _ cap _ ad0 hn hcm hc hoo =>
    have hone := one_all hyl h1 hyr
    simp only [Nat.mul_one] at hfit hvl hK
    have hmin : (vs.take (min m n)).length = min m n := by rw [List.length_take]; omega
    obtain ⟨arr, te, ha, hfit', g1, g2, g3⟩ := write_sound (o := off) (cs := ys.take (min m n)) (vs := vs.take (min m n)) hr hbx (by rw [List.length_take]; omega) (by rw [hmin, List.length_take]; omega)
      (fun i c v p q => by
        rw [List.getElem?_take] at p q
        split at p
        · rename_i hi; rw [if_pos hi] at q; exact hyr i c v p q
        · cases p)
    refine ⟨_, _, .int .i64 (min m n : Nat), _, hK, g1, .int _ _, g2, ?_⟩
    rcases hoo with ⟨rfl, hbw⟩ | ⟨hn0, _⟩
    · cases ad with
      | none =>
        obtain ⟨rfl, rfl, rfl⟩ := hnil rfl
        have hc0 := run_copy_nil (P := P) w t t' ty e ⟨b, off, none⟩ n cap hu (by rw [szT_map hse]; rfl)
        simp only [Nat.zero_min, List.take_nil, List.append_nil, List.length_nil, Nat.add_zero, List.take_append_drop, Array.toArray_toList]
        rw [setRow_self w b arr te (0, 0) ha]
        simpa [goInt] using hc0
      | some A =>
        have hr1 := run_copy_row (P := P) w t t' ty e b off n cap A m c' arr te (vs.take (min m n)) hu hse ha hmin
          (fun j v hj => by
            rw [List.getElem?_take] at hj
            split at hj
            · exact hcell A rfl j v hj
            · cases hj) (by omega) (fun v hv => hone v (List.mem_of_mem_take hv))
        rw [hr1, hmin]
        simp [goInt]
    · subst hn0
      simp only [Nat.min_zero, List.take_zero, List.append_nil, List.length_nil, Nat.add_zero, List.take_append_drop, Array.toArray_toList]
      rw [setRow_self w b arr te (0, 0) ha]
      have hsrc : (Builtin.lenOf (.slice ad m c')).run P w = .ok m w := by simp [Builtin.lenOf]
      cases ad with
      | none => simp [Builtin.copy_, run_underlying hu, Builtin.lenOf, Builtin.firstCells, szT_run hse, storeCells, goInt]
      | some A => simp [Builtin.copy_, run_underlying hu, Builtin.lenOf, Builtin.firstCells, szT_run hse, storeCells, goInt, loadCells, loadCellsFrom]
  · exact h.elim

end
end Go.Proofs.YtbkpebmcagdgmaaGreat.AM
/-! The abstract machine's operations, all in one: whatever holds on the abstract machine behind an operation can be had behind it in the model. -/
namespace Go.Proofs.YtbkpebmcagdgmaaGreat.AM
open Go Go.RowKit
set_option linter.unusedVariables false
set_option linter.unusedSimpArgs false

section
variable {P : Program} {o : Oper} {a : Act} {w : World} {next : Act → World → Prop} {Q : Exit → Act → World → Prop}

theorem args_map {e : Env} (he : EnvRel w e a) (args : Array Operand) : RVs w (args.toList.map (ev e)) (args.map a.eval).toList := by
  refine ⟨by simp, fun i c v hc hv => ?_⟩
  simp only [Array.toList_map, List.getElem?_map] at hc hv
  cases hx : args.toList[i]? with
  | none => simp [hx] at hc
  | some x =>
    simp only [hx, Option.map_some, Option.some.injEq] at hc hv
    subst hc; subst hv
    exact he.ev x

theorem RVs.app {w : World} {cs ds : List AV} {vs us : List Value} (h : RVs w cs vs) (k : RVs w ds us) : RVs w (cs ++ ds) (vs ++ us) := by
  refine ⟨by rw [List.length_append, List.length_append, h.1, k.1], fun i c v hc hv => ?_⟩
  by_cases hi : i < cs.length
  · rw [List.getElem?_append_left hi] at hc
    rw [List.getElem?_append_left (by have := h.1; omega)] at hv
    exact h.2 i c v hc hv
  · rw [List.getElem?_append_right (by omega)] at hc
    rw [List.getElem?_append_right (by have := h.1; omega), ← h.1] at hv
    exact k.2 _ c v hc hv

theorem callable_spec {f : FuncId} (h : callable P f = true) : ∃ fn, P.funcs[f]? = some fn ∧ fn.body ≠ none ∧ fn.name ≠ "runtime.NumGoroutine" := by
  unfold callable at h
  split at h
  · rename_i fn hf
    simp only [Bool.and_eq_true, bne_iff_ne, ne_eq] at h
    exact ⟨fn, hf, fun hb => by simp [hb] at h, h.2⟩
  · cases h

theorem two_args {e : Env} (he : EnvRel w e a) {args : Array Operand} {x y : AV} (h : args.toList.map (ev e) = [x, y]) : ∃ u u', args.map a.eval = #[u, u'] ∧ RV w x u ∧ RV w y u' := by
  have hl := congrArg List.length h
  simp at hl
  rcases args with ⟨l⟩
  match l, hl with
  | [p, q], _ =>
    simp at h
    obtain ⟨rfl, rfl⟩ := h
    exact ⟨a.eval p, a.eval q, by simp, he.ev p, he.ev q⟩
theorem one_arg {e : Env} (he : EnvRel w e a) {args : Array Operand} {x : AV} (h : args.toList.map (ev e) = [x]) : ∃ u, args.map a.eval = #[u] ∧ RV w x u := by
  have hl := congrArg List.length h
  simp at hl
  rcases args with ⟨l⟩
  match l, hl with
  | [p], _ =>
    simp at h
    subst h
    exact ⟨a.eval p, by simp, he.ev p⟩
theorem types_two {ts : Array TypeId} {t t' : TypeId} (h : ts.toList = [t, t']) : ts = #[t, t'] := by
  rcases ts with ⟨l⟩
  simp at h
  rw [h]

theorem types_one {ts : Array TypeId} {t : TypeId} (h : ts.toList = [t]) : ts = #[t] := by
  rcases ts with ⟨l⟩
  simp at h
  rw [h]

theorem aop_sound {e : Env} {H : AH} {K : AV → AH → Prop} (hr : Rep H w) (he : EnvRel w e a) (h : aop P e H K o.op)
    (hn : ∀ v H' u w', K v H' → Rep H' w' → RV w' v u → Stp H H' w w' → next (a.put o.dst u) w') : o.wp P a w next Q := by
  cases ho : o.op <;> rw [ho] at h <;> simp only [aop] at h
  case move x => exact wp_val (by simp [execOp, ho]) (hn _ _ _ _ h hr (he.ev x) (Stp.refl _ _))
  case assign x => exact wp_val (by simp [execOp, ho]) (hn _ _ _ _ h hr (he.ev x) (Stp.refl _ _))
  case pick c x y =>
    split at h
    · rename_i t ht
      have hc := he.ev c
      rw [ht] at hc
      generalize hcv : a.eval c = cv at hc
      cases hc
      refine wp_val (v := if t then a.eval x else a.eval y) (by simp [execOp, ho, hcv, asBool]) (hn _ _ _ _ h hr ?_ (Stp.refl _ _))
      cases t
      · exact he.ev y
      · exact he.ev x
    · exact h.elim
  case binOp op t x y ty =>
    have hx := he.ev x
    have hy := he.ev y
    have fin : (∃ v r, K v H ∧ RV w v r ∧ (do eqGuard op t x y (a.eval x) (a.eval y); binOp op t (a.eval x) (a.eval y)).run P w = .ok r w) → o.wp P a w next Q := by
      rintro ⟨v, r, hK, hrv, hrun⟩
      refine wp_val (v := r) (w' := w) ?_ (hn _ _ _ _ hK hr hrv (Stp.refl _ _))
      simp only [execOp, ho]
      rw [Sem.run_bind, hrun]
      rfl
    have eqc : (op = .eql ∨ op = .neq) → (match ev e x with
      | .int k n => aBin op (.int k n) (ev e y) fun v => K v H
      | v => aEq P t op v (ev e y) fun v => K v H) → o.wp P a w next Q := by
      intro hop h
      split at h
      · rename_i k n hk
        rw [hk] at hx
        exact fin (aBin_sound t x y h hx hy)
      · exact fin (aEq_sound t x y hop h hx hy)
    cases op <;> first | exact fin (aBin_sound t x y h hx hy) | exact eqc (.inl rfl) h | exact eqc (.inr rfl) h
  case unOp op t x =>
    obtain ⟨v, r, hK, hrv, hrun⟩ := aUn_sound (P := P) h (he.ev x)
    exact wp_val (v := r) (by simp [execOp, ho, hrun]) (hn _ _ _ _ hK hr hrv (Stp.refl _ _))
  case convert s d x =>
    split at h
    · rename_i k k0 n hk hx
      have hxr := he.ev x
      rw [hx] at hxr
      generalize hxv : a.eval x = xv at hxr
      cases hxr
      have hd : P.underlying d = some (.int k) := by
        unfold intT at hk
        split at hk
        · cases hk; assumption
        · cases hk
      obtain ⟨hs0, hK⟩ := h
      have hs : ∃ sd, P.underlying s = some sd := by
        unfold intT at hs0
        split at hs0
        · exact ⟨_, by assumption⟩
        · cases hs0
      obtain ⟨sd, hs⟩ := hs
      exact wp_val (v := .int k (k.wrap n)) (w' := w) (by simp [execOp, ho, hxv, convert, run_underlying hs, run_underlying hd, Conv.intToInt]) (hn _ _ _ _ hK hr (.int _ _) (Stp.refl _ _))
    · exact h.elim
  case load t x =>
    split at h
    · rename_i b off hx
      obtain ⟨v, hv, hK⟩ := h
      have hxr := he.ev x
      rw [hx] at hxr
      generalize hxv : a.eval x = xv at hxr
      cases hxr
      obtain ⟨u, hu, hrun⟩ := loadT_sound (P := P) hv hr
      exact wp_val (v := u) (by simp [execOp, ho, hxv, hrun]) (hn _ _ _ _ hK hr hu (Stp.refl _ _))
    · exact h.elim
  case store t x y =>
    split at h
    · rename_i b off hx
      obtain ⟨xs, hb, hsure, hsz, h1, hfit, hK⟩ := h
      have hxr := he.ev x
      rw [hx] at hxr
      generalize hxv : a.eval x = xv at hxr
      cases hxr
      obtain ⟨w', hrun, hr', hst⟩ := storeT_sound (P := P) hr hb (he.ev y) hsure hsz h1 hfit
      have hskip : (execOp a.eval o).run P w = .ok .skip w' := by simp [execOp, ho, hxv, hrun]
      unfold Oper.wp
      rw [hskip]
      exact hn _ _ _ _ hK hr' (undef_rel w') hst
    · exact h.elim
  case nilCheck x =>
    split at h
    · rename_i b off hx
      have hxr := he.ev x
      rw [hx] at hxr
      generalize hxv : a.eval x = xv at hxr
      cases hxr
      exact wp_val (v := .pointer (some ⟨b, off, none⟩)) (by simp [execOp, ho, hxv]) (hn _ _ _ _ h hr (.ptr _ _ (by assumption)) (Stp.refl _ _))
    · rename_i f cs hx
      have hxr := he.ev x
      rw [hx] at hxr
      generalize hxv : a.eval x = xv at hxr
      cases hxr with
      | fn _ _ vs hl hv => exact wp_val (v := .func (.func f) #[] vs) (by simp [execOp, ho, hxv]) (hn _ _ _ _ h hr (.fn _ _ _ hl hv) (Stp.refl _ _))
    · exact h.elim
  case fieldAddr s x f =>
    split at h
    · rename_i b off hx
      obtain ⟨d, hd, hK⟩ := h
      have hxr := he.ev x
      rw [hx] at hxr
      generalize hxv : a.eval x = xv at hxr
      cases hxr with
      | ptr _ _ hb =>
      exact wp_val (v := .pointer (some ⟨b, off + d, none⟩)) (by simp [execOp, ho, hxv, fieldAt_sound hd]) (hn _ _ _ _ hK hr (.ptr _ _ hb) (Stp.refl _ _))
    · exact h.elim
  case indexAddr t x i =>
    split at h
    · rename_i b off n c k j hx hi
      obtain ⟨s, hs, h0, h1, hK⟩ := h
      have hxr := he.ev x
      rw [hx] at hxr
      generalize hxv : a.eval x = xv at hxr
      have hir := he.ev i
      rw [hi] at hir
      generalize hiv : a.eval i = iv at hir
      cases hir
      cases hxr with
      | sl _ _ _ cap _ ad hn' hm hc hoo =>
      obtain ⟨rfl, hb⟩ : ad = ⟨b, off, none⟩ ∧ b < w.heap.size := by
        rcases hoo with e | ⟨e, _⟩
        · exact e
        · omega
      exact wp_val (v := .pointer (some ⟨b, off + j.toNat * s, none⟩)) (by simp [execOp, ho, hxv, hiv, indexAt_sound hs b off n cap k j h0 h1]) (hn _ _ _ _ hK hr (.ptr _ _ hb) (Stp.refl _ _))
    · exact h.elim
  case slice t x lo hi mx =>
    obtain ⟨s, hs, h⟩ := h
    obtain ⟨v, r, hK, hrv, hrun⟩ := aSlice_sound hs he (he.ev x) h
    exact wp_val (v := r) (by simp [execOp, ho, hrun]) (hn _ _ _ _ hK hr hrv (Stp.refl _ _))
  case alloc t =>
    obtain ⟨z, hz, h⟩ := h
    obtain ⟨i, zv, hi, hzv, rfl⟩ := zrT_some hz
    obtain ⟨h1, h2⟩ := zero_rel w zv.cells
    obtain ⟨hK, g1, g2⟩ := new_sound hr t h1 h2 h
    exact wp_val (v := .pointer (some ⟨w.heap.size, 0, none⟩)) (w' := w.alloc (.cells zv.cells t)) (by simp [execOp, ho, Instr.alloc, zeroValue, typeInfo, hi, hzv, newVar, newRow]) (hn _ _ _ _ hK g1 (ptr_new w _) g2)
  case box t x =>
    obtain ⟨hsure, h⟩ := h
    obtain ⟨h1, h2⟩ := (he.ev x).cells hsure
    obtain ⟨hK, g1, g2⟩ := new_sound hr t h1 h2 h
    exact wp_val (v := .pointer (some ⟨w.heap.size, 0, none⟩)) (w' := w.alloc (.cells (a.eval x).cells t)) (by simp [execOp, ho, Instr.box, newVar, newRow]) (hn _ _ _ _ hK g1 (ptr_new w _) g2)
  case build t parts =>
    obtain ⟨z, pl, cs, hz, hp, hf, hK⟩ := h
    obtain ⟨u, hu, hrun⟩ := build_sound (P := P) he hz hp hf
    exact wp_val (v := u) (w' := w) (by simp only [execOp, ho]; rw [Sem.run_bind, hrun]; rfl) (hn _ _ _ _ hK hr hu (Stp.refl _ _))
  case buildSlice t len parts =>
    obtain ⟨s, z, cs, hs, hz, hzl, hs0, hsm, hf, h⟩ := h
    obtain ⟨arr, ty, hrun, h1, h2, h3⟩ := buildSlice_sound (P := P) he hs hz hzl hs0 hsm hf
    obtain ⟨hK, g1, g2⟩ := new_sound hr ty h1 h3 h
    have hlen : len ≤ maxLen := by
      have : len * 1 ≤ len * s := Nat.mul_le_mul_left _ hs0
      unfold maxLen; omega
    exact wp_val (w' := w.alloc (.cells arr ty)) (by simp only [execOp, ho]; rw [Sem.run_bind, hrun]; rfl) (hn _ _ _ _ hK g1 (sl_new w arr ty (Nat.le_refl _) hlen h2.symm) g2)
  case makeSlice t l c =>
    split at h
    · rename_i k n k' m hl hc
      obtain ⟨s, z, b_, hs, hz, hb, hzl, hs0, rfl, h0, h1, h2, h⟩ := h
      have hlr := he.ev l
      rw [hl] at hlr
      generalize hlv : a.eval l = lv at hlr
      cases hlr
      have hcr := he.ev c
      rw [hc] at hcr
      generalize hcv : a.eval c = cv at hcr
      cases hcr
      obtain ⟨arr, ty, hrun, m1, m2, m3⟩ := makeSlice_sound (P := P) (w := w) k k' hs hz hb hzl hs0 h0 h1 h2
      obtain ⟨hK, g1, g2⟩ := new_sound hr ty m1 m3 h
      exact wp_val (w' := w.alloc (.cells arr ty)) (by simp [execOp, ho, hlv, hcv, hrun]) (hn _ _ _ _ hK g1 (sl_new w arr ty (Nat.le_refl _) (by unfold maxLen; omega) m2.symm) g2)
    · exact h.elim
  case makeFunc fn first captured =>
    cases fn <;> simp only [aop] at h
    case func f =>
      obtain ⟨h0, hK⟩ := h
      have hfirst : first.map a.eval = #[] := by simp [Array.size_eq_zero_iff.1 h0]
      obtain ⟨hl, hv⟩ := args_map he captured
      refine wp_val (v := .func (.func f) #[] (captured.map a.eval)) (by simp [execOp, ho, hfirst, Instr.makeFunc]) (hn _ _ _ _ hK hr (.fn _ _ _ (by rw [hl, Array.length_toList]) fun i c v hc hv' => hv i c v hc (by simpa using hv')) (Stp.refl _ _))
  case extract x i =>
    split at h
    · rename_i vs hx
      obtain ⟨v, hv, hK⟩ := h
      have hxr := he.ev x
      rw [hx] at hxr
      generalize hxv : a.eval x = xv at hxr
      cases hxr with
      | tup _ us hl hrel =>
      have hi : i < us.size := by have := (List.getElem?_eq_some_iff.1 hv).1; omega
      exact wp_val (v := us[i]) (by simp [execOp, ho, hxv, Instr.extract, hi]) (hn _ _ _ _ hK hr (hrel i v _ hv (Array.getElem?_eq_getElem hi)) (Stp.refl _ _))
    · exact h.elim
  case call c =>
    split at h
    · -- len
      rename_i hcal
      split at h
      · rename_i b off n k t hx ht
        obtain ⟨u, hu, hrel⟩ := one_arg he hx
        obtain ⟨hel, hK⟩ := h
        obtain ⟨e', hund, _⟩ := elT_some hel
        cases hrel with
        | sl _ _ _ cap _ ad hn' hm hc hoo =>
        exact wp_val (v := .int .i64 n) (w' := w) (by simp [execOp, ho, resolve, hcal, hu, invoke, builtin, Builtin.len_, types_one ht, run_underlying hund, goInt]) (hn _ _ _ _ hK hr (.int _ _) (Stp.refl _ _))
      · rename_i t hx ht
        obtain ⟨u, hu, hrel⟩ := one_arg he hx
        obtain ⟨hel, hK⟩ := h
        obtain ⟨e', hund, _⟩ := elT_some hel
        cases hrel
        exact wp_val (v := .int .i64 0) (w' := w) (by simp [execOp, ho, resolve, hcal, hu, invoke, builtin, Builtin.len_, types_one ht, run_underlying hund, goInt]) (hn _ _ _ _ hK hr (.int _ _) (Stp.refl _ _))
      · exact h.elim
    · -- append
      rename_i hcal
      split at h
      · rename_i x y t t' hx ht
        obtain ⟨rfl, s, b_, z, hs, hb, hz, hzl, h⟩ := h
        obtain ⟨u, u', hu, hxr, hyr⟩ := two_args he hx
        obtain ⟨v, H', r, w', hK, hr', hrv, hst, hrun⟩ := aAppend_sound (ty := o.type) hs hb hz hzl hr hxr hyr h
        exact wp_val (v := r) (w' := w') (by simp [execOp, ho, resolve, hcal, hu, invoke, builtin, types_two ht, hrun]) (hn _ _ _ _ hK hr' hrv hst)
      · exact h.elim
    · -- copy
      rename_i hcal
      split at h
      · rename_i x y t t' hx ht
        obtain ⟨hs, h⟩ := h
        obtain ⟨u, u', hu, hxr, hyr⟩ := two_args he hx
        obtain ⟨v, H', r, w', hK, hr', hrv, hst, hrun⟩ := aCopy_sound (t' := t') (ty := o.type) hs hr hxr hyr h
        exact wp_val (v := r) (w' := w') (by simp [execOp, ho, resolve, hcal, hu, invoke, builtin, types_two ht, hrun]) (hn _ _ _ _ hK hr' hrv hst)
      · exact h.elim
    · rename_i hcal
      unfold aMax at h
      split at h
      · rename_i k x k' y hx
        obtain ⟨u, u', hu, hxr, hyr⟩ := two_args he hx
        obtain ⟨rfl, hK⟩ := h
        cases hxr; cases hyr
        exact wp_val (v := .int k (if y > x then y else x)) (w' := w) (by simp [execOp, ho, resolve, hcal, hu, invoke, builtin, run_max_int2]) (hn _ _ _ _ hK hr (.int _ _) (Stp.refl _ _))
      · exact h.elim
    · rename_i hcal
      unfold aMin at h
      split at h
      · rename_i k x k' y hx
        obtain ⟨u, u', hu, hxr, hyr⟩ := two_args he hx
        obtain ⟨rfl, hK⟩ := h
        cases hxr; cases hyr
        exact wp_val (v := .int k (if y < x then y else x)) (w' := w) (by simp [execOp, ho, resolve, hcal, hu, invoke, builtin, run_min_int2]) (hn _ _ _ _ hK hr (.int _ _) (Stp.refl _ _))
      · exact h.elim
    · -- a call
      rename_i f hcal
      split at h
      · rename_i g caps hf
        obtain ⟨hcb, h⟩ := h
        obtain ⟨fn, hfn, hbody, hname⟩ := callable_spec hcb
        have hfr := he.ev f
        rw [hf] at hfr
        generalize hfv : a.eval f = fv at hfr
        cases hfr with
        | fn _ _ vs hl hv =>
        have hargs := (args_map he c.args).app (us := vs.toList) ⟨by rw [hl, Array.length_toList], fun i c v hc hv' => hv i c v hc (by simpa using hv')⟩
        have hC := h w (c.args.map a.eval ++ vs) hr (by simpa using hargs)
        have hent : (execOp a.eval o).run P w = .ok (.enter g (c.args.map a.eval ++ vs)) w := by
          simp [execOp, ho, resolve, hcal, hfv, Deferred.ofValue, invoke, callFunc, hfn, hbody, hname]
        unfold Oper.wp
        rw [hent, Oper.upon_enter]
        refine hC.mono fun e' w' hq => ?_
        obtain ⟨v, r, H', rfl, hK, hr', hrv, hst⟩ := hq
        exact hn _ _ _ _ hK hr' hrv hst
      · exact h.elim
    · exact h.elim

end
end Go.Proofs.YtbkpebmcagdgmaaGreat.AM
/-! Operations that only compute or read: what they come to is one value; the heap may grow beside them; operands that are not theirs do not matter. -/
namespace Go.Proofs.YtbkpebmcagdgmaaGreat.AM
open Go Go.RowKit
set_option linter.unusedVariables false
set_option linter.unusedSimpArgs false

/-- It writes, makes or calls. -/
def isW : Op → Bool
  | .alloc _ | .box .. | .buildSlice .. | .makeSlice .. | .store .. => true
  | .call c => match c.callee with
    | .builtin .len | .builtin .max | .builtin .min => false
    | _ => true
  | _ => false
/-- It makes a block and does nothing else. -/
def isAl : Op → Bool
  | .alloc _ | .box .. | .buildSlice .. | .makeSlice .. => true
  | _ => false
def isR : Op → Bool
  | .load .. => true
  | _ => false

section
variable {P : Program} {e : Env} {H : AH}

theorem aBin_det {op : BinOp} {x y : AV} {K : AV → Prop} (h : aBin op x y K) : ∃ v, K v ∧ ∀ K' : AV → Prop, K' v → aBin op x y K' := by
  unfold aBin at h
  split at h <;> first
    | exact h.elim
    | exact ⟨_, h.2, fun K' hk => ⟨h.1, hk⟩⟩
    | exact ⟨_, h.2.2, fun K' hk => ⟨h.1, h.2.1, hk⟩⟩
theorem aEq_det {t : TypeId} {op : BinOp} {x y : AV} {K : AV → Prop} (h : aEq P t op x y K) : ∃ v, K v ∧ ∀ K' : AV → Prop, K' v → aEq P t op x y K' := by
  unfold aEq at h
  split at h <;> first
    | exact h.elim
    | exact ⟨_, h.2, fun K' hk => ⟨h.1, hk⟩⟩
theorem aUn_det {op : UnOp} {x : AV} {K : AV → Prop} (h : aUn op x K) : ∃ v, K v ∧ ∀ K' : AV → Prop, K' v → aUn op x K' := by
  unfold aUn at h
  split at h <;> first
    | exact h.elim
    | exact ⟨_, h, fun K' hk => hk⟩
theorem aMax_det {l : List AV} {K : AV → Prop} (h : aMax l K) : ∃ v, K v ∧ ∀ K' : AV → Prop, K' v → aMax l K' := by
  unfold aMax at h
  split at h
  · exact ⟨_, h.2, fun K' hk => ⟨h.1, hk⟩⟩
  · exact h.elim
theorem aMin_det {l : List AV} {K : AV → Prop} (h : aMin l K) : ∃ v, K v ∧ ∀ K' : AV → Prop, K' v → aMin l K' := by
  unfold aMin at h
  split at h
  · exact ⟨_, h.2, fun K' hk => ⟨h.1, hk⟩⟩
  · exact h.elim
theorem aSlice_det {s : Nat} {x : AV} {lo hi mx : Option AV} {K : AV → Prop} (h : aSlice s x lo hi mx K) : ∃ v, K v ∧ ∀ K' : AV → Prop, K' v → aSlice s x lo hi mx K' := by
  unfold aSlice at h
  split at h
  · obtain ⟨l, hh, h1, h2, h3, h4, h5⟩ := h
    cases mx with
    | none => exact ⟨_, h5, fun K' hk => ⟨l, hh, h1, h2, h3, h4, hk⟩⟩
    | some v =>
      obtain ⟨m, k, e1, e2, e3, e4, e5⟩ := h5
      exact ⟨_, e5, fun K' hk => ⟨l, hh, h1, h2, h3, h4, m, k, e1, e2, e3, e4, hk⟩⟩
  · exact ⟨_, h.2.2.2, fun K' hk => ⟨h.1, h.2.1, h.2.2.1, hk⟩⟩
  · exact h.elim

/-- The operation comes to v here, whatever is wanted of it. -/
def Yields (P : Program) (e : Env) (H : AH) (op : Op) (v : AV) : Prop := ∀ K : AV → AH → Prop, K v H → aop P e H K op

theorem det {op : Op} (hw : isW op = false) {K : AV → AH → Prop} (h : aop P e H K op) : ∃ v, K v H ∧ Yields P e H op v := by
  cases op with
  | move x => exact ⟨_, h, fun K hk => hk⟩
  | assign x => exact ⟨_, h, fun K hk => hk⟩
  | pick c a b =>
    simp only [aop] at h
    split at h
    · rename_i t ht
      exact ⟨_, h, fun K hk => by simp only [aop, ht]; exact hk⟩
    · exact h.elim
  | binOp op t x y ty =>
    have e1 : (∃ v, K v H ∧ ∀ K' : AV → Prop, K' v → (match ev e x with
      | .int k a => aBin op (.int k a) (ev e y) K'
      | v => aEq P t op v (ev e y) K')) → (op = .eql ∨ op = .neq) → ∃ v, K v H ∧ Yields P e H (.binOp op t x y ty) v := by
      rintro ⟨v, hv, hy⟩ hop
      refine ⟨v, hv, fun K' hk => ?_⟩
      have := hy (fun u => K' u H) hk
      rcases hop with rfl | rfl <;> exact this
    have e2 : (∃ v, K v H ∧ ∀ K' : AV → Prop, K' v → aBin op (ev e x) (ev e y) K') → (∀ K', aop P e H K' (.binOp op t x y ty) = aBin op (ev e x) (ev e y) fun v => K' v H) → ∃ v, K v H ∧ Yields P e H (.binOp op t x y ty) v := by
      rintro ⟨v, hv, hy⟩ hop
      exact ⟨v, hv, fun K' hk => by rw [hop]; exact hy (fun u => K' u H) hk⟩
    have e3 : (match ev e x with
      | .int k a => aBin op (.int k a) (ev e y) fun v => K v H
      | v => aEq P t op v (ev e y) fun v => K v H) → ∃ v, K v H ∧ ∀ K' : AV → Prop, K' v → (match ev e x with
      | .int k a => aBin op (.int k a) (ev e y) K'
      | v => aEq P t op v (ev e y) K') := by
      intro h
      split at h
      · exact aBin_det h
      · exact aEq_det h
    cases op <;> first | exact e1 (e3 h) (.inl rfl) | exact e1 (e3 h) (.inr rfl) | exact e2 (aBin_det h) (fun _ => rfl)
  | unOp op t x =>
    have h' : aUn op (ev e x) (fun v => K v H) := h
    obtain ⟨v, hv, hy⟩ := aUn_det h'
    exact ⟨v, hv, fun K hk => hy (fun u => K u H) hk⟩
  | convert s d x =>
    simp only [aop] at h
    split at h
    · rename_i k k' n h1 h2
      exact ⟨_, h.2, fun K hk => by simp only [aop, h1, h2]; exact ⟨h.1, hk⟩⟩
    · exact h.elim
  | load t x =>
    simp only [aop] at h
    split at h
    · rename_i b o hx
      obtain ⟨v, hv, hk⟩ := h
      exact ⟨v, hk, fun K hk => by simp only [aop, hx]; exact ⟨v, hv, hk⟩⟩
    · exact h.elim
  | nilCheck x =>
    simp only [aop] at h
    split at h
    · rename_i b o hx
      exact ⟨_, h, fun K hk => by simp only [aop, hx]; exact hk⟩
    · rename_i f cs hx
      exact ⟨_, h, fun K hk => by simp only [aop, hx]; exact hk⟩
    · exact h.elim
  | fieldAddr s x f =>
    simp only [aop] at h
    split at h
    · rename_i b o hx
      obtain ⟨d, hd, hk⟩ := h
      exact ⟨_, hk, fun K hk => by simp only [aop, hx]; exact ⟨d, hd, hk⟩⟩
    · exact h.elim
  | indexAddr t x i =>
    simp only [aop] at h
    split at h
    · rename_i b o n c k j hx hi
      obtain ⟨s, hs, h0, h1, hk⟩ := h
      exact ⟨_, hk, fun K hk => by simp only [aop, hx, hi]; exact ⟨s, hs, h0, h1, hk⟩⟩
    · exact h.elim
  | slice t x lo hi mx =>
    obtain ⟨s, hs, h⟩ := h
    obtain ⟨v, hv, hy⟩ := aSlice_det h
    exact ⟨v, hv, fun K hk => ⟨s, hs, hy (fun u => K u H) hk⟩⟩
  | build t parts =>
    obtain ⟨z, pl, cs, h1, h2, h3, hk⟩ := h
    exact ⟨_, hk, fun K hk => ⟨z, pl, cs, h1, h2, h3, hk⟩⟩
  | makeFunc fn first captured =>
    cases fn with
    | func f => exact ⟨_, h.2, fun K hk => ⟨h.1, hk⟩⟩
    | _ => exact h.elim
  | extract x i =>
    simp only [aop] at h
    split at h
    · rename_i vs hx
      obtain ⟨v, hv, hk⟩ := h
      exact ⟨v, hk, fun K hk => by simp only [aop, hx]; exact ⟨v, hv, hk⟩⟩
    · exact h.elim
  | call c =>
    simp only [aop] at h
    split at h
    · rename_i hc
      split at h
      · rename_i b o n k t h1 h2
        exact ⟨_, h.2, fun K hk => by simp only [aop, hc, h1, h2]; exact ⟨h.1, hk⟩⟩
      · rename_i t h1 h2
        exact ⟨_, h.2, fun K hk => by simp only [aop, hc, h1, h2]; exact ⟨h.1, hk⟩⟩
      · exact h.elim
    · rename_i hc; simp [isW, hc] at hw
    · rename_i hc; simp [isW, hc] at hw
    · rename_i hc
      obtain ⟨v, hv, hy⟩ := aMax_det h
      exact ⟨v, hv, fun K hk => by simp only [aop, hc]; exact hy (fun u => K u H) hk⟩
    · rename_i hc
      obtain ⟨v, hv, hy⟩ := aMin_det h
      exact ⟨v, hv, fun K hk => by simp only [aop, hc]; exact hy (fun u => K u H) hk⟩
    · rename_i f hc; simp [isW, hc] at hw
    · exact h.elim
  | alloc t => simp [isW] at hw
  | box t x => simp [isW] at hw
  | buildSlice t l p => simp [isW] at hw
  | makeSlice t l c => simp [isW] at hw
  | store t x y => simp [isW] at hw
  | _ => exact h.elim

/-- What does not load is blind to the heap. -/
theorem Yields.blind {op : Op} (hw : isW op = false) (hR : isR op = false) {v : AV} (h : Yields P e H op v) (H' : AH) : Yields P e H' op v := by
  intro K hk
  have h1 := h (fun u _ => K u H') hk
  cases op with
  | load t x => simp [isR] at hR
  | alloc t => simp [isW] at hw
  | box t x => simp [isW] at hw
  | buildSlice t l p => simp [isW] at hw
  | makeSlice t l c => simp [isW] at hw
  | store t x y => simp [isW] at hw
  | call c =>
    simp only [aop] at h1 ⊢
    split at h1
    · rename_i hc; exact h1
    · rename_i hc; simp [isW, hc] at hw
    · rename_i hc; simp [isW, hc] at hw
    · rename_i hc; exact h1
    · rename_i hc; exact h1
    · rename_i f hc; simp [isW, hc] at hw
    · exact h1.elim
  | makeFunc fn first captured => cases fn <;> exact h1
  | binOp op t x y ty => cases op <;> exact h1
  | _ => exact h1

/-- More is asked of what comes behind: nothing else changes. -/
theorem aop_mono {op : Op} {K K' : AV → AH → Prop} (hk : ∀ v H', K v H' → K' v H') (h : aop P e H K op) : aop P e H K' op := by
  by_cases hw : isW op = false
  · obtain ⟨v, hv, hy⟩ := det hw h
    exact hy K' (hk _ _ hv)
  · cases op with
    | alloc t => obtain ⟨z, hz, h⟩ := h; exact ⟨z, hz, fun b hb => hk _ _ (h b hb)⟩
    | box t x => exact ⟨h.1, fun b hb => hk _ _ (h.2 b hb)⟩
    | buildSlice t l p => obtain ⟨s, z, cs, h1, h2, h3, h4, h5, h6, h⟩ := h; exact ⟨s, z, cs, h1, h2, h3, h4, h5, h6, fun b hb => hk _ _ (h b hb)⟩
    | makeSlice t l c =>
      simp only [aop] at h ⊢
      split at h
      · obtain ⟨s, z, b_, h1, h2, h3, h4, h5, h6, h7, h8, h9, h⟩ := h
        exact ⟨s, z, b_, h1, h2, h3, h4, h5, h6, h7, h8, h9, fun b hb => hk _ _ (h b hb)⟩
      · exact h.elim
    | store t x y =>
      simp only [aop] at h ⊢
      split at h
      · obtain ⟨xs, h1, h2, h3, h4, h5, h6⟩ := h
        exact ⟨xs, h1, h2, h3, h4, h5, hk _ _ h6⟩
      · exact h.elim
    | call c =>
      simp only [aop] at h ⊢
      split at h
      · rename_i hc; simp [isW, hc] at hw
      · rename_i hc
        split at h
        · rename_i x y t t' h1 h2
          obtain ⟨e0, s, b_, z, e1, e2, e3, e4, ys, g1, g2, g3, g4, g5, h⟩ := h
          refine ⟨e0, s, b_, z, e1, e2, e3, e4, ys, g1, g2, g3, g4, g5, ?_⟩
          split at h
          · exact ⟨fun q => hk _ _ (h.1 q), fun q b hb => hk _ _ (h.2 q b hb)⟩
          · obtain ⟨q1, xs, q2, q3, q4, h⟩ := h
            exact ⟨q1, xs, q2, q3, q4, fun b hb => hk _ _ (h b hb)⟩
          · obtain ⟨xs, q1, q2, q3⟩ := h
            exact ⟨xs, q1, fun a b => hk _ _ (q2 a b), fun a => ⟨(q3 a).1, fun b hb => hk _ _ ((q3 a).2 b hb)⟩⟩
          · exact h.elim
        · exact h.elim
      · rename_i hc
        split at h
        · rename_i x y t t' h1 h2
          obtain ⟨hs, h⟩ := h
          refine ⟨hs, ?_⟩
          unfold aCopy at h ⊢
          split at h
          · obtain ⟨xs, ys, g1, g2, g3, g4, g5⟩ := h
            exact ⟨xs, ys, g1, g2, g3, g4, hk _ _ g5⟩
          · exact h.elim
        · exact h.elim
      · rename_i hc; simp [isW, hc] at hw
      · rename_i hc; simp [isW, hc] at hw
      · rename_i f hc
        split at h
        · rename_i g caps hf
          exact ⟨h.1, fun w as hr hv => (h.2 w as hr hv).mono fun e' w' ⟨v, r, H', q1, q2, q3⟩ => ⟨v, r, H', q1, hk _ _ q2, q3⟩⟩
        · exact h.elim
      · exact h.elim
    | _ => simp [isW] at hw

theorem AC.mono {f : FuncId} {args : List AV} {Q Q' : AV → AH → Prop} (h : AC P f args H Q) (hq : ∀ r H', Q r H' → Q' r H') : AC P f args H Q' :=
  ⟨h.1, fun w as hr hv => (h.2 w as hr hv).mono fun e' w' ⟨v, r, H', q1, q2, q3⟩ => ⟨v, r, H', q1, hq _ _ q2, q3⟩⟩

/-! ### a block beside -/
theorem upd_comm (H : AH) {b c : Nat} (h : b ≠ c) (s t : Slot) : (H.upd b s).upd c t = (H.upd c t).upd b s := by
  funext i
  by_cases h1 : i = b <;> by_cases h2 : i = c <;> simp_all [AH.upd]

theorem cell_upd {b i o : Nat} (hb : H b = .free) (s : Slot) {v : AV} (h : H.cell i o = some v) : (H.upd b s).cell i o = some v := by
  have hne : i ≠ b := by rintro rfl; simp [AH.cell, hb] at h
  simpa [AH.cell, upd_ne _ _ hne] using h
theorem cellsAt_upd {b i : Nat} (hb : H b = .free) (s : Slot) : ∀ (n o : Nat) (cs : List AV), H.cellsAt i o n = some cs → (H.upd b s).cellsAt i o n = some cs
  | 0, o, cs, h => h
  | n + 1, o, cs, h => by
    simp only [AH.cellsAt] at h ⊢
    cases hc : H.cell i o with
    | none => simp [hc] at h
    | some v =>
      simp only [hc] at h
      rw [cell_upd hb s hc]
      cases hr : H.cellsAt i (o + 1) n with
      | none => simp [hr] at h
      | some rest => simp only [hr] at h; simp only [cellsAt_upd hb s n (o + 1) rest hr]; exact h
theorem loadT_upd {t : TypeId} {b i o : Nat} (hb : H b = .free) (s : Slot) {v : AV} (h : loadT P t H i o = some v) : loadT P t (H.upd b s) i o = some v := by
  unfold loadT at h ⊢
  split at h
  · rename_i hA
    cases hs : szT P t with
    | none => simp [hs] at h
    | some n =>
      simp only [hs, Option.bind_some] at h ⊢
      cases hc : H.cellsAt i o n with
      | none => simp [hc] at h
      | some cs => rw [cellsAt_upd hb s n o cs hc]; rw [hc] at h; exact h
  · rename_i hA; exact cell_upd hb s h
  · cases h
theorem slCells_upd {s : Nat} {x : AV} {b : Nat} (hb : H b = .free) (sl : Slot) {cs : List AV} (h : slCells H s x = some cs) : slCells (H.upd b sl) s x = some cs := by
  unfold slCells at h ⊢
  split at h
  · exact cellsAt_upd hb sl _ _ _ h
  · exact h
  · cases h

theorem Yields.upd {op : Op} (hw : isW op = false) {v : AV} (h : Yields P e H op v) {b : Nat} (hb : H b = .free) (s : Slot) : Yields P e (H.upd b s) op v := by
  by_cases hR : isR op = false
  · exact h.blind hw hR _
  · cases op <;> simp [isR] at hR
    case load t x =>
      intro K hk
      have h1 := h (fun u _ => u = v) rfl
      simp only [aop] at h1 ⊢
      split at h1
      · rename_i i o hx
        obtain ⟨u, hu, rfl⟩ := h1
        exact ⟨_, loadT_upd hb s hu, hk⟩
      · exact h1.elim

/-- THE FRAME: a block that was not there before is none of the operation's business. -/
theorem frame {op : Op} {Q : AV → AH → Prop} (h : aop P e H Q op) {b : Nat} (hb : H b = .free) (cs : List AV) :
    aop P e (H.upd b (.rw cs)) (fun v H2 => ∃ H1, Q v H1 ∧ H1 b = .free ∧ H2 = H1.upd b (.rw cs)) op := by
  have fr : ∀ {i : Nat}, (H.upd b (.rw cs)) i = .free → i ≠ b ∧ H i = .free := by
    intro i hi
    have hne : i ≠ b := by rintro rfl; simp [upd_same] at hi
    exact ⟨hne, by rwa [upd_ne _ _ hne] at hi⟩
  have new : ∀ {zs : List AV} {K : Nat → AH → Prop} {K' : Nat → AH → Prop}, aNew H zs K → (∀ i H1, K i H1 → H1 b = .free → K' i (H1.upd b (.rw cs))) → aNew (H.upd b (.rw cs)) zs K' := by
    intro zs K K' hn hk i hi
    obtain ⟨hne, hf⟩ := fr hi
    rw [upd_comm _ (Ne.symm hne)]
    exact hk _ _ (hn i hf) (by rw [upd_ne _ _ (Ne.symm hne)]; exact hb)
  by_cases hw : isW op = false
  · obtain ⟨v, hv, hy⟩ := det hw h
    exact (hy.upd hw hb _) _ ⟨H, hv, hb, rfl⟩
  · cases op with
    | alloc t => obtain ⟨z, hz, h⟩ := h; exact ⟨z, hz, new h fun i H1 q1 q2 => ⟨H1, q1, q2, rfl⟩⟩
    | box t x => exact ⟨h.1, new h.2 fun i H1 q1 q2 => ⟨H1, q1, q2, rfl⟩⟩
    | buildSlice t l p => obtain ⟨s, z, cs', h1, h2, h3, h4, h5, h6, h⟩ := h; exact ⟨s, z, cs', h1, h2, h3, h4, h5, h6, new h fun i H1 q1 q2 => ⟨H1, q1, q2, rfl⟩⟩
    | makeSlice t l c =>
      simp only [aop] at h ⊢
      split at h
      · obtain ⟨s, z, b_, h1, h2, h3, h4, h5, h6, h7, h8, h9, h⟩ := h
        exact ⟨s, z, b_, h1, h2, h3, h4, h5, h6, h7, h8, h9, new h fun i H1 q1 q2 => ⟨H1, q1, q2, rfl⟩⟩
      · exact h.elim
    | store t x y =>
      simp only [aop] at h ⊢
      split at h
      · rename_i i o hx
        obtain ⟨xs, h1, h2, h3, h4, h5, h6⟩ := h
        have hne : i ≠ b := by rintro rfl; rw [hb] at h1; cases h1
        refine ⟨xs, by rw [upd_ne _ _ hne]; exact h1, h2, h3, h4, h5, _, h6, by rw [upd_ne _ _ (Ne.symm hne)]; exact hb, upd_comm _ (Ne.symm hne) _ _⟩
      · exact h.elim
    | call c =>
      simp only [aop] at h ⊢
      split at h
      · rename_i hc; simp [isW, hc] at hw
      · rename_i hc
        split at h
        · rename_i x y t t' h1 h2
          obtain ⟨e0, s, b_, z, e1, e2, e3, e4, ys, g1, g2, g3, g4, g5, h⟩ := h
          refine ⟨e0, s, b_, z, e1, e2, e3, e4, ys, slCells_upd hb _ g1, g2, g3, g4, g5, ?_⟩
          split at h
          · refine ⟨fun q => ⟨H, h.1 q, hb, rfl⟩, fun q i hi => ?_⟩
            obtain ⟨hne, hf⟩ := fr hi
            exact ⟨_, h.2 q i hf, by rw [upd_ne _ _ (Ne.symm hne)]; exact hb, upd_comm _ (Ne.symm hne) _ _⟩
          · rename_i b0 o0 n0 s0
            obtain ⟨q1, xs, q2, q3, q4, h⟩ := h
            have hne0 : b0 ≠ b := by rintro rfl; rw [hb] at q2; cases q2
            refine ⟨q1, xs, by rw [upd_ne _ _ hne0]; exact q2, q3, q4, fun i hi => ?_⟩
            have hi' : i ≠ b ∧ (i = b0 ∨ H i = .free) := by
              rcases hi with rfl | hi
              · exact ⟨hne0, .inl rfl⟩
              · exact ⟨(fr hi).1, .inr (fr hi).2⟩
            refine ⟨_, h i hi'.2, by rw [upd_ne _ _ (Ne.symm hi'.1), upd_ne _ _ (Ne.symm hne0)]; exact hb, ?_⟩
            rw [upd_comm H (Ne.symm hne0), upd_comm _ (Ne.symm hi'.1)]
          · obtain ⟨xs, q1, q2, q3⟩ := h
            refine ⟨xs, cellsAt_upd hb _ _ _ _ q1, fun a c => ⟨H, q2 a c, hb, rfl⟩, fun a => ⟨(q3 a).1, fun i hi => ?_⟩⟩
            obtain ⟨hne, hf⟩ := fr hi
            exact ⟨_, (q3 a).2 i hf, by rw [upd_ne _ _ (Ne.symm hne)]; exact hb, upd_comm _ (Ne.symm hne) _ _⟩
          · exact h.elim
        · exact h.elim
      · rename_i hc
        split at h
        · rename_i x y t t' h1 h2
          obtain ⟨hs, h⟩ := h
          refine ⟨hs, ?_⟩
          unfold aCopy at h ⊢
          split at h
          · rename_i b0 o0 n0 c0
            obtain ⟨xs, ys, g1, g2, g3, g4, g5⟩ := h
            have hne0 : b0 ≠ b := by rintro rfl; rw [hb] at g1; cases g1
            exact ⟨xs, ys, by rw [upd_ne _ _ hne0]; exact g1, g2, slCells_upd hb _ g3, g4, _, g5, by rw [upd_ne _ _ (Ne.symm hne0)]; exact hb, upd_comm _ (Ne.symm hne0) _ _⟩
          · exact h.elim
        · exact h.elim
      · rename_i hc; simp [isW, hc] at hw
      · rename_i hc; simp [isW, hc] at hw
      · rename_i f hc
        split at h
        · rename_i g caps hf
          refine ⟨h.1, fun w as hr hv => ?_⟩
          have hbw : b < w.heap.size := not_free_lt hr (by rw [upd_same]; simp)
          have hr0 : Rep H w := by
            refine ⟨fun i hi => ?_, fun i o v hc => ?_, fun i xs hx => ?_⟩
            · have := hr.fresh i hi
              exact (fr this).2
            · exact hr.cell i o v (cell_upd hb _ hc)
            · have hne : i ≠ b := by rintro rfl; rw [hb] at hx; cases hx
              exact hr.own i xs (by rw [upd_ne _ _ hne]; exact hx)
          refine (h.2 w as hr0 hv).mono fun e' w' ⟨v, r, H', q1, q2, q3, q4, q5⟩ => ?_
          have hbf : H' b = .free := q5.free b hbw hb
          have hkeep : w'.heap[b]? = w.heap[b]? := q5.keep b hbw (by rw [hb]; simp)
          refine ⟨v, r, H'.upd b (.rw cs), q1, ⟨H', q2, hbf, rfl⟩, ?_, q4, ?_⟩
          · refine ⟨fun i hi => ?_, fun i o u hc => ?_, fun i xs hx => ?_⟩
            · have hne : i ≠ b := by have := q5.pres.1; omega
              rw [upd_ne _ _ hne]; exact q3.fresh i hi
            · by_cases hne : i = b
              · subst hne
                obtain ⟨arr, ty, fr', u', p1, p2, p3⟩ := hr.cell i o u (by simpa [AH.cell, upd_same] using hc)
                exact ⟨arr, ty, fr', u', hkeep.trans p1, p2, p3.mono q5.pres⟩
              · exact q3.cell i o u (by simpa [AH.cell, upd_ne _ _ hne] using hc)
            · by_cases hne : i = b
              · subst hne
                rw [upd_same] at hx
                obtain ⟨arr, ty, p1, p2⟩ := hr.own i xs (by rw [upd_same]; exact hx)
                exact ⟨arr, ty, hkeep.trans p1, p2⟩
              · exact q3.own i xs (by rw [upd_ne _ _ hne] at hx; exact hx)
          · refine ⟨q5.os, q5.tape, q5.output, q5.pres, fun i hi hn => ?_, fun i hi hf => ?_, fun i hi hn xs => ?_⟩
            · have hne : i ≠ b := by rintro rfl; exact hn cs (upd_same _ _ _)
              exact q5.keep i hi fun xs => by have := hn xs; rwa [upd_ne _ _ hne] at this
            · obtain ⟨hne, hf'⟩ := fr hf
              rw [upd_ne _ _ hne]; exact q5.free i hi hf'
            · have hne : i ≠ b := by rintro rfl; exact hn cs (upd_same _ _ _)
              rw [upd_ne _ _ hne]
              exact q5.rw_ i hi (fun xs => by have := hn xs; rwa [upd_ne _ _ hne] at this) xs
        · exact h.elim
      · exact h.elim
    | _ => simp [isW] at hw

/-! ### other operands -/
theorem map_ev {e e' : Env} {l : List Operand} (h : ∀ x ∈ l, ev e x = ev e' x) : l.map (ev e) = l.map (ev e') := List.map_congr_left h
theorem omap_ev {e e' : Env} {x : Option Operand} (h : ∀ y, x = some y → ev e y = ev e' y) : x.map (ev e) = x.map (ev e') := by
  cases x with
  | none => rfl
  | some y => simp [h y rfl]

theorem aop_congr {e' : Env} {op : Op} {K : AV → AH → Prop} (h : ∀ x ∈ op.operands, ev e x = ev e' x) : aop P e H K op = aop P e' H K op := by
  cases op with
  | binOp op t x y ty =>
    have hx := h x (by simp [Op.operands])
    have hy := h y (by simp [Op.operands])
    simp only [aop, hx, hy]
  | pick c a b =>
    have h1 := h c (by simp [Op.operands])
    have h2 := h a (by simp [Op.operands])
    have h3 := h b (by simp [Op.operands])
    simp only [aop, h1, h2, h3]
  | build t ps =>
    have : (ps.toList.map fun p => (p.1, ev e p.2)) = ps.toList.map fun p => (p.1, ev e' p.2) := List.map_congr_left fun p hp => by
      have := h p.2 (by simp only [Op.operands, List.mem_toArray, List.mem_map]; exact ⟨p, hp, rfl⟩)
      simp only [this]
    simp only [aop, this]
  | buildSlice t n ps =>
    have : (ps.toList.map fun p => (p.1, ev e p.2)) = ps.toList.map fun p => (p.1, ev e' p.2) := List.map_congr_left fun p hp => by
      have := h p.2 (by simp only [Op.operands, List.mem_toArray, List.mem_map]; exact ⟨p, hp, rfl⟩)
      simp only [this]
    simp only [aop, this]
  | makeFunc fn first captured =>
    have : captured.toList.map (ev e) = captured.toList.map (ev e') := map_ev fun x hx => h x (by simp only [Op.operands, Array.mem_append]; exact .inr (Array.mem_toList_iff.1 hx))
    cases fn <;> simp only [aop, this]
  | slice t x lo hi mx =>
    have h1 := h x (by simp [Op.operands])
    have h2 : lo.map (ev e) = lo.map (ev e') := omap_ev fun y hy => h y (by subst hy; simp [Op.operands])
    have h3 : hi.map (ev e) = hi.map (ev e') := omap_ev fun y hy => h y (by subst hy; simp [Op.operands])
    have h4 : mx.map (ev e) = mx.map (ev e') := omap_ev fun y hy => h y (by subst hy; simp [Op.operands])
    simp only [aop, h1, h2, h3, h4]
  | call c =>
    have h1 : c.args.toList.map (ev e) = c.args.toList.map (ev e') := map_ev fun x hx => h x (by simp only [Op.operands, Call.operands, Array.mem_append]; exact .inr (Array.mem_toList_iff.1 hx))
    have h2 : ∀ f, c.callee = .value f → ev e f = ev e' f := fun f hf => h f (by simp [Op.operands, Call.operands, hf])
    simp only [aop]
    rw [h1]
    split
    · rfl
    · rfl
    · rfl
    · rfl
    · rfl
    · rename_i f hf; rw [h2 f hf]
    · rfl
  | move x => simp only [aop, h x (by simp [Op.operands])]
  | assign x => simp only [aop, h x (by simp [Op.operands])]
  | box t x => simp only [aop, h x (by simp [Op.operands])]
  | load t x => simp only [aop, h x (by simp [Op.operands])]
  | nilCheck x => simp only [aop, h x (by simp [Op.operands])]
  | unOp o t x => simp only [aop, h x (by simp [Op.operands])]
  | convert s d x => simp only [aop, h x (by simp [Op.operands])]
  | fieldAddr s x f => simp only [aop, h x (by simp [Op.operands])]
  | extract x i => simp only [aop, h x (by simp [Op.operands])]
  | store t x y => simp only [aop, h x (by simp [Op.operands]), h y (by simp [Op.operands])]
  | makeSlice t x y => simp only [aop, h x (by simp [Op.operands]), h y (by simp [Op.operands])]
  | indexAddr t x y => simp only [aop, h x (by simp [Op.operands]), h y (by simp [Op.operands])]
  | alloc t => rfl
  | _ => rfl

end
end Go.Proofs.YtbkpebmcagdgmaaGreat.AM
