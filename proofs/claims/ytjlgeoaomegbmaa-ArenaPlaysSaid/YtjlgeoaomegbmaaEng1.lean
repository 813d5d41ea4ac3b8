/- Symbolic execution over the model: slots, tracked blocks, what a cell holds. Definitions alone; no condition. -/
import Derived.Orders
import Derived.Below
import Derived.Laws.AppendOwn
import Derived.Laws.AppendOwnNone
import Derived.Laws.MakeOwn
import Derived.Laws.Rows
import Derived.Laws.Slices
import Derived.Laws.Entries
import Derived.Laws.World
import Derived.Laws.Unary
import Derived.Laws.Small
namespace Go.Proofs.Ytjlgeoaomegbmaa.Eng
open Go Go.RowKit
set_option autoImplicit false

/-- What one cell holds: a plain value; a pointer into a tracked block; a slice over a tracked row; a pointer to a cell of a tracked row; unknown. -/
inductive C where
  | v (x : Value)
  | loc (id b off : Nat)
  | sl (id : Nat) (A : Option Addr) (n c : Nat)
  | el (id : Nat) (A : Option Addr) (k : Nat)
  | any

def C.den : C → Value
  | .v x => x
  | .loc _ b off => .pointer (some ⟨b, off, none⟩)
  | .sl _ A n c => .slice A n c
  | .el _ A k => .pointer (some ((A.getD ⟨0, 0, none⟩).add k))
  | .any => undef

def C.ids : C → List Nat
  | .loc i _ _ => [i]
  | .sl i _ _ _ => [i]
  | .el i _ _ => [i]
  | _ => []

/-- The number under which the nil slice's (empty) row is looked up. -/
def nilId : Nat := 1000000

def cOf : Value → C
  | .slice none 0 0 => .sl nilId none 0 0
  | x => .v x
theorem den_cOf (x : Value) : (cOf x).den = x := by
  unfold cOf
  split <;> rfl

/-- What a slot holds. -/
inductive SV where
  | c (x : C)
  | agg (l : List C)
  | tup (l : List SV)

def SV.den0 : SV → Value
  | .c x => x.den
  | .agg l => .agg (l.map C.den).toArray
  | .tup _ => undef
def SV.den : SV → Value
  | .tup l => .tuple (l.map SV.den0).toArray
  | .c x => x.den
  | .agg l => .agg (l.map C.den).toArray
def SV.ids0 : SV → List Nat
  | .c x => x.ids
  | .agg l => l.flatMap C.ids
  | .tup _ => []
def SV.ids : SV → List Nat
  | .tup l => l.flatMap SV.ids0
  | .c x => x.ids
  | .agg l => l.flatMap C.ids
/-- A value's cells; none: unknown, or no value of a variable. -/
def SV.cells? : SV → Option (List C)
  | .c .any => none
  | .c x => some [x]
  | .agg l => some l
  | .tup _ => none
def SV.known : SV → Bool
  | .c .any => false
  | _ => true

def svOf : Value → SV
  | .agg cs => .agg (cs.toList.map cOf)
  | x => .c (cOf x)
theorem cOf_any (x : Value) : cOf x ≠ .any := by
  unfold cOf
  split <;> simp
theorem svOf_known (x : Value) : (svOf x).known = true := by
  unfold svOf
  split
  · rfl
  · have := cOf_any x
    unfold SV.known
    split
    · rename_i h; injection h with h; exact absurd h this
    · rfl
theorem map_den_cOf (l : List Value) : (l.map cOf).map C.den = l := by
  rw [List.map_map]
  induction l with
  | nil => rfl
  | cons x r ih => rw [List.map_cons, ih]; simp [den_cOf]
theorem den_svOf (x : Value) : (svOf x).den = x := by
  unfold svOf
  split
  · rename_i cs
    simp only [SV.den, map_den_cOf]
  · exact den_cOf x

/-- A tracked thing: a block known whole; a row of the run's own (a slice's value may grow in it); a row that is only read. -/
inductive Ent where
  | blk (b t : Nat) (cs : List C)
  | row (A : Option Addr) (c t size n : Nat) (xs : List C)
  | rd (A : Option Addr) (size n : Nat) (xs : List C)

def Ent.block : Ent → Option Nat
  | .blk b _ _ => some b
  | .row A c _ _ _ _ => if c = 0 then none else A.map (·.block)
  | .rd A _ _ xs => if xs = [] then none else A.map (·.block)
def Ent.mut : Ent → Bool
  | .rd .. => false
  | _ => true

def ok1 (l : List C) : Bool := l.all fun x => x.den.oneCell'

def Ent.holds (w : World) : Ent → Prop
  | .blk b t cs => w.heap[b]? = some (.cells (cs.map C.den).toArray t (0, 0))
  | .row A c t size n xs => xs.length = n * size ∧ n ≤ c ∧ (0 < c → ∃ g cur, A = some ⟨g, 0, none⟩ ∧ w.heap[g]? = some (.cells cur t (0, 0)) ∧ c ≤ maxLen ∧ cur.size = c * size ∧ cur.toList.take (n * size) = xs.map C.den)
  | .rd A size n xs => xs.length = n * size ∧ (xs ≠ [] → ∃ a, A = some a ∧ a.block < w.heap.size ∧ ∀ j u, (xs.map C.den)[j]? = some u → w.cell? (a.add j) = some u)

abbrev Env := Nat → SV
abbrev Heap := Nat → Option Ent
abbrev Upd := List (Nat × Option Ent)

def upd {α : Type} (f : Nat → α) (d : Nat) (v : α) : Nat → α := fun t => if t = d then v else f t
theorem upd_apply {α : Type} (f : Nat → α) (d : Nat) (v : α) (t : Nat) : upd f d v t = if t = d then v else f t := rfl
def putE (env : Env) (dst : Option Nat) (v : SV) : Env := match dst with
  | some d => upd env d v
  | none => env
def upds (H : Heap) : Upd → Heap
  | [] => H
  | (i, e) :: r => upds (upd H i e) r
def restrict (H : Heap) (ids : List Nat) : Heap := fun i => if i ∈ ids then H i else none

/-- The frame: what lay in memory at the beginning lies there still, but for the blocks of M. -/
structure Fr (w0 : World) (M : Nat → Prop) (w : World) : Prop where
  os : w.os = w0.os
  tape : w.tape = w0.tape
  output : w.output = w0.output
  size : w0.heap.size ≤ w.heap.size
  block : ∀ k, k < w0.heap.size → ¬ M k → w.heap[k]? = w0.heap[k]?

structure HSat (w0 : World) (M : Nat → Prop) (H : Heap) (w : World) : Prop where
  fr : Fr w0 M w
  holds : ∀ i e, H i = some e → e.holds w
  lt : ∀ i e, H i = some e → ∀ g, e.block = some g → g < w.heap.size
  own : ∀ i e, H i = some e → e.mut = true → ∀ g, e.block = some g → w0.heap.size ≤ g ∨ M g
  sep : ∀ i j ei ej, i ≠ j → H i = some ei → H j = some ej → ei.mut = true → ∀ g, ei.block = some g → ej.block ≠ some g

/-- The slots. -/
structure EnvOk (n : Nat) (env : Env) (a : Act) : Prop where
  size : a.tmps.size = n
  slot : ∀ t, (env t).known = true → a.tmps[t]? = some (env t).den
  defers : a.defers = []

end Go.Proofs.Ytjlgeoaomegbmaa.Eng
