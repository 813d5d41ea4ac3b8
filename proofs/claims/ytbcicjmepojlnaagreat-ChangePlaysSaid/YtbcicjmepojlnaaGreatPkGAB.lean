/- Texts of this work, laid together: symbolic execution over the model, contracts of the program's functions, what they come to; conditions: as each says. -/
import Derived.Orders
import Derived.Below
import Derived.Laws.AppendOwn
import Derived.Laws.AppendOwnNone
import Derived.Laws.MakeOwn
import Derived.Laws.Rows
import Derived.Laws.Slices
import Derived.Laws.Entries
import Derived.Laws.World
import Derived.Laws.Unary
import Derived.Laws.Small
/- Symbolic execution over the model: slots, tracked blocks, what a cell holds. Definitions alone; no condition. -/
namespace Go.Proofs.YtbcicjmepojlnaaGreat.Eng
open Go Go.RowKit
set_option linter.unusedVariables false
set_option autoImplicit false
inductive C where
  | v (x : Value)
  | loc (id b off : Nat)
  | sl (id : Nat) (A : Option Addr) (n c : Nat)
  | el (id : Nat) (A : Option Addr) (k : Nat)
  | fn (f : FuncId) (id b off : Nat)
  | any
def C.den : C → Value
  | .v x => x
  | .loc _ b off => .pointer (some ⟨b, off, none⟩)
  | .sl _ A n c => .slice A n c
  | .el _ A k => .pointer (some ((A.getD ⟨0, 0, none⟩).add k))
  | .fn f _ b off => .func (.func f) #[] #[.pointer (some ⟨b, off, none⟩)]
  | .any => undef
def C.ids : C → List Nat
  | .loc i _ _ => [i]
  | .sl i _ _ _ => [i]
  | .el i _ _ => [i]
  | .fn _ i _ _ => [i]
  | _ => []
def nilId : Nat := 1000000
def cOf : Value → C
  | .slice none 0 0 => .sl nilId none 0 0
  | x => .v x
theorem den_cOf (x : Value) : (cOf x).den = x := by
  unfold cOf
  split <;> rfl
inductive SV where
  | c (x : C)
  | agg (l : List C)
  | tup (l : List SV)
def SV.den0 : SV → Value
  | .c x => x.den
  | .agg l => .agg (l.map C.den).toArray
  | .tup _ => undef
def SV.den : SV → Value
  | .tup l => .tuple (l.map SV.den0).toArray
  | .c x => x.den
  | .agg l => .agg (l.map C.den).toArray
def SV.ids0 : SV → List Nat
  | .c x => x.ids
  | .agg l => l.flatMap C.ids
  | .tup _ => []
def SV.ids : SV → List Nat
  | .tup l => l.flatMap SV.ids0
  | .c x => x.ids
  | .agg l => l.flatMap C.ids
def SV.cells? : SV → Option (List C)
  | .c .any => none
  | .c x => some [x]
  | .agg l => some l
  | .tup _ => none
def SV.known : SV → Bool
  | .c .any => false
  | _ => true
def svOf : Value → SV
  | .agg cs => .agg (cs.toList.map cOf)
  | x => .c (cOf x)
theorem map_den_cOf (l : List Value) : (l.map cOf).map C.den = l := by
  rw [List.map_map]
  induction l with
  | nil => rfl
  | cons x r ih => rw [List.map_cons, ih]; simp [den_cOf]
theorem den_svOf (x : Value) : (svOf x).den = x := by
  unfold svOf
  split
  · rename_i cs
    simp only [SV.den, map_den_cOf]
  · exact den_cOf x
inductive Ent where
  | blk (b t : Nat) (cs : List C)
  | row (A : Option Addr) (c t size n : Nat) (xs : List C)
  | rd (A : Option Addr) (size n : Nat) (xs : List C)
def Ent.block : Ent → Option Nat
  | .blk b _ _ => some b
  | .row A c _ _ _ _ => if c = 0 then none else A.map (·.block)
  | .rd A _ _ xs => if xs = [] then none else A.map (·.block)
def Ent.mut : Ent → Bool
  | .rd .. => false
  | _ => true
def ok1 (l : List C) : Bool := l.all fun x => x.den.oneCell'
def Ent.holds (w : World) : Ent → Prop
  | .blk b t cs => w.heap[b]? = some (.cells (cs.map C.den).toArray t (0, 0))
  | .row A c t size n xs => xs.length = n * size ∧ n ≤ c ∧ (0 < c → ∃ g cur, A = some ⟨g, 0, none⟩ ∧ w.heap[g]? = some (.cells cur t (0, 0)) ∧ c ≤ maxLen ∧ cur.size = c * size ∧ cur.toList.take (n * size) = xs.map C.den)
  | .rd A size n xs => xs.length = n * size ∧ (xs ≠ [] → ∃ a, A = some a ∧ a.block < w.heap.size ∧ ∀ j u, (xs.map C.den)[j]? = some u → w.cell? (a.add j) = some u)
abbrev Env := Nat → SV
abbrev Heap := Nat → Option Ent
abbrev Upd := List (Nat × Option Ent)
def upd {α : Type} (f : Nat → α) (d : Nat) (v : α) : Nat → α := fun t => if t = d then v else f t
theorem upd_apply {α : Type} (f : Nat → α) (d : Nat) (v : α) (t : Nat) : upd f d v t = if t = d then v else f t := rfl
def putE (env : Env) (dst : Option Nat) (v : SV) : Env := match dst with
  | some d => upd env d v
  | none => env
def upds (H : Heap) : Upd → Heap
  | [] => H
  | (i, e) :: r => upds (upd H i e) r
def restrict (H : Heap) (ids : List Nat) : Heap := fun i => if i ∈ ids then H i else none
structure Fr (w0 : World) (M : Nat → Prop) (w : World) : Prop where
  os : w.os = w0.os
  tape : w.tape = w0.tape
  output : w.output = w0.output
  size : w0.heap.size ≤ w.heap.size
  block : ∀ k, k < w0.heap.size → ¬ M k → w.heap[k]? = w0.heap[k]?
structure HSat (w0 : World) (M : Nat → Prop) (H : Heap) (w : World) : Prop where
  fr : Fr w0 M w
  holds : ∀ i e, H i = some e → e.holds w
  lt : ∀ i e, H i = some e → ∀ g, e.block = some g → g < w.heap.size
  own : ∀ i e, H i = some e → e.mut = true → ∀ g, e.block = some g → w0.heap.size ≤ g ∨ M g
  sep : ∀ i j ei ej, i ≠ j → H i = some ei → H j = some ej → ei.mut = true → ∀ g, ei.block = some g → ej.block ≠ some g
structure EnvOk (n : Nat) (env : Env) (a : Act) : Prop where
  size : a.tmps.size = n
  slot : ∀ t, (env t).known = true → a.tmps[t]? = some (env t).den
  defers : a.defers = []
end Go.Proofs.YtbcicjmepojlnaaGreat.Eng
/- Tracked blocks over the world's steps; no condition. -/
namespace Go.Proofs.YtbcicjmepojlnaaGreat.Eng
open Go Go.RowKit
set_option linter.unusedVariables false
set_option autoImplicit false
theorem cell_of_heap {w w' : World} {a : Addr} (h : w'.heap[a.block]? = w.heap[a.block]?) : w'.cell? a = w.cell? a := by
  unfold World.cell?
  rw [h]
theorem add_block (a : Addr) (n : Nat) : (a.add n).block = a.block := by unfold Addr.add; split <;> rfl
theorem add_add (a : Addr) (i j : Nat) : (a.add i).add j = a.add (i + j) := by
  unfold Addr.add
  by_cases hi : i = 0 <;> by_cases hj : j = 0 <;> simp [hi, hj, Nat.add_assoc]
theorem Ent.holds_keep {e : Ent} {w w' : World} (h : e.holds w) (hs : w.heap.size ≤ w'.heap.size) (hb : ∀ g, e.block = some g → w'.heap[g]? = w.heap[g]?) : e.holds w' := by
  cases e with
  | blk b t cs => exact (hb b rfl).trans h
  | row A c t size n xs =>
    refine ⟨h.1, h.2.1, fun hc => ?_⟩
    obtain ⟨g, cur, rfl, hg, rest⟩ := h.2.2 hc
    refine ⟨g, cur, rfl, ?_, rest⟩
    rw [hb g (by simp [Ent.block]; omega)]
    exact hg
  | rd A size n xs =>
    refine ⟨h.1, fun hx => ?_⟩
    obtain ⟨a, rfl, hlt, hc⟩ := h.2 hx
    refine ⟨a, rfl, by omega, fun j u hu => ?_⟩
    rw [cell_of_heap (w := w) (by rw [add_block]; exact hb a.block (by simp [Ent.block, hx]))]
    exact hc j u hu
def erase (H : Heap) (src : Option Nat) : Heap := match src with
  | some i => upd H i none
  | none => H
theorem Fr.refl (w : World) (M : Nat → Prop) : Fr w M w := ⟨rfl, rfl, rfl, Nat.le_refl _, fun _ _ _ => rfl⟩
theorem Fr.below {w0 w : World} {M : Nat → Prop} (h : Fr w0 M w) (hM : ∀ k, ¬ M k) : Below w0.heap.size w0 w := ⟨h.os, h.tape, h.output, h.size, fun k hk => h.block k hk (hM k)⟩
theorem HSat.step {w0 w w' : World} {M : Nat → Prop} {H : Heap} (h : HSat w0 M H w) (src : Option Nat) (D : Nat → Prop)
    (hos : w'.os = w.os) (htape : w'.tape = w.tape) (hout : w'.output = w.output) (hsz : w.heap.size ≤ w'.heap.size)
    (hblk : ∀ k, k < w.heap.size → ¬ D k → w'.heap[k]? = w.heap[k]?)
    (hD : ∀ k, D k → k < w.heap.size → ∃ i e, src = some i ∧ H i = some e ∧ e.mut = true ∧ e.block = some k)
    (dst : Nat) (e' : Ent) (hh : e'.holds w') (hlt : ∀ g, e'.block = some g → g < w'.heap.size ∧ (D g ∨ w.heap.size ≤ g)) :
    HSat w0 M (upd (erase H src) dst (some e')) w' := by
  have hold : ∀ j e, (erase H src) j = some e → H j = some e ∧ src ≠ some j := by
    intro j e hj
    cases src with
    | none => exact ⟨hj, by simp⟩
    | some i =>
      simp only [erase, upd_apply] at hj
      split at hj
      · cases hj
      · rename_i hne
        exact ⟨hj, fun h => hne (by injection h with h; exact h.symm)⟩
  have hfar : ∀ j e, H j = some e → src ≠ some j → ∀ g, e.block = some g → ¬ D g := by
    intro j e hj hne g hg hDg
    obtain ⟨i, ei, hi, hHi, hm, hb⟩ := hD g hDg (h.lt j e hj g hg)
    exact h.sep i j ei e (fun e => hne (by rw [hi, e])) hHi hj hm g hb hg
  refine ⟨⟨hos.trans h.fr.os, htape.trans h.fr.tape, hout.trans h.fr.output, Nat.le_trans h.fr.size hsz, fun k hk hM => ?_⟩, ?_, ?_, ?_, ?_⟩
  · have hlt := Nat.lt_of_lt_of_le hk h.fr.size
    rw [hblk k hlt (fun hDk => ?_)]
    · exact h.fr.block k hk hM
    · obtain ⟨i, e, _, hHi, hm, hb⟩ := hD k hDk hlt
      rcases h.own i e hHi hm k hb with h1 | h1
      · omega
      · exact hM h1
  · intro j e hj
    simp only [upd_apply] at hj
    split at hj
    · injection hj with hj; subst hj; exact hh
    · obtain ⟨hj, hne⟩ := hold j e hj
      exact Ent.holds_keep (h.holds j e hj) hsz fun g hg => hblk g (h.lt j e hj g hg) (hfar j e hj hne g hg)
  · intro j e hj g hg
    simp only [upd_apply] at hj
    split at hj
    · injection hj with hj; subst hj; exact (hlt g hg).1
    · obtain ⟨hj, hne⟩ := hold j e hj
      exact Nat.lt_of_lt_of_le (h.lt j e hj g hg) hsz
  · intro j e hj hm g hg
    simp only [upd_apply] at hj
    split at hj
    · injection hj with hj; subst hj
      rcases (hlt g hg).2 with h1 | h1
      · by_cases hg' : g < w.heap.size
        · obtain ⟨i, ei, _, hHi, hmi, hb⟩ := hD g h1 hg'
          exact h.own i ei hHi hmi g hb
        · exact .inl (Nat.le_trans h.fr.size (Nat.le_of_not_lt hg'))
      · exact .inl (Nat.le_trans h.fr.size h1)
    · obtain ⟨hj, hne⟩ := hold j e hj
      exact h.own j e hj hm g hg
  · intro i j ei ej hij hi hj hm g hgi hgj
    simp only [upd_apply] at hi hj
    split at hi
    · rename_i hid
      injection hi with hi; subst hi
      split at hj
      · rename_i hjd; exact hij (hid.trans hjd.symm)
      · obtain ⟨hj, hne⟩ := hold j ej hj
        rcases (hlt g hgi).2 with h1 | h1
        · exact hfar j ej hj hne g hgj h1
        · exact absurd (h.lt j ej hj g hgj) (by omega)
    · obtain ⟨hi, hne⟩ := hold i ei hi
      split at hj
      · injection hj with hj; subst hj
        rcases (hlt g hgj).2 with h1 | h1
        · exact hfar i ei hi hne g hgi h1
        · exact absurd (h.lt i ei hi g hgi) (by omega)
      · obtain ⟨hj, hnej⟩ := hold j ej hj
        exact h.sep i j ei ej hij hi hj hm g hgi hgj
theorem HSat.grow {w0 w w' : World} {M : Nat → Prop} {H : Heap} (h : HSat w0 M H w)
    (hos : w'.os = w.os) (htape : w'.tape = w.tape) (hout : w'.output = w.output) (hsz : w.heap.size ≤ w'.heap.size)
    (hblk : ∀ k, k < w.heap.size → w'.heap[k]? = w.heap[k]?) : HSat w0 M H w' :=
  ⟨⟨hos.trans h.fr.os, htape.trans h.fr.tape, hout.trans h.fr.output, Nat.le_trans h.fr.size hsz, fun k hk hM => (hblk k (Nat.lt_of_lt_of_le hk h.fr.size)).trans (h.fr.block k hk hM)⟩,
   fun i e hi => Ent.holds_keep (h.holds i e hi) hsz fun g hg => hblk g (h.lt i e hi g hg),
   fun i e hi g hg => Nat.lt_of_lt_of_le (h.lt i e hi g hg) hsz, h.own, h.sep⟩
theorem HSat.below {w0 w w' : World} {M : Nat → Prop} {H : Heap} (h : HSat w0 M H w) (hb : Below w.heap.size w w') : HSat w0 M H w' :=
  h.grow hb.os hb.tape hb.output hb.size fun k hk => hb.block k hk
theorem HSat.drew {w0 w : World} {M : Nat → Prop} {H : Heap} (h : HSat w0 M H w) : HSat w0 M H w.drew := h.grow rfl rfl rfl (Nat.le_refl _) fun _ _ => rfl
theorem HSat.drop {w0 w : World} {M : Nat → Prop} {H H' : Heap} (h : HSat w0 M H w) (hs : ∀ i e, H' i = some e → H i = some e) : HSat w0 M H' w :=
  ⟨h.fr, fun i e hi => h.holds i e (hs i e hi), fun i e hi => h.lt i e (hs i e hi), fun i e hi => h.own i e (hs i e hi),
   fun i j ei ej hij hi hj => h.sep i j ei ej hij (hs i ei hi) (hs j ej hj)⟩
theorem HSat.part {w0 w : World} {M : Nat → Prop} {H : Heap} (h : HSat w0 M H w) (src dst : Nat) (es e' : Ent) (hs : H src = some es) (hm : es.mut = false)
    (hh : e'.holds w) (hme : e'.mut = false) (hb : ∀ g, e'.block = some g → es.block = some g) : HSat w0 M (upd H dst (some e')) w := by
  refine ⟨h.fr, ?_, ?_, ?_, ?_⟩
  · intro j e hj
    simp only [upd_apply] at hj
    split at hj
    · injection hj with hj; subst hj; exact hh
    · exact h.holds j e hj
  · intro j e hj g hg
    simp only [upd_apply] at hj
    split at hj
    · injection hj with hj; subst hj; exact h.lt src es hs g (hb g hg)
    · exact h.lt j e hj g hg
  · intro j e hj hmj g hg
    simp only [upd_apply] at hj
    split at hj
    · injection hj with hj; subst hj; rw [hme] at hmj; cases hmj
    · exact h.own j e hj hmj g hg
  · intro i j ei ej hij hi hj hmi g hgi hgj
    simp only [upd_apply] at hi hj
    split at hi
    · injection hi with hi; subst hi; rw [hme] at hmi; cases hmi
    · split at hj
      · injection hj with hj; subst hj
        by_cases his : i = src
        · subst his
          rw [hs] at hi; injection hi with hi; subst hi
          rw [hm] at hmi; cases hmi
        · exact h.sep i src ei es his hi hs hmi g hgi (hb g hgj)
      · exact h.sep i j ei ej hij hi hj hmi g hgi hgj
theorem HSat.retell {w0 w : World} {M : Nat → Prop} {H : Heap} (h : HSat w0 M H w) (src dst : Nat) (es e' : Ent) (hs : H src = some es)
    (hh : e'.holds w) (hme : e'.mut = true → es.mut = true) (hb : ∀ g, e'.block = some g → es.block = some g) : HSat w0 M (upd (upd H src none) dst (some e')) w := by
  have hold : ∀ j e, upd H src none j = some e → H j = some e ∧ j ≠ src := by
    intro j e hj
    simp only [upd_apply] at hj
    split at hj
    · cases hj
    · rename_i hne; exact ⟨hj, hne⟩
  refine ⟨h.fr, ?_, ?_, ?_, ?_⟩
  · intro j e hj
    rw [upd_apply] at hj
    split at hj
    · injection hj with hj; subst hj; exact hh
    · exact h.holds j e (hold j e hj).1
  · intro j e hj g hg
    rw [upd_apply] at hj
    split at hj
    · injection hj with hj; subst hj; exact h.lt src es hs g (hb g hg)
    · exact h.lt j e (hold j e hj).1 g hg
  · intro j e hj hmj g hg
    rw [upd_apply] at hj
    split at hj
    · injection hj with hj; subst hj; exact h.own src es hs (hme hmj) g (hb g hg)
    · exact h.own j e (hold j e hj).1 hmj g hg
  · intro i j ei ej hij hi hj hmi g hgi hgj
    rw [upd_apply] at hi hj
    split at hi
    · injection hi with hi; subst hi
      split at hj
      · rename_i h1 h2; exact hij (h1.trans h2.symm)
      · obtain ⟨hj, hne⟩ := hold j ej hj
        exact h.sep src j es ej (Ne.symm hne) hs hj (hme hmi) g (hb g hgi) hgj
    · obtain ⟨hi, hnei⟩ := hold i ei hi
      split at hj
      · injection hj with hj; subst hj
        exact h.sep i src ei es hnei hi hs hmi g hgi (hb g hgj)
      · exact h.sep i j ei ej hij hi (hold j ej hj).1 hmi g hgi hgj
end Go.Proofs.YtbcicjmepojlnaaGreat.Eng
/- Each operation as a predicate on what it gives and what it turns; definitions alone; no condition. -/
namespace Go.Proofs.YtbcicjmepojlnaaGreat.Eng
open Go Go.RowKit
set_option linter.unusedVariables false
set_option autoImplicit false
/-! What is asked of the program's types: closed facts, settled once a type. -/
def szT (P : Program) (t : TypeId) : Option (Bool × Nat) := match P.underlying t, P.info? t with
  | some (.struct _), some i => some (true, i.size)
  | some (.array _ _), some i => some (true, i.size)
  | some _, some i => some (false, i.size)
  | _, _ => none
def zeroT (P : Program) (t : TypeId) : Option (List C) := ((P.info? t).bind (·.zero)).map fun z => z.cells.toList.map cOf
def fieldT (P : Program) (t f : Nat) : Option Nat := match P.underlying t with
  | some (.struct fs) => match fs[f]? with
    | some x => match P.info? x.type with
      | some i => if i.size = 0 then none else some x.offset
      | none => none
    | none => none
  | _ => none
def placesT (P : Program) (t : TypeId) : Option (List (Nat × Nat)) := match P.underlying t with
  | some (.struct fs) => fs.toList.mapM fun f => (P.info? f.type).map fun i => (f.offset, i.size)
  | _ => none
def arrT (P : Program) (t : TypeId) : Option (Nat × Nat) := match P.underlying t with
  | some (.array n e) => (P.info? e).map fun i => (n, i.size)
  | _ => none
def slT (P : Program) (t : TypeId) : Option (TypeId × Nat × Nat × Nat) := match P.underlying t with
  | some (.slice e) => match P.info? e with
    | some i => i.zero.map fun z => (e, i.size, i.bytes, z.cells.size)
    | none => none
  | _ => none
def intT (P : Program) (t : TypeId) : Option IntKind := match P.underlying t with
  | some (.int k) => some k
  | _ => none
def EqFact (P : Program) (t : TypeId) (xs ys : List C) (r : Bool) : Prop :=
  P.eqGuardType P.depth t = false ∧ ∀ w, (Op.equalIn 10000 t (.agg (xs.map C.den).toArray) (.agg (ys.map C.den).toArray)).run P w = .ok r w
inductive LK where
  | int (k : IntKind)
  | bool
def eqCells : List LK → List C → List C → Option Bool
  | [], [], [] => some true
  | .int k :: ks, .v (.int k1 a) :: xs, .v (.int k2 b) :: ys => if k1 = k then if k2 = k then match eqCells ks xs ys with
    | some r => some ((a == b) && r)
    | none => none
    else none else none
  | .bool :: ks, .v (.bool a) :: xs, .v (.bool b) :: ys => match eqCells ks xs ys with
    | some r => some ((a == b) && r)
    | none => none
  | _, _, _ => none
def look {α : Type} : List (Nat × α) → Nat → Option α
  | [], _ => none
  | (k, v) :: r, t => if t = k then some v else look r t
theorem look_mem {α : Type} {p : Nat → α → Prop} : ∀ {l : List (Nat × α)} {t : Nat} {v : α}, (∀ q ∈ l, p q.1 q.2) → look l t = some v → p t v
  | [], t, v, _, h => by cases h
  | (k, x) :: r, t, v, hp, h => by
    simp only [look] at h
    split at h
    · rename_i e; subst e; injection h with h; subst h; exact hp (t, x) (by simp)
    · exact look_mem (fun q hq => hp q (by simp [hq])) h
structure TT where
  sz : List (Nat × (Bool × Nat))
  ze : List (Nat × List C)
  fi : List (Nat × List Nat)
  pl : List (Nat × List (Nat × Nat))
  ar : List (Nat × (Nat × Nat))
  sl : List (Nat × (TypeId × Nat × Nat × Nat))
  int : List (Nat × IntKind)
  bool : List (Nat × Unit)
  eq : List (Nat × List LK)
  ptr : List (Nat × Unit) := []
  refs : List Nat := []
  zr : List (Nat × (Nat × List C)) := []
structure TTok (P : Program) (F : TT) : Prop where
  sz : ∀ q ∈ F.sz, szT P q.1 = some q.2
  ze : ∀ q ∈ F.ze, zeroT P q.1 = some q.2
  fi : ∀ q ∈ F.fi, ∀ (k o : Nat), q.2[k]? = some o → fieldT P q.1 k = some o
  pl : ∀ q ∈ F.pl, placesT P q.1 = some q.2
  ar : ∀ q ∈ F.ar, arrT P q.1 = some q.2
  sl : ∀ q ∈ F.sl, slT P q.1 = some q.2
  int : ∀ q ∈ F.int, intT P q.1 = some q.2
  bool : ∀ q ∈ F.bool, P.underlying q.1 = some .bool
  eq : ∀ q ∈ F.eq, ∀ xs ys r, eqCells q.2 xs ys = some r → EqFact P q.1 xs ys r
  ptr : ∀ q ∈ F.ptr, ∃ e, P.underlying q.1 = some (.pointer e)
  zr : ∀ q ∈ F.zr, zeroT P q.1 = some (List.replicate q.2.1 q.2.2).flatten
section
variable {P : Program} {F : TT}
theorem TTok.sz_ (h : TTok P F) {t : Nat} {r : Bool × Nat} (e : look F.sz t = some r) : szT P t = some r := look_mem (p := fun t r => szT P t = some r) h.sz e
theorem TTok.ze_ (h : TTok P F) {t : Nat} {r : List C} (e : look F.ze t = some r) : zeroT P t = some r := look_mem (p := fun t r => zeroT P t = some r) h.ze e
def zeroF (F : TT) (t : Nat) : Option (List C) := match look F.ze t with
  | some z => some z
  | none => match look F.zr t with
    | some (m, z) => some (List.replicate m z).flatten
    | none => none
theorem TTok.zeroF_ (h : TTok P F) {t : Nat} {r : List C} (e : zeroF F t = some r) : zeroT P t = some r := by
  unfold zeroF at e
  split at e
  · rename_i z hz
    injection e with e
    subst e
    exact h.ze_ hz
  · split at e
    · rename_i m z hz
      injection e with e
      subst e
      exact look_mem (p := fun t r => zeroT P t = some (List.replicate r.1 r.2).flatten) h.zr hz
    · cases e
theorem TTok.pl_ (h : TTok P F) {t : Nat} {r : List (Nat × Nat)} (e : look F.pl t = some r) : placesT P t = some r := look_mem (p := fun t r => placesT P t = some r) h.pl e
theorem TTok.ar_ (h : TTok P F) {t : Nat} {r : Nat × Nat} (e : look F.ar t = some r) : arrT P t = some r := look_mem (p := fun t r => arrT P t = some r) h.ar e
theorem TTok.sl_ (h : TTok P F) {t : Nat} {r : TypeId × Nat × Nat × Nat} (e : look F.sl t = some r) : slT P t = some r := look_mem (p := fun t r => slT P t = some r) h.sl e
theorem TTok.int_ (h : TTok P F) {t : Nat} {r : IntKind} (e : look F.int t = some r) : intT P t = some r := look_mem (p := fun t r => intT P t = some r) h.int e
theorem TTok.bool_ (h : TTok P F) {t : Nat} {r : Unit} (e : look F.bool t = some r) : P.underlying t = some .bool := look_mem (p := fun t _ => P.underlying t = some .bool) h.bool e
theorem TTok.eq_ (h : TTok P F) {t : Nat} {ks : List LK} (e : look F.eq t = some ks) : ∀ xs ys r, eqCells ks xs ys = some r → EqFact P t xs ys r := look_mem (p := fun t ks => ∀ xs ys r, eqCells ks xs ys = some r → EqFact P t xs ys r) h.eq e
theorem TTok.ptr_ (h : TTok P F) {t : Nat} {r : Unit} (e : look F.ptr t = some r) : ∃ e, P.underlying t = some (.pointer e) := look_mem (p := fun t _ => ∃ e, P.underlying t = some (.pointer e)) h.ptr e
theorem slT_under {t : Nat} {r : TypeId × Nat × Nat × Nat} (e : slT P t = some r) : P.underlying t = some (.slice r.1) := by
  unfold slT at e
  split at e
  · rename_i e' hd
    split at e
    · rename_i i hi
      obtain ⟨z, hz, rfl⟩ := Option.map_eq_some_iff.1 e
      exact hd
    · cases e
  · cases e
end
def fieldF (F : TT) (t f : Nat) : Option Nat := match look F.fi t with
  | some l => l[f]?
  | none => none
def putCells (cs : List C) (off : Nat) (new : List C) : List C := match new with
  | [x] => cs.set off x
  | _ => cs.take off ++ new ++ cs.drop (off + new.length)
def fillC (places : List (Nat × Nat)) : List C → List (Nat × SV) → Option (List C)
  | cs, [] => some cs
  | cs, (i, x) :: r => match places[i]?, x.cells? with
    | some (off, size), some l => if l.length = size ∧ off + size ≤ cs.length then fillC places (putCells cs off l) r else none
    | _, _ => none
def catC (size : Nat) : List (Nat × SV) → Nat → Option (List C)
  | [], _ => some []
  | (i, x) :: r, k => match x.cells? with
    | some l => if i = k ∧ l.length = size then (catC size r (k + 1)).map (l ++ ·) else none
    | none => none
def intOp (op : BinOp) (k : IntKind) (a b : Int) : Option Value := match op with
  | .add => some (.int k (k.wrap (a + b)))
  | .sub => some (.int k (k.wrap (a - b)))
  | .mul => some (.int k (k.wrap (a * b)))
  | .and => some (.int k (bits .and k a b))
  | .or => some (.int k (bits .or k a b))
  | .xor => some (.int k (bits .xor k a b))
  | .andNot => some (.int k (bits .andNot k a b))
  | .eql => some (.bool (a == b))
  | .neq => some (.bool (a != b))
  | .lss => some (.bool (decide (a < b)))
  | .leq => some (.bool (decide (a ≤ b)))
  | .gtr => some (.bool (decide (a > b)))
  | .geq => some (.bool (decide (a ≥ b)))
  | _ => none
abbrev KT := SV → Upd → Prop
structure Res where
  side : Prop
  R : SV → Upd → Prop
abbrev Spec := List SV → Heap → Nat → Res
def binT (F : TT) (op : BinOp) (t : TypeId) (x y : SV) (K : KT) : Prop :=
  match x, y with
  | .c (.v (.int k a)), .c (.v (.int k' b)) => match op with
    | .shl => (0 ≤ b ∧ b ≤ k.bits) ∧ K (.c (.v (.int k (k.wrap (a * 2 ^ b.toNat))))) []
    | .quo => k = k' ∧ b ≠ 0 ∧ K (.c (.v (.int k (k.wrap (a.tdiv b))))) []
    | .rem => k = k' ∧ b ≠ 0 ∧ K (.c (.v (.int k (a.tmod b)))) []
    | op => k = k' ∧ match intOp op k a b with
      | some v => K (.c (.v v)) []
      | none => False
  | .c (.loc _ _ _), .c (.v (.pointer none)) => look F.ptr t = some () ∧ match op with
    | .eql => K (.c (.v (.bool false))) []
    | .neq => K (.c (.v (.bool true))) []
    | _ => False
  | .c (.v (.bool a)), .c (.v (.bool b)) => look F.bool t = some () ∧ match op with
    | .eql => K (.c (.v (.bool (a == b)))) []
    | .neq => K (.c (.v (.bool (!(a == b))))) []
    | _ => False
  | .agg xs, .agg ys => match op with
    | .eql => match look F.eq t with
      | some ks => match eqCells ks xs ys with
        | some r => K (.c (.v (.bool r))) []
        | none => False
      | none => False
    | .neq => match look F.eq t with
      | some ks => match eqCells ks xs ys with
        | some r => K (.c (.v (.bool (!r)))) []
        | none => False
      | none => False
    | _ => False
  | .c (.sl _ A _ _), .c (.sl i none 0 0) => i = nilId ∧ match look F.sl t with
    | none => False
    | some _ => match op with
    | .eql => K (.c (.v (.bool A.isNone))) []
    | .neq => K (.c (.v (.bool (!A.isNone)))) []
    | _ => False
  | _, _ => False
def loadT (F : TT) (t : TypeId) (x : SV) (H : Heap) (K : KT) : Prop :=
  match x with
  | .c (.loc id b off) => match H id with
    | some (.blk b' _ cs) => b = b' ∧ match look F.sz t with
      | some (true, n) => off + n ≤ cs.length ∧ K (.agg ((cs.drop off).take n)) []
      | some (false, _) => match cs[off]? with
        | some x => K (.c x) []
        | none => False
      | none => False
    | _ => False
  | .c (.el id A k) => match H id with
    | some (.rd A' _ _ xs) => A = A' ∧ match look F.sz t with
      | some (true, n) => 0 < n ∧ k + n ≤ xs.length ∧ K (.agg ((xs.drop k).take n)) []
      | some (false, _) => match xs[k]? with
        | some x => K (.c x) []
        | none => False
      | none => False
    | some (.row A' _ _ _ _ xs) => A = A' ∧ match look F.sz t with
      | some (true, n) => 0 < n ∧ k + n ≤ xs.length ∧ K (.agg ((xs.drop k).take n)) []
      | some (false, _) => match xs[k]? with
        | some x => K (.c x) []
        | none => False
      | none => False
    | _ => False
  | _ => False
def storeT (F : TT) (t : TypeId) (x y : SV) (H : Heap) (K : KT) : Prop :=
  match y.cells? with
  | none => False
  | some l => ok1 l = true ∧ (match look F.sz t with | some (_, m) => m = l.length | none => False) ∧ match x with
    | .c (.loc id b off) => match H id with
      | some (.blk b' t' cs) => b = b' ∧ off + l.length ≤ cs.length ∧ K (.c .any) [(id, some (.blk b t' (putCells cs off l)))]
      | _ => False
    | .c (.el id A k) => match H id with
      | some (.row A' c t' size n xs) => A = A' ∧ 0 < l.length ∧ k + l.length ≤ xs.length ∧ K (.c .any) [(id, some (.row A c t' size n (putCells xs k l)))]
      | _ => False
    | _ => False
def indexT (F : TT) (t : TypeId) (x y : SV) (H : Heap) (K : KT) : Prop :=
  match x, y with
  | .c (.loc id b off), .c (.v (.int _ i)) => match look F.ar t with
    | some (n, sz) => 0 ≤ i ∧ i < n ∧ K (.c (.loc id b (off + i.toNat * sz))) []
    | none => False
  | .c (.sl id A n _), .c (.v (.int _ i)) => match look F.sl t with
    | some (_, sz, _, _) => 0 < sz ∧ 0 ≤ i ∧ i < n ∧ match H id with
      | some (.rd A' sz' n' _) => A = A' ∧ sz = sz' ∧ n = n' ∧ K (.c (.el id A (i.toNat * sz))) []
      | some (.row A' _ _ sz' n' _) => A = A' ∧ sz = sz' ∧ n = n' ∧ K (.c (.el id A (i.toNat * sz))) []
      | _ => False
    | none => False
  | _, _ => False
def rowOf : Option Ent → Option (Option Addr × Nat × Nat × List C)
  | some (.rd A sz n xs) => some (A, sz, n, xs)
  | some (.row A _ _ sz n xs) => some (A, sz, n, xs)
  | _ => none
def appendT (F : TT) (t t' : TypeId) (x y : SV) (H : Heap) (d : Nat) (K : KT) : Prop :=
  match look F.sl t, x, y with
  | some (e, sz, bytes, zs), .c (.sl id A n c), .c (.sl id' B m _) => t = t' ∧ zs = sz ∧ 0 < sz ∧ id ≠ id' ∧ (n + m) * bytes ≤ 140737488355328 ∧ n + m ≤ maxLen ∧
    match rowOf (H id') with
    | some (B', sz', m', ys) => B = B' ∧ m = m' ∧ (sz' = sz ∨ m = 0) ∧ ok1 ys = true ∧ match H id with
      | some (.row A' c' e' sz' n' xs) => A = A' ∧ c = c' ∧ e = e' ∧ sz = sz' ∧ n = n' ∧ ∀ A2 c2, K (.c (.sl d A2 (n + m) c2)) [(id, none), (d, some (.row A2 c2 e sz (n + m) (xs ++ ys)))]
      | some (.rd _ _ _ xs) => n = 0 ∧ c = 0 ∧ xs = [] ∧ ∀ A2 c2, K (.c (.sl d A2 m c2)) [(d, some (.row A2 c2 e sz m ys))]
      | _ => False
    | none => False
  | _, _, _ => False
def makeT (F : TT) (t : TypeId) (x y : SV) (d : Nat) (K : KT) : Prop :=
  match look F.sl t, x, y with
  | some (e, sz, bytes, _), .c (.v (.int _ n)), .c (.v (.int _ m)) => match look F.ze e with
    | some z => z.length = sz ∧ 0 < sz ∧ n = m ∧ (0 ≤ n ∧ n * bytes ≤ 281474976710656 ∧ n ≤ maxLen) ∧ ∀ A, K (.c (.sl d A n.toNat n.toNat)) [(d, some (.row A n.toNat e sz n.toNat (List.replicate n.toNat z).flatten))]
    | none => False
  | _, _, _ => False
def boundT (def_ : Nat) : Option SV → Option Int
  | none => some def_
  | some (.c (.v (.int _ i))) => some i
  | _ => none
def sliceT (F : TT) (t : TypeId) (x : SV) (lo hi mx : Option SV) (H : Heap) (d : Nat) (K : KT) : Prop :=
  match look F.sl t, x, boundT 0 lo with
  | some (_, sz, _, _), .c (.sl id A n c), some l => match boundT n hi, mx with
    | some h, none => 0 ≤ l ∧ l ≤ h ∧ h ≤ n ∧ match H id with
      | some (.rd A' sz' n' xs) => A = A' ∧ sz = sz' ∧ n = n' ∧ n ≤ c ∧
          K (.c (.sl d (if c = l.toNat then A else A.map (·.add (l.toNat * sz))) (h.toNat - l.toNat) (c - l.toNat)))
            [(d, some (.rd (if c = l.toNat then A else A.map (·.add (l.toNat * sz))) sz (h.toNat - l.toNat) ((xs.drop (l.toNat * sz)).take ((h.toNat - l.toNat) * sz))))]
      | some (.row A' c' e sz' n' xs) => A = A' ∧ c = c' ∧ sz = sz' ∧ n = n' ∧ l = 0 ∧ K (.c (.sl d A h.toNat c)) [(id, none), (d, some (.row A c e sz h.toNat (xs.take (h.toNat * sz))))]
      | _ => False
    | _, _ => False
  | _, _, _ => False
def foldT (f : Int → Int → Int) : List SV → Option (IntKind × Int)
  | [.c (.v (.int k a))] => some (k, a)
  | [.c (.v (.int k a)), .c (.v (.int k' b))] => if k = k' then some (k, f a b) else none
  | _ => none
def calleeV (callee : Callee) (e : Operand → SV) : SV := match callee with
  | .value x => e x
  | _ => .tup []
def callT (F : TT) (Γ : FuncId → Spec) (callee : Callee) (fv : SV) (args : List SV) (ts : Array TypeId) (H : Heap) (d : Nat) (K : KT) : Prop :=
  match callee with
  | .value (.func f) => args.all SV.known = true ∧ (Γ f args H d).side ∧ ∀ v u, (Γ f args H d).R v u → K v u
  | .value (.tmp _) => match fv with
    | .c (.fn g i b off) => args.all SV.known = true ∧ (Γ g (args ++ [.c (.loc i b off)]) H d).side ∧ ∀ v u, (Γ g (args ++ [.c (.loc i b off)]) H d).R v u → K v u
    | _ => False
  | .builtin .len => match args with
    | [.c (.sl _ _ n _)] => ((ts[0]?).bind (look F.sl)).isSome = true ∧ K (.c (.v (.int .i64 n))) []
    | _ => False
  | .builtin .cap => match args with
    | [.c (.sl _ _ _ c)] => ((ts[0]?).bind (look F.sl)).isSome = true ∧ K (.c (.v (.int .i64 c))) []
    | _ => False
  | .builtin .max => match foldT (fun a b => if b > a then b else a) args with
    | some (k, a) => K (.c (.v (.int k a))) []
    | none => False
  | .builtin .min => match foldT (fun a b => if b < a then b else a) args with
    | some (k, a) => K (.c (.v (.int k a))) []
    | none => False
  | .builtin .append => match args with
    | [x, y] => ts.size = 2 ∧ appendT F (ts.getD 0 0) (ts.getD 1 0) x y H d K
    | _ => False
  | _ => False
def ev (env : Env) : Operand → SV
  | .tmp t => env t
  | .const v => svOf v
  | .global g => .c (.v (.pointer (some ⟨g, 0, none⟩)))
  | .func f => .c (.v (.func (.func f) #[] #[]))
theorem TTok.fi_ {P : Program} {F : TT} (h : TTok P F) {t f o : Nat} (e : fieldF F t f = some o) : fieldT P t f = some o := by
  unfold fieldF at e
  split at e
  · rename_i l hl
    exact look_mem (p := fun t l => ∀ (k o : Nat), l[k]? = some o → fieldT P t k = some o) h.fi hl f o e
  · cases e
def partsOk (e : Operand → SV) (ps : Array (Nat × Operand)) : Bool := ps.toList.all fun p => match (e p.2).cells? with
  | some l => ok1 l
  | none => false
def opT (F : TT) (Γ : FuncId → Spec) (o : Op) (e : Operand → SV) (H : Heap) (d : Nat) (K : KT) : Prop :=
  match o with
  | .move x => K (e x) []
  | .assign x => K (e x) []
  | .pick c a b => match e c with
    | .c (.v (.bool t)) => (t = true → K (e a) []) ∧ (t = false → K (e b) [])
    | _ => False
  | .alloc t => match zeroF F t with
    | some cs => ∀ b, K (.c (.loc d b 0)) [(d, some (.blk b t cs))]
    | none => False
  | .box t x => match (e x).cells? with
    | some cs => ok1 cs = true ∧ ∀ b, K (.c (.loc d b 0)) [(d, some (.blk b t cs))]
    | none => False
  | .build t ps => match look F.pl t, look F.ze t with
    | some pl, some z => partsOk e ps = true ∧ match fillC pl z (ps.toList.map fun p => (p.1, e p.2)) with
      | some l => K (.agg l) []
      | none => False
    | _, _ => False
  | .buildSlice t n ps => match look F.sl t with
    | some (el, sz, _, zs) => n * sz ≤ 65536 ∧ zs = sz ∧ 0 < sz ∧ partsOk e ps = true ∧ match catC sz (ps.toList.map fun p => (p.1, e p.2)) 0 with
      | some l => l.length = n * sz ∧ ∀ A, K (.c (.sl d A n n)) [(d, some (.row A n el sz n l))]
      | none => False
    | none => False
  | .load t x => loadT F t (e x) H K
  | .store t x y => storeT F t (e x) (e y) H K
  | .nilCheck x => match e x with
    | .c (.loc i b o) => K (.c (.loc i b o)) []
    | .c (.el i A k) => K (.c (.el i A k)) []
    | _ => False
  | .binOp op t x y _ => binT F op t (e x) (e y) K
  | .unOp .not _ x => match e x with
    | .c (.v (.bool b)) => K (.c (.v (.bool (!b)))) []
    | _ => False
  | .unOp .neg _ x => match e x with
    | .c (.v (.int k n)) => K (.c (.v (.int k (k.wrap (0 - n))))) []
    | _ => False
  | .convert s t x => match e x, look F.int t, look F.int s with
    | .c (.v (.int _ n)), some k, some _ => K (.c (.v (.int k (k.wrap n)))) []
    | _, _, _ => False
  | .fieldAddr t x f => match fieldF F t f, e x with
    | some o, .c (.loc i b off) => K (.c (.loc i b (off + o))) []
    | some o, .c (.el i A k) => K (.c (.el i A (k + o))) []
    | _, _ => False
  | .indexAddr t x y => indexT F t (e x) (e y) H K
  | .slice t x lo hi mx => sliceT F t (e x) (lo.map e) (hi.map e) (mx.map e) H d K
  | .makeSlice t x y => makeT F t (e x) (e y) d K
  | .extract x i => match e x with
    | .tup l => match l[i]? with
      | some (.tup _) => False
      | some s => K s []
      | none => False
    | _ => False
  | .makeFunc fn fst caps => match fn, fst.toList, caps.toList with
    | .func g, [], [x] => match e x with
      | .c (.loc i b off) => K (.c (.fn g i b off)) []
      | _ => False
    | _, _, _ => False
  | .call c => callT F Γ c.callee (calleeV c.callee e) (c.args.toList.map e) c.argTypes H d K
  | _ => False
def footR (o : Op) (e : Operand → SV) : List Nat := o.operands.toList.flatMap fun x => (e x).ids
def nestOf (refs : List Nat) : Option Ent → List Nat
  | some (.blk _ t cs) => if refs.contains t then cs.flatMap C.ids else []
  | some (.row _ _ t _ _ xs) => if refs.contains t then xs.flatMap C.ids else []
  | _ => []
def blind : Op → Bool
  | .move _ => true
  | .assign _ => true
  | .extract _ _ => true
  | .nilCheck _ => true
  | .fieldAddr _ _ _ => true
  | _ => false
def foot (refs : List Nat) (H : Heap) (o : Op) (e : Operand → SV) : List Nat := match blind o with
  | true => []
  | false => match o with
    | .call c => match c.callee with
      | .value (.func _) => footR o e ++ (footR o e).flatMap fun i => nestOf refs (H i)
      | _ => footR o e
    | _ => footR o e
theorem foot_sub (refs : List Nat) (H : Heap) (o : Op) (e : Operand → SV) : blind o = false → ∀ i ∈ footR o e, i ∈ foot refs H o e := by
  intro hb i hi
  unfold foot
  rw [hb]
  simp only
  split
  · split
    · exact List.mem_append_left _ hi
    · exact hi
  · exact hi
theorem foot_same {refs : List Nat} {H H' : Heap} {o : Op} {e : Operand → SV} (h : ∀ i ∈ foot refs H o e, H i = H' i) : foot refs H o e = foot refs H' o e := by
  cases hb : blind o with
  | true =>
    unfold foot
    rw [hb]
  | false =>
    have h1 : ∀ i ∈ footR o e, H i = H' i := fun i hi => h i (foot_sub refs H o e hb i hi)
    have key : ((footR o e).flatMap fun i => nestOf refs (H i)) = (footR o e).flatMap fun i => nestOf refs (H' i) := by
      revert h1
      generalize footR o e = l
      intro h1
      induction l with
      | nil => rfl
      | cons x r ih => rw [List.flatMap_cons, List.flatMap_cons, h1 x (by simp), ih (fun i hi => h1 i (by simp [hi]))]
    unfold foot
    rw [hb]
    simp only
    split
    · split
      · rw [key]
      · rfl
    · rfl
end Go.Proofs.YtbcicjmepojlnaaGreat.Eng
/- Each operation does what its predicate says; no condition. -/
namespace Go.Proofs.YtbcicjmepojlnaaGreat.Eng
open Go Go.RowKit
set_option autoImplicit false
set_option linter.unusedSimpArgs false
set_option linter.unusedVariables false
variable {P : Program} {F : TT} {n : Nat} {env : Env} {a : Act} {w w0 : World} {M : Nat → Prop} {H : Heap} {K : KT} {d : Nat}
theorem eval_ev (hE : EnvOk n env a) (x : Operand) (hk : (ev env x).known = true) : a.eval x = (ev env x).den := by
  cases x with
  | tmp t => 
    have := hE.slot t hk
    simp only [Act.eval, ev]
    rw [Array.getD_eq_getD_getElem?, this]; rfl
  | const v => exact (den_svOf v).symm
  | global g => rfl
  | func f => rfl
theorem eval_c {x : Operand} {c : C} (hE : EnvOk n env a) (hx : ev env x = .c c) (hc : c ≠ .any) : a.eval x = c.den := by
  have hk : (ev env x).known = true := by rw [hx]; cases c <;> first | rfl | exact absurd rfl hc
  rw [eval_ev hE x hk, hx]
  rfl
theorem eval_v {x : Operand} {v : Value} (hE : EnvOk n env a) (hx : ev env x = .c (.v v)) : a.eval x = v := eval_c hE hx (by simp)
theorem eval_agg {x : Operand} {l : List C} (hE : EnvOk n env a) (hx : ev env x = .agg l) : a.eval x = .agg (l.map C.den).toArray := by
  rw [eval_ev hE x (by rw [hx]; rfl), hx]
  rfl
def Post (dst : Option Nat) (a : Act) (w0 : World) (M : Nat → Prop) (H : Heap) (K : KT) (a' : Act) (w' : World) : Prop :=
  ∃ v u x, K v u ∧ a' = a.put dst x ∧ (v.known = true → x = v.den) ∧ HSat w0 M (upds H u) w'
theorem wp_pure {o : Oper} {Q : Exit → Act → World → Prop} (hH : HSat w0 M H w) (v : SV) (x : Value) (hK : K v []) (hx : v.known = true → x = v.den) (hrun : (execOp a.eval o).run P w = .ok (.value x) w) :
    o.wp P a w (Post o.dst a w0 M H K) Q := by
  unfold Oper.wp
  rw [hrun]
  exact ⟨v, [], x, hK, rfl, hx, hH⟩
theorem restrict_some {ids : List Nat} {i : Nat} {e : Ent} (h : restrict H ids i = some e) : H i = some e := by
  unfold restrict at h
  split at h
  · exact h
  · cases h
theorem szT_size {t m : Nat} {g : Bool} (h : szT P t = some (g, m)) : ∃ i, P.info? t = some i ∧ i.size = m := by
  unfold szT at h
  split at h <;> simp_all
theorem szT_agg {t m : Nat} {g : Bool} (h : szT P t = some (g, m)) (w : World) : (isAgg t).run P w = .ok g w := by
  unfold szT at h
  unfold isAgg
  split at h <;> simp_all [underlying]
theorem loadVar_agg {t m : Nat} (h : szT P t = some (true, m)) (p : Addr) (l : List Value) (hl : l.length = m) (hc : ∀ j u, l[j]? = some u → w.cell? (p.add j) = some u) :
    (loadVar t p).run P w = .ok (.agg l.toArray) w := by
  obtain ⟨i, hi, hs⟩ := szT_size h
  simp only [loadVar, Sem.run_bind, szT_agg h, Result.andThen_ok, if_true, sizeOf, typeInfo, run_program, hi, hs, Sem.run_pure]
  rw [← hl, run_loadCells_list w p l hc]
  rfl
theorem loadVar_one {t m : Nat} (h : szT P t = some (false, m)) (p : Addr) (u : Value) (hc : w.cell? p = some u) :
    (loadVar t p).run P w = .ok u w := by
  simp only [loadVar, Sem.run_bind, szT_agg h, Result.andThen_ok, Bool.false_eq_true, if_false, run_load, hc]
theorem cell_blk {b t : Nat} {cs : List C} (h : (Ent.blk b t cs).holds w) (j : Nat) : w.cell? ⟨b, j, none⟩ = (cs.map C.den)[j]? := by
  have : w.heap[b]? = some (.cells (cs.map C.den).toArray t (0, 0)) := h
  rw [cell_of_row w b j _ t (0, 0) this]
  simp
theorem add_loc (b o j : Nat) : (⟨b, o, none⟩ : Addr).add j = ⟨b, o + j, none⟩ := by unfold Addr.add; split <;> simp_all
theorem cells_rd {A : Option Addr} {sz m : Nat} {xs : List C} (h : (Ent.rd A sz m xs).holds w) (hx : xs ≠ []) : ∀ j u, (xs.map C.den)[j]? = some u → w.cell? ((A.getD ⟨0, 0, none⟩).add j) = some u := by
  obtain ⟨p, rfl, _, hc⟩ := h.2 hx
  exact hc
theorem cells_row {A : Option Addr} {c t sz m : Nat} {xs : List C} (h : (Ent.row A c t sz m xs).holds w) (hx : xs ≠ []) : ∀ j u, (xs.map C.den)[j]? = some u → w.cell? ((A.getD ⟨0, 0, none⟩).add j) = some u := by
  have hl : 0 < xs.length := List.length_pos_iff.2 hx
  have hc : 0 < c := by
    rcases Nat.eq_zero_or_pos c with h0 | h0
    · have := h.2.1; have h1 := h.1; rw [show m = 0 by omega] at h1; omega
    · exact h0
  obtain ⟨g, cur, rfl, hg, _, _, ht⟩ := h.2.2 hc
  intro j u hu
  show w.cell? ((⟨g, 0, none⟩ : Addr).add j) = some u
  rw [add_loc, Nat.zero_add, cell_of_row w g j cur t (0, 0) hg]
  rw [← ht, List.getElem?_take] at hu
  split at hu
  · simpa using hu
  · cases hu
theorem getElem?_drop_take {α : Type} (l : List α) (k m j : Nat) : ((l.drop k).take m)[j]? = if j < m then l[k + j]? else none := by
  rw [List.getElem?_take]
  split
  · rw [List.getElem?_drop]
  · rfl
theorem load_sound (hF : TTok P F) {o : Oper} {Q : Exit → Act → World → Prop} (hE : EnvOk n env a) (hH : HSat w0 M H w) (t : TypeId) (x : Operand) (ho : o.op = .load t x) (ids : List Nat)
    (h : loadT F t (ev env x) (restrict H ids) K) : o.wp P a w (Post o.dst a w0 M H K) Q := by
  unfold loadT at h
  split at h
  · rename_i id b off hx
    have hev := eval_c hE hx (by simp)
    split at h
    · rename_i b' t' cs hHid
      obtain ⟨rfl, h⟩ := h
      have hent := hH.holds _ _ (restrict_some hHid)
      split at h
      · rename_i m hsz
        have hsz := hF.sz_ hsz
        obtain ⟨hlen, hK⟩ := h
        refine wp_pure hH _ _ hK (fun _ => rfl) ?_
        unfold execOp
        simp only [ho, hev, C.den, Sem.run_bind, Instr.loadAt, Instr.sureAddr, Sem.run_pure, Result.andThen_ok]
        rw [loadVar_agg hsz ⟨b, off, none⟩ (((cs.drop off).take m).map C.den) (by simp; omega) ?_]
        · rfl
        · intro j u hu
          rw [add_loc, cell_blk hent]
          rw [List.getElem?_map, getElem?_drop_take] at hu
          split at hu
          · rw [List.getElem?_map]; exact hu
          · cases hu
      · rename_i m hsz
        have hsz := hF.sz_ hsz
        split at h
        · rename_i c hc
          refine wp_pure hH _ c.den h (fun hk => by cases c <;> first | rfl | cases hk) ?_
          unfold execOp
          simp only [ho, hev, C.den, Sem.run_bind, Instr.loadAt, Instr.sureAddr, Sem.run_pure, Result.andThen_ok]
          rw [loadVar_one hsz ⟨b, off, none⟩ c.den (by rw [cell_blk hent, List.getElem?_map, hc]; rfl)]
          rfl
        · exact h.elim
      · exact h.elim
    · exact h.elim
  · rename_i id A k hx
    have hev := eval_c hE hx (by simp)
    have main : ∀ xs : List C, (xs ≠ [] → ∀ j u, (xs.map C.den)[j]? = some u → w.cell? ((A.getD ⟨0, 0, none⟩).add j) = some u) →
        (match look F.sz t with
        | some (true, m) => 0 < m ∧ k + m ≤ xs.length ∧ K (.agg ((xs.drop k).take m)) []
        | some (false, _) => match xs[k]? with
          | some x => K (.c x) []
          | none => False
        | none => False) → o.wp P a w (Post o.dst a w0 M H K) Q := by
      intro xs hcells h
      split at h
      · rename_i m hsz
        have hsz := hF.sz_ hsz
        obtain ⟨hm, hlen, hK⟩ := h
        refine wp_pure hH _ _ hK (fun _ => rfl) ?_
        unfold execOp
        simp only [ho, hev, C.den, Sem.run_bind, Instr.loadAt, Instr.sureAddr, Sem.run_pure, Result.andThen_ok]
        rw [loadVar_agg hsz _ (((xs.drop k).take m).map C.den) (by simp; omega) ?_]
        · rfl
        · intro j u hu
          rw [add_add]
          refine hcells (fun e => by subst e; simp at hlen; omega) (k + j) u ?_
          rw [List.getElem?_map, getElem?_drop_take] at hu
          split at hu
          · rw [List.getElem?_map]; exact hu
          · cases hu
      · rename_i m hsz
        have hsz := hF.sz_ hsz
        split at h
        case h_2 => exact h.elim
        rename_i c hc
        refine wp_pure hH _ c.den h (fun hk => by cases c <;> first | rfl | cases hk) ?_
        unfold execOp
        simp only [ho, hev, C.den, Sem.run_bind, Instr.loadAt, Instr.sureAddr, Sem.run_pure, Result.andThen_ok]
        rw [loadVar_one hsz _ c.den (hcells (fun e => by subst e; cases hc) k _ (by rw [List.getElem?_map, hc]; rfl))]
        rfl
      · exact h.elim
    split at h
    · rename_i A' sz' m xs hHid
      obtain ⟨rfl, h⟩ := h
      exact main xs (fun hx => cells_rd (hH.holds _ _ (restrict_some hHid)) hx) h
    · rename_i A' c' t' sz' m xs hHid
      obtain ⟨rfl, h⟩ := h
      exact main xs (fun hx => cells_row (hH.holds _ _ (restrict_some hHid)) hx) h
    · exact h.elim
  · exact h.elim
end Go.Proofs.YtbcicjmepojlnaaGreat.Eng
/- Each operation does what its predicate says: stores, new blocks; no condition. -/
namespace Go.Proofs.YtbcicjmepojlnaaGreat.Eng
open Go Go.RowKit
set_option autoImplicit false
set_option linter.unusedSimpArgs false
set_option linter.unusedVariables false
variable {P : Program} {F : TT} {n : Nat} {env : Env} {a : Act} {w w0 : World} {M : Nat → Prop} {H : Heap} {K : KT} {d : Nat}
theorem wp_skipped {o : Oper} {Q : Exit → Act → World → Prop} {w' : World} (v : SV) (u : Upd) (hv : v.known = false) (hK : K v u) (hH : HSat w0 M (upds H u) w') (hrun : (execOp a.eval o).run P w = .ok .skip w') :
    o.wp P a w (Post o.dst a w0 M H K) Q := by
  unfold Oper.wp
  rw [hrun]
  exact ⟨v, u, undef, hK, rfl, (fun h => by rw [hv] at h; cases h), hH⟩
theorem wp_made {o : Oper} {Q : Exit → Act → World → Prop} {w' : World} (v : SV) (u : Upd) (x : Value) (hx : v.known = true → x = v.den) (hK : K v u) (hH : HSat w0 M (upds H u) w') (hrun : (execOp a.eval o).run P w = .ok (.value x) w') :
    o.wp P a w (Post o.dst a w0 M H K) Q := by
  unfold Oper.wp
  rw [hrun]
  exact ⟨v, u, x, hK, rfl, hx, hH⟩
theorem HSat.block {i : Nat} {b t : Nat} {cs : List C} (hH : HSat w0 M H w) (h : H i = some (.blk b t cs)) : w.heap[b]? = some (.cells (cs.map C.den).toArray t (0, 0)) := hH.holds i _ h
theorem HSat.setRow {i j : Nat} {g t : Nat} {old new : Array Value} {e e' : Ent} (hH : HSat w0 M H w) (hi : H i = some e) (hm : e.mut = true) (hb : e.block = some g)
    (hg : w.heap[g]? = some (.cells old t (0, 0))) (hh : e'.holds (w.setRow g new)) (hb' : ∀ k, e'.block = some k → k = g) : HSat w0 M (upd (upd H i none) j (some e')) (w.setRow g new) := by
  have h1 := hH.step (w' := w.setRow g new) (some i) (fun k => k = g) rfl rfl rfl (by simp) (fun k _ hk => setRow_other w g k new hk) (fun k hk _ => ⟨i, e, rfl, hi, hm, by rw [hk]; exact hb⟩) j e' hh
    (fun k hk => ⟨by rw [hb' k hk, setRow_size]; exact hH.lt i e hi g hb, .inl (hb' k hk)⟩)
  exact h1
theorem upd_upd_none (H : Heap) (i : Nat) (e : Option Ent) : upd (upd H i none) i e = upd H i e := by
  funext t
  simp only [upd_apply]
  split <;> rfl
theorem splice_get {α : Type} (l r : List α) (o : Nat) (h : o + r.length ≤ l.length) (j : Nat) : (l.take o ++ r ++ l.drop (o + r.length))[j]? = if j < o then l[j]? else if j < o + r.length then r[j - o]? else l[j]? := by
  have e1 : (l.take o).length = o := by rw [List.length_take]; omega
  by_cases hj : j < o
  · rw [if_pos hj, List.append_assoc, List.getElem?_append_left (by omega), List.getElem?_take, if_pos hj]
  · rw [if_neg hj, List.append_assoc, List.getElem?_append_right (by omega), e1]
    by_cases hj2 : j < o + r.length
    · rw [if_pos hj2, List.getElem?_append_left (by omega)]
    · rw [if_neg hj2, List.getElem?_append_right (by omega), List.getElem?_drop]
      congr 1
      omega
theorem putCells_eq (cs : List C) (o : Nat) (l : List C) (h : o + l.length ≤ cs.length) : (putCells cs o l).map C.den = (cs.map C.den).take o ++ l.map C.den ++ (cs.map C.den).drop (o + l.length) := by
  unfold putCells
  split
  · rename_i x
    apply List.ext_getElem?
    intro j
    have hs := splice_get (cs.map C.den) ([x].map C.den) o (by simpa using h) j
    simp only [List.length_map] at hs
    rw [hs, List.map_set, List.getElem?_set]
    simp only [List.length_map, List.length_singleton] at h ⊢
    by_cases hj : j < o
    · rw [if_neg (by omega), if_pos hj]
    · rw [if_neg hj]
      by_cases hj2 : o = j
      · subst hj2; rw [if_pos rfl, if_pos (by omega), if_pos (by omega)]; simp
      · rw [if_neg hj2, if_neg (by omega)]
  · simp
theorem store_sound (hF : TTok P F) {o : Oper} {Q : Exit → Act → World → Prop} (hE : EnvOk n env a) (hH : HSat w0 M H w) (t : TypeId) (x y : Operand) (ho : o.op = .store t x y) (ids : List Nat)
    (h : storeT F t (ev env x) (ev env y) (restrict H ids) K) : o.wp P a w (Post o.dst a w0 M H K) Q := by
  unfold storeT at h
  split at h
  · exact h.elim
  · rename_i l hl
    obtain ⟨h1, hsz0, h⟩ := h
    obtain ⟨g0, hsz⟩ : ∃ g, szT P t = some (g, l.length) := by
      split at hsz0
      · rename_i g m hl
        subst hsz0
        exact ⟨g, hF.sz_ hl⟩
      · exact hsz0.elim
    obtain ⟨inf, hinf, hsize⟩ := szT_size hsz
    have hcells : (a.eval y).cells = (l.map C.den).toArray := by
      cases hy : ev env y with
      | c c =>
        rw [hy] at hl
        cases c with
        | any => cases hl
        | v x =>
          injection hl with hl; subst hl
          rw [eval_c hE hy (by simp)]
          have : x.oneCell' = true := by simpa [ok1, C.den] using h1
          cases x <;> first | rfl | (simp [Value.oneCell'] at this)
        | loc i b o => injection hl with hl; subst hl; rw [eval_c hE hy (by simp)]; rfl
        | sl i A m c => injection hl with hl; subst hl; rw [eval_c hE hy (by simp)]; rfl
        | el i A k => injection hl with hl; subst hl; rw [eval_c hE hy (by simp)]; rfl
        | fn f i b o => injection hl with hl; subst hl; rw [eval_c hE hy (by simp)]; rfl
      | agg l' => rw [hy] at hl; injection hl with hl; subst hl; rw [eval_agg hE hy]; rfl
      | tup l' => rw [hy] at hl; cases hl
    have hone : ∀ v ∈ l.map C.den, v.oneCell' = true := by
      intro v hv
      obtain ⟨c, hc, rfl⟩ := List.mem_map.1 hv
      exact List.all_eq_true.1 h1 c hc
    have hstore : ∀ (p : Addr) (w' : World), (storeCells p (l.map C.den)).run P w = .ok () w' → a.eval x = .pointer (some p) → (execOp a.eval o).run P w = .ok .skip w' := by
      intro p w' hrun hx
      unfold execOp
      simp only [ho, hx, Sem.run_bind, Instr.storeAt, Instr.sureAddr, Sem.run_pure, Result.andThen_ok, storeVar, sizeOf, typeInfo, run_program, hinf, hsize, hcells]
      simp [hrun]
    split at h
    · rename_i id b off hx
      have hev := eval_c hE hx (by simp)
      split at h
      · rename_i b' t' cs hHid
        obtain ⟨rfl, hlen, hK⟩ := h
        have hHid' := restrict_some hHid
        have hg := hH.block hHid'
        have hst := run_storeCells_at P b off t' (l.map C.den) 0 (cs.map C.den).toArray w hg (by simpa using hlen) hone
        refine wp_skipped _ _ rfl hK ?_ (hstore _ _ hst hev)
        have := hH.setRow (j := id) (new := ((cs.map C.den).toArray.toList.take (off + 0) ++ l.map C.den ++ (cs.map C.den).toArray.toList.drop (off + 0 + (l.map C.den).length)).toArray) (e' := .blk b t' (putCells cs off l)) hHid' rfl rfl hg ?_ (fun k hk => by injection hk with hk; exact hk.symm)
        · rw [upd_upd_none] at this
          exact this
        · show (w.setRow b _).heap[b]? = _
          rw [setRow_heap w b _ _ t' (0, 0) hg, putCells_eq cs off l hlen]
          simp
      · exact h.elim
    · rename_i id A k hx
      have hev := eval_c hE hx (by simp)
      split at h
      · rename_i A' c t' sz m xs hHid
        obtain ⟨rfl, hpos, hlen, hK⟩ := h
        have hHid' := restrict_some hHid
        obtain ⟨hxl, hmc, hrow⟩ := hH.holds _ _ hHid'
        have hc : 0 < c := by
          rcases Nat.eq_zero_or_pos c with h0 | h0
          · rw [show m = 0 by omega] at hxl; omega
          · exact h0
        obtain ⟨g, cur, rfl, hg, hcm, hcs, htake⟩ := hrow hc
        have hev' : a.eval x = .pointer (some ⟨g, k, none⟩) := by rw [hev]; show Value.pointer (some ((⟨g, 0, none⟩ : Addr).add k)) = _; rw [add_loc, Nat.zero_add]
        have hle : m * sz ≤ c * sz := Nat.mul_le_mul_right _ hmc
        have hst := run_storeCells_at P g k t' (l.map C.den) 0 cur w hg (by simp; omega) hone
        refine wp_skipped _ _ rfl hK ?_ (hstore _ _ hst hev')
        have := hH.setRow (j := id) (new := (cur.toList.take (k + 0) ++ l.map C.den ++ cur.toList.drop (k + 0 + (l.map C.den).length)).toArray) (e' := .row (some ⟨g, 0, none⟩) c t' sz m (putCells xs k l)) hHid' rfl (by simp [Ent.block]; omega) hg ?_ (fun k hk => by simp [Ent.block] at hk; exact hk.2.symm)
        · rw [upd_upd_none] at this
          exact this
        · have hpl : (putCells xs k l).length = xs.length := by
            have := congrArg List.length (putCells_eq xs k l hlen)
            simp at this
            omega
          refine ⟨by rw [hpl]; exact hxl, hmc, fun _ => ⟨g, _, rfl, setRow_heap w g _ _ t' (0, 0) hg, hcm, ?_, ?_⟩⟩
          · simp; omega
          · rw [putCells_eq xs k l hlen, ← htake]
            simp only [Nat.add_zero]
            apply List.ext_getElem?
            intro j
            have hs1 := splice_get cur.toList (l.map C.den) k (by simp; omega) j
            have hs2 := splice_get (cur.toList.take (m * sz)) (l.map C.den) k (by simp; omega) j
            simp only [List.length_map] at hs1 hs2 ⊢
            rw [hs2, List.getElem?_take, hs1, List.getElem?_take]
            by_cases hj : j < m * sz
            · rw [if_pos hj, if_pos hj]
            · rw [if_neg hj, if_neg (by omega), if_neg (by omega), if_neg hj]
      · exact h.elim
    · exact h.elim
theorem HSat.newBlk (hH : HSat w0 M H w) (d t : Nat) (cs : List C) : HSat w0 M (upd H d (some (.blk w.heap.size t cs))) (w.alloc (.cells (cs.map C.den).toArray t)) := by
  have h1 : (Ent.blk w.heap.size t cs).holds (w.alloc (.cells (cs.map C.den).toArray t)) := heap_alloc_new w _
  refine hH.step (w' := w.alloc (.cells (cs.map C.den).toArray t)) none (fun _ => False) rfl rfl rfl (by simp) (fun k hk _ => heap_alloc_old w _ k hk) (fun _ h => h.elim) d _ h1 ?_
  intro g hg
  have hg' : w.heap.size = g := by injection hg
  subst hg'
  exact ⟨by simp, .inr (Nat.le_refl _)⟩
theorem alloc_sound (hF : TTok P F) {o : Oper} {Q : Exit → Act → World → Prop} (hE : EnvOk n env a) (hH : HSat w0 M H w) (t : TypeId) (ho : o.op = .alloc t)
    (h : match zeroF F t with
      | some cs => ∀ b, K (.c (.loc d b 0)) [(d, some (.blk b t cs))]
      | none => False) : o.wp P a w (Post o.dst a w0 M H K) Q := by
  split at h
  · rename_i cs hz
    have hz := hF.zeroF_ hz
    unfold zeroT at hz
    obtain ⟨z, hz0, rfl⟩ := Option.map_eq_some_iff.1 hz
    obtain ⟨i, hi, hz1⟩ := Option.bind_eq_some_iff.1 hz0
    refine wp_made (w' := w.alloc (.cells z.cells t)) _ _ (.pointer (some ⟨w.heap.size, 0, none⟩)) (fun _ => rfl) (h w.heap.size) ?_ ?_
    · have := hH.newBlk d t (z.cells.toList.map cOf)
      rw [map_den_cOf] at this
      simpa [upds] using this
    · unfold execOp
      simp [ho, Instr.alloc, zeroValue, typeInfo, hi, hz1, newVar, newRow]
  · exact h.elim
theorem box_sound {o : Oper} {Q : Exit → Act → World → Prop} (hE : EnvOk n env a) (hH : HSat w0 M H w) (t : TypeId) (x : Operand) (ho : o.op = .box t x)
    (h : match (ev env x).cells? with
      | some cs => ok1 cs = true ∧ ∀ b, K (.c (.loc d b 0)) [(d, some (.blk b t cs))]
      | none => False) : o.wp P a w (Post o.dst a w0 M H K) Q := by
  split at h
  · rename_i cs hz
    obtain ⟨h1, h⟩ := h
    have hcells : (a.eval x).cells = (cs.map C.den).toArray := by
      cases hy : ev env x with
      | c c =>
        rw [hy] at hz
        cases c with
        | any => cases hz
        | v x =>
          injection hz with hz; subst hz
          rw [eval_c hE hy (by simp)]
          have : x.oneCell' = true := by simpa [ok1, C.den] using h1
          cases x <;> first | rfl | (simp [Value.oneCell'] at this)
        | loc i b o => injection hz with hz; subst hz; rw [eval_c hE hy (by simp)]; rfl
        | sl i A m c => injection hz with hz; subst hz; rw [eval_c hE hy (by simp)]; rfl
        | el i A k => injection hz with hz; subst hz; rw [eval_c hE hy (by simp)]; rfl
        | fn f i b o => injection hz with hz; subst hz; rw [eval_c hE hy (by simp)]; rfl
      | agg l' => rw [hy] at hz; injection hz with hz; subst hz; rw [eval_agg hE hy]; rfl
      | tup l' => rw [hy] at hz; cases hz
    refine wp_made (w' := w.alloc (.cells (cs.map C.den).toArray t)) _ _ (.pointer (some ⟨w.heap.size, 0, none⟩)) (fun _ => rfl) (h w.heap.size) (by simpa [upds] using hH.newBlk d t cs) ?_
    unfold execOp
    simp [ho, Instr.box, newVar, newRow, hcells]
  · exact h.elim
end Go.Proofs.YtbcicjmepojlnaaGreat.Eng
