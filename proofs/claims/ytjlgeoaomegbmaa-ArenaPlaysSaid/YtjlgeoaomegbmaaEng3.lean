/- Each operation as a predicate on what it gives and what it turns; definitions alone; no condition. -/
import Derived.Test.YtjlgeoaomegbmaaEng2
namespace Go.Proofs.Ytjlgeoaomegbmaa.Eng
open Go Go.RowKit
set_option autoImplicit false

/-! What is asked of the program's types: closed facts, settled once a type. -/
def szT (P : Program) (t : TypeId) : Option (Bool × Nat) := match P.underlying t, P.info? t with
  | some (.struct _), some i => some (true, i.size)
  | some (.array _ _), some i => some (true, i.size)
  | some _, some i => some (false, i.size)
  | _, _ => none
def zeroT (P : Program) (t : TypeId) : Option (List C) := ((P.info? t).bind (·.zero)).map fun z => z.cells.toList.map cOf
def fieldT (P : Program) (t f : Nat) : Option Nat := match P.underlying t with
  | some (.struct fs) => match fs[f]? with
    | some x => match P.info? x.type with
      | some i => if i.size = 0 then none else some x.offset
      | none => none
    | none => none
  | _ => none
def placesT (P : Program) (t : TypeId) : Option (List (Nat × Nat)) := match P.underlying t with
  | some (.struct fs) => fs.toList.mapM fun f => (P.info? f.type).map fun i => (f.offset, i.size)
  | _ => none
def arrT (P : Program) (t : TypeId) : Option (Nat × Nat) := match P.underlying t with
  | some (.array n e) => (P.info? e).map fun i => (n, i.size)
  | _ => none
/-- A slice type: its element, the element's cells, bytes, zero cells. -/
def slT (P : Program) (t : TypeId) : Option (TypeId × Nat × Nat × Nat) := match P.underlying t with
  | some (.slice e) => match P.info? e with
    | some i => i.zero.map fun z => (e, i.size, i.bytes, z.cells.size)
    | none => none
  | _ => none
def intT (P : Program) (t : TypeId) : Option IntKind := match P.underlying t with
  | some (.int k) => some k
  | _ => none

/-- '==' of two structs is r. -/
def EqFact (P : Program) (t : TypeId) (xs ys : List C) (r : Bool) : Prop :=
  P.eqGuardType P.depth t = false ∧ ∀ w, (Op.equalIn 10000 t (.agg (xs.map C.den).toArray) (.agg (ys.map C.den).toArray)).run P w = .ok r w

inductive LK where
  | int (k : IntKind)
  | bool
/-- '==' of two structs of numbers and bools, cell by cell. -/
def eqCells : List LK → List C → List C → Option Bool
  | [], [], [] => some true
  | .int k :: ks, .v (.int k1 a) :: xs, .v (.int k2 b) :: ys => if k1 = k then if k2 = k then match eqCells ks xs ys with
    | some r => some ((a == b) && r)
    | none => none
    else none else none
  | .bool :: ks, .v (.bool a) :: xs, .v (.bool b) :: ys => match eqCells ks xs ys with
    | some r => some ((a == b) && r)
    | none => none
  | _, _, _ => none

def look {α : Type} : List (Nat × α) → Nat → Option α
  | [], _ => none
  | (k, v) :: r, t => if t = k then some v else look r t
theorem look_mem {α : Type} {p : Nat → α → Prop} : ∀ {l : List (Nat × α)} {t : Nat} {v : α}, (∀ q ∈ l, p q.1 q.2) → look l t = some v → p t v
  | [], t, v, _, h => by cases h
  | (k, x) :: r, t, v, hp, h => by
    simp only [look] at h
    split at h
    · rename_i e; subst e; injection h with h; subst h; exact hp (t, x) (by simp)
    · exact look_mem (fun q hq => hp q (by simp [hq])) h

/-- The program's types, in a table of numbers: what a walk looks at. -/
structure TT where
  sz : List (Nat × (Bool × Nat))
  ze : List (Nat × List C)
  fi : List (Nat × List Nat)
  pl : List (Nat × List (Nat × Nat))
  ar : List (Nat × (Nat × Nat))
  sl : List (Nat × (TypeId × Nat × Nat × Nat))
  int : List (Nat × IntKind)
  bool : List (Nat × Unit)
  eq : List (Nat × List LK)
  ptr : List (Nat × Unit) := []
  refs : List Nat := []

structure TTok (P : Program) (F : TT) : Prop where
  sz : ∀ q ∈ F.sz, szT P q.1 = some q.2
  ze : ∀ q ∈ F.ze, zeroT P q.1 = some q.2
  fi : ∀ q ∈ F.fi, ∀ (k o : Nat), q.2[k]? = some o → fieldT P q.1 k = some o
  pl : ∀ q ∈ F.pl, placesT P q.1 = some q.2
  ar : ∀ q ∈ F.ar, arrT P q.1 = some q.2
  sl : ∀ q ∈ F.sl, slT P q.1 = some q.2
  int : ∀ q ∈ F.int, intT P q.1 = some q.2
  bool : ∀ q ∈ F.bool, P.underlying q.1 = some .bool
  eq : ∀ q ∈ F.eq, ∀ xs ys r, eqCells q.2 xs ys = some r → EqFact P q.1 xs ys r
  ptr : ∀ q ∈ F.ptr, ∃ e, P.underlying q.1 = some (.pointer e)

section
variable {P : Program} {F : TT}
theorem TTok.sz_ (h : TTok P F) {t : Nat} {r : Bool × Nat} (e : look F.sz t = some r) : szT P t = some r := look_mem (p := fun t r => szT P t = some r) h.sz e
theorem TTok.ze_ (h : TTok P F) {t : Nat} {r : List C} (e : look F.ze t = some r) : zeroT P t = some r := look_mem (p := fun t r => zeroT P t = some r) h.ze e
theorem TTok.pl_ (h : TTok P F) {t : Nat} {r : List (Nat × Nat)} (e : look F.pl t = some r) : placesT P t = some r := look_mem (p := fun t r => placesT P t = some r) h.pl e
theorem TTok.ar_ (h : TTok P F) {t : Nat} {r : Nat × Nat} (e : look F.ar t = some r) : arrT P t = some r := look_mem (p := fun t r => arrT P t = some r) h.ar e
theorem TTok.sl_ (h : TTok P F) {t : Nat} {r : TypeId × Nat × Nat × Nat} (e : look F.sl t = some r) : slT P t = some r := look_mem (p := fun t r => slT P t = some r) h.sl e
theorem TTok.int_ (h : TTok P F) {t : Nat} {r : IntKind} (e : look F.int t = some r) : intT P t = some r := look_mem (p := fun t r => intT P t = some r) h.int e
theorem TTok.bool_ (h : TTok P F) {t : Nat} {r : Unit} (e : look F.bool t = some r) : P.underlying t = some .bool := look_mem (p := fun t _ => P.underlying t = some .bool) h.bool e
theorem TTok.eq_ (h : TTok P F) {t : Nat} {ks : List LK} (e : look F.eq t = some ks) : ∀ xs ys r, eqCells ks xs ys = some r → EqFact P t xs ys r := look_mem (p := fun t ks => ∀ xs ys r, eqCells ks xs ys = some r → EqFact P t xs ys r) h.eq e
theorem TTok.ptr_ (h : TTok P F) {t : Nat} {r : Unit} (e : look F.ptr t = some r) : ∃ e, P.underlying t = some (.pointer e) := look_mem (p := fun t _ => ∃ e, P.underlying t = some (.pointer e)) h.ptr e
theorem slT_under {t : Nat} {r : TypeId × Nat × Nat × Nat} (e : slT P t = some r) : P.underlying t = some (.slice r.1) := by
  unfold slT at e
  split at e
  · rename_i e' hd
    split at e
    · rename_i i hi
      obtain ⟨z, hz, rfl⟩ := Option.map_eq_some_iff.1 e
      exact hd
    · cases e
  · cases e
end

def fieldF (F : TT) (t f : Nat) : Option Nat := match look F.fi t with
  | some l => l[f]?
  | none => none

def putCells (cs : List C) (off : Nat) (new : List C) : List C := match new with
  | [x] => cs.set off x
  | _ => cs.take off ++ new ++ cs.drop (off + new.length)

/-- The parts laid over a struct's zero cells. -/
def fillC (places : List (Nat × Nat)) : List C → List (Nat × SV) → Option (List C)
  | cs, [] => some cs
  | cs, (i, x) :: r => match places[i]?, x.cells? with
    | some (off, size), some l => if l.length = size ∧ off + size ≤ cs.length then fillC places (putCells cs off l) r else none
    | _, _ => none
def catC (size : Nat) : List (Nat × SV) → Nat → Option (List C)
  | [], _ => some []
  | (i, x) :: r, k => match x.cells? with
    | some l => if i = k ∧ l.length = size then (catC size r (k + 1)).map (l ++ ·) else none
    | none => none

def intOp (op : BinOp) (k : IntKind) (a b : Int) : Option Value := match op with
  | .add => some (.int k (k.wrap (a + b)))
  | .sub => some (.int k (k.wrap (a - b)))
  | .mul => some (.int k (k.wrap (a * b)))
  | .and => some (.int k (bits .and k a b))
  | .or => some (.int k (bits .or k a b))
  | .xor => some (.int k (bits .xor k a b))
  | .andNot => some (.int k (bits .andNot k a b))
  | .eql => some (.bool (a == b))
  | .neq => some (.bool (a != b))
  | .lss => some (.bool (decide (a < b)))
  | .leq => some (.bool (decide (a ≤ b)))
  | .gtr => some (.bool (decide (a > b)))
  | .geq => some (.bool (decide (a ≥ b)))
  | _ => none

abbrev KT := SV → Upd → Prop
/-- What a call asks, and what it may give and turn. -/
structure Res where
  side : Prop
  R : SV → Upd → Prop
/-- A function's contract: arguments, what is tracked of them, the number for what is new. -/
abbrev Spec := List SV → Heap → Nat → Res

def binT (F : TT) (op : BinOp) (t : TypeId) (x y : SV) (K : KT) : Prop :=
  match x, y with
  | .c (.v (.int k a)), .c (.v (.int k' b)) => match op with
    | .shl => (0 ≤ b ∧ b ≤ k.bits) ∧ K (.c (.v (.int k (k.wrap (a * 2 ^ b.toNat))))) []
    | .quo => k = k' ∧ b ≠ 0 ∧ K (.c (.v (.int k (k.wrap (a.tdiv b))))) []
    | .rem => k = k' ∧ b ≠ 0 ∧ K (.c (.v (.int k (a.tmod b)))) []
    | op => k = k' ∧ match intOp op k a b with
      | some v => K (.c (.v v)) []
      | none => False
  | .c (.loc _ _ _), .c (.v (.pointer none)) => look F.ptr t = some () ∧ match op with
    | .eql => K (.c (.v (.bool false))) []
    | .neq => K (.c (.v (.bool true))) []
    | _ => False
  | .c (.v (.bool a)), .c (.v (.bool b)) => look F.bool t = some () ∧ match op with
    | .eql => K (.c (.v (.bool (a == b)))) []
    | .neq => K (.c (.v (.bool (!(a == b))))) []
    | _ => False
  | .agg xs, .agg ys => match op with
    | .eql => match look F.eq t with
      | some ks => match eqCells ks xs ys with
        | some r => K (.c (.v (.bool r))) []
        | none => False
      | none => False
    | .neq => match look F.eq t with
      | some ks => match eqCells ks xs ys with
        | some r => K (.c (.v (.bool (!r)))) []
        | none => False
      | none => False
    | _ => False
  | .c (.sl _ A _ _), .c (.sl i none 0 0) => i = nilId ∧ match look F.sl t with
    | none => False
    | some _ => match op with
    | .eql => K (.c (.v (.bool A.isNone))) []
    | .neq => K (.c (.v (.bool (!A.isNone)))) []
    | _ => False
  | _, _ => False

def loadT (F : TT) (t : TypeId) (x : SV) (H : Heap) (K : KT) : Prop :=
  match x with
  | .c (.loc id b off) => match H id with
    | some (.blk b' _ cs) => b = b' ∧ match look F.sz t with
      | some (true, n) => off + n ≤ cs.length ∧ K (.agg ((cs.drop off).take n)) []
      | some (false, _) => match cs[off]? with
        | some x => K (.c x) []
        | none => False
      | none => False
    | _ => False
  | .c (.el id A k) => match H id with
    | some (.rd A' _ _ xs) => A = A' ∧ match look F.sz t with
      | some (true, n) => 0 < n ∧ k + n ≤ xs.length ∧ K (.agg ((xs.drop k).take n)) []
      | some (false, _) => match xs[k]? with
        | some x => K (.c x) []
        | none => False
      | none => False
    | some (.row A' _ _ _ _ xs) => A = A' ∧ match look F.sz t with
      | some (true, n) => 0 < n ∧ k + n ≤ xs.length ∧ K (.agg ((xs.drop k).take n)) []
      | some (false, _) => match xs[k]? with
        | some x => K (.c x) []
        | none => False
      | none => False
    | _ => False
  | _ => False

def storeT (F : TT) (t : TypeId) (x y : SV) (H : Heap) (K : KT) : Prop :=
  match y.cells? with
  | none => False
  | some l => ok1 l = true ∧ (match look F.sz t with | some (_, m) => m = l.length | none => False) ∧ match x with
    | .c (.loc id b off) => match H id with
      | some (.blk b' t' cs) => b = b' ∧ off + l.length ≤ cs.length ∧ K (.c .any) [(id, some (.blk b t' (putCells cs off l)))]
      | _ => False
    | .c (.el id A k) => match H id with
      | some (.row A' c t' size n xs) => A = A' ∧ 0 < l.length ∧ k + l.length ≤ xs.length ∧ K (.c .any) [(id, some (.row A c t' size n (putCells xs k l)))]
      | _ => False
    | _ => False

def indexT (F : TT) (t : TypeId) (x y : SV) (H : Heap) (K : KT) : Prop :=
  match x, y with
  | .c (.loc id b off), .c (.v (.int _ i)) => match look F.ar t with
    | some (n, sz) => 0 ≤ i ∧ i < n ∧ K (.c (.loc id b (off + i.toNat * sz))) []
    | none => False
  | .c (.sl id A n _), .c (.v (.int _ i)) => match look F.sl t with
    | some (_, sz, _, _) => 0 < sz ∧ 0 ≤ i ∧ i < n ∧ match H id with
      | some (.rd A' sz' n' _) => A = A' ∧ sz = sz' ∧ n = n' ∧ K (.c (.el id A (i.toNat * sz))) []
      | some (.row A' _ _ sz' n' _) => A = A' ∧ sz = sz' ∧ n = n' ∧ K (.c (.el id A (i.toNat * sz))) []
      | _ => False
    | none => False
  | _, _ => False

def rowOf : Option Ent → Option (Option Addr × Nat × Nat × List C)
  | some (.rd A sz n xs) => some (A, sz, n, xs)
  | some (.row A _ _ sz n xs) => some (A, sz, n, xs)
  | _ => none

def appendT (F : TT) (t t' : TypeId) (x y : SV) (H : Heap) (d : Nat) (K : KT) : Prop :=
  match look F.sl t, x, y with
  | some (e, sz, bytes, zs), .c (.sl id A n c), .c (.sl id' B m _) => t = t' ∧ zs = sz ∧ 0 < sz ∧ id ≠ id' ∧ (n + m) * bytes ≤ 140737488355328 ∧ n + m ≤ maxLen ∧
    match rowOf (H id') with
    | some (B', sz', m', ys) => B = B' ∧ m = m' ∧ (sz' = sz ∨ m = 0) ∧ ok1 ys = true ∧ match H id with
      | some (.row A' c' e' sz' n' xs) => A = A' ∧ c = c' ∧ e = e' ∧ sz = sz' ∧ n = n' ∧ ∀ A2 c2, K (.c (.sl d A2 (n + m) c2)) [(id, none), (d, some (.row A2 c2 e sz (n + m) (xs ++ ys)))]
      | some (.rd _ _ _ xs) => n = 0 ∧ c = 0 ∧ xs = [] ∧ ∀ A2 c2, K (.c (.sl d A2 m c2)) [(d, some (.row A2 c2 e sz m ys))]
      | _ => False
    | none => False
  | _, _, _ => False

/-- make([]T, n): as many zero cells. -/
def makeT (F : TT) (t : TypeId) (x y : SV) (d : Nat) (K : KT) : Prop :=
  match look F.sl t, x, y with
  | some (e, sz, bytes, _), .c (.v (.int _ n)), .c (.v (.int _ m)) => match look F.ze e with
    | some z => z.length = sz ∧ 0 < sz ∧ n = m ∧ (0 ≤ n ∧ n * bytes ≤ 281474976710656 ∧ n ≤ maxLen) ∧ ∀ A, K (.c (.sl d A n.toNat n.toNat)) [(d, some (.row A n.toNat e sz n.toNat (List.replicate n.toNat z).flatten))]
    | none => False
  | _, _, _ => False

def boundT (def_ : Nat) : Option SV → Option Int
  | none => some def_
  | some (.c (.v (.int _ i))) => some i
  | _ => none

/-- x[l:h]; max is not served but for both 0. -/
def sliceT (F : TT) (t : TypeId) (x : SV) (lo hi mx : Option SV) (H : Heap) (d : Nat) (K : KT) : Prop :=
  match look F.sl t, x, boundT 0 lo with
  | some (_, sz, _, _), .c (.sl id A n c), some l => match boundT n hi, mx with
    | some h, none => 0 ≤ l ∧ l ≤ h ∧ h ≤ n ∧ match H id with
      | some (.rd A' sz' n' xs) => A = A' ∧ sz = sz' ∧ n = n' ∧ n ≤ c ∧
          K (.c (.sl d (if c = l.toNat then A else A.map (·.add (l.toNat * sz))) (h.toNat - l.toNat) (c - l.toNat)))
            [(d, some (.rd (if c = l.toNat then A else A.map (·.add (l.toNat * sz))) sz (h.toNat - l.toNat) ((xs.drop (l.toNat * sz)).take ((h.toNat - l.toNat) * sz))))]
      | some (.row A' c' e sz' n' xs) => A = A' ∧ c = c' ∧ sz = sz' ∧ n = n' ∧ l = 0 ∧ 0 < c ∧ K (.c (.sl d A h.toNat c)) [(id, none), (d, some (.row A c e sz h.toNat (xs.take (h.toNat * sz))))]
      | _ => False
    | _, _ => False
  | _, _, _ => False

def foldT (f : Int → Int → Int) : List SV → Option (IntKind × Int)
  | [.c (.v (.int k a))] => some (k, a)
  | [.c (.v (.int k a)), .c (.v (.int k' b))] => if k = k' then some (k, f a b) else none
  | _ => none

def callT (F : TT) (Γ : FuncId → Spec) (callee : Callee) (args : List SV) (ts : Array TypeId) (H : Heap) (d : Nat) (K : KT) : Prop :=
  match callee with
  | .value (.func f) => args.all SV.known = true ∧ (Γ f args H d).side ∧ ∀ v u, (Γ f args H d).R v u → K v u
  | .builtin .len => match args with
    | [.c (.sl _ _ n _)] => ((ts[0]?).bind (look F.sl)).isSome = true ∧ K (.c (.v (.int .i64 n))) []
    | _ => False
  | .builtin .cap => match args with
    | [.c (.sl _ _ _ c)] => ((ts[0]?).bind (look F.sl)).isSome = true ∧ K (.c (.v (.int .i64 c))) []
    | _ => False
  | .builtin .max => match foldT (fun a b => if b > a then b else a) args with
    | some (k, a) => K (.c (.v (.int k a))) []
    | none => False
  | .builtin .min => match foldT (fun a b => if b < a then b else a) args with
    | some (k, a) => K (.c (.v (.int k a))) []
    | none => False
  | .builtin .append => match args with
    | [x, y] => ts.size = 2 ∧ appendT F (ts.getD 0 0) (ts.getD 1 0) x y H d K
    | _ => False
  | _ => False

/-- The operands' values; ev: of one operand. -/
def ev (env : Env) : Operand → SV
  | .tmp t => env t
  | .const v => svOf v
  | .global g => .c (.v (.pointer (some ⟨g, 0, none⟩)))
  | .func f => .c (.v (.func (.func f) #[] #[]))

theorem TTok.fi_ {P : Program} {F : TT} (h : TTok P F) {t f o : Nat} (e : fieldF F t f = some o) : fieldT P t f = some o := by
  unfold fieldF at e
  split at e
  · rename_i l hl
    exact look_mem (p := fun t l => ∀ (k o : Nat), l[k]? = some o → fieldT P t k = some o) h.fi hl f o e
  · cases e

/-- All the parts' cells are single values. -/
def partsOk (e : Operand → SV) (ps : Array (Nat × Operand)) : Bool := ps.toList.all fun p => match (e p.2).cells? with
  | some l => ok1 l
  | none => false

def opT (F : TT) (Γ : FuncId → Spec) (o : Op) (e : Operand → SV) (H : Heap) (d : Nat) (K : KT) : Prop :=
  match o with
  | .move x => K (e x) []
  | .assign x => K (e x) []
  | .pick c a b => match e c with
    | .c (.v (.bool t)) => (t = true → K (e a) []) ∧ (t = false → K (e b) [])
    | _ => False
  | .alloc t => match look F.ze t with
    | some cs => ∀ b, K (.c (.loc d b 0)) [(d, some (.blk b t cs))]
    | none => False
  | .box t x => match (e x).cells? with
    | some cs => ok1 cs = true ∧ ∀ b, K (.c (.loc d b 0)) [(d, some (.blk b t cs))]
    | none => False
  | .build t ps => match look F.pl t, look F.ze t with
    | some pl, some z => partsOk e ps = true ∧ match fillC pl z (ps.toList.map fun p => (p.1, e p.2)) with
      | some l => K (.agg l) []
      | none => False
    | _, _ => False
  | .buildSlice t n ps => match look F.sl t with
    | some (el, sz, _, zs) => n * sz ≤ 65536 ∧ zs = sz ∧ 0 < sz ∧ partsOk e ps = true ∧ match catC sz (ps.toList.map fun p => (p.1, e p.2)) 0 with
      | some l => l.length = n * sz ∧ ∀ A, K (.c (.sl d A n n)) [(d, some (.row A n el sz n l))]
      | none => False
    | none => False
  | .load t x => loadT F t (e x) H K
  | .store t x y => storeT F t (e x) (e y) H K
  | .nilCheck x => match e x with
    | .c (.loc i b o) => K (.c (.loc i b o)) []
    | .c (.el i A k) => K (.c (.el i A k)) []
    | _ => False
  | .binOp op t x y _ => binT F op t (e x) (e y) K
  | .unOp .not _ x => match e x with
    | .c (.v (.bool b)) => K (.c (.v (.bool (!b)))) []
    | _ => False
  | .unOp .neg _ x => match e x with
    | .c (.v (.int k n)) => K (.c (.v (.int k (k.wrap (0 - n))))) []
    | _ => False
  | .convert s t x => match e x, look F.int t, look F.int s with
    | .c (.v (.int _ n)), some k, some _ => K (.c (.v (.int k (k.wrap n)))) []
    | _, _, _ => False
  | .fieldAddr t x f => match fieldF F t f, e x with
    | some o, .c (.loc i b off) => K (.c (.loc i b (off + o))) []
    | some o, .c (.el i A k) => K (.c (.el i A (k + o))) []
    | _, _ => False
  | .indexAddr t x y => indexT F t (e x) (e y) H K
  | .slice t x lo hi mx => sliceT F t (e x) (lo.map e) (hi.map e) (mx.map e) H d K
  | .makeSlice t x y => makeT F t (e x) (e y) d K
  | .extract x i => match e x with
    | .tup l => match l[i]? with
      | some (.tup _) => False
      | some s => K s []
      | none => False
    | _ => False
  | .call c => callT F Γ c.callee (c.args.toList.map e) c.argTypes H d K
  | _ => False

/-- What an operation may look at of what is tracked; what it may turn. -/
def footR (o : Op) (e : Operand → SV) : List Nat := o.operands.toList.flatMap fun x => (e x).ids
/-- What a tracked thing's cells lead to, where its type is one of those whose cells lead on. -/
def nestOf (refs : List Nat) : Option Ent → List Nat
  | some (.blk _ t cs) => if refs.contains t then cs.flatMap C.ids else []
  | some (.row _ _ t _ _ xs) => if refs.contains t then xs.flatMap C.ids else []
  | _ => []
/-- What an operation looks at: of a call also what lies behind its arguments. -/
def foot (refs : List Nat) (H : Heap) (o : Op) (e : Operand → SV) : List Nat := match o with
  | .call c => match c.callee with
    | .value (.func _) => footR o e ++ (footR o e).flatMap fun i => nestOf refs (H i)
    | _ => footR o e
  | _ => footR o e
theorem foot_sub (refs : List Nat) (H : Heap) (o : Op) (e : Operand → SV) : ∀ i ∈ footR o e, i ∈ foot refs H o e := by
  intro i hi
  unfold foot
  split
  · split
    · exact List.mem_append_left _ hi
    · exact hi
  · exact hi
theorem foot_same {refs : List Nat} {H H' : Heap} {o : Op} {e : Operand → SV} (h : ∀ i ∈ foot refs H o e, H i = H' i) : foot refs H o e = foot refs H' o e := by
  have h1 : ∀ i ∈ footR o e, H i = H' i := fun i hi => h i (foot_sub refs H o e i hi)
  have key : ((footR o e).flatMap fun i => nestOf refs (H i)) = (footR o e).flatMap fun i => nestOf refs (H' i) := by
    revert h1
    generalize footR o e = l
    intro h1
    induction l with
    | nil => rfl
    | cons x r ih => rw [List.flatMap_cons, List.flatMap_cons, h1 x (by simp), ih (fun i hi => h1 i (by simp [hi]))]
  unfold foot
  split
  · split
    · rw [key]
    · rfl
  · rfl

end Go.Proofs.Ytjlgeoaomegbmaa.Eng
