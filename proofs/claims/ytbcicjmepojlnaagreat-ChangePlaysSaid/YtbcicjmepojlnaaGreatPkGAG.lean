/- Texts of this work, laid together: symbolic execution over the model, contracts of the program's functions, what they come to; conditions: as each says. -/
import Derived.Test.YtbcicjmepojlnaaGreatPkGAE
/- How the predicates are reckoned by 'cbv': a twin of each, in which what is not to be opened stands under a variable κ; no condition. -/
namespace Go.Proofs.YtbcicjmepojlnaaGreat.Eng
open Go Go.RowKit
set_option autoImplicit false
set_option linter.unusedSimpArgs false
set_option linter.unusedVariables false
variable {P : Program}
abbrev Kp := (α : Type) → α → α
def kid : Kp := fun _ x => x
structure Side (p : Prop) : Prop where
  h : p
structure LookR (o : Option C) (K : C → Prop) : Prop where
  h : ∃ x, o = some x ∧ K x
structure LookN (o : Option (List C)) (K : List C → Prop) : Prop where
  h : ∃ x, o = some x ∧ K x
theorem Side_eq (p : Prop) : Side p = p := propext ⟨fun h => h.h, fun h => ⟨h⟩⟩
theorem LookR.mk' {o : Option C} {K : C → Prop} {x : C} (h : o = some x) (hK : K x) : LookR o K := ⟨x, h, hK⟩
theorem LookN.mk' {o : Option (List C)} {K : List C → Prop} {x : List C} (h : o = some x) (hK : K x) : LookN o K := ⟨x, h, hK⟩
theorem LookR_eq (o : Option C) (K : C → Prop) : LookR o K = match o with | some x => K x | none => False := by
  apply propext
  cases o with
  | none => exact ⟨fun ⟨x, h, _⟩ => (by cases h), fun h => h.elim⟩
  | some y => exact ⟨fun ⟨x, h, hK⟩ => (by injection h with h; subst h; exact hK), fun h => ⟨y, rfl, h⟩⟩
def takeN (xs : List C) (k n : Nat) : Option (List C) := if 0 < n ∧ k + n ≤ xs.length then some ((xs.drop k).take n) else none
def takeM (xs : List C) (k n : Nat) : Option (List C) := if k + n ≤ xs.length then some ((xs.drop k).take n) else none
theorem LookN_eq (xs : List C) (k n : Nat) (K : List C → Prop) : LookN (takeN xs k n) K = (0 < n ∧ k + n ≤ xs.length ∧ K ((xs.drop k).take n)) := by
  apply propext
  unfold takeN
  constructor
  · rintro ⟨x, h, hK⟩
    split at h
    · rename_i hc
      injection h with h
      subst h
      exact ⟨hc.1, hc.2, hK⟩
    · cases h
  · rintro ⟨h1, h2, h3⟩
    exact ⟨_, if_pos ⟨h1, h2⟩, h3⟩
theorem LookM_eq (xs : List C) (k n : Nat) (K : List C → Prop) : LookN (takeM xs k n) K = (k + n ≤ xs.length ∧ K ((xs.drop k).take n)) := by
  apply propext
  unfold takeM
  constructor
  · rintro ⟨x, h, hK⟩
    split at h
    · rename_i hc
      injection h with h
      subst h
      exact ⟨hc, hK⟩
    · cases h
  · rintro ⟨h2, h3⟩
    exact ⟨_, if_pos h2, h3⟩
def eqCellsE (κ : Kp) : List LK → List C → List C → Option Bool
  | [], [], [] => some true
  | .int k :: ks, .v (.int k1 a) :: xs, .v (.int k2 b) :: ys => if k1 = k then if k2 = k then match eqCellsE κ ks xs ys with
    | some r => some (κ _ ((a == b) && r))
    | none => none
    else none else none
  | .bool :: ks, .v (.bool a) :: xs, .v (.bool b) :: ys => match eqCellsE κ ks xs ys with
    | some r => some (κ _ ((a == b) && r))
    | none => none
  | _, _, _ => none
theorem eqCellsE_eq : ∀ (ks : List LK) (xs ys : List C), eqCellsE kid ks xs ys = eqCells ks xs ys := by
  intro ks xs ys
  fun_induction eqCells ks xs ys <;> simp_all [eqCellsE, kid]
def intOpE (κ : Kp) (op : BinOp) (k : IntKind) (a b : Int) : Option Value := match op with
  | .add => some (.int k (κ _ (k.wrap (a + b))))
  | .sub => some (.int k (κ _ (k.wrap (a - b))))
  | .mul => some (.int k (κ _ (k.wrap (a * b))))
  | .and => some (.int k (κ _ (bits .and k a b)))
  | .or => some (.int k (κ _ (bits .or k a b)))
  | .xor => some (.int k (κ _ (bits .xor k a b)))
  | .andNot => some (.int k (κ _ (bits .andNot k a b)))
  | .eql => some (.bool (κ _ (a == b)))
  | .neq => some (.bool (κ _ (a != b)))
  | .lss => some (.bool (κ _ (decide (a < b))))
  | .leq => some (.bool (κ _ (decide (a ≤ b))))
  | .gtr => some (.bool (κ _ (decide (a > b))))
  | .geq => some (.bool (κ _ (decide (a ≥ b))))
  | _ => none
theorem intOpE_eq (op : BinOp) (k : IntKind) (a b : Int) : intOpE kid op k a b = intOp op k a b := by cases op <;> rfl
def binTE (κ : Kp) (F : TT) (op : BinOp) (t : TypeId) (x y : SV) (K : KT) : Prop :=
  match x, y with
  | .c (.v (.int k a)), .c (.v (.int k' b)) => match op with
    | .shl => Side (κ _ (0 ≤ b ∧ b ≤ k.bits)) ∧ K (.c (.v (.int k (κ _ (k.wrap (a * 2 ^ b.toNat)))))) []
    | .quo => k = k' ∧ Side (κ _ (b ≠ 0)) ∧ K (.c (.v (.int k (κ _ (k.wrap (a.tdiv b)))))) []
    | .rem => k = k' ∧ Side (κ _ (b ≠ 0)) ∧ K (.c (.v (.int k (κ _ (a.tmod b))))) []
    | op => k = k' ∧ match intOpE κ op k a b with
      | some v => K (.c (.v v)) []
      | none => False
  | .c (.loc _ _ _), .c (.v (.pointer none)) => look F.ptr t = some () ∧ match op with
    | .eql => K (.c (.v (.bool false))) []
    | .neq => K (.c (.v (.bool true))) []
    | _ => False
  | .c (.v (.bool a)), .c (.v (.bool b)) => look F.bool t = some () ∧ match op with
    | .eql => K (.c (.v (.bool (κ _ (a == b))))) []
    | .neq => K (.c (.v (.bool (κ _ (!(a == b)))))) []
    | _ => False
  | .agg xs, .agg ys => match op with
    | .eql => match look F.eq t with
      | some ks => match eqCellsE κ ks xs ys with
        | some r => K (.c (.v (.bool r))) []
        | none => False
      | none => False
    | .neq => match look F.eq t with
      | some ks => match eqCellsE κ ks xs ys with
        | some r => K (.c (.v (.bool (κ _ (!r))))) []
        | none => False
      | none => False
    | _ => False
  | .c (.sl _ A _ _), .c (.sl i none 0 0) => i = nilId ∧ match look F.sl t with
    | none => False
    | some _ => match op with
    | .eql => K (.c (.v (.bool (κ _ A.isNone)))) []
    | .neq => K (.c (.v (.bool (κ _ (!A.isNone))))) []
    | _ => False
  | _, _ => False
theorem binTE_eq (F : TT) (op : BinOp) (t : TypeId) (x y : SV) (K : KT) : binTE kid F op t x y K = binT F op t x y K := by
  unfold binTE binT
  simp only [intOpE_eq, eqCellsE_eq, kid, Side_eq]
  rfl
def big (F : TT) (t : TypeId) : Bool := match look F.ar t with
  | some (n, _) => Nat.ble 17 n
  | none => false
def loadTE (κ : Kp) (F : TT) (t : TypeId) (x : SV) (H : Heap) (K : KT) : Prop :=
  match x with
  | .c (.loc id b off) => match H id with
    | some (.blk b' t' cs) => b = b' ∧ match look F.sz t with
      | some (true, n) => match big F t' with
        | true => LookN (κ _ (takeM cs off n)) fun l => K (.agg l) []
        | false => off + n ≤ cs.length ∧ K (.agg ((cs.drop off).take n)) []
      | some (false, _) => match big F t' with
        | true => LookR (κ _ cs[off]?) fun x => K (.c x) []
        | false => match cs[off]? with
          | some x => K (.c x) []
          | none => False
      | none => False
    | _ => False
  | .c (.el id A k) => match H id with
    | some (.rd A' _ _ xs) => A = A' ∧ match look F.sz t with
      | some (true, n) => LookN (κ _ (takeN xs k n)) fun l => K (.agg l) []
      | some (false, _) => LookR (κ _ xs[k]?) fun x => K (.c x) []
      | none => False
    | some (.row A' _ _ _ _ xs) => A = A' ∧ match look F.sz t with
      | some (true, n) => LookN (κ _ (takeN xs k n)) fun l => K (.agg l) []
      | some (false, _) => LookR (κ _ xs[k]?) fun x => K (.c x) []
      | none => False
    | _ => False
  | _ => False
theorem loadTE_eq (F : TT) (t : TypeId) (x : SV) (H : Heap) (K : KT) : loadTE kid F t x H K = loadT F t x H K := by
  unfold loadTE loadT
  cases x with
  | c x =>
    cases x with
    | loc id b off =>
      simp only
      cases H id with
      | none => rfl
      | some e =>
        cases e with
        | blk b' t' cs =>
          simp only [kid, LookR_eq, LookM_eq]
          cases look F.sz t with
          | none => rfl
          | some q => obtain ⟨u, n⟩ := q; cases u <;> cases big F t' <;> rfl
        | _ => rfl
    | el id A k =>
      simp only
      cases H id with
      | none => rfl
      | some e =>
        cases e with
        | rd A' n m xs =>
          simp only [kid, LookR_eq, LookN_eq]
          cases look F.sz t with
          | none => rfl
          | some q => obtain ⟨u, n⟩ := q; cases u <;> rfl
        | row A' c2 t2 n m xs =>
          simp only [kid, LookR_eq, LookN_eq]
          cases look F.sz t with
          | none => rfl
          | some q => obtain ⟨u, n⟩ := q; cases u <;> rfl
        | _ => rfl
    | _ => rfl
  | _ => rfl
def storeTE (κ : Kp) (F : TT) (t : TypeId) (x y : SV) (H : Heap) (K : KT) : Prop :=
  match y.cells? with
  | none => False
  | some l => ok1 l = true ∧ (match look F.sz t with | some (_, m) => m = l.length | none => False) ∧ match x with
    | .c (.loc id b off) => match H id with
      | some (.blk b' t' cs) => b = b' ∧ match big F t' with
        | true => Side (κ _ (off + l.length ≤ cs.length)) ∧ K (.c .any) [(id, some (.blk b t' (κ _ (putCells cs off l))))]
        | false => off + l.length ≤ cs.length ∧ K (.c .any) [(id, some (.blk b t' (putCells cs off l)))]
      | _ => False
    | .c (.el id A k) => match H id with
      | some (.row A' c t' size n xs) => A = A' ∧ Side (κ _ (0 < l.length ∧ k + l.length ≤ xs.length)) ∧ K (.c .any) [(id, some (.row A c t' size n (κ _ (putCells xs k l))))]
      | _ => False
    | _ => False
theorem storeTE_eq (F : TT) (t : TypeId) (x y : SV) (H : Heap) (K : KT) : storeTE kid F t x y H K = storeT F t x y H K := by
  unfold storeTE storeT
  cases y.cells? with
  | none => rfl
  | some l =>
    simp only [kid, Side_eq]
    cases x with
    | c x =>
      cases x with
      | loc id b off =>
        simp only
        cases H id with
        | none => rfl
        | some e =>
          cases e with
          | blk b' t' cs => simp only; cases big F t' <;> rfl
          | _ => rfl
      | el id A k =>
        simp only
        cases H id with
        | none => rfl
        | some e =>
          cases e with
          | row A' c2 t2 n m xs => simp only [and_assoc]; rfl
          | _ => rfl
      | _ => rfl
    | _ => rfl
def indexTE (κ : Kp) (F : TT) (t : TypeId) (x y : SV) (H : Heap) (K : KT) : Prop :=
  match x, y with
  | .c (.loc id b off), .c (.v (.int _ i)) => match look F.ar t with
    | some (n, sz) => Side (κ _ (0 ≤ i ∧ i < n)) ∧ match Nat.ble 17 n with
      | true => K (.c (.loc id b (κ _ (off + i.toNat * sz)))) []
      | false => K (.c (.loc id b (off + i.toNat * sz))) []
    | none => False
  | .c (.sl id A n _), .c (.v (.int _ i)) => match look F.sl t with
    | some (_, sz, _, _) => Side (κ _ (0 < sz ∧ 0 ≤ i ∧ i < n)) ∧ match H id with
      | some (.rd A' sz' n' _) => A = A' ∧ sz = sz' ∧ Side (κ _ (n = n')) ∧ K (.c (.el id A (κ _ (i.toNat * sz)))) []
      | some (.row A' _ _ sz' n' _) => A = A' ∧ sz = sz' ∧ Side (κ _ (n = n')) ∧ K (.c (.el id A (κ _ (i.toNat * sz)))) []
      | _ => False
    | none => False
  | _, _ => False
theorem indexTE_eq (F : TT) (t : TypeId) (x y : SV) (H : Heap) (K : KT) : indexTE kid F t x y H K = indexT F t x y H K := by
  unfold indexTE indexT
  simp only [kid, Side_eq, and_assoc]
  cases x with
  | c x =>
    cases x with
    | loc id b off =>
      cases y with
      | c y =>
        cases y with
        | v y =>
          cases y with
          | int k i =>
            simp only
            cases look F.ar t with
            | none => rfl
            | some q => obtain ⟨n, sz⟩ := q; simp only; cases Nat.ble 17 n <;> rfl
          | _ => rfl
        | _ => rfl
      | _ => rfl
    | sl id A n c =>
      cases y with
      | c y =>
        cases y with
        | v y =>
          cases y with
          | int k i =>
            simp only
            cases look F.sl t with
            | none => rfl
            | some q => rfl
          | _ => rfl
        | _ => rfl
      | _ => rfl
    | _ => cases y <;> rfl
  | _ => cases y <;> rfl
def appendTE (κ : Kp) (F : TT) (t t' : TypeId) (x y : SV) (H : Heap) (d : Nat) (K : KT) : Prop :=
  match look F.sl t, x, y with
  | some (e, sz, bytes, zs), .c (.sl id A n c), .c (.sl id' B m _) => t = t' ∧ zs = sz ∧ 0 < sz ∧ id ≠ id' ∧ Side (κ _ ((n + m) * bytes ≤ 140737488355328 ∧ n + m ≤ maxLen)) ∧
    match rowOf (H id') with
    | some (B', sz', m', ys) => Side (κ _ (B = B' ∧ m = m' ∧ (sz' = sz ∨ m = 0) ∧ ok1 ys = true)) ∧ match H id with
      | some (.row A' c' e' sz' n' xs) => Side (κ _ (A = A' ∧ c = c' ∧ e = e' ∧ sz = sz' ∧ n = n')) ∧ ∀ A2 c2, K (.c (.sl d A2 (κ _ (n + m)) c2)) [(id, none), (d, some (.row A2 c2 e sz (κ _ (n + m)) (κ _ (xs ++ ys))))]
      | some (.rd _ _ _ xs) => Side (κ _ (n = 0 ∧ c = 0 ∧ xs = [])) ∧ ∀ A2 c2, K (.c (.sl d A2 m c2)) [(d, some (.row A2 c2 e sz m ys))]
      | _ => False
    | none => False
  | _, _, _ => False
theorem appendTE_eq (F : TT) (t t' : TypeId) (x y : SV) (H : Heap) (d : Nat) (K : KT) : appendTE kid F t t' x y H d K = appendT F t t' x y H d K := by
  unfold appendTE appendT
  simp only [kid, Side_eq, and_assoc]
  rfl
def makeTE (κ : Kp) (F : TT) (t : TypeId) (x y : SV) (d : Nat) (K : KT) : Prop :=
  match look F.sl t, x, y with
  | some (e, sz, bytes, _), .c (.v (.int _ n)), .c (.v (.int _ m)) => match look F.ze e with
    | some z => z.length = sz ∧ 0 < sz ∧ Side (κ _ (n = m)) ∧ Side (κ _ (0 ≤ n ∧ n * bytes ≤ 281474976710656 ∧ n ≤ maxLen)) ∧ ∀ A, K (.c (.sl d A (κ _ n.toNat) (κ _ n.toNat))) [(d, some (.row A (κ _ n.toNat) e sz (κ _ n.toNat) (κ _ (List.replicate n.toNat z).flatten)))]
    | none => False
  | _, _, _ => False
theorem makeTE_eq (F : TT) (t : TypeId) (x y : SV) (d : Nat) (K : KT) : makeTE kid F t x y d K = makeT F t x y d K := by
  unfold makeTE makeT
  simp only [kid, Side_eq, and_assoc]
  rfl
def sliceTE (κ : Kp) (F : TT) (t : TypeId) (x : SV) (lo hi mx : Option SV) (H : Heap) (d : Nat) (K : KT) : Prop :=
  match look F.sl t, x, boundT 0 lo with
  | some (_, sz, _, _), .c (.sl id A n c), some l => match boundT n hi, mx with
    | some h, none => Side (κ _ (0 ≤ l ∧ l ≤ h ∧ h ≤ n)) ∧ match H id with
      | some (.rd A' sz' n' xs) => Side (κ _ (A = A' ∧ sz = sz' ∧ n = n' ∧ n ≤ c)) ∧
          K (.c (.sl d (κ _ (if c = l.toNat then A else A.map (·.add (l.toNat * sz)))) (κ _ (h.toNat - l.toNat)) (κ _ (c - l.toNat))))
            [(d, some (.rd (κ _ (if c = l.toNat then A else A.map (·.add (l.toNat * sz)))) sz (κ _ (h.toNat - l.toNat)) (κ _ ((xs.drop (l.toNat * sz)).take ((h.toNat - l.toNat) * sz)))))]
      | some (.row A' c' e sz' n' xs) => Side (κ _ (A = A' ∧ c = c' ∧ sz = sz' ∧ n = n' ∧ l = 0)) ∧ K (.c (.sl d A (κ _ h.toNat) c)) [(id, none), (d, some (.row A c e sz (κ _ h.toNat) (κ _ (xs.take (h.toNat * sz)))))]
      | _ => False
    | _, _ => False
  | _, _, _ => False
theorem sliceTE_eq (F : TT) (t : TypeId) (x : SV) (lo hi mx : Option SV) (H : Heap) (d : Nat) (K : KT) : sliceTE kid F t x lo hi mx H d K = sliceT F t x lo hi mx H d K := by
  unfold sliceTE sliceT
  simp only [kid, Side_eq, and_assoc]
  rfl
def foldTE (κ : Kp) (f : Int → Int → Int) : List SV → Option (IntKind × Int)
  | [.c (.v (.int k a))] => some (k, a)
  | [.c (.v (.int k a)), .c (.v (.int k' b))] => if k = k' then some (k, κ _ (f a b)) else none
  | _ => none
theorem foldTE_eq (f : Int → Int → Int) (l : List SV) : foldTE kid f l = foldT f l := by
  unfold foldTE foldT
  simp only [kid]
  rfl
abbrev TSpec := List SV → Heap → Nat → KT → Prop
structure ESpec (P : Program) extends CSpec P where
  T : TSpec
  hT : ∀ args H d K, T args H d K = ((S args H d).side ∧ ∀ v u, (S args H d).R v u → K v u)
def lookT : List (ESpec P) → FuncId → TSpec
  | [], _ => fun _ _ _ _ => False
  | c :: r, g => if g = c.f then c.T else lookT r g
def lookE : List (ESpec P) → FuncId → Bool
  | [], _ => false
  | c :: r, g => if g = c.f then c.wr else lookE r g
def baseOf : List (ESpec P) → List (CSpec P)
  | [] => []
  | c :: r => c.toCSpec :: baseOf r
theorem lookT_eq : ∀ (l : List (ESpec P)) (g : FuncId) (args : List SV) (H : Heap) (d : Nat) (K : KT), lookT l g args H d K = ((lookG (baseOf l) g args H d).side ∧ ∀ v u, (lookG (baseOf l) g args H d).R v u → K v u)
  | [], g, args, H, d, K => by simp [lookT, lookG, baseOf, noSpec]
  | c :: r, g, args, H, d, K => by
    simp only [lookT, lookG, baseOf]
    by_cases h : g = c.f
    · rw [if_pos h, if_pos h]; exact c.hT args H d K
    · rw [if_neg h, if_neg h]; exact lookT_eq r g args H d K
theorem lookE_eq : ∀ (l : List (ESpec P)) (g : FuncId), lookE l g = lookW (baseOf l) g
  | [], g => rfl
  | c :: r, g => by
    simp only [lookE, lookW, baseOf]
    rw [lookE_eq r g]
def callTE (κ : Kp) (F : TT) (T : FuncId → TSpec) (callee : Callee) (fv : SV) (args : List SV) (ts : Array TypeId) (H : Heap) (d : Nat) (K : KT) : Prop :=
  match callee with
  | .value (.func f) => args.all SV.known = true ∧ T f args H d K
  | .value (.tmp _) => match fv with
    | .c (.fn g i b off) => args.all SV.known = true ∧ T g (args ++ [.c (.loc i b off)]) H d K
    | _ => False
  | .builtin .len => match args with
    | [.c (.sl _ _ n _)] => ((ts[0]?).bind (look F.sl)).isSome = true ∧ K (.c (.v (.int .i64 (κ _ (n : Int))))) []
    | _ => False
  | .builtin .cap => match args with
    | [.c (.sl _ _ _ c)] => ((ts[0]?).bind (look F.sl)).isSome = true ∧ K (.c (.v (.int .i64 (κ _ (c : Int))))) []
    | _ => False
  | .builtin .max => match foldTE κ (fun a b => if b > a then b else a) args with
    | some (k, a) => K (.c (.v (.int k a))) []
    | none => False
  | .builtin .min => match foldTE κ (fun a b => if b < a then b else a) args with
    | some (k, a) => K (.c (.v (.int k a))) []
    | none => False
  | .builtin .append => match args with
    | [x, y] => ts.size = 2 ∧ appendTE κ F (ts.getD 0 0) (ts.getD 1 0) x y H d K
    | _ => False
  | _ => False
theorem callTE_eq (F : TT) (l : List (ESpec P)) (callee : Callee) (fv : SV) (args : List SV) (ts : Array TypeId) (H : Heap) (d : Nat) (K : KT) : callTE kid F (lookT l) callee fv args ts H d K = callT F (lookG (baseOf l)) callee fv args ts H d K := by
  unfold callTE callT
  simp only [lookT_eq, foldTE_eq, appendTE_eq, kid]
  rfl
def okParts (l : List (Nat × SV)) : Bool := l.all fun p => match p.2.cells? with
  | some l => ok1 l
  | none => false
theorem okParts_eq (e : Operand → SV) (ps : Array (Nat × Operand)) : okParts (ps.toList.map fun p => (p.1, e p.2)) = partsOk e ps := by
  unfold okParts partsOk
  rw [List.all_map]
  rfl
def opTE (κ : Kp) (F : TT) (T : FuncId → TSpec) (o : Op) (e : Operand → SV) (H : Heap) (d : Nat) (K : KT) : Prop :=
  match o with
  | .pick c a b => match e c with
    | .c (.v (.bool t)) => match t with
      | true => K (e a) []
      | false => K (e b) []
    | _ => False
  | .alloc t => match look F.ze t with
    | some cs => ∀ b, K (.c (.loc d b 0)) [(d, some (.blk b t cs))]
    | none => match look F.zr t with
      | some (m, z) => ∀ b, K (.c (.loc d b 0)) [(d, some (.blk b t (κ _ (List.replicate m z).flatten)))]
      | none => False
  | .box t x => match (e x).cells? with
    | some cs => ok1 cs = true ∧ ∀ b, K (.c (.loc d b 0)) [(d, some (.blk b t cs))]
    | none => False
  | .build t ps => match look F.pl t, look F.ze t with
    | some pl, some z => (fun parts => okParts parts = true ∧ match fillC pl z parts with
      | some l => K (.agg l) []
      | none => False) (ps.toList.map fun p => (p.1, e p.2))
    | _, _ => False
  | .buildSlice t n ps => match look F.sl t with
    | some (el, sz, _, zs) => n * sz ≤ 65536 ∧ zs = sz ∧ 0 < sz ∧ (fun parts => okParts parts = true ∧ match catC sz parts 0 with
      | some l => l.length = n * sz ∧ ∀ A, K (.c (.sl d A n n)) [(d, some (.row A n el sz n l))]
      | none => False) (ps.toList.map fun p => (p.1, e p.2))
    | none => False
  | .load t x => loadTE κ F t (e x) H K
  | .store t x y => storeTE κ F t (e x) (e y) H K
  | .binOp op t x y _ => binTE κ F op t (e x) (e y) K
  | .unOp .not _ x => match e x with
    | .c (.v (.bool b)) => match b with
      | true => K (.c (.v (.bool false))) []
      | false => K (.c (.v (.bool true))) []
    | _ => False
  | .unOp .neg _ x => match e x with
    | .c (.v (.int k n)) => K (.c (.v (.int k (κ _ (k.wrap (0 - n)))))) []
    | _ => False
  | .convert s t x => match e x, look F.int t, look F.int s with
    | .c (.v (.int _ n)), some k, some _ => K (.c (.v (.int k (κ _ (k.wrap n))))) []
    | _, _, _ => False
  | .fieldAddr t x f => match fieldF F t f, e x with
    | some o, .c (.loc i b off) => K (.c (.loc i b (off + o))) []
    | some o, .c (.el i A k) => K (.c (.el i A (κ _ (k + o)))) []
    | _, _ => False
  | .indexAddr t x y => indexTE κ F t (e x) (e y) H K
  | .slice t x lo hi mx => sliceTE κ F t (e x) (lo.map e) (hi.map e) (mx.map e) H d K
  | .makeSlice t x y => makeTE κ F t (e x) (e y) d K
  | .call c => callTE κ F T c.callee (calleeV c.callee e) (c.args.toList.map e) c.argTypes H d K
  | o => opT F noG o e H d K
where noG : FuncId → Spec := fun _ => noSpec
theorem opTE_eq (F : TT) (l : List (ESpec P)) (o : Op) (e : Operand → SV) (H : Heap) (d : Nat) (K : KT) : opTE kid F (lookT l) o e H d K = opT F (lookG (baseOf l)) o e H d K := by
  cases o with
  | pick c a b =>
    simp only [opTE, opT]
    cases e c with
    | c x => cases x with
      | v x => cases x with
        | bool t => cases t <;> simp
        | _ => rfl
      | _ => rfl
    | _ => rfl
  | alloc t =>
    simp only [opTE, opT, zeroF, kid]
    cases look F.ze t with
    | some z => rfl
    | none =>
      simp only
      cases look F.zr t with
      | some q => rfl
      | none => rfl
  | box t x => rfl
  | build t ps => simp only [opTE, opT, okParts_eq]; rfl
  | buildSlice t n ps => simp only [opTE, opT, okParts_eq]; rfl
  | load t x => simp only [opTE, opT, loadTE_eq]
  | store t x y => simp only [opTE, opT, storeTE_eq]
  | binOp op t x y r => simp only [opTE, opT, binTE_eq]
  | unOp u t x =>
    cases u with
    | not =>
      simp only [opTE, opT]
      cases e x with
      | c y => cases y with
        | v z => cases z with
          | bool b => cases b <;> rfl
          | _ => rfl
        | _ => rfl
      | _ => rfl
    | _ => rfl
  | convert s t x => rfl
  | fieldAddr t x f => rfl
  | indexAddr t x y => simp only [opTE, opT, indexTE_eq]
  | slice t x lo hi mx => simp only [opTE, opT, sliceTE_eq]
  | makeSlice t x y => simp only [opTE, opT, makeTE_eq]
  | call c => simp only [opTE, opT, callTE_eq]
  | _ => rfl
/-! ### The text -/
def gTE (κ : Kp) (F : TT) (T : FuncId → TSpec) (all : Array Oper) (o : Oper) (env : Env) (H : Heap) (C : Env → KT) : Prop :=
  match o.guard with
  | none => opTE κ F T o.op (ev env) (restrict H (foot F.refs H o.op (ev env))) (o.dst.getD 0) (C env)
  | some (j, want) => match (all[j]?).bind (·.dst) with
    | some t => match env t with
      | .c (.v (.bool b)) => match b with
        | true => (match want with
          | true => opTE κ F T o.op (ev (upd env t (.c (.v (.bool true))))) (restrict H (foot F.refs H o.op (ev (upd env t (.c (.v (.bool true))))))) (o.dst.getD 0) (C (upd env t (.c (.v (.bool true)))))
          | false => C (upd env t (.c (.v (.bool true)))) (.tup []) [])
        | false => match want with
          | true => C (upd env t (.c (.v (.bool false)))) (.tup []) []
          | false => opTE κ F T o.op (ev (upd env t (.c (.v (.bool false))))) (restrict H (foot F.refs H o.op (ev (upd env t (.c (.v (.bool false))))))) (o.dst.getD 0) (C (upd env t (.c (.v (.bool false)))))
      | .tup _ => C env (.tup []) []
      | _ => False
    | none => False
theorem gTE_eq (F : TT) (hF : TTok P F) (l : List (ESpec P)) (all : Array Oper) (o : Oper) (env : Env) (H : Heap) (C : Env → KT) : gTE kid F (lookT l) all o env H C = gT (ctxOf F hF (baseOf l)) all o env H (C env) := by
  unfold gTE gT
  simp only [opTE_eq]
  cases o.guard with
  | none => rfl
  | some p =>
    obtain ⟨j, want⟩ := p
    simp only
    cases (all[j]?).bind (·.dst) with
    | none => rfl
    | some t =>
      simp only [Option.map_some]
      cases he : env t with
      | c x => cases x with
        | v x => cases x with
          | bool b => cases want <;> cases b <;> simp [upd_self he] <;> rfl
          | _ => rfl
        | _ => rfl
      | _ => rfl
def vcOpsE (κ : Kp) (F : TT) (T : FuncId → TSpec) (n : Nat) (all : Array Oper) : List Oper → Env → Heap → (Env → Heap → Prop) → Prop
  | [], env, H, K => K env H
  | o :: r, env, H, K => Nat.blt ((o.dst.getD 0)) n = true ∧ gTE κ F T all o env H fun env v u => vcOpsE κ F T n all r (putE env o.dst v) (upds H u) K
theorem vcOpsE_eq (F : TT) (hF : TTok P F) (l : List (ESpec P)) (n : Nat) (all : Array Oper) : ∀ (ops : List Oper) (env : Env) (H : Heap) (K : Env → Heap → Prop), vcOpsE kid F (lookT l) n all ops env H K → vcOps (ctxOf F hF (baseOf l)) n all ops env H K
  | [], env, H, K, h => h
  | o :: r, env, H, K, h => by
    simp only [vcOpsE] at h
    rw [vcOps]
    rw [gTE_eq F hF] at h
    refine ⟨?_, gT_mono _ all o env H h.2 fun v u h' => vcOpsE_eq F hF l n all r _ _ K h'⟩
    have h1 := h.1
    unfold dstOk
    cases hd : o.dst with
    | none => rfl
    | some d => rw [hd] at h1; simpa using h1
def vcDE (κ : Kp) (F : TT) (T : FuncId → TSpec) (wr : FuncId → Bool) (n : Nat) (all : Array Oper) (tab : List (List Nat)) : List (Nat × Oper) → Past → Env → Heap → (Env → Heap → Prop) → Prop
  | [], _, env, H, K => K env H
  | (i, o) :: r, past, env, H, K => (fun ids => Nat.blt (o.dst.getD 0) n = true ∧ chk tab i ids (wset wr o.op ids (o.dst.getD 0)) past = true ∧
      gTE κ F T all o env H fun env' v u => vcDE κ F T wr n all tab r ((i, ids, wset wr o.op ids (o.dst.getD 0)) :: past) (putE env' o.dst v) (upds H u) K) (foot F.refs H o.op (ev env))
theorem vcDE_eq (F : TT) (hF : TTok P F) (l : List (ESpec P)) (n : Nat) (all : Array Oper) (tab : List (List Nat)) : ∀ (ops : List (Nat × Oper)) (past : Past) (env : Env) (H : Heap) (K : Env → Heap → Prop), vcDE kid F (lookT l) (lookE l) n all tab ops past env H K → vcD (ctxOf F hF (baseOf l)) n all tab ops past env H K
  | [], _, env, H, K, h => h
  | (i, o) :: r, past, env, H, K, h => by
    have hw : lookE l = lookW (baseOf l) := funext (lookE_eq l)
    simp only [vcDE] at h
    rw [vcD]
    rw [gTE_eq F hF, hw] at h
    refine ⟨?_, h.2.1, gT_mono _ all o env H h.2.2 fun v u h' => vcDE_eq F hF l n all tab r _ _ _ K (hw ▸ h')⟩
    have h1 := h.1
    unfold dstOk
    cases hd : o.dst with
    | none => rfl
    | some d => rw [hd] at h1; simpa using h1
def vcE (κ : Kp) (P : Program) (F : TT) (T : FuncId → TSpec) (wr : FuncId → Bool) (n : Nat) (tabs : Tabs) : Code → QT → Env → Heap → Prop
  | .skip, Q, env, H => Q .normal env H
  | .region id ops d, Q, env, H => match d with
    | true => vcDE κ F T wr n ops (tabOf tabs id) (pairs 0 ops.toList) [] env H (atNormal Q)
    | false => vcOpsE κ F T n ops ops.toList env H (atNormal Q)
  | .seq a b, Q, env, H => vcE κ P F T wr n tabs a (thenV Q fun env H => vcE κ P F T wr n tabs b Q env H) env H
  | .cond c t e, Q, env, H => match ev env c with
    | .c (.v (.bool b)) => match b with
      | true => vcE κ P F T wr n tabs t Q env H
      | false => vcE κ P F T wr n tabs e Q env H
    | _ => False
  | .block id c, Q, env, H => vcE κ P F T wr n tabs c (inBlk id Q) env H
  | .loop c, Q, env, H => LoopAt P n tabs c Q env H
  | .rangeFunc f ps as b, Q, env, H => RangeAt P n tabs (.rangeFunc f ps as b) Q env H
  | .exit id, Q, env, H => Q (.exit id) env H
  | .ret, Q, env, H => Q .ret env H
  | _, _, _, _ => False
/-! ### The order's test, by a table that is laid once -/
theorem waits_more (ops : Array Oper) : ∀ (f i j : Nat), waits ops f i j = true → waits ops (f + 1) i j = true
  | 0, _, _, h => by cases h
  | f + 1, i, j, h => by
    rw [waits] at h
    rw [waits]
    cases ho : ops[i]? with
    | none => rw [ho] at h; cases h
    | some o =>
      rw [ho] at h
      simp only at h ⊢
      obtain ⟨e, he⟩ := Array.any_eq_true'.1 h
      refine Array.any_eq_true'.2 ⟨e, he.1, ?_⟩
      have h2 := he.2
      simp only [Bool.and_eq_true, Bool.or_eq_true] at h2 ⊢
      exact ⟨h2.1, h2.2.imp_right (waits_more ops f e.on j)⟩
theorem waits_le (ops : Array Oper) {f g : Nat} (h : f ≤ g) (i j : Nat) (hw : waits ops f i j = true) : waits ops g i j = true := by
  induction h with
  | refl => exact hw
  | step _ ih => exact waits_more ops _ i j ih
def waitsQ (tab : List (List Nat)) (o : Oper) (j : Nat) : Bool := o.after.any fun e => Region.binds .any e && (e.on == j || (Nat.blt j e.on && !(tab.getD e.on []).contains j))
def orderQ (ops : Array Oper) (tab : List (List Nat)) : Bool :=
  (List.range ops.size).all fun i => match ops[i]? with
    | none => false
    | some oi => (oi.after.all fun e => !Region.binds .any e || decide (e.on < i)) && (match oi.op with | .select .. => false | _ => true) &&
      (List.range i).all fun j => if (tab.getD i []).contains j then (match ops[j]? with | some oj => oi.apart ops oj && oj.apart ops oi | none => false) else waitsQ tab oi j
theorem orderQ_waits {ops : Array Oper} {tab : List (List Nat)} (h : orderQ ops tab = true) : ∀ (i j : Nat), i < ops.size → j < i → (tab.getD i []).contains j = false → waits ops (i + 1) i j = true := by
  intro i
  induction i using Nat.strongRecOn with
  | _ i ih =>
    intro j hi hj ht
    have := List.all_eq_true.1 h i (List.mem_range.2 hi)
    cases hoi : ops[i]? with
    | none => rw [hoi] at this; cases this
    | some oi =>
      rw [hoi] at this
      simp only [Bool.and_eq_true] at this
      obtain ⟨⟨h1, _⟩, h2⟩ := this
      have hj' := List.all_eq_true.1 h2 j (List.mem_range.2 hj)
      rw [if_neg (by rw [ht]; simp)] at hj'
      obtain ⟨e, he, hb⟩ := Array.any_eq_true'.1 hj'
      simp only [Bool.and_eq_true, Bool.or_eq_true, beq_iff_eq, Bool.not_eq_true'] at hb
      rw [waits]
      simp only [hoi]
      refine Array.any_eq_true'.2 ⟨e, he, ?_⟩
      simp only [Bool.and_eq_true, Bool.or_eq_true, beq_iff_eq]
      refine ⟨hb.1, hb.2.imp_right fun ⟨hlt, hc⟩ => ?_⟩
      have hon : e.on < i := by
        have := Array.all_eq_true_iff_forall_mem.1 h1 e he
        rw [hb.1] at this
        simpa using this
      have hlt' : j < e.on := by simpa [Nat.blt_eq] using hlt
      exact waits_le ops (by omega) _ _ (ih e.on hon j (by omega) hlt' hc)
theorem orderQ_ok {ops : Array Oper} {tab : List (List Nat)} (h : orderQ ops tab = true) : orderOk ops tab = true := by
  have hw := orderQ_waits h
  unfold orderQ at h
  unfold orderOk
  refine List.all_eq_true.2 fun i hi => ?_
  have := List.all_eq_true.1 h i hi
  have hlt := List.mem_range.1 hi
  split at this
  · cases this
  · rename_i oi hoi
    simp only [hoi, Bool.and_eq_true] at this ⊢
    refine ⟨this.1, List.all_eq_true.2 fun j hj => ?_⟩
    have hj' := List.all_eq_true.1 this.2 j hj
    by_cases hc : (tab.getD i []).contains j = true
    · rw [if_pos hc] at hj' ⊢
      exact hj'
    · rw [if_neg hc]
      exact waits_le ops (by omega) _ _ (hw i j hlt (List.mem_range.1 hj) (by simpa using hc))
def tabsQ (tabs : Tabs) : Code → Bool
  | .region id ops draw => if draw then orderQ ops (tabOf tabs id) else true
  | .seq a b => tabsQ tabs a && tabsQ tabs b
  | .cond _ a b => tabsQ tabs a && tabsQ tabs b
  | .block _ a => tabsQ tabs a
  | .loop a => tabsQ tabs a
  | .scope a => tabsQ tabs a
  | .rangeFunc _ _ a b => tabsQ tabs a && tabsQ tabs b
  | _ => true
theorem tabsQ_ok (tabs : Tabs) : ∀ (c : Code), tabsQ tabs c = true → tabsOk tabs c = true
  | .region id ops draw, h => by
    simp only [tabsQ, tabsOk] at h ⊢
    split
    · rename_i hd
      rw [if_pos hd] at h
      exact orderQ_ok h
    · rfl
  | .seq a b, h => by simp only [tabsQ, tabsOk, Bool.and_eq_true] at h ⊢; exact ⟨tabsQ_ok tabs a h.1, tabsQ_ok tabs b h.2⟩
  | .cond _ a b, h => by simp only [tabsQ, tabsOk, Bool.and_eq_true] at h ⊢; exact ⟨tabsQ_ok tabs a h.1, tabsQ_ok tabs b h.2⟩
  | .block _ a, h => by simp only [tabsQ, tabsOk] at h ⊢; exact tabsQ_ok tabs a h
  | .loop a, h => by simp only [tabsQ, tabsOk] at h ⊢; exact tabsQ_ok tabs a h
  | .scope a, h => by simp only [tabsQ, tabsOk] at h ⊢; exact tabsQ_ok tabs a h
  | .rangeFunc _ _ a b, h => by simp only [tabsQ, tabsOk, Bool.and_eq_true] at h ⊢; exact ⟨tabsQ_ok tabs a h.1, tabsQ_ok tabs b h.2⟩
  | .skip, _ => rfl
  | .exit _, _ => rfl
  | .ret, _ => rfl
  | .label _, _ => rfl
  | .goto _, _ => rfl
  | .refuse _, _ => rfl
end Go.Proofs.YtbcicjmepojlnaaGreat.Eng
