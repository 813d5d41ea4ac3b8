/- Arenas: how they lie in memory, what the functions of layer 2 come to, in plain words; no condition. -/
import Derived.Test.YtjlgeoaomegbmaaEng18
import Derived.Test.YtjlgeoaomegbmaaArPure
namespace Go.Proofs.Ytjlgeoaomegbmaa.Eng
open Go Go.RowKit
set_option autoImplicit false
set_option linter.unusedSimpArgs false
set_option linter.unusedVariables false

structure St where
  g : Int
  live : Bool
def st0 : St := ⟨0, false⟩
def encSt (s : St) : List C := [.v (.int .i64 s.g), .v (.bool s.live)]
def encS (l : List St) : List C := l.flatMap encSt
def encG (l : List St) : List C := l.flatMap fun s => [.v (.int .i64 s.g)]
def encV (l : List St) : List C := l.flatMap fun s => [.v (.bool s.live)]
def encGV (l : List St) : List C × List C := (encG l, encV l)
def encI (l : List Int) : List C := l.flatMap fun n => [.v (.int .i64 n)]

def slotP (h : Int) : Int := if (decide (h < 0)) = true then 0 else bits .and .i64 h 65535
def slotR (h : Int) : Int := if (decide (h < 0)) = true then 0 else Int.tmod h 65536
def hasSl (n slot : Int) : Bool := decide (slot ≥ 1) && decide (slot ≤ n)
def gAt (l : List St) (slot : Int) : Int := (l.getD (slot - 1).toNat st0).g
def vAt (l : List St) (slot : Int) : Bool := (l.getD (slot - 1).toNat st0).live
def putSt (l : List St) (slot : Int) (s : St) : List St := l.set (slot - 1).toNat s
def handleP (l : List St) (slot : Int) : Int := bits .or .i64 (w64 (gAt l slot * 2 ^ (16 : Int).toNat)) slot
def handleR (l : List St) (slot : Int) : Int := w64 (w64 (gAt l slot * 65536) + slot)
def rightP (l : List St) (h : Int) : Bool := hasSl l.length (slotP h) && vAt l (slotP h) && (handleP l (slotP h) == h)
def cellP (fi : Int) (l : List St) (h word : Int) : Int := if (!hasSl l.length (slotP h) || decide (word < 0) || decide (word ≥ 28)) = true then -1 else w64 (w64 (fi + w64 (w64 (slotP h - 1) * 28)) + word)
def cellR (fi : Int) (l : List St) (h word : Int) : Int := if (decide (slotR h < 1) || decide (slotR h > l.length) || decide (word < 0) || decide (word > 27)) = true then -1 else w64 (w64 (fi + w64 (28 * w64 (slotR h - 1))) + word)
def bornL (l : List St) (slot : Int) : List St := if hasSl l.length slot = true then putSt l slot ⟨w64 (gAt l slot + 1), true⟩ else l
def bornV (l : List St) (slot : Int) : Int := if hasSl l.length slot = true then handleP (bornL l slot) slot else 0
def birthV (l : List St) (slot : Int) : Int := if hasSl l.length slot = true then handleR (bornL l slot) slot else 0
def bornD (l : List St) (d : Bool) (slot : Int) : Bool := if hasSl l.length slot = true then d || vAt l slot else d
def diedL (l : List St) (h : Int) : List St := if rightP l h = true then putSt l (slotP h) ⟨gAt l (slotP h), false⟩ else l
def diedD (l : List St) (d : Bool) (h : Int) : Bool := if rightP l h = true then d else true
def touchS (l : List St) (s : Bool) (h : Int) : Bool := if rightP l h = true then s else true
def outL (l : List St) (i : Nat) : List Int := (List.range i).filterMap fun (k : Nat) => if vAt l ((k : Int) + 1) = true then some (handleP l ((k : Int) + 1)) else none

theorem encSt_len (s : St) : (encSt s).length = 2 := rfl
theorem encSt_inj (x y : St) (h : encSt x = encSt y) : x = y := by
  cases x; cases y
  simpa [encSt] using h
theorem encS_inj (l l' : List St) (h : encS l = encS l') : l = l' := enc_inj encSt_len (by decide) encSt_inj l l' h
theorem encGV_inj : ∀ l l' : List St, encGV l = encGV l' → l = l'
  | [], [], _ => rfl
  | [], y :: r, h => by simp [encGV, encG] at h
  | x :: r, [], h => by simp [encGV, encG] at h
  | x :: r, y :: s, h => by
    simp only [encGV, encG, encV, List.flatMap_cons, Prod.mk.injEq, List.singleton_append, List.cons.injEq, C.v.injEq, Value.int.injEq, Value.bool.injEq, true_and] at h
    obtain ⟨⟨h1, h2⟩, h3, h4⟩ := h
    have := encGV_inj r s (by simp only [encGV, encG, encV, h2, h4])
    cases x; cases y
    simp_all
theorem encI_inj (l l' : List Int) (h : encI l = encI l') : l = l' := enc_inj (z := 1) (fun _ => rfl) (by decide) (fun x y h => by simpa using h) l l' h

theorem has_lt {l : List St} {slot : Int} (h : hasSl l.length slot = true) (hl : l.length ≤ 1000) : w64 (slot - 1) = slot - 1 ∧ 1 ≤ slot ∧ slot ≤ l.length ∧ l[(slot - 1).toNat]? = some (l.getD (slot - 1).toNat st0) := by
  unfold hasSl at h
  simp only [Bool.and_eq_true, decide_eq_true_eq] at h
  refine ⟨w64_id (by unfold In64; omega), h.1, h.2, ?_⟩
  have : (slot - 1).toNat < l.length := by omega
  rw [List.getD_eq_getElem?_getD, List.getElem?_eq_getElem this]
  rfl
theorem st_ix {l : List St} {slot : Int} (h : hasSl l.length slot = true) (hl : l.length ≤ 1000) (z : Nat) (hz : 0 < z) : 0 < z ∧ 0 ≤ IntKind.i64.wrap (slot - 1) ∧ IntKind.i64.wrap (slot - 1) < (l.length : Int) := by
  have := has_lt h hl
  unfold w64 at this
  rw [this.1]
  omega
theorem st_g {l : List St} {slot : Int} (h : hasSl l.length slot = true) (hl : l.length ≤ 1000) : (encS l)[(IntKind.i64.wrap (slot - 1)).toNat * 2 + 0]? = some (.v (.int .i64 (gAt l slot))) := by
  have := has_lt h hl
  unfold w64 at this
  rw [this.1]
  exact enc_get encSt_len l _ _ 0 this.2.2.2 (by decide)
theorem st_v {l : List St} {slot : Int} (h : hasSl l.length slot = true) (hl : l.length ≤ 1000) : (encS l)[(IntKind.i64.wrap (slot - 1)).toNat * 2 + 1]? = some (.v (.bool (vAt l slot))) := by
  have := has_lt h hl
  unfold w64 at this
  rw [this.1]
  exact enc_get encSt_len l _ _ 1 this.2.2.2 (by decide)
theorem put_v {l : List St} {slot : Int} (h : hasSl l.length slot = true) (hl : l.length ≤ 1000) (b : Bool) : putCells (encS l) ((IntKind.i64.wrap (slot - 1)).toNat * 2 + 1) [.v (.bool b)] = encS (putSt l slot ⟨gAt l slot, b⟩) := by
  have := has_lt h hl
  unfold w64 at this
  rw [this.1]
  exact enc_put encSt_len l _ _ ⟨gAt l slot, b⟩ 1 _ this.2.2.2 (by decide) rfl
theorem put_g {l : List St} {slot : Int} (h : hasSl l.length slot = true) (hl : l.length ≤ 1000) (g : Int) : putCells (encS l) ((IntKind.i64.wrap (slot - 1)).toNat * 2 + 0) [.v (.int .i64 g)] = encS (putSt l slot ⟨g, vAt l slot⟩) := by
  have := has_lt h hl
  unfold w64 at this
  rw [this.1]
  exact enc_put encSt_len l _ _ ⟨g, vAt l slot⟩ 0 _ this.2.2.2 (by decide) rfl
theorem sr_g {l : List St} {slot : Int} (h : hasSl l.length slot = true) (hl : l.length ≤ 1000) : (encG l)[(IntKind.i64.wrap (slot - 1)).toNat * 1]? = some (.v (.int .i64 (gAt l slot))) := by
  have := has_lt h hl
  unfold w64 at this
  rw [this.1]
  exact enc_get (f := fun s : St => [C.v (.int .i64 s.g)]) (z := 1) (fun _ => rfl) l _ _ 0 this.2.2.2 (by decide)
theorem sr_v {l : List St} {slot : Int} (h : hasSl l.length slot = true) (hl : l.length ≤ 1000) : (encV l)[(IntKind.i64.wrap (slot - 1)).toNat * 1]? = some (.v (.bool (vAt l slot))) := by
  have := has_lt h hl
  unfold w64 at this
  rw [this.1]
  exact enc_get (f := fun s : St => [C.v (.bool s.live)]) (z := 1) (fun _ => rfl) l _ _ 0 this.2.2.2 (by decide)
theorem putG {l : List St} {slot : Int} (h : hasSl l.length slot = true) (hl : l.length ≤ 1000) (g : Int) (v : Bool) : putCells (encG l) ((IntKind.i64.wrap (slot - 1)).toNat * 1) [.v (.int .i64 g)] = encG (putSt l slot ⟨g, v⟩) := by
  have := has_lt h hl
  unfold w64 at this
  rw [this.1]
  exact enc_put (f := fun s : St => [C.v (.int .i64 s.g)]) (z := 1) (fun _ => rfl) l _ _ ⟨g, v⟩ 0 _ this.2.2.2 (by decide) rfl
theorem putV {l : List St} {slot : Int} (h : hasSl l.length slot = true) (hl : l.length ≤ 1000) (g : Int) (v : Bool) : putCells (encV l) ((IntKind.i64.wrap (slot - 1)).toNat * 1) [.v (.bool v)] = encV (putSt l slot ⟨g, v⟩) := by
  have := has_lt h hl
  unfold w64 at this
  rw [this.1]
  exact enc_put (f := fun s : St => [C.v (.bool s.live)]) (z := 1) (fun _ => rfl) l _ _ ⟨g, v⟩ 0 _ this.2.2.2 (by decide) rfl
theorem put_lt1 {l : List St} {slot : Int} (h : hasSl l.length slot = true) (hl : l.length ≤ 1000) : (0 < 1 ∧ (IntKind.i64.wrap (slot - 1)).toNat * 1 + 1 ≤ (encG l).length) ∧ (0 < 1 ∧ (IntKind.i64.wrap (slot - 1)).toNat * 1 + 1 ≤ (encV l).length) := by
  have := has_lt h hl
  unfold w64 at this
  rw [this.1]
  have h2 : (encG l).length = l.length * 1 := enc_len (f := fun s : St => [C.v (.int .i64 s.g)]) (z := 1) (fun _ => rfl) l
  have h3 : (encV l).length = l.length * 1 := enc_len (f := fun s : St => [C.v (.bool s.live)]) (z := 1) (fun _ => rfl) l
  omega
theorem putSt_len (l : List St) (slot : Int) (s : St) : (putSt l slot s).length = l.length := by unfold putSt; rw [List.length_set]
theorem putSt_at {l : List St} {slot : Int} (s : St) (h : hasSl l.length slot = true) (hl : l.length ≤ 1000) : gAt (putSt l slot s) slot = s.g ∧ vAt (putSt l slot s) slot = s.live := by
  have := has_lt h hl
  have hlt : (slot - 1).toNat < l.length := by omega
  unfold gAt vAt putSt
  rw [List.getD_eq_getElem?_getD, List.getElem?_set_self hlt]
  exact ⟨rfl, rfl⟩
theorem putSt_two {l : List St} {slot : Int} (s t : St) : putSt (putSt l slot s) slot t = putSt l slot t := by
  unfold putSt
  rw [List.set_set]

theorem right_has {l : List St} {h : Int} (hr : rightP l h = true) : hasSl l.length (slotP h) = true := by
  unfold rightP at hr
  simp only [Bool.and_eq_true] at hr
  exact hr.1.1
theorem bornL_len (l : List St) (slot : Int) : (bornL l slot).length = l.length := by
  unfold bornL
  split
  · exact putSt_len _ _ _
  · rfl
theorem born_g {l : List St} {slot : Int} (h : hasSl l.length slot = true) (hl : l.length ≤ 1000) :
    (putCells (encS l) ((IntKind.i64.wrap (slot - 1)).toNat * 2 + 1) [.v (.bool true)])[(IntKind.i64.wrap (slot - 1)).toNat * 2 + 0]? = some (.v (.int .i64 (gAt l slot))) := by
  rw [put_v h hl, st_g (by rw [putSt_len]; exact h) (by rw [putSt_len]; exact hl), (putSt_at _ h hl).1]
theorem born_enc {l : List St} {slot : Int} (h : hasSl l.length slot = true) (hl : l.length ≤ 1000) :
    putCells (putCells (encS l) ((IntKind.i64.wrap (slot - 1)).toNat * 2 + 1) [.v (.bool true)]) ((IntKind.i64.wrap (slot - 1)).toNat * 2 + 0) [.v (.int .i64 (IntKind.i64.wrap (gAt l slot + 1)))] = encS (bornL l slot) := by
  rw [put_v h hl, put_g (by rw [putSt_len]; exact h) (by rw [putSt_len]; exact hl), putSt_two, (putSt_at _ h hl).2]
  unfold bornL
  rw [if_pos h]
theorem put_lt {l : List St} {slot : Int} (h : hasSl l.length slot = true) (hl : l.length ≤ 1000) (o : Nat) (ho : o < 2) : 0 < 1 ∧ (IntKind.i64.wrap (slot - 1)).toNat * 2 + o + 1 ≤ (encS l).length := by
  have := has_lt h hl
  unfold w64 at this
  rw [this.1]
  have h2 : (encS l).length = l.length * 2 := enc_len encSt_len l
  omega
theorem put_lt2 {l : List St} {slot : Int} (h : hasSl l.length slot = true) (hl : l.length ≤ 1000) (o : Nat) (ho : o < 2) (b : Bool) : 0 < 1 ∧ (IntKind.i64.wrap (slot - 1)).toNat * 2 + o + 1 ≤ (putCells (encS l) ((IntKind.i64.wrap (slot - 1)).toNat * 2 + 1) [.v (.bool b)]).length := by
  rw [put_v h hl]
  have := put_lt (l := putSt l slot ⟨gAt l slot, b⟩) (slot := slot) (by rw [putSt_len]; exact h) (by rw [putSt_len]; exact hl) o ho
  exact this
theorem outL_succ (l : List St) (i : Nat) : outL l (i + 1) = outL l i ++ (if vAt l (i + 1) = true then [handleP l (i + 1)] else []) := by
  unfold outL
  rw [List.range_succ, List.filterMap_append]
  congr 1
  simp only [List.filterMap_cons, List.filterMap_nil]
  split <;> simp_all
def outM (l : List St) (i : Nat) : List Int := outL l (min i l.length)
theorem outM_succ {l : List St} {i : Nat} (h : i < l.length) : outM l (i + 1) = outM l i ++ (if vAt l (i + 1) = true then [handleP l (i + 1)] else []) := by
  unfold outM
  rw [Nat.min_eq_left (by omega : i + 1 ≤ l.length), Nat.min_eq_left (by omega : i ≤ l.length)]
  exact outL_succ l i
theorem outM_end {l : List St} {i : Nat} (h : ¬ i < l.length) : outM l i = outL l l.length := by
  unfold outM
  rw [Nat.min_eq_right (by omega)]
theorem outL_le (l : List St) : ∀ i, (outL l i).length ≤ i
  | 0 => by simp [outL]
  | i + 1 => by
    rw [outL_succ, List.length_append]
    have := outL_le l i
    split <;> simp <;> omega
theorem encI_app (l m : List Int) : encI (l ++ m) = encI l ++ encI m := List.flatMap_append

/-! ### How they lie -/
def blkP (b : Nat) (fi : Int) (j : Nat) (A : Option Addr) (n c : Nat) (s d : Bool) : Ent := .blk b 80 [.v (.int .i64 fi), .sl j A n c, .v (.bool s), .v (.bool d)]
def EP (κ : Kp) (b : Nat) (fi : Int) (l : List St) (s d : Bool) (A : Option Addr) (c : Nat) : List (Nat × Ent) :=
  [(200000, blkP b fi 200001 A (κ _ l.length) c s d), (200001, .row A c 84 2 (κ _ l.length) (κ _ (encS l)))]
def blkR (b : Nat) (fi : Int) (j k : Nat) (A : Option Addr) (n c : Nat) (B : Option Addr) (m e : Nat) (s d : Bool) : Ent := .blk b 58 [.v (.int .i64 fi), .sl j A n c, .sl k B m e, .v (.bool s), .v (.bool d)]
def ER (κ : Kp) (b : Nat) (fi : Int) (l : List St) (s d : Bool) (A : Option Addr) (c : Nat) (B : Option Addr) (e : Nat) : List (Nat × Ent) :=
  [(200000, blkR b fi 200001 200002 A (κ _ l.length) c B (κ _ l.length) e s d), (200001, .row A c 2 1 (κ _ l.length) (κ _ (encG l))), (200002, .row B e 4 1 (κ _ l.length) (κ _ (encV l)))]
abbrev Fun02 := Kp → Int → List St → Bool → Bool → List SV → Option (Prop × SV × Option (List St × Bool × Bool))

def parT (F : Fun02) (κ : Kp) : TSpec := fun args H d K => match args with
  | .c (.loc id b 0) :: rest => match H id with
    | some (.blk b' t [.v (.int .i64 fi), .sl j A n c, .v (.bool s), .v (.bool db)]) => match H j with
      | some (.row A' c' t' z n' xs) => (t = 80 ∧ t' = 84 ∧ z = 2 ∧ id ≠ j) ∧ Side (κ _ (b = b' ∧ A = A' ∧ c = c' ∧ n = n')) ∧ LookX encS xs fun l => Side (κ _ (l.length = n ∧ l.length ≤ 1000)) ∧ match F κ fi l s db rest with
        | some (p, v, none) => Side p ∧ K v []
        | some (p, v, some (l', s', d')) => Side p ∧ K v [(id, some (.blk b 80 [.v (.int .i64 fi), .sl j A n c, .v (.bool s'), .v (.bool d')])), (j, some (.row A c 84 2 n (κ _ (encS l'))))]
        | none => False
      | _ => False
    | _ => False
  | _ => False
def rarT (F : Fun02) (κ : Kp) : TSpec := fun args H d K => match args with
  | .c (.loc id b 0) :: rest => match H id with
    | some (.blk b' t [.v (.int .i64 fi), .sl j A n c, .sl k B m e, .v (.bool s), .v (.bool db)]) => match H j, H k with
      | some (.row A' c' t' z n' xs), some (.row B' e' t2 z2 m' ys) => (t = 58 ∧ t' = 2 ∧ z = 1 ∧ t2 = 4 ∧ z2 = 1 ∧ id ≠ j ∧ id ≠ k ∧ j ≠ k) ∧ Side (κ _ (b = b' ∧ A = A' ∧ c = c' ∧ n = n' ∧ B = B' ∧ e = e' ∧ m = m')) ∧
        LookX encGV (xs, ys) fun l => Side (κ _ (l.length = n ∧ l.length = m ∧ l.length ≤ 1000)) ∧ match F κ fi l s db rest with
        | some (p, v, none) => Side p ∧ K v []
        | some (p, v, some (l', s', d')) => Side p ∧ K v [(id, some (.blk b 58 [.v (.int .i64 fi), .sl j A n c, .sl k B m e, .v (.bool s'), .v (.bool d')])), (j, some (.row A c 2 1 n (κ _ (encG l')))), (k, some (.row B e 4 1 m (κ _ (encV l'))))]
        | none => False
      | _, _ => False
    | _ => False
  | _ => False
/-- What a call that is handed an arena comes to. -/
structure IsA (r : Value) (e1 e2 : Option Ent) (v : SV) (o1 o2 : Option Ent) : Prop where
  h : v.den = r ∧ o1 = e1 ∧ o2 = e2
structure IsR (r : Value) (e1 e2 e3 : Option Ent) (v : SV) (o1 o2 o3 : Option Ent) : Prop where
  h : v.den = r ∧ o1 = e1 ∧ o2 = e2 ∧ o3 = e3

theorem upds2_a (H : Heap) {i j : Nat} (e1 e2 : Option Ent) (h : i ≠ j) : upds H [(i, e1), (j, e2)] i = e1 := by simp [upds, upd_apply, h]
theorem upds2_b (H : Heap) {i j : Nat} (e1 e2 : Option Ent) : upds H [(i, e1), (j, e2)] j = e2 := by simp [upds, upd_apply]
theorem upds3_a (H : Heap) {i j k : Nat} (e1 e2 e3 : Option Ent) (h : i ≠ j) (h2 : i ≠ k) : upds H [(i, e1), (j, e2), (k, e3)] i = e1 := by simp [upds, upd_apply, h, h2]
theorem upds3_b (H : Heap) {i j k : Nat} (e1 e2 e3 : Option Ent) (h : j ≠ k) : upds H [(i, e1), (j, e2), (k, e3)] j = e2 := by simp [upds, upd_apply, h]
theorem upds3_c (H : Heap) {i j k : Nat} (e1 e2 e3 : Option Ent) : upds H [(i, e1), (j, e2), (k, e3)] k = e3 := by simp [upds, upd_apply]
section
variable {P : Program} {f : FuncId}
theorem parT_conj (F : Fun02) (wr : Bool) (hro : wr = false → ∀ fi l s db rest p v o, F kid fi l s db rest = some (p, v, o) → o = none) (args : List SV) (H : Heap) (d : Nat) : ConjP (parT F kid args H d) (okKey wr H d) := by
  unfold parT
  split
  · rename_i id b rest
    split
    · rename_i b' t fi j A n c s db hid
      split
      · rename_i A' c' t' z n' xs hj
        refine .and_ fun _ => .side fun _ => .look encS_inj fun l _ => .side fun _ => ?_
        split
        · exact .side fun _ => .one _ _ (by simp)
        · rename_i p v l' s' d' hF
          refine .side fun _ => .one _ _ ?_
          have hw : wr = true := by
            cases wr with
            | true => rfl
            | false => have := hro rfl _ _ _ _ _ _ _ _ hF; cases this
          intro q hq
          simp only [List.mem_cons, List.not_mem_nil, or_false] at hq
          rcases hq with rfl | rfl
          · exact .inr (.inr (.inr ⟨hw, by rw [hid]; rfl⟩))
          · exact .inr (.inr (.inr ⟨hw, by rw [hj]; rfl⟩))
        · exact .false_
      · exact .false_
    · exact .false_
  · exact .false_
theorem rarT_conj (F : Fun02) (wr : Bool) (hro : wr = false → ∀ fi l s db rest p v o, F kid fi l s db rest = some (p, v, o) → o = none) (args : List SV) (H : Heap) (d : Nat) : ConjP (rarT F kid args H d) (okKey wr H d) := by
  unfold rarT
  split
  · rename_i id b rest
    split
    · rename_i b' t fi j A n c k B m e s db hid
      split
      · rename_i A' c' t' z n' xs B' e' t2 z2 m' ys hj hk
        refine .and_ fun _ => .side fun _ => .look encGV_inj fun l _ => .side fun _ => ?_
        split
        · exact .side fun _ => .one _ _ (by simp)
        · rename_i p v l' s' d' hF
          refine .side fun _ => .one _ _ ?_
          have hw : wr = true := by
            cases wr with
            | true => rfl
            | false => have := hro rfl _ _ _ _ _ _ _ _ hF; cases this
          intro q hq
          simp only [List.mem_cons, List.not_mem_nil, or_false] at hq
          rcases hq with rfl | rfl | rfl
          · exact .inr (.inr (.inr ⟨hw, by rw [hid]; rfl⟩))
          · exact .inr (.inr (.inr ⟨hw, by rw [hj]; rfl⟩))
          · exact .inr (.inr (.inr ⟨hw, by rw [hk]; rfl⟩))
        · exact .false_
      · exact .false_
    · exact .false_
  · exact .false_

/-- A method of the program's arenas: what it comes to, as a contract. -/
def parES (hB : Bodied P f) (F : Fun02) (wr : Bool) (hro : wr = false → ∀ fi l s db rest p v o, F kid fi l s db rest = some (p, v, o) → o = none) {κ : Kp} (hκ : κ = kid)
    (hk : ∀ fi l s db rest p v o, F kid fi l s db rest = some (p, v, o) → p → l.length ≤ 1000 → ∀ (b : Nat) (A : Option Addr) (c : Nat) (w : World), HSat w (mutE (EP kid b fi l s db A c)) (heapOf (EP kid b fi l s db A c)) w →
      Calls P f (Value.pointer (some ⟨b, 0, none⟩) :: rest.map SV.den).toArray w fun e w' => ∃ Hc, e = .returned v.den ∧ HSat w (mutE (EP kid b fi l s db A c)) Hc w' ∧
        Hc 200000 = some (blkP b fi 200001 A l.length c (o.getD (l, s, db)).2.1 (o.getD (l, s, db)).2.2) ∧ Hc 200001 = some (.row A c 84 2 l.length (encS (o.getD (l, s, db)).1))) : ESpec P :=
  ES hB wr (parT F) hκ (parT_conj F wr hro) fun args H0 H d w0 M w hs hsub hH => by
    have hs' := hs
    unfold parT at hs'
    split at hs'
    case h_2 => exact hs'.elim
    rename_i id b rest
    split at hs'
    case h_2 => exact hs'.elim
    rename_i b' t fi j A n c s db hid
    split at hs'
    case h_2 => exact hs'.elim
    rename_i A' c' t' z n' xs hj
    obtain ⟨⟨rfl, rfl, rfl, hne⟩, ⟨h1⟩, ⟨l, rfl, ⟨h2⟩, h3⟩⟩ := hs'
    obtain ⟨rfl, rfl, rfl, rfl⟩ := h1
    obtain ⟨rfl, h2b⟩ := h2
    have hG : Gives H [id, j] (EP kid b fi l s db A c) := ⟨⟨_, hsub _ _ hid, gives_blk rfl⟩, ⟨_, hsub _ _ hj, gives_refl _⟩, trivial⟩
    have hnd : [id, j].Nodup := by simp [hne]
    have hfin : ∀ p v o, F kid fi l s db rest = some (p, v, o) → p → (∀ K : KT, parT F kid (.c (.loc id b 0) :: rest) H0 d K → K v (match o with | none => [] | some (l', s', d') => [(id, some (.blk b 80 [.v (.int .i64 fi), .sl j A l.length c, .v (.bool s'), .v (.bool d')])), (j, some (.row A c 84 2 l.length (encS l')))])) →
        Calls P f ((SV.c (.loc id b 0) :: rest).map SV.den).toArray w fun e w' => ∃ v u x, e = .returned x ∧ (∀ K : KT, parT F kid (.c (.loc id b 0) :: rest) H0 d K → K v u) ∧ (v.known = true → x = v.den) ∧ HSat w0 M (upds H u) w' := by
      intro p v o hF hp hK
      refine (hk fi l s db rest p v o hF hp h2b b A c w (hH.enter hnd hG)).mono ?_
      rintro e w' ⟨Hc, rfl, hHc, e1, e2⟩
      refine ⟨v, _, v.den, rfl, hK, fun _ => rfl, ?_⟩
      refine hH.leave hnd hG hHc _ [(id, 200000), (j, 200001)] ?_ ?_ (by simp)
      · intro q hq
        simp only [List.mem_cons, List.not_mem_nil, or_false] at hq
        have hji : j ≠ id := fun h => hne h.symm
        cases o with
        | none =>
          rcases hq with rfl | rfl
          · exact ⟨_, _, e1, hsub _ _ hid, gives_blk rfl, rfl⟩
          · exact ⟨_, _, e2, hsub _ _ hj, gives_refl _, rfl⟩
        | some o =>
          obtain ⟨l', s', d'⟩ := o
          rcases hq with rfl | rfl
          · exact ⟨_, _, e1, upds2_a H _ _ hne, gives_blk rfl, rfl⟩
          · exact ⟨_, _, e2, upds2_b H _ _, gives_refl _, rfl⟩
      · intro i hi
        have hi1 : id ≠ i := fun e => hi (id, 200000) (by simp) e
        have hi2 : j ≠ i := fun e => hi (j, 200001) (by simp) e
        refine .inr ⟨?_, ?_⟩
        · cases o with
          | none => rfl
          | some o => exact upds_other _ H i (by simp [hi1, hi2])
        · intro k t e hk1 hk2
          match k, hk2 with
          | 0, h => simp at h; exact absurd h hi1
          | 1, h => simp at h; exact absurd h hi2
          | k + 2, h => simp at h
    split at h3
    · rename_i p v hF
      exact hfin p v none hF h3.1.h fun K hK => by
        unfold parT at hK
        simp only [hid, hj] at hK
        obtain ⟨_, _, ⟨l2, hl2, _, h⟩⟩ := hK
        have := encS_inj _ _ hl2
        subst this
        rw [hF] at h
        exact h.2
    · rename_i p v l' s' d' hF
      exact hfin p v (some (l', s', d')) hF h3.1.h fun K hK => by
        unfold parT at hK
        simp only [hid, hj] at hK
        obtain ⟨_, _, ⟨l2, hl2, _, h⟩⟩ := hK
        have := encS_inj _ _ hl2
        subst this
        rw [hF] at h
        exact h.2
    · exact h3.elim
def rarES (hB : Bodied P f) (F : Fun02) (wr : Bool) (hro : wr = false → ∀ fi l s db rest p v o, F kid fi l s db rest = some (p, v, o) → o = none) {κ : Kp} (hκ : κ = kid)
    (hk : ∀ fi l s db rest p v o, F kid fi l s db rest = some (p, v, o) → p → l.length ≤ 1000 → ∀ (b : Nat) (A : Option Addr) (c : Nat) (B : Option Addr) (e : Nat) (w : World), HSat w (mutE (ER kid b fi l s db A c B e)) (heapOf (ER kid b fi l s db A c B e)) w →
      Calls P f (Value.pointer (some ⟨b, 0, none⟩) :: rest.map SV.den).toArray w fun x w' => ∃ Hc, x = .returned v.den ∧ HSat w (mutE (ER kid b fi l s db A c B e)) Hc w' ∧
        Hc 200000 = some (blkR b fi 200001 200002 A l.length c B l.length e (o.getD (l, s, db)).2.1 (o.getD (l, s, db)).2.2) ∧ Hc 200001 = some (.row A c 2 1 l.length (encG (o.getD (l, s, db)).1)) ∧ Hc 200002 = some (.row B e 4 1 l.length (encV (o.getD (l, s, db)).1))) : ESpec P :=
  ES hB wr (rarT F) hκ (rarT_conj F wr hro) fun args H0 H d w0 M w hs hsub hH => by
    have hs' := hs
    unfold rarT at hs'
    split at hs'
    case h_2 => exact hs'.elim
    rename_i id b rest
    split at hs'
    case h_2 => exact hs'.elim
    rename_i b' t fi j A n c k B m ce s db hid
    split at hs'
    case h_2 => exact hs'.elim
    rename_i A' c' t' z n' xs B' e' t2 z2 m' ys hj hk0
    obtain ⟨⟨rfl, rfl, rfl, rfl, rfl, hne, hne2, hne3⟩, ⟨h1⟩, ⟨l, hxy, ⟨h2⟩, h3⟩⟩ := hs'
    obtain ⟨rfl, rfl, rfl, rfl, rfl, rfl, rfl⟩ := h1
    obtain ⟨rfl, rfl, h2b⟩ := h2
    injection hxy with hx hy
    subst hx hy
    have hG : Gives H [id, j, k] (ER kid b fi l s db A c B ce) := ⟨⟨_, hsub _ _ hid, gives_blk rfl⟩, ⟨_, hsub _ _ hj, gives_refl _⟩, ⟨_, hsub _ _ hk0, gives_refl _⟩, trivial⟩
    have hnd : [id, j, k].Nodup := by simp [hne, hne2, hne3]
    have hfin : ∀ p v o, F kid fi l s db rest = some (p, v, o) → p → (∀ K : KT, rarT F kid (.c (.loc id b 0) :: rest) H0 d K → K v (match o with | none => [] | some (l', s', d') => [(id, some (.blk b 58 [.v (.int .i64 fi), .sl j A l.length c, .sl k B l.length ce, .v (.bool s'), .v (.bool d')])), (j, some (.row A c 2 1 l.length (encG l'))), (k, some (.row B ce 4 1 l.length (encV l')))])) →
        Calls P f ((SV.c (.loc id b 0) :: rest).map SV.den).toArray w fun e w' => ∃ v u x, e = .returned x ∧ (∀ K : KT, rarT F kid (.c (.loc id b 0) :: rest) H0 d K → K v u) ∧ (v.known = true → x = v.den) ∧ HSat w0 M (upds H u) w' := by
      intro p v o hF hp hK
      refine (hk fi l s db rest p v o hF hp h2b b A c B ce w (hH.enter hnd hG)).mono ?_
      rintro e w' ⟨Hc, rfl, hHc, e1, e2, e3⟩
      refine ⟨v, _, v.den, rfl, hK, fun _ => rfl, ?_⟩
      refine hH.leave hnd hG hHc _ [(id, 200000), (j, 200001), (k, 200002)] ?_ ?_ (by simp)
      · intro q hq
        simp only [List.mem_cons, List.not_mem_nil, or_false] at hq
        cases o with
        | none =>
          rcases hq with rfl | rfl | rfl
          · exact ⟨_, _, e1, hsub _ _ hid, gives_blk rfl, rfl⟩
          · exact ⟨_, _, e2, hsub _ _ hj, gives_refl _, rfl⟩
          · exact ⟨_, _, e3, hsub _ _ hk0, gives_refl _, rfl⟩
        | some o =>
          obtain ⟨l', s', d'⟩ := o
          rcases hq with rfl | rfl | rfl
          · exact ⟨_, _, e1, upds3_a H _ _ _ hne hne2, gives_blk rfl, rfl⟩
          · exact ⟨_, _, e2, upds3_b H _ _ _ hne3, gives_refl _, rfl⟩
          · exact ⟨_, _, e3, upds3_c H _ _ _, gives_refl _, rfl⟩
      · intro i hi
        have hi1 : id ≠ i := fun e => hi (id, 200000) (by simp) e
        have hi2 : j ≠ i := fun e => hi (j, 200001) (by simp) e
        have hi3 : k ≠ i := fun e => hi (k, 200002) (by simp) e
        refine .inr ⟨?_, ?_⟩
        · cases o with
          | none => rfl
          | some o => exact upds_other _ H i (by simp [hi1, hi2, hi3])
        · intro q t e hk1 hk2
          match q, hk2 with
          | 0, h => simp at h; exact absurd h hi1
          | 1, h => simp at h; exact absurd h hi2
          | 2, h => simp at h; exact absurd h hi3
          | q + 3, h => simp at h
    split at h3
    · rename_i p v hF
      exact hfin p v none hF h3.1.h fun K hK => by
        unfold rarT at hK
        simp only [hid, hj, hk0] at hK
        obtain ⟨_, _, ⟨l2, hl2, _, h⟩⟩ := hK
        have := encGV_inj _ _ hl2
        subst this
        rw [hF] at h
        exact h.2
    · rename_i p v l' s' d' hF
      exact hfin p v (some (l', s', d')) hF h3.1.h fun K hK => by
        unfold rarT at hK
        simp only [hid, hj, hk0] at hK
        obtain ⟨_, _, ⟨l2, hl2, _, h⟩⟩ := hK
        have := encGV_inj _ _ hl2
        subst this
        rw [hF] at h
        exact h.2
    · exact h3.elim
end
end Go.Proofs.Ytjlgeoaomegbmaa.Eng
