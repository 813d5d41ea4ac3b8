/- Texts of this work, laid together: symbolic execution over the model, contracts of the program's functions, what they come to; conditions: as each says. -/
import Derived.WalkKit
import Derived.WalkSpells
import Derived.WalkLawsBesides
import Derived.Lib.AppendZeros
import Derived.Lib.Walk
import Derived.Lib.SliceRun
import Derived.Test.YtbcicjmepojlnaaPkYAJ
import Derived.Test.YtbcicjmepojlnaaPkYAK
/- slices.Grow of nil; condition: at most a million areas. -/
namespace Go.Proofs.Ytbcicjmepojlnaa.Eng
open Go Go.RowKit
set_option linter.unusedVariables false
set_option linter.unusedSimpArgs false
end Go.Proofs.Ytbcicjmepojlnaa.Eng
/- Contracts of functions of a list that hand back a new list; no condition. -/
namespace Go.Proofs.Ytbcicjmepojlnaa.Eng
open Go Go.RowKit
set_option linter.unusedSimpArgs false
set_option linter.unusedVariables false
theorem take_next {l : List Ar} {i : Nat} (h : i < l.length) : l.take (i + 1) = l.take i ++ [nthA l i] := by
  rw [List.take_add_one, nthA_get h]
  rfl
theorem take_all {l : List Ar} {i : Nat} (h : ¬ i < l.length) : l.take i = l := List.take_of_length_le (by omega)
theorem encL_app (l k : List Ar) : encL (l ++ k) = encL l ++ encL k := by
  unfold encL
  rw [List.flatMap_append]
theorem encL_one (a : Ar) : encL [a] = encA a := by
  unfold encL
  rw [List.flatMap_cons, List.flatMap_nil, List.append_nil]
theorem encL_ok (l : List Ar) : ok1 (encL l) = true := enc_ok1 (fun x => rfl) l
/-! ### The pure functions -/
def aheadA (from_ : Int) (a : Ar) : List Ar := if (hasPart a 65536 (maxI from_ 65536) && decide (from_ > a.s)) = true then [partA a 65536 (maxI from_ 65536)] else []
def behindA (to : Int) (a : Ar) : List Ar := if (hasPart a (maxI to 65536) 2097152 && decide (to < a.e)) = true then [partA a (maxI to 65536) 2097152] else []
def aheadL (l : List Ar) (from_ : Int) : List Ar := l.flatMap (aheadA from_)
def behindL (l : List Ar) (to : Int) : List Ar := l.flatMap (behindA to)
def toI (hi : Int) : Int := if hi < 2097152 then w64 (0 - floorA (w64 (0 - hi))) else hi
def setA (p : Int) (a : Ar) : Ar := { a with p := p }
/-! ### Contracts -/
structure IsR (r : List Ar) (v : SV) (H' : Heap) : Prop where
  h : ∃ i A2 c2, v = .c (.sl i A2 r.length c2) ∧ (H' i = some (.row A2 c2 53 6 r.length (encL r)) ∨ (r = [] ∧ A2 = none ∧ c2 = 0))
theorem mutE_nil : (fun _ : Nat => False) = mutE [] := by
  funext g
  apply propext
  refine ⟨fun h => h.elim, ?_⟩
  rintro ⟨k, t, e, hk, _⟩
  simp at hk
theorem IsR.row {r : List Ar} {v : SV} {H' : Heap} {w w' : World} {M : Nat → Prop} (h : IsR r v H') (hH : HSat w M H' w') : ∃ i A2 c2 H2, v.den = .slice A2 r.length c2 ∧ H2 i = some (.row A2 c2 53 6 r.length (encL r)) ∧ HSat w M H2 w' := by
  obtain ⟨i, A2, c2, rfl, h | ⟨rfl, rfl, rfl⟩⟩ := h
  · exact ⟨i, A2, c2, H', rfl, h, hH⟩
  · have hf := free_block (e := .row none 0 53 6 0 []) ⟨rfl, rfl, rfl, rfl⟩
    have := hH.step (w' := w') none (fun _ => False) rfl rfl rfl (Nat.le_refl _) (fun _ _ _ => rfl) (fun _ h => h.elim) 900001 (.row none 0 53 6 0 []) (hf.2 w') (fun g hg => by rw [hf.1] at hg; cases hg)
    exact ⟨900001, none, 0, _, rfl, by show upd H' 900001 _ 900001 = _; rw [upd_apply, if_pos rfl]; rfl, this⟩
theorem okd (H : Heap) (d : Nat) (e : Option Ent) : ∀ p ∈ [(d, e)], okKey false H d p.1 := by simp [okKey]
section
variable {P : Program} {f : FuncId}
theorem leaveR {w0 w w' : World} {M : Nat → Prop} {H H2 : Heap} (hH : HSat w0 M H w) {i : Nat} {e : Ent} (h2 : H2 i = some e) (hm : e.mut = true) (hc : HSat w (fun _ => False) H2 w') (d : Nat) : HSat w0 M (upds H [(d, some e)]) w' := by
  rw [mutE_nil] at hc
  refine hH.leave (ρ := []) (E := []) (by simp) trivial hc _ [(d, i)] ?_ ?_ (by simp)
  · intro q hq
    simp only [List.mem_cons, List.not_mem_nil, or_false] at hq
    subst hq
    exact ⟨_, _, h2, by simp [upds, upd_apply], gives_refl _, hm⟩
  · intro q hq
    have h1 : d ≠ q := fun e => hq (d, i) (by simp) e
    exact .inr ⟨upds_other _ H q (by simp [h1]), fun k t e hk => by simp at hk⟩
end
end Go.Proofs.Ytbcicjmepojlnaa.Eng
/- list.within; condition: at most a million areas. -/
namespace Go.Proofs.Ytbcicjmepojlnaa.Eng
open Go Go.RowKit
set_option linter.unusedSimpArgs false
set_option linter.unusedVariables false
end Go.Proofs.Ytbcicjmepojlnaa.Eng
/- list.joined; condition: at most a million areas. -/
namespace Go.Proofs.Ytbcicjmepojlnaa.Eng
open Go Go.RowKit
set_option linter.unusedSimpArgs false
set_option linter.unusedVariables false
theorem last_at {l : List Ar} (h : 0 < l.length) : l.getLast? = some (nthA l (l.length - 1)) := by
  rw [List.getLast?_eq_getElem?, nthA_get (by omega)]
theorem last_ix {n : Nat} (h0 : decide ((0 : Int) < (n : Int)) = true) (hl : n ≤ 1000000) : IntKind.i64.wrap ((n : Int) - 1) = ((n - 1 : Nat) : Int) ∧ n - 1 < n := by
  have := of_decide_eq_true h0
  have : w64 ((n : Int) - 1) = (n : Int) - 1 := w64_id (by unfold In64; omega)
  unfold w64 at this
  rw [this]
  omega
theorem last_in {n : Nat} (h0 : decide ((0 : Int) < (n : Int)) = true) (hl : n ≤ 1000000) : 0 < 6 ∧ 0 ≤ IntKind.i64.wrap ((n : Int) - 1) ∧ IntKind.i64.wrap ((n : Int) - 1) < (n : Int) := by
  have := last_ix h0 hl
  rw [this.1]
  omega
end Go.Proofs.Ytbcicjmepojlnaa.Eng
/- slices.Concat of two lists, and of three (printed by conc.py of this work); condition: half a million areas in each. -/
namespace Go.Proofs.Ytbcicjmepojlnaa.Eng
open Go Go.RowKit
set_option linter.unusedSimpArgs false
set_option linter.unusedVariables false
end Go.Proofs.Ytbcicjmepojlnaa.Eng
/- The contract of slices.Concat, of two lists and of three (printed by conce.py of this work); condition: 300000 areas in each. -/
namespace Go.Proofs.Ytbcicjmepojlnaa.Eng
open Go Go.RowKit
set_option linter.unusedSimpArgs false
set_option linter.unusedVariables false
end Go.Proofs.Ytbcicjmepojlnaa.Eng
/- Contracts of functions (printed by gen.py of this work): what each hands back; condition: as its 'hside' says. -/
namespace Go.Proofs.Ytbcicjmepojlnaa.Eng
open Go Go.RowKit
set_option linter.unusedVariables false
set_option linter.unusedSimpArgs false
end Go.Proofs.Ytbcicjmepojlnaa.Eng
/- list.around: what lies ahead of a range, and behind it (printed by around.py of this work); condition: at most a million areas. -/
namespace Go.Proofs.Ytbcicjmepojlnaa.Eng
open Go Go.RowKit
set_option linter.unusedSimpArgs false
set_option linter.unusedVariables false
structure IsTwo (x y : List Ar) (v : SV) (H' : Heap) : Prop where
  h : ∃ i A1 c1 j A2 c2, v = .tup [.c (.sl i A1 x.length c1), .c (.sl j A2 y.length c2)] ∧ H' i = some (.row A1 c1 53 6 x.length (encL x)) ∧ H' j = some (.row A2 c2 53 6 y.length (encL y)) ∧ i ≠ j
structure IsAround (l : List Ar) (lo hi : Int) (A : Option Addr) (c : Nat) (v : SV) (H' : Heap) : Prop where
  h : (decide (lo ≥ hi) = true ∧ v = .tup [.c (.sl 200000 A l.length c), .c (.sl nilId none 0 0)]) ∨ (decide (lo ≥ hi) = false ∧ IsTwo (aheadL l (floorA lo)) (behindL l (toI hi)) v H')
end Go.Proofs.Ytbcicjmepojlnaa.Eng
/- The contract of list.around; condition: at most a million areas. -/
namespace Go.Proofs.Ytbcicjmepojlnaa.Eng
open Go Go.RowKit
set_option linter.unusedSimpArgs false
set_option linter.unusedVariables false
theorem ConjP.turn {T T' : KT → Prop} {ok : Nat → Prop} (h : ConjP T ok) (he : ∀ K, T' K ↔ T K) : ConjP T' ok := by
  obtain ⟨s, R, h0, h1, h2⟩ := h
  exact ⟨s, R, h0, h1, fun K => (he K).trans (h2 K)⟩
end Go.Proofs.Ytbcicjmepojlnaa.Eng
/- What functions on lists come to, branch by branch; no condition. -/
namespace Go.Proofs.Ytbcicjmepojlnaa.Eng
open Go Go.RowKit
set_option linter.unusedSimpArgs false
set_option linter.unusedVariables false
theorem IsR.row_ {r r' : List Ar} {i c2 : Nat} {A2 : Option Addr} {H' : Heap} (h : r' = r) (hH : H' i = some (.row A2 c2 53 6 r'.length (encL r'))) : IsR r (.c (.sl i A2 r'.length c2)) H' := by
  subst h
  exact ⟨⟨i, A2, c2, rfl, .inl hH⟩⟩
def setTo (p : Int) (W : List Ar) (i : Nat) : List Ar := (W.take i).map (setA p) ++ W.drop i
theorem setTo_len (p : Int) (W : List Ar) (i : Nat) : (setTo p W i).length = W.length := by
  unfold setTo
  rw [List.length_append, List.length_map, List.length_take, List.length_drop]
  omega
end Go.Proofs.Ytbcicjmepojlnaa.Eng
/- Pages as they lie in memory; contracts of functions of lists, pages, numbers, told in one way; no condition. -/
namespace Go.Proofs.Ytbcicjmepojlnaa.Eng
open Go Go.RowKit
set_option autoImplicit false
set_option linter.unusedSimpArgs false
set_option linter.unusedVariables false
structure Pg where
  is : Bool
  t : At
def noPg : Pg := ⟨false, noAt⟩
def encP (p : Pg) : List C := [.v (.bool p.is), .v (.int .i64 p.t.p), .v (.bool p.t.sh), .v (.int .i64 p.t.b), .v (.int .i64 p.t.o)]
def encS (s : List Pg) : List C := s.flatMap encP
theorem encP_len (p : Pg) : (encP p).length = 5 := rfl
theorem encP_inj (x y : Pg) (h : encP x = encP y) : x = y := by
  obtain ⟨_, ⟨_, _, _, _⟩⟩ := x
  obtain ⟨_, ⟨_, _, _, _⟩⟩ := y
  simpa [encP] using h
theorem encS_inj (s s' : List Pg) (h : encS s = encS s') : s = s' := enc_inj encP_len (by decide) encP_inj s s' h
theorem encS_len (s : List Pg) : (encS s).length = s.length * 5 := enc_len encP_len s
theorem encS_ok (s : List Pg) : ok1 (encS s) = true := enc_ok1 (fun x => rfl) s
def noS : List Pg := List.replicate 512 noPg
theorem noS_len : noS.length = 512 := List.length_replicate
theorem encS_zero : ∀ n : Nat, (List.replicate n (encP noPg)).flatten = encS (List.replicate n noPg)
  | 0 => rfl
  | n + 1 => by
    rw [List.replicate_succ, List.flatten_cons, encS_zero n, List.replicate_succ]
    rfl
theorem encS_noS : (List.replicate 512 [C.v (.bool false), .v (.int .i64 0), .v (.bool false), .v (.int .i64 0), .v (.int .i64 0)]).flatten = encS noS := encS_zero 512
def nthP (s : List Pg) (i : Nat) : Pg := s.getD i noPg
theorem nthP_get {s : List Pg} {i : Nat} (h : i < s.length) : s[i]? = some (nthP s i) := by
  unfold nthP
  rw [List.getD_eq_getElem?_getD, List.getElem?_eq_getElem h]
  rfl
/-! ### Contracts, told in one way -/
inductive Kd where
  | flat
  | list
  | listc
  | space
inductive AV where
  | val (v : SV)
  | lst (l : List Ar) (x : C)
  | lstc (l : List Ar) (x : C)
  | spc (s : List Pg)
inductive Rs where
  | val (v : SV)
  | row (t z n : Nat) (xs : List C) (mk : C → SV)
  | alt (b : Bool) (x : C) (mk1 : C → SV) (r : List Ar) (mk2 : C → SV)
def decT (κ : Kp) : List Kd → List SV → Heap → (List AV → Prop) → Prop
  | [], ar, _, Q => match ar with
    | [] => Q []
    | _ => False
  | .flat :: ks, ar, H, Q => match ar with
    | v :: ar => decT κ ks ar H fun r => Q (.val v :: r)
    | _ => False
  | .list :: ks, ar, H, Q => match ar with
    | .c (.sl id A n c) :: ar => match rowOf (H id) with
      | some (A', z, n', xs) => Side (κ _ (A = A' ∧ n = n' ∧ (z = 6 ∨ n = 0))) ∧ LookX encL xs fun l => Side (κ _ (l.length = n)) ∧ decT κ ks ar H fun r => Q (.lst l (.sl id A n c) :: r)
      | none => False
    | _ => False
  | .listc :: ks, ar, H, Q => match ar with
    | .c (.sl id A n c) :: ar => match H id with
      | some (.rd A' z n' xs) => Side (κ _ (A = A' ∧ n = n' ∧ (z = 6 ∨ n = 0) ∧ n ≤ c)) ∧ LookX encL xs fun l => Side (κ _ (l.length = n)) ∧ decT κ ks ar H fun r => Q (.lstc l (.sl id A n c) :: r)
      | some (.row A' c' _ z n' xs) => Side (κ _ (A = A' ∧ c = c' ∧ n = n' ∧ (z = 6 ∨ n = 0))) ∧ LookX encL xs fun l => Side (κ _ (l.length = n)) ∧ decT κ ks ar H fun r => Q (.lstc l (.sl id A n c) :: r)
      | _ => False
    | _ => False
  | .space :: ks, ar, H, Q => match ar with
    | .agg xs :: ar => LookX encS xs fun s => Side (κ _ (s.length = 512)) ∧ decT κ ks ar H fun r => Q (.spc s :: r)
    | _ => False
def resK (κ : Kp) : Rs → Nat → KT → Prop
  | .val v, _, K => K v []
  | .row t z n xs mk, d, K => ∀ (A2 : Option Addr) (c2 : Nat), K (mk (.sl d A2 n c2)) [(d, some (.row A2 c2 t z n xs))]
  | .alt b x mk1 r mk2, d, K => match b with
    | true => K (mk1 x) []
    | false => ∀ (A2 : Option Addr) (c2 : Nat), K (mk2 (.sl d A2 (κ _ r.length) c2)) [(d, some (.row A2 c2 53 6 (κ _ r.length) (κ _ (encL r))))]
abbrev FunX := Kp → List AV → Option (Prop × Rs)
def fnT (ks : List Kd) (F : FunX) (κ : Kp) : TSpec := fun args H d K => decT κ ks args H fun avs => match F κ avs with
  | some (p, r) => Side p ∧ resK κ r d K
  | none => False
def OutX : Rs → SV → Heap → Prop
  | .val r, v, _ => v.den = r.den
  | .row t z n xs mk, v, H' => ∃ i A2 c2, v = mk (.sl i A2 n c2) ∧ (H' i = some (.row A2 c2 t z n xs) ∨ (n = 0 ∧ xs = [] ∧ A2 = none ∧ c2 = 0))
  | .alt b x mk1 r mk2, v, H' => (b = true → v.den = (mk1 x).den) ∧ (b = false → ∃ i A2 c2, v = mk2 (.sl i A2 r.length c2) ∧ (H' i = some (.row A2 c2 53 6 r.length (encL r)) ∨ (r = [] ∧ A2 = none ∧ c2 = 0)))
structure IsX (r : Rs) (v : SV) (H' : Heap) : Prop where
  h : OutX r v H'
theorem IsX.val_ {v v' : SV} {H' : Heap} (h : v.den = v'.den) : IsX (.val v') v H' := ⟨h⟩
theorem IsX.bool_ {a b : Bool} {H' : Heap} (h : b = a) : IsX (.val (.c (.v (.bool a)))) (.c (.v (.bool b))) H' := by
  subst h
  exact ⟨rfl⟩
theorem IsX.int_ {a b : Int} {k : IntKind} {H' : Heap} (h : b = a) : IsX (.val (.c (.v (.int k a)))) (.c (.v (.int k b))) H' := by
  subst h
  exact ⟨rfl⟩
theorem IsX.row_ {mk : C → SV} {r r' : List Ar} {i c2 : Nat} {A2 : Option Addr} {v : SV} {H' : Heap} (h : r' = r) (hv : v = mk (.sl i A2 r'.length c2)) (hH : H' i = some (.row A2 c2 53 6 r'.length (encL r'))) : IsX (.row 53 6 r.length (encL r) mk) v H' := by
  subst h
  exact ⟨⟨i, A2, c2, hv, .inl hH⟩⟩
def mkOk (r : Rs) : Prop := match r with
  | .val _ => True
  | .row _ _ _ _ mk => ∀ x y : C, x.den = y.den → (mk x).den = (mk y).den
  | .alt _ _ _ _ mk => ∀ x y : C, x.den = y.den → (mk x).den = (mk y).den
def RealW (w : World) : List AV → List Value → Prop
  | [], vs => vs = []
  | .val v :: r, vs => ∃ xs, vs = v.den :: xs ∧ RealW w r xs
  | .lst l x :: r, vs => ∃ id A c xs, x = .sl id A l.length c ∧ vs = .slice A l.length c :: xs ∧ (Ent.rd A 6 l.length (encL l)).holds w ∧ RealW w r xs
  | .lstc l x :: r, vs => ∃ id A c xs, x = .sl id A l.length c ∧ vs = .slice A l.length c :: xs ∧ l.length ≤ c ∧ (Ent.rd A 6 l.length (encL l)).holds w ∧ RealW w r xs
  | .spc s :: r, vs => ∃ xs, vs = (SV.agg (encS s)).den :: xs ∧ s.length = 512 ∧ RealW w r xs
section
variable {P : Program} {f : FuncId}
theorem decT_conj {ok : Nat → Prop} : ∀ (ks : List Kd) (args : List SV) (H : Heap) (Q : List AV → KT → Prop), (∀ avs, ConjP (Q avs) ok) → ConjP (fun K => decT kid ks args H fun avs => Q avs K) ok
  | [], ar, H, Q, h => by
    unfold decT
    cases ar with
    | nil => exact h []
    | cons => exact .false_
  | .flat :: ks, ar, H, Q, h => by
    unfold decT
    cases ar with
    | nil => exact .false_
    | cons v ar => exact decT_conj ks ar H (fun r => Q (.val v :: r)) fun r => h _
  | .list :: ks, ar, H, Q, h => by
    unfold decT
    split
    · split
      · rename_i id A n c ar _ _ _ _ _ _
        exact .side fun _ => .look encL_inj fun l _ => .side fun _ => decT_conj ks _ H (fun r => Q (.lst l (.sl id A n c) :: r)) fun r => h _
      · exact .false_
    · exact .false_
  | .listc :: ks, ar, H, Q, h => by
    unfold decT
    split
    · split
      · rename_i id A n c ar _ _ _ _ _ _
        exact .side fun _ => .look encL_inj fun l _ => .side fun _ => decT_conj ks _ H (fun r => Q (.lstc l (.sl id A n c) :: r)) fun r => h _
      · rename_i id A n c ar _ _ _ _ _ _ _ _
        exact .side fun _ => .look encL_inj fun l _ => .side fun _ => decT_conj ks _ H (fun r => Q (.lstc l (.sl id A n c) :: r)) fun r => h _
      · exact .false_
    · exact .false_
  | .space :: ks, ar, H, Q, h => by
    unfold decT
    split
    · exact .look encS_inj fun s _ => .side fun _ => decT_conj ks _ H (fun r => Q (.spc s :: r)) fun r => h _
    · exact .false_
theorem resK_conj (H : Heap) (r : Rs) (d : Nat) : ConjP (resK kid r d) (okKey false H d) := by
  cases r with
  | val v => exact .one _ _ (by simp)
  | row t z n xs mk => exact .all2 (fun A2 c2 => mk (.sl d A2 _ c2)) (fun A2 c2 => [(d, some (.row A2 c2 t z n xs))]) fun _ _ => okd _ _ _
  | alt b x mk1 r mk2 =>
    cases b with
    | true => exact .one (mk1 x) [] (by simp)
    | false => exact .all2 (fun A2 c2 => mk2 (.sl d A2 r.length c2)) (fun A2 c2 => [(d, some (.row A2 c2 53 6 r.length (encL r)))]) fun _ _ => okd _ _ _
theorem fnT_conj (ks : List Kd) (F : FunX) (args : List SV) (H : Heap) (d : Nat) : ConjP (fnT ks F kid args H d) (okKey false H d) := by
  refine decT_conj ks args H (fun avs K => match F kid avs with
    | some (p, r) => Side p ∧ resK kid r d K
    | none => False) fun avs => ?_
  cases F kid avs with
  | none => exact .false_
  | some q =>
    obtain ⟨p, r⟩ := q
    exact .side fun _ => resK_conj H r d
theorem decT_run {H0 H : Heap} {w0 w : World} {M : Nat → Prop} (hsub : ∀ i e, H0 i = some e → H i = some e) (hH : HSat w0 M H w) : ∀ (ks : List Kd) (args : List SV) (Q : List AV → Prop), decT kid ks args H0 Q →
    ∃ avs, Q avs ∧ RealW w avs (args.map SV.den) ∧ ∀ Q', decT kid ks args H0 Q' → Q' avs
  | [], ar, Q, h => by
    unfold decT at h
    cases ar with
    | nil => exact ⟨[], h, rfl, fun Q' h' => h'⟩
    | cons => exact h.elim
  | .flat :: ks, ar, Q, h => by
    unfold decT at h
    cases ar with
    | nil => exact h.elim
    | cons v ar =>
      obtain ⟨avs, h1, h2, h4⟩ := decT_run hsub hH ks ar _ h
      exact ⟨.val v :: avs, h1, ⟨_, rfl, h2⟩, fun Q' h' => h4 _ h'⟩
  | .list :: ks, ar, Q, h => by
    unfold decT at h
    split at h
    case h_2 => exact h.elim
    rename_i id A n c ar
    split at h
    case h_2 => exact h.elim
    rename_i A' z n' xs hrow
    obtain ⟨⟨e1, e2, hz⟩, ⟨l, hx, ⟨hn⟩, h⟩⟩ := h
    subst e1 e2
    obtain ⟨avs, h1, h2, h4⟩ := decT_run hsub hH ks ar _ h
    have hn' : l.length = n := hn
    have hrd : (Ent.rd A 6 l.length (encL l)).holds w := rd_holds (hH.drop hsub) hrow hz hn hx
    subst hn'
    refine ⟨.lst l (.sl id A l.length c) :: avs, h1, ⟨id, A, c, _, rfl, rfl, hrd, h2⟩, fun Q' h' => ?_⟩
    unfold decT at h'
    simp only [hrow] at h'
    obtain ⟨_, ⟨l2, hl2, _, h'⟩⟩ := h'
    have := encL_inj _ _ (hx.symm.trans hl2)
    subst this
    exact h4 _ h'
  | .listc :: ks, ar, Q, h => by
    unfold decT at h
    split at h
    case h_2 => exact h.elim
    rename_i id A n c ar
    split at h
    case h_3 => exact h.elim
    · rename_i A' z n' xs hrow
      obtain ⟨⟨e1, e2, hz, hnc⟩, ⟨l, hx, ⟨hn⟩, h⟩⟩ := h
      subst e1 e2
      obtain ⟨avs, h1, h2, h4⟩ := decT_run hsub hH ks ar _ h
      have hn' : l.length = n := hn
      have hrd : (Ent.rd A 6 l.length (encL l)).holds w := rd_holds (hH.drop hsub) (by rw [hrow]; rfl) hz hn hx
      subst hn'
      refine ⟨.lstc l (.sl id A l.length c) :: avs, h1, ⟨id, A, c, _, rfl, rfl, hnc, hrd, h2⟩, fun Q' h' => ?_⟩
      unfold decT at h'
      simp only [hrow] at h'
      obtain ⟨_, ⟨l2, hl2, _, h'⟩⟩ := h'
      have := encL_inj _ _ (hx.symm.trans hl2)
      subst this
      exact h4 _ h'
    · rename_i A' c' t' z n' xs hrow
      obtain ⟨⟨e1, e3, e2, hz⟩, ⟨l, hx, ⟨hn⟩, h⟩⟩ := h
      subst e1 e2 e3
      obtain ⟨avs, h1, h2, h4⟩ := decT_run hsub hH ks ar _ h
      have hn' : l.length = n := hn
      have hrd : (Ent.rd A 6 l.length (encL l)).holds w := rd_holds (hH.drop hsub) (by rw [hrow]; rfl) hz hn hx
      have hnc : n ≤ c := ((hH.drop hsub).holds _ _ hrow).2.1
      subst hn'
      refine ⟨.lstc l (.sl id A l.length c) :: avs, h1, ⟨id, A, c, _, rfl, rfl, hnc, hrd, h2⟩, fun Q' h' => ?_⟩
      unfold decT at h'
      simp only [hrow] at h'
      obtain ⟨_, ⟨l2, hl2, _, h'⟩⟩ := h'
      have := encL_inj _ _ (hx.symm.trans hl2)
      subst this
      exact h4 _ h'
  | .space :: ks, ar, Q, h => by
    unfold decT at h
    split at h
    case h_2 => exact h.elim
    rename_i xs ar
    obtain ⟨s, hx, ⟨hn⟩, h⟩ := h
    obtain ⟨avs, h1, h2, h4⟩ := decT_run hsub hH ks ar _ h
    refine ⟨.spc s :: avs, h1, ⟨_, by rw [List.map_cons, hx], hn, h2⟩, fun Q' h' => ?_⟩
    unfold decT at h'
    obtain ⟨s2, hs2, _, h'⟩ := h'
    have := encS_inj _ _ (hx.symm.trans hs2)
    subst this
    exact h4 _ h'
theorem leaveN {w0 w w' : World} {M : Nat → Prop} {H H2 : Heap} (hH : HSat w0 M H w) (hc : HSat w (fun _ => False) H2 w') (d : Nat) {e : Ent} (he : ∀ w, e.holds w) (hb : e.block = none) : HSat w0 M (upds H [(d, some e)]) w' := by
  have hb1 := hH.below hc.isBelow
  have := hb1.step (w' := w') none (fun _ => False) rfl rfl rfl (Nat.le_refl _) (fun _ _ _ => rfl) (fun _ h => h.elim) d e (he w') (fun g hg => by rw [hb] at hg; cases hg)
  exact this
theorem free_row (t z : Nat) : (∀ w, (Ent.row none 0 t z 0 []).holds w) ∧ (Ent.row none 0 t z 0 []).block = none := by
  have hf := free_block (e := .row none 0 t z 0 []) ⟨rfl, rfl, rfl, rfl⟩
  exact ⟨hf.2, hf.1⟩
def fnES (ks : List Kd) (hB : Bodied P f) (F : FunX) {κ : Kp} (hκ : κ = kid)
    (hk : ∀ avs p r, F kid avs = some (p, r) → p → mkOk r ∧ ∀ (vs : List Value) (w : World), RealW w avs vs →
      Calls P f vs.toArray w fun e w' => ∃ v H', e = .returned v.den ∧ IsX r v H' ∧ HSat w (fun _ => False) H' w') : ESpec P :=
  ES hB false (fnT ks F) hκ (fnT_conj ks F) fun args H0 H d w0 M w hs hsub hH => by
    obtain ⟨avs, h1, h2, h4⟩ := decT_run hsub hH ks args _ hs
    cases hF : F kid avs with
    | none => rw [hF] at h1; exact h1.elim
    | some q =>
      obtain ⟨p, r⟩ := q
      rw [hF] at h1
      obtain ⟨⟨hp⟩, _⟩ := h1
      obtain ⟨hmk, hcall⟩ := hk avs p r hF hp
      refine (hcall _ w h2).mono ?_
      rintro e w' ⟨v, H', rfl, ⟨hr⟩, hH'⟩
      have hK : ∀ K : KT, fnT ks F kid args H0 d K → resK kid r d K := fun K hK => by
        have := h4 _ hK
        rw [hF] at this
        exact this.2
      cases r with
      | val v0 => exact ⟨v0, [], _, rfl, fun K h => hK K h, fun _ => hr, hH.below hH'.isBelow⟩
      | row t z n xs mk =>
        obtain ⟨i, A2, c2, rfl, hi⟩ := hr
        refine ⟨mk (.sl d A2 n c2), [(d, some (.row A2 c2 t z n xs))], _, rfl, fun K h => hK K h A2 c2, fun _ => hmk _ _ rfl, ?_⟩
        rcases hi with hi | ⟨rfl, rfl, rfl, rfl⟩
        · exact leaveR hH hi rfl hH' d
        · exact leaveN hH hH' d (free_row t z).1 (free_row t z).2
      | alt b x mk1 r mk2 =>
        cases b with
        | true => exact ⟨mk1 x, [], _, rfl, fun K h => hK K h, fun _ => hr.1 rfl, hH.below hH'.isBelow⟩
        | false =>
          obtain ⟨i, A2, c2, rfl, hi⟩ := hr.2 rfl
          refine ⟨mk2 (.sl d A2 r.length c2), [(d, some (.row A2 c2 53 6 r.length (encL r)))], _, rfl, fun K h => hK K h A2 c2, fun _ => hmk _ _ rfl, ?_⟩
          rcases hi with hi | ⟨rfl, rfl, rfl⟩
          · exact leaveR hH hi rfl hH' d
          · exact leaveN hH hH' d (free_row 53 6).1 (free_row 53 6).2
end
end Go.Proofs.Ytbcicjmepojlnaa.Eng
/- Calls, answers; what may be asked, in plain words; the reference's sizes are these; no condition but those typed. -/
namespace Go.Proofs.Ytbcicjmepojlnaa.Eng
open Go Go.RowKit
set_option autoImplicit false
set_option linter.unusedSimpArgs false
set_option linter.unusedVariables false
structure Cl where
  k : Int
  a : Int
  n : Int
  w : Int
  to : Int
  p : Int
  f : Int
  b : Int
  o : Int
structure An where
  er : Int
  v : Int
  t : At
structure Gp where
  s : Int
  e : Int
structure SzOk (s : Int) : Prop where
  lo : 4096 ≤ s
  hi : s ≤ 2031616
  z : s % 4096 = 0
structure RgOk (a b : Int) : Prop where
  lo : 65536 ≤ a
  hi : b ≤ 2097152
  lt : a < b
  z : a % 4096 = 0
  z2 : b % 4096 = 0
/-! ### The reference's -/
structure CntOk (n p : Int) : Prop where
  lo : 0 ≤ p
  hi : 4096 * (p - 1) < n
/-! ### Results: a list and an answer -/
/-! ### Lists that may come; what is kept -/
end Go.Proofs.Ytbcicjmepojlnaa.Eng
/- Contracts of functions of lists that hand back new ones (printed by genr.py of this work); condition: as its 'hside' says. -/
namespace Go.Proofs.Ytbcicjmepojlnaa.Eng
open Go Go.RowKit
set_option linter.unusedVariables false
set_option linter.unusedSimpArgs false
end Go.Proofs.Ytbcicjmepojlnaa.Eng
