/- Texts of this work, laid together: symbolic execution over the model, contracts of the program's functions, what they come to; conditions: as each says. -/
import Derived.Test.YtbcicjmepojlnaaGreatPkGAI
import Derived.Test.YtbcicjmepojlnaaGreatPkGAN
import Derived.Test.YtbcicjmepojlnaaGreatPkGAO
/- Pages as they lie in memory; contracts of functions of lists, pages, numbers, told in one way; no condition. -/
namespace Go.Proofs.YtbcicjmepojlnaaGreat.Eng
open Go Go.RowKit
set_option autoImplicit false
set_option linter.unusedSimpArgs false
set_option linter.unusedVariables false
structure Pg where
  is : Bool
  t : At
def noPg : Pg := ⟨false, noAt⟩
def encP (p : Pg) : List C := [.v (.bool p.is), .v (.int .i64 p.t.p), .v (.bool p.t.sh), .v (.int .i64 p.t.b), .v (.int .i64 p.t.o)]
def encS (s : List Pg) : List C := s.flatMap encP
theorem encP_len (p : Pg) : (encP p).length = 5 := rfl
theorem encP_inj (x y : Pg) (h : encP x = encP y) : x = y := by
  obtain ⟨_, ⟨_, _, _, _⟩⟩ := x
  obtain ⟨_, ⟨_, _, _, _⟩⟩ := y
  simpa [encP] using h
theorem encS_inj (s s' : List Pg) (h : encS s = encS s') : s = s' := enc_inj encP_len (by decide) encP_inj s s' h
theorem encS_len (s : List Pg) : (encS s).length = s.length * 5 := enc_len encP_len s
theorem encS_ok (s : List Pg) : ok1 (encS s) = true := enc_ok1 (fun x => rfl) s
def noS : List Pg := List.replicate 512 noPg
theorem noS_len : noS.length = 512 := List.length_replicate
theorem encS_zero : ∀ n : Nat, (List.replicate n (encP noPg)).flatten = encS (List.replicate n noPg)
  | 0 => rfl
  | n + 1 => by
    rw [List.replicate_succ, List.flatten_cons, encS_zero n, List.replicate_succ]
    rfl
theorem encS_noS : (List.replicate 512 [C.v (.bool false), .v (.int .i64 0), .v (.bool false), .v (.int .i64 0), .v (.int .i64 0)]).flatten = encS noS := encS_zero 512
def nthP (s : List Pg) (i : Nat) : Pg := s.getD i noPg
theorem nthP_get {s : List Pg} {i : Nat} (h : i < s.length) : s[i]? = some (nthP s i) := by
  unfold nthP
  rw [List.getD_eq_getElem?_getD, List.getElem?_eq_getElem h]
  rfl
/-! ### Contracts, told in one way -/
inductive Kd where
  | flat
  | list
  | listc
  | space
inductive AV where
  | val (v : SV)
  | lst (l : List Ar) (x : C)
  | lstc (l : List Ar) (x : C)
  | spc (s : List Pg)
inductive Rs where
  | val (v : SV)
  | row (t z n : Nat) (xs : List C) (mk : C → SV)
  | alt (b : Bool) (x : C) (mk1 : C → SV) (r : List Ar) (mk2 : C → SV)
def decT (κ : Kp) : List Kd → List SV → Heap → (List AV → Prop) → Prop
  | [], ar, _, Q => match ar with
    | [] => Q []
    | _ => False
  | .flat :: ks, ar, H, Q => match ar with
    | v :: ar => decT κ ks ar H fun r => Q (.val v :: r)
    | _ => False
  | .list :: ks, ar, H, Q => match ar with
    | .c (.sl id A n c) :: ar => match rowOf (H id) with
      | some (A', z, n', xs) => Side (κ _ (A = A' ∧ n = n' ∧ (z = 6 ∨ n = 0))) ∧ LookX encL xs fun l => Side (κ _ (l.length = n)) ∧ decT κ ks ar H fun r => Q (.lst l (.sl id A n c) :: r)
      | none => False
    | _ => False
  | .listc :: ks, ar, H, Q => match ar with
    | .c (.sl id A n c) :: ar => match H id with
      | some (.rd A' z n' xs) => Side (κ _ (A = A' ∧ n = n' ∧ (z = 6 ∨ n = 0) ∧ n ≤ c)) ∧ LookX encL xs fun l => Side (κ _ (l.length = n)) ∧ decT κ ks ar H fun r => Q (.lstc l (.sl id A n c) :: r)
      | some (.row A' c' _ z n' xs) => Side (κ _ (A = A' ∧ c = c' ∧ n = n' ∧ (z = 6 ∨ n = 0))) ∧ LookX encL xs fun l => Side (κ _ (l.length = n)) ∧ decT κ ks ar H fun r => Q (.lstc l (.sl id A n c) :: r)
      | _ => False
    | _ => False
  | .space :: ks, ar, H, Q => match ar with
    | .agg xs :: ar => LookX encS xs fun s => Side (κ _ (s.length = 512)) ∧ decT κ ks ar H fun r => Q (.spc s :: r)
    | _ => False
def resK (κ : Kp) : Rs → Nat → KT → Prop
  | .val v, _, K => K v []
  | .row t z n xs mk, d, K => ∀ (A2 : Option Addr) (c2 : Nat), K (mk (.sl d A2 n c2)) [(d, some (.row A2 c2 t z n xs))]
  | .alt b x mk1 r mk2, d, K => match b with
    | true => K (mk1 x) []
    | false => ∀ (A2 : Option Addr) (c2 : Nat), K (mk2 (.sl d A2 (κ _ r.length) c2)) [(d, some (.row A2 c2 49 6 (κ _ r.length) (κ _ (encL r))))]
abbrev FunX := Kp → List AV → Option (Prop × Rs)
def fnT (ks : List Kd) (F : FunX) (κ : Kp) : TSpec := fun args H d K => decT κ ks args H fun avs => match F κ avs with
  | some (p, r) => Side p ∧ resK κ r d K
  | none => False
def OutX : Rs → SV → Heap → Prop
  | .val r, v, _ => v.den = r.den
  | .row t z n xs mk, v, H' => ∃ i A2 c2, v = mk (.sl i A2 n c2) ∧ (H' i = some (.row A2 c2 t z n xs) ∨ (n = 0 ∧ xs = [] ∧ A2 = none ∧ c2 = 0))
  | .alt b x mk1 r mk2, v, H' => (b = true → v.den = (mk1 x).den) ∧ (b = false → ∃ i A2 c2, v = mk2 (.sl i A2 r.length c2) ∧ (H' i = some (.row A2 c2 49 6 r.length (encL r)) ∨ (r = [] ∧ A2 = none ∧ c2 = 0)))
structure IsX (r : Rs) (v : SV) (H' : Heap) : Prop where
  h : OutX r v H'
theorem IsX.val_ {v v' : SV} {H' : Heap} (h : v.den = v'.den) : IsX (.val v') v H' := ⟨h⟩
theorem IsX.bool_ {a b : Bool} {H' : Heap} (h : b = a) : IsX (.val (.c (.v (.bool a)))) (.c (.v (.bool b))) H' := by
  subst h
  exact ⟨rfl⟩
theorem IsX.int_ {a b : Int} {k : IntKind} {H' : Heap} (h : b = a) : IsX (.val (.c (.v (.int k a)))) (.c (.v (.int k b))) H' := by
  subst h
  exact ⟨rfl⟩
theorem IsX.row_ {mk : C → SV} {r r' : List Ar} {i c2 : Nat} {A2 : Option Addr} {v : SV} {H' : Heap} (h : r' = r) (hv : v = mk (.sl i A2 r'.length c2)) (hH : H' i = some (.row A2 c2 49 6 r'.length (encL r'))) : IsX (.row 49 6 r.length (encL r) mk) v H' := by
  subst h
  exact ⟨⟨i, A2, c2, hv, .inl hH⟩⟩
theorem IsX.nil_ {mk : C → SV} {r : List Ar} {i : Nat} {v : SV} {H' : Heap} (h : r = []) (hv : v = mk (.sl i none 0 0)) : IsX (.row 49 6 r.length (encL r) mk) v H' := by
  subst h
  exact ⟨⟨i, none, 0, hv, .inr ⟨rfl, rfl, rfl, rfl⟩⟩⟩
theorem IsX.same_ {b : Bool} {x : C} {mk1 mk2 : C → SV} {r : List Ar} {v : SV} {H' : Heap} (hb : b = true) (hv : v.den = (mk1 x).den) : IsX (.alt b x mk1 r mk2) v H' := by
  subst hb
  exact ⟨And.intro (fun _ => hv) (fun h => Bool.noConfusion h)⟩
theorem IsX.new_ {b : Bool} {x : C} {mk1 mk2 : C → SV} {r r' : List Ar} {i c2 : Nat} {A2 : Option Addr} {v : SV} {H' : Heap} (hb : b = false) (h : r' = r) (hv : v = mk2 (.sl i A2 r'.length c2)) (hH : H' i = some (.row A2 c2 49 6 r'.length (encL r'))) : IsX (.alt b x mk1 r mk2) v H' := by
  subst hb h
  exact ⟨And.intro (fun h => Bool.noConfusion h) (fun _ => ⟨i, A2, c2, hv, .inl hH⟩)⟩
theorem IsX.swap {b : Bool} {x x' : C} {mk1 mk2 : C → SV} {r : List Ar} {v : SV} {H' : Heap} (h : IsX (.alt b x mk1 r mk2) v H') (he : (mk1 x).den = (mk1 x').den) : IsX (.alt b x' mk1 r mk2) v H' :=
  ⟨⟨fun hb => (h.h.1 hb).trans he, h.h.2⟩⟩
def mkOk (r : Rs) : Prop := match r with
  | .val _ => True
  | .row _ _ _ _ mk => ∀ x y : C, x.den = y.den → (mk x).den = (mk y).den
  | .alt _ _ _ _ mk => ∀ x y : C, x.den = y.den → (mk x).den = (mk y).den
def RealW (w : World) : List AV → List Value → Prop
  | [], vs => vs = []
  | .val v :: r, vs => ∃ xs, vs = v.den :: xs ∧ RealW w r xs
  | .lst l x :: r, vs => ∃ id A c xs, x = .sl id A l.length c ∧ vs = .slice A l.length c :: xs ∧ (Ent.rd A 6 l.length (encL l)).holds w ∧ RealW w r xs
  | .lstc l x :: r, vs => ∃ id A c xs, x = .sl id A l.length c ∧ vs = .slice A l.length c :: xs ∧ l.length ≤ c ∧ (Ent.rd A 6 l.length (encL l)).holds w ∧ RealW w r xs
  | .spc s :: r, vs => ∃ xs, vs = (SV.agg (encS s)).den :: xs ∧ s.length = 512 ∧ RealW w r xs
section
variable {P : Program} {f : FuncId}
theorem decT_conj {ok : Nat → Prop} : ∀ (ks : List Kd) (args : List SV) (H : Heap) (Q : List AV → KT → Prop), (∀ avs, ConjP (Q avs) ok) → ConjP (fun K => decT kid ks args H fun avs => Q avs K) ok
  | [], ar, H, Q, h => by
    unfold decT
    cases ar with
    | nil => exact h []
    | cons => exact .false_
  | .flat :: ks, ar, H, Q, h => by
    unfold decT
    cases ar with
    | nil => exact .false_
    | cons v ar => exact decT_conj ks ar H (fun r => Q (.val v :: r)) fun r => h _
  | .list :: ks, ar, H, Q, h => by
    unfold decT
    split
    · split
      · rename_i id A n c ar _ _ _ _ _ _
        exact .side fun _ => .look encL_inj fun l _ => .side fun _ => decT_conj ks _ H (fun r => Q (.lst l (.sl id A n c) :: r)) fun r => h _
      · exact .false_
    · exact .false_
  | .listc :: ks, ar, H, Q, h => by
    unfold decT
    split
    · split
      · rename_i id A n c ar _ _ _ _ _ _
        exact .side fun _ => .look encL_inj fun l _ => .side fun _ => decT_conj ks _ H (fun r => Q (.lstc l (.sl id A n c) :: r)) fun r => h _
      · rename_i id A n c ar _ _ _ _ _ _ _ _
        exact .side fun _ => .look encL_inj fun l _ => .side fun _ => decT_conj ks _ H (fun r => Q (.lstc l (.sl id A n c) :: r)) fun r => h _
      · exact .false_
    · exact .false_
  | .space :: ks, ar, H, Q, h => by
    unfold decT
    split
    · exact .look encS_inj fun s _ => .side fun _ => decT_conj ks _ H (fun r => Q (.spc s :: r)) fun r => h _
    · exact .false_
theorem resK_conj (H : Heap) (r : Rs) (d : Nat) : ConjP (resK kid r d) (okKey false H d) := by
  cases r with
  | val v => exact .one _ _ (by simp)
  | row t z n xs mk => exact .all2 (fun A2 c2 => mk (.sl d A2 _ c2)) (fun A2 c2 => [(d, some (.row A2 c2 t z n xs))]) fun _ _ => okd _ _ _
  | alt b x mk1 r mk2 =>
    cases b with
    | true => exact .one (mk1 x) [] (by simp)
    | false => exact .all2 (fun A2 c2 => mk2 (.sl d A2 r.length c2)) (fun A2 c2 => [(d, some (.row A2 c2 49 6 r.length (encL r)))]) fun _ _ => okd _ _ _
theorem fnT_conj (ks : List Kd) (F : FunX) (args : List SV) (H : Heap) (d : Nat) : ConjP (fnT ks F kid args H d) (okKey false H d) := by
  refine decT_conj ks args H (fun avs K => match F kid avs with
    | some (p, r) => Side p ∧ resK kid r d K
    | none => False) fun avs => ?_
  cases F kid avs with
  | none => exact .false_
  | some q =>
    obtain ⟨p, r⟩ := q
    exact .side fun _ => resK_conj H r d
theorem decT_run {H0 H : Heap} {w0 w : World} {M : Nat → Prop} (hsub : ∀ i e, H0 i = some e → H i = some e) (hH : HSat w0 M H w) : ∀ (ks : List Kd) (args : List SV) (Q : List AV → Prop), decT kid ks args H0 Q →
    ∃ avs, Q avs ∧ RealW w avs (args.map SV.den) ∧ ∀ Q', decT kid ks args H0 Q' → Q' avs
  | [], ar, Q, h => by
    unfold decT at h
    cases ar with
    | nil => exact ⟨[], h, rfl, fun Q' h' => h'⟩
    | cons => exact h.elim
  | .flat :: ks, ar, Q, h => by
    unfold decT at h
    cases ar with
    | nil => exact h.elim
    | cons v ar =>
      obtain ⟨avs, h1, h2, h4⟩ := decT_run hsub hH ks ar _ h
      exact ⟨.val v :: avs, h1, ⟨_, rfl, h2⟩, fun Q' h' => h4 _ h'⟩
  | .list :: ks, ar, Q, h => by
    unfold decT at h
    split at h
    case h_2 => exact h.elim
    rename_i id A n c ar
    split at h
    case h_2 => exact h.elim
    rename_i A' z n' xs hrow
    obtain ⟨⟨e1, e2, hz⟩, ⟨l, hx, ⟨hn⟩, h⟩⟩ := h
    subst e1 e2
    obtain ⟨avs, h1, h2, h4⟩ := decT_run hsub hH ks ar _ h
    have hn' : l.length = n := hn
    have hrd : (Ent.rd A 6 l.length (encL l)).holds w := rd_holds (hH.drop hsub) hrow hz hn hx
    subst hn'
    refine ⟨.lst l (.sl id A l.length c) :: avs, h1, ⟨id, A, c, _, rfl, rfl, hrd, h2⟩, fun Q' h' => ?_⟩
    unfold decT at h'
    simp only [hrow] at h'
    obtain ⟨_, ⟨l2, hl2, _, h'⟩⟩ := h'
    have := encL_inj _ _ (hx.symm.trans hl2)
    subst this
    exact h4 _ h'
  | .listc :: ks, ar, Q, h => by
    unfold decT at h
    split at h
    case h_2 => exact h.elim
    rename_i id A n c ar
    split at h
    case h_3 => exact h.elim
    · rename_i A' z n' xs hrow
      obtain ⟨⟨e1, e2, hz, hnc⟩, ⟨l, hx, ⟨hn⟩, h⟩⟩ := h
      subst e1 e2
      obtain ⟨avs, h1, h2, h4⟩ := decT_run hsub hH ks ar _ h
      have hn' : l.length = n := hn
      have hrd : (Ent.rd A 6 l.length (encL l)).holds w := rd_holds (hH.drop hsub) (by rw [hrow]; rfl) hz hn hx
      subst hn'
      refine ⟨.lstc l (.sl id A l.length c) :: avs, h1, ⟨id, A, c, _, rfl, rfl, hnc, hrd, h2⟩, fun Q' h' => ?_⟩
      unfold decT at h'
      simp only [hrow] at h'
      obtain ⟨_, ⟨l2, hl2, _, h'⟩⟩ := h'
      have := encL_inj _ _ (hx.symm.trans hl2)
      subst this
      exact h4 _ h'
    · rename_i A' c' t' z n' xs hrow
      obtain ⟨⟨e1, e3, e2, hz⟩, ⟨l, hx, ⟨hn⟩, h⟩⟩ := h
      subst e1 e2 e3
      obtain ⟨avs, h1, h2, h4⟩ := decT_run hsub hH ks ar _ h
      have hn' : l.length = n := hn
      have hrd : (Ent.rd A 6 l.length (encL l)).holds w := rd_holds (hH.drop hsub) (by rw [hrow]; rfl) hz hn hx
      have hnc : n ≤ c := ((hH.drop hsub).holds _ _ hrow).2.1
      subst hn'
      refine ⟨.lstc l (.sl id A l.length c) :: avs, h1, ⟨id, A, c, _, rfl, rfl, hnc, hrd, h2⟩, fun Q' h' => ?_⟩
      unfold decT at h'
      simp only [hrow] at h'
      obtain ⟨_, ⟨l2, hl2, _, h'⟩⟩ := h'
      have := encL_inj _ _ (hx.symm.trans hl2)
      subst this
      exact h4 _ h'
  | .space :: ks, ar, Q, h => by
    unfold decT at h
    split at h
    case h_2 => exact h.elim
    rename_i xs ar
    obtain ⟨s, hx, ⟨hn⟩, h⟩ := h
    obtain ⟨avs, h1, h2, h4⟩ := decT_run hsub hH ks ar _ h
    refine ⟨.spc s :: avs, h1, ⟨_, by rw [List.map_cons, hx], hn, h2⟩, fun Q' h' => ?_⟩
    unfold decT at h'
    obtain ⟨s2, hs2, _, h'⟩ := h'
    have := encS_inj _ _ (hx.symm.trans hs2)
    subst this
    exact h4 _ h'
theorem leaveN {w0 w w' : World} {M : Nat → Prop} {H H2 : Heap} (hH : HSat w0 M H w) (hc : HSat w (fun _ => False) H2 w') (d : Nat) {e : Ent} (he : ∀ w, e.holds w) (hb : e.block = none) : HSat w0 M (upds H [(d, some e)]) w' := by
  have hb1 := hH.below hc.isBelow
  have := hb1.step (w' := w') none (fun _ => False) rfl rfl rfl (Nat.le_refl _) (fun _ _ _ => rfl) (fun _ h => h.elim) d e (he w') (fun g hg => by rw [hb] at hg; cases hg)
  exact this
theorem free_row (t z : Nat) : (∀ w, (Ent.row none 0 t z 0 []).holds w) ∧ (Ent.row none 0 t z 0 []).block = none := by
  have hf := free_block (e := .row none 0 t z 0 []) ⟨rfl, rfl, rfl, rfl⟩
  exact ⟨hf.2, hf.1⟩
def fnES (ks : List Kd) (hB : Bodied P f) (F : FunX) {κ : Kp} (hκ : κ = kid)
    (hk : ∀ avs p r, F kid avs = some (p, r) → p → mkOk r ∧ ∀ (vs : List Value) (w : World), RealW w avs vs →
      Calls P f vs.toArray w fun e w' => ∃ v H', e = .returned v.den ∧ IsX r v H' ∧ HSat w (fun _ => False) H' w') : ESpec P :=
  ES hB false (fnT ks F) hκ (fnT_conj ks F) fun args H0 H d w0 M w hs hsub hH => by
    obtain ⟨avs, h1, h2, h4⟩ := decT_run hsub hH ks args _ hs
    cases hF : F kid avs with
    | none => rw [hF] at h1; exact h1.elim
    | some q =>
      obtain ⟨p, r⟩ := q
      rw [hF] at h1
      obtain ⟨⟨hp⟩, _⟩ := h1
      obtain ⟨hmk, hcall⟩ := hk avs p r hF hp
      refine (hcall _ w h2).mono ?_
      rintro e w' ⟨v, H', rfl, ⟨hr⟩, hH'⟩
      have hK : ∀ K : KT, fnT ks F kid args H0 d K → resK kid r d K := fun K hK => by
        have := h4 _ hK
        rw [hF] at this
        exact this.2
      cases r with
      | val v0 => exact ⟨v0, [], _, rfl, fun K h => hK K h, fun _ => hr, hH.below hH'.isBelow⟩
      | row t z n xs mk =>
        obtain ⟨i, A2, c2, rfl, hi⟩ := hr
        refine ⟨mk (.sl d A2 n c2), [(d, some (.row A2 c2 t z n xs))], _, rfl, fun K h => hK K h A2 c2, fun _ => hmk _ _ rfl, ?_⟩
        rcases hi with hi | ⟨rfl, rfl, rfl, rfl⟩
        · exact leaveR hH hi rfl hH' d
        · exact leaveN hH hH' d (free_row t z).1 (free_row t z).2
      | alt b x mk1 r mk2 =>
        cases b with
        | true => exact ⟨mk1 x, [], _, rfl, fun K h => hK K h, fun _ => hr.1 rfl, hH.below hH'.isBelow⟩
        | false =>
          obtain ⟨i, A2, c2, rfl, hi⟩ := hr.2 rfl
          refine ⟨mk2 (.sl d A2 r.length c2), [(d, some (.row A2 c2 49 6 r.length (encL r)))], _, rfl, fun K h => hK K h A2 c2, fun _ => hmk _ _ rfl, ?_⟩
          rcases hi with hi | ⟨rfl, rfl, rfl⟩
          · exact leaveR hH hi rfl hH' d
          · exact leaveN hH hH' d (free_row 49 6).1 (free_row 49 6).2
end
end Go.Proofs.YtbcicjmepojlnaaGreat.Eng
/- Calls, answers; what may be asked, in plain words; the reference's sizes are these; no condition but those typed. -/
namespace Go.Proofs.YtbcicjmepojlnaaGreat.Eng
open Go Go.RowKit
set_option autoImplicit false
set_option linter.unusedSimpArgs false
set_option linter.unusedVariables false
structure Cl where
  k : Int
  a : Int
  n : Int
  w : Int
  to : Int
  p : Int
  f : Int
  b : Int
  o : Int
structure An where
  er : Int
  v : Int
  t : At
structure Gp where
  s : Int
  e : Int
def errA (e : Int) : An := ⟨e, 0, noAt⟩
def okA (v : Int) : An := ⟨0, v, noAt⟩
def rangeBad (a s : Int) : Bool := decide (a < 65536) || decide (a > w64 (2097152 - s))
def rangeE (a n : Int) : Int := if (Int.tmod a 4096 != 0) = true then 2 else if (sizeE n != 0) = true then sizeE n else if rangeBad a (sizeV n) = true then 4 else 0
def rangeC (a n x : Int) : Int := if (Int.tmod a 4096 != 0) = true then 0 else if (sizeE n != 0) = true then 0 else if rangeBad a (sizeV n) = true then 0 else x
def rangeLo (a n : Int) : Int := rangeC a n a
def rangeHi (a n : Int) : Int := rangeC a n (w64 (a + sizeV n))
theorem rangeC_ok {a n : Int} (x : Int) (h : rangeE a n = 0) : rangeC a n x = x := by
  unfold rangeE at h
  unfold rangeC
  split at h
  · omega
  · rename_i h1
    rw [if_neg h1]
    split at h
    · rename_i h2
      simp [h] at h2
    · rename_i h2
      rw [if_neg h2]
      split at h
      · omega
      · rename_i h3
        rw [if_neg h3]
def backBad (b o : Int) : Bool := decide (b < 0) || decide (b > 9) || (b == 0 && o != 0)
def backE (b o s : Int) : Int := if backBad b o = true then 1 else if (Int.tmod o 4096 != 0) = true then 2 else if (decide (o < 0) || decide (o > w64 (1099511627776 - s))) = true then 4 else 0
theorem bne_no {x y : Int} (h : (x != y) = false) : x = y := by simpa using h
theorem bne_yes {x y : Int} (h : (x != y) = true) : x ≠ y := by simpa using h
theorem beq_no {x y : Int} (h : (x == y) = false) : x ≠ y := by simpa using h
theorem beq_yes {x y : Int} (h : (x == y) = true) : x = y := by simpa using h
theorem sizeE_iff (n : Int) : sizeE n = 0 ↔ 0 < n ∧ n ≤ 2031616 := by
  unfold sizeE sizeBad
  by_cases h0 : n = 0
  · subst h0; decide
  · rw [if_neg (by simpa using h0)]
    by_cases h1 : n < 0 ∨ 2031616 < n
    · rw [if_pos (by simpa using h1)]; omega
    · rw [if_neg (by simpa using h1)]; omega
theorem sizeV_eq {n : Int} (h : 0 < n ∧ n ≤ 2031616) : sizeV n = (n + 4095) / 4096 * 4096 := by
  unfold sizeV sizeBad
  rw [if_neg (by simp; omega), if_neg (by simp; omega)]
  have e1 : w64 (n + 4096) = n + 4096 := w64_id (by unfold In64; omega)
  have e2 : w64 (n + 4096 - 1) = n + 4095 := (w64_id (by unfold In64; omega)).trans (by omega)
  rw [e1, e2, Int.tdiv_eq_ediv_of_nonneg (by omega)]
  have e3 : w64 ((n + 4095) / 4096) = (n + 4095) / 4096 := w64_id (by unfold In64; omega)
  rw [e3]
  exact w64_id (by unfold In64; omega)
structure SzOk (s : Int) : Prop where
  lo : 4096 ≤ s
  hi : s ≤ 2031616
  z : s % 4096 = 0
theorem size_ok {n : Int} (h : sizeE n = 0) : SzOk (sizeV n) ∧ n ≤ sizeV n ∧ sizeV n < n + 4096 := by
  have h2 := (sizeE_iff n).1 h
  rw [sizeV_eq h2]
  exact ⟨⟨by omega, by omega, by omega⟩, by omega, by omega⟩
structure RgOk (a b : Int) : Prop where
  lo : 65536 ≤ a
  hi : b ≤ 2097152
  lt : a < b
  z : a % 4096 = 0
  z2 : b % 4096 = 0
theorem tmod0 (a : Int) : (Int.tmod a 4096 != 0) = false ↔ a % 4096 = 0 := by
  have h := whole_iff a
  unfold whole at h
  rw [← h]
  cases hb : (Int.tmod a 4096 == 0)
  · have : ¬ Int.tmod a 4096 = 0 := by simpa using hb
    simp [this]
  · have : Int.tmod a 4096 = 0 := by simpa using hb
    simp [this]
theorem rangeE_iff (a n : Int) : rangeE a n = 0 ↔ a % 4096 = 0 ∧ sizeE n = 0 ∧ 65536 ≤ a ∧ a + sizeV n ≤ 2097152 := by
  unfold rangeE
  by_cases h1 : a % 4096 = 0
  · rw [if_neg (by rw [(tmod0 a).2 h1]; simp)]
    by_cases h2 : sizeE n = 0
    · rw [if_neg (by simpa using h2)]
      obtain ⟨⟨s1, s2, s3⟩, _⟩ := size_ok h2
      unfold rangeBad
      rw [w64_id (show In64 (2097152 - sizeV n) by unfold In64; omega)]
      by_cases h3 : a < 65536 ∨ 2097152 - sizeV n < a
      · rw [if_pos (by simpa using h3)]; omega
      · rw [if_neg (by simpa using h3)]; omega
    · rw [if_pos (by simpa using h2)]
      exact ⟨fun h => absurd h h2, fun h => absurd h.2.1 h2⟩
  · rw [if_pos (by
      cases hb : (Int.tmod a 4096 != 0)
      · exact absurd ((tmod0 a).1 hb) h1
      · rfl)]
    omega
theorem range_ok {a n : Int} (h : rangeE a n = 0) : RgOk (rangeLo a n) (rangeHi a n) ∧ rangeLo a n = a ∧ rangeHi a n = a + sizeV n ∧ sizeE n = 0 := by
  obtain ⟨h1, h2, h3, h4⟩ := (rangeE_iff a n).1 h
  obtain ⟨⟨s1, s2, s3⟩, _⟩ := size_ok h2
  have e1 : rangeLo a n = a := rangeC_ok _ h
  have e2 : rangeHi a n = a + sizeV n := (rangeC_ok _ h).trans (w64_id (by unfold In64; omega))
  rw [e1, e2]
  exact ⟨⟨h3, h4, by omega, h1, by omega⟩, rfl, rfl, h2⟩
/-! ### The reference's -/
structure CntOk (n p : Int) : Prop where
  lo : 0 ≤ p
  hi : 4096 * (p - 1) < n
theorem cnt_0 {n : Int} (h : 1 ≤ n) : CntOk n 0 := ⟨by omega, by omega⟩
theorem cnt_next {n p : Int} (hn : n ≤ 2031616) (h : CntOk n p) (hl : decide (w64 (4096 * p) < n) = true) : w64 (p + 1) = p + 1 ∧ CntOk n (p + 1) ∧ (n - 4096 * (p + 1)).toNat < (n - 4096 * p).toNat := by
  obtain ⟨h1, h2⟩ := h
  have e : w64 (4096 * p) = 4096 * p := w64_id (by unfold In64; omega)
  have h3 := of_decide_eq_true hl
  rw [e] at h3
  exact ⟨w64_id (by unfold In64; omega), ⟨by omega, by omega⟩, by omega⟩
theorem cnt_end {n p : Int} (hn : 1 ≤ n ∧ n ≤ 2031616) (h : CntOk n p) (hl : decide (w64 (4096 * p) < n) = false) : p = (n + 4095) / 4096 := by
  obtain ⟨h1, h2⟩ := h
  have e : w64 (4096 * p) = 4096 * p := w64_id (by unfold In64; omega)
  have h3 := of_decide_eq_false hl
  rw [e] at h3
  omega
theorem rsize_yes {n : Int} (h0 : (n == 0) = false) (h1 : decide (n < 0) = false) (h2 : decide (2031616 < n) = false) : (1 ≤ n ∧ n ≤ 2031616) ∧ w64 (4096 * ((n + 4095) / 4096)) = sizeV n ∧ sizeE n = 0 := by
  have a0 : ¬ n = 0 := by simpa using h0
  have a1 := of_decide_eq_false h1
  have a2 := of_decide_eq_false h2
  have h : 0 < n ∧ n ≤ 2031616 := by omega
  refine ⟨by omega, ?_, (sizeE_iff n).2 h⟩
  rw [sizeV_eq h, w64_id (by unfold In64; omega)]
  omega
theorem rrange_bad {a n : Int} (ha : In64 a) (he : sizeE n = 0) : (decide (a < 65536) || decide (2097152 < a) || decide (2097152 < w64 (a + sizeV n))) = rangeBad a (sizeV n) := by
  obtain ⟨⟨s1, s2, s3⟩, _⟩ := size_ok he
  unfold rangeBad
  rw [w64_id (show In64 (2097152 - sizeV n) by unfold In64; omega)]
  by_cases h1 : a < 65536
  · simp [h1]
  · by_cases h2 : 2097152 < a
    · have : a > 2097152 - sizeV n := by omega
      simp [h2, this]
    · rw [w64_id (show In64 (a + sizeV n) by unfold In64; omega)]
      simp only [h1, h2, decide_false, Bool.false_or]
      rw [decide_eq_decide]
      omega
theorem rback_bad {o s : Int} (ho : In64 o) (hs : SzOk s) : (decide (o < 0) || decide (1099511627776 < o) || decide (1099511627776 < w64 (o + s))) = (decide (o < 0) || decide (o > w64 (1099511627776 - s))) := by
  obtain ⟨s1, s2, s3⟩ := hs
  rw [w64_id (show In64 (1099511627776 - s) by unfold In64; omega)]
  by_cases h1 : o < 0
  · simp [h1]
  · by_cases h2 : 1099511627776 < o
    · have : o > 1099511627776 - s := by omega
      simp [h2, this]
    · rw [w64_id (show In64 (o + s) by unfold In64; omega)]
      simp only [h1, h2, decide_false, Bool.false_or]
      rw [decide_eq_decide]
      omega
/-! ### Results: a list and an answer -/
theorem IsX.rowM {mk : C → SV} {r r' : List Ar} {i c2 : Nat} {A2 : Option Addr} {v k : SV} {H' : Heap} (hv : v = .tup [.c (.sl i A2 r'.length c2), k]) (hH : H' i = some (.row A2 c2 49 6 r'.length (encL r'))) (hm : ∀ x, mk x = .tup [.c x, k]) (h : r' = r) : IsX (.row 49 6 r.length (encL r) mk) v H' :=
  IsX.row_ h (hv.trans (hm _).symm) hH
theorem IsX.sameM {b : Bool} {x : C} {mk1 mk2 : C → SV} {r : List Ar} {v k : SV} {H' : Heap} (hv : v = .tup [.c x, k]) (hm : ∀ x, mk1 x = .tup [.c x, k]) (hb : b = true) : IsX (.alt b x mk1 r mk2) v H' :=
  IsX.same_ hb (by rw [hv, hm])
theorem IsX.newM {b : Bool} {x : C} {mk1 mk2 : C → SV} {r r' : List Ar} {i c2 : Nat} {A2 : Option Addr} {v k : SV} {H' : Heap} (hv : v = .tup [.c (.sl i A2 r'.length c2), k]) (hH : H' i = some (.row A2 c2 49 6 r'.length (encL r'))) (hm : ∀ x, mk2 x = .tup [.c x, k]) (hb : b = false) (h : r' = r) : IsX (.alt b x mk1 r mk2) v H' :=
  IsX.new_ hb h (hv.trans (hm _).symm) hH
/-! ### Lists that may come; what is kept -/
def mayS (l : List Ar) : Bool := rightL l && decide ((l.length : Int) ≤ 24)
def keptL (was now : List Ar) : List Ar := if decide ((24 : Int) < (now.length : Int)) = true then was else now
def keptN (now : List Ar) (v : Int) : An := if decide ((24 : Int) < (now.length : Int)) = true then errA 9 else okA v
theorem nil_of_none {A : Option Addr} {l : List Ar} {w : World} (h : (Ent.rd A 6 l.length (encL l)).holds w) (hA : A.isNone = true) : l = [] := by
  cases l with
  | nil => rfl
  | cons a r =>
    obtain ⟨p, hp, _⟩ := h.2 (by simp [encL, encA])
    rw [hp] at hA
    cases hA
end Go.Proofs.YtbcicjmepojlnaaGreat.Eng
/- Contracts of functions of lists that hand back new ones (printed by genr.py of this work); condition: as its 'hside' says. -/
namespace Go.Proofs.YtbcicjmepojlnaaGreat.Eng
open Go Go.RowKit
set_option linter.unusedVariables false
set_option linter.unusedSimpArgs false
theorem b_cut : Bodied Tryz.prog 36 := bodied Tryz.func36 rfl (by decide)
def F_cut : FunR := fun κ l rest => match rest with
  | [.c (.v (.int .i64 lo)), .c (.v (.int .i64 hi))] => some (κ _ (l.length ≤ 300000), κ _ (cutL l lo hi))
  | _ => none
set_option maxRecDepth 100000 in
set_option maxHeartbeats 8000000 in
theorem k_cut (l : List Ar) (lo : Int) (hi : Int) (hside : l.length ≤ 300000) (A : Option Addr) (c : Nat) (w : World) (hr : (Ent.rd A 6 l.length (encL l)).holds w) :
    Calls Tryz.prog 36 #[.slice A l.length c, (SV.c (.v (.int .i64 lo))).den, (SV.c (.v (.int .i64 hi))).den] w fun e w' => ∃ v H', e = .returned v.den ∧ IsR (cutL l lo hi) v H' ∧ HSat w (fun _ => False) H' w' := by
  obtain ⟨κ, hκ⟩ : ∃ κ : Kp, κ = kid := ⟨_, rfl⟩
  have hH : HSat w (fun _ => False) (heapOf [(nilId, .rd none 1 0 []), (200000, .rd A 6 (κ _ l.length) (κ _ (encL l)))]) w := by
    subst hκ
    refine HSat.reads fun p hp => ?_
    simp only [List.mem_cons, List.not_mem_nil, or_false] at hp
    rcases hp with rfl | rfl
    · exact ⟨_, _, _, _, rfl, nil_holds w⟩
    · exact ⟨_, _, _, _, rfl, hr⟩
  refine (callsE (n := 23) FTok [e_right hκ, e_around hκ, e_concat hκ] mixed [] Tryz.func36 rfl (by kernel_rfl) #[.slice A l.length c, (SV.c (.v (.int .i64 lo))).den, (SV.c (.v (.int .i64 hi))).den] [(0, .c (.sl 200000 A (κ _ l.length) c)), (1, .c (.v (.int .i64 lo))), (2, .c (.v (.int .i64 hi)))] _ w rfl [.tmp 6] rfl (by simp) (by subst hκ; simp [SV.den, C.den, kid]) hH (fun v H' => IsR (κ _ (cutL l lo hi)) v H') hκ ?_).mono ?_
  rotate_left
  · subst hκ; intro e w' h; exact h
  cbv
  repeat' (first | refine And.intro ?_ ?_ | (intro _; cbv) | (refine tst_mk (fun h => ?_) (fun h => ?_) <;> cbv) | (refine LookX.nil ?_; cbv) | (refine LookX.auto hκ ?_; cbv))
  all_goals (try (clear hH))
  all_goals subst hκ
  all_goals (try delta kid at *)
  all_goals (try dsimp only at *)
  all_goals (try (exact ⟨trivial⟩))
  all_goals (try (exact ⟨by decide⟩))
  all_goals (try (exact ⟨rfl⟩))
  all_goals (try (refine ⟨?_⟩; have q1 := ahead_le l (floorA lo); have q2 := behind_le l (toI hi); have q3 := within_le l lo hi; (repeat' (first | exact rfl | refine And.intro ?_ ?_ | exact Or.inl rfl | exact Or.inr rfl | assumption | omega | (simp only [List.length_append, List.length_cons, List.length_nil]; omega))); done))
  all_goals (first | exact IsR.nil_ (cut_no (by assumption)) | exact IsR.row_ (cut_all (by assumption) (by assumption)) rfl | exact IsR.row_ (cut_some (by assumption) (by assumption)) rfl)
def e_cut {κ : Kp} (hκ : κ = kid) : ESpec Tryz.prog := lisRES b_cut F_cut hκ fun l rest p r hF hp A c w hr => by
  unfold F_cut at hF
  split at hF
  · rename_i lo hi
    simp only [kid, Option.some.injEq, Prod.mk.injEq] at hF
    obtain ⟨rfl, rfl⟩ := hF
    exact k_cut l lo hi hp A c w hr
  · cases hF
theorem b_within2 : Bodied Tryz.prog 96 := bodied Tryz.func96 rfl (by decide)
def F_within2 : FunR := fun κ l rest => match rest with
  | [.c (.v (.int .i64 lo)), .c (.v (.int .i64 hi))] => some (κ _ (l.length ≤ 1000000), κ _ (within2L l lo hi))
  | _ => none
set_option maxRecDepth 100000 in
set_option maxHeartbeats 8000000 in
theorem k_within2 (l : List Ar) (lo : Int) (hi : Int) (hside : l.length ≤ 1000000) (A : Option Addr) (c : Nat) (w : World) (hr : (Ent.rd A 6 l.length (encL l)).holds w) :
    Calls Tryz.prog 96 #[.slice A l.length c, (SV.c (.v (.int .i64 lo))).den, (SV.c (.v (.int .i64 hi))).den] w fun e w' => ∃ v H', e = .returned v.den ∧ IsR (within2L l lo hi) v H' ∧ HSat w (fun _ => False) H' w' := by
  obtain ⟨κ, hκ⟩ : ∃ κ : Kp, κ = kid := ⟨_, rfl⟩
  have hH : HSat w (fun _ => False) (heapOf [(nilId, .rd none 1 0 []), (200000, .rd A 6 (κ _ l.length) (κ _ (encL l)))]) w := by
    subst hκ
    refine HSat.reads fun p hp => ?_
    simp only [List.mem_cons, List.not_mem_nil, or_false] at hp
    rcases hp with rfl | rfl
    · exact ⟨_, _, _, _, rfl, nil_holds w⟩
    · exact ⟨_, _, _, _, rfl, hr⟩
  refine (callsE (n := 19) FTok [e_right hκ, e_within hκ] mixed [] Tryz.func96 rfl (by kernel_rfl) #[.slice A l.length c, (SV.c (.v (.int .i64 lo))).den, (SV.c (.v (.int .i64 hi))).den] [(0, .c (.sl 200000 A (κ _ l.length) c)), (1, .c (.v (.int .i64 lo))), (2, .c (.v (.int .i64 hi)))] _ w rfl [.tmp 6] rfl (by simp) (by subst hκ; simp [SV.den, C.den, kid]) hH (fun v H' => IsR (κ _ (within2L l lo hi)) v H') hκ ?_).mono ?_
  rotate_left
  · subst hκ; intro e w' h; exact h
  cbv
  repeat' (first | refine And.intro ?_ ?_ | (intro _; cbv) | (refine tst_mk (fun h => ?_) (fun h => ?_) <;> cbv) | (refine LookX.nil ?_; cbv) | (refine LookX.auto hκ ?_; cbv))
  all_goals (try (clear hH))
  all_goals subst hκ
  all_goals (try delta kid at *)
  all_goals (try dsimp only at *)
  all_goals (try (exact ⟨trivial⟩))
  all_goals (try (exact ⟨by decide⟩))
  all_goals (try (exact ⟨rfl⟩))
  all_goals (try (refine ⟨?_⟩; have q1 := ahead_le l (floorA lo); have q2 := behind_le l (toI hi); have q3 := within_le l lo hi; (repeat' (first | exact rfl | refine And.intro ?_ ?_ | exact Or.inl rfl | exact Or.inr rfl | assumption | omega | (simp only [List.length_append, List.length_cons, List.length_nil]; omega))); done))
  all_goals (first | exact IsR.nil_ (within2_no (by assumption)) | exact IsR.nil_ (within2_no2 (by assumption)) | exact IsR.row_ (within2_yes (by assumption) (by assumption)) rfl)
def e_within2 {κ : Kp} (hκ : κ = kid) : ESpec Tryz.prog := lisRES b_within2 F_within2 hκ fun l rest p r hF hp A c w hr => by
  unfold F_within2 at hF
  split at hF
  · rename_i lo hi
    simp only [kid, Option.some.injEq, Prod.mk.injEq] at hF
    obtain ⟨rfl, rfl⟩ := hF
    exact k_within2 l lo hi hp A c w hr
  · cases hF
end Go.Proofs.YtbcicjmepojlnaaGreat.Eng
