/- Texts of this work, laid together: symbolic execution over the model, contracts of the program's functions, what they come to; conditions: as each says. -/
import Derived.Test.YtbcicjmepojlnaaPkKAG
import Derived.Test.YtbcicjmepojlnaaPkKKA
import Derived.Test.YtbcicjmepojlnaaPkKKC
/- Pages as they lie in memory; contracts of functions of lists, pages, numbers, told in one way; no condition. -/
namespace Go.Proofs.Ytbcicjmepojlnaa.Eng
open Go Go.RowKit
set_option autoImplicit false
set_option linter.unusedSimpArgs false
set_option linter.unusedVariables false
structure Pg where
  is : Bool
  t : At
def noPg : Pg := ⟨false, noAt⟩
def encP (p : Pg) : List C := [.v (.bool p.is), .v (.int .i64 p.t.p), .v (.bool p.t.sh), .v (.int .i64 p.t.b), .v (.int .i64 p.t.o)]
def encS (s : List Pg) : List C := s.flatMap encP
theorem encP_len (p : Pg) : (encP p).length = 5 := rfl
theorem encP_inj (x y : Pg) (h : encP x = encP y) : x = y := by
  obtain ⟨_, ⟨_, _, _, _⟩⟩ := x
  obtain ⟨_, ⟨_, _, _, _⟩⟩ := y
  simpa [encP] using h
theorem encS_inj (s s' : List Pg) (h : encS s = encS s') : s = s' := enc_inj encP_len (by decide) encP_inj s s' h
theorem encS_len (s : List Pg) : (encS s).length = s.length * 5 := enc_len encP_len s
theorem encS_ok (s : List Pg) : ok1 (encS s) = true := enc_ok1 (fun x => rfl) s
def noS : List Pg := List.replicate 512 noPg
theorem noS_len : noS.length = 512 := List.length_replicate
theorem encS_zero : ∀ n : Nat, (List.replicate n (encP noPg)).flatten = encS (List.replicate n noPg)
  | 0 => rfl
  | n + 1 => by
    rw [List.replicate_succ, List.flatten_cons, encS_zero n, List.replicate_succ]
    rfl
theorem encS_noS : (List.replicate 512 [C.v (.bool false), .v (.int .i64 0), .v (.bool false), .v (.int .i64 0), .v (.int .i64 0)]).flatten = encS noS := encS_zero 512
def nthP (s : List Pg) (i : Nat) : Pg := s.getD i noPg
theorem nthP_get {s : List Pg} {i : Nat} (h : i < s.length) : s[i]? = some (nthP s i) := by
  unfold nthP
  rw [List.getD_eq_getElem?_getD, List.getElem?_eq_getElem h]
  rfl
/-! ### Contracts, told in one way -/
inductive Kd where
  | flat
  | list
  | listc
  | space
inductive AV where
  | val (v : SV)
  | lst (l : List Ar) (x : C)
  | lstc (l : List Ar) (x : C)
  | spc (s : List Pg)
inductive Rs where
  | val (v : SV)
  | row (t z n : Nat) (xs : List C) (mk : C → SV)
  | alt (b : Bool) (x : C) (mk1 : C → SV) (r : List Ar) (mk2 : C → SV)
def decT (κ : Kp) : List Kd → List SV → Heap → (List AV → Prop) → Prop
  | [], ar, _, Q => match ar with
    | [] => Q []
    | _ => False
  | .flat :: ks, ar, H, Q => match ar with
    | v :: ar => decT κ ks ar H fun r => Q (.val v :: r)
    | _ => False
  | .list :: ks, ar, H, Q => match ar with
    | .c (.sl id A n c) :: ar => match rowOf (H id) with
      | some (A', z, n', xs) => Side (κ _ (A = A' ∧ n = n' ∧ (z = 6 ∨ n = 0))) ∧ LookX encL xs fun l => Side (κ _ (l.length = n)) ∧ decT κ ks ar H fun r => Q (.lst l (.sl id A n c) :: r)
      | none => False
    | _ => False
  | .listc :: ks, ar, H, Q => match ar with
    | .c (.sl id A n c) :: ar => match H id with
      | some (.rd A' z n' xs) => Side (κ _ (A = A' ∧ n = n' ∧ (z = 6 ∨ n = 0) ∧ n ≤ c)) ∧ LookX encL xs fun l => Side (κ _ (l.length = n)) ∧ decT κ ks ar H fun r => Q (.lstc l (.sl id A n c) :: r)
      | some (.row A' c' _ z n' xs) => Side (κ _ (A = A' ∧ c = c' ∧ n = n' ∧ (z = 6 ∨ n = 0))) ∧ LookX encL xs fun l => Side (κ _ (l.length = n)) ∧ decT κ ks ar H fun r => Q (.lstc l (.sl id A n c) :: r)
      | _ => False
    | _ => False
  | .space :: ks, ar, H, Q => match ar with
    | .agg xs :: ar => LookX encS xs fun s => Side (κ _ (s.length = 512)) ∧ decT κ ks ar H fun r => Q (.spc s :: r)
    | _ => False
def resK (κ : Kp) : Rs → Nat → KT → Prop
  | .val v, _, K => K v []
  | .row t z n xs mk, d, K => ∀ (A2 : Option Addr) (c2 : Nat), K (mk (.sl d A2 n c2)) [(d, some (.row A2 c2 t z n xs))]
  | .alt b x mk1 r mk2, d, K => match b with
    | true => K (mk1 x) []
    | false => ∀ (A2 : Option Addr) (c2 : Nat), K (mk2 (.sl d A2 (κ _ r.length) c2)) [(d, some (.row A2 c2 53 6 (κ _ r.length) (κ _ (encL r))))]
abbrev FunX := Kp → List AV → Option (Prop × Rs)
def fnT (ks : List Kd) (F : FunX) (κ : Kp) : TSpec := fun args H d K => decT κ ks args H fun avs => match F κ avs with
  | some (p, r) => Side p ∧ resK κ r d K
  | none => False
def OutX : Rs → SV → Heap → Prop
  | .val r, v, _ => v.den = r.den
  | .row t z n xs mk, v, H' => ∃ i A2 c2, v = mk (.sl i A2 n c2) ∧ (H' i = some (.row A2 c2 t z n xs) ∨ (n = 0 ∧ xs = [] ∧ A2 = none ∧ c2 = 0))
  | .alt b x mk1 r mk2, v, H' => (b = true → v.den = (mk1 x).den) ∧ (b = false → ∃ i A2 c2, v = mk2 (.sl i A2 r.length c2) ∧ (H' i = some (.row A2 c2 53 6 r.length (encL r)) ∨ (r = [] ∧ A2 = none ∧ c2 = 0)))
structure IsX (r : Rs) (v : SV) (H' : Heap) : Prop where
  h : OutX r v H'
theorem IsX.val_ {v v' : SV} {H' : Heap} (h : v.den = v'.den) : IsX (.val v') v H' := ⟨h⟩
theorem IsX.bool_ {a b : Bool} {H' : Heap} (h : b = a) : IsX (.val (.c (.v (.bool a)))) (.c (.v (.bool b))) H' := by
  subst h
  exact ⟨rfl⟩
theorem IsX.int_ {a b : Int} {k : IntKind} {H' : Heap} (h : b = a) : IsX (.val (.c (.v (.int k a)))) (.c (.v (.int k b))) H' := by
  subst h
  exact ⟨rfl⟩
theorem IsX.row_ {mk : C → SV} {r r' : List Ar} {i c2 : Nat} {A2 : Option Addr} {v : SV} {H' : Heap} (h : r' = r) (hv : v = mk (.sl i A2 r'.length c2)) (hH : H' i = some (.row A2 c2 53 6 r'.length (encL r'))) : IsX (.row 53 6 r.length (encL r) mk) v H' := by
  subst h
  exact ⟨⟨i, A2, c2, hv, .inl hH⟩⟩
theorem IsX.rowE {mk : C → SV} {t z n n' i c2 : Nat} {xs xs' : List C} {A2 : Option Addr} {v : SV} {H' : Heap} (hn : n' = n) (hx : xs' = xs) (hv : v = mk (.sl i A2 n' c2)) (hH : H' i = some (.row A2 c2 t z n' xs')) : IsX (.row t z n xs mk) v H' := by
  subst hn hx
  exact ⟨⟨i, A2, c2, hv, .inl hH⟩⟩
theorem IsX.nil_ {mk : C → SV} {r : List Ar} {i : Nat} {v : SV} {H' : Heap} (h : r = []) (hv : v = mk (.sl i none 0 0)) : IsX (.row 53 6 r.length (encL r) mk) v H' := by
  subst h
  exact ⟨⟨i, none, 0, hv, .inr ⟨rfl, rfl, rfl, rfl⟩⟩⟩
theorem IsX.same_ {b : Bool} {x : C} {mk1 mk2 : C → SV} {r : List Ar} {v : SV} {H' : Heap} (hb : b = true) (hv : v.den = (mk1 x).den) : IsX (.alt b x mk1 r mk2) v H' := by
  subst hb
  exact ⟨And.intro (fun _ => hv) (fun h => Bool.noConfusion h)⟩
theorem IsX.new_ {b : Bool} {x : C} {mk1 mk2 : C → SV} {r r' : List Ar} {i c2 : Nat} {A2 : Option Addr} {v : SV} {H' : Heap} (hb : b = false) (h : r' = r) (hv : v = mk2 (.sl i A2 r'.length c2)) (hH : H' i = some (.row A2 c2 53 6 r'.length (encL r'))) : IsX (.alt b x mk1 r mk2) v H' := by
  subst hb h
  exact ⟨And.intro (fun h => Bool.noConfusion h) (fun _ => ⟨i, A2, c2, hv, .inl hH⟩)⟩
theorem IsX.swap {b : Bool} {x x' : C} {mk1 mk2 : C → SV} {r : List Ar} {v : SV} {H' : Heap} (h : IsX (.alt b x mk1 r mk2) v H') (he : (mk1 x).den = (mk1 x').den) : IsX (.alt b x' mk1 r mk2) v H' :=
  ⟨⟨fun hb => (h.h.1 hb).trans he, h.h.2⟩⟩
def mkOk (r : Rs) : Prop := match r with
  | .val _ => True
  | .row _ _ _ _ mk => ∀ x y : C, x.den = y.den → (mk x).den = (mk y).den
  | .alt _ _ _ _ mk => ∀ x y : C, x.den = y.den → (mk x).den = (mk y).den
def RealW (w : World) : List AV → List Value → Prop
  | [], vs => vs = []
  | .val v :: r, vs => ∃ xs, vs = v.den :: xs ∧ RealW w r xs
  | .lst l x :: r, vs => ∃ id A c xs, x = .sl id A l.length c ∧ vs = .slice A l.length c :: xs ∧ (Ent.rd A 6 l.length (encL l)).holds w ∧ RealW w r xs
  | .lstc l x :: r, vs => ∃ id A c xs, x = .sl id A l.length c ∧ vs = .slice A l.length c :: xs ∧ l.length ≤ c ∧ (Ent.rd A 6 l.length (encL l)).holds w ∧ RealW w r xs
  | .spc s :: r, vs => ∃ xs, vs = (SV.agg (encS s)).den :: xs ∧ s.length = 512 ∧ RealW w r xs
section
variable {P : Program} {f : FuncId}
theorem decT_conj {ok : Nat → Prop} : ∀ (ks : List Kd) (args : List SV) (H : Heap) (Q : List AV → KT → Prop), (∀ avs, ConjP (Q avs) ok) → ConjP (fun K => decT kid ks args H fun avs => Q avs K) ok
  | [], ar, H, Q, h => by
    unfold decT
    cases ar with
    | nil => exact h []
    | cons => exact .false_
  | .flat :: ks, ar, H, Q, h => by
    unfold decT
    cases ar with
    | nil => exact .false_
    | cons v ar => exact decT_conj ks ar H (fun r => Q (.val v :: r)) fun r => h _
  | .list :: ks, ar, H, Q, h => by
    unfold decT
    split
    · split
      · rename_i id A n c ar _ _ _ _ _ _
        exact .side fun _ => .look encL_inj fun l _ => .side fun _ => decT_conj ks _ H (fun r => Q (.lst l (.sl id A n c) :: r)) fun r => h _
      · exact .false_
    · exact .false_
  | .listc :: ks, ar, H, Q, h => by
    unfold decT
    split
    · split
      · rename_i id A n c ar _ _ _ _ _ _
        exact .side fun _ => .look encL_inj fun l _ => .side fun _ => decT_conj ks _ H (fun r => Q (.lstc l (.sl id A n c) :: r)) fun r => h _
      · rename_i id A n c ar _ _ _ _ _ _ _ _
        exact .side fun _ => .look encL_inj fun l _ => .side fun _ => decT_conj ks _ H (fun r => Q (.lstc l (.sl id A n c) :: r)) fun r => h _
      · exact .false_
    · exact .false_
  | .space :: ks, ar, H, Q, h => by
    unfold decT
    split
    · exact .look encS_inj fun s _ => .side fun _ => decT_conj ks _ H (fun r => Q (.spc s :: r)) fun r => h _
    · exact .false_
theorem resK_conj (H : Heap) (r : Rs) (d : Nat) : ConjP (resK kid r d) (okKey false H d) := by
  cases r with
  | val v => exact .one _ _ (by simp)
  | row t z n xs mk => exact .all2 (fun A2 c2 => mk (.sl d A2 _ c2)) (fun A2 c2 => [(d, some (.row A2 c2 t z n xs))]) fun _ _ => okd _ _ _
  | alt b x mk1 r mk2 =>
    cases b with
    | true => exact .one (mk1 x) [] (by simp)
    | false => exact .all2 (fun A2 c2 => mk2 (.sl d A2 r.length c2)) (fun A2 c2 => [(d, some (.row A2 c2 53 6 r.length (encL r)))]) fun _ _ => okd _ _ _
theorem fnT_conj (ks : List Kd) (F : FunX) (args : List SV) (H : Heap) (d : Nat) : ConjP (fnT ks F kid args H d) (okKey false H d) := by
  refine decT_conj ks args H (fun avs K => match F kid avs with
    | some (p, r) => Side p ∧ resK kid r d K
    | none => False) fun avs => ?_
  cases F kid avs with
  | none => exact .false_
  | some q =>
    obtain ⟨p, r⟩ := q
    exact .side fun _ => resK_conj H r d
theorem decT_run {H0 H : Heap} {w0 w : World} {M : Nat → Prop} (hsub : ∀ i e, H0 i = some e → H i = some e) (hH : HSat w0 M H w) : ∀ (ks : List Kd) (args : List SV) (Q : List AV → Prop), decT kid ks args H0 Q →
    ∃ avs, Q avs ∧ RealW w avs (args.map SV.den) ∧ ∀ Q', decT kid ks args H0 Q' → Q' avs
  | [], ar, Q, h => by
    unfold decT at h
    cases ar with
    | nil => exact ⟨[], h, rfl, fun Q' h' => h'⟩
    | cons => exact h.elim
  | .flat :: ks, ar, Q, h => by
    unfold decT at h
    cases ar with
    | nil => exact h.elim
    | cons v ar =>
      obtain ⟨avs, h1, h2, h4⟩ := decT_run hsub hH ks ar _ h
      exact ⟨.val v :: avs, h1, ⟨_, rfl, h2⟩, fun Q' h' => h4 _ h'⟩
  | .list :: ks, ar, Q, h => by
    unfold decT at h
    split at h
    case h_2 => exact h.elim
    rename_i id A n c ar
    split at h
    case h_2 => exact h.elim
    rename_i A' z n' xs hrow
    obtain ⟨⟨e1, e2, hz⟩, ⟨l, hx, ⟨hn⟩, h⟩⟩ := h
    subst e1 e2
    obtain ⟨avs, h1, h2, h4⟩ := decT_run hsub hH ks ar _ h
    have hn' : l.length = n := hn
    have hrd : (Ent.rd A 6 l.length (encL l)).holds w := rd_holds (hH.drop hsub) hrow hz hn hx
    subst hn'
    refine ⟨.lst l (.sl id A l.length c) :: avs, h1, ⟨id, A, c, _, rfl, rfl, hrd, h2⟩, fun Q' h' => ?_⟩
    unfold decT at h'
    simp only [hrow] at h'
    obtain ⟨_, ⟨l2, hl2, _, h'⟩⟩ := h'
    have := encL_inj _ _ (hx.symm.trans hl2)
    subst this
    exact h4 _ h'
  | .listc :: ks, ar, Q, h => by
    unfold decT at h
    split at h
    case h_2 => exact h.elim
    rename_i id A n c ar
    split at h
    case h_3 => exact h.elim
    · rename_i A' z n' xs hrow
      obtain ⟨⟨e1, e2, hz, hnc⟩, ⟨l, hx, ⟨hn⟩, h⟩⟩ := h
      subst e1 e2
      obtain ⟨avs, h1, h2, h4⟩ := decT_run hsub hH ks ar _ h
      have hn' : l.length = n := hn
      have hrd : (Ent.rd A 6 l.length (encL l)).holds w := rd_holds (hH.drop hsub) (by rw [hrow]; rfl) hz hn hx
      subst hn'
      refine ⟨.lstc l (.sl id A l.length c) :: avs, h1, ⟨id, A, c, _, rfl, rfl, hnc, hrd, h2⟩, fun Q' h' => ?_⟩
      unfold decT at h'
      simp only [hrow] at h'
      obtain ⟨_, ⟨l2, hl2, _, h'⟩⟩ := h'
      have := encL_inj _ _ (hx.symm.trans hl2)
      subst this
      exact h4 _ h'
    · rename_i A' c' t' z n' xs hrow
      obtain ⟨⟨e1, e3, e2, hz⟩, ⟨l, hx, ⟨hn⟩, h⟩⟩ := h
      subst e1 e2 e3
      obtain ⟨avs, h1, h2, h4⟩ := decT_run hsub hH ks ar _ h
      have hn' : l.length = n := hn
      have hrd : (Ent.rd A 6 l.length (encL l)).holds w := rd_holds (hH.drop hsub) (by rw [hrow]; rfl) hz hn hx
      have hnc : n ≤ c := ((hH.drop hsub).holds _ _ hrow).2.1
      subst hn'
      refine ⟨.lstc l (.sl id A l.length c) :: avs, h1, ⟨id, A, c, _, rfl, rfl, hnc, hrd, h2⟩, fun Q' h' => ?_⟩
      unfold decT at h'
      simp only [hrow] at h'
      obtain ⟨_, ⟨l2, hl2, _, h'⟩⟩ := h'
      have := encL_inj _ _ (hx.symm.trans hl2)
      subst this
      exact h4 _ h'
  | .space :: ks, ar, Q, h => by
    unfold decT at h
    split at h
    case h_2 => exact h.elim
    rename_i xs ar
    obtain ⟨s, hx, ⟨hn⟩, h⟩ := h
    obtain ⟨avs, h1, h2, h4⟩ := decT_run hsub hH ks ar _ h
    refine ⟨.spc s :: avs, h1, ⟨_, by rw [List.map_cons, hx], hn, h2⟩, fun Q' h' => ?_⟩
    unfold decT at h'
    obtain ⟨s2, hs2, _, h'⟩ := h'
    have := encS_inj _ _ (hx.symm.trans hs2)
    subst this
    exact h4 _ h'
theorem leaveN {w0 w w' : World} {M : Nat → Prop} {H H2 : Heap} (hH : HSat w0 M H w) (hc : HSat w (fun _ => False) H2 w') (d : Nat) {e : Ent} (he : ∀ w, e.holds w) (hb : e.block = none) : HSat w0 M (upds H [(d, some e)]) w' := by
  have hb1 := hH.below hc.isBelow
  have := hb1.step (w' := w') none (fun _ => False) rfl rfl rfl (Nat.le_refl _) (fun _ _ _ => rfl) (fun _ h => h.elim) d e (he w') (fun g hg => by rw [hb] at hg; cases hg)
  exact this
theorem free_row (t z : Nat) : (∀ w, (Ent.row none 0 t z 0 []).holds w) ∧ (Ent.row none 0 t z 0 []).block = none := by
  have hf := free_block (e := .row none 0 t z 0 []) ⟨rfl, rfl, rfl, rfl⟩
  exact ⟨hf.2, hf.1⟩
def fnES (ks : List Kd) (hB : Bodied P f) (F : FunX) {κ : Kp} (hκ : κ = kid)
    (hk : ∀ avs p r, F kid avs = some (p, r) → p → mkOk r ∧ ∀ (vs : List Value) (w : World), RealW w avs vs →
      Calls P f vs.toArray w fun e w' => ∃ v H', e = .returned v.den ∧ IsX r v H' ∧ HSat w (fun _ => False) H' w') : ESpec P :=
  ES hB false (fnT ks F) hκ (fnT_conj ks F) fun args H0 H d w0 M w hs hsub hH => by
    obtain ⟨avs, h1, h2, h4⟩ := decT_run hsub hH ks args _ hs
    cases hF : F kid avs with
    | none => rw [hF] at h1; exact h1.elim
    | some q =>
      obtain ⟨p, r⟩ := q
      rw [hF] at h1
      obtain ⟨⟨hp⟩, _⟩ := h1
      obtain ⟨hmk, hcall⟩ := hk avs p r hF hp
      refine (hcall _ w h2).mono ?_
      rintro e w' ⟨v, H', rfl, ⟨hr⟩, hH'⟩
      have hK : ∀ K : KT, fnT ks F kid args H0 d K → resK kid r d K := fun K hK => by
        have := h4 _ hK
        rw [hF] at this
        exact this.2
      cases r with
      | val v0 => exact ⟨v0, [], _, rfl, fun K h => hK K h, fun _ => hr, hH.below hH'.isBelow⟩
      | row t z n xs mk =>
        obtain ⟨i, A2, c2, rfl, hi⟩ := hr
        refine ⟨mk (.sl d A2 n c2), [(d, some (.row A2 c2 t z n xs))], _, rfl, fun K h => hK K h A2 c2, fun _ => hmk _ _ rfl, ?_⟩
        rcases hi with hi | ⟨rfl, rfl, rfl, rfl⟩
        · exact leaveR hH hi rfl hH' d
        · exact leaveN hH hH' d (free_row t z).1 (free_row t z).2
      | alt b x mk1 r mk2 =>
        cases b with
        | true => exact ⟨mk1 x, [], _, rfl, fun K h => hK K h, fun _ => hr.1 rfl, hH.below hH'.isBelow⟩
        | false =>
          obtain ⟨i, A2, c2, rfl, hi⟩ := hr.2 rfl
          refine ⟨mk2 (.sl d A2 r.length c2), [(d, some (.row A2 c2 53 6 r.length (encL r)))], _, rfl, fun K h => hK K h A2 c2, fun _ => hmk _ _ rfl, ?_⟩
          rcases hi with hi | ⟨rfl, rfl, rfl⟩
          · exact leaveR hH hi rfl hH' d
          · exact leaveN hH hH' d (free_row 53 6).1 (free_row 53 6).2
end
end Go.Proofs.Ytbcicjmepojlnaa.Eng
/- Lists of areas by their pages: right lists are told by them; cuts, joins; no condition but those typed. -/
namespace Go.Proofs.Ytbcicjmepojlnaa.Eng
open Go Go.RowKit
set_option autoImplicit false
set_option linter.unusedSimpArgs false
set_option linter.unusedVariables false
def offP (a : Ar) (x : Int) : Int := if a.b = 0 then 0 else a.o + x - a.s
def ext (a : Ar) (x : Int) : At := ⟨a.p, a.sh, a.b, offP a x⟩
def inA (a : Ar) (x : Int) : Prop := a.s ≤ x ∧ x < a.e
def Has (l : List Ar) (x : Int) (t : At) : Prop := ∃ a ∈ l, inA a x ∧ ext a x = t
def Fm (l : List Ar) : Prop := ∀ a ∈ l, formed a = true
def Ok (l : List Ar) : Prop := Fm l ∧ l.Pairwise fun a b => a.e ≤ b.s
def Rt (l : List Ar) : Prop := Fm l ∧ l.Pairwise fun a b => a.e ≤ b.s ∧ goesA a b = false
def Touch (x lo hi : Int) : Prop := lo < hi ∧ lo < x + 4096 ∧ x < hi
theorem Rt.ok {l : List Ar} (h : Rt l) : Ok l := ⟨h.1, h.2.imp fun h => h.1⟩
theorem Has.nil {x : Int} {t : At} : ¬ Has [] x t := fun ⟨a, h, _⟩ => by cases h
theorem has_app (l k : List Ar) (x : Int) (t : At) : Has (l ++ k) x t ↔ Has l x t ∨ Has k x t := by
  unfold Has
  constructor
  · rintro ⟨a, ha, h⟩
    rcases List.mem_append.1 ha with h1 | h1
    · exact .inl ⟨a, h1, h⟩
    · exact .inr ⟨a, h1, h⟩
  · rintro (⟨a, ha, h⟩ | ⟨a, ha, h⟩)
    · exact ⟨a, List.mem_append.2 (.inl ha), h⟩
    · exact ⟨a, List.mem_append.2 (.inr ha), h⟩
theorem has_cons (a : Ar) (l : List Ar) (x : Int) (t : At) : Has (a :: l) x t ↔ (inA a x ∧ ext a x = t) ∨ Has l x t := by
  unfold Has
  constructor
  · rintro ⟨b, hb, h⟩
    rcases List.mem_cons.1 hb with rfl | h1
    · exact .inl h
    · exact .inr ⟨b, h1, h⟩
  · rintro (h | ⟨b, hb, h⟩)
    · exact ⟨a, List.mem_cons_self .., h⟩
    · exact ⟨b, List.mem_cons_of_mem _ hb, h⟩
theorem has_one (a : Ar) (x : Int) (t : At) : Has [a] x t ↔ inA a x ∧ ext a x = t := by
  rw [has_cons]
  exact ⟨fun h => h.elim id fun h => (Has.nil h).elim, .inl⟩
theorem has_flat (f : Ar → List Ar) (l : List Ar) (x : Int) (t : At) : Has (l.flatMap f) x t ↔ ∃ a ∈ l, Has (f a) x t := by
  unfold Has
  constructor
  · rintro ⟨a, ha, h⟩
    obtain ⟨b, hb, h2⟩ := List.mem_flatMap.1 ha
    exact ⟨b, hb, a, h2, h⟩
  · rintro ⟨b, hb, a, h2, h⟩
    exact ⟨a, List.mem_flatMap.2 ⟨b, hb, h2⟩, h⟩
/-! ### Areas -/
structure Fo (a : Ar) : Prop where
  s0 : a.s % 4096 = 0
  e0 : a.e % 4096 = 0
  lo : 65536 ≤ a.s
  hi : a.e ≤ 2097152
  lt : a.s < a.e
  p0 : 0 ≤ a.p
  p7 : a.p ≤ 7
  b0 : 0 ≤ a.b
  b9 : a.b ≤ 9
  oz : a.b = 0 → a.o = 0
  om : a.b ≠ 0 → a.o % 4096 = 0 ∧ 0 ≤ a.o ∧ a.o ≤ 1099511627776 - (a.e - a.s)
theorem fo {a : Ar} : formed a = true ↔ Fo a := by
  rw [formed_iff]
  exact ⟨fun ⟨h1, h2, h3, h4, h5, h6, h7, h8, h9, h10, h11⟩ => ⟨h1, h2, h3, h4, h5, h6, h7, h8, h9, h10, h11⟩, fun ⟨h1, h2, h3, h4, h5, h6, h7, h8, h9, h10, h11⟩ => ⟨h1, h2, h3, h4, h5, h6, h7, h8, h9, h10, h11⟩⟩
theorem offP_s {a : Ar} (h : Fo a) : offP a a.s = a.o := by
  unfold offP
  split
  · rename_i hb; exact (h.oz hb).symm
  · omega
theorem offP_eq {a : Ar} (h : Fo a) {x : Int} (h1 : 0 ≤ x) (h2 : x ≤ 2097152) : offA a x = offP a x := offA_eq (fo.2 h) h1 h2
theorem goes_ext {a b : Ar} : goesA a b = true ↔ Fo a ∧ Fo b ∧ a.e = b.s ∧ ext a a.e = ext b b.s := by
  rw [goes_iff]
  simp only [fo]
  unfold ext
  simp only [At.mk.injEq]
  constructor
  · rintro ⟨h1, h2, h3, h4, h5, h6, h7⟩
    refine ⟨h1, h2, h3, h4, h5, h6, ?_⟩
    rw [offP_s h2, h7]
    rfl
  · rintro ⟨h1, h2, h3, h4, h5, h6, h7⟩
    refine ⟨h1, h2, h3, h4, h5, h6, ?_⟩
    rw [offP_s h2] at h7
    exact h7.symm
theorem ext_all {a b : Ar} {x y : Int} (h : ext a x = ext b x) : ext a y = ext b y := by
  unfold ext at h ⊢
  simp only [At.mk.injEq] at h ⊢
  obtain ⟨h1, h2, h3, h4⟩ := h
  refine ⟨h1, h2, h3, ?_⟩
  unfold offP at h4 ⊢
  rw [h3] at h4 ⊢
  split at h4 <;> split <;> first | omega | contradiction
theorem ar_ext {a b : Ar} (ha : Fo a) (hb : Fo b) (h1 : a.s = b.s) (h2 : a.e = b.e) {x : Int} (h : ext a x = ext b x) : a = b := by
  have h' := ext_all (y := a.s) h
  unfold ext at h'
  simp only [At.mk.injEq] at h'
  obtain ⟨e1, e2, e3, e4⟩ := h'
  rw [offP_s ha, h1, offP_s hb] at e4
  cases a; cases b
  simp_all
theorem formed_at {l : List Ar} (h : Fm l) {i : Nat} (hi : i < l.length) : Fo (nthA l i) := by
  have h1 := nthA_get hi
  rw [List.getElem?_eq_getElem hi] at h1
  injection h1 with h1
  rw [← h1]
  exact fo.1 (h _ (List.getElem_mem hi))
theorem nthA_elem {l : List Ar} {i : Nat} (hi : i < l.length) : nthA l i = l[i] := by
  have h1 := nthA_get hi
  rw [List.getElem?_eq_getElem hi] at h1
  injection h1 with h1
  exact h1.symm
theorem rt_of {l : List Ar} (h : rightL l = true) : Rt l := by
  have hb : ∀ i : Nat, i < l.length → badAt l i = false := fun i hi => right_at h hi
  have hf : ∀ i : Nat, i < l.length → Fo (nthA l i) := fun i hi => by
    have := hb i hi
    cases hc : formed (nthA l i) with
    | true => exact fo.1 hc
    | false => rw [bad_a hc] at this; cases this
  have hn : ∀ i : Nat, i + 1 < l.length → (nthA l i).e ≤ (nthA l (i + 1)).s ∧ goesA (nthA l i) (nthA l (i + 1)) = false := fun i hi => by
    have := hb (i + 1) hi
    unfold badAt at this
    rw [fo.2 (hf _ hi), show i + 1 - 1 = i from rfl, show decide (0 < i + 1) = true by simp] at this
    simp only [Bool.not_true, Bool.false_or, Bool.true_and, Bool.or_eq_false_iff, decide_eq_false_iff_not] at this
    exact ⟨by omega, this.2⟩
  have key : ∀ (d i : Nat), i + 1 + d < l.length → (nthA l i).e ≤ (nthA l (i + 1 + d)).s ∧ goesA (nthA l i) (nthA l (i + 1 + d)) = false := by
    intro d
    induction d with
    | zero => intro i hi; exact hn i hi
    | succ d ih =>
      intro i hi
      have h1 := (ih i (by omega)).1
      have h2 := (hn (i + 1 + d) (by omega)).1
      have h3 := (hf (i + 1 + d) (by omega)).lt
      have h4 : (nthA l i).e < (nthA l (i + 1 + (d + 1))).s := by
        rw [show i + 1 + (d + 1) = i + 1 + d + 1 by omega]
        omega
      refine ⟨by omega, ?_⟩
      cases hg : goesA (nthA l i) (nthA l (i + 1 + (d + 1))) with
      | false => rfl
      | true => have := (goes_ext.1 hg).2.2.1; omega
  refine ⟨fun a ha => ?_, ?_⟩
  · obtain ⟨i, hi, rfl⟩ := List.getElem_of_mem ha
    rw [← nthA_elem hi]
    exact fo.2 (hf i hi)
  · rw [List.pairwise_iff_getElem]
    intro i j hi hj hij
    have := key (j - i - 1) i (by omega)
    rw [show i + 1 + (j - i - 1) = j by omega, nthA_elem hi, nthA_elem hj] at this
    exact this
theorem of_rt {l : List Ar} (h : Rt l) : rightL l = true := by
  refine right_yes fun j hj => ?_
  have hf := fo.2 (formed_at h.1 hj)
  unfold badAt
  rw [hf]
  by_cases h0 : 0 < j
  · have := (List.pairwise_iff_getElem.1 h.2) (j - 1) j (by omega) hj (by omega)
    rw [← nthA_elem, ← nthA_elem] at this
    rw [this.2]
    have h2 : decide ((nthA l (j - 1)).e > (nthA l j).s) = false := by simp; omega
    rw [h2]
    simp
  · have : decide (0 < j) = false := by simp; omega
    rw [this]
    rfl
theorem rt_iff {l : List Ar} : rightL l = true ↔ Rt l := ⟨rt_of, of_rt⟩
/-! ### Right lists are told by their pages -/
theorem has_lo {l : List Ar} {b : Int} (h : ∀ a ∈ l, b ≤ a.s) {x : Int} {t : At} (hx : Has l x t) : b ≤ x := by
  obtain ⟨a, ha, h1, _⟩ := hx
  have := h a ha
  have := h1.1
  omega
theorem rt_ext : ∀ {l k : List Ar}, Rt l → Rt k → (∀ x t, x % 4096 = 0 → (Has l x t ↔ Has k x t)) → l = k
  | [], [], _, _, _ => rfl
  | [], b :: k, _, hk, h => by
    have fb := fo.1 (hk.1 b (List.mem_cons_self ..))
    exact (Has.nil ((h b.s (ext b b.s) fb.s0).2 ((has_cons ..).2 (.inl ⟨⟨Int.le_refl _, fb.lt⟩, rfl⟩)))).elim
  | a :: l, [], hl, _, h => by
    have fa := fo.1 (hl.1 a (List.mem_cons_self ..))
    exact (Has.nil ((h a.s (ext a a.s) fa.s0).1 ((has_cons ..).2 (.inl ⟨⟨Int.le_refl _, fa.lt⟩, rfl⟩)))).elim
  | a :: l, b :: k, hl, hk, h => by
    have fa := fo.1 (hl.1 a (List.mem_cons_self ..))
    have fb := fo.1 (hk.1 b (List.mem_cons_self ..))
    have pl := List.pairwise_cons.1 hl.2
    have pk := List.pairwise_cons.1 hk.2
    have key : ∀ (a : Ar) (l : List Ar) (b : Ar) (k : List Ar), Fo a → Fo b → (∀ c ∈ k, b.e ≤ c.s) → (∀ x t, x % 4096 = 0 → Has (a :: l) x t → Has (b :: k) x t) → b.s ≤ a.s := by
      intro a l b k fa fb pk h
      have h1 := h a.s (ext a a.s) fa.s0 ((has_cons ..).2 (.inl ⟨⟨Int.le_refl _, fa.lt⟩, rfl⟩))
      rcases (has_cons ..).1 h1 with h2 | h2
      · exact h2.1.1
      · have := has_lo (b := b.e) pk h2
        have := fb.lt
        omega
    have hs : a.s = b.s := by
      have h1 := key a l b k fa fb (fun c hc => (pk.1 c hc).1) fun x t hx => (h x t hx).1
      have h2 := key b k a l fb fa (fun c hc => (pl.1 c hc).1) fun x t hx => (h x t hx).2
      omega
    have hx : ext a a.s = ext b a.s := by
      have h1 := (h a.s (ext a a.s) fa.s0).1 ((has_cons ..).2 (.inl ⟨⟨Int.le_refl _, fa.lt⟩, rfl⟩))
      rcases (has_cons ..).1 h1 with h2 | h2
      · exact h2.2.symm
      · have := has_lo (b := b.e) (fun c hc => (pk.1 c hc).1) h2
        have := fb.lt
        omega
    have key2 : ∀ (a : Ar) (l : List Ar) (b : Ar) (k : List Ar), Fo a → Fo b → Fm l → (∀ c ∈ l, a.e ≤ c.s ∧ goesA a c = false) → a.s = b.s → ext a a.s = ext b a.s → (∀ x t, x % 4096 = 0 → Has (b :: k) x t → Has (a :: l) x t) → b.e ≤ a.e := by
      intro a l b k fa fb fl pl hs hx h
      rcases (by omega : b.e ≤ a.e ∨ a.e < b.e) with h0 | h0
      · exact h0
      · exfalso
        have h1 := h a.e (ext b a.e) fa.e0 ((has_cons ..).2 (.inl ⟨⟨by have := fa.lt; omega, h0⟩, rfl⟩))
        rcases (has_cons ..).1 h1 with h2 | h2
        · have := h2.1.2; omega
        · obtain ⟨c, hc, h3, h4⟩ := h2
          obtain ⟨h5, h6⟩ := pl c hc
          have h7 : c.s = a.e := by have := h3.1; omega
          have : goesA a c = true := goes_ext.2 ⟨fa, fo.1 (fl c hc), h7.symm, by rw [h7, h4]; exact ext_all hx⟩
          rw [h6] at this
          cases this
    have he : a.e = b.e := by
      have h1 := key2 a l b k fa fb (fun c hc => hl.1 c (List.mem_cons_of_mem _ hc)) pl.1 hs hx fun x t hx => (h x t hx).2
      have h2 := key2 b k a l fb fa (fun c hc => hk.1 c (List.mem_cons_of_mem _ hc)) pk.1 hs.symm (by rw [← hs]; exact hx.symm) fun x t hx => (h x t hx).1
      omega
    have hab : a = b := ar_ext fa fb hs he hx
    subst hab
    rw [rt_ext (l := l) (k := k) ⟨fun c hc => hl.1 c (List.mem_cons_of_mem _ hc), pl.2⟩ ⟨fun c hc => hk.1 c (List.mem_cons_of_mem _ hc), pk.2⟩ fun x t hx0 => ?_]
    have h1 := h x t hx0
    rw [has_cons, has_cons] at h1
    constructor
    · intro h2
      rcases h1.1 (.inr h2) with h3 | h3
      · have := has_lo (b := a.e) (fun c hc => (pl.1 c hc).1) h2
        have := h3.1.2
        omega
      · exact h3
    · intro h2
      rcases h1.2 (.inr h2) with h3 | h3
      · have := has_lo (b := a.e) (fun c hc => (pk.1 c hc).1) h2
        have := h3.1.2
        omega
      · exact h3
theorem has_fun : ∀ {l : List Ar}, Ok l → ∀ {x : Int} {t t' : At}, Has l x t → Has l x t' → t = t'
  | [], _, _, _, _, h, _ => (Has.nil h).elim
  | a :: l, hl, x, t, t', h, h' => by
    have pl := List.pairwise_cons.1 hl.2
    rcases (has_cons ..).1 h with h1 | h1
    · rcases (has_cons ..).1 h' with h2 | h2
      · exact h1.2.symm.trans h2.2
      · have := has_lo (b := a.e) pl.1 h2
        have := h1.1.2
        omega
    · rcases (has_cons ..).1 h' with h2 | h2
      · have := has_lo (b := a.e) pl.1 h1
        have := h2.1.2
        omega
      · exact has_fun ⟨fun c hc => hl.1 c (List.mem_cons_of_mem _ hc), pl.2⟩ h1 h2
theorem has_range {l : List Ar} (h : Fm l) {x : Int} {t : At} (hx : Has l x t) : 65536 ≤ x ∧ x < 2097152 := by
  obtain ⟨a, ha, h1, _⟩ := hx
  have f := fo.1 (h a ha)
  have := f.lo
  have := f.hi
  have := h1.1
  have := h1.2
  omega
/-! ### Joining -/
theorem join_ext {z a : Ar} (hg : goesA z a = true) : joinsA z a = true ∧ Fo (joinA z a) ∧ (joinA z a).s = z.s ∧ (joinA z a).e = a.e ∧ (∀ x, ext (joinA z a) x = ext z x) ∧ ∀ x, ext a x = ext z x := by
  obtain ⟨h1, h2, h3⟩ := joins_goes hg
  refine ⟨h1, by rw [h3]; exact fo.1 h2, by rw [h3], by rw [h3], fun x => by rw [h3]; rfl, fun x => ?_⟩
  obtain ⟨_, _, e, h4⟩ := goes_ext.1 hg
  rw [e] at h4
  exact ext_all h4.symm
theorem joined_fold : ∀ (l out : List Ar), Rt out → Ok l → (∀ z ∈ out, ∀ a ∈ l, z.e ≤ a.s) → Rt (l.foldl stepJ out) ∧ ∀ x t, Has (l.foldl stepJ out) x t ↔ Has out x t ∨ Has l x t
  | [], out, ho, _, _ => ⟨ho, fun x t => ⟨.inl, fun h => h.elim id fun h => (Has.nil h).elim⟩⟩
  | a :: l, out, ho, hl, hz => by
    have pl := List.pairwise_cons.1 hl.2
    have fa := fo.1 (hl.1 a (List.mem_cons_self ..))
    have hl' : Ok l := ⟨fun c hc => hl.1 c (List.mem_cons_of_mem _ hc), pl.2⟩
    have key : Rt (stepJ out a) ∧ (∀ z ∈ stepJ out a, ∀ b ∈ l, z.e ≤ b.s) ∧ ∀ x t, Has (stepJ out a) x t ↔ Has out x t ∨ (inA a x ∧ ext a x = t) := by
      unfold stepJ
      split
      · rename_i hn
        have : out = [] := List.getLast?_eq_none_iff.1 hn
        subst this
        refine ⟨⟨fun c hc => ?_, List.pairwise_singleton _ _⟩, fun z hz b hb => ?_, fun x t => ?_⟩
        · rw [List.mem_singleton.1 hc]; exact fo.2 fa
        · rw [List.mem_singleton.1 hz]; exact pl.1 b hb
        · rw [has_one]
          exact ⟨.inr, fun h => h.elim (fun h => (Has.nil h).elim) id⟩
      · rename_i z hs
        obtain ⟨d, hd⟩ : ∃ d, out = d ++ [z] := by
          have := List.getLast?_eq_some_iff.1 hs
          exact this
        subst hd
        have hdl : (d ++ [z]).dropLast = d := by simp
        have pz := List.pairwise_append.1 ho.2
        have fz := fo.1 (ho.1 z (List.mem_append.2 (.inr (List.mem_singleton.2 rfl))))
        have hza := hz z (List.mem_append.2 (.inr (List.mem_singleton.2 rfl))) a (List.mem_cons_self ..)
        split
        · rename_i hj
          rw [joins_eq] at hj
          obtain ⟨_, fj, js, je, jx, ja⟩ := join_ext hj
          have ze := (goes_ext.1 hj).2.2.1
          rw [hdl]
          refine ⟨⟨fun c hc => ?_, List.pairwise_append.2 ⟨pz.1, List.pairwise_singleton _ _, fun y hy c hc => ?_⟩⟩, fun y hy b hb => ?_, fun x t => ?_⟩
          · rcases List.mem_append.1 hc with h | h
            · exact ho.1 c (List.mem_append.2 (.inl h))
            · rw [List.mem_singleton.1 h]; exact fo.2 fj
          · rw [List.mem_singleton.1 hc]
            obtain ⟨h1, h2⟩ := pz.2.2 y hy z (List.mem_singleton.2 rfl)
            refine ⟨by omega, ?_⟩
            cases hg : goesA y (joinA z a) with
            | false => rfl
            | true =>
              obtain ⟨g1, _, g3, g4⟩ := goes_ext.1 hg
              have : goesA y z = true := goes_ext.2 ⟨g1, fz, by omega, by rw [g4, jx, js]⟩
              rw [h2] at this
              cases this
          · rcases List.mem_append.1 hy with h | h
            · exact hz y (List.mem_append.2 (.inl h)) b (List.mem_cons_of_mem _ hb)
            · rw [List.mem_singleton.1 h, je]; exact pl.1 b hb
          · rw [has_app, has_app, has_one, has_one, jx]
            unfold inA
            rw [js, je, ja]
            have := fz.lt
            have := fa.lt
            constructor
            · rintro (h | ⟨⟨h1, h2⟩, h3⟩)
              · exact .inl (.inl h)
              · rcases (by omega : x < z.e ∨ a.s ≤ x) with h4 | h4
                · exact .inl (.inr ⟨⟨h1, h4⟩, h3⟩)
                · exact .inr ⟨⟨h4, h2⟩, h3⟩
            · rintro ((h | ⟨⟨h1, h2⟩, h3⟩) | ⟨⟨h1, h2⟩, h3⟩)
              · exact .inl h
              · exact .inr ⟨⟨h1, by omega⟩, h3⟩
              · exact .inr ⟨⟨by omega, h2⟩, h3⟩
        · rename_i hj
          rw [joins_eq] at hj
          have hj' : goesA z a = false := by simpa using hj
          refine ⟨⟨fun c hc => ?_, List.pairwise_append.2 ⟨ho.2, List.pairwise_singleton _ _, fun y hy c hc => ?_⟩⟩, fun y hy b hb => ?_, fun x t => ?_⟩
          · rcases List.mem_append.1 hc with h | h
            · exact ho.1 c h
            · rw [List.mem_singleton.1 h]; exact fo.2 fa
          · rw [List.mem_singleton.1 hc]
            refine ⟨hz y hy a (List.mem_cons_self ..), ?_⟩
            rcases List.mem_append.1 hy with h | h
            · obtain ⟨h1, _⟩ := pz.2.2 y h z (List.mem_singleton.2 rfl)
              have := fz.lt
              cases hg : goesA y a with
              | false => rfl
              | true => have := (goes_ext.1 hg).2.2.1; omega
            · rw [List.mem_singleton.1 h]; exact hj'
          · rcases List.mem_append.1 hy with h | h
            · exact hz y h b (List.mem_cons_of_mem _ hb)
            · rw [List.mem_singleton.1 h]; exact pl.1 b hb
          · rw [has_app _ [a], has_one]
    obtain ⟨k1, k2, k3⟩ := key
    obtain ⟨r1, r2⟩ := joined_fold l (stepJ out a) k1 hl' k2
    refine ⟨r1, fun x t => ?_⟩
    rw [List.foldl_cons, r2, k3, has_cons, or_assoc]
theorem joined_rt {l : List Ar} (h : Ok l) : Rt (joinedL l) ∧ ∀ x t, Has (joinedL l) x t ↔ Has l x t := by
  obtain ⟨h1, h2⟩ := joined_fold l [] ⟨fun a h => (by cases h), List.Pairwise.nil⟩ h (fun z h => by cases h)
  exact ⟨h1, fun x t => (h2 x t).trans ⟨fun h => h.elim (fun h => (Has.nil h).elim) id, .inr⟩⟩
end Go.Proofs.Ytbcicjmepojlnaa.Eng
