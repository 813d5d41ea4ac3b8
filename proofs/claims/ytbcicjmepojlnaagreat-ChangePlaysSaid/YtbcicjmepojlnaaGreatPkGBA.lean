/- Texts of this work, laid together: symbolic execution over the model, contracts of the program's functions, what they come to; conditions: as each says. -/
import Derived.Test.YtbcicjmepojlnaaGreatPkGAP
/- Contracts of methods over a pointer to a struct whose first field is a list of areas; no condition. -/
namespace Go.Proofs.YtbcicjmepojlnaaGreat.Eng
open Go Go.RowKit
set_option autoImplicit false
set_option linter.unusedSimpArgs false
set_option linter.unusedVariables false
def EK (κ : Kp) (b t : Nat) (cs : List C) (l : List Ar) (A : Option Addr) (c : Nat) : List (Nat × Ent) :=
  [(nilId, .rd none 1 0 []), (200000, .blk b t (.sl 200010 A (κ _ l.length) c :: cs)), (200010, .rd A 6 (κ _ l.length) (κ _ (encL l)))]
structure InK (b t : Nat) (cs : List C) (l : List Ar) (A : Option Addr) (c : Nat) (w : World) : Prop where
  h : HSat w (fun g => g = b) (heapOf (EK kid b t cs l A c)) w
abbrev FunK := Kp → List Ar → List C → List SV → Option (Prop × Rs × Option (List C))
def recT (t : Nat) (F : FunK) (κ : Kp) : TSpec := fun args H d K => match args with
  | .c (.loc id b 0) :: rest => match H id with
    | some (.blk b' t' (.sl j A n c :: cs)) => match rowOf (H j) with
      | some (A', z, n', xs) => (t' = t ∧ id ≠ j) ∧ Side (κ _ (b = b' ∧ A = A' ∧ n = n' ∧ (z = 6 ∨ n = 0))) ∧ LookX encL xs fun l => Side (κ _ (l.length = n)) ∧ match F κ l cs rest with
        | some (p, r, none) => Side p ∧ resK κ r d K
        | some (p, .val v, some cs') => Side p ∧ K v [(id, some (.blk b t (.sl j A n c :: cs')))]
        | _ => False
      | none => False
    | _ => False
  | _ => False
structure IsP (r : Rs) (e : Ent) (v : SV) (H' : Heap) : Prop where
  r : IsX r v H'
  e : ∃ (b t : Nat) (cs cs' : List C), e = .blk b t cs ∧ H' 200000 = some (.blk b t cs') ∧ cs'.map C.den = cs.map C.den
theorem IsP.mk' {r : Rs} {b t : Nat} {cs cs' : List C} {v : SV} {H' : Heap} (h : IsX r v H') (he : H' 200000 = some (.blk b t cs')) (hc : cs' = cs) : IsP r (.blk b t cs) v H' :=
  ⟨h, b, t, cs, cs', rfl, he, by rw [hc]⟩
section
variable {P : Program} {f : FuncId}
theorem recT_conj (t : Nat) (F : FunK) (wr : Bool) (hro : wr = false → ∀ l cs rest p r o, F kid l cs rest = some (p, r, o) → o = none) (args : List SV) (H : Heap) (d : Nat) : ConjP (recT t F kid args H d) (okKey wr H d) := by
  unfold recT
  split
  · rename_i id b rest
    split
    · rename_i b' t' j A n c cs hid
      split
      · rename_i A' z n' xs hj
        refine .and_ fun _ => .side fun _ => .look encL_inj fun l _ => .side fun _ => ?_
        split
        · rename_i p r hF
          refine .side fun _ => ?_
          obtain ⟨s, R, h0, h1, h2⟩ := resK_conj H r d
          exact ⟨s, R, h0, fun hs v u hR q hq => by
            rcases h1 hs v u hR q hq with h | h | h | h
            · exact .inl h
            · exact .inr (.inl h)
            · exact .inr (.inr (.inl h))
            · exact absurd h.1 (by simp), h2⟩
        · rename_i p v cs' hF
          refine .side fun _ => .one _ _ ?_
          have hw : wr = true := by
            cases wr with
            | true => rfl
            | false => have := hro rfl _ _ _ _ _ _ hF; cases this
          intro q hq
          rw [List.mem_singleton.1 hq]
          exact .inr (.inr (.inr ⟨hw, by rw [hid]; rfl⟩))
        · exact .false_
      · exact .false_
    · exact .false_
  · exact .false_
theorem gives_list {H : Heap} {j : Nat} {A : Option Addr} {z n : Nat} {xs : List C} (h : rowOf (H j) = some (A, z, n, xs)) (hz : z = 6 ∨ n = 0) : ∃ e, H j = some e ∧ e.gives (.rd A 6 n xs) := by
  have zero : ∀ e : Ent, e.gives (.rd A z n xs) → e.gives (.rd A 6 n xs) := fun e he => by
    rcases hz with rfl | rfl
    · exact he
    · refine ⟨fun w hw => ?_, fun w hw g hg => ?_, fun hm => by cases hm⟩
      · have h1 := he.holds w hw
        exact ⟨by have := h1.1; simp at this; simp [this], h1.2⟩
      · exact he.block w hw g hg
  cases hj : H j with
  | none => rw [hj] at h; cases h
  | some e =>
    rw [hj] at h
    cases e with
    | blk _ _ _ => cases h
    | row A' c t z' n' xs' =>
      simp only [rowOf, Option.some.injEq, Prod.mk.injEq] at h
      obtain ⟨rfl, rfl, rfl, rfl⟩ := h
      exact ⟨_, rfl, zero _ gives_row_rd⟩
    | rd A' z' n' xs' =>
      simp only [rowOf, Option.some.injEq, Prod.mk.injEq] at h
      obtain ⟨rfl, rfl, rfl, rfl⟩ := h
      exact ⟨_, rfl, zero _ (gives_refl _)⟩
def EK2 (b t : Nat) (cs : List C) (l : List Ar) (A : Option Addr) (c : Nat) : List (Nat × Ent) := [(200000, .blk b t (.sl 200010 A l.length c :: cs)), (200010, .rd A 6 l.length (encL l))]
theorem mutE_EK2 (b t : Nat) (cs : List C) (l : List Ar) (A : Option Addr) (c : Nat) : mutE (EK2 b t cs l A c) = fun g => g = b := by
  funext g
  apply propext
  unfold mutE EK2
  constructor
  · rintro ⟨k, i, e, hk, hm, hg⟩
    match k, hk with
    | 0, hk =>
      simp at hk
      obtain ⟨_, rfl⟩ := hk
      simp only [Ent.block, Option.some.injEq] at hg
      exact hg.symm
    | 1, hk =>
      simp at hk
      obtain ⟨_, rfl⟩ := hk
      cases hm
    | k + 2, hk => simp at hk
  · rintro rfl
    exact ⟨0, _, _, rfl, rfl, rfl⟩
theorem EK_EK2 (b t : Nat) (cs : List C) (l : List Ar) (A : Option Addr) (c : Nat) : heapOf (EK kid b t cs l A c) = upds (heapOf (EK2 b t cs l A c)) [(nilId, some (.rd none 1 0 []))] := by
  funext i
  simp only [EK, EK2, heapOf, upds, upd_apply, kid]
theorem HSat.shut {w w' : World} {b t : Nat} {cs cs' : List C} {Hc : Heap} (hb : w.heap[b]? = some (.cells (cs.map C.den).toArray t (0, 0))) (h : HSat w (fun g => g = b) Hc w') (hc : Hc 200000 = some (.blk b t cs')) (he : cs'.map C.den = cs.map C.den) :
    HSat w (fun _ => False) (upd Hc 200000 none) w' := by
  have hs : ∀ i e, (upd Hc 200000 none) i = some e → Hc i = some e ∧ i ≠ 200000 := fun i e hi => by
    rw [upd_apply] at hi
    split at hi
    · cases hi
    · rename_i hne
      exact ⟨hi, hne⟩
  refine ⟨⟨h.fr.os, h.fr.tape, h.fr.output, h.fr.size, fun k hk _ => ?_⟩, fun i e hi => h.holds i e (hs i e hi).1, fun i e hi => h.lt i e (hs i e hi).1, fun i e hi hm g hg => ?_, fun i j ei ej hij hi hj => h.sep i j ei ej hij (hs i ei hi).1 (hs j ej hj).1⟩
  · by_cases hkb : k = b
    · subst hkb
      have h1 : w'.heap[k]? = some (.cells (cs'.map C.den).toArray t (0, 0)) := h.holds _ _ hc
      rw [h1, hb, he]
    · exact h.fr.block k hk hkb
  · obtain ⟨h1, h2⟩ := hs i e hi
    rcases h.own i e h1 hm g hg with h3 | h3
    · exact .inl h3
    · subst h3
      exact absurd hg (h.sep 200000 i _ e (fun e => h2 e.symm) hc h1 rfl g rfl)
theorem IsX.shut {r : Rs} {v : SV} {Hc : Heap} {b t : Nat} {cs : List C} (h : IsX r v Hc) (hc : Hc 200000 = some (.blk b t cs)) : IsX r v (upd Hc 200000 none) := by
  have key : ∀ i A2 c2 t z n xs, Hc i = some (.row A2 c2 t z n xs) → upd Hc 200000 none i = some (.row A2 c2 t z n xs) := fun i A2 c2 t z n xs hi => by
    rw [upd_apply, if_neg]
    · exact hi
    · rintro rfl
      rw [hc] at hi
      cases hi
  obtain ⟨h⟩ := h
  cases r with
  | val v0 => exact ⟨h⟩
  | row t z n xs mk =>
    obtain ⟨i, A2, c2, h1, h2⟩ := h
    exact ⟨⟨i, A2, c2, h1, h2.imp (key _ _ _ _ _ _ _) id⟩⟩
  | alt bb x mk1 r mk2 =>
    refine ⟨⟨h.1, fun hb => ?_⟩⟩
    obtain ⟨i, A2, c2, h1, h2⟩ := h.2 hb
    exact ⟨i, A2, c2, h1, h2.imp (key _ _ _ _ _ _ _) id⟩
def recES (t : Nat) (hB : Bodied P f) (F : FunK) (wr : Bool) (hro : wr = false → ∀ l cs rest p r o, F kid l cs rest = some (p, r, o) → o = none) {κ : Kp} (hκ : κ = kid)
    (hk : ∀ l cs rest p r o, F kid l cs rest = some (p, r, o) → p → mkOk r ∧ ∀ (b : Nat) (A : Option Addr) (c : Nat) (w : World), InK b t cs l A c w →
      Calls P f (Value.pointer (some ⟨b, 0, none⟩) :: rest.map SV.den).toArray w fun e w' => ∃ v H', e = .returned v.den ∧ IsP r (.blk b t (.sl 200010 A l.length c :: o.getD cs)) v H' ∧ HSat w (fun g => g = b) H' w') : ESpec P :=
  ES hB wr (recT t F) hκ (recT_conj t F wr hro) fun args H0 H d w0 M w hs hsub hH => by
    have hs' := hs
    unfold recT at hs'
    split at hs'
    case h_2 => exact hs'.elim
    rename_i id b rest
    split at hs'
    case h_2 => exact hs'.elim
    rename_i b' t' j A n c cs hid
    split at hs'
    case h_2 => exact hs'.elim
    rename_i A' z n' xs hj
    obtain ⟨⟨rfl, hne⟩, ⟨h1⟩, ⟨l, rfl, ⟨h2⟩, h3⟩⟩ := hs'
    obtain ⟨rfl, rfl, rfl, hz⟩ := h1
    have h2 : l.length = n := h2
    subst h2
    obtain ⟨ej, hej, hgj⟩ := gives_list hj hz
    have hG : Gives H [id, j] (EK2 b t' cs l A c) := ⟨⟨_, hsub _ _ hid, gives_blk rfl⟩, ⟨_, hsub _ _ hej, hgj⟩, trivial⟩
    have hnd : [id, j].Nodup := by simp [hne]
    have hin0 : HSat w (fun g => g = b) (heapOf (EK2 b t' cs l A c)) w := mutE_EK2 b t' cs l A c ▸ hH.enter hnd hG
    have hin : InK b t' cs l A c w := ⟨by rw [EK_EK2]; exact leaveN hin0 (HSat.start w) nilId (fun w => nil_holds w) rfl⟩
    have hblk : w.heap[b]? = some (.cells ((C.sl j A l.length c :: cs).map C.den).toArray t' (0, 0)) := hH.holds _ _ (hsub _ _ hid)
    split at h3
    · rename_i p r hF
      obtain ⟨hmk, hcall⟩ := hk l cs rest p r none hF h3.1.h
      refine (hcall b A c w hin).mono ?_
      rintro e w' ⟨v, Hc, rfl, ⟨hr, qb, qt, qc, cs', hq, hc, he⟩, hHc⟩
      injection hq with q1 q2 q3
      rw [← q1, ← q2] at hc
      rw [← q3] at he
      have hH' := HSat.shut hblk hHc hc he
      have hr' := hr.shut hc
      have hK : ∀ K : KT, recT t' F kid (.c (.loc id b 0) :: rest) H0 d K → resK kid r d K := fun K hK => by
        unfold recT at hK
        simp only [hid, hj] at hK
        obtain ⟨_, _, ⟨l2, hl2, _, h⟩⟩ := hK
        have := encL_inj _ _ hl2
        subst this
        rw [hF] at h
        exact h.2
      obtain ⟨hr'⟩ := hr'
      cases r with
      | val v0 => exact ⟨v0, [], _, rfl, fun K h => hK K h, fun _ => hr', hH.below hH'.isBelow⟩
      | row t z n xs mk =>
        obtain ⟨i, A2, c2, rfl, hi⟩ := hr'
        refine ⟨mk (.sl d A2 n c2), [(d, some (.row A2 c2 t z n xs))], _, rfl, fun K h => hK K h A2 c2, fun _ => hmk _ _ rfl, ?_⟩
        rcases hi with hi | ⟨rfl, rfl, rfl, rfl⟩
        · exact leaveR hH hi rfl hH' d
        · exact leaveN hH hH' d (free_row t z).1 (free_row t z).2
      | alt b x mk1 r mk2 =>
        cases b with
        | true => exact ⟨mk1 x, [], _, rfl, fun K h => hK K h, fun _ => hr'.1 rfl, hH.below hH'.isBelow⟩
        | false =>
          obtain ⟨i, A2, c2, rfl, hi⟩ := hr'.2 rfl
          refine ⟨mk2 (.sl d A2 r.length c2), [(d, some (.row A2 c2 49 6 r.length (encL r)))], _, rfl, fun K h => hK K h A2 c2, fun _ => hmk _ _ rfl, ?_⟩
          rcases hi with hi | ⟨rfl, rfl, rfl⟩
          · exact leaveR hH hi rfl hH' d
          · exact leaveN hH hH' d (free_row 49 6).1 (free_row 49 6).2
    · rename_i p v0 cs2 hF
      obtain ⟨hmk, hcall⟩ := hk l cs rest p (.val v0) (some cs2) hF h3.1.h
      refine (hcall b A c w hin).mono ?_
      rintro e w' ⟨v, Hc, rfl, ⟨⟨hr⟩, qb, qt, qc, cs', hq, hc, he⟩, hHc⟩
      injection hq with q1 q2 q3
      rw [← q1, ← q2] at hc
      rw [← q3] at he
      have hr : v.den = v0.den := hr
      refine ⟨v0, [(id, some (.blk b t' (.sl j A l.length c :: cs2)))], _, rfl, fun K hK => ?_, fun _ => hr, ?_⟩
      · unfold recT at hK
        simp only [hid, hj] at hK
        obtain ⟨_, _, ⟨l2, hl2, _, h⟩⟩ := hK
        have := encL_inj _ _ hl2
        subst this
        rw [hF] at h
        exact h.2
      · refine hH.leave hnd hG (by rw [mutE_EK2]; exact hHc) _ [(id, 200000)] ?_ ?_ (by simp)
        · intro q hq
          rw [List.mem_singleton.1 hq]
          exact ⟨_, _, hc, by simp [upds, upd_apply], gives_blk (cs' := .sl j A l.length c :: cs2) he, rfl⟩
        · intro i hi
          have hi1 : id ≠ i := fun e => hi (id, 200000) (by simp) e
          refine .inr ⟨upds_other _ H i (by simp [hi1]), fun k t e hk1 hk2 => ?_⟩
          match k, hk1, hk2 with
          | 0, h1, h => simp at h; exact absurd h hi1
          | 1, h1, h =>
            simp [EK2] at h1
            obtain ⟨_, rfl⟩ := h1
            rfl
          | k + 2, h1, h => simp at h
    · exact h3.elim
end
end Go.Proofs.YtbcicjmepojlnaaGreat.Eng
/- Contracts of functions that take a struct of a list of areas and a number; no condition. -/
namespace Go.Proofs.YtbcicjmepojlnaaGreat.Eng
open Go Go.RowKit
set_option autoImplicit false
set_option linter.unusedSimpArgs false
set_option linter.unusedVariables false
inductive Kd2 where
  | flat
  | list
  | sp
inductive AV2 where
  | val (v : SV)
  | lst (l : List Ar) (x : C)
  | spv (l : List Ar) (x : C) (b : Int)
def decT2 (κ : Kp) : List Kd2 → List SV → Heap → (List AV2 → Prop) → Prop
  | [], ar, _, Q => match ar with
    | [] => Q []
    | _ => False
  | .flat :: ks, ar, H, Q => match ar with
    | v :: ar => decT2 κ ks ar H fun r => Q (.val v :: r)
    | _ => False
  | .list :: ks, ar, H, Q => match ar with
    | .c (.sl id A n c) :: ar => match rowOf (H id) with
      | some (A', z, n', xs) => Side (κ _ (A = A' ∧ n = n' ∧ (z = 6 ∨ n = 0))) ∧ LookX encL xs fun l => Side (κ _ (l.length = n)) ∧ decT2 κ ks ar H fun r => Q (.lst l (.sl id A n c) :: r)
      | none => False
    | _ => False
  | .sp :: ks, ar, H, Q => match ar with
    | .agg [.sl id A n c, .v (.int .i64 b)] :: ar => match rowOf (H id) with
      | some (A', z, n', xs) => Side (κ _ (A = A' ∧ n = n' ∧ (z = 6 ∨ n = 0))) ∧ LookX encL xs fun l => Side (κ _ (l.length = n)) ∧ decT2 κ ks ar H fun r => Q (.spv l (.sl id A n c) b :: r)
      | none => False
    | _ => False
abbrev FunX2 := Kp → List AV2 → Option (Prop × Rs)
def fnT2 (ks : List Kd2) (F : FunX2) (κ : Kp) : TSpec := fun args H d K => decT2 κ ks args H fun avs => match F κ avs with
  | some (p, r) => Side p ∧ resK κ r d K
  | none => False
def RealW2 (w : World) : List AV2 → List Value → Prop
  | [], vs => vs = []
  | .val v :: r, vs => ∃ xs, vs = v.den :: xs ∧ RealW2 w r xs
  | .lst l x :: r, vs => ∃ id A c xs, x = .sl id A l.length c ∧ vs = .slice A l.length c :: xs ∧ (Ent.rd A 6 l.length (encL l)).holds w ∧ RealW2 w r xs
  | .spv l x b :: r, vs => ∃ id A c xs, x = .sl id A l.length c ∧ vs = (SV.agg [.sl id A l.length c, .v (.int .i64 b)]).den :: xs ∧ (Ent.rd A 6 l.length (encL l)).holds w ∧ RealW2 w r xs
section
variable {P : Program} {f : FuncId}
theorem decT2_conj {ok : Nat → Prop} : ∀ (ks : List Kd2) (args : List SV) (H : Heap) (Q : List AV2 → KT → Prop), (∀ avs, ConjP (Q avs) ok) → ConjP (fun K => decT2 kid ks args H fun avs => Q avs K) ok
  | [], ar, H, Q, h => by
    unfold decT2
    cases ar with
    | nil => exact h []
    | cons => exact .false_
  | .flat :: ks, ar, H, Q, h => by
    unfold decT2
    cases ar with
    | nil => exact .false_
    | cons v ar => exact decT2_conj ks ar H (fun r => Q (.val v :: r)) fun r => h _
  | .list :: ks, ar, H, Q, h => by
    unfold decT2
    split
    · split
      · rename_i id A n c ar _ _ _ _ _ _
        exact .side fun _ => .look encL_inj fun l _ => .side fun _ => decT2_conj ks _ H (fun r => Q (.lst l (.sl id A n c) :: r)) fun r => h _
      · exact .false_
    · exact .false_
  | .sp :: ks, ar, H, Q, h => by
    unfold decT2
    split
    · split
      · rename_i id A n c b ar _ _ _ _ _ _
        exact .side fun _ => .look encL_inj fun l _ => .side fun _ => decT2_conj ks _ H (fun r => Q (.spv l (.sl id A n c) b :: r)) fun r => h _
      · exact .false_
    · exact .false_
theorem fnT2_conj (ks : List Kd2) (F : FunX2) (args : List SV) (H : Heap) (d : Nat) : ConjP (fnT2 ks F kid args H d) (okKey false H d) := by
  refine decT2_conj ks args H (fun avs K => match F kid avs with
    | some (p, r) => Side p ∧ resK kid r d K
    | none => False) fun avs => ?_
  cases F kid avs with
  | none => exact .false_
  | some q =>
    obtain ⟨p, r⟩ := q
    exact .side fun _ => resK_conj H r d
theorem decT2_run {H0 H : Heap} {w0 w : World} {M : Nat → Prop} (hsub : ∀ i e, H0 i = some e → H i = some e) (hH : HSat w0 M H w) : ∀ (ks : List Kd2) (args : List SV) (Q : List AV2 → Prop), decT2 kid ks args H0 Q →
    ∃ avs, Q avs ∧ RealW2 w avs (args.map SV.den) ∧ ∀ Q', decT2 kid ks args H0 Q' → Q' avs
  | [], ar, Q, h => by
    unfold decT2 at h
    cases ar with
    | nil => exact ⟨[], h, rfl, fun Q' h' => h'⟩
    | cons => exact h.elim
  | .flat :: ks, ar, Q, h => by
    unfold decT2 at h
    cases ar with
    | nil => exact h.elim
    | cons v ar =>
      obtain ⟨avs, h1, h2, h4⟩ := decT2_run hsub hH ks ar _ h
      exact ⟨.val v :: avs, h1, ⟨_, rfl, h2⟩, fun Q' h' => h4 _ h'⟩
  | .list :: ks, ar, Q, h => by
    unfold decT2 at h
    split at h
    case h_2 => exact h.elim
    rename_i id A n c ar
    split at h
    case h_2 => exact h.elim
    rename_i A' z n' xs hrow
    obtain ⟨⟨e1, e2, hz⟩, ⟨l, hx, ⟨hn⟩, h⟩⟩ := h
    subst e1 e2
    obtain ⟨avs, h1, h2, h4⟩ := decT2_run hsub hH ks ar _ h
    have hn' : l.length = n := hn
    have hrd : (Ent.rd A 6 l.length (encL l)).holds w := rd_holds (hH.drop hsub) hrow hz hn hx
    subst hn'
    refine ⟨.lst l (.sl id A l.length c) :: avs, h1, ⟨id, A, c, _, rfl, rfl, hrd, h2⟩, fun Q' h' => ?_⟩
    unfold decT2 at h'
    simp only [hrow] at h'
    obtain ⟨_, ⟨l2, hl2, _, h'⟩⟩ := h'
    have := encL_inj _ _ (hx.symm.trans hl2)
    subst this
    exact h4 _ h'
  | .sp :: ks, ar, Q, h => by
    unfold decT2 at h
    split at h
    case h_2 => exact h.elim
    rename_i id A n c b ar
    split at h
    case h_2 => exact h.elim
    rename_i A' z n' xs hrow
    obtain ⟨⟨e1, e2, hz⟩, ⟨l, hx, ⟨hn⟩, h⟩⟩ := h
    subst e1 e2
    obtain ⟨avs, h1, h2, h4⟩ := decT2_run hsub hH ks ar _ h
    have hn' : l.length = n := hn
    have hrd : (Ent.rd A 6 l.length (encL l)).holds w := rd_holds (hH.drop hsub) hrow hz hn hx
    subst hn'
    refine ⟨.spv l (.sl id A l.length c) b :: avs, h1, ⟨id, A, c, _, rfl, rfl, hrd, h2⟩, fun Q' h' => ?_⟩
    unfold decT2 at h'
    simp only [hrow] at h'
    obtain ⟨_, ⟨l2, hl2, _, h'⟩⟩ := h'
    have := encL_inj _ _ (hx.symm.trans hl2)
    subst this
    exact h4 _ h'
def fn2ES (ks : List Kd2) (hB : Bodied P f) (F : FunX2) {κ : Kp} (hκ : κ = kid)
    (hk : ∀ avs p r, F kid avs = some (p, r) → p → mkOk r ∧ ∀ (vs : List Value) (w : World), RealW2 w avs vs →
      Calls P f vs.toArray w fun e w' => ∃ v H', e = .returned v.den ∧ IsX r v H' ∧ HSat w (fun _ => False) H' w') : ESpec P :=
  ES hB false (fnT2 ks F) hκ (fnT2_conj ks F) fun args H0 H d w0 M w hs hsub hH => by
    obtain ⟨avs, h1, h2, h4⟩ := decT2_run hsub hH ks args _ hs
    cases hF : F kid avs with
    | none => rw [hF] at h1; exact h1.elim
    | some q =>
      obtain ⟨p, r⟩ := q
      rw [hF] at h1
      obtain ⟨⟨hp⟩, _⟩ := h1
      obtain ⟨hmk, hcall⟩ := hk avs p r hF hp
      refine (hcall _ w h2).mono ?_
      rintro e w' ⟨v, H', rfl, ⟨hr⟩, hH'⟩
      have hK : ∀ K : KT, fnT2 ks F kid args H0 d K → resK kid r d K := fun K hK => by
        have := h4 _ hK
        rw [hF] at this
        exact this.2
      cases r with
      | val v0 => exact ⟨v0, [], _, rfl, fun K h => hK K h, fun _ => hr, hH.below hH'.isBelow⟩
      | row t z n xs mk =>
        obtain ⟨i, A2, c2, rfl, hi⟩ := hr
        refine ⟨mk (.sl d A2 n c2), [(d, some (.row A2 c2 t z n xs))], _, rfl, fun K h => hK K h A2 c2, fun _ => hmk _ _ rfl, ?_⟩
        rcases hi with hi | ⟨rfl, rfl, rfl, rfl⟩
        · exact leaveR hH hi rfl hH' d
        · exact leaveN hH hH' d (free_row t z).1 (free_row t z).2
      | alt b x mk1 r mk2 =>
        cases b with
        | true => exact ⟨mk1 x, [], _, rfl, fun K h => hK K h, fun _ => hr.1 rfl, hH.below hH'.isBelow⟩
        | false =>
          obtain ⟨i, A2, c2, rfl, hi⟩ := hr.2 rfl
          refine ⟨mk2 (.sl d A2 r.length c2), [(d, some (.row A2 c2 49 6 r.length (encL r)))], _, rfl, fun K h => hK K h A2 c2, fun _ => hmk _ _ rfl, ?_⟩
          rcases hi with hi | ⟨rfl, rfl, rfl⟩
          · exact leaveR hH hi rfl hH' d
          · exact leaveN hH hH' d (free_row 49 6).1 (free_row 49 6).2
end
end Go.Proofs.YtbcicjmepojlnaaGreat.Eng
