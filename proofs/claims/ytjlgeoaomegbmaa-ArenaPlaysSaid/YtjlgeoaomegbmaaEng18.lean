/- Calls with what lies behind their arguments; contracts that are told by what is to be shown behind a call; rows of like things; no condition. -/
import Derived.Test.YtjlgeoaomegbmaaEng17
namespace Go.Proofs.Ytjlgeoaomegbmaa.Eng
open Go Go.RowKit
set_option autoImplicit false
set_option linter.unusedSimpArgs false
set_option linter.unusedVariables false

variable {P : Program} {w0 w w' : World} {M : Nat → Prop}

/-! ### One thing as another one -/
structure Ent.gives (e e' : Ent) : Prop where
  holds : ∀ w, e.holds w → e'.holds w
  block : ∀ w, e.holds w → ∀ g, e'.block = some g → e.block = some g
  muts : e'.mut = true → e.mut = true
theorem gives_refl (e : Ent) : e.gives e := ⟨fun _ h => h, fun _ _ _ h => h, fun h => h⟩
theorem gives_blk {b t : Nat} {cs cs' : List C} (h : cs.map C.den = cs'.map C.den) : (Ent.blk b t cs).gives (.blk b t cs') :=
  ⟨fun w hw => by show w.heap[b]? = _; rw [← h]; exact hw, fun _ _ _ hg => hg, fun h => h⟩
theorem gives_row {A : Option Addr} {c t z n : Nat} {xs xs' : List C} (h : xs.map C.den = xs'.map C.den) : (Ent.row A c t z n xs).gives (.row A c t z n xs') :=
  ⟨fun w hw => ⟨by have h1 := congrArg List.length h; simp only [List.length_map] at h1; rw [← h1]; exact hw.1, hw.2.1, fun hc => by
    obtain ⟨g, cur, h1, h2, h3, h4, h5⟩ := hw.2.2 hc
    exact ⟨g, cur, h1, h2, h3, h4, by rw [← h]; exact h5⟩⟩, fun _ _ _ hg => hg, fun h => h⟩
theorem gives_row_rd {A : Option Addr} {c t z n : Nat} {xs : List C} : (Ent.row A c t z n xs).gives (.rd A z n xs) := by
  have pos : ∀ w, (Ent.row A c t z n xs).holds w → xs ≠ [] → 0 < c := by
    intro w hw hx
    have h1 := hw.1
    have h2 := hw.2.1
    have h3 : 0 < xs.length := List.length_pos_iff.2 hx
    rcases Nat.eq_zero_or_pos n with h0 | h0
    · rw [h0] at h1; omega
    · omega
  refine ⟨fun w hw => ⟨hw.1, fun hx => ?_⟩, fun w hw g hg => ?_, fun h => by cases h⟩
  · obtain ⟨g, cur, h1, h2, _⟩ := hw.2.2 (pos w hw hx)
    have hc := cells_row hw hx
    refine ⟨⟨g, 0, none⟩, h1, ?_, ?_⟩
    · exact (Array.getElem?_eq_some_iff.1 h2).1
    · rw [h1] at hc; exact hc
  · simp only [Ent.block] at hg ⊢
    split at hg
    · cases hg
    · rename_i hx
      have := pos w hw hx
      rw [if_neg (by omega)]
      exact hg
theorem gives_rd {A : Option Addr} {z n : Nat} {xs xs' : List C} (h : xs.map C.den = xs'.map C.den) : (Ent.rd A z n xs).gives (.rd A z n xs') := by
  have hl := congrArg List.length h
  simp only [List.length_map] at hl
  refine ⟨fun w hw => ⟨by rw [← hl]; exact hw.1, fun hx => ?_⟩, fun w hw g hg => ?_, fun h => h⟩
  · obtain ⟨a, h1, h2, h3⟩ := hw.2 (by intro e; subst e; exact hx (List.eq_nil_of_length_eq_zero (by simpa using hl.symm)))
    exact ⟨a, h1, h2, fun j u hu => h3 j u (by rw [h]; exact hu)⟩
  · simp only [Ent.block] at hg ⊢
    split at hg
    · cases hg
    · rename_i hx
      rw [if_neg (by intro e; subst e; exact hx (List.eq_nil_of_length_eq_zero (by simpa using hl.symm)))]
      exact hg

/-! ### Into a call and out of it -/
def Gives (H : Heap) : List Nat → List (Nat × Ent) → Prop
  | _, [] => True
  | s :: ρ, (_, e) :: r => (∃ e', H s = some e' ∧ e'.gives e) ∧ Gives H ρ r
  | [], _ :: _ => False
theorem Gives.get {H : Heap} : ∀ {ρ : List Nat} {E : List (Nat × Ent)}, Gives H ρ E → ∀ (k t : Nat) (e : Ent), E[k]? = some (t, e) → ∃ s e', ρ[k]? = some s ∧ H s = some e' ∧ e'.gives e
  | _, [], _, k, t, e, h => by simp at h
  | s :: ρ, (t', e1) :: r, h, 0, t, e, hk => by
    simp at hk
    obtain ⟨_, rfl⟩ := hk
    obtain ⟨e', h1, h2⟩ := h.1
    exact ⟨s, e', rfl, h1, h2⟩
  | s :: ρ, (t', e1) :: r, h, k + 1, t, e, hk => by
    obtain ⟨s', e', h1, h2, h3⟩ := Gives.get h.2 k t e (by simpa using hk)
    exact ⟨s', e', by simpa using h1, h2, h3⟩
/-- The blocks that a call may turn: those of what it is handed to turn. -/
def mutE (E : List (Nat × Ent)) (g : Nat) : Prop := ∃ (k t : Nat) (e : Ent), E[k]? = some (t, e) ∧ e.mut = true ∧ e.block = some g

theorem HSat.enter {H : Heap} {ρ : List Nat} {E : List (Nat × Ent)} (h : HSat w0 M H w) (hρ : ρ.Nodup) (hG : Gives H ρ E) : HSat w (mutE E) (heapOf E) w := by
  have key : ∀ t e, heapOf E t = some e → ∃ (k s : Nat) (e' : Ent), E[k]? = some (t, e) ∧ ρ[k]? = some s ∧ H s = some e' ∧ e'.gives e := by
    intro t e he
    obtain ⟨k, hk⟩ := heapOf_some E t e he
    obtain ⟨s, e', h1, h2, h3⟩ := hG.get k t e hk
    exact ⟨k, s, e', hk, h1, h2, h3⟩
  refine ⟨Fr.refl w _, fun i e hi => ?_, fun i e hi g hg => ?_, fun i e hi hm g hg => ?_, fun i j ei ej hij hi hj hm g hgi hgj => ?_⟩
  · obtain ⟨k, s, e', _, _, hs, hg⟩ := key i e hi
    exact hg.holds w (h.holds s e' hs)
  · obtain ⟨k, s, e', _, _, hs, hv⟩ := key i e hi
    exact h.lt s e' hs g (hv.block w (h.holds s e' hs) g hg)
  · obtain ⟨k, s, e', hk, _, hs, hv⟩ := key i e hi
    exact .inr ⟨k, i, e, hk, hm, hg⟩
  · obtain ⟨k, s, ei', hk, hks, hs, hv⟩ := key i ei hi
    obtain ⟨k', s', ej', hk', hks', hs', hv'⟩ := key j ej hj
    refine h.sep s s' ei' ej' ?_ hs hs' (hv.muts hm) g (hv.block w (h.holds s ei' hs) g hgi) (hv'.block w (h.holds s' ej' hs') g hgj)
    rintro rfl
    have := nodup_get hρ hks hks'
    subst this
    rw [hk] at hk'
    injection hk' with e
    exact hij (by injection e)

/-- T: which thing (of the caller's numbers) is which one of the call's; all others are as they were, or let go. -/
theorem HSat.leave {H Hc : Heap} {ρ : List Nat} {E : List (Nat × Ent)} (h : HSat w0 M H w) (hρ : ρ.Nodup) (hG : Gives H ρ E) (hc : HSat w (mutE E) Hc w') (u : Upd) (T : List (Nat × Nat))
    (c1 : ∀ p ∈ T, ∃ e e', Hc p.2 = some e ∧ upds H u p.1 = some e' ∧ e.gives e' ∧ e.mut = true)
    (c2 : ∀ i, (∀ p ∈ T, p.1 ≠ i) → upds H u i = none ∨ (upds H u i = H i ∧ ∀ (k t : Nat) (e : Ent), E[k]? = some (t, e) → ρ[k]? = some i → e.mut = false))
    (c3 : (T.map (·.2)).Nodup) : HSat w0 M (upds H u) w' := by
  -- what the call may turn is the caller's own
  have mown : ∀ g, mutE E g → ∃ s e', H s = some e' ∧ e'.mut = true ∧ e'.block = some g ∧ ∃ (k t : Nat) (e : Ent), E[k]? = some (t, e) ∧ ρ[k]? = some s ∧ e.mut = true := by
    rintro g ⟨k, t, e, hk, hm, hg⟩
    obtain ⟨s, e', h1, h2, h3⟩ := hG.get k t e hk
    exact ⟨s, e', h2, h3.muts hm, h3.block w (h.holds s e' h2) g hg, k, t, e, hk, h1, hm⟩
  have two : ∀ i e, upds H u i = some e → (∃ k e1, (i, k) ∈ T ∧ Hc k = some e1 ∧ e1.gives e ∧ e1.mut = true) ∨ (H i = some e ∧ ∀ (k t : Nat) (e : Ent), E[k]? = some (t, e) → ρ[k]? = some i → e.mut = false) := by
    intro i e hi
    by_cases hT : ∃ p ∈ T, p.1 = i
    · obtain ⟨p, hp, rfl⟩ := hT
      obtain ⟨e1, e2, h1, h2, h3, h4⟩ := c1 p hp
      rw [hi] at h2
      injection h2 with h2
      subst h2
      exact .inl ⟨p.2, e1, hp, h1, h3, h4⟩
    · rcases c2 i (fun p hp e => hT ⟨p, hp, e⟩) with h0 | ⟨h1, h2⟩
      · rw [h0] at hi; cases hi
      · exact .inr ⟨h1 ▸ hi, h2⟩
  -- a thing of the caller's that the call was not handed to turn is as it was
  have far : ∀ i e, H i = some e → (∀ (k t : Nat) (e : Ent), E[k]? = some (t, e) → ρ[k]? = some i → e.mut = false) → ∀ g, e.block = some g → ¬ mutE E g := by
    intro i e hi hn g hg hm
    obtain ⟨s, e', hs, hm', hb, k, t, ee, hk, hks, hme⟩ := mown g hm
    by_cases his : s = i
    · subst his
      have := hn k t ee hk hks
      rw [hme] at this
      cases this
    · exact h.sep s i e' e his hs hi hm' g hb hg
  have osz : w.heap.size ≤ w'.heap.size := hc.fr.size
  have own1 : ∀ k e1, Hc k = some e1 → e1.mut = true → ∀ g, e1.block = some g → w.heap.size ≤ g ∨ mutE E g := fun k e1 hk hm g hg => hc.own k e1 hk hm g hg
  refine ⟨⟨hc.fr.os.trans h.fr.os, hc.fr.tape.trans h.fr.tape, hc.fr.output.trans h.fr.output, Nat.le_trans h.fr.size osz, fun k hk hM => ?_⟩, fun i e hi => ?_, fun i e hi g hg => ?_, fun i e hi hm g hg => ?_, fun i j ei ej hij hi hj hm g hgi hgj => ?_⟩
  · have hlt := Nat.lt_of_lt_of_le hk h.fr.size
    rw [hc.fr.block k hlt (fun hm => ?_)]
    · exact h.fr.block k hk hM
    · obtain ⟨s, e', hs, hm', hb, _⟩ := mown k hm
      rcases h.own s e' hs hm' k hb with h1 | h1
      · omega
      · exact hM h1
  · rcases two i e hi with ⟨k, e1, _, h1, h2, _⟩ | ⟨h1, h2⟩
    · exact h2.holds w' (hc.holds k e1 h1)
    · exact Ent.holds_keep (h.holds i e h1) osz fun g hg => hc.fr.block g (h.lt i e h1 g hg) (far i e h1 h2 g hg)
  · rcases two i e hi with ⟨k, e1, _, h1, h2, _⟩ | ⟨h1, h2⟩
    · exact hc.lt k e1 h1 g (h2.block w' (hc.holds k e1 h1) g hg)
    · exact Nat.lt_of_lt_of_le (h.lt i e h1 g hg) osz
  · rcases two i e hi with ⟨k, e1, _, h1, h2, h3⟩ | ⟨h1, h2⟩
    · rcases own1 k e1 h1 h3 g (h2.block w' (hc.holds k e1 h1) g hg) with h4 | h4
      · exact .inl (Nat.le_trans h.fr.size h4)
      · obtain ⟨s, e', hs, hm', hb, _⟩ := mown g h4
        exact h.own s e' hs hm' g hb
    · exact h.own i e h1 hm g hg
  · rcases two i ei hi with ⟨k, e1, hT, h1, h2, h3⟩ | ⟨h1, h2⟩
    · have hg1 := h2.block w' (hc.holds k e1 h1) g hgi
      rcases two j ej hj with ⟨k', e1', hT', h1', h2', h3'⟩ | ⟨h1', h2'⟩
      · refine hc.sep k k' e1 e1' ?_ h1 h1' h3 g hg1 (h2'.block w' (hc.holds k' e1' h1') g hgj)
        rintro rfl
        obtain ⟨a, ha⟩ := List.getElem?_of_mem hT
        obtain ⟨b, hb⟩ := List.getElem?_of_mem hT'
        have e1 : (T.map (·.2))[a]? = some k := by rw [List.getElem?_map, ha]; rfl
        have e2 : (T.map (·.2))[b]? = some k := by rw [List.getElem?_map, hb]; rfl
        have := nodup_get c3 e1 e2
        subst this
        rw [ha] at hb
        injection hb with hb
        injection hb with hb
        exact hij hb
      · rcases own1 k e1 h1 h3 g hg1 with h4 | h4
        · exact absurd (h.lt j ej h1' g hgj) (by omega)
        · exact far j ej h1' h2' g hgj h4
    · rcases two j ej hj with ⟨k', e1', hT', h1', h2', h3'⟩ | ⟨h1', h2'⟩
      · have hg1 := h2'.block w' (hc.holds k' e1' h1') g hgj
        rcases own1 k' e1' h1' h3' g hg1 with h4 | h4
        · exact absurd (h.lt i ei h1 g hgi) (by omega)
        · exact far i ei h1 h2 g hgi h4
      · exact h.sep i j ei ej hij h1 h1' hm g hgi hgj

/-! ### Loops whose things are told anew at the head -/
def simE : Ent → Ent → Prop
  | .blk b t cs, .blk b' t' cs' => b = b' ∧ t = t' ∧ cs.map C.den = cs'.map C.den
  | .row A c t z n xs, .row A' c' t' z' n' xs' => A = A' ∧ c = c' ∧ t = t' ∧ z = z' ∧ n = n' ∧ xs = xs'
  | .rd A z n xs, .rd A' z' n' xs' => A = A' ∧ z = z' ∧ n = n' ∧ xs = xs'
  | _, _ => False
def freeE : Ent → Prop
  | .row A c _ _ n xs => A = none ∧ c = 0 ∧ n = 0 ∧ xs = []
  | _ => False
theorem simE_gives {e e' : Ent} (h : simE e e') : e.gives e' := by
  cases e <;> cases e' <;> first | exact h.elim | skip
  · obtain ⟨rfl, rfl, h⟩ := h; exact gives_blk h
  · obtain ⟨rfl, rfl, rfl, rfl, rfl, rfl⟩ := h; exact gives_refl _
  · obtain ⟨rfl, rfl, rfl, rfl⟩ := h; exact gives_refl _
def FitsG (H : Heap) : List Nat → List (Nat × Ent) → Prop
  | _, [] => True
  | s :: ρ, (_, e) :: r => (match H s with | some e' => simE e' e | none => freeE e) ∧ FitsG H ρ r
  | [], _ :: _ => False
theorem FitsG.get {H : Heap} : ∀ {ρ : List Nat} {E : List (Nat × Ent)}, FitsG H ρ E → ∀ (k t : Nat) (e : Ent), E[k]? = some (t, e) → (∃ s e', ρ[k]? = some s ∧ H s = some e' ∧ e'.gives e) ∨ freeE e
  | _, [], _, k, t, e, h => by simp at h
  | s :: ρ, (t', e1) :: r, h, 0, t, e, hk => by
    simp at hk
    obtain ⟨_, rfl⟩ := hk
    have h1 := h.1
    split at h1
    · rename_i e' he
      exact .inl ⟨s, e', rfl, he, simE_gives h1⟩
    · exact .inr h1
  | s :: ρ, (t', e1) :: r, h, k + 1, t, e, hk => by
    rcases FitsG.get h.2 k t e (by simpa using hk) with ⟨s', e', h1, h2, h3⟩ | h1
    · exact .inl ⟨s', e', by simpa using h1, h2, h3⟩
    · exact .inr h1
theorem free_block {e : Ent} (h : freeE e) : e.block = none ∧ ∀ w, e.holds w := by
  cases e with
  | row A c t z n xs =>
    obtain ⟨rfl, rfl, rfl, rfl⟩ := h
    exact ⟨rfl, fun w => ⟨by simp, Nat.le_refl _, fun h => absurd h (Nat.lt_irrefl 0)⟩⟩
  | _ => exact h.elim
theorem HSat.fitsG {H : Heap} {ρ : List Nat} {E : List (Nat × Ent)} (h : HSat w0 M H w) (hρ : ρ.Nodup) (hG : FitsG H ρ E) : HSat w0 M (heapOf E) w := by
  have key : ∀ t e, heapOf E t = some e → (∃ (k s : Nat) (e' : Ent), E[k]? = some (t, e) ∧ ρ[k]? = some s ∧ H s = some e' ∧ e'.gives e) ∨ freeE e := by
    intro t e he
    obtain ⟨k, hk⟩ := heapOf_some E t e he
    rcases hG.get k t e hk with ⟨s, e', h1, h2, h3⟩ | h1
    · exact .inl ⟨k, s, e', hk, h1, h2, h3⟩
    · exact .inr h1
  refine ⟨h.fr, fun i e hi => ?_, fun i e hi g hg => ?_, fun i e hi hm g hg => ?_, fun i j ei ej hij hi hj hm g hgi hgj => ?_⟩
  · rcases key i e hi with ⟨k, s, e', _, _, hs, hv⟩ | hf
    · exact hv.holds w (h.holds s e' hs)
    · exact (free_block hf).2 w
  · rcases key i e hi with ⟨k, s, e', _, _, hs, hv⟩ | hf
    · exact h.lt s e' hs g (hv.block w (h.holds s e' hs) g hg)
    · rw [(free_block hf).1] at hg; cases hg
  · rcases key i e hi with ⟨k, s, e', _, _, hs, hv⟩ | hf
    · exact h.own s e' hs (hv.muts hm) g (hv.block w (h.holds s e' hs) g hg)
    · rw [(free_block hf).1] at hg; cases hg
  · rcases key i ei hi with ⟨k, s, ei', hk, hks, hs, hv⟩ | hf
    · rcases key j ej hj with ⟨k', s', ej', hk', hks', hs', hv'⟩ | hf'
      · refine h.sep s s' ei' ej' ?_ hs hs' (hv.muts hm) g (hv.block w (h.holds s ei' hs) g hgi) (hv'.block w (h.holds s' ej' hs') g hgj)
        rintro rfl
        have := nodup_get hρ hks hks'
        subst this
        rw [hk] at hk'
        injection hk' with e
        exact hij (by injection e)
      · rw [(free_block hf').1] at hgj; cases hgj
    · rw [(free_block hf).1] at hgi; cases hgi

structure AgainG {σ : Type} (L : σ → List (Nat × SV)) (E : σ → List (Nat × Ent)) (μ : σ → Nat) (s : σ) (env : Env) (H : Heap) : Prop where
  h : ∃ s' ρ, μ s' < μ s ∧ ρ.Nodup ∧ FitsE env (L s') ∧ FitsG H ρ (E s')
theorem loopG {n : Nat} {F : TT} (hF : TTok P F) (l : List (ESpec P)) (hm : P.follows .mixedOrders = true) {tabs : Tabs} {body : Code} {Q : QT} {env : Env} {H : Heap} {σ : Type} (ks : List Nat) (L : σ → List (Nat × SV)) (E : σ → List (Nat × Ent)) (μ : σ → Nat) (s0 : σ) (ρ0 : List Nat)
    (h0 : FitsE env (keepE env ks (L s0))) (hn : ρ0.Nodup) (h1 : FitsG H ρ0 (E s0)) {κ : Kp} (hκ : κ = kid)
    (round : ∀ s, vcE κ P F (lookT l) (lookE l) n tabs body (thenV Q (AgainG (fun s => keepE env ks (L s)) E μ s)) (envOf (keepE env ks (L s))) (heapOf (E s))) : LoopAt P n tabs body Q env H := by
  subst hκ
  rw [LoopAt_def]
  intro ht w0 M a w hE hH
  intro b k cs
  have key : ∀ m s, μ s = m → ∀ a w, EnvOk n (envOf (keepE env ks (L s))) a → HSat w0 M (heapOf (E s)) w → ∃ e a' w', lift n w0 M Q e a' w' ∧ Arrives P (lone (b.at a (.code body :: .inLoop body :: k)) cs w) b k cs e a' w' := by
    intro m
    induction m using Nat.strongRecOn with
    | _ m ih =>
      intro s hs a w hE hH
      obtain ⟨e, a1, w1, hq, harr⟩ := vcE_sound hF l hm tabs body ht _ _ _ (round s) w0 M a w hE hH b (.inLoop body :: k) cs
      cases e with
      | normal =>
        obtain ⟨env', H', ⟨s', ρ, hlt, hnd, hf1, hf2⟩, hE', hH'⟩ := hq
        obtain ⟨e2, a2, w2, hq2, harr2⟩ := ih (μ s') (hs ▸ hlt) s' rfl a1 w1 (hE'.fits hf1) (hH'.fitsG hnd hf2)
        exact ⟨e2, a2, w2, hq2, .of_steps (Steps.trans harr (.one step_inLoop)) harr2⟩
      | ret => exact ⟨.ret, a1, w1, hq, .pass (x := .inLoop body) rfl (fun _ _ => .inl (by simp)) harr⟩
      | exit id => exact ⟨.exit id, a1, w1, hq, .pass (x := .inLoop body) rfl (fun _ _ => .inl (by simp)) harr⟩
      | goto l => exact hq.elim
      | panic c => exact hq.elim
      | outgrown => exact hq.elim
  obtain ⟨e, a', w', hq, harr⟩ := key _ s0 rfl a w (hE.fits h0) (hH.fitsG hn h1)
  exact ⟨e, a', w', hq, .of_steps (.one step_loop) harr⟩

/-! ### Contracts by what is to be shown behind a call -/
def ConjP (T : KT → Prop) (ok : Nat → Prop) : Prop := ∃ (s : Prop) (R : SV → Upd → Prop), (s → ∃ v u, R v u) ∧ (s → ∀ v u, R v u → ∀ p ∈ u, ok p.1) ∧ ∀ K, T K ↔ s ∧ ∀ v u, R v u → K v u
theorem ConjP.one {ok : Nat → Prop} (v : SV) (u : Upd) (hu : ∀ p ∈ u, ok p.1) : ConjP (fun K => K v u) ok :=
  ⟨True, fun v' u' => v' = v ∧ u' = u, fun _ => ⟨v, u, rfl, rfl⟩, fun _ v' u' h => by rw [h.2]; exact hu, fun K => ⟨fun h => ⟨trivial, fun v' u' e => by rw [e.1, e.2]; exact h⟩, fun h => h.2 v u ⟨rfl, rfl⟩⟩⟩
theorem ConjP.false_ {ok : Nat → Prop} : ConjP (fun _ => False) ok := ⟨False, fun _ _ => False, fun h => h.elim, fun h => h.elim, fun K => ⟨fun h => h.elim, fun h => h.1⟩⟩
theorem ConjP.and_ {T : KT → Prop} {ok : Nat → Prop} {p : Prop} (h : p → ConjP T ok) : ConjP (fun K => p ∧ T K) ok := by
  by_cases hp : p
  · obtain ⟨s, R, h0, h1, h2⟩ := h hp
    exact ⟨s, R, h0, h1, fun K => ⟨fun hh => (h2 K).1 hh.2, fun hh => ⟨hp, (h2 K).2 hh⟩⟩⟩
  · exact ⟨False, fun _ _ => False, fun h => h.elim, fun h => h.elim, fun K => ⟨fun h => absurd h.1 hp, fun h => h.1.elim⟩⟩
theorem ConjP.side {T : KT → Prop} {ok : Nat → Prop} {p : Prop} (h : p → ConjP T ok) : ConjP (fun K => Side p ∧ T K) ok := .and_ fun hp => h hp.h
theorem ConjP.all_ {α : Type} {ok : Nat → Prop} [Inhabited α] (f : α → SV) (g : α → Upd) (hu : ∀ x, ∀ p ∈ g x, ok p.1) : ConjP (fun K => ∀ x, K (f x) (g x)) ok :=
  ⟨True, fun v u => ∃ x, v = f x ∧ u = g x, fun _ => ⟨f default, g default, default, rfl, rfl⟩, fun _ v u ⟨x, h⟩ => by rw [h.2]; exact hu x,
   fun K => ⟨fun h => ⟨trivial, fun v u ⟨x, e⟩ => by rw [e.1, e.2]; exact h x⟩, fun h x => h.2 _ _ ⟨x, rfl, rfl⟩⟩⟩
theorem ConjP.all2 {α β : Type} {ok : Nat → Prop} [Inhabited α] [Inhabited β] (f : α → β → SV) (g : α → β → Upd) (hu : ∀ x y, ∀ p ∈ g x y, ok p.1) : ConjP (fun K => ∀ x y, K (f x y) (g x y)) ok :=
  ⟨True, fun v u => ∃ x y, v = f x y ∧ u = g x y, fun _ => ⟨f default default, g default default, default, default, rfl, rfl⟩, fun _ v u ⟨x, y, h⟩ => by rw [h.2]; exact hu x y,
   fun K => ⟨fun h => ⟨trivial, fun v u ⟨x, y, e⟩ => by rw [e.1, e.2]; exact h x y⟩, fun h x y => h.2 _ _ ⟨x, y, rfl, rfl⟩⟩⟩
theorem ConjP.tst {b : Bool} {T T' : KT → Prop} {ok : Nat → Prop} (h : b = true → ConjP T ok) (h' : b = false → ConjP T' ok) : ConjP (fun K => match b with | true => T K | false => T' K) ok := by
  cases b
  · exact h' rfl
  · exact h rfl
/-- A thing is told by what it is the code of. -/
structure LookX {X Y : Type} (enc : X → Y) (xs : Y) (K : X → Prop) : Prop where
  h : ∃ x, xs = enc x ∧ K x
theorem LookX.mk' {X Y : Type} {enc : X → Y} {xs : Y} {K : X → Prop} {x : X} (h : xs = enc x) (hK : K x) : LookX enc xs K := ⟨x, h, hK⟩
theorem ConjP.look {X Y : Type} {enc : X → Y} (inj : ∀ x y, enc x = enc y → x = y) {xs : Y} {T : X → KT → Prop} {ok : Nat → Prop} (h : ∀ x, xs = enc x → ConjP (T x) ok) : ConjP (fun K => LookX enc xs fun x => T x K) ok := by
  by_cases hx : ∃ x, xs = enc x
  · obtain ⟨x, rfl⟩ := hx
    obtain ⟨s, R, h0, h1, h2⟩ := h x rfl
    refine ⟨s, R, h0, h1, fun K => ?_⟩
    rw [← h2 K]
    exact ⟨fun ⟨y, hy, hT⟩ => by rw [inj x y hy]; exact hT, fun hT => ⟨x, rfl, hT⟩⟩
  · exact ⟨False, fun _ _ => False, fun h => h.elim, fun h => h.elim, fun K => ⟨fun ⟨y, hy, _⟩ => absurd ⟨y, hy⟩ hx, fun h => h.1.elim⟩⟩

def specT (T : TSpec) : Spec := fun args H d => ⟨T args H d fun _ _ => True, fun v u => T args H d (fun _ _ => True) ∧ ∀ K : KT, T args H d K → K v u⟩
abbrev okKey (wr : Bool) (H : Heap) (d : Nat) : Nat → Prop := fun i => i = d ∨ i = d + 100000 ∨ i = d + 200000 ∨ (wr = true ∧ (H i).isSome = true)

def ES {f : FuncId} (hB : Bodied P f) (wr : Bool) (T : Kp → TSpec) {κ : Kp} (hκ : κ = kid) (hC : ∀ args H d, ConjP (T kid args H d) (okKey wr H d))
    (run : ∀ (args : List SV) (H0 H : Heap) (d : Nat) (w0 : World) (M : Nat → Prop) (w : World), T kid args H0 d (fun _ _ => True) → (∀ i e, H0 i = some e → H i = some e) → HSat w0 M H w →
      Calls P f (args.map SV.den).toArray w fun e w' => ∃ v u x, e = .returned x ∧ (∀ K : KT, T kid args H0 d K → K v u) ∧ (v.known = true → x = v.den) ∧ HSat w0 M (upds H u) w') : ESpec P where
  f := f
  wr := wr
  S := specT (T kid)
  ok :=
    { run := fun args H0 H d w0 M w hs hsub hH => (run args H0 H d w0 M w hs hsub hH).mono fun e w' ⟨v, u, x, h1, h2, h3, h4⟩ => ⟨v, u, x, h1, ⟨hs, h2⟩, h3, h4⟩
      some_ := fun args H d hs => by
        obtain ⟨s, R, h0, h1, h2⟩ := hC args H d
        obtain ⟨v, u, hR⟩ := h0 ((h2 _).1 hs).1
        exact ⟨v, u, hs, fun K hK => ((h2 K).1 hK).2 v u hR⟩
      keys := fun args H d v u hR => by
        obtain ⟨s, R, h0, h1, h2⟩ := hC args H d
        have hs := ((h2 _).1 hR.1).1
        exact hR.2 (fun _ u => ∀ p ∈ u, okKey wr H d p.1) ((h2 _).2 ⟨hs, h1 hs⟩)
      body := fun _ _ _ _ => hB }
  T := T κ
  hT := by
    subst hκ
    intro args H d K
    obtain ⟨s, R, h0, h1, h2⟩ := hC args H d
    apply propext
    constructor
    · intro hK
      have hs := ((h2 K).1 hK).1
      have ht : T kid args H d fun _ _ => True := (h2 _).2 ⟨hs, fun _ _ _ => trivial⟩
      exact ⟨ht, fun v u hR => hR.2 K hK⟩
    · rintro ⟨hs, hall⟩
      have hs' := ((h2 _).1 hs).1
      exact (h2 K).2 ⟨hs', fun v u hR => hall v u ⟨hs, fun K' hK' => ((h2 K').1 hK').2 v u hR⟩⟩

/-! ### Rows of like things -/
section
variable {X : Type} {f : X → List C} {z : Nat}
theorem enc_len (hz : ∀ x, (f x).length = z) : ∀ l : List X, (l.flatMap f).length = l.length * z
  | [] => by simp
  | x :: r => by rw [List.flatMap_cons, List.length_append, hz, enc_len hz r, List.length_cons, Nat.add_mul]; omega
theorem enc_get (hz : ∀ x, (f x).length = z) : ∀ (l : List X) (i : Nat) (x : X) (o : Nat), l[i]? = some x → o < z → (l.flatMap f)[i * z + o]? = (f x)[o]?
  | [], i, x, o, h, _ => by simp at h
  | y :: r, 0, x, o, h, ho => by
    simp at h
    subst h
    rw [List.flatMap_cons, Nat.zero_mul, Nat.zero_add, List.getElem?_append_left (by rw [hz]; exact ho)]
  | y :: r, i + 1, x, o, h, ho => by
    rw [List.flatMap_cons, List.getElem?_append_right (by rw [hz, Nat.add_mul]; omega), hz, show (i + 1) * z + o - z = i * z + o by rw [Nat.add_mul]; omega]
    exact enc_get hz r i x o (by simpa using h) ho
theorem enc_take (hz : ∀ x, (f x).length = z) (h0 : 0 < z) (l : List X) (i : Nat) (x : X) (h : l[i]? = some x) : takeN (l.flatMap f) (i * z) z = some (f x) := by
  have hi : i < l.length := (List.getElem?_eq_some_iff.1 h).1
  have hl := enc_len hz l
  have hle : i * z + z ≤ (l.flatMap f).length := by rw [hl]; have := Nat.mul_le_mul_right z (show i + 1 ≤ l.length from hi); rw [Nat.add_mul] at this; omega
  unfold takeN
  rw [if_pos ⟨h0, hle⟩]
  congr 1
  apply List.ext_getElem?
  intro j
  rw [getElem?_drop_take]
  split
  · rename_i hj; exact enc_get hz l i x j h hj
  · rename_i hj; exact (List.getElem?_eq_none (by rw [hz]; omega)).symm
theorem enc_put (hz : ∀ x, (f x).length = z) (l : List X) (i : Nat) (x x' : X) (o : Nat) (c : C) (h : l[i]? = some x) (ho : o < z) (hx : f x' = (f x).set o c) : putCells (l.flatMap f) (i * z + o) [c] = (l.set i x').flatMap f := by
  have hi : i < l.length := (List.getElem?_eq_some_iff.1 h).1
  show (l.flatMap f).set (i * z + o) c = _
  revert i
  induction l with
  | nil => intro i h hi; simp at hi
  | cons y r ih =>
    intro i h hi
    cases i with
    | zero =>
      simp at h
      subst h
      rw [List.set_cons_zero, List.flatMap_cons, List.flatMap_cons, Nat.zero_mul, Nat.zero_add, List.set_append_left _ _ (by rw [hz]; exact ho), hx]
    | succ i =>
      rw [List.set_cons_succ, List.flatMap_cons, List.flatMap_cons, List.set_append_right _ _ (by rw [hz, Nat.add_mul]; omega), hz, show (i + 1) * z + o - z = i * z + o by rw [Nat.add_mul]; omega]
      rw [ih i (by simpa using h) (by simpa using hi)]
theorem enc_ok1 (h1 : ∀ x, ok1 (f x) = true) : ∀ l : List X, ok1 (l.flatMap f) = true
  | [] => rfl
  | x :: r => by
    rw [List.flatMap_cons]
    have a := h1 x
    have b := enc_ok1 h1 r
    unfold ok1 at *
    rw [List.all_append, a, b]
    rfl
theorem enc_inj (hz : ∀ x, (f x).length = z) (h0 : 0 < z) (hf : ∀ x y, f x = f y → x = y) : ∀ l l' : List X, l.flatMap f = l'.flatMap f → l = l'
  | [], [], _ => rfl
  | [], y :: r, h => by
    have := congrArg List.length h
    rw [List.flatMap_cons, List.length_append, hz] at this
    simp at this
    omega
  | x :: r, [], h => by
    have := congrArg List.length h
    rw [List.flatMap_cons, List.length_append, hz] at this
    simp at this
    omega
  | x :: r, y :: s, h => by
    rw [List.flatMap_cons, List.flatMap_cons] at h
    obtain ⟨h1, h2⟩ := List.append_inj h (by rw [hz, hz])
    rw [hf x y h1, enc_inj hz h0 hf r s h2]
end
end Go.Proofs.Ytjlgeoaomegbmaa.Eng
