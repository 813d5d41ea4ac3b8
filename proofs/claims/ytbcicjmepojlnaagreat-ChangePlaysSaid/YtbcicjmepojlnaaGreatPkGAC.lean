/- Texts of this work, laid together: symbolic execution over the model, contracts of the program's functions, what they come to; conditions: as each says. -/
import Derived.Laws.StructEq
import Derived.Test.YtbcicjmepojlnaaGreatPkGAB
/- Each operation does what its predicate says: numbers, addresses, structs; no condition. -/
namespace Go.Proofs.YtbcicjmepojlnaaGreat.Eng
open Go Go.RowKit
set_option autoImplicit false
set_option linter.unusedSimpArgs false
set_option linter.unusedVariables false
variable {P : Program} {F : TT} {n : Nat} {env : Env} {a : Act} {w w0 : World} {M : Nat → Prop} {H : Heap} {K : KT} {d : Nat}
theorem eqGuard_int (op : BinOp) (t : TypeId) (x y : Operand) (k : IntKind) (i : Int) (v : Value) : (eqGuard op t x y (.int k i) v) = pure () := by cases op <;> rfl
theorem eqGuard_bool (op : BinOp) (t : TypeId) (x y : Operand) (b : Bool) (v : Value) : (eqGuard op t x y (.bool b) v) = pure () := by cases op <;> rfl
theorem eqGuard_slice (op : BinOp) (t : TypeId) (x y : Operand) (A : Option Addr) (i j : Nat) (v : Value) : (eqGuard op t x y (.slice A i j) v) = pure () := by cases op <;> rfl
theorem eqGuard_ptr (op : BinOp) (t : TypeId) (x y : Operand) (A : Option Addr) (v : Value) : (eqGuard op t x y (.pointer A) v) = pure () := by cases op <;> rfl
theorem eqIn_ptr (d : Nat) (t e : TypeId) (p : Addr) (hu : P.underlying t = some (.pointer e)) (w : World) : (Op.equalIn (d + 1) t (.pointer (some p)) (.pointer none)).run P w = .ok false w := by
  simp [Op.equalIn, run_underlying hu]
theorem eq_ptr (t e : TypeId) (p : Addr) (hu : P.underlying t = some (.pointer e)) (w : World) : (Op.equal t (.pointer (some p)) (.pointer none)).run P w = .ok false w :=
  eqIn_ptr 9999 t e p hu w
theorem bin_int (op : BinOp) (t : TypeId) (k : IntKind) (x y : Int) (v : Value) (h : intOp op k x y = some v) (w : World) : (binOp op t (.int k x) (.int k y)).run P w = .ok v w := by
  cases op <;> simp only [intOp, Option.some.injEq, reduceCtorEq] at h <;> subst h <;> simp [binOp, Op.intArith, Op.intCmp] <;> rfl
theorem eqIn_bool (t : TypeId) (i j : Bool) (hu : P.underlying t = some .bool) (w : World) : (Op.equal t (.bool i) (.bool j)).run P w = .ok (i == j) w :=
  run_equalIn_bool' w 9999 t i j hu
theorem eqIn_slice (d : Nat) (t e : TypeId) (A : Option Addr) (i j : Nat) (hu : P.underlying t = some (.slice e)) (w : World) : (Op.equalIn (d + 1) t (.slice A i j) (.slice none 0 0)).run P w = .ok A.isNone w := by
  cases A <;> simp [Op.equalIn, run_underlying hu]
theorem eq_slice (t e : TypeId) (A : Option Addr) (i j : Nat) (hu : P.underlying t = some (.slice e)) (w : World) : (Op.equal t (.slice A i j) (.slice none 0 0)).run P w = .ok A.isNone w :=
  eqIn_slice 9999 t e A i j hu w
theorem bin_eql {t : TypeId} {x y : Value} {b : Bool} (h : (Op.equal t x y).run P w = .ok b w) (hx : binOp .eql t x y = (do pure (.bool (← Op.equal t x y)))) : (binOp .eql t x y).run P w = .ok (.bool b) w := by
  rw [hx, Sem.run_bind, h]; rfl
theorem bin_neq {t : TypeId} {x y : Value} {b : Bool} (h : (Op.equal t x y).run P w = .ok b w) (hx : binOp .neq t x y = (do pure (.bool (!(← Op.equal t x y))))) : (binOp .neq t x y).run P w = .ok (.bool !b) w := by
  rw [hx, Sem.run_bind, h]; rfl
theorem bin_sound (hF : TTok P F) {o : Oper} {Q : Exit → Act → World → Prop} (hE : EnvOk n env a) (hH : HSat w0 M H w) (op : BinOp) (t t' : TypeId) (x y : Operand) (ho : o.op = .binOp op t x y t')
    (h : binT F op t (ev env x) (ev env y) K) : o.wp P a w (Post o.dst a w0 M H K) Q := by
  have hexec : execOp a.eval o = (do eqGuard op t x y (a.eval x) (a.eval y); let r ← binOp op t (a.eval x) (a.eval y); pure (.value r) : Sem Next) := by
    unfold execOp; rw [ho]; simp
  unfold binT at h
  split at h
  · rename_i k i k' j hx hy
    have ex := eval_v hE hx
    have ey := eval_v hE hy
    have step : ∀ v, (binOp op t (.int k i) (.int k' j)).run P w = .ok v w → (execOp a.eval o).run P w = .ok (.value v) w := by
      intro v hv
      rw [hexec, ex, ey, eqGuard_int]
      simp [hv]
    split at h
    · obtain ⟨⟨h0, h1⟩, hK⟩ := h
      refine wp_pure hH _ _ hK (fun _ => rfl) (step (.int k _) ?_)
      have h2 : min j.toNat k.bits = j.toNat := Nat.min_eq_left (by omega)
      have h3 : ¬ j < 0 := by omega
      simp [binOp, Op.shift, h3, h2]
    · obtain ⟨rfl, h0, hK⟩ := h
      exact wp_pure hH _ _ hK (fun _ => rfl) (step (.int k _) (by simp [binOp, Op.intDiv, h0]))
    · obtain ⟨rfl, h0, hK⟩ := h
      exact wp_pure hH _ _ hK (fun _ => rfl) (step (.int k _) (by simp [binOp, Op.intDiv, h0]))
    · obtain ⟨rfl, h⟩ := h
      split at h
      · rename_i v hv
        exact wp_pure hH _ _ h (fun _ => rfl) (step _ (bin_int op t k i j v hv w))
      · exact h.elim
  · rename_i i b off hx hy
    obtain ⟨hu, h⟩ := h
    obtain ⟨e, hu⟩ := hF.ptr_ hu
    have ex := eval_c hE hx (by simp)
    have ey := eval_v hE hy
    split at h
    · refine wp_pure hH _ _ h (fun _ => rfl) ?_
      rw [hexec, ex, ey]
      simp only [C.den, eqGuard_ptr]
      simp only [pure_bind, Sem.run_bind, bin_eql (eq_ptr t e _ hu w) rfl, Result.andThen_ok, Sem.run_pure]
      rfl
    · refine wp_pure hH _ _ h (fun _ => rfl) ?_
      rw [hexec, ex, ey]
      simp only [C.den, eqGuard_ptr]
      simp only [pure_bind, Sem.run_bind, bin_neq (eq_ptr t e _ hu w) rfl, Result.andThen_ok, Sem.run_pure]
      rfl
    · exact h.elim
  · rename_i i j hx hy
    obtain ⟨hu, h⟩ := h
    have hu := hF.bool_ hu
    have ex := eval_v hE hx
    have ey := eval_v hE hy
    split at h
    · refine wp_pure hH _ _ h (fun _ => rfl) ?_
      rw [hexec, ex, ey, eqGuard_bool]
      simp only [pure_bind, Sem.run_bind, bin_eql (eqIn_bool t i j hu w) rfl, Result.andThen_ok, Sem.run_pure]
      rfl
    · refine wp_pure hH _ _ h (fun _ => rfl) ?_
      rw [hexec, ex, ey, eqGuard_bool]
      simp only [pure_bind, Sem.run_bind, bin_neq (eqIn_bool t i j hu w) rfl, Result.andThen_ok, Sem.run_pure]
      rfl
    · exact h.elim
  · rename_i xs ys hx hy
    have ex := eval_agg hE hx
    have ey := eval_agg hE hy
    split at h
    · split at h
      case h_2 => exact h.elim
      rename_i ks hks
      split at h
      case h_2 => exact h.elim
      rename_i r hr0
      obtain ⟨hm, hr⟩ := hF.eq_ hks xs ys r hr0
      refine wp_pure hH _ _ h (fun _ => rfl) ?_
      rw [hexec, ex, ey]
      simp only [Sem.run_bind, run_eqGuard_agg w .eql t x y _ _ hm, Result.andThen_ok, run_eql_struct, hr w, Sem.run_pure]
      rfl
    · split at h
      case h_2 => exact h.elim
      rename_i ks hks
      split at h
      case h_2 => exact h.elim
      rename_i r hr0
      obtain ⟨hm, hr⟩ := hF.eq_ hks xs ys r hr0
      refine wp_pure hH _ _ h (fun _ => rfl) ?_
      rw [hexec, ex, ey]
      simp only [Sem.run_bind, run_eqGuard_agg w .neq t x y _ _ hm, Result.andThen_ok, run_neq_struct, hr w, Sem.run_pure]
      rfl
    · exact h.elim
  · rename_i id A m c i hx hy
    obtain ⟨_, h⟩ := h
    split at h
    case h_1 => exact h.elim
    rename_i r0 hl0
    have hu := slT_under (hF.sl_ hl0)
    generalize r0.1 = e at hu
    have ex := eval_c hE hx (by simp)
    have ey := eval_c hE hy (by simp)
    split at h
    · refine wp_pure hH _ _ h (fun _ => rfl) ?_
      rw [hexec, ex, ey]
      simp only [C.den, eqGuard_slice]
      simp only [pure_bind, Sem.run_bind, bin_eql (eq_slice t e A m c hu w) rfl, Result.andThen_ok, Sem.run_pure]
      rfl
    · refine wp_pure hH _ _ h (fun _ => rfl) ?_
      rw [hexec, ex, ey]
      simp only [C.den, eqGuard_slice]
      simp only [pure_bind, Sem.run_bind, bin_neq (eq_slice t e A m c hu w) rfl, Result.andThen_ok, Sem.run_pure]
      rfl
    · exact h.elim
  · exact h.elim
theorem field_sound (hF : TTok P F) {o : Oper} {Q : Exit → Act → World → Prop} (hE : EnvOk n env a) (hH : HSat w0 M H w) (t : TypeId) (x : Operand) (f : Nat) (ho : o.op = .fieldAddr t x f)
    (h : match fieldF F t f, ev env x with
      | some o, .c (.loc i b off) => K (.c (.loc i b (off + o))) []
      | some o, .c (.el i A k) => K (.c (.el i A (k + o))) []
      | _, _ => False) : o.wp P a w (Post o.dst a w0 M H K) Q := by
  have key : ∀ off, fieldT P t f = some off → ∀ p, a.eval x = .pointer (some p) → (execOp a.eval o).run P w = .ok (.value (.pointer (some (p.add off)))) w := by
    intro off hf p hx
    unfold fieldT at hf
    split at hf
    · rename_i fs hu
      split at hf
      · rename_i fd hfd
        split at hf
        · rename_i i hi
          split at hf
          · cases hf
          · rename_i hz
            injection hf with hf
            subst hf
            unfold execOp
            simp [ho, hx, Instr.fieldAt, Instr.sureAddr, run_underlying hu, hfd, fieldPlace, sizeOf, typeInfo, hi, hz]
        · cases hf
      · cases hf
    · cases hf
  split at h
  · rename_i off i b off' hf hx
    exact wp_pure hH _ _ h (fun _ => by show _ = Value.pointer _; rw [← add_loc]) (key off (hF.fi_ hf) _ (eval_c hE hx (by simp)))
  · rename_i off i A k hf hx
    exact wp_pure hH _ _ h (fun _ => by show _ = Value.pointer _; rw [← add_add]) (key off (hF.fi_ hf) _ (eval_c hE hx (by simp)))
  · exact h.elim
theorem index_sound (hF : TTok P F) {o : Oper} {Q : Exit → Act → World → Prop} (hE : EnvOk n env a) (hH : HSat w0 M H w) (t : TypeId) (x y : Operand) (ho : o.op = .indexAddr t x y) (ids : List Nat)
    (h : indexT F t (ev env x) (ev env y) (restrict H ids) K) : o.wp P a w (Post o.dst a w0 M H K) Q := by
  unfold indexT at h
  split at h
  · rename_i id b off k i hx hy
    have ex := eval_c hE hx (by simp)
    have ey := eval_v hE hy
    split at h
    · rename_i m sz hu
      have hu := hF.ar_ hu
      obtain ⟨h0, h1, hK⟩ := h
      unfold arrT at hu
      split at hu
      · rename_i len e hd
        obtain ⟨inf, hi, hms⟩ := Option.map_eq_some_iff.1 hu
        injection hms with hm hs
        subst hm hs
        refine wp_pure hH _ _ hK (fun _ => rfl) ?_
        unfold execOp
        simp [ho, ex, ey, C.den, SV.den, Instr.indexAt, asIntOf, run_underlying hd, Instr.sureAddr, h0, h1, sizeOf, typeInfo, hi, add_loc]
      · cases hu
    · exact h.elim
  · rename_i id A m c k i hx hy
    have ex := eval_c hE hx (by simp)
    have ey := eval_v hE hy
    split at h
    · rename_i e sz bytes zs hu
      have hu := hF.sl_ hu
      obtain ⟨hsz, h0, h1, h⟩ := h
      unfold slT at hu
      split at hu
      · rename_i e' hd
        split at hu
        · rename_i inf hi
          obtain ⟨z, hz, hms⟩ := Option.map_eq_some_iff.1 hu
          injection hms with he hms
          injection hms with hs hms
          injection hms with hb hz'
          subst he hs
          have main : A.isSome = true → K (.c (.el id A (i.toNat * inf.size))) [] → o.wp P a w (Post o.dst a w0 M H K) Q := by
            intro hA hK
            obtain ⟨p, rfl⟩ := Option.isSome_iff_exists.1 hA
            refine wp_pure hH _ _ hK (fun _ => rfl) ?_
            unfold execOp
            simp [ho, ex, ey, C.den, SV.den, Instr.indexAt, asIntOf, run_underlying hd, Instr.sureAddr, h0, h1, sizeOf, typeInfo, hi, Option.getD]
          have hmpos : 0 < m := by omega
          split at h
          · rename_i A' sz' n' xs hHid
            obtain ⟨rfl, rfl, rfl, hK⟩ := h
            obtain ⟨hl, hne⟩ := hH.holds _ _ (restrict_some hHid)
            have : 0 < xs.length := by rw [hl]; exact Nat.mul_pos hmpos hsz
            obtain ⟨p, hp, _⟩ := hne (by intro e; subst e; simp at this)
            exact main (by rw [hp]; rfl) hK
          · rename_i A' c' t' sz' n' xs hHid
            obtain ⟨rfl, rfl, rfl, hK⟩ := h
            obtain ⟨hl, hmc, hrow⟩ := hH.holds _ _ (restrict_some hHid)
            obtain ⟨g, cur, hp, _⟩ := hrow (by omega)
            exact main (by rw [hp]; rfl) hK
          · exact h.elim
        · cases hu
      · cases hu
    · exact h.elim
  · exact h.elim
theorem part_cells {x : SV} {l : List C} (h : x.cells? = some l) : ∃ y : Value, x.known = true ∧ x.den = y ∧ (ok1 l = true → y.cells = (l.map C.den).toArray) := by
  refine ⟨x.den, ?_, rfl, ?_⟩
  · cases x with
    | c c => cases c <;> first | rfl | cases h
    | agg l => rfl
    | tup l => cases h
  · intro h1
    cases x with
    | c c =>
      cases c with
      | any => cases h
      | v x =>
        injection h with h; subst h
        have : x.oneCell' = true := by simpa [ok1, C.den] using h1
        show x.cells = _
        cases x <;> first | rfl | (simp [Value.oneCell'] at this)
      | loc i b o => injection h with h; subst h; rfl
      | sl i A m c => injection h with h; subst h; rfl
      | el i A k => injection h with h; subst h; rfl
      | fn f i b o => injection h with h; subst h; rfl
    | agg l' => injection h with h; subst h; rfl
    | tup l' => cases h
end Go.Proofs.YtbcicjmepojlnaaGreat.Eng
