/- Texts of this work, laid together: symbolic execution over the model, contracts of the program's functions, what they come to; conditions: as each says. -/
import Derived.Laws.MakeOwn
import Derived.Test.YtbcicjmepojlnaaPkYAE
/- Slicing, calls, and all operations together; no condition. -/
namespace Go.Proofs.Ytbcicjmepojlnaa.Eng
open Go Go.RowKit
set_option autoImplicit false
set_option linter.unusedSimpArgs false
set_option linter.unusedVariables false
variable {P : Program} {F : TT} {n : Nat} {env : Env} {a : Act} {w w0 : World} {M : Nat → Prop} {H : Heap} {K : KT} {d : Nat}
theorem bound_some (hE : EnvOk n env a) (def_ : Nat) (x : Option Operand) (l : Int) (h : boundT def_ (x.map (ev env)) = some l) :
    (x = none ∧ l = def_) ∨ ∃ y k, x = some y ∧ a.eval y = .int k l := by
  cases x with
  | none => simp only [Option.map_none, boundT, Option.some.injEq] at h; exact .inl ⟨rfl, h.symm⟩
  | some y =>
    simp only [Option.map_some, boundT] at h
    split at h
    · rename_i hh; cases hh
    · rename_i k i hx
      injection h with h
      subst h
      injection hx with hx
      exact .inr ⟨y, k, rfl, eval_v hE hx⟩
    · cases h
theorem slice_bounds (w : World) (m cap : Nat) (lo hi : Option Operand) (l h : Int) (hl : (lo = none ∧ l = 0) ∨ ∃ y k, lo = some y ∧ a.eval y = .int k l) (hh : (hi = none ∧ h = m) ∨ ∃ y k, hi = some y ∧ a.eval y = .int k h)
    (h0 : 0 ≤ l) (h1 : l ≤ h) (h2 : h ≤ m) (h3 : m ≤ cap) : (Instr.sliceBounds true m cap (lo.map a.eval) (hi.map a.eval) none).run P w = .ok (l.toNat, h.toNat, cap) w := by
  have c1 : h ≤ (cap : Int) := by omega
  have c2 : 0 ≤ h := by omega
  have c3 : l ≤ (h.toNat : Int) := by omega
  rcases hl with ⟨rfl, rfl⟩ | ⟨y, k, rfl, hy⟩ <;> rcases hh with ⟨rfl, rfl⟩ | ⟨y', k', rfl, hy'⟩
  · simp [Instr.sliceBounds]
  · simp [Instr.sliceBounds, Instr.sliceBound, hy', asIntOf, c1, c2]
  · have c4 : l ≤ (m : Int) := by omega
    simp [Instr.sliceBounds, Instr.sliceBound, hy, asIntOf, h0, c4]
  · have c5 : ¬ (max h 0 < l) := by omega
    simp [Instr.sliceBounds, Instr.sliceBound, hy, hy', asIntOf, h0, c1, c2]
    intro hlt; exact absurd hlt c5
theorem slice_sound (hF : TTok P F) {o : Oper} {Q : Exit → Act → World → Prop} (hE : EnvOk n env a) (hH : HSat w0 M H w) (t : TypeId) (x : Operand) (lo hi mx : Option Operand) (ho : o.op = .slice t x lo hi mx) (ids : List Nat)
    (h : sliceT F t (ev env x) (lo.map (ev env)) (hi.map (ev env)) (mx.map (ev env)) (restrict H ids) d K) : o.wp P a w (Post o.dst a w0 M H K) Q := by
  unfold sliceT at h
  split at h
  · rename_i e sz bytes zs id A m c l hu hx hl
    have hl' := bound_some (a := a) hE 0 lo l hl
    split at h
    · rename_i hh' hb hmx
      obtain rfl : mx = none := by cases mx <;> first | rfl | cases hmx
      have hh'' := bound_some (a := a) hE m hi hh' hb
      obtain ⟨h0, h1, h2, h⟩ := h
      have ex := eval_c hE hx (by simp)
      simp only [C.den] at ex
      have hu := hF.sl_ hu
      unfold slT at hu
      split at hu
      · rename_i e' hd
        split at hu
        · rename_i inf hi'
          obtain ⟨z, hz, hms⟩ := Option.map_eq_some_iff.1 hu
          injection hms with he hms
          injection hms with hs hms
          subst he hs
          have hrun : m ≤ c → (execOp a.eval o).run P w = .ok (.value (.slice (if c = l.toNat then A else A.map (·.add (l.toNat * inf.size))) (hh'.toNat - l.toNat) (c - l.toNat))) w := by
            intro hmc
            have hsb := slice_bounds (P := P) (a := a) w m c lo hi l hh' (by simpa using hl') hh'' h0 h1 h2 hmc
            unfold execOp
            simp only [ho, ex, Instr.sliceAt, Sem.run_bind, run_underlying hd, Result.andThen_ok, Instr.slice, Option.map_none, hsb, sizeOf, typeInfo, run_program, hi', Sem.run_pure]
          split at h
          · rename_i A' sz' n' xs hHid
            obtain ⟨rfl, rfl, rfl, hmc, hK⟩ := h
            have hold := hH.holds _ _ (restrict_some hHid)
            refine wp_made (w' := w) _ _ _ (fun _ => rfl) hK ?_ (hrun hmc)
            have hle : (hh'.toNat - l.toNat) * inf.size ≤ (m - l.toNat) * inf.size := Nat.mul_le_mul_right _ (by omega)
            have hlen : ((xs.drop (l.toNat * inf.size)).take ((hh'.toNat - l.toNat) * inf.size)).length = (hh'.toNat - l.toNat) * inf.size := by
              have := hold.1
              rw [List.length_take, List.length_drop, this, ← Nat.sub_mul]
              exact Nat.min_eq_left hle
            have hnone : ∀ p q : Addr, A = some q → (if c = l.toNat then A else A.map (·.add (l.toNat * inf.size))) = some p → p.block = q.block := by
              intro p q hq hp
              subst hq
              split at hp
              · injection hp with hp; rw [hp]
              · simp only [Option.map_some, Option.some.injEq] at hp; rw [← hp, add_block]
            have := hH.part id d _ (.rd (if c = l.toNat then A else A.map (·.add (l.toNat * inf.size))) inf.size (hh'.toNat - l.toNat) ((xs.drop (l.toNat * inf.size)).take ((hh'.toNat - l.toNat) * inf.size))) (restrict_some hHid) rfl ?_ rfl ?_
            · simpa [upds] using this
            · refine ⟨hlen, fun hne => ?_⟩
              have hxs : xs ≠ [] := by intro e; subst e; simp at hne
              obtain ⟨p, rfl, hpl, hc⟩ := hold.2 hxs
              have hpos : 0 < (hh'.toNat - l.toNat) * inf.size := by rw [← hlen]; exact List.length_pos_iff.2 hne
              have hcl : c ≠ l.toNat := by
                intro e
                have : hh'.toNat - l.toNat = 0 := by omega
                rw [this] at hpos; omega
              refine ⟨p.add (l.toNat * inf.size), by rw [if_neg hcl]; rfl, by rw [add_block]; exact hpl, fun j u hu => ?_⟩
              rw [add_add]
              refine hc _ u ?_
              rw [List.getElem?_map, getElem?_drop_take] at hu
              split at hu
              · rw [List.getElem?_map]; exact hu
              · cases hu
            · intro g hg
              simp only [Ent.block] at hg ⊢
              split at hg
              · cases hg
              · rename_i hne
                have hxs : xs ≠ [] := by intro e; subst e; simp at hne
                rw [if_neg hxs]
                obtain ⟨p, hp, _⟩ := hold.2 hxs
                obtain ⟨q, hq, rfl⟩ := Option.map_eq_some_iff.1 hg
                rw [hp, Option.map_some, hnone q p hp hq]
          · rename_i A' c' e'' sz' n' xs hHid
            obtain ⟨rfl, rfl, rfl, rfl, rfl, hK⟩ := h
            have hold := hH.holds _ _ (restrict_some hHid)
            have hr := hrun hold.2.1
            have e0 : (0 : Int).toNat = 0 := rfl
            rw [e0, Nat.zero_mul, Nat.sub_zero, Nat.sub_zero] at hr
            have hA : A.map (·.add 0) = A := by cases A <;> simp [Addr.add]
            rw [hA, ite_self] at hr
            refine wp_made (w' := w) _ _ _ (fun _ => rfl) hK ?_ hr
            have hle : hh'.toNat * inf.size ≤ m * inf.size := Nat.mul_le_mul_right _ (by omega)
            have := hH.retell id d _ (.row A c e'' inf.size hh'.toNat (xs.take (hh'.toNat * inf.size))) (restrict_some hHid) ?_ (fun _ => rfl) (fun g hg => hg)
            · simpa [upds] using this
            · refine ⟨by rw [List.length_take, hold.1]; exact Nat.min_eq_left hle, by have := hold.2.1; omega, fun hc => ?_⟩
              obtain ⟨g, cur, hA', hg, hcm, hcs, ht⟩ := hold.2.2 hc
              refine ⟨g, cur, hA', hg, hcm, hcs, ?_⟩
              rw [List.map_take, ← ht, List.take_take, Nat.min_eq_left hle]
          · exact h.elim
        · cases hu
      · cases hu
    · exact h.elim
  · exact h.elim
def Bodied (P : Program) (f : FuncId) : Prop := ∃ fn c, P.funcs[f]? = some fn ∧ fn.body = some c ∧ (fn.name == "runtime.NumGoroutine") = false
structure SpecOk (P : Program) (f : FuncId) (wr : Bool) (S : Spec) : Prop where
  run : ∀ (args : List SV) (H0 H : Heap) (d : Nat) (w0 : World) (M : Nat → Prop) (w : World), (S args H0 d).side → (∀ i e, H0 i = some e → H i = some e) → HSat w0 M H w →
    Calls P f (args.map SV.den).toArray w fun e w' => ∃ v u x, e = .returned x ∧ (S args H0 d).R v u ∧ (v.known = true → x = v.den) ∧ HSat w0 M (upds H u) w'
  some_ : ∀ args H d, (S args H d).side → ∃ v u, (S args H d).R v u
  keys : ∀ args H d v u, (S args H d).R v u → ∀ p ∈ u, p.1 = d ∨ p.1 = d + 100000 ∨ p.1 = d + 200000 ∨ (wr = true ∧ (H p.1).isSome = true)
  body : ∀ args H d, (S args H d).side → Bodied P f
structure Ctx (P : Program) where
  F : TT
  Fok : TTok P F
  Γ : FuncId → Spec
  wr : FuncId → Bool
  ok : ∀ f, SpecOk P f (wr f) (Γ f)
theorem callFunc_run (f : FuncId) (fn : Func) (c : Code) (hf : P.funcs[f]? = some fn) (hb : fn.body = some c) (hn : (fn.name == "runtime.NumGoroutine") = false) (args : Array Value) (w : World) :
    (callFunc f args).run P w = .ok (.enter f args) w := by
  simp only [callFunc, Sem.run_bind, run_program, Result.andThen_ok, hf, hn, hb, Bool.false_eq_true, if_false]
  rfl
theorem args_eval (hE : EnvOk n env a) : ∀ (l : List Operand), (l.map (ev env)).all SV.known = true → l.map a.eval = (l.map (ev env)).map SV.den
  | [], _ => rfl
  | x :: r, h => by
    simp only [List.map_cons, List.all_cons, Bool.and_eq_true] at h ⊢
    rw [eval_ev hE x h.1, args_eval hE r h.2]
theorem fold_sound (f : Int → Int → Int) (l : List SV) (k : IntKind) (i : Int) (h : foldT f l = some (k, i)) :
    (l = [.c (.v (.int k i))]) ∨ ∃ x y, l = [.c (.v (.int k x)), .c (.v (.int k y))] ∧ i = f x y := by
  unfold foldT at h
  split at h
  · injection h with h; injection h with h1 h2; subst h1 h2; exact .inl rfl
  · split at h
    · rename_i k1 a1 k2 b1 hk
      subst hk
      injection h with h; injection h with h1 h2; subst h1 h2; exact .inr ⟨_, _, rfl, rfl⟩
    · cases h
  · cases h
theorem map_one {α β : Type} {f : α → β} {l : List α} {s : β} (h : l.map f = [s]) : ∃ x, l = [x] ∧ f x = s := by
  cases l with
  | nil => cases h
  | cons x r =>
    cases r with
    | nil => exact ⟨x, rfl, by simpa using h⟩
    | cons _ _ => simp at h
theorem map_two {α β : Type} {f : α → β} {l : List α} {s t : β} (h : l.map f = [s, t]) : ∃ x y, l = [x, y] ∧ f x = s ∧ f y = t := by
  cases l with
  | nil => cases h
  | cons x r =>
    simp only [List.map_cons, List.cons.injEq] at h
    obtain ⟨y, rfl, hy⟩ := map_one h.2
    exact ⟨x, y, rfl, h.1, hy⟩
theorem len_sound (hF : TTok P F) {o : Oper} {Q : Exit → Act → World → Prop} (hE : EnvOk n env a) (hH : HSat w0 M H w) (args : List Operand) (ts : Array TypeId) (ho : o.op = .call { callee := .builtin .len, args := args.toArray, argTypes := ts })
    (h : match args.map (ev env) with
    | [.c (.sl _ _ n _)] => ((ts[0]?).bind (look F.sl)).isSome = true ∧ K (.c (.v (.int .i64 n))) []
    | _ => False) : o.wp P a w (Post o.dst a w0 M H K) Q := by
  split at h
  · rename_i id A m c hx
    obtain ⟨hl, hK⟩ := h
    obtain ⟨r0, hr0⟩ := Option.isSome_iff_exists.1 hl
    obtain ⟨t, hts, ht⟩ := Option.bind_eq_some_iff.1 hr0
    have hu := slT_under (hF.sl_ ht)
    generalize r0.1 = e at hu
    · obtain ⟨x, rfl, hx1⟩ := map_one hx
      have ex := eval_c hE hx1 (by simp)
      refine wp_pure hH _ _ hK (fun _ => rfl) ?_
      unfold execOp
      simp [ho, resolve, invoke, builtin, ex, C.den, SV.den, Builtin.len_, hts, run_underlying hu, goInt]
  · exact h.elim
theorem cap_sound (hF : TTok P F) {o : Oper} {Q : Exit → Act → World → Prop} (hE : EnvOk n env a) (hH : HSat w0 M H w) (args : List Operand) (ts : Array TypeId) (ho : o.op = .call { callee := .builtin .cap, args := args.toArray, argTypes := ts })
    (h : match args.map (ev env) with
    | [.c (.sl _ _ _ c)] => ((ts[0]?).bind (look F.sl)).isSome = true ∧ K (.c (.v (.int .i64 c))) []
    | _ => False) : o.wp P a w (Post o.dst a w0 M H K) Q := by
  split at h
  · rename_i id A m c hx
    obtain ⟨hl, hK⟩ := h
    obtain ⟨r0, hr0⟩ := Option.isSome_iff_exists.1 hl
    obtain ⟨t, hts, ht⟩ := Option.bind_eq_some_iff.1 hr0
    have hu := slT_under (hF.sl_ ht)
    generalize r0.1 = e at hu
    · obtain ⟨x, rfl, hx1⟩ := map_one hx
      have ex := eval_c hE hx1 (by simp)
      refine wp_pure hH _ _ hK (fun _ => rfl) ?_
      unfold execOp
      simp [ho, resolve, invoke, builtin, ex, C.den, SV.den, Builtin.cap_, hts, run_underlying hu, goInt]
  · exact h.elim
theorem max_sound {o : Oper} {Q : Exit → Act → World → Prop} (hE : EnvOk n env a) (hH : HSat w0 M H w) (args : List Operand) (ts : Array TypeId) (ho : o.op = .call { callee := .builtin .max, args := args.toArray, argTypes := ts })
    (h : match foldT (fun a b => if b > a then b else a) (args.map (ev env)) with
    | some (k, a) => K (.c (.v (.int k a))) []
    | none => False) : o.wp P a w (Post o.dst a w0 M H K) Q := by
  split at h
  · rename_i k i hf
    rcases fold_sound _ _ _ _ hf with hx | ⟨x, y, hx, rfl⟩
    · obtain ⟨x, rfl, hx1⟩ := map_one hx
      · have ex := eval_v hE hx1
        refine wp_pure hH _ _ h (fun _ => rfl) ?_
        unfold execOp
        simp [ho, resolve, invoke, builtin, ex, C.den, SV.den, Builtin.max_]
    · obtain ⟨x1, y1, rfl, hx1, hy1⟩ := map_two hx
      · have ex := eval_v hE hx1
        have ey := eval_v hE hy1
        refine wp_pure hH _ _ h (fun _ => rfl) ?_
        unfold execOp
        simp [ho, resolve, invoke, builtin, ex, ey, C.den, SV.den, Builtin.max_, Builtin.max2]
  · exact h.elim
theorem min_sound {o : Oper} {Q : Exit → Act → World → Prop} (hE : EnvOk n env a) (hH : HSat w0 M H w) (args : List Operand) (ts : Array TypeId) (ho : o.op = .call { callee := .builtin .min, args := args.toArray, argTypes := ts })
    (h : match foldT (fun a b => if b < a then b else a) (args.map (ev env)) with
    | some (k, a) => K (.c (.v (.int k a))) []
    | none => False) : o.wp P a w (Post o.dst a w0 M H K) Q := by
  split at h
  · rename_i k i hf
    rcases fold_sound _ _ _ _ hf with hx | ⟨x, y, hx, rfl⟩
    · obtain ⟨x, rfl, hx1⟩ := map_one hx
      · have ex := eval_v hE hx1
        refine wp_pure hH _ _ h (fun _ => rfl) ?_
        unfold execOp
        simp [ho, resolve, invoke, builtin, ex, C.den, SV.den, Builtin.min_]
    · obtain ⟨x1, y1, rfl, hx1, hy1⟩ := map_two hx
      · have ex := eval_v hE hx1
        have ey := eval_v hE hy1
        refine wp_pure hH _ _ h (fun _ => rfl) ?_
        unfold execOp
        simp [ho, resolve, invoke, builtin, ex, ey, C.den, SV.den, Builtin.min_, Builtin.min2]
  · exact h.elim
theorem func_sound (X : Ctx P) {o : Oper} {Q : Exit → Act → World → Prop} (hE : EnvOk n env a) (hH : HSat w0 M H w) (f : FuncId) (args : List Operand) (ts : Array TypeId)
    (ho : o.op = .call { callee := .value (.func f), args := args.toArray, argTypes := ts }) (ids : List Nat) (hk : (args.map (ev env)).all SV.known = true)
    (hS : (X.Γ f (args.map (ev env)) (restrict H ids) d).side ∧ ∀ v u, (X.Γ f (args.map (ev env)) (restrict H ids) d).R v u → K v u) : o.wp P a w (Post o.dst a w0 M H K) Q := by
  obtain ⟨fn, c, hf, hb, hn⟩ := (X.ok f).body _ _ _ hS.1
  have hc := (X.ok f).run _ _ H d w0 M w hS.1 (fun i e => restrict_some) hH
  unfold Oper.wp
  have hrun : (execOp a.eval o).run P w = .ok (.enter f ((args.map (ev env)).map SV.den).toArray) w := by
    unfold execOp
    have := args_eval (a := a) hE args hk
    simp only [ho, resolve, Act.eval, Deferred.ofValue, Sem.run_bind, Sem.run_pure, Result.andThen_ok, invoke, Array.append_empty]
    rw [show (#[] ++ args.toArray.map a.eval : Array Value) = ((args.map (ev env)).map SV.den).toArray from by
      rw [List.map_toArray, this]; simp]
    exact callFunc_run f fn c hf hb hn _ w
  rw [hrun, Oper.upon_enter]
  refine hc.mono ?_
  rintro e w' ⟨v, u, x, rfl, hR, hx, hH'⟩
  exact ⟨v, u, x, hS.2 v u hR, rfl, hx, hH'⟩
theorem value_sound (X : Ctx P) {o : Oper} {Q : Exit → Act → World → Prop} (hE : EnvOk n env a) (hH : HSat w0 M H w) (t : Nat) (g : FuncId) (i b off : Nat) (ht : ev env (.tmp t) = .c (.fn g i b off)) (args : List Operand) (ts : Array TypeId)
    (ho : o.op = .call { callee := .value (.tmp t), args := args.toArray, argTypes := ts }) (ids : List Nat) (hk : (args.map (ev env)).all SV.known = true)
    (hS : (X.Γ g (args.map (ev env) ++ [.c (.loc i b off)]) (restrict H ids) d).side ∧ ∀ v u, (X.Γ g (args.map (ev env) ++ [.c (.loc i b off)]) (restrict H ids) d).R v u → K v u) : o.wp P a w (Post o.dst a w0 M H K) Q := by
  obtain ⟨fn, c, hf, hb, hn⟩ := (X.ok g).body _ _ _ hS.1
  have hc := (X.ok g).run _ _ H d w0 M w hS.1 (fun i e => restrict_some) hH
  unfold Oper.wp
  have hrun : (execOp a.eval o).run P w = .ok (.enter g ((args.map (ev env) ++ [SV.c (.loc i b off)]).map SV.den).toArray) w := by
    unfold execOp
    have := args_eval (a := a) hE args hk
    have hev := eval_c hE ht (by simp)
    simp only [ho, resolve, hev, C.den, Deferred.ofValue, Sem.run_bind, Sem.run_pure, Result.andThen_ok, invoke]
    rw [show ((#[] ++ args.toArray.map a.eval) ++ #[Value.pointer (some ⟨b, off, none⟩)] : Array Value) = ((args.map (ev env) ++ [SV.c (.loc i b off)]).map SV.den).toArray from by
      rw [List.map_toArray, this]; simp [SV.den, C.den]]
    exact callFunc_run g fn c hf hb hn _ w
  rw [hrun, Oper.upon_enter]
  refine hc.mono ?_
  rintro e w' ⟨v, u, x, rfl, hR, hx, hH'⟩
  exact ⟨v, u, x, hS.2 v u hR, rfl, hx, hH'⟩
theorem call_sound (X : Ctx P) {o : Oper} {Q : Exit → Act → World → Prop} (hE : EnvOk n env a) (hH : HSat w0 M H w) (c : Call) (ho : o.op = .call c) (ids : List Nat)
    (h : callT X.F X.Γ c.callee (calleeV c.callee (ev env)) (c.args.toList.map (ev env)) c.argTypes (restrict H ids) d K) : o.wp P a w (Post o.dst a w0 M H K) Q := by
  obtain ⟨callee, ⟨args⟩, ts⟩ := c
  cases callee with
  | invoke r m => exact h.elim
  | value f =>
    cases f with
    | func f => exact func_sound X hE hH f args ts ho ids h.1 h.2
    | tmp t =>
      simp only [callT, calleeV] at h
      split at h
      · rename_i g i b off hx
        exact value_sound X hE hH t g i b off hx args ts ho ids h.1 h.2
      · exact h.elim
    | const _ => exact h.elim
    | global _ => exact h.elim
  | builtin b =>
    cases b with
    | len => exact len_sound X.Fok hE hH args ts ho h
    | cap => exact cap_sound X.Fok hE hH args ts ho h
    | max => exact max_sound hE hH args ts ho h
    | min => exact min_sound hE hH args ts ho h
    | append =>
      simp only [callT] at h
      split at h
      · rename_i x y hx
        · obtain ⟨x1, y1, rfl, rfl, rfl⟩ := map_two hx
          exact append_sound X.Fok hE hH x1 y1 ts h.1 ho ids h.2
      · exact h.elim
    | _ => exact h.elim
theorem flat_rep (z : List C) : ∀ n : Nat, (List.replicate n z).flatten.length = n * z.length ∧ ∀ k, k < n * z.length → (List.replicate n z).flatten[k]? = z[k % z.length]?
  | 0 => ⟨by simp, fun k h => by omega⟩
  | n + 1 => by
    obtain ⟨h1, h2⟩ := flat_rep z n
    rw [List.replicate_succ, List.flatten_cons]
    refine ⟨by rw [List.length_append, h1, Nat.add_mul]; omega, fun k hk => ?_⟩
    by_cases hz : k < z.length
    · rw [List.getElem?_append_left hz, Nat.mod_eq_of_lt hz]
    · rw [List.getElem?_append_right (by omega), h2 _ (by rw [Nat.add_mul] at hk; omega), ← Nat.mod_eq_sub_mod (by omega)]
theorem make_sound (hF : TTok P F) {o : Oper} {Q : Exit → Act → World → Prop} (hE : EnvOk n env a) (hH : HSat w0 M H w) (t : TypeId) (x y : Operand) (ho : o.op = .makeSlice t x y)
    (h : makeT F t (ev env x) (ev env y) d K) : o.wp P a w (Post o.dst a w0 M H K) Q := by
  unfold makeT at h
  split at h
  · rename_i e sz bytes zs k1 m k2 m' hu hx hy
    split at h
    case h_2 => exact h.elim
    rename_i z hz
    obtain ⟨hzl, hpos, rfl, ⟨h0, hb, hm⟩, hK⟩ := h
    have hz := hF.ze_ hz
    have hu := hF.sl_ hu
    unfold slT at hu
    split at hu
    · rename_i e' hd
      split at hu
      · rename_i inf hi
        obtain ⟨z0, hz0, hms⟩ := Option.map_eq_some_iff.1 hu
        injection hms with he hms
        injection hms with hs hms
        injection hms with hb' hz'
        subst he
        unfold zeroT at hz
        obtain ⟨z1, hz1, hz2⟩ := Option.map_eq_some_iff.1 hz
        obtain ⟨i1, hi1, hz3⟩ := Option.bind_eq_some_iff.1 hz1
        rw [hi] at hi1
        injection hi1 with hi1
        subst hi1
        rw [hz0] at hz3
        injection hz3 with hz3
        subst hz3
        have ex := eval_v hE hx
        have ey := eval_v hE hy
        have hr := run_make (P := P) w t e' inf z0 hd hi hz0 k1 k2 m m h0 (Int.le_refl _) (by rw [hb']; rw [Int.mul_comm]; exact hb) (by have := hm; simp only [maxLen] at this; omega)
        have hsz : z0.cells.size = sz := by rw [← hzl, ← hz2]; simp
        refine wp_made (w' := w.alloc (.cells (madeCells z0.cells (m.toNat * inf.size)) e')) _ _ (.slice (some ⟨w.heap.size, 0, none⟩) m.toNat m.toNat) (fun _ => rfl) (hK (some ⟨w.heap.size, 0, none⟩)) ?_ ?_
        · obtain ⟨f1, f2⟩ := flat_rep z m.toNat
          have hcells : (madeCells z0.cells (m.toNat * inf.size)).toList = ((List.replicate m.toNat z).flatten).map C.den := by
            apply List.ext_getElem?
            intro j
            rw [List.getElem?_map]
            by_cases hj : j < m.toNat * sz
            · rw [f2 j (by rw [hzl]; exact hj), hzl]
              have hlt : j % sz < z.length := by rw [hzl]; exact Nat.mod_lt _ hpos
              rw [List.getElem?_eq_getElem hlt]
              simp only [Array.getElem?_toList, madeCells, hs]
              rw [Array.getElem?_map]
              have : (Array.range (m.toNat * sz))[j]? = some j := by simp [hj]
              rw [this]
              simp only [Option.map_some, hsz]
              congr 1
              have e1 : (z.map C.den)[j % sz]? = z0.cells[j % sz]? := by rw [← hz2, map_den_cOf]; simp
              have hlt2 : j % sz < z0.cells.size := by rw [hsz]; exact Nat.mod_lt _ hpos
              rw [List.getElem?_map, List.getElem?_eq_getElem hlt, Array.getElem?_eq_getElem hlt2] at e1
              simp only [Option.map_some, Option.some.injEq] at e1
              rw [e1]
              simp [hlt2]
            · rw [List.getElem?_eq_none (l := (List.replicate m.toNat z).flatten) (by rw [f1, hzl]; omega), Array.getElem?_toList, Array.getElem?_eq_none (by rw [size_madeCells, hs]; omega)]
              rfl
          have := hH.newRow (d := e') none (fun _ _ => trivial) (w.alloc (.cells (madeCells z0.cells (m.toNat * inf.size)) e')) (madeCells z0.cells (m.toNat * inf.size)) rfl rfl rfl rfl d m.toNat e' sz m.toNat (List.replicate m.toNat z).flatten rfl (by rw [f1, hzl]) (Nat.le_refl _) (by omega) (by rw [size_madeCells, hs]) (by rw [hcells]; exact List.take_of_length_le (by rw [List.length_map, f1, hzl]; exact Nat.le_refl _))
          simpa [upds, erase] using this
        · unfold execOp
          simp [ho, ex, ey, hr]
      · cases hu
    · cases hu
  · exact h.elim
theorem op_sound (X : Ctx P) (o : Oper) {Q : Exit → Act → World → Prop} (hE : EnvOk n env a) (hH : HSat w0 M H w) (ids : List Nat)
    (h : opT X.F X.Γ o.op (ev env) (restrict H ids) d K) : o.wp P a w (Post o.dst a w0 M H K) Q := by
  have hmove : ∀ x, K (ev env x) [] → (execOp a.eval o).run P w = .ok (.value (a.eval x)) w → o.wp P a w (Post o.dst a w0 M H K) Q := fun x hK hr =>
    wp_pure hH _ _ hK (fun hk => eval_ev hE x hk) hr
  cases ho : o.op with
  | move x => rw [ho] at h; exact hmove x h (by unfold execOp; rw [ho]; rfl)
  | assign x => rw [ho] at h; exact hmove x h (by unfold execOp; rw [ho]; rfl)
  | pick c x y =>
    rw [ho] at h
    simp only [opT] at h
    split at h
    · rename_i t hc
      have ec := eval_v hE hc
      cases t with
      | true => exact hmove x (h.1 rfl) (by unfold execOp; simp [ho, ec, asBool])
      | false => exact hmove y (h.2 rfl) (by unfold execOp; simp [ho, ec, asBool])
    · exact h.elim
  | alloc t => rw [ho] at h; exact alloc_sound X.Fok hE hH t ho h
  | box t x => rw [ho] at h; exact box_sound hE hH t x ho h
  | build t ps => rw [ho] at h; exact build_sound X.Fok hE hH t ps ho h
  | buildSlice t m ps => rw [ho] at h; exact buildSlice_sound X.Fok hE hH t m ps ho h
  | load t x => rw [ho] at h; exact load_sound X.Fok hE hH t x ho ids h
  | store t x y => rw [ho] at h; exact store_sound X.Fok hE hH t x y ho ids h
  | nilCheck x =>
    rw [ho] at h
    simp only [opT] at h
    split at h
    · rename_i i b off hx
      have ex := eval_c hE hx (by simp)
      exact wp_pure hH _ _ h (fun _ => rfl) (by unfold execOp; simp [ho, ex, C.den, SV.den])
    · rename_i i A k hx
      have ex := eval_c hE hx (by simp)
      exact wp_pure hH _ _ h (fun _ => rfl) (by unfold execOp; simp [ho, ex, C.den, SV.den])
    · exact h.elim
  | binOp op t x y t' => rw [ho] at h; exact bin_sound X.Fok hE hH op t t' x y ho h
  | unOp op t x =>
    rw [ho] at h
    cases op with
    | not =>
      simp only [opT] at h
      split at h
      · rename_i b hx
        have ex := eval_v hE hx
        exact wp_pure hH _ _ h (fun _ => rfl) (by unfold execOp; simp [ho, ex, C.den, SV.den, Op.unary])
      · exact h.elim
    | neg =>
      simp only [opT] at h
      split at h
      · rename_i k m hx
        have ex := eval_v hE hx
        exact wp_pure hH _ _ h (fun _ => rfl) (by unfold execOp; simp [ho, ex, C.den, SV.den, Op.unary, Op.intArith])
      · exact h.elim
    | _ => exact h.elim
  | convert s t x =>
    rw [ho] at h
    simp only [opT] at h
    split at h
    · rename_i k1 m k k2 hx hk hs
      have ex := eval_v hE hx
      have hk := X.Fok.int_ hk
      have hs := X.Fok.int_ hs
      have h1 : P.underlying t = some (.int k) := by unfold intT at hk; split at hk <;> simp_all
      have h2 : P.underlying s = some (.int k2) := by unfold intT at hs; split at hs <;> simp_all
      exact wp_pure hH _ _ h (fun _ => rfl) (by unfold execOp; simp [ho, ex, C.den, SV.den, convert, run_underlying h1, run_underlying h2, Conv.intToInt])
    · exact h.elim
  | fieldAddr t x f => rw [ho] at h; exact field_sound X.Fok hE hH t x f ho h
  | indexAddr t x y => rw [ho] at h; exact index_sound X.Fok hE hH t x y ho ids h
  | slice t x lo hi mx => rw [ho] at h; exact slice_sound X.Fok hE hH t x lo hi mx ho ids h
  | makeFunc fn fst caps =>
    rw [ho] at h
    simp only [opT] at h
    split at h
    · rename_i g x hf hc
      split at h
      · rename_i i b off hx
        have ex := eval_c hE hx (by simp)
        obtain ⟨fl⟩ := fst
        obtain ⟨cl⟩ := caps
        simp only at hf hc
        subst hf hc
        refine wp_pure hH _ _ h (fun _ => rfl) ?_
        unfold execOp
        simp [ho, Instr.makeFunc, ex, C.den, SV.den]
      · exact h.elim
    · exact h.elim
  | makeSlice t x y => rw [ho] at h; exact make_sound X.Fok hE hH t x y ho h
  | extract x i =>
    rw [ho] at h
    simp only [opT] at h
    split at h
    · rename_i l hx
      have ex : a.eval x = .tuple (l.map SV.den0).toArray := by
        rw [eval_ev hE x (by rw [hx]; rfl), hx]; rfl
      split at h
      · exact h.elim
      · rename_i s hs hl
        refine wp_pure hH _ s.den0 h (fun _ => by cases s <;> first | rfl | exact absurd rfl (hs _)) ?_
        unfold execOp
        have : (l.map SV.den0).toArray[i]? = some s.den0 := by simp [hl]
        simp only [ho, ex, Instr.extract, this]
        rfl
      · exact h.elim
    · exact h.elim
  | call c => rw [ho] at h; exact call_sound X hE hH c ho ids h
  | _ => rw [ho] at h; exact h.elim
end Go.Proofs.Ytbcicjmepojlnaa.Eng
/- Each operation's predicate is 'what is asked, and whatever may come of it'; what it looks at; what it turns; no condition. -/
namespace Go.Proofs.Ytbcicjmepojlnaa.Eng
open Go Go.RowKit
set_option autoImplicit false
set_option linter.unusedSimpArgs false
set_option linter.unusedVariables false
variable {P : Program} {F : TT}
def Conj (T : KT → Prop) (ks : List Nat) : Prop := ∃ (s : Prop) (R : SV → Upd → Prop), (s → ∃ v u, R v u) ∧ (∀ v u, R v u → ∀ p ∈ u, p.1 ∈ ks) ∧ ∀ K, T K ↔ s ∧ ∀ v u, R v u → K v u
theorem Conj.one {ks : List Nat} (v : SV) (u : Upd) (hu : ∀ p ∈ u, p.1 ∈ ks) : Conj (fun K => K v u) ks :=
  ⟨True, fun v' u' => v' = v ∧ u' = u, fun _ => ⟨v, u, rfl, rfl⟩, fun v' u' h => by rw [h.2]; exact hu, fun K => ⟨fun h => ⟨trivial, fun v' u' e => by rw [e.1, e.2]; exact h⟩, fun h => h.2 v u ⟨rfl, rfl⟩⟩⟩
theorem Conj.none_ {ks : List Nat} (v : SV) : Conj (fun K => K v []) ks := .one v [] (by simp)
theorem Conj.false_ {ks : List Nat} : Conj (fun _ => False) ks := ⟨False, fun _ _ => False, fun h => h.elim, fun _ _ h => h.elim, fun K => ⟨fun h => h.elim, fun h => h.1⟩⟩
theorem Conj.and_ {T : KT → Prop} {ks : List Nat} (p : Prop) (h : Conj T ks) : Conj (fun K => p ∧ T K) ks := by
  obtain ⟨s, R, h0, h1, h2⟩ := h
  exact ⟨p ∧ s, R, fun h => h0 h.2, h1, fun K => by show p ∧ T K ↔ _; rw [h2 K, and_assoc]⟩
theorem Conj.all_ {α : Type} {ks : List Nat} [Inhabited α] (f : α → SV) (g : α → Upd) (hu : ∀ x, ∀ p ∈ g x, p.1 ∈ ks) : Conj (fun K => ∀ x, K (f x) (g x)) ks :=
  ⟨True, fun v u => ∃ x, v = f x ∧ u = g x, fun _ => ⟨f default, g default, default, rfl, rfl⟩, fun v u ⟨x, h⟩ => by rw [h.2]; exact hu x,
   fun K => ⟨fun h => ⟨trivial, fun v u ⟨x, e⟩ => by rw [e.1, e.2]; exact h x⟩, fun h x => h.2 _ _ ⟨x, rfl, rfl⟩⟩⟩
theorem Conj.ex {α : Type} {ks : List Nat} {p : α → Prop} {T : α → KT → Prop} (hu : ∀ x y, p x → p y → x = y) (h : ∀ x, p x → Conj (T x) ks) : Conj (fun K => ∃ x, p x ∧ T x K) ks := by
  by_cases hp : ∃ x, p x
  · obtain ⟨x, hx⟩ := hp
    obtain ⟨s, R, h0, h1, h2⟩ := h x hx
    refine ⟨s, R, h0, h1, fun K => ?_⟩
    rw [← h2 K]
    exact ⟨fun ⟨y, hy, hT⟩ => by rw [hu x y hx hy]; exact hT, fun hT => ⟨x, hx, hT⟩⟩
  · exact ⟨False, fun _ _ => False, fun h => h.elim, fun _ _ h => h.elim, fun K => ⟨fun ⟨x, hx, _⟩ => absurd ⟨x, hx⟩ hp, fun h => h.1.elim⟩⟩
theorem Conj.congr {T T' : KT → Prop} {ks : List Nat} (h : Conj T ks) (he : ∀ K, T' K ↔ T K) : Conj T' ks := by
  obtain ⟨s, R, h0, h1, h2⟩ := h
  exact ⟨s, R, h0, h1, fun K => (he K).trans (h2 K)⟩
def wset (wr : FuncId → Bool) (o : Op) (ids : List Nat) (d : Nat) : List Nat := match o with
  | .alloc _ => [d]
  | .box _ _ => [d]
  | .buildSlice _ _ _ => [d]
  | .makeSlice _ _ _ => [d]
  | .store _ _ _ => ids
  | .slice _ _ _ _ _ => d :: ids
  | .call c => match c.callee with
    | .value (.func f) => if wr f then d :: (d + 100000) :: (d + 200000) :: ids else [d, d + 100000, d + 200000]
    | .value (.tmp _) => d :: (d + 100000) :: (d + 200000) :: ids
    | .builtin .append => d :: ids
    | _ => []
  | _ => []
theorem bin_conj (op : BinOp) (t : TypeId) (x y : SV) (ks : List Nat) : Conj (binT F op t x y) ks := by
  unfold binT
  split
  · rename_i k i k' j
    split
    · exact .and_ _ (.none_ _)
    · exact .and_ _ (.and_ _ (.none_ _))
    · exact .and_ _ (.and_ _ (.none_ _))
    · refine .and_ _ ?_
      split
      · exact .none_ _
      · exact .false_
  · refine .and_ _ ?_
    split
    · exact .none_ _
    · exact .none_ _
    · exact .false_
  · split
    · exact .and_ _ (.none_ _)
    · exact .and_ _ (.none_ _)
    · exact .and_ _ .false_
  · split
    · split
      · split
        · exact .none_ _
        · exact .false_
      · exact .false_
    · split
      · split
        · exact .none_ _
        · exact .false_
      · exact .false_
    · exact .false_
  · refine .and_ _ ?_
    split
    · exact .false_
    · split
      · exact .none_ _
      · exact .none_ _
      · exact .false_
  · exact .false_
theorem load_conj (t : TypeId) (x : SV) (H : Heap) (ks : List Nat) : Conj (loadT F t x H) ks := by
  unfold loadT
  have one : ∀ (r : Option C), Conj (fun K => match r with
      | some x => K (.c x) []
      | none => False) ks := by
    intro r
    cases r with
    | none => exact .false_
    | some x => exact .none_ _
  split
  · rename_i id b off
    split
    · refine .and_ _ ?_
      split
      · exact .and_ _ (.none_ _)
      · exact one _
      · exact .false_
    · exact .false_
  · rename_i id A k
    split
    · refine .and_ _ ?_
      split
      · exact .and_ _ (.and_ _ (.none_ _))
      · exact one _
      · exact .false_
    · refine .and_ _ ?_
      split
      · exact .and_ _ (.and_ _ (.none_ _))
      · exact one _
      · exact .false_
    · exact .false_
  · exact .false_
theorem store_conj (t : TypeId) (x y : SV) (H : Heap) (ks : List Nat) (hk : ∀ i ∈ x.ids, i ∈ ks) : Conj (storeT F t x y H) ks := by
  unfold storeT
  split
  · exact .false_
  · refine .and_ _ (.and_ _ ?_)
    split
    · rename_i id b off
      split
      · exact .and_ _ (.and_ _ (.one _ _ (by simp; exact hk id (by simp [SV.ids, C.ids]))))
      · exact .false_
    · rename_i id A k
      split
      · exact .and_ _ (.and_ _ (.and_ _ (.one _ _ (by simp; exact hk id (by simp [SV.ids, C.ids])))))
      · exact .false_
    · exact .false_
theorem index_conj (t : TypeId) (x y : SV) (H : Heap) (ks : List Nat) : Conj (indexT F t x y H) ks := by
  unfold indexT
  split
  · split
    · exact .and_ _ (.and_ _ (.none_ _))
    · exact .false_
  · split
    · refine .and_ _ (.and_ _ (.and_ _ ?_))
      split
      · exact .and_ _ (.and_ _ (.and_ _ (.none_ _)))
      · exact .and_ _ (.and_ _ (.and_ _ (.none_ _)))
      · exact .false_
    · exact .false_
  · exact .false_
theorem append_conj (t t' : TypeId) (x y : SV) (H : Heap) (d : Nat) (ks : List Nat) (hd : d ∈ ks) (hx : ∀ i ∈ x.ids, i ∈ ks) : Conj (appendT F t t' x y H d) ks := by
  unfold appendT
  split
  · rename_i e sz bytes zs id A n c id' B m cap _
    refine .and_ _ (.and_ _ (.and_ _ (.and_ _ (.and_ _ (.and_ _ ?_)))))
    split
    · rename_i B' sz' m' ys _
      refine .and_ _ (.and_ _ (.and_ _ (.and_ _ ?_)))
      split
      · refine .and_ _ (.and_ _ (.and_ _ (.and_ _ (.and_ _ ?_))))
        refine (Conj.all_ (α := Option Addr × Nat) (fun p => .c (.sl d p.1 (n + m) p.2)) (fun p => [(id, none), (d, some (.row p.1 p.2 e sz (n + m) (_ ++ ys)))]) ?_).congr fun K => ⟨fun h p => h p.1 p.2, fun h a b => h (a, b)⟩
        intro p q hq
        simp only [List.mem_cons, List.not_mem_nil, or_false] at hq
        rcases hq with rfl | rfl
        · exact hx id (by simp [SV.ids, C.ids])
        · exact hd
      · refine .and_ _ (.and_ _ (.and_ _ ?_))
        refine (Conj.all_ (α := Option Addr × Nat) (fun p => .c (.sl d p.1 m p.2)) (fun p => [(d, some (.row p.1 p.2 e sz m ys))]) ?_).congr fun K => ⟨fun h p => h p.1 p.2, fun h a b => h (a, b)⟩
        intro p q hq
        simp only [List.mem_cons, List.not_mem_nil, or_false] at hq
        subst hq
        exact hd
      · exact .false_
    · exact .false_
  · exact .false_
theorem slice_conj (t : TypeId) (x : SV) (lo hi mx : Option SV) (H : Heap) (d : Nat) (ks : List Nat) (hd : d ∈ ks) (hx : ∀ i ∈ x.ids, i ∈ ks) : Conj (sliceT F t x lo hi mx H d) ks := by
  unfold sliceT
  split
  · rename_i id A n c l _ _
    split
    · refine .and_ _ (.and_ _ (.and_ _ ?_))
      split
      · exact .and_ _ (.and_ _ (.and_ _ (.and_ _ (.one _ _ (by simp; exact hd)))))
      · refine .and_ _ (.and_ _ (.and_ _ (.and_ _ (.and_ _ (.one _ _ ?_)))))
        intro q hq
        simp only [List.mem_cons, List.not_mem_nil, or_false] at hq
        rcases hq with rfl | rfl
        · exact hx id (by simp [SV.ids, C.ids])
        · exact hd
      · exact .false_
    · exact .false_
  · exact .false_
theorem make_conj (t : TypeId) (x y : SV) (d : Nat) (ks : List Nat) (hd : d ∈ ks) : Conj (makeT F t x y d) ks := by
  unfold makeT
  split
  · split
    · refine .and_ _ (.and_ _ (.and_ _ (.and_ _ ?_)))
      exact .all_ (fun A => .c (.sl d A _ _)) (fun A => [(d, some (.row A _ _ _ _ _))]) (by simp [hd])
    · exact .false_
  · exact .false_
theorem call_conj (X : Ctx P) (c : Call) (e : Operand → SV) (H : Heap) (d : Nat) (ids : List Nat) (hf : ∀ i ∈ footR (.call c) e, i ∈ ids) (hs : ∀ i, (H i).isSome = true → i ∈ ids) : Conj (callT X.F X.Γ c.callee (calleeV c.callee e) (c.args.toList.map e) c.argTypes H d) (wset X.wr (.call c) ids d) := by
  obtain ⟨callee, args, ts⟩ := c
  have hids : ∀ i, i ∈ (args.toList.map e).flatMap SV.ids → i ∈ footR (.call ⟨callee, args, ts⟩) e := by
    intro i hi
    unfold footR
    simp only [List.mem_flatMap, List.mem_map] at hi ⊢
    obtain ⟨s, ⟨x, hx, rfl⟩, hi⟩ := hi
    exact ⟨x, by simp only [Op.operands, Call.operands, Array.toList_append, List.mem_append]; exact .inr hx, hi⟩
  cases callee with
  | invoke r m => exact .false_
  | value f =>
    cases f with
    | func f =>
      refine .and_ _ ?_
      refine ⟨(X.Γ f (args.toList.map e) H d).side, (X.Γ f (args.toList.map e) H d).R, (X.ok f).some_ _ _ _, fun v u hR p hp => ?_, fun K => Iff.rfl⟩
      have := (X.ok f).keys _ _ _ v u hR p hp
      simp only [wset]
      rcases this with h | h | h | ⟨hw, h⟩
      · split <;> simp [h]
      · split <;> simp [h]
      · split <;> simp [h]
      · rw [hw]; simp only [if_true, List.mem_cons]; exact .inr (.inr (.inr (hs _ h)))
    | tmp t =>
      unfold callT
      dsimp only
      split
      · rename_i g i b off _
        refine .and_ _ ?_
        refine ⟨(X.Γ g (args.toList.map e ++ [.c (.loc i b off)]) H d).side, (X.Γ g (args.toList.map e ++ [.c (.loc i b off)]) H d).R, (X.ok g).some_ _ _ _, fun v u hR p hp => ?_, fun K => Iff.rfl⟩
        have := (X.ok g).keys _ _ _ v u hR p hp
        simp only [wset, List.mem_cons]
        rcases this with h | h | h | ⟨hw, h⟩
        · exact .inl h
        · exact .inr (.inl h)
        · exact .inr (.inr (.inl h))
        · exact .inr (.inr (.inr (hs _ h)))
      · exact .false_
    | const _ => exact .false_
    | global _ => exact .false_
  | builtin b =>
    cases b with
    | len => unfold callT; dsimp only; split <;> first | exact .and_ _ (.none_ _) | exact .false_
    | cap => unfold callT; dsimp only; split <;> first | exact .and_ _ (.none_ _) | exact .false_
    | max => unfold callT; dsimp only; split <;> first | exact .none_ _ | exact .false_
    | min => unfold callT; dsimp only; split <;> first | exact .none_ _ | exact .false_
    | append =>
      unfold callT
      dsimp only
      split
      · rename_i x y hxy
        refine .and_ _ (append_conj _ _ _ _ _ _ _ (by simp [wset]) (fun i hi => ?_))
        simp only [wset, List.mem_cons]
        refine .inr (hf i (hids i ?_))
        rw [hxy]
        simp [hi]
      · exact .false_
    | _ => exact .false_
theorem op_conj (X : Ctx P) (o : Op) (e : Operand → SV) (H : Heap) (d : Nat) (ids : List Nat) (hf : blind o = false → ∀ i ∈ footR o e, i ∈ ids) (hs : ∀ i, (H i).isSome = true → i ∈ ids) : Conj (opT X.F X.Γ o e H d) (wset X.wr o ids d) := by
  cases o with
  | move x => exact .none_ _
  | assign x => exact .none_ _
  | pick c x y =>
    unfold opT
    dsimp only
    split
    · rename_i t _
      cases t with
      | true => exact (Conj.none_ (e x)).congr fun K => by simp
      | false => exact (Conj.none_ (e y)).congr fun K => by simp
    · exact .false_
  | alloc t =>
    unfold opT
    dsimp only
    split
    · exact .all_ (fun b => .c (.loc d b 0)) (fun b => [(d, some (.blk b t _))]) (by simp [wset])
    · exact .false_
  | box t x =>
    unfold opT
    dsimp only
    split
    · exact .and_ _ (.all_ (fun b => .c (.loc d b 0)) (fun b => [(d, some (.blk b t _))]) (by simp [wset]))
    · exact .false_
  | build t ps =>
    unfold opT
    dsimp only
    split
    · refine .and_ _ ?_
      split
      · exact .none_ _
      · exact .false_
    · exact .false_
  | buildSlice t n ps =>
    unfold opT
    dsimp only
    split
    · refine .and_ _ (.and_ _ (.and_ _ (.and_ _ ?_)))
      split
      · exact .and_ _ (.all_ (fun A => .c (.sl d A n n)) (fun A => [(d, some (.row A n _ _ n _))]) (by simp [wset]))
      · exact .false_
    · exact .false_
  | load t x => exact load_conj t _ H _
  | store t x y => exact store_conj t _ _ H _ (fun i hi => hf rfl i (by simp only [footR, Op.operands]; simp; exact .inl hi))
  | nilCheck x =>
    unfold opT
    dsimp only
    split
    · exact .none_ _
    · exact .none_ _
    · exact .false_
  | binOp op t x y t' => exact bin_conj op t _ _ _
  | unOp op t x =>
    cases op with
    | not => unfold opT; dsimp only; split <;> first | exact .none_ _ | exact .false_
    | neg => unfold opT; dsimp only; split <;> first | exact .none_ _ | exact .false_
    | _ => exact .false_
  | convert s t x => unfold opT; dsimp only; split <;> first | exact .none_ _ | exact .false_
  | fieldAddr t x f => unfold opT; dsimp only; split <;> first | exact .none_ _ | exact .false_
  | indexAddr t x y => exact index_conj t _ _ H _
  | slice t x lo hi mx => exact slice_conj t _ _ _ _ H d _ (by simp [wset]) (fun i hi => by simp only [wset, List.mem_cons]; exact .inr (hf rfl i (by simp only [footR, Op.operands]; simp; exact .inl hi)))
  | makeFunc fn fst caps =>
    unfold opT
    dsimp only
    split
    · split
      · exact .none_ _
      · exact .false_
    · exact .false_
  | makeSlice t x y => exact make_conj t _ _ d _ (by simp [wset])
  | extract x i =>
    unfold opT
    dsimp only
    split
    · split
      · exact .false_
      · exact .none_ _
      · exact .false_
    · exact .false_
  | call c => exact call_conj X c e H d ids (hf rfl) hs
  | _ => exact .false_
theorem all_congr_ {α : Type} {f g : α → Bool} : ∀ (l : List α), (∀ x ∈ l, f x = g x) → l.all f = l.all g
  | [], _ => rfl
  | x :: r, h => by rw [List.all_cons, List.all_cons, h x (by simp), all_congr_ r fun y hy => h y (by simp [hy])]
theorem opT_congr (Γ : FuncId → Spec) (o : Op) (e e' : Operand → SV) (H : Heap) (d : Nat) (h : ∀ x ∈ o.operands, e x = e' x) : opT F Γ o e H d = opT F Γ o e' H d := by
  have pairs : ∀ ps : Array (Nat × Operand), (∀ x ∈ (ps.toList.map (·.2)), e x = e' x) → (ps.toList.map fun p => (p.1, e p.2)) = (ps.toList.map fun p => (p.1, e' p.2)) ∧ partsOk e ps = partsOk e' ps := by
    intro ps hp
    refine ⟨List.map_congr_left fun p hm => by rw [hp p.2 (List.mem_map.2 ⟨p, hm, rfl⟩)], ?_⟩
    exact all_congr_ ps.toList fun p hm => by rw [hp p.2 (List.mem_map.2 ⟨p, hm, rfl⟩)]
  cases o with
  | build t ps => obtain ⟨a, b⟩ := pairs ps (fun x hx => h x (by simpa [Op.operands] using hx)); funext K; simp only [opT, a, b]
  | buildSlice t n ps => obtain ⟨a, b⟩ := pairs ps (fun x hx => h x (by simpa [Op.operands] using hx)); funext K; simp only [opT, a, b]
  | call c =>
    have : c.args.toList.map e = c.args.toList.map e' := List.map_congr_left fun x hx => h x (by simp [Op.operands, Call.operands]; exact .inr (by simpa using hx))
    have hcal : calleeV c.callee e = calleeV c.callee e' := by
      unfold calleeV
      cases hcc : c.callee with
      | value x => exact h x (by simp [Op.operands, Call.operands, hcc])
      | _ => rfl
    funext K
    simp only [opT, this, hcal]
  | makeFunc fn fst caps =>
    funext K
    simp only [opT]
    split
    · rename_i g x hf hc
      rw [h x (by
        obtain ⟨fl⟩ := fst
        obtain ⟨cl⟩ := caps
        simp only at hf hc
        subst hf hc
        simp [Op.operands])]
    · rfl
  | slice t x lo hi mx =>
    have hx : e x = e' x := h x (by simp [Op.operands])
    have hl : lo.map e = lo.map e' := by cases lo with | none => rfl | some y => simp only [Option.map_some]; rw [h y (by simp [Op.operands])]
    have hh : hi.map e = hi.map e' := by cases hi with | none => rfl | some y => simp only [Option.map_some]; rw [h y (by simp [Op.operands])]
    have hm : mx.map e = mx.map e' := by cases mx with | none => rfl | some y => simp only [Option.map_some]; rw [h y (by simp [Op.operands])]
    funext K
    simp only [opT, hx, hl, hh, hm]
  | unOp op t x => funext K; cases op <;> simp only [opT] <;> rw [h x (by simp [Op.operands])]
  | _ =>
    funext K
    simp only [opT]
    repeat' first
      | rfl
      | (rw [h _ (by simp [Op.operands]; done)])
theorem flatMap_congr_ {α β : Type} {f g : α → List β} : ∀ (l : List α), (∀ x ∈ l, f x = g x) → l.flatMap f = l.flatMap g
  | [], _ => rfl
  | x :: r, h => by rw [List.flatMap_cons, List.flatMap_cons, h x (by simp), flatMap_congr_ r fun y hy => h y (by simp [hy])]
theorem footR_congr (o : Op) (e e' : Operand → SV) (h : ∀ x ∈ o.operands, e x = e' x) : footR o e = footR o e' :=
  flatMap_congr_ _ fun x hx => by rw [h x (by simpa using hx)]
theorem foot_congr (refs : List Nat) (H : Heap) (o : Op) (e e' : Operand → SV) (h : ∀ x ∈ o.operands, e x = e' x) : foot refs H o e = foot refs H o e' := by
  unfold foot
  rw [footR_congr o e e' h]
theorem restrict_isSome {H : Heap} {ids : List Nat} (i : Nat) (h : (restrict H ids i).isSome = true) : i ∈ ids := by
  unfold restrict at h
  split at h
  · rename_i hi; exact hi
  · cases h
theorem restrict_congr {H H' : Heap} {ids : List Nat} (h : ∀ i ∈ ids, H i = H' i) : restrict H ids = restrict H' ids := by
  funext i
  unfold restrict
  split
  · rename_i hi; exact h i hi
  · rfl
end Go.Proofs.Ytbcicjmepojlnaa.Eng
