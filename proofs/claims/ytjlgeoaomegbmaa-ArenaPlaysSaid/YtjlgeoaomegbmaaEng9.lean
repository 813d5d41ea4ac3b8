/- Slicing, calls, and all operations together; no condition. -/
import Derived.Test.YtjlgeoaomegbmaaEng8
import Derived.Laws.MakeOwn
namespace Go.Proofs.Ytjlgeoaomegbmaa.Eng
open Go Go.RowKit
set_option autoImplicit false
set_option linter.unusedSimpArgs false
set_option linter.unusedVariables false

variable {P : Program} {F : TT} {n : Nat} {env : Env} {a : Act} {w w0 : World} {M : Nat → Prop} {H : Heap} {K : KT} {d : Nat}

theorem bound_some (hE : EnvOk n env a) (def_ : Nat) (x : Option Operand) (l : Int) (h : boundT def_ (x.map (ev env)) = some l) :
    (x = none ∧ l = def_) ∨ ∃ y k, x = some y ∧ a.eval y = .int k l := by
  cases x with
  | none => simp only [Option.map_none, boundT, Option.some.injEq] at h; exact .inl ⟨rfl, h.symm⟩
  | some y =>
    simp only [Option.map_some, boundT] at h
    split at h
    · rename_i hh; cases hh
    · rename_i k i hx
      injection h with h
      subst h
      injection hx with hx
      exact .inr ⟨y, k, rfl, eval_v hE hx⟩
    · cases h

theorem slice_bounds (w : World) (m cap : Nat) (lo hi : Option Operand) (l h : Int) (hl : (lo = none ∧ l = 0) ∨ ∃ y k, lo = some y ∧ a.eval y = .int k l) (hh : (hi = none ∧ h = m) ∨ ∃ y k, hi = some y ∧ a.eval y = .int k h)
    (h0 : 0 ≤ l) (h1 : l ≤ h) (h2 : h ≤ m) (h3 : m ≤ cap) : (Instr.sliceBounds true m cap (lo.map a.eval) (hi.map a.eval) none).run P w = .ok (l.toNat, h.toNat, cap) w := by
  have c1 : h ≤ (cap : Int) := by omega
  have c2 : 0 ≤ h := by omega
  have c3 : l ≤ (h.toNat : Int) := by omega
  rcases hl with ⟨rfl, rfl⟩ | ⟨y, k, rfl, hy⟩ <;> rcases hh with ⟨rfl, rfl⟩ | ⟨y', k', rfl, hy'⟩
  · simp [Instr.sliceBounds]
  · simp [Instr.sliceBounds, Instr.sliceBound, hy', asIntOf, c1, c2]
  · have c4 : l ≤ (m : Int) := by omega
    simp [Instr.sliceBounds, Instr.sliceBound, hy, asIntOf, h0, c4]
  · have c5 : ¬ (max h 0 < l) := by omega
    simp [Instr.sliceBounds, Instr.sliceBound, hy, hy', asIntOf, h0, c1, c2]
    intro hlt; exact absurd hlt c5

theorem slice_sound (hF : TTok P F) {o : Oper} {Q : Exit → Act → World → Prop} (hE : EnvOk n env a) (hH : HSat w0 M H w) (t : TypeId) (x : Operand) (lo hi mx : Option Operand) (ho : o.op = .slice t x lo hi mx) (ids : List Nat)
    (h : sliceT F t (ev env x) (lo.map (ev env)) (hi.map (ev env)) (mx.map (ev env)) (restrict H ids) d K) : o.wp P a w (Post o.dst a w0 M H K) Q := by
  unfold sliceT at h
  split at h
  · rename_i e sz bytes zs id A m c l hu hx hl
    have hl' := bound_some (a := a) hE 0 lo l hl
    split at h
    · rename_i hh' hb hmx
      obtain rfl : mx = none := by cases mx <;> first | rfl | cases hmx
      have hh'' := bound_some (a := a) hE m hi hh' hb
      obtain ⟨h0, h1, h2, h⟩ := h
      have ex := eval_c hE hx (by simp)
      simp only [C.den] at ex
      have hu := hF.sl_ hu
      unfold slT at hu
      split at hu
      · rename_i e' hd
        split at hu
        · rename_i inf hi'
          obtain ⟨z, hz, hms⟩ := Option.map_eq_some_iff.1 hu
          injection hms with he hms
          injection hms with hs hms
          subst he hs
          have hrun : m ≤ c → (execOp a.eval o).run P w = .ok (.value (.slice (if c = l.toNat then A else A.map (·.add (l.toNat * inf.size))) (hh'.toNat - l.toNat) (c - l.toNat))) w := by
            intro hmc
            have hsb := slice_bounds (P := P) (a := a) w m c lo hi l hh' (by simpa using hl') hh'' h0 h1 h2 hmc
            unfold execOp
            simp only [ho, ex, Instr.sliceAt, Sem.run_bind, run_underlying hd, Result.andThen_ok, Instr.slice, Option.map_none, hsb, sizeOf, typeInfo, run_program, hi', Sem.run_pure]
          split at h
          · rename_i A' sz' n' xs hHid
            obtain ⟨rfl, rfl, rfl, hmc, hK⟩ := h
            have hold := hH.holds _ _ (restrict_some hHid)
            refine wp_made (w' := w) _ _ _ (fun _ => rfl) hK ?_ (hrun hmc)
            have hle : (hh'.toNat - l.toNat) * inf.size ≤ (m - l.toNat) * inf.size := Nat.mul_le_mul_right _ (by omega)
            have hlen : ((xs.drop (l.toNat * inf.size)).take ((hh'.toNat - l.toNat) * inf.size)).length = (hh'.toNat - l.toNat) * inf.size := by
              have := hold.1
              rw [List.length_take, List.length_drop, this, ← Nat.sub_mul]
              exact Nat.min_eq_left hle
            have hnone : ∀ p q : Addr, A = some q → (if c = l.toNat then A else A.map (·.add (l.toNat * inf.size))) = some p → p.block = q.block := by
              intro p q hq hp
              subst hq
              split at hp
              · injection hp with hp; rw [hp]
              · simp only [Option.map_some, Option.some.injEq] at hp; rw [← hp, add_block]
            have := hH.part id d _ (.rd (if c = l.toNat then A else A.map (·.add (l.toNat * inf.size))) inf.size (hh'.toNat - l.toNat) ((xs.drop (l.toNat * inf.size)).take ((hh'.toNat - l.toNat) * inf.size))) (restrict_some hHid) rfl ?_ rfl ?_
            · simpa [upds] using this
            · refine ⟨hlen, fun hne => ?_⟩
              have hxs : xs ≠ [] := by intro e; subst e; simp at hne
              obtain ⟨p, rfl, hpl, hc⟩ := hold.2 hxs
              have hpos : 0 < (hh'.toNat - l.toNat) * inf.size := by rw [← hlen]; exact List.length_pos_iff.2 hne
              have hcl : c ≠ l.toNat := by
                intro e
                have : hh'.toNat - l.toNat = 0 := by omega
                rw [this] at hpos; omega
              refine ⟨p.add (l.toNat * inf.size), by rw [if_neg hcl]; rfl, by rw [add_block]; exact hpl, fun j u hu => ?_⟩
              rw [add_add]
              refine hc _ u ?_
              rw [List.getElem?_map, getElem?_drop_take] at hu
              split at hu
              · rw [List.getElem?_map]; exact hu
              · cases hu
            · intro g hg
              simp only [Ent.block] at hg ⊢
              split at hg
              · cases hg
              · rename_i hne
                have hxs : xs ≠ [] := by intro e; subst e; simp at hne
                rw [if_neg hxs]
                obtain ⟨p, hp, _⟩ := hold.2 hxs
                obtain ⟨q, hq, rfl⟩ := Option.map_eq_some_iff.1 hg
                rw [hp, Option.map_some, hnone q p hp hq]
          · rename_i A' c' e'' sz' n' xs hHid
            obtain ⟨rfl, rfl, rfl, rfl, rfl, hcpos, hK⟩ := h
            have hold := hH.holds _ _ (restrict_some hHid)
            have hr := hrun hold.2.1
            have e0 : (0 : Int).toNat = 0 := rfl
            rw [e0, if_neg (by omega), Nat.zero_mul, Nat.sub_zero, Nat.sub_zero] at hr
            have hA : A.map (·.add 0) = A := by cases A <;> simp [Addr.add]
            rw [hA] at hr
            refine wp_made (w' := w) _ _ _ (fun _ => rfl) hK ?_ hr
            have hle : hh'.toNat * inf.size ≤ m * inf.size := Nat.mul_le_mul_right _ (by omega)
            have := hH.retell id d _ (.row A c e'' inf.size hh'.toNat (xs.take (hh'.toNat * inf.size))) (restrict_some hHid) ?_ (fun _ => rfl) (fun g hg => hg)
            · simpa [upds] using this
            · refine ⟨by rw [List.length_take, hold.1]; exact Nat.min_eq_left hle, by have := hold.2.1; omega, fun hc => ?_⟩
              obtain ⟨g, cur, hA', hg, hcm, hcs, ht⟩ := hold.2.2 hc
              refine ⟨g, cur, hA', hg, hcm, hcs, ?_⟩
              rw [List.map_take, ← ht, List.take_take, Nat.min_eq_left hle]
          · exact h.elim
        · cases hu
      · cases hu
    · exact h.elim
  · exact h.elim

/-- The functions that have contracts have bodies. -/
def Bodied (P : Program) (f : FuncId) : Prop := ∃ fn c, P.funcs[f]? = some fn ∧ fn.body = some c ∧ (fn.name == "runtime.NumGoroutine") = false

/-- A contract: from whatever world in which what is tracked holds, the call gives what the contract says; wr: it may turn what its arguments lead to. -/
structure SpecOk (P : Program) (f : FuncId) (wr : Bool) (S : Spec) : Prop where
  run : ∀ (args : List SV) (H0 H : Heap) (d : Nat) (w0 : World) (M : Nat → Prop) (w : World), (S args H0 d).side → (∀ i e, H0 i = some e → H i = some e) → HSat w0 M H w →
    Calls P f (args.map SV.den).toArray w fun e w' => ∃ v u x, e = .returned x ∧ (S args H0 d).R v u ∧ (v.known = true → x = v.den) ∧ HSat w0 M (upds H u) w'
  some_ : ∀ args H d, (S args H d).side → ∃ v u, (S args H d).R v u
  keys : ∀ args H d v u, (S args H d).R v u → ∀ p ∈ u, p.1 = d ∨ p.1 = d + 100000 ∨ p.1 = d + 200000 ∨ (wr = true ∧ (H p.1).isSome = true)
  body : ∀ args H d, (S args H d).side → Bodied P f

/-- All contracts that a walk may use. -/
structure Ctx (P : Program) where
  F : TT
  Fok : TTok P F
  Γ : FuncId → Spec
  wr : FuncId → Bool
  ok : ∀ f, SpecOk P f (wr f) (Γ f)

theorem callFunc_run (f : FuncId) (fn : Func) (c : Code) (hf : P.funcs[f]? = some fn) (hb : fn.body = some c) (hn : (fn.name == "runtime.NumGoroutine") = false) (args : Array Value) (w : World) :
    (callFunc f args).run P w = .ok (.enter f args) w := by
  simp only [callFunc, Sem.run_bind, run_program, Result.andThen_ok, hf, hn, hb, Bool.false_eq_true, if_false]
  rfl

theorem args_eval (hE : EnvOk n env a) : ∀ (l : List Operand), (l.map (ev env)).all SV.known = true → l.map a.eval = (l.map (ev env)).map SV.den
  | [], _ => rfl
  | x :: r, h => by
    simp only [List.map_cons, List.all_cons, Bool.and_eq_true] at h ⊢
    rw [eval_ev hE x h.1, args_eval hE r h.2]

theorem fold_sound (f : Int → Int → Int) (l : List SV) (k : IntKind) (i : Int) (h : foldT f l = some (k, i)) :
    (l = [.c (.v (.int k i))]) ∨ ∃ x y, l = [.c (.v (.int k x)), .c (.v (.int k y))] ∧ i = f x y := by
  unfold foldT at h
  split at h
  · injection h with h; injection h with h1 h2; subst h1 h2; exact .inl rfl
  · split at h
    · rename_i k1 a1 k2 b1 hk
      subst hk
      injection h with h; injection h with h1 h2; subst h1 h2; exact .inr ⟨_, _, rfl, rfl⟩
    · cases h
  · cases h

theorem map_one {α β : Type} {f : α → β} {l : List α} {s : β} (h : l.map f = [s]) : ∃ x, l = [x] ∧ f x = s := by
  cases l with
  | nil => cases h
  | cons x r =>
    cases r with
    | nil => exact ⟨x, rfl, by simpa using h⟩
    | cons _ _ => simp at h
theorem map_two {α β : Type} {f : α → β} {l : List α} {s t : β} (h : l.map f = [s, t]) : ∃ x y, l = [x, y] ∧ f x = s ∧ f y = t := by
  cases l with
  | nil => cases h
  | cons x r =>
    simp only [List.map_cons, List.cons.injEq] at h
    obtain ⟨y, rfl, hy⟩ := map_one h.2
    exact ⟨x, y, rfl, h.1, hy⟩

theorem len_sound (hF : TTok P F) {o : Oper} {Q : Exit → Act → World → Prop} (hE : EnvOk n env a) (hH : HSat w0 M H w) (args : List Operand) (ts : Array TypeId) (ho : o.op = .call { callee := .builtin .len, args := args.toArray, argTypes := ts })
    (h : match args.map (ev env) with
    | [.c (.sl _ _ n _)] => ((ts[0]?).bind (look F.sl)).isSome = true ∧ K (.c (.v (.int .i64 n))) []
    | _ => False) : o.wp P a w (Post o.dst a w0 M H K) Q := by
  split at h
  · rename_i id A m c hx
    obtain ⟨hl, hK⟩ := h
    obtain ⟨r0, hr0⟩ := Option.isSome_iff_exists.1 hl
    obtain ⟨t, hts, ht⟩ := Option.bind_eq_some_iff.1 hr0
    have hu := slT_under (hF.sl_ ht)
    generalize r0.1 = e at hu
    · obtain ⟨x, rfl, hx1⟩ := map_one hx
      have ex := eval_c hE hx1 (by simp)
      refine wp_pure hH _ _ hK (fun _ => rfl) ?_
      unfold execOp
      simp [ho, resolve, invoke, builtin, ex, C.den, SV.den, Builtin.len_, hts, run_underlying hu, goInt]
  · exact h.elim

theorem cap_sound (hF : TTok P F) {o : Oper} {Q : Exit → Act → World → Prop} (hE : EnvOk n env a) (hH : HSat w0 M H w) (args : List Operand) (ts : Array TypeId) (ho : o.op = .call { callee := .builtin .cap, args := args.toArray, argTypes := ts })
    (h : match args.map (ev env) with
    | [.c (.sl _ _ _ c)] => ((ts[0]?).bind (look F.sl)).isSome = true ∧ K (.c (.v (.int .i64 c))) []
    | _ => False) : o.wp P a w (Post o.dst a w0 M H K) Q := by
  split at h
  · rename_i id A m c hx
    obtain ⟨hl, hK⟩ := h
    obtain ⟨r0, hr0⟩ := Option.isSome_iff_exists.1 hl
    obtain ⟨t, hts, ht⟩ := Option.bind_eq_some_iff.1 hr0
    have hu := slT_under (hF.sl_ ht)
    generalize r0.1 = e at hu
    · obtain ⟨x, rfl, hx1⟩ := map_one hx
      have ex := eval_c hE hx1 (by simp)
      refine wp_pure hH _ _ hK (fun _ => rfl) ?_
      unfold execOp
      simp [ho, resolve, invoke, builtin, ex, C.den, SV.den, Builtin.cap_, hts, run_underlying hu, goInt]
  · exact h.elim

theorem max_sound {o : Oper} {Q : Exit → Act → World → Prop} (hE : EnvOk n env a) (hH : HSat w0 M H w) (args : List Operand) (ts : Array TypeId) (ho : o.op = .call { callee := .builtin .max, args := args.toArray, argTypes := ts })
    (h : match foldT (fun a b => if b > a then b else a) (args.map (ev env)) with
    | some (k, a) => K (.c (.v (.int k a))) []
    | none => False) : o.wp P a w (Post o.dst a w0 M H K) Q := by
  split at h
  · rename_i k i hf
    rcases fold_sound _ _ _ _ hf with hx | ⟨x, y, hx, rfl⟩
    · obtain ⟨x, rfl, hx1⟩ := map_one hx
      · have ex := eval_v hE hx1
        refine wp_pure hH _ _ h (fun _ => rfl) ?_
        unfold execOp
        simp [ho, resolve, invoke, builtin, ex, C.den, SV.den, Builtin.max_]
    · obtain ⟨x1, y1, rfl, hx1, hy1⟩ := map_two hx
      · have ex := eval_v hE hx1
        have ey := eval_v hE hy1
        refine wp_pure hH _ _ h (fun _ => rfl) ?_
        unfold execOp
        simp [ho, resolve, invoke, builtin, ex, ey, C.den, SV.den, Builtin.max_, Builtin.max2]
  · exact h.elim

theorem min_sound {o : Oper} {Q : Exit → Act → World → Prop} (hE : EnvOk n env a) (hH : HSat w0 M H w) (args : List Operand) (ts : Array TypeId) (ho : o.op = .call { callee := .builtin .min, args := args.toArray, argTypes := ts })
    (h : match foldT (fun a b => if b < a then b else a) (args.map (ev env)) with
    | some (k, a) => K (.c (.v (.int k a))) []
    | none => False) : o.wp P a w (Post o.dst a w0 M H K) Q := by
  split at h
  · rename_i k i hf
    rcases fold_sound _ _ _ _ hf with hx | ⟨x, y, hx, rfl⟩
    · obtain ⟨x, rfl, hx1⟩ := map_one hx
      · have ex := eval_v hE hx1
        refine wp_pure hH _ _ h (fun _ => rfl) ?_
        unfold execOp
        simp [ho, resolve, invoke, builtin, ex, C.den, SV.den, Builtin.min_]
    · obtain ⟨x1, y1, rfl, hx1, hy1⟩ := map_two hx
      · have ex := eval_v hE hx1
        have ey := eval_v hE hy1
        refine wp_pure hH _ _ h (fun _ => rfl) ?_
        unfold execOp
        simp [ho, resolve, invoke, builtin, ex, ey, C.den, SV.den, Builtin.min_, Builtin.min2]
  · exact h.elim

theorem func_sound (X : Ctx P) {o : Oper} {Q : Exit → Act → World → Prop} (hE : EnvOk n env a) (hH : HSat w0 M H w) (f : FuncId) (args : List Operand) (ts : Array TypeId)
    (ho : o.op = .call { callee := .value (.func f), args := args.toArray, argTypes := ts }) (ids : List Nat) (hk : (args.map (ev env)).all SV.known = true)
    (hS : (X.Γ f (args.map (ev env)) (restrict H ids) d).side ∧ ∀ v u, (X.Γ f (args.map (ev env)) (restrict H ids) d).R v u → K v u) : o.wp P a w (Post o.dst a w0 M H K) Q := by
  obtain ⟨fn, c, hf, hb, hn⟩ := (X.ok f).body _ _ _ hS.1
  have hc := (X.ok f).run _ _ H d w0 M w hS.1 (fun i e => restrict_some) hH
  unfold Oper.wp
  have hrun : (execOp a.eval o).run P w = .ok (.enter f ((args.map (ev env)).map SV.den).toArray) w := by
    unfold execOp
    have := args_eval (a := a) hE args hk
    simp only [ho, resolve, Act.eval, Deferred.ofValue, Sem.run_bind, Sem.run_pure, Result.andThen_ok, invoke, Array.append_empty]
    rw [show (#[] ++ args.toArray.map a.eval : Array Value) = ((args.map (ev env)).map SV.den).toArray from by
      rw [List.map_toArray, this]; simp]
    exact callFunc_run f fn c hf hb hn _ w
  rw [hrun, Oper.upon_enter]
  refine hc.mono ?_
  rintro e w' ⟨v, u, x, rfl, hR, hx, hH'⟩
  exact ⟨v, u, x, hS.2 v u hR, rfl, hx, hH'⟩

theorem call_sound (X : Ctx P) {o : Oper} {Q : Exit → Act → World → Prop} (hE : EnvOk n env a) (hH : HSat w0 M H w) (c : Call) (ho : o.op = .call c) (ids : List Nat)
    (h : callT X.F X.Γ c.callee (c.args.toList.map (ev env)) c.argTypes (restrict H ids) d K) : o.wp P a w (Post o.dst a w0 M H K) Q := by
  obtain ⟨callee, ⟨args⟩, ts⟩ := c
  cases callee with
  | invoke r m => exact h.elim
  | value f =>
    cases f with
    | func f => exact func_sound X hE hH f args ts ho ids h.1 h.2
    | tmp _ => exact h.elim
    | const _ => exact h.elim
    | global _ => exact h.elim
  | builtin b =>
    cases b with
    | len => exact len_sound X.Fok hE hH args ts ho h
    | cap => exact cap_sound X.Fok hE hH args ts ho h
    | max => exact max_sound hE hH args ts ho h
    | min => exact min_sound hE hH args ts ho h
    | append =>
      simp only [callT] at h
      split at h
      · rename_i x y hx
        · obtain ⟨x1, y1, rfl, rfl, rfl⟩ := map_two hx
          exact append_sound X.Fok hE hH x1 y1 ts h.1 ho ids h.2
      · exact h.elim
    | _ => exact h.elim

theorem flat_rep (z : List C) : ∀ n : Nat, (List.replicate n z).flatten.length = n * z.length ∧ ∀ k, k < n * z.length → (List.replicate n z).flatten[k]? = z[k % z.length]?
  | 0 => ⟨by simp, fun k h => by omega⟩
  | n + 1 => by
    obtain ⟨h1, h2⟩ := flat_rep z n
    rw [List.replicate_succ, List.flatten_cons]
    refine ⟨by rw [List.length_append, h1, Nat.add_mul]; omega, fun k hk => ?_⟩
    by_cases hz : k < z.length
    · rw [List.getElem?_append_left hz, Nat.mod_eq_of_lt hz]
    · rw [List.getElem?_append_right (by omega), h2 _ (by rw [Nat.add_mul] at hk; omega), ← Nat.mod_eq_sub_mod (by omega)]
theorem make_sound (hF : TTok P F) {o : Oper} {Q : Exit → Act → World → Prop} (hE : EnvOk n env a) (hH : HSat w0 M H w) (t : TypeId) (x y : Operand) (ho : o.op = .makeSlice t x y)
    (h : makeT F t (ev env x) (ev env y) d K) : o.wp P a w (Post o.dst a w0 M H K) Q := by
  unfold makeT at h
  split at h
  · rename_i e sz bytes zs k1 m k2 m' hu hx hy
    split at h
    case h_2 => exact h.elim
    rename_i z hz
    obtain ⟨hzl, hpos, rfl, ⟨h0, hb, hm⟩, hK⟩ := h
    have hz := hF.ze_ hz
    have hu := hF.sl_ hu
    unfold slT at hu
    split at hu
    · rename_i e' hd
      split at hu
      · rename_i inf hi
        obtain ⟨z0, hz0, hms⟩ := Option.map_eq_some_iff.1 hu
        injection hms with he hms
        injection hms with hs hms
        injection hms with hb' hz'
        subst he
        unfold zeroT at hz
        obtain ⟨z1, hz1, hz2⟩ := Option.map_eq_some_iff.1 hz
        obtain ⟨i1, hi1, hz3⟩ := Option.bind_eq_some_iff.1 hz1
        rw [hi] at hi1
        injection hi1 with hi1
        subst hi1
        rw [hz0] at hz3
        injection hz3 with hz3
        subst hz3
        have ex := eval_v hE hx
        have ey := eval_v hE hy
        have hr := run_make (P := P) w t e' inf z0 hd hi hz0 k1 k2 m m h0 (Int.le_refl _) (by rw [hb']; rw [Int.mul_comm]; exact hb) (by have := hm; simp only [maxLen] at this; omega)
        have hsz : z0.cells.size = sz := by rw [← hzl, ← hz2]; simp
        refine wp_made (w' := w.alloc (.cells (madeCells z0.cells (m.toNat * inf.size)) e')) _ _ (.slice (some ⟨w.heap.size, 0, none⟩) m.toNat m.toNat) (fun _ => rfl) (hK (some ⟨w.heap.size, 0, none⟩)) ?_ ?_
        · obtain ⟨f1, f2⟩ := flat_rep z m.toNat
          have hcells : (madeCells z0.cells (m.toNat * inf.size)).toList = ((List.replicate m.toNat z).flatten).map C.den := by
            apply List.ext_getElem?
            intro j
            rw [List.getElem?_map]
            by_cases hj : j < m.toNat * sz
            · rw [f2 j (by rw [hzl]; exact hj), hzl]
              have hlt : j % sz < z.length := by rw [hzl]; exact Nat.mod_lt _ hpos
              rw [List.getElem?_eq_getElem hlt]
              simp only [Array.getElem?_toList, madeCells, hs]
              rw [Array.getElem?_map]
              have : (Array.range (m.toNat * sz))[j]? = some j := by simp [hj]
              rw [this]
              simp only [Option.map_some, hsz]
              congr 1
              have e1 : (z.map C.den)[j % sz]? = z0.cells[j % sz]? := by rw [← hz2, map_den_cOf]; simp
              have hlt2 : j % sz < z0.cells.size := by rw [hsz]; exact Nat.mod_lt _ hpos
              rw [List.getElem?_map, List.getElem?_eq_getElem hlt, Array.getElem?_eq_getElem hlt2] at e1
              simp only [Option.map_some, Option.some.injEq] at e1
              rw [e1]
              simp [hlt2]
            · rw [List.getElem?_eq_none (l := (List.replicate m.toNat z).flatten) (by rw [f1, hzl]; omega), Array.getElem?_toList, Array.getElem?_eq_none (by rw [size_madeCells, hs]; omega)]
              rfl
          have := hH.newRow (d := e') none (fun _ _ => trivial) (w.alloc (.cells (madeCells z0.cells (m.toNat * inf.size)) e')) (madeCells z0.cells (m.toNat * inf.size)) rfl rfl rfl rfl d m.toNat e' sz m.toNat (List.replicate m.toNat z).flatten rfl (by rw [f1, hzl]) (Nat.le_refl _) (by omega) (by rw [size_madeCells, hs]) (by rw [hcells]; exact List.take_of_length_le (by rw [List.length_map, f1, hzl]; exact Nat.le_refl _))
          simpa [upds, erase] using this
        · unfold execOp
          simp [ho, ex, ey, hr]
      · cases hu
    · cases hu
  · exact h.elim

/-- Every operation: it does what its predicate says. -/
theorem op_sound (X : Ctx P) (o : Oper) {Q : Exit → Act → World → Prop} (hE : EnvOk n env a) (hH : HSat w0 M H w) (ids : List Nat)
    (h : opT X.F X.Γ o.op (ev env) (restrict H ids) d K) : o.wp P a w (Post o.dst a w0 M H K) Q := by
  have hmove : ∀ x, K (ev env x) [] → (execOp a.eval o).run P w = .ok (.value (a.eval x)) w → o.wp P a w (Post o.dst a w0 M H K) Q := fun x hK hr =>
    wp_pure hH _ _ hK (fun hk => eval_ev hE x hk) hr
  cases ho : o.op with
  | move x => rw [ho] at h; exact hmove x h (by unfold execOp; rw [ho]; rfl)
  | assign x => rw [ho] at h; exact hmove x h (by unfold execOp; rw [ho]; rfl)
  | pick c x y =>
    rw [ho] at h
    simp only [opT] at h
    split at h
    · rename_i t hc
      have ec := eval_v hE hc
      cases t with
      | true => exact hmove x (h.1 rfl) (by unfold execOp; simp [ho, ec, asBool])
      | false => exact hmove y (h.2 rfl) (by unfold execOp; simp [ho, ec, asBool])
    · exact h.elim
  | alloc t => rw [ho] at h; exact alloc_sound X.Fok hE hH t ho h
  | box t x => rw [ho] at h; exact box_sound hE hH t x ho h
  | build t ps => rw [ho] at h; exact build_sound X.Fok hE hH t ps ho h
  | buildSlice t m ps => rw [ho] at h; exact buildSlice_sound X.Fok hE hH t m ps ho h
  | load t x => rw [ho] at h; exact load_sound X.Fok hE hH t x ho ids h
  | store t x y => rw [ho] at h; exact store_sound X.Fok hE hH t x y ho ids h
  | nilCheck x =>
    rw [ho] at h
    simp only [opT] at h
    split at h
    · rename_i i b off hx
      have ex := eval_c hE hx (by simp)
      exact wp_pure hH _ _ h (fun _ => rfl) (by unfold execOp; simp [ho, ex, C.den, SV.den])
    · rename_i i A k hx
      have ex := eval_c hE hx (by simp)
      exact wp_pure hH _ _ h (fun _ => rfl) (by unfold execOp; simp [ho, ex, C.den, SV.den])
    · exact h.elim
  | binOp op t x y t' => rw [ho] at h; exact bin_sound X.Fok hE hH op t t' x y ho h
  | unOp op t x =>
    rw [ho] at h
    cases op with
    | not =>
      simp only [opT] at h
      split at h
      · rename_i b hx
        have ex := eval_v hE hx
        exact wp_pure hH _ _ h (fun _ => rfl) (by unfold execOp; simp [ho, ex, C.den, SV.den, Op.unary])
      · exact h.elim
    | neg =>
      simp only [opT] at h
      split at h
      · rename_i k m hx
        have ex := eval_v hE hx
        exact wp_pure hH _ _ h (fun _ => rfl) (by unfold execOp; simp [ho, ex, C.den, SV.den, Op.unary, Op.intArith])
      · exact h.elim
    | _ => exact h.elim
  | convert s t x =>
    rw [ho] at h
    simp only [opT] at h
    split at h
    · rename_i k1 m k k2 hx hk hs
      have ex := eval_v hE hx
      have hk := X.Fok.int_ hk
      have hs := X.Fok.int_ hs
      have h1 : P.underlying t = some (.int k) := by unfold intT at hk; split at hk <;> simp_all
      have h2 : P.underlying s = some (.int k2) := by unfold intT at hs; split at hs <;> simp_all
      exact wp_pure hH _ _ h (fun _ => rfl) (by unfold execOp; simp [ho, ex, C.den, SV.den, convert, run_underlying h1, run_underlying h2, Conv.intToInt])
    · exact h.elim
  | fieldAddr t x f => rw [ho] at h; exact field_sound X.Fok hE hH t x f ho h
  | indexAddr t x y => rw [ho] at h; exact index_sound X.Fok hE hH t x y ho ids h
  | slice t x lo hi mx => rw [ho] at h; exact slice_sound X.Fok hE hH t x lo hi mx ho ids h
  | makeSlice t x y => rw [ho] at h; exact make_sound X.Fok hE hH t x y ho h
  | extract x i =>
    rw [ho] at h
    simp only [opT] at h
    split at h
    · rename_i l hx
      have ex : a.eval x = .tuple (l.map SV.den0).toArray := by
        rw [eval_ev hE x (by rw [hx]; rfl), hx]; rfl
      split at h
      · exact h.elim
      · rename_i s hs hl
        refine wp_pure hH _ s.den0 h (fun _ => by cases s <;> first | rfl | exact absurd rfl (hs _)) ?_
        unfold execOp
        have : (l.map SV.den0).toArray[i]? = some s.den0 := by simp [hl]
        simp only [ho, ex, Instr.extract, this]
        rfl
      · exact h.elim
    · exact h.elim
  | call c => rw [ho] at h; exact call_sound X hE hH c ho ids h
  | _ => rw [ho] at h; exact h.elim

end Go.Proofs.Ytjlgeoaomegbmaa.Eng
