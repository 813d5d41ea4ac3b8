/- Texts of this work, laid together: symbolic execution over the model, contracts of the program's functions, what they come to; conditions: as each says. -/
import Derived.Test.YtbcicjmepojlnaaGreatPkGBV
/- The reference's changes: the pure facts; no condition but those typed. -/
namespace Go.Proofs.YtbcicjmepojlnaaGreat.Eng
open Go Go.RowKit
set_option autoImplicit false
set_option linter.unusedSimpArgs false
set_option linter.unusedVariables false
set_option linter.unusedSectionVars false
theorem an_cells (x : An) : (x.er == x.er && (x.v == x.v && (x.t.p == x.t.p && (x.t.sh == x.t.sh && (x.t.b == x.t.b && (x.t.o == x.t.o && true)))))) = true := by simp
theorem sm_self (l : List Ar) : sameL l l = true := (sameL_iff l l).2 rfl
theorem brk_sm {l : List Ar} {m w : Int} (h : brkSame l m w = true) : brkL l m w = l := by
  unfold brkSame at h
  rw [Bool.or_eq_true] at h
  rcases h with h | h
  · unfold brkL
    split
    · rfl
    · rfl
  · exact (brk_self h).1
def doSame (l : List Ar) (b : Int) (c : Cl) : Bool := if (c.k == 0) = true then (mapN l c).er != 0 else if (c.k == 1) = true then (unN l c).er != 0 else if (c.k == 2) = true then (protN l c).er != 0 else if (c.k == 3) = true then (remN l c).er != 0 else if (c.k == 4) = true then brkSame l b c.a else true
section
variable {l : List Ar} {b : Int} (h : spR l b = true) {k a n w to p f q o : Int}
include h
theorem d14_0 (h0 : (k == 0) = true) : doL l b ⟨k, a, n, w, to, p, f, q, o⟩ = mapL l ⟨k, a, n, w, to, p, f, q, o⟩ ∧ doB l b ⟨k, a, n, w, to, p, f, q, o⟩ = b ∧ doN l b ⟨k, a, n, w, to, p, f, q, o⟩ = mapN l ⟨k, a, n, w, to, p, f, q, o⟩ ∧ doSame l b ⟨k, a, n, w, to, p, f, q, o⟩ = ((mapN l ⟨k, a, n, w, to, p, f, q, o⟩).er != 0) := by
  unfold doL doB doN doSame
  simp only [h, h0, Bool.not_true, Bool.false_eq_true, if_true, if_false, and_self]
theorem d14_1 (h0 : (k == 0) = false) (h1 : (k == 1) = true) : doL l b ⟨k, a, n, w, to, p, f, q, o⟩ = unL l ⟨k, a, n, w, to, p, f, q, o⟩ ∧ doB l b ⟨k, a, n, w, to, p, f, q, o⟩ = b ∧ doN l b ⟨k, a, n, w, to, p, f, q, o⟩ = unN l ⟨k, a, n, w, to, p, f, q, o⟩ ∧ doSame l b ⟨k, a, n, w, to, p, f, q, o⟩ = ((unN l ⟨k, a, n, w, to, p, f, q, o⟩).er != 0) := by
  unfold doL doB doN doSame
  simp only [h, h0, h1, Bool.not_true, Bool.false_eq_true, if_true, if_false, and_self]
theorem d14_2 (h0 : (k == 0) = false) (h1 : (k == 1) = false) (h2 : (k == 2) = true) : doL l b ⟨k, a, n, w, to, p, f, q, o⟩ = protL l ⟨k, a, n, w, to, p, f, q, o⟩ ∧ doB l b ⟨k, a, n, w, to, p, f, q, o⟩ = b ∧ doN l b ⟨k, a, n, w, to, p, f, q, o⟩ = protN l ⟨k, a, n, w, to, p, f, q, o⟩ ∧ doSame l b ⟨k, a, n, w, to, p, f, q, o⟩ = ((protN l ⟨k, a, n, w, to, p, f, q, o⟩).er != 0) := by
  unfold doL doB doN doSame
  simp only [h, h0, h1, h2, Bool.not_true, Bool.false_eq_true, if_true, if_false, and_self]
theorem d14_3 (h0 : (k == 0) = false) (h1 : (k == 1) = false) (h2 : (k == 2) = false) (h3 : (k == 3) = true) : doL l b ⟨k, a, n, w, to, p, f, q, o⟩ = remL l ⟨k, a, n, w, to, p, f, q, o⟩ ∧ doB l b ⟨k, a, n, w, to, p, f, q, o⟩ = b ∧ doN l b ⟨k, a, n, w, to, p, f, q, o⟩ = remN l ⟨k, a, n, w, to, p, f, q, o⟩ ∧ doSame l b ⟨k, a, n, w, to, p, f, q, o⟩ = ((remN l ⟨k, a, n, w, to, p, f, q, o⟩).er != 0) := by
  unfold doL doB doN doSame
  simp only [h, h0, h1, h2, h3, Bool.not_true, Bool.false_eq_true, if_true, if_false, and_self]
theorem d14_4 (h0 : (k == 0) = false) (h1 : (k == 1) = false) (h2 : (k == 2) = false) (h3 : (k == 3) = false) (h4 : (k == 4) = true) : doL l b ⟨k, a, n, w, to, p, f, q, o⟩ = brkL l b a ∧ doB l b ⟨k, a, n, w, to, p, f, q, o⟩ = brkV l b a ∧ doN l b ⟨k, a, n, w, to, p, f, q, o⟩ = brkN l b a ∧ doSame l b ⟨k, a, n, w, to, p, f, q, o⟩ = brkSame l b a := by
  unfold doL doB doN doSame
  simp only [h, h0, h1, h2, h3, h4, Bool.not_true, Bool.false_eq_true, if_true, if_false, and_self]
theorem d14_5 (h0 : (k == 0) = false) (h1 : (k == 1) = false) (h2 : (k == 2) = false) (h3 : (k == 3) = false) (h4 : (k == 4) = false) (h5 : (k == 5) = true) : doL l b ⟨k, a, n, w, to, p, f, q, o⟩ = l ∧ doB l b ⟨k, a, n, w, to, p, f, q, o⟩ = b ∧ doN l b ⟨k, a, n, w, to, p, f, q, o⟩ = faultN l ⟨k, a, n, w, to, p, f, q, o⟩ ∧ doSame l b ⟨k, a, n, w, to, p, f, q, o⟩ = true := by
  unfold doL doB doN doSame
  simp only [h, h0, h1, h2, h3, h4, h5, Bool.not_true, Bool.false_eq_true, if_true, if_false, and_self]
theorem d14_6 (h0 : (k == 0) = false) (h1 : (k == 1) = false) (h2 : (k == 2) = false) (h3 : (k == 3) = false) (h4 : (k == 4) = false) (h5 : (k == 5) = false) : doL l b ⟨k, a, n, w, to, p, f, q, o⟩ = l ∧ doB l b ⟨k, a, n, w, to, p, f, q, o⟩ = b ∧ doN l b ⟨k, a, n, w, to, p, f, q, o⟩ = errA 1 ∧ doSame l b ⟨k, a, n, w, to, p, f, q, o⟩ = true := by
  unfold doL doB doN doSame
  simp only [h, h0, h1, h2, h3, h4, h5, Bool.not_true, Bool.false_eq_true, if_true, if_false, and_self]
theorem spR_two : mayS l = true ∧ brkR b = true := by
  unfold spR at h
  rw [Bool.and_eq_true] at h
  exact h
end
theorem doSame_l {l : List Ar} {b : Int} {c : Cl} (h : spR l b = true) (hs : doSame l b c = true) : doL l b c = l := by
  obtain ⟨k, a, n, w, to, p, f, q, o⟩ := c
  cases h0 : (k == 0) with
  | true =>
    obtain ⟨e1, _, _, e4⟩ := d14_0 (a := a) (n := n) (w := w) (to := to) (p := p) (f := f) (q := q) (o := o) h h0
    rw [e4] at hs
    rw [e1]
    exact map_self hs
  | false =>
    cases h1 : (k == 1) with
    | true =>
      obtain ⟨e1, _, _, e4⟩ := d14_1 (a := a) (n := n) (w := w) (to := to) (p := p) (f := f) (q := q) (o := o) h h0 h1
      rw [e4] at hs
      rw [e1]
      exact un_self hs
    | false =>
      cases h2 : (k == 2) with
      | true =>
        obtain ⟨e1, _, _, e4⟩ := d14_2 (a := a) (n := n) (w := w) (to := to) (p := p) (f := f) (q := q) (o := o) h h0 h1 h2
        rw [e4] at hs
        rw [e1]
        exact pro_stay hs
      | false =>
        cases h3 : (k == 3) with
        | true =>
          obtain ⟨e1, _, _, e4⟩ := d14_3 (a := a) (n := n) (w := w) (to := to) (p := p) (f := f) (q := q) (o := o) h h0 h1 h2 h3
          rw [e4] at hs
          rw [e1]
          exact rem_self hs
        | false =>
          cases h4 : (k == 4) with
          | true =>
            obtain ⟨e1, _, _, e4⟩ := d14_4 (a := a) (n := n) (w := w) (to := to) (p := p) (f := f) (q := q) (o := o) h h0 h1 h2 h3 h4
            rw [e4] at hs
            rw [e1]
            exact brk_sm hs
          | false =>
            cases h5 : (k == 5) with
            | true => exact (d14_5 h h0 h1 h2 h3 h4 h5).1
            | false => exact (d14_6 h h0 h1 h2 h3 h4 h5).1
theorem do_err {l : List Ar} {b : Int} {c : Cl} (h : spR l b = true) (he : ((doN l b c).er != 0) = true) : doL l b c = l ∧ doB l b c = b := by
  obtain ⟨k, a, n, w, to, p, f, q, o⟩ := c
  cases h0 : (k == 0) with
  | true =>
    obtain ⟨e1, e2, e3, _⟩ := d14_0 (a := a) (n := n) (w := w) (to := to) (p := p) (f := f) (q := q) (o := o) h h0
    rw [e3] at he
    exact ⟨by rw [e1]; exact map_self he, e2⟩
  | false =>
    cases h1 : (k == 1) with
    | true =>
      obtain ⟨e1, e2, e3, _⟩ := d14_1 (a := a) (n := n) (w := w) (to := to) (p := p) (f := f) (q := q) (o := o) h h0 h1
      rw [e3] at he
      exact ⟨by rw [e1]; exact un_self he, e2⟩
    | false =>
      cases h2 : (k == 2) with
      | true =>
        obtain ⟨e1, e2, e3, _⟩ := d14_2 (a := a) (n := n) (w := w) (to := to) (p := p) (f := f) (q := q) (o := o) h h0 h1 h2
        rw [e3] at he
        exact ⟨by rw [e1]; exact pro_stay he, e2⟩
      | false =>
        cases h3 : (k == 3) with
        | true =>
          obtain ⟨e1, e2, e3, _⟩ := d14_3 (a := a) (n := n) (w := w) (to := to) (p := p) (f := f) (q := q) (o := o) h h0 h1 h2 h3
          rw [e3] at he
          exact ⟨by rw [e1]; exact rem_self he, e2⟩
        | false =>
          cases h4 : (k == 4) with
          | true =>
            obtain ⟨e1, e2, e3, _⟩ := d14_4 (a := a) (n := n) (w := w) (to := to) (p := p) (f := f) (q := q) (o := o) h h0 h1 h2 h3 h4
            rw [e3] at he
            rw [e1, e2]
            exact brk_self he
          | false =>
            cases h5 : (k == 5) with
            | true =>
              obtain ⟨e1, e2, _, _⟩ := d14_5 (a := a) (n := n) (w := w) (to := to) (p := p) (f := f) (q := q) (o := o) h h0 h1 h2 h3 h4 h5
              exact ⟨e1, e2⟩
            | false =>
              obtain ⟨e1, e2, _, _⟩ := d14_6 (a := a) (n := n) (w := w) (to := to) (p := p) (f := f) (q := q) (o := o) h h0 h1 h2 h3 h4 h5
              exact ⟨e1, e2⟩
def InD (c : Cl) : Prop := In64 c.a ∧ In64 c.f ∧ In64 c.o ∧ In64 c.to
def okD (l : List Cl) : Prop := ∀ c ∈ l, InD c
theorem okD_C {l : List Cl} (h : okD l) : okC l := fun c hc => ⟨(h c hc).1, (h c hc).2.1⟩
theorem okD_nth {l : List Cl} (h : okD l) {i : Nat} (hi : i < l.length) : InD (nthCl l i) := h _ (List.mem_of_getElem? (nthCl_get hi))
theorem an_no {x : An} (h : (!(x.er == x.er && (x.v == x.v && (x.t.p == x.t.p && (x.t.sh == x.t.sh && (x.t.b == x.t.b && (x.t.o == x.t.o && true))))))) = true) : False := by
  rw [an_cells] at h
  cases h
theorem s14_a {l : List Ar} {b : Int} {c : Cl} (h : spR l b = true) (hs : doSame l b c = true) : ((doB l b c == doB l b c) && sameL (doL l b c) l) = true := by
  rw [doSame_l h hs, sm_self, beq_self_eq_true]
  rfl
theorem s14_b {l : List Ar} {b : Int} : ((b == b) && sameL l l) = true := by
  rw [sm_self, beq_self_eq_true]
  rfl
theorem s14_c {l : List Ar} {b : Int} {c : Cl} (h : spR l b = true) (he : ((doN l b c).er != 0) = true) : ((doB l b c == b) && sameL (doL l b c) l) = true := by
  obtain ⟨e1, e2⟩ := do_err h he
  rw [e1, e2, sm_self, beq_self_eq_true]
  rfl
theorem pl_len {l : List Cl} : ((((stA l).length : Nat) : Int) == ((l.length : Nat) : Int)) = true := by rw [stA_len, beq_self_eq_true]
theorem cl_eta (c : Cl) : (⟨c.k, c.a, c.n, c.w, c.to, c.p, c.f, c.b, c.o⟩ : Cl) = c := rfl
theorem cl_ixP {i n : Nat} (h : i < n) : 0 < 9 ∧ 0 ≤ ((i : Nat) : Int) ∧ ((i : Nat) : Int) < (n : Int) := by omega
theorem aw_ok : okC [(⟨0, 0, 1, 0, 0, 1, 0, 0, 0⟩ : Cl)] := by
  intro c hc
  rw [List.mem_singleton] at hc
  subst hc
  exact ⟨by unfold In64; decide, by unfold In64; decide⟩
theorem aw_v : (encAs (stA [(⟨0, 0, 1, 0, 0, 1, 0, 0, 0⟩ : Cl)]))[((0 : Int)).toNat * 6 + 1]? = some (.v (.int .i64 2093056)) := by kernel_rfl
end Go.Proofs.YtbcicjmepojlnaaGreat.Eng
/- Contracts of functions (printed by genx.py of this work): what each hands back; condition: as its 'hside' says. -/
namespace Go.Proofs.YtbcicjmepojlnaaGreat.Eng
open Go Go.RowKit
set_option linter.unusedVariables false
set_option linter.unusedSimpArgs false
theorem b_cright : Bodied Tryz.prog 9 := bodied Tryz.func9 rfl (by decide)
def F_cright : FunX2 := fun κ avs => match avs with
  | [.spv l xl lb] => some (κ _ (l.length ≤ 300000), (.val (.c (.v (.bool (κ _ (spR l lb)))))))
  | _ => none
set_option maxRecDepth 100000 in
set_option maxHeartbeats 4000000 in
theorem k_cright (l : List Ar) (lb : Int) (Al : Option Addr) (cl : Nat) (hside : l.length ≤ 300000) (w : World) (hl : (Ent.rd Al 6 l.length (encL l)).holds w) :
    Calls Tryz.prog 9 #[(SV.agg [.sl 200000 Al l.length cl, .v (.int .i64 lb)]).den] w fun e w' => ∃ v H', e = .returned v.den ∧ IsX (.val (.c (.v (.bool (spR l lb))))) v H' ∧ HSat w (fun _ => False) H' w' := by
  obtain ⟨κ, hκ⟩ : ∃ κ : Kp, κ = kid := ⟨_, rfl⟩
  have hH : HSat w (fun _ => False) (heapOf [(nilId, .rd none 1 0 []), (200000, .rd Al 6 (κ _ l.length) (κ _ (encL l)))]) w := by
    subst hκ
    refine HSat.reads fun p hp => ?_
    simp only [List.mem_cons, List.not_mem_nil, or_false] at hp
    rcases hp with rfl | rfl
    · exact ⟨_, _, _, _, rfl, nil_holds w⟩
    · exact ⟨_, _, _, _, rfl, hl⟩
  refine (callsP (n := 17) FTok [e_right hκ, e_bright hκ] mixed [] Tryz.func9 rfl (by kernel_rfl) #[(SV.agg [.sl 200000 Al l.length cl, .v (.int .i64 lb)]).den] [(0, .agg [.sl 200000 Al (κ _ l.length) cl, .v (.int .i64 lb)])] _ w rfl [.tmp 2] rfl (by simp) (by subst hκ; simp [SV.den, C.den, kid]) hH (fun v H' => IsX (.val (.c (.v (.bool (κ _ (spR l lb)))))) v H') hκ ?_).mono ?_
  rotate_left
  · subst hκ; intro e w' h; exact h
  intro P' hP'
  cbv
  repeat' (first | refine And.intro ?_ ?_ | (intro _; cbv) | (refine tst_mk (fun h => ?_) (fun h => ?_) <;> cbv) | (refine LookX.nil ?_; cbv) | (refine LookX.auto hκ ?_; cbv))
  all_goals (try (show Side _; refine ⟨?_⟩; subst hκ; delta kid at *; first | exact rfl | exact trivial | exact ⟨rfl, rfl, .inl rfl⟩ | ((try dsimp only at *); (try simp only [setTo_len, noS_len, List.length_append, List.length_cons, List.length_nil, List.length_map, and_self, true_or, or_true, eq_self, true_and, and_true, Nat.zero_add, Nat.add_zero]); (first | done | omega); done)))
  all_goals (clear hH; subst hκ; delta kid at *; (try dsimp only at *))
  all_goals (try (exact ⟨trivial⟩))
  all_goals (try (exact ⟨by decide⟩))
  all_goals (show IsX _ _ _; refine IsX.val_ ?_; simp only [SV.den, SV.den0, C.den, List.map_cons, List.map_nil, spR, mayS, GT.gt, GE.ge]; (try simp only [*, Bool.or_true, Bool.true_or, Bool.or_false, Bool.false_or, Bool.and_true, Bool.true_and, Bool.and_false, Bool.false_and, Bool.not_true, Bool.not_false, if_true, if_false, Bool.false_eq_true]); (first | done | rfl | (exfalso; simp_all; done) | skip))
def e_cright {κ : Kp} (hκ : κ = kid) : ESpec Tryz.prog := fn2ES [.sp] b_cright F_cright hκ fun avs p r hF hp => by
  unfold F_cright at hF
  split at hF
  case h_2 => cases hF
  rename_i l xl lb
  simp only [kid, Option.some.injEq, Prod.mk.injEq] at hF
  obtain ⟨rfl, rfl⟩ := hF
  refine ⟨trivial, fun vs w hR => ?_⟩
  obtain ⟨il, Al, cl, vs0, rfl, rfl, hl, hR⟩ := hR
  have hR' : vs0 = [] := hR
  subst hR'
  exact k_cright l lb Al cl hp w hl
end Go.Proofs.YtbcicjmepojlnaaGreat.Eng
