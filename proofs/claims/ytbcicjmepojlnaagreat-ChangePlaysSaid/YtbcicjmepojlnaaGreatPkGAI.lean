/- Texts of this work, laid together: symbolic execution over the model, contracts of the program's functions, what they come to; conditions: as each says. -/
import Derived.Test.YtbcicjmepojlnaaGreatPkGAH
/- As callsE, loopG, with the program's name kept shut, and great arrays among the results; no condition. -/
namespace Go.Proofs.YtbcicjmepojlnaaGreat.Eng
open Go Go.RowKit
set_option autoImplicit false
set_option linter.unusedSimpArgs false
set_option linter.unusedVariables false
variable {P : Program} {w0 w w' : World} {M : Nat → Prop}
def resTK (κ : Kp) (F : TT) : List ResultVar → Env → Heap → (List SV → Prop) → Prop
  | [], env, H, K => K []
  | .tmp t :: r, env, H, K => match env t with
    | .tup _ => False
    | .c .any => False
    | x => resTK κ F r env H fun l => K (x :: l)
  | .cell t ty :: r, env, H, K => match env t with
    | .c (.loc id b off) => match H id with
      | some (.blk b' t' cs) => b = b' ∧ match look F.sz ty with
        | some (true, m) => match big F t' with
          | true => LookN (κ _ (takeM cs off m)) fun l0 => resTK κ F r env H fun l => K (.agg l0 :: l)
          | false => off + m ≤ cs.length ∧ resTK κ F r env H fun l => K (.agg ((cs.drop off).take m) :: l)
        | some (false, _) => match cs[off]? with
          | some x => resTK κ F r env H fun l => K (.c x :: l)
          | none => False
        | none => False
      | _ => False
    | _ => False
theorem resTK_eq (F : TT) (env : Env) (H : Heap) : ∀ (rs : List ResultVar) (K : List SV → Prop), resTK kid F rs env H K = resTE F rs env H K
  | [], K => rfl
  | .tmp t :: r, K => by
    simp only [resTK, resTE]
    generalize env t = y
    cases y with
    | tup l => rfl
    | agg l => exact resTK_eq F env H r _
    | c x => cases x <;> first | rfl | exact resTK_eq F env H r _
  | .cell t ty :: r, K => by
    simp only [resTK, resTE, kid, LookM_eq]
    cases env t with
    | c x =>
      cases x with
      | loc id b off =>
        simp only
        cases H id with
        | none => rfl
        | some e =>
          cases e with
          | blk b' t' cs =>
            simp only
            cases look F.sz ty with
            | none => rfl
            | some q =>
              obtain ⟨u, m⟩ := q
              cases u with
              | true =>
                cases big F t' with
                | true => simp only [resTK_eq F env H r]
                | false => simp only [resTK_eq F env H r]
              | false =>
                simp only
                cases cs[off]? with
                | none => rfl
                | some x => simp only [resTK_eq F env H r]
          | _ => rfl
      | _ => rfl
    | _ => rfl
def retQK (κ : Kp) (F : TT) (rs : List ResultVar) (R : SV → Heap → Prop) : QT
  | .exit _, _, _ => False
  | _, env, H => resTK κ F rs env H fun l => R (single l) H
theorem retQK_eq (F : TT) (rs : List ResultVar) (R : SV → Heap → Prop) : retQK kid F rs R = retQE F rs R := by
  funext x env H
  cases x with
  | normal => exact resTK_eq F env H rs _
  | ret => exact resTK_eq F env H rs _
  | exit id => rfl
theorem callsP {F : TT} (hF : TTok P F) (l : List (ESpec P)) (hm : P.follows .mixedOrders = true) {n : Nat} {f : FuncId} {fn : Func} {c : Code} (tabs : Tabs) (hf : P.funcs[f]? = some fn) (hb : fn.body = some c) (ht : tabsQ tabs c = true) (vs : Array Value) (L : List (Nat × SV)) (H : Heap) (w : World)
    (hn : fn.ntmps = n) (rs : List ResultVar) (hrs : fn.results.toList = rs) (hvs : vs.size ≤ n) (hL : ∀ p ∈ L, vs[p.1]? = some p.2.den) (hH : HSat w M H w) (R : SV → Heap → Prop) {κ : Kp} (hκ : κ = kid) (h : ∀ P', P' = P → vcE κ P' F (lookT l) (lookE l) n tabs c (retQK κ F rs R) (envOf L) H) :
    Calls P f vs w fun e w' => ∃ v H', e = .returned v.den ∧ R v H' ∧ HSat w M H' w' := by
  refine callsE hF l hm tabs hf hb ht vs L H w hn rs hrs hvs hL hH R hκ ?_
  have := h P rfl
  subst hκ
  rw [retQK_eq] at this
  exact this
theorem loopP {P' : Program} (hP : P' = P) {n : Nat} {F : TT} (hF : TTok P F) (l : List (ESpec P)) (hm : P.follows .mixedOrders = true) {tabs : Tabs} {body : Code} {Q : QT} {env : Env} {H : Heap} {σ : Type} (ks : List Nat) (L : σ → List (Nat × SV)) (E : σ → List (Nat × Ent)) (μ : σ → Nat) (s0 : σ) (ρ0 : List Nat)
    (h0 : FitsE env (keepE env ks (L s0))) (hn : ρ0.Nodup) (h1 : FitsG H ρ0 (E s0)) {κ : Kp} (hκ : κ = kid)
    (round : ∀ s, vcE κ P' F (lookT l) (lookE l) n tabs body (thenV Q (AgainG (fun s => keepE env ks (L s)) E μ s)) (envOf (keepE env ks (L s))) (heapOf (E s))) : LoopAt P' n tabs body Q env H := by
  subst hP
  exact loopG hF l hm ks L E μ s0 ρ0 h0 hn h1 hκ round
end Go.Proofs.YtbcicjmepojlnaaGreat.Eng
/- An area as this work speaks of it, and what the functions of layer 6 come to, in plain words; no condition. -/
namespace Go.Proofs.YtbcicjmepojlnaaGreat.Eng
open Go Go.RowKit
set_option linter.unusedVariables false
set_option autoImplicit false
structure Ar where
  s : Int
  e : Int
  p : Int
  sh : Bool
  b : Int
  o : Int
structure At where
  p : Int
  sh : Bool
  b : Int
  o : Int
def encA (a : Ar) : List C := [.v (.int .i64 a.s), .v (.int .i64 a.e), .v (.int .i64 a.p), .v (.bool a.sh), .v (.int .i64 a.b), .v (.int .i64 a.o)]
def noAr : Ar := ⟨0, 0, 0, false, 0, 0⟩
def noAt : At := ⟨0, false, 0, 0⟩
abbrev w64 (n : Int) : Int := IntKind.i64.wrap n
def whole (n : Int) : Bool := Int.tmod n 4096 == 0
def formed (a : Ar) : Bool :=
  if (!whole a.s || !whole a.e || decide (a.s < 65536) || decide (a.e > 2097152) || decide (a.s ≥ a.e)) = true then false
  else if (decide (a.p < 0) || decide (a.p > 7) || decide (a.b < 0) || decide (a.b > 9)) = true then false
  else if a.b = 0 then a.o == 0
  else whole a.o && decide (a.o ≥ 0) && decide (a.o ≤ w64 (1099511627776 - w64 (a.e - a.s)))
def hasA (a : Ar) (at_ : Int) : Bool := formed a && decide (at_ ≥ a.s) && decide (at_ < a.e)
def offA (a : Ar) (at_ : Int) : Int := if a.b = 0 then 0 else w64 (w64 (a.o + at_) - a.s)
def attrA (a : Ar) (at_ : Int) : At := if hasA a at_ = true then ⟨a.p, a.sh, a.b, offA a (w64 (at_ - Int.tmod at_ 4096))⟩ else noAt
def goesA (a b : Ar) : Bool := formed a && formed b && a.e == b.s && a.p == b.p && a.sh == b.sh && a.b == b.b && b.o == offA a a.e
def joinsA (a b : Ar) : Bool := goesA a b && formed ⟨a.s, b.e, a.p, a.sh, a.b, a.o⟩
def joinA (a b : Ar) : Ar := if joinsA a b = true then { a with e := b.e } else noAr
def floorA (n : Int) : Int := w64 (n - Int.tmod (w64 (Int.tmod n 4096 + 4096)) 4096)
def ceilA (n : Int) : Int := if n > 2097152 then 2097152 else w64 (0 - floorA (w64 (0 - n)))
def maxI (a b : Int) : Int := if b > a then b else a
def minI (a b : Int) : Int := if b < a then b else a
def fromA (a : Ar) (lo : Int) : Int := maxI a.s (floorA (maxI lo 0))
def toA (a : Ar) (hi : Int) : Int := minI a.e (ceilA hi)
def hasPart (a : Ar) (lo hi : Int) : Bool :=
  if (!formed a || decide (hi ≤ a.s) || decide (lo ≥ a.e) || decide (lo ≥ hi)) = true then false
  else !decide (fromA a lo ≥ toA a hi)
def partA (a : Ar) (lo hi : Int) : Ar := if hasPart a lo hi = true then ⟨fromA a lo, toA a hi, a.p, a.sh, a.b, offA a (fromA a lo)⟩ else noAr
def mayA (a : Ar) (k : Int) : Bool := decide (k ≥ 1) && decide (k ≤ 7) && bits .and .i64 a.p k == k
end Go.Proofs.YtbcicjmepojlnaaGreat.Eng
/- Plain facts on areas: what is formed, floors, parts, joins; no condition but those typed. -/
namespace Go.Proofs.YtbcicjmepojlnaaGreat.Eng
open Go Go.RowKit
set_option linter.unusedVariables false
set_option autoImplicit false
def In64 (n : Int) : Prop := -9223372036854775808 ≤ n ∧ n ≤ 9223372036854775807
theorem w64_id {n : Int} (h : In64 n) : w64 n = n := by
  unfold w64 IntKind.wrap
  obtain ⟨h1, h2⟩ := h
  simp only [IntKind.signed, IntKind.bits, Bool.true_and, decide_eq_true_eq, ge_iff_le]
  split <;> omega
theorem tmod_pos {n : Int} (h : 0 ≤ n) : Int.tmod n 4096 = n % 4096 := Int.tmod_eq_emod_of_nonneg h
theorem tmod_neg {n : Int} (h : n < 0) : Int.tmod n 4096 = -((-n) % 4096) := by
  have : Int.tmod n 4096 = -(Int.tmod (-n) 4096) := by rw [Int.neg_tmod]; omega
  rw [this, Int.tmod_eq_emod_of_nonneg (by omega)]
theorem whole_iff (n : Int) : whole n = true ↔ n % 4096 = 0 := by
  unfold whole
  rw [beq_iff_eq]
  rcases (by omega : n < 0 ∨ 0 ≤ n) with h | h
  · rw [tmod_neg h]; omega
  · rw [tmod_pos h]
theorem formed_iff (a : Ar) : formed a = true ↔ a.s % 4096 = 0 ∧ a.e % 4096 = 0 ∧ 65536 ≤ a.s ∧ a.e ≤ 2097152 ∧ a.s < a.e ∧ 0 ≤ a.p ∧ a.p ≤ 7 ∧ 0 ≤ a.b ∧ a.b ≤ 9 ∧
    (a.b = 0 → a.o = 0) ∧ (a.b ≠ 0 → a.o % 4096 = 0 ∧ 0 ≤ a.o ∧ a.o ≤ 1099511627776 - (a.e - a.s)) := by
  unfold formed
  split
  · rename_i h
    simp only [Bool.or_eq_true, Bool.not_eq_true', decide_eq_true_eq, ← Bool.not_eq_true, whole_iff] at h
    constructor
    · intro h'; cases h'
    · rintro ⟨h1, h2, h3, h4, h5, _⟩; omega
  · rename_i h
    simp only [Bool.or_eq_true, Bool.not_eq_true', decide_eq_true_eq, ← Bool.not_eq_true, whole_iff] at h
    split
    · rename_i h2
      simp only [Bool.or_eq_true, decide_eq_true_eq] at h2
      constructor
      · intro h'; cases h'
      · rintro ⟨_, _, _, _, _, h6, h7, h8, h9, _⟩; omega
    · rename_i h2
      simp only [Bool.or_eq_true, decide_eq_true_eq] at h2
      split
      · rename_i hb
        rw [beq_iff_eq]
        constructor
        · intro h'; refine ⟨?_, ?_, ?_, ?_, ?_, ?_, ?_, ?_, ?_, fun _ => h', fun h => absurd hb h⟩ <;> omega
        · rintro ⟨_, _, _, _, _, _, _, _, _, h, _⟩; exact h hb
      · rename_i hb
        have e1 : w64 (a.e - a.s) = a.e - a.s := w64_id (by unfold In64; omega)
        have e2 : w64 (1099511627776 - w64 (a.e - a.s)) = 1099511627776 - (a.e - a.s) := by rw [e1]; exact w64_id (by unfold In64; omega)
        rw [e2, Bool.and_eq_true, Bool.and_eq_true, whole_iff, decide_eq_true_eq, decide_eq_true_eq]
        constructor
        · rintro ⟨⟨h3, h4⟩, h5⟩; refine ⟨?_, ?_, ?_, ?_, ?_, ?_, ?_, ?_, ?_, fun h => absurd h hb, fun _ => ⟨h3, h4, h5⟩⟩ <;> omega
        · rintro ⟨_, _, _, _, _, _, _, _, _, _, h⟩; exact ⟨⟨(h hb).1, (h hb).2.1⟩, (h hb).2.2⟩
theorem floorA_eq {n : Int} (h : -4611686018427387904 ≤ n ∧ n ≤ 4611686018427387904) : floorA n = n - n % 4096 := by
  unfold floorA
  rcases (by omega : n < 0 ∨ 0 ≤ n) with h0 | h0
  · rw [tmod_neg h0, w64_id (n := -(-n % 4096) + 4096) (by unfold In64; omega), tmod_pos (by omega), w64_id (by unfold In64; omega)]
    omega
  · rw [tmod_pos h0, w64_id (n := n % 4096 + 4096) (by unfold In64; omega), tmod_pos (by omega), w64_id (by unfold In64; omega)]
    omega
theorem ceilA_eq {n : Int} (h : -4611686018427387904 ≤ n) (h2 : n ≤ 2097152) : ceilA n = n + (-n) % 4096 := by
  unfold ceilA
  rw [if_neg (by omega), w64_id (n := 0 - n) (by unfold In64; omega), floorA_eq (by omega), w64_id (by unfold In64; omega)]
  have : (0 - n) = -n := by omega
  rw [this]
  omega
theorem offA_eq {a : Ar} (h : formed a = true) {at_ : Int} (h1 : 0 ≤ at_) (h2 : at_ ≤ 2097152) : offA a at_ = if a.b = 0 then 0 else a.o + at_ - a.s := by
  have hf := (formed_iff a).1 h
  unfold offA
  split
  · rfl
  · rename_i hb
    have := hf.2.2.2.2.2.2.2.2.2.2 hb
    rw [w64_id (n := a.o + at_) (by unfold In64; omega), w64_id (by unfold In64; omega)]
theorem hasPart_in {a : Ar} (h : formed a = true) {lo hi : Int} (h1 : a.s ≤ lo) (h2 : lo < hi) (h3 : hi ≤ a.e) (h4 : lo % 4096 = 0) (h5 : hi % 4096 = 0) : fromA a lo = lo ∧ toA a hi = hi ∧ hasPart a lo hi = true ∧ partA a lo hi = ⟨lo, hi, a.p, a.sh, a.b, offA a lo⟩ := by
  have hf := (formed_iff a).1 h
  have e1 : fromA a lo = lo := by
    unfold fromA maxI
    rw [if_neg (by omega : ¬ 0 > lo), floorA_eq (by omega)]
    split <;> omega
  have e2 : toA a hi = hi := by
    unfold toA minI
    rw [ceilA_eq (by omega) (by omega)]
    split <;> omega
  have e3 : hasPart a lo hi = true := by
    unfold hasPart
    rw [e1, e2]
    have d1 : decide (hi ≤ a.s) = false := by simp; omega
    have d2 : decide (lo ≥ a.e) = false := by simp; omega
    have d3 : decide (lo ≥ hi) = false := by simp; omega
    simp [h, d1, d2, d3]
  refine ⟨e1, e2, e3, ?_⟩
  unfold partA
  rw [if_pos e3, e1, e2]
theorem formed_sub {a : Ar} (h : formed a = true) {lo hi : Int} (h1 : a.s ≤ lo) (h2 : lo < hi) (h3 : hi ≤ a.e) (h4 : lo % 4096 = 0) (h5 : hi % 4096 = 0) : formed ⟨lo, hi, a.p, a.sh, a.b, offA a lo⟩ = true := by
  have hf := (formed_iff a).1 h
  rw [formed_iff, offA_eq h (by omega) (by omega)]
  obtain ⟨f1, f2, f3, f4, f5, f6, f7, f8, f9, f10, f11⟩ := hf
  refine ⟨h4, h5, by simp only; omega, by simp only; omega, h2, f6, f7, f8, f9, fun hb => if_pos hb, fun hb => ?_⟩
  have := f11 hb
  simp only
  rw [if_neg hb]
  omega
def eqA (x y : Ar) : Bool := x.s == y.s && (x.e == y.e && (x.p == y.p && (x.sh == y.sh && (x.b == y.b && (x.o == y.o && true)))))
theorem eqA_iff (x y : Ar) : eqA x y = true ↔ x = y := by
  cases x; cases y
  simp [eqA]
end Go.Proofs.YtbcicjmepojlnaaGreat.Eng
/- What the reference of layer 6 says, in plain words, and that it says what the program's layer says; no condition. -/
namespace Go.Proofs.YtbcicjmepojlnaaGreat.Eng
open Go Go.RowKit
set_option linter.unusedVariables false
set_option autoImplicit false
def refHas (a : Ar) (q : Int) : Bool := if (decide (q < w64 (Int.tdiv a.s 4096)) || decide (q ≥ w64 (Int.tdiv a.e 4096))) = true then false else true
def refAttr (a : Ar) (q : Int) : At := if refHas a q = true then ⟨a.p, a.sh, a.b, if decide (a.b > 0) = true then w64 (a.o + w64 (4096 * w64 (q - w64 (Int.tdiv a.s 4096)))) else 0⟩ else noAt
def afterA (x y : At) : Bool := x.p == y.p && (x.sh == y.sh && (x.b == y.b && ((if decide (x.b > 0) = true then w64 (x.o + 4096) else x.o) == y.o && true)))
theorem tdiv_pos {n : Int} (h : 0 ≤ n) : Int.tdiv n 4096 = n / 4096 := Int.tdiv_eq_ediv_of_nonneg h
end Go.Proofs.YtbcicjmepojlnaaGreat.Eng
/- When an area goes on in another one, by their pages' attributes; the join's pages; no condition but those typed. -/
namespace Go.Proofs.YtbcicjmepojlnaaGreat.Eng
open Go Go.RowKit
set_option linter.unusedVariables false
set_option autoImplicit false
theorem w_div {n : Int} (h : 0 ≤ n ∧ n ≤ 2097152) : w64 (Int.tdiv n 4096) = n / 4096 := by
  rw [tdiv_pos h.1]; exact w64_id (by unfold In64; omega)
theorem refAttr_in {a : Ar} (h : formed a = true) {q : Int} (h1 : a.s / 4096 ≤ q) (h2 : q < a.e / 4096) :
    refHas a q = true ∧ refAttr a q = ⟨a.p, a.sh, a.b, if a.b = 0 then 0 else a.o + 4096 * (q - a.s / 4096)⟩ := by
  have hf := (formed_iff a).1 h
  have e2 : w64 (Int.tdiv a.s 4096) = a.s / 4096 := w_div (by omega)
  have e3 : w64 (Int.tdiv a.e 4096) = a.e / 4096 := w_div (by omega)
  have hr : refHas a q = true := by
    unfold refHas
    rw [e2, e3]
    have d1 : decide (q < a.s / 4096) = false := by simp; omega
    have d2 : decide (q ≥ a.e / 4096) = false := by simp; omega
    rw [d1, d2]
    rfl
  refine ⟨hr, ?_⟩
  unfold refAttr
  rw [if_pos hr, e2]
  by_cases hb : a.b = 0
  · rw [if_neg (by simp; omega), if_pos hb]
  · have := hf.2.2.2.2.2.2.2.2.2.2 hb
    rw [if_pos (by simp; omega), if_neg hb, w64_id (n := q - a.s / 4096) (by unfold In64; omega), w64_id (n := 4096 * (q - a.s / 4096)) (by unfold In64; omega), w64_id (by unfold In64; omega)]
theorem after_iff {x y : At} : afterA x y = true ↔ x.p = y.p ∧ x.sh = y.sh ∧ x.b = y.b ∧ (if x.b > 0 then w64 (x.o + 4096) else x.o) = y.o := by
  unfold afterA
  simp only [Bool.and_eq_true, beq_iff_eq, decide_eq_true_eq, and_true]
theorem goes_iff (a b : Ar) : goesA a b = true ↔ formed a = true ∧ formed b = true ∧ a.e = b.s ∧ a.p = b.p ∧ a.sh = b.sh ∧ a.b = b.b ∧ b.o = (if a.b = 0 then 0 else a.o + a.e - a.s) := by
  unfold goesA
  simp only [Bool.and_eq_true, beq_iff_eq]
  constructor
  · rintro ⟨⟨⟨⟨⟨⟨h1, h2⟩, h3⟩, h4⟩, h5⟩, h6⟩, h7⟩
    have hf := (formed_iff a).1 h1
    rw [offA_eq h1 (by omega) (by omega)] at h7
    exact ⟨h1, h2, h3, h4, h5, h6, h7⟩
  · rintro ⟨h1, h2, h3, h4, h5, h6, h7⟩
    have hf := (formed_iff a).1 h1
    refine ⟨⟨⟨⟨⟨⟨h1, h2⟩, h3⟩, h4⟩, h5⟩, h6⟩, ?_⟩
    rw [offA_eq h1 (by omega) (by omega)]
    exact h7
theorem joins_goes {a b : Ar} (h : goesA a b = true) : joinsA a b = true ∧ formed ⟨a.s, b.e, a.p, a.sh, a.b, a.o⟩ = true ∧ joinA a b = ⟨a.s, b.e, a.p, a.sh, a.b, a.o⟩ := by
  obtain ⟨h1, h2, h3, h4, h5, h6, h7⟩ := (goes_iff a b).1 h
  have fa := (formed_iff a).1 h1
  have fb := (formed_iff b).1 h2
  have hf : formed ⟨a.s, b.e, a.p, a.sh, a.b, a.o⟩ = true := by
    rw [formed_iff]
    simp only
    refine ⟨fa.1, fb.2.1, fa.2.2.1, fb.2.2.2.1, by omega, fa.2.2.2.2.2.1, fa.2.2.2.2.2.2.1, fa.2.2.2.2.2.2.2.1, fa.2.2.2.2.2.2.2.2.1, fa.2.2.2.2.2.2.2.2.2.1, fun hb => ?_⟩
    have g1 := fa.2.2.2.2.2.2.2.2.2.2 hb
    have g2 := fb.2.2.2.2.2.2.2.2.2.2 (by omega)
    rw [if_neg hb] at h7
    omega
  have hj : joinsA a b = true := by
    unfold joinsA
    rw [h, hf]
    rfl
  exact ⟨hj, hf, by unfold joinA; rw [if_pos hj]⟩
theorem joins_eq (a b : Ar) : joinsA a b = goesA a b := by
  cases h : goesA a b with
  | true => exact (joins_goes h).1
  | false => unfold joinsA; rw [h]; rfl
def pG (a : Ar) (i : Nat) : Int := a.s / 4096 + i
end Go.Proofs.YtbcicjmepojlnaaGreat.Eng
/- What layer 9's functions come to, in plain words; the flags' loop; no condition but those typed. -/
namespace Go.Proofs.YtbcicjmepojlnaaGreat.Eng
open Go Go.RowKit
set_option autoImplicit false
set_option linter.unusedSimpArgs false
set_option linter.unusedVariables false
def sizeBad (n : Int) : Bool := decide (n < 0) || decide (n > 2031616)
def sizeV (n : Int) : Int := if (n == 0) = true then 0 else if sizeBad n = true then 0 else w64 (w64 (Int.tdiv (w64 (w64 (n + 4096) - 1)) 4096) * 4096)
def sizeE (n : Int) : Int := if (n == 0) = true then 3 else if sizeBad n = true then 4 else 0
def protE (p : Int) : Int := if (decide (p < 0) || decide (p > 7)) = true then 1 else 0
def flagsE (f a : Int) : Int := if (decide (f < 0) || bits .andNot .i64 f a != 0) = true then 1 else 0
theorem sub_step (n a : Nat) : (n &&& a = n) ↔ ((n % 2 = 1 → a % 2 = 1) ∧ (n / 2) &&& (a / 2) = n / 2) := by
  constructor
  · intro h
    refine ⟨fun h1 => ?_, ?_⟩
    · have := congrArg (fun x => Nat.testBit x 0) h
      simp at this
      omega
    · have := congrArg (fun x => x / 2) h
      simpa [Nat.and_div_two] using this
  · rintro ⟨h0, h1⟩
    apply Nat.eq_of_testBit_eq
    intro i
    cases i with
    | zero =>
      simp only [Nat.testBit_and, Nat.testBit_zero]
      by_cases h : n % 2 = 1
      · simp [h, h0 h]
      · simp [h]
    | succ i => rw [Nat.testBit_succ, Nat.testBit_succ, Nat.and_div_two, h1]
theorem andNot_zero (n a : Nat) (hn : n < 9223372036854775808) (ha : a < 256) : (bits .andNot .i64 n a = 0) ↔ n &&& a = n := by
  have e1 : BitVec.ofInt 64 (n : Int) = BitVec.ofNat 64 n := by simp
  have e2 : BitVec.ofInt 64 (a : Int) = BitVec.ofNat 64 a := by simp
  have key : (BitVec.ofNat 64 n &&& ~~~ BitVec.ofNat 64 a) = 0#64 ↔ n &&& a = n := by
    constructor
    · intro h
      apply Nat.eq_of_testBit_eq
      intro i
      rw [Nat.testBit_and]
      by_cases hi : i < 64
      · have := congrArg (fun x => BitVec.getLsbD x i) h
        simp only [BitVec.getLsbD_and, BitVec.getLsbD_not, BitVec.getLsbD_ofNat, BitVec.getLsbD_zero, hi, decide_true, Bool.true_and] at this
        cases hb : n.testBit i <;> cases hc : a.testBit i <;> simp_all
      · have : n.testBit i = false := Nat.testBit_lt_two_pow (Nat.lt_of_lt_of_le (show n < 2 ^ 64 by omega) (Nat.pow_le_pow_right (by decide) (by omega)))
        simp [this]
    · intro h
      apply BitVec.eq_of_getLsbD_eq
      intro i hi
      have := congrArg (fun x => Nat.testBit x i) h
      simp only [Nat.testBit_and] at this
      simp only [BitVec.getLsbD_and, BitVec.getLsbD_not, BitVec.getLsbD_ofNat, BitVec.getLsbD_zero, hi, decide_true, Bool.true_and]
      cases hb : n.testBit i <;> cases hc : a.testBit i <;> simp_all
  have e : bits .andNot .i64 n a = IntKind.i64.wrap ((BitVec.ofNat 64 n &&& ~~~ BitVec.ofNat 64 a).toNat : Int) := by
    show IntKind.i64.wrap ((BitVec.ofInt 64 (n : Int) &&& ~~~ BitVec.ofInt 64 (a : Int)).toNat : Int) = _
    rw [e1, e2]
  rw [e, ← key]
  generalize (BitVec.ofNat 64 n &&& ~~~ BitVec.ofNat 64 a) = x
  have hx := x.isLt
  constructor
  · intro h
    apply BitVec.eq_of_toNat_eq
    simp only [IntKind.wrap, IntKind.bits, IntKind.signed] at h
    simp at h ⊢
    split at h <;> omega
  · rintro rfl
    rfl
structure FlOk (f al n a w : Int) : Prop where
  lo : -9223372036854775808 ≤ n
  hi : n ≤ 9223372036854775807
  alo : 0 ≤ a
  ahi : a ≤ 255
  eq : (if n.toNat &&& a.toNat = n.toNat then w else 1) = flagsE f al
def flW (n a w : Int) : Int := if (Int.tmod n 2 == 1 && Int.tmod a 2 == 0) = true then 1 else w
theorem fl_half {n : Int} (h : 0 ≤ n) (h2 : n ≤ 9223372036854775807) : w64 (Int.tdiv n 2) = n / 2 := by
  rw [Int.tdiv_eq_ediv_of_nonneg h]; exact w64_id (by unfold In64; omega)
theorem FlOk.step {f al n a w : Int} (h : FlOk f al n a w) (hn : 0 < n) : FlOk f al (w64 (Int.tdiv n 2)) (w64 (Int.tdiv a 2)) (flW n a w) := by
  obtain ⟨h1, h2, h3, h4, h5⟩ := h
  rw [fl_half (by omega) h2, fl_half h3 (by omega)]
  refine ⟨by omega, by omega, by omega, by omega, ?_⟩
  rw [← h5]
  have hs := sub_step n.toNat a.toNat
  have e1 : (n / 2).toNat = n.toNat / 2 := by omega
  have e2 : (a / 2).toNat = a.toNat / 2 := by omega
  rw [e1, e2]
  unfold flW
  rw [Int.tmod_eq_emod_of_nonneg (by omega), Int.tmod_eq_emod_of_nonneg h3]
  by_cases b1 : n % 2 = 1
  · by_cases b2 : a % 2 = 0
    · rw [if_pos (c := (n % 2 == 1 && a % 2 == 0) = true) (by simp [b1, b2]), if_neg (show ¬ (n.toNat &&& a.toNat = n.toNat) from fun h => by have := (hs.1 h).1 (by omega); omega)]
      exact (ite_self 1)
    · rw [if_neg (c := (n % 2 == 1 && a % 2 == 0) = true) (by simp [b1, b2])]
      by_cases c : n.toNat / 2 &&& a.toNat / 2 = n.toNat / 2
      · rw [if_pos c, if_pos (hs.2 ⟨fun _ => by omega, c⟩)]
      · rw [if_neg c, if_neg (fun h => c (hs.1 h).2)]
  · rw [if_neg (c := (n % 2 == 1 && a % 2 == 0) = true) (by simp [b1])]
    by_cases c : n.toNat / 2 &&& a.toNat / 2 = n.toNat / 2
    · rw [if_pos c, if_pos (hs.2 ⟨fun h => absurd h (by omega), c⟩)]
    · rw [if_neg c, if_neg (fun h => c (hs.1 h).2)]
theorem FlOk.start {f al : Int} (hf : In64 f) (ha : 0 ≤ al ∧ al ≤ 255) : FlOk f (w64 al) f (w64 al) (if (decide (f < 0)) = true then 1 else 0) := by
  have e : w64 al = al := w64_id (by unfold In64; omega)
  rw [e]
  refine ⟨hf.1, hf.2, ha.1, ha.2, ?_⟩
  unfold flagsE
  by_cases h : f < 0
  · rw [if_pos (c := decide (f < 0) = true) (by simpa using h), if_pos (c := (decide (f < 0) || bits .andNot .i64 f al != 0) = true) (by simp [h])]
    split <;> rfl
  · obtain ⟨m, rfl⟩ : ∃ m : Nat, f = m := ⟨f.toNat, by omega⟩
    obtain ⟨b, rfl⟩ : ∃ b : Nat, al = b := ⟨al.toNat, by omega⟩
    have k := andNot_zero m b (by have := hf.2; omega) (by omega)
    simp only [Int.toNat_natCast]
    by_cases c : m &&& b = m
    · rw [if_pos c, if_neg (by simp), if_neg (by rw [k.2 c]; simp [h])]
    · rw [if_neg c, if_pos (by simp; exact .inr fun h => c (k.1 h))]
theorem FlOk.out {f al n a w : Int} (h : FlOk f al n a w) (hn : ¬ 0 < n) : flagsE f al = w := by
  rw [← h.eq, if_pos]
  have : n.toNat = 0 := by omega
  rw [this]
  simp
end Go.Proofs.YtbcicjmepojlnaaGreat.Eng
/- Lists of areas as they lie in memory; contracts of functions that are handed one; no condition. -/
namespace Go.Proofs.YtbcicjmepojlnaaGreat.Eng
open Go Go.RowKit
set_option autoImplicit false
set_option linter.unusedSimpArgs false
set_option linter.unusedVariables false
def encL (l : List Ar) : List C := l.flatMap encA
theorem encA_len (a : Ar) : (encA a).length = 6 := rfl
theorem encA_inj (x y : Ar) (h : encA x = encA y) : x = y := by
  cases x; cases y
  simpa [encA] using h
theorem encL_inj (l l' : List Ar) (h : encL l = encL l') : l = l' := enc_inj encA_len (by decide) encA_inj l l' h
theorem encL_len (l : List Ar) : (encL l).length = l.length * 6 := enc_len encA_len l
def nthA (l : List Ar) (i : Nat) : Ar := l.getD i noAr
theorem nthA_get {l : List Ar} {i : Nat} (h : i < l.length) : l[i]? = some (nthA l i) := by
  unfold nthA
  rw [List.getD_eq_getElem?_getD, List.getElem?_eq_getElem h]
  rfl
theorem area_take {l : List Ar} {i : Nat} (h : i < l.length) : takeN (encL l) (i * 6) 6 = some [.v (.int .i64 (nthA l i).s), .v (.int .i64 (nthA l i).e), .v (.int .i64 (nthA l i).p), .v (.bool (nthA l i).sh), .v (.int .i64 (nthA l i).b), .v (.int .i64 (nthA l i).o)] :=
  enc_take encA_len (by decide) l i _ (nthA_get h)
theorem area_s {l : List Ar} {i : Nat} (h : i < l.length) : (encL l)[i * 6 + 0]? = some (.v (.int .i64 (nthA l i).s)) := enc_get encA_len l i _ 0 (nthA_get h) (by decide)
theorem area_e {l : List Ar} {i : Nat} (h : i < l.length) : (encL l)[i * 6 + 1]? = some (.v (.int .i64 (nthA l i).e)) := enc_get encA_len l i _ 1 (nthA_get h) (by decide)
theorem LookX.auto {X Y : Type} {enc : X → Y} {κ : Kp} (hκ : κ = kid) {x : X} {K : X → Prop} (hK : K (κ _ x)) : LookX enc (κ _ (enc x)) K := by
  subst hκ
  exact ⟨x, rfl, hK⟩
theorem LookX.nil {K : List Ar → Prop} (hK : K []) : LookX encL [] K := ⟨[], rfl, hK⟩
abbrev FunL := Kp → List Ar → List SV → Option (Prop × SV)
def lisT (F : FunL) (κ : Kp) : TSpec := fun args H d K => match args with
  | .c (.sl id A n c) :: rest => match rowOf (H id) with
    | some (A', z, n', xs) => Side (κ _ (A = A' ∧ n = n' ∧ (z = 6 ∨ n = 0))) ∧ LookX encL xs fun l => Side (κ _ (l.length = n)) ∧ match F κ l rest with
      | some (p, v) => Side p ∧ K v []
      | none => False
    | none => False
  | _ => False
section
variable {P : Program} {f : FuncId}
theorem lisT_conj (F : FunL) (args : List SV) (H : Heap) (d : Nat) : ConjP (lisT F kid args H d) (okKey false H d) := by
  unfold lisT
  split
  · split
    · refine .side fun _ => .look encL_inj fun l _ => .side fun _ => ?_
      split
      · exact .side fun _ => .one _ _ (by simp)
      · exact .false_
    · exact .false_
  · exact .false_
theorem rd_holds {H : Heap} {w0 w : World} {M : Nat → Prop} (hH : HSat w0 M H w) {id z n : Nat} {A : Option Addr} {xs : List C} (h : rowOf (H id) = some (A, z, n, xs)) {l : List Ar} (hz : z = 6 ∨ n = 0) (hn : l.length = n) (hx : xs = encL l) : (Ent.rd A 6 l.length (encL l)).holds w := by
  subst hx
  rcases hz with rfl | rfl
  · subst hn
    unfold rowOf at h
    split at h
    · rename_i he
      injection h with h
      injection h with e1 h
      injection h with e2 h
      injection h with e3 e4
      subst e1 e2 e3 e4
      exact hH.holds _ _ he
    · rename_i he
      injection h with h
      injection h with e1 h
      injection h with e2 h
      injection h with e3 e4
      subst e1 e2 e3 e4
      exact gives_row_rd.holds w (hH.holds _ _ he)
    · cases h
  · have : l = [] := List.eq_nil_of_length_eq_zero hn
    subst this
    exact ⟨rfl, fun h => absurd rfl h⟩
def lisES (hB : Bodied P f) (F : FunL) {κ : Kp} (hκ : κ = kid)
    (hk : ∀ l rest p v, F kid l rest = some (p, v) → p → ∀ (A : Option Addr) (c : Nat) (w : World), (Ent.rd A 6 l.length (encL l)).holds w →
      Calls P f (Value.slice A l.length c :: rest.map SV.den).toArray w fun e w' => e = .returned v.den ∧ Below w.heap.size w w') : ESpec P :=
  ES hB false (lisT F) hκ (lisT_conj F) fun args H0 H d w0 M w hs hsub hH => by
    have hs' := hs
    unfold lisT at hs'
    split at hs'
    case h_2 => exact hs'.elim
    rename_i id A n c rest
    split at hs'
    case h_2 => exact hs'.elim
    rename_i A' z n' xs hrow
    obtain ⟨⟨h1⟩, ⟨l, hx, ⟨h2⟩, h3⟩⟩ := hs'
    obtain ⟨rfl, rfl, hz⟩ := h1
    have hn : l.length = n := h2
    have hrd : (Ent.rd A 6 l.length (encL l)).holds w := rd_holds (hH.drop hsub) hrow hz hn hx
    subst hn
    split at h3
    case h_2 => exact h3.elim
    rename_i p v hF
    refine (hk l rest p v hF h3.1.h A c w hrd).mono ?_
    rintro e w' ⟨rfl, hb⟩
    refine ⟨v, [], v.den, rfl, fun K hK => ?_, fun _ => rfl, hH.below hb⟩
    unfold lisT at hK
    simp only [hrow] at hK
    obtain ⟨_, ⟨l2, hl2, _, h⟩⟩ := hK
    have := encL_inj _ _ (hx.symm.trans hl2)
    subst this
    rw [hF] at h
    exact h.2
abbrev FunL2 := Kp → List Ar → List Ar → Prop × SV
def lis2T (F : FunL2) (κ : Kp) : TSpec := fun args H d K => match args with
  | [.c (.sl id A n c), .c (.sl i2 B m e)] => match rowOf (H id), rowOf (H i2) with
    | some (A', z, n', xs), some (B', y, m', ys) => Side (κ _ (A = A' ∧ n = n' ∧ (z = 6 ∨ n = 0) ∧ B = B' ∧ m = m' ∧ (y = 6 ∨ m = 0))) ∧ LookX encL xs fun l => LookX encL ys fun k => Side (κ _ (l.length = n ∧ k.length = m)) ∧ Side (F κ l k).1 ∧ K (F κ l k).2 []
    | _, _ => False
  | _ => False
theorem lis2T_conj (F : FunL2) (args : List SV) (H : Heap) (d : Nat) : ConjP (lis2T F kid args H d) (okKey false H d) := by
  unfold lis2T
  split
  · split
    · exact .side fun _ => .look encL_inj fun l _ => .look encL_inj fun k _ => .side fun _ => .side fun _ => .one _ _ (by simp)
    · exact .false_
  · exact .false_
def lis2ES (hB : Bodied P f) (F : FunL2) {κ : Kp} (hκ : κ = kid)
    (hk : ∀ l k, (F kid l k).1 → ∀ (A : Option Addr) (c : Nat) (B : Option Addr) (e : Nat) (w : World), (Ent.rd A 6 l.length (encL l)).holds w → (Ent.rd B 6 k.length (encL k)).holds w →
      Calls P f #[.slice A l.length c, .slice B k.length e] w fun x w' => x = .returned (F kid l k).2.den ∧ Below w.heap.size w w') : ESpec P :=
  ES hB false (lis2T F) hκ (lis2T_conj F) fun args H0 H d w0 M w hs hsub hH => by
    have hs' := hs
    unfold lis2T at hs'
    split at hs'
    case h_2 => exact hs'.elim
    rename_i id A n c i2 B m e
    split at hs'
    case h_2 => exact hs'.elim
    rename_i A' z n' xs B' y m' ys hrow hrow2
    obtain ⟨⟨h1⟩, ⟨l, hx, ⟨k, hy, ⟨h2⟩, ⟨h3⟩, _⟩⟩⟩ := hs'
    obtain ⟨rfl, rfl, hz, rfl, rfl, hz2⟩ := h1
    obtain ⟨hn, hm⟩ : l.length = n ∧ k.length = m := h2
    have hrd : (Ent.rd A 6 l.length (encL l)).holds w := rd_holds (hH.drop hsub) hrow hz hn hx
    have hrd2 : (Ent.rd B 6 k.length (encL k)).holds w := rd_holds (hH.drop hsub) hrow2 hz2 hm hy
    subst hn hm
    refine (hk l k h3 A c B e w hrd hrd2).mono ?_
    rintro x w' ⟨rfl, hb⟩
    refine ⟨(F kid l k).2, [], _, rfl, fun K hK => ?_, fun _ => rfl, hH.below hb⟩
    unfold lis2T at hK
    simp only [hrow, hrow2] at hK
    obtain ⟨_, ⟨l2, hl2, ⟨k2, hk2, _, _, h⟩⟩⟩ := hK
    have := encL_inj _ _ (hx.symm.trans hl2)
    subst this
    have := encL_inj _ _ (hy.symm.trans hk2)
    subst this
    exact h
end
end Go.Proofs.YtbcicjmepojlnaaGreat.Eng
/- Right lists, in plain words, as the program and as the reference have them; no condition. -/
namespace Go.Proofs.YtbcicjmepojlnaaGreat.Eng
open Go Go.RowKit
set_option linter.unusedSimpArgs false
set_option linter.unusedVariables false
set_option autoImplicit false
def badAt (l : List Ar) (i : Nat) : Bool := !formed (nthA l i) || (decide (0 < i) && (decide ((nthA l (i - 1)).e > (nthA l i).s) || goesA (nthA l (i - 1)) (nthA l i)))
def rightL (l : List Ar) : Bool := !(List.range l.length).any (badAt l)
theorem right_no {l : List Ar} {i : Nat} (hi : i < l.length) (h : badAt l i = true) : rightL l = false := by
  unfold rightL
  have : (List.range l.length).any (badAt l) = true := List.any_eq_true.2 ⟨i, List.mem_range.2 hi, h⟩
  rw [this]
  rfl
theorem right_yes {l : List Ar} (h : ∀ j : Nat, j < l.length → badAt l j = false) : rightL l = true := by
  unfold rightL
  cases hb : (List.range l.length).any (badAt l) with
  | false => rfl
  | true =>
    obtain ⟨i, hi, h2⟩ := List.any_eq_true.1 hb
    rw [h i (List.mem_range.1 hi)] at h2
    cases h2
theorem bad_next {l : List Ar} {i : Nat} (h : ∀ j : Nat, j < i → badAt l j = false) (hi : badAt l i = false) : ∀ j : Nat, j < i + 1 → badAt l j = false := by
  intro j hj
  by_cases hji : j = i
  · subst hji; exact hi
  · exact h j (by omega)
theorem right_at {l : List Ar} (h : rightL l = true) {i : Nat} (hi : i < l.length) : badAt l i = false := by
  cases hb : badAt l i with
  | false => rfl
  | true => rw [right_no hi hb] at h; cases h
theorem nthA_eta (l : List Ar) (i : Nat) : (⟨(nthA l i).s, (nthA l i).e, (nthA l i).p, (nthA l i).sh, (nthA l i).b, (nthA l i).o⟩ : Ar) = nthA l i := by generalize nthA l i = z; rfl
theorem pos_of {i : Nat} (h : decide ((0 : Int) < (i : Int)) = true) : 0 < i := by have := of_decide_eq_true h; omega
theorem bad_a {l : List Ar} {i : Nat} (h : formed (nthA l i) = false) : badAt l i = true := by unfold badAt; rw [h]; rfl
theorem zero_lt {i : Nat} : decide ((0 : Int) < (i : Int)) = decide (0 < i) := by rw [decide_eq_decide]; omega
theorem bad_b {l : List Ar} {i : Nat} (h0 : decide ((0 : Int) < (i : Int)) = true) (h : decide ((nthA l i).s < (nthA l (i - 1)).e) = true) : badAt l i = true := by
  rw [zero_lt] at h0
  unfold badAt
  rw [h0]
  have h2 : decide ((nthA l (i - 1)).e > (nthA l i).s) = true := h
  rw [h2]
  simp
theorem bad_c {l : List Ar} {i : Nat} (h0 : decide ((0 : Int) < (i : Int)) = true) (h : goesA (nthA l (i - 1)) (nthA l i) = true) : badAt l i = true := by
  rw [zero_lt] at h0
  unfold badAt
  rw [h0, h]
  simp
theorem good_d {l : List Ar} {i : Nat} (hf : formed (nthA l i) = true) (h : decide ((nthA l i).s < (nthA l (i - 1)).e) = false) (hg : goesA (nthA l (i - 1)) (nthA l i) = false) : badAt l i = false := by
  unfold badAt
  have h2 : decide ((nthA l (i - 1)).e > (nthA l i).s) = false := h
  rw [hf, h2, hg]
  simp
theorem good_e {l : List Ar} {i : Nat} (hf : formed (nthA l i) = true) (h0 : decide ((0 : Int) < (i : Int)) = false) : badAt l i = false := by
  rw [zero_lt] at h0
  unfold badAt
  rw [hf, h0]
  rfl
theorem la_ix {l : List Ar} {i : Nat} (h : i < l.length) : 0 < 6 ∧ 0 ≤ ((i : Nat) : Int) ∧ ((i : Nat) : Int) < (l.length : Int) := by omega
theorem la_take {l : List Ar} {i : Nat} (h : i < l.length) : takeN (encL l) (((i : Nat) : Int).toNat * 6) 6 = some [.v (.int .i64 (nthA l i).s), .v (.int .i64 (nthA l i).e), .v (.int .i64 (nthA l i).p), .v (.bool (nthA l i).sh), .v (.int .i64 (nthA l i).b), .v (.int .i64 (nthA l i).o)] := by
  rw [Int.toNat_natCast]
  exact area_take h
theorem la_s {l : List Ar} {i : Nat} (h : i < l.length) : (encL l)[((i : Nat) : Int).toNat * 6 + 0]? = some (.v (.int .i64 (nthA l i).s)) := by
  rw [Int.toNat_natCast]
  exact area_s h
theorem la_e {l : List Ar} {i : Nat} (h : i < l.length) : (encL l)[((i : Nat) : Int).toNat * 6 + 1]? = some (.v (.int .i64 (nthA l i).e)) := by
  rw [Int.toNat_natCast]
  exact area_e h
theorem pre_ix {l : List Ar} {i : Nat} (h : i < l.length) (hl : l.length ≤ 1000000) (h0 : 0 < i) : IntKind.i64.wrap ((i : Int) - 1) = ((i - 1 : Nat) : Int) ∧ i - 1 < l.length := by
  have : w64 ((i : Int) - 1) = (i : Int) - 1 := w64_id (by unfold In64; omega)
  unfold w64 at this
  rw [this]
  omega
theorem lp_ix {l : List Ar} {i : Nat} (h : i < l.length) (hl : l.length ≤ 1000000) (h0 : 0 < i) : 0 < 6 ∧ 0 ≤ IntKind.i64.wrap ((i : Int) - 1) ∧ IntKind.i64.wrap ((i : Int) - 1) < (l.length : Int) := by
  have := pre_ix h hl h0
  rw [this.1]
  omega
theorem lp_e {l : List Ar} {i : Nat} (h : i < l.length) (hl : l.length ≤ 1000000) (h0 : 0 < i) : (encL l)[(IntKind.i64.wrap ((i : Int) - 1)).toNat * 6 + 1]? = some (.v (.int .i64 (nthA l (i - 1)).e)) := by
  have := pre_ix h hl h0
  rw [this.1]
  exact la_e this.2
theorem lp_take {l : List Ar} {i : Nat} (h : i < l.length) (hl : l.length ≤ 1000000) (h0 : 0 < i) : takeN (encL l) ((IntKind.i64.wrap ((i : Int) - 1)).toNat * 6) 6 = some [.v (.int .i64 (nthA l (i - 1)).s), .v (.int .i64 (nthA l (i - 1)).e), .v (.int .i64 (nthA l (i - 1)).p), .v (.bool (nthA l (i - 1)).sh), .v (.int .i64 (nthA l (i - 1)).b), .v (.int .i64 (nthA l (i - 1)).o)] := by
  have := pre_ix h hl h0
  rw [this.1]
  exact la_take this.2
theorem nat_succ {i : Nat} (h : i < 1000000) : IntKind.i64.wrap ((i : Int) + 1) = ((i + 1 : Nat) : Int) := by
  have : w64 ((i : Int) + 1) = (i : Int) + 1 := w64_id (by unfold In64; omega)
  unfold w64 at this
  rw [this]
  rfl
def sameL (l k : List Ar) : Bool := (l.length == k.length) && (List.range l.length).all fun i => eqA (nthA l i) (nthA k i)
theorem sameL_iff (l k : List Ar) : sameL l k = true ↔ l = k := by
  unfold sameL
  rw [Bool.and_eq_true, beq_iff_eq, List.all_eq_true]
  constructor
  · rintro ⟨h1, h2⟩
    apply List.ext_getElem?
    intro i
    by_cases hi : i < l.length
    · rw [nthA_get hi, nthA_get (by omega), (eqA_iff _ _).1 (h2 i (List.mem_range.2 hi))]
    · rw [List.getElem?_eq_none (by omega), List.getElem?_eq_none (by omega)]
  · rintro rfl
    exact ⟨rfl, fun i _ => (eqA_iff _ _).2 rfl⟩
theorem same_no {l k : List Ar} {i : Nat} (hi : i < l.length) (h : eqA (nthA l i) (nthA k i) = false) : sameL l k = false := by
  cases hs : sameL l k with
  | false => rfl
  | true =>
    have := (sameL_iff l k).1 hs
    subst this
    rw [(eqA_iff _ _).2 rfl] at h
    cases h
theorem same_len {l k : List Ar} (h : ¬ (l.length : Int) = (k.length : Int)) : sameL l k = false := by
  unfold sameL
  rw [show (l.length == k.length) = false by rw [beq_eq_false_iff_ne]; omega]
  rfl
theorem same_yes {l k : List Ar} (hl : (l.length : Int) = (k.length : Int)) (h : ∀ j : Nat, j < l.length → eqA (nthA l j) (nthA k j) = true) : sameL l k = true := by
  unfold sameL
  rw [Bool.and_eq_true, beq_iff_eq, List.all_eq_true]
  exact ⟨by omega, fun i hi => h i (List.mem_range.1 hi)⟩
theorem same_next {l k : List Ar} {i : Nat} (h : ∀ j : Nat, j < i → eqA (nthA l j) (nthA k j) = true) (hi : eqA (nthA l i) (nthA k i) = true) : ∀ j : Nat, j < i + 1 → eqA (nthA l j) (nthA k j) = true := by
  intro j hj
  by_cases hji : j = i
  · subst hji; exact hi
  · exact h j (by omega)
def idxL (l : List Ar) (x : Int) : Nat := ((List.range l.length).find? fun i => hasA (nthA l i) x).getD l.length
def idxI (l : List Ar) (x : Int) : Int := if decide (idxL l x < l.length) = true then (idxL l x : Int) else -1
def foundL (l : List Ar) (x : Int) : Bool := decide (idxI l x ≥ 0) && rightL l
def findL (l : List Ar) (x : Int) : Ar := if foundL l x = true then nthA l (idxL l x) else noAr
theorem idx_yes {l : List Ar} {x : Int} {i : Nat} (hi : i < l.length) (h : hasA (nthA l i) x = true) (hn : ∀ j : Nat, j < i → hasA (nthA l j) x = false) : idxI l x = (i : Int) := by
  have : (List.range l.length).find? (fun i => hasA (nthA l i) x) = some i := by
    rw [List.find?_range_eq_some]
    exact ⟨h, List.mem_range.2 hi, fun j hj => by rw [hn j hj]; rfl⟩
  unfold idxI idxL
  rw [this]
  simp [hi]
theorem idx_no {l : List Ar} {x : Int} (hn : ∀ j : Nat, j < l.length → hasA (nthA l j) x = false) : idxI l x = -1 := by
  have : (List.range l.length).find? (fun i => hasA (nthA l i) x) = none := by
    rw [List.find?_eq_none]
    intro i hi
    rw [hn i (List.mem_range.1 hi)]
    simp
  unfold idxI idxL
  rw [this]
  simp
theorem idx_lt {l : List Ar} {x : Int} (h : decide (0 ≤ idxI l x) = true) : idxL l x < l.length ∧ idxI l x = (idxL l x : Int) := by
  have h' := of_decide_eq_true h
  unfold idxI at h' ⊢
  split at h'
  · rename_i hc
    rw [if_pos hc]
    exact ⟨of_decide_eq_true hc, rfl⟩
  · omega
theorem has_next {l : List Ar} {x : Int} {i : Nat} (h : ∀ j : Nat, j < i → hasA (nthA l j) x = false) (hi : hasA (nthA l i) x = false) : ∀ j : Nat, j < i + 1 → hasA (nthA l j) x = false := by
  intro j hj
  by_cases hji : j = i
  · subst hji; exact hi
  · exact h j (by omega)
end Go.Proofs.YtbcicjmepojlnaaGreat.Eng
