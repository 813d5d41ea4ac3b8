/- Texts of this work, laid together: symbolic execution over the model, contracts of the program's functions, what they come to; conditions: as each says. -/
import Derived.Test.YtbcicjmepojlnaaPkBaseAH
import Derived.Test.YtbcicjmepojlnaaPkBaseAJ
import Derived.Test.YtbcicjmepojlnaaPkBaseAK
import Derived.Test.YtbcicjmepojlnaaPkDAA
/- Calls, answers; what may be asked, in plain words; the reference's sizes are these; no condition but those typed. -/
namespace Go.Proofs.Ytbcicjmepojlnaa.Eng
open Go Go.RowKit
set_option autoImplicit false
set_option linter.unusedSimpArgs false
set_option linter.unusedVariables false

structure Cl where
  k : Int
  a : Int
  n : Int
  w : Int
  to : Int
  p : Int
  f : Int
  b : Int
  o : Int
structure An where
  er : Int
  v : Int
  t : At
structure Gp where
  s : Int
  e : Int
def errA (e : Int) : An := ⟨e, 0, noAt⟩
def okA (v : Int) : An := ⟨0, v, noAt⟩
def eqN (x y : An) : Bool := x.er == y.er && (x.v == y.v && (x.t.p == y.t.p && (x.t.sh == y.t.sh && (x.t.b == y.t.b && (x.t.o == y.t.o && true)))))
theorem eqN_self (x : An) : eqN x x = true := by
  unfold eqN
  simp
theorem eqN_iff (x y : An) : eqN x y = true ↔ x = y := by
  obtain ⟨_, _, ⟨_, _, _, _⟩⟩ := x
  obtain ⟨_, _, ⟨_, _, _, _⟩⟩ := y
  unfold eqN
  simp

def rangeBad (a s : Int) : Bool := decide (a < 65536) || decide (a > w64 (2097152 - s))
def rangeE (a n : Int) : Int := if (Int.tmod a 4096 != 0) = true then 2 else if (sizeE n != 0) = true then sizeE n else if rangeBad a (sizeV n) = true then 4 else 0
def rangeC (a n x : Int) : Int := if (Int.tmod a 4096 != 0) = true then 0 else if (sizeE n != 0) = true then 0 else if rangeBad a (sizeV n) = true then 0 else x
def rangeLo (a n : Int) : Int := rangeC a n a
def rangeHi (a n : Int) : Int := rangeC a n (w64 (a + sizeV n))
theorem rangeC_ok {a n : Int} (x : Int) (h : rangeE a n = 0) : rangeC a n x = x := by
  unfold rangeE at h
  unfold rangeC
  split at h
  · omega
  · rename_i h1
    rw [if_neg h1]
    split at h
    · rename_i h2
      simp [h] at h2
    · rename_i h2
      rw [if_neg h2]
      split at h
      · omega
      · rename_i h3
        rw [if_neg h3]
theorem rangeC_no {a n : Int} (x : Int) (h : rangeE a n ≠ 0) : rangeC a n x = 0 := by
  unfold rangeE at h
  unfold rangeC
  split
  · rfl
  · rename_i h1
    rw [if_neg h1] at h
    split
    · rfl
    · rename_i h2
      rw [if_neg h2] at h
      split
      · rfl
      · rename_i h3
        rw [if_neg h3] at h
        exact absurd rfl h
def backBad (b o : Int) : Bool := decide (b < 0) || decide (b > 9) || (b == 0 && o != 0)
def backE (b o s : Int) : Int := if backBad b o = true then 1 else if (Int.tmod o 4096 != 0) = true then 2 else if (decide (o < 0) || decide (o > w64 (1099511627776 - s))) = true then 4 else 0

theorem bne_no {x y : Int} (h : (x != y) = false) : x = y := by simpa using h
theorem bne_yes {x y : Int} (h : (x != y) = true) : x ≠ y := by simpa using h
theorem beq_no {x y : Int} (h : (x == y) = false) : x ≠ y := by simpa using h
theorem beq_yes {x y : Int} (h : (x == y) = true) : x = y := by simpa using h
theorem sizeE_iff (n : Int) : sizeE n = 0 ↔ 0 < n ∧ n ≤ 2031616 := by
  unfold sizeE sizeBad
  by_cases h0 : n = 0
  · subst h0; decide
  · rw [if_neg (by simpa using h0)]
    by_cases h1 : n < 0 ∨ 2031616 < n
    · rw [if_pos (by simpa using h1)]; omega
    · rw [if_neg (by simpa using h1)]; omega
theorem sizeV_eq {n : Int} (h : 0 < n ∧ n ≤ 2031616) : sizeV n = (n + 4095) / 4096 * 4096 := by
  unfold sizeV sizeBad
  rw [if_neg (by simp; omega), if_neg (by simp; omega)]
  have e1 : w64 (n + 4096) = n + 4096 := w64_id (by unfold In64; omega)
  have e2 : w64 (n + 4096 - 1) = n + 4095 := (w64_id (by unfold In64; omega)).trans (by omega)
  rw [e1, e2, Int.tdiv_eq_ediv_of_nonneg (by omega)]
  have e3 : w64 ((n + 4095) / 4096) = (n + 4095) / 4096 := w64_id (by unfold In64; omega)
  rw [e3]
  exact w64_id (by unfold In64; omega)
theorem sizeV_no {n : Int} (h : ¬ (0 < n ∧ n ≤ 2031616)) : sizeV n = 0 := by
  unfold sizeV sizeBad
  by_cases h0 : n = 0
  · rw [if_pos (by simpa using h0)]
  · rw [if_neg (by simpa using h0), if_pos (by simp; omega)]
/-- A size that is right: whole pages. -/
structure SzOk (s : Int) : Prop where
  lo : 4096 ≤ s
  hi : s ≤ 2031616
  z : s % 4096 = 0
theorem size_ok {n : Int} (h : sizeE n = 0) : SzOk (sizeV n) ∧ n ≤ sizeV n ∧ sizeV n < n + 4096 := by
  have h2 := (sizeE_iff n).1 h
  rw [sizeV_eq h2]
  exact ⟨⟨by omega, by omega, by omega⟩, by omega, by omega⟩
theorem size_self {n : Int} (h : SzOk n) : sizeE n = 0 ∧ sizeV n = n := by
  obtain ⟨h1, h2, h3⟩ := h
  have h4 : 0 < n ∧ n ≤ 2031616 := by omega
  exact ⟨(sizeE_iff n).2 h4, by rw [sizeV_eq h4]; omega⟩
/-- A range that is right. -/
structure RgOk (a b : Int) : Prop where
  lo : 65536 ≤ a
  hi : b ≤ 2097152
  lt : a < b
  z : a % 4096 = 0
  z2 : b % 4096 = 0
theorem tmod0 (a : Int) : (Int.tmod a 4096 != 0) = false ↔ a % 4096 = 0 := by
  have h := whole_iff a
  unfold whole at h
  rw [← h]
  cases hb : (Int.tmod a 4096 == 0)
  · have : ¬ Int.tmod a 4096 = 0 := by simpa using hb
    simp [this]
  · have : Int.tmod a 4096 = 0 := by simpa using hb
    simp [this]
theorem rangeE_iff (a n : Int) : rangeE a n = 0 ↔ a % 4096 = 0 ∧ sizeE n = 0 ∧ 65536 ≤ a ∧ a + sizeV n ≤ 2097152 := by
  unfold rangeE
  by_cases h1 : a % 4096 = 0
  · rw [if_neg (by rw [(tmod0 a).2 h1]; simp)]
    by_cases h2 : sizeE n = 0
    · rw [if_neg (by simpa using h2)]
      obtain ⟨⟨s1, s2, s3⟩, _⟩ := size_ok h2
      unfold rangeBad
      rw [w64_id (show In64 (2097152 - sizeV n) by unfold In64; omega)]
      by_cases h3 : a < 65536 ∨ 2097152 - sizeV n < a
      · rw [if_pos (by simpa using h3)]; omega
      · rw [if_neg (by simpa using h3)]; omega
    · rw [if_pos (by simpa using h2)]
      exact ⟨fun h => absurd h h2, fun h => absurd h.2.1 h2⟩
  · rw [if_pos (by
      cases hb : (Int.tmod a 4096 != 0)
      · exact absurd ((tmod0 a).1 hb) h1
      · rfl)]
    omega
theorem range_ok {a n : Int} (h : rangeE a n = 0) : RgOk (rangeLo a n) (rangeHi a n) ∧ rangeLo a n = a ∧ rangeHi a n = a + sizeV n ∧ sizeE n = 0 := by
  obtain ⟨h1, h2, h3, h4⟩ := (rangeE_iff a n).1 h
  obtain ⟨⟨s1, s2, s3⟩, _⟩ := size_ok h2
  have e1 : rangeLo a n = a := rangeC_ok _ h
  have e2 : rangeHi a n = a + sizeV n := (rangeC_ok _ h).trans (w64_id (by unfold In64; omega))
  rw [e1, e2]
  exact ⟨⟨h3, h4, by omega, h1, by omega⟩, rfl, rfl, h2⟩
theorem range_no {a n : Int} (h : rangeE a n ≠ 0) : rangeLo a n = 0 ∧ rangeHi a n = 0 := by
  exact ⟨rangeC_no _ h, rangeC_no _ h⟩
/-- A range that is right is told. -/
theorem range_self {lo hi : Int} (h : RgOk lo hi) : rangeE lo (hi - lo) = 0 ∧ rangeLo lo (hi - lo) = lo ∧ rangeHi lo (hi - lo) = hi := by
  obtain ⟨h1, h2, h3, h4, h5⟩ := h
  have hs := size_self (n := hi - lo) ⟨by omega, by omega, by omega⟩
  have h6 : rangeE lo (hi - lo) = 0 := (rangeE_iff _ _).2 ⟨h4, hs.1, h1, by rw [hs.2]; omega⟩
  have h7 := range_ok h6
  exact ⟨h6, h7.2.1, by rw [h7.2.2.1, hs.2]; omega⟩

/-! ### The reference's -/
/-- Pages counted so far. -/
structure CntOk (n p : Int) : Prop where
  lo : 0 ≤ p
  hi : 4096 * (p - 1) < n
theorem cnt_0 {n : Int} (h : 1 ≤ n) : CntOk n 0 := ⟨by omega, by omega⟩
theorem cnt_next {n p : Int} (hn : n ≤ 2031616) (h : CntOk n p) (hl : decide (w64 (4096 * p) < n) = true) : w64 (p + 1) = p + 1 ∧ CntOk n (p + 1) ∧ (n - 4096 * (p + 1)).toNat < (n - 4096 * p).toNat := by
  obtain ⟨h1, h2⟩ := h
  have e : w64 (4096 * p) = 4096 * p := w64_id (by unfold In64; omega)
  have h3 := of_decide_eq_true hl
  rw [e] at h3
  exact ⟨w64_id (by unfold In64; omega), ⟨by omega, by omega⟩, by omega⟩
theorem cnt_end {n p : Int} (hn : 1 ≤ n ∧ n ≤ 2031616) (h : CntOk n p) (hl : decide (w64 (4096 * p) < n) = false) : p = (n + 4095) / 4096 := by
  obtain ⟨h1, h2⟩ := h
  have e : w64 (4096 * p) = 4096 * p := w64_id (by unfold In64; omega)
  have h3 := of_decide_eq_false hl
  rw [e] at h3
  omega
theorem rsize_yes {n : Int} (h0 : (n == 0) = false) (h1 : decide (n < 0) = false) (h2 : decide (2031616 < n) = false) : (1 ≤ n ∧ n ≤ 2031616) ∧ w64 (4096 * ((n + 4095) / 4096)) = sizeV n ∧ sizeE n = 0 := by
  have a0 : ¬ n = 0 := by simpa using h0
  have a1 := of_decide_eq_false h1
  have a2 := of_decide_eq_false h2
  have h : 0 < n ∧ n ≤ 2031616 := by omega
  refine ⟨by omega, ?_, (sizeE_iff n).2 h⟩
  rw [sizeV_eq h, w64_id (by unfold In64; omega)]
  omega
theorem rrange_bad {a n : Int} (ha : In64 a) (he : sizeE n = 0) : (decide (a < 65536) || decide (2097152 < a) || decide (2097152 < w64 (a + sizeV n))) = rangeBad a (sizeV n) := by
  obtain ⟨⟨s1, s2, s3⟩, _⟩ := size_ok he
  unfold rangeBad
  rw [w64_id (show In64 (2097152 - sizeV n) by unfold In64; omega)]
  by_cases h1 : a < 65536
  · simp [h1]
  · by_cases h2 : 2097152 < a
    · have : a > 2097152 - sizeV n := by omega
      simp [h2, this]
    · rw [w64_id (show In64 (a + sizeV n) by unfold In64; omega)]
      simp only [h1, h2, decide_false, Bool.false_or]
      rw [decide_eq_decide]
      omega
theorem rback_bad {o s : Int} (ho : In64 o) (hs : SzOk s) : (decide (o < 0) || decide (1099511627776 < o) || decide (1099511627776 < w64 (o + s))) = (decide (o < 0) || decide (o > w64 (1099511627776 - s))) := by
  obtain ⟨s1, s2, s3⟩ := hs
  rw [w64_id (show In64 (1099511627776 - s) by unfold In64; omega)]
  by_cases h1 : o < 0
  · simp [h1]
  · by_cases h2 : 1099511627776 < o
    · have : o > 1099511627776 - s := by omega
      simp [h2, this]
    · rw [w64_id (show In64 (o + s) by unfold In64; omega)]
      simp only [h1, h2, decide_false, Bool.false_or]
      rw [decide_eq_decide]
      omega

/-! ### Results: a list and an answer -/
theorem IsX.rowM {mk : C → SV} {r r' : List Ar} {i c2 : Nat} {A2 : Option Addr} {v k : SV} {H' : Heap} (hv : v = .tup [.c (.sl i A2 r'.length c2), k]) (hH : H' i = some (.row A2 c2 53 6 r'.length (encL r'))) (hm : ∀ x, mk x = .tup [.c x, k]) (h : r' = r) : IsX (.row 53 6 r.length (encL r) mk) v H' :=
  IsX.row_ h (hv.trans (hm _).symm) hH
theorem IsX.nilM {mk : C → SV} {r : List Ar} {i : Nat} {v k : SV} {H' : Heap} (hv : v = .tup [.c (.sl i none 0 0), k]) (hm : ∀ x, mk x = .tup [.c x, k]) (h : r = []) : IsX (.row 53 6 r.length (encL r) mk) v H' :=
  IsX.nil_ h (hv.trans (hm _).symm)
theorem IsX.sameM {b : Bool} {x : C} {mk1 mk2 : C → SV} {r : List Ar} {v k : SV} {H' : Heap} (hv : v = .tup [.c x, k]) (hm : ∀ x, mk1 x = .tup [.c x, k]) (hb : b = true) : IsX (.alt b x mk1 r mk2) v H' :=
  IsX.same_ hb (by rw [hv, hm])
theorem IsX.newM {b : Bool} {x : C} {mk1 mk2 : C → SV} {r r' : List Ar} {i c2 : Nat} {A2 : Option Addr} {v k : SV} {H' : Heap} (hv : v = .tup [.c (.sl i A2 r'.length c2), k]) (hH : H' i = some (.row A2 c2 53 6 r'.length (encL r'))) (hm : ∀ x, mk2 x = .tup [.c x, k]) (hb : b = false) (h : r' = r) : IsX (.alt b x mk1 r mk2) v H' :=
  IsX.new_ hb h (hv.trans (hm _).symm) hH

/-! ### Lists that may come; what is kept -/
def mayS (l : List Ar) : Bool := rightL l && decide ((l.length : Int) ≤ 24)
def keptL (was now : List Ar) : List Ar := if decide ((24 : Int) < (now.length : Int)) = true then was else now
def keptN (now : List Ar) (v : Int) : An := if decide ((24 : Int) < (now.length : Int)) = true then errA 9 else okA v
theorem nil_of_none {A : Option Addr} {l : List Ar} {w : World} (h : (Ent.rd A 6 l.length (encL l)).holds w) (hA : A.isNone = true) : l = [] := by
  cases l with
  | nil => rfl
  | cons a r =>
    obtain ⟨p, hp, _⟩ := h.2 (by simp [encL, encA])
    rw [hp] at hA
    cases hA
end Go.Proofs.Ytbcicjmepojlnaa.Eng
/- Contracts of functions (printed by genx.py of this work): what each hands back; condition: as its 'hside' says. -/
namespace Go.Proofs.Ytbcicjmepojlnaa.Eng
open Go Go.RowKit
set_option linter.unusedVariables false
set_option linter.unusedSimpArgs false

theorem b_size : Bodied Try.prog 151 := bodied Try.func151 rfl (by decide)
def F_size : FunX := fun κ avs => match avs with
  | [.val (.c (.v (.int .i64 n)))] => some (κ _ (True), (.val (.tup [.c (.v (.int .i64 (κ _ (sizeV n)))), .c (.v (.int .i64 (κ _ (sizeE n))))])))
  | _ => none
set_option maxRecDepth 100000 in
set_option maxHeartbeats 4000000 in
theorem k_size (n : Int) (hside : True) (w : World) :
    Calls Try.prog 151 #[(SV.c (.v (.int .i64 n))).den] w fun e w' => ∃ v H', e = .returned v.den ∧ IsX (.val (.tup [.c (.v (.int .i64 (sizeV n))), .c (.v (.int .i64 (sizeE n)))])) v H' ∧ HSat w (fun _ => False) H' w' := by
  obtain ⟨κ, hκ⟩ : ∃ κ : Kp, κ = kid := ⟨_, rfl⟩
  have hH : HSat w (fun _ => False) (heapOf [(nilId, .rd none 1 0 [])]) w := by
    subst hκ
    refine HSat.reads fun p hp => ?_
    simp only [List.mem_cons, List.not_mem_nil, or_false] at hp
    rcases hp with rfl
    · exact ⟨_, _, _, _, rfl, nil_holds w⟩
  refine (callsP (n := 19) FTok [] mixed [] Try.func151 rfl (by kernel_rfl) #[(SV.c (.v (.int .i64 n))).den] [(0, .c (.v (.int .i64 n)))] _ w rfl [.tmp 2, .tmp 3] rfl (by simp) (by subst hκ; simp [SV.den, C.den, kid]) hH (fun v H' => IsX (.val (.tup [.c (.v (.int .i64 (κ _ (sizeV n)))), .c (.v (.int .i64 (κ _ (sizeE n))))])) v H') hκ ?_).mono ?_
  rotate_left
  · subst hκ; intro e w' h; exact h
  intro P' hP'
  cbv
  repeat' (first | refine And.intro ?_ ?_ | (intro _; cbv) | (refine tst_mk (fun h => ?_) (fun h => ?_) <;> cbv) | (refine LookX.nil ?_; cbv) | (refine LookX.auto hκ ?_; cbv))
  all_goals (clear hH; subst hκ; delta kid at *; (try dsimp only at *))
  all_goals (try (exact ⟨trivial⟩))
  all_goals (try (exact ⟨by decide⟩))
  all_goals (show IsX _ _ _; refine IsX.val_ ?_; simp only [SV.den, SV.den0, C.den, List.map_cons, List.map_nil, sizeV, sizeE, sizeBad, GT.gt, GE.ge]; (try simp only [*, Bool.or_true, Bool.true_or, Bool.or_false, Bool.false_or, Bool.and_true, Bool.true_and, Bool.and_false, Bool.false_and, Bool.not_true, Bool.not_false, if_true, if_false, Bool.false_eq_true]); (first | done | rfl | (exfalso; simp_all; done) | skip))
def e_size {κ : Kp} (hκ : κ = kid) : ESpec Try.prog := fnES [.flat] b_size F_size hκ fun avs p r hF hp => by
  unfold F_size at hF
  split at hF
  case h_2 => cases hF
  rename_i n
  simp only [kid, Option.some.injEq, Prod.mk.injEq] at hF
  obtain ⟨rfl, rfl⟩ := hF
  refine ⟨trivial, fun vs w hR => ?_⟩
  obtain ⟨vs0, rfl, hR⟩ := hR
  have hR' : vs0 = [] := hR
  subst hR'
  exact k_size n hp w

theorem b_prot : Bodied Try.prog 150 := bodied Try.func150 rfl (by decide)
def F_prot : FunX := fun κ avs => match avs with
  | [.val (.c (.v (.int .i64 p)))] => some (κ _ (True), (.val (.c (.v (.int .i64 (κ _ (protE p)))))))
  | _ => none
set_option maxRecDepth 100000 in
set_option maxHeartbeats 4000000 in
theorem k_prot (p : Int) (hside : True) (w : World) :
    Calls Try.prog 150 #[(SV.c (.v (.int .i64 p))).den] w fun e w' => ∃ v H', e = .returned v.den ∧ IsX (.val (.c (.v (.int .i64 (protE p))))) v H' ∧ HSat w (fun _ => False) H' w' := by
  obtain ⟨κ, hκ⟩ : ∃ κ : Kp, κ = kid := ⟨_, rfl⟩
  have hH : HSat w (fun _ => False) (heapOf [(nilId, .rd none 1 0 [])]) w := by
    subst hκ
    refine HSat.reads fun p hp => ?_
    simp only [List.mem_cons, List.not_mem_nil, or_false] at hp
    rcases hp with rfl
    · exact ⟨_, _, _, _, rfl, nil_holds w⟩
  refine (callsP (n := 9) FTok [] mixed [] Try.func150 rfl (by kernel_rfl) #[(SV.c (.v (.int .i64 p))).den] [(0, .c (.v (.int .i64 p)))] _ w rfl [.tmp 2] rfl (by simp) (by subst hκ; simp [SV.den, C.den, kid]) hH (fun v H' => IsX (.val (.c (.v (.int .i64 (κ _ (protE p)))))) v H') hκ ?_).mono ?_
  rotate_left
  · subst hκ; intro e w' h; exact h
  intro P' hP'
  cbv
  repeat' (first | refine And.intro ?_ ?_ | (intro _; cbv) | (refine tst_mk (fun h => ?_) (fun h => ?_) <;> cbv) | (refine LookX.nil ?_; cbv) | (refine LookX.auto hκ ?_; cbv))
  all_goals (clear hH; subst hκ; delta kid at *; (try dsimp only at *))
  all_goals (try (exact ⟨trivial⟩))
  all_goals (try (exact ⟨by decide⟩))
  all_goals (show IsX _ _ _; refine IsX.val_ ?_; simp only [SV.den, SV.den0, C.den, List.map_cons, List.map_nil, protE, GT.gt, GE.ge]; (try simp only [*, Bool.or_true, Bool.true_or, Bool.or_false, Bool.false_or, Bool.and_true, Bool.true_and, Bool.and_false, Bool.false_and, Bool.not_true, Bool.not_false, if_true, if_false, Bool.false_eq_true]); (first | done | rfl | (exfalso; simp_all; done) | skip))
def e_prot {κ : Kp} (hκ : κ = kid) : ESpec Try.prog := fnES [.flat] b_prot F_prot hκ fun avs p r hF hp => by
  unfold F_prot at hF
  split at hF
  case h_2 => cases hF
  rename_i p
  simp only [kid, Option.some.injEq, Prod.mk.injEq] at hF
  obtain ⟨rfl, rfl⟩ := hF
  refine ⟨trivial, fun vs w hR => ?_⟩
  obtain ⟨vs0, rfl, hR⟩ := hR
  have hR' : vs0 = [] := hR
  subst hR'
  exact k_prot p hp w

theorem b_flags : Bodied Try.prog 152 := bodied Try.func152 rfl (by decide)
def F_flags : FunX := fun κ avs => match avs with
  | [.val (.c (.v (.int .i64 f))), .val (.c (.v (.int .i64 al)))] => some (κ _ (True), (.val (.c (.v (.int .i64 (κ _ (flagsE f al)))))))
  | _ => none
set_option maxRecDepth 100000 in
set_option maxHeartbeats 4000000 in
theorem k_flags (f : Int) (al : Int) (hside : True) (w : World) :
    Calls Try.prog 152 #[(SV.c (.v (.int .i64 f))).den, (SV.c (.v (.int .i64 al))).den] w fun e w' => ∃ v H', e = .returned v.den ∧ IsX (.val (.c (.v (.int .i64 (flagsE f al))))) v H' ∧ HSat w (fun _ => False) H' w' := by
  obtain ⟨κ, hκ⟩ : ∃ κ : Kp, κ = kid := ⟨_, rfl⟩
  have hH : HSat w (fun _ => False) (heapOf [(nilId, .rd none 1 0 [])]) w := by
    subst hκ
    refine HSat.reads fun p hp => ?_
    simp only [List.mem_cons, List.not_mem_nil, or_false] at hp
    rcases hp with rfl
    · exact ⟨_, _, _, _, rfl, nil_holds w⟩
  refine (callsP (n := 13) FTok [] mixed [] Try.func152 rfl (by kernel_rfl) #[(SV.c (.v (.int .i64 f))).den, (SV.c (.v (.int .i64 al))).den] [(0, .c (.v (.int .i64 f))), (1, .c (.v (.int .i64 al)))] _ w rfl [.tmp 4] rfl (by simp) (by subst hκ; simp [SV.den, C.den, kid]) hH (fun v H' => IsX (.val (.c (.v (.int .i64 (κ _ (flagsE f al)))))) v H') hκ ?_).mono ?_
  rotate_left
  · subst hκ; intro e w' h; exact h
  intro P' hP'
  cbv
  repeat' (first | refine And.intro ?_ ?_ | (intro _; cbv) | (refine tst_mk (fun h => ?_) (fun h => ?_) <;> cbv) | (refine LookX.nil ?_; cbv) | (refine LookX.auto hκ ?_; cbv))
  all_goals (clear hH; subst hκ; delta kid at *; (try dsimp only at *))
  all_goals (try (exact ⟨trivial⟩))
  all_goals (try (exact ⟨by decide⟩))
  all_goals (show IsX _ _ _; refine IsX.val_ ?_; simp only [SV.den, SV.den0, C.den, List.map_cons, List.map_nil, flagsE, GT.gt, GE.ge]; (try simp only [*, Bool.or_true, Bool.true_or, Bool.or_false, Bool.false_or, Bool.and_true, Bool.true_and, Bool.and_false, Bool.false_and, Bool.not_true, Bool.not_false, if_true, if_false, Bool.false_eq_true]); (first | done | rfl | (exfalso; simp_all; done) | skip))
def e_flags {κ : Kp} (hκ : κ = kid) : ESpec Try.prog := fnES [.flat, .flat] b_flags F_flags hκ fun avs p r hF hp => by
  unfold F_flags at hF
  split at hF
  case h_2 => cases hF
  rename_i f al
  simp only [kid, Option.some.injEq, Prod.mk.injEq] at hF
  obtain ⟨rfl, rfl⟩ := hF
  refine ⟨trivial, fun vs w hR => ?_⟩
  obtain ⟨vs0, rfl, hR⟩ := hR
  obtain ⟨vs1, rfl, hR⟩ := hR
  have hR' : vs1 = [] := hR
  subst hR'
  exact k_flags f al hp w

theorem b_range : Bodied Try.prog 131 := bodied Try.func131 rfl (by decide)
def F_range : FunX := fun κ avs => match avs with
  | [.val (.c (.v (.int .i64 a))), .val (.c (.v (.int .i64 n)))] => some (κ _ (True), (.val (.tup [.c (.v (.int .i64 (κ _ (rangeLo a n)))), .c (.v (.int .i64 (κ _ (rangeHi a n)))), .c (.v (.int .i64 (κ _ (rangeE a n))))])))
  | _ => none
set_option maxRecDepth 100000 in
set_option maxHeartbeats 4000000 in
theorem k_range (a : Int) (n : Int) (hside : True) (w : World) :
    Calls Try.prog 131 #[(SV.c (.v (.int .i64 a))).den, (SV.c (.v (.int .i64 n))).den] w fun e w' => ∃ v H', e = .returned v.den ∧ IsX (.val (.tup [.c (.v (.int .i64 (rangeLo a n))), .c (.v (.int .i64 (rangeHi a n))), .c (.v (.int .i64 (rangeE a n)))])) v H' ∧ HSat w (fun _ => False) H' w' := by
  obtain ⟨κ, hκ⟩ : ∃ κ : Kp, κ = kid := ⟨_, rfl⟩
  have hH : HSat w (fun _ => False) (heapOf [(nilId, .rd none 1 0 [])]) w := by
    subst hκ
    refine HSat.reads fun p hp => ?_
    simp only [List.mem_cons, List.not_mem_nil, or_false] at hp
    rcases hp with rfl
    · exact ⟨_, _, _, _, rfl, nil_holds w⟩
  refine (callsP (n := 34) FTok [e_size hκ] mixed [] Try.func131 rfl (by kernel_rfl) #[(SV.c (.v (.int .i64 a))).den, (SV.c (.v (.int .i64 n))).den] [(0, .c (.v (.int .i64 a))), (1, .c (.v (.int .i64 n)))] _ w rfl [.tmp 4, .tmp 5, .tmp 6] rfl (by simp) (by subst hκ; simp [SV.den, C.den, kid]) hH (fun v H' => IsX (.val (.tup [.c (.v (.int .i64 (κ _ (rangeLo a n)))), .c (.v (.int .i64 (κ _ (rangeHi a n)))), .c (.v (.int .i64 (κ _ (rangeE a n))))])) v H') hκ ?_).mono ?_
  rotate_left
  · subst hκ; intro e w' h; exact h
  intro P' hP'
  cbv
  repeat' (first | refine And.intro ?_ ?_ | (intro _; cbv) | (refine tst_mk (fun h => ?_) (fun h => ?_) <;> cbv) | (refine LookX.nil ?_; cbv) | (refine LookX.auto hκ ?_; cbv))
  all_goals (clear hH; subst hκ; delta kid at *; (try dsimp only at *))
  all_goals (try (exact ⟨trivial⟩))
  all_goals (try (exact ⟨by decide⟩))
  all_goals (show IsX _ _ _; refine IsX.val_ ?_; simp only [SV.den, SV.den0, C.den, List.map_cons, List.map_nil, rangeLo, rangeHi, rangeC, rangeE, rangeBad, GT.gt, GE.ge]; (try simp only [*, Bool.or_true, Bool.true_or, Bool.or_false, Bool.false_or, Bool.and_true, Bool.true_and, Bool.and_false, Bool.false_and, Bool.not_true, Bool.not_false, if_true, if_false, Bool.false_eq_true]); (first | done | rfl | (exfalso; simp_all; done) | skip))
def e_range {κ : Kp} (hκ : κ = kid) : ESpec Try.prog := fnES [.flat, .flat] b_range F_range hκ fun avs p r hF hp => by
  unfold F_range at hF
  split at hF
  case h_2 => cases hF
  rename_i a n
  simp only [kid, Option.some.injEq, Prod.mk.injEq] at hF
  obtain ⟨rfl, rfl⟩ := hF
  refine ⟨trivial, fun vs w hR => ?_⟩
  obtain ⟨vs0, rfl, hR⟩ := hR
  obtain ⟨vs1, rfl, hR⟩ := hR
  have hR' : vs1 = [] := hR
  subst hR'
  exact k_range a n hp w

theorem b_backing : Bodied Try.prog 153 := bodied Try.func153 rfl (by decide)
def F_backing : FunX := fun κ avs => match avs with
  | [.val (.c (.v (.int .i64 b))), .val (.c (.v (.int .i64 o))), .val (.c (.v (.int .i64 s)))] => some (κ _ (True), (.val (.c (.v (.int .i64 (κ _ (backE b o s)))))))
  | _ => none
set_option maxRecDepth 100000 in
set_option maxHeartbeats 4000000 in
theorem k_backing (b : Int) (o : Int) (s : Int) (hside : True) (w : World) :
    Calls Try.prog 153 #[(SV.c (.v (.int .i64 b))).den, (SV.c (.v (.int .i64 o))).den, (SV.c (.v (.int .i64 s))).den] w fun e w' => ∃ v H', e = .returned v.den ∧ IsX (.val (.c (.v (.int .i64 (backE b o s))))) v H' ∧ HSat w (fun _ => False) H' w' := by
  obtain ⟨κ, hκ⟩ : ∃ κ : Kp, κ = kid := ⟨_, rfl⟩
  have hH : HSat w (fun _ => False) (heapOf [(nilId, .rd none 1 0 [])]) w := by
    subst hκ
    refine HSat.reads fun p hp => ?_
    simp only [List.mem_cons, List.not_mem_nil, or_false] at hp
    rcases hp with rfl
    · exact ⟨_, _, _, _, rfl, nil_holds w⟩
  refine (callsP (n := 35) FTok [] mixed [] Try.func153 rfl (by kernel_rfl) #[(SV.c (.v (.int .i64 b))).den, (SV.c (.v (.int .i64 o))).den, (SV.c (.v (.int .i64 s))).den] [(0, .c (.v (.int .i64 b))), (1, .c (.v (.int .i64 o))), (2, .c (.v (.int .i64 s)))] _ w rfl [.tmp 6] rfl (by simp) (by subst hκ; simp [SV.den, C.den, kid]) hH (fun v H' => IsX (.val (.c (.v (.int .i64 (κ _ (backE b o s)))))) v H') hκ ?_).mono ?_
  rotate_left
  · subst hκ; intro e w' h; exact h
  intro P' hP'
  cbv
  repeat' (first | refine And.intro ?_ ?_ | (intro _; cbv) | (refine tst_mk (fun h => ?_) (fun h => ?_) <;> cbv) | (refine LookX.nil ?_; cbv) | (refine LookX.auto hκ ?_; cbv))
  all_goals (clear hH; subst hκ; delta kid at *; (try dsimp only at *))
  all_goals (try (exact ⟨trivial⟩))
  all_goals (try (exact ⟨by decide⟩))
  all_goals (show IsX _ _ _; refine IsX.val_ ?_; simp only [SV.den, SV.den0, C.den, List.map_cons, List.map_nil, backE, backBad, GT.gt, GE.ge]; (try simp only [*, Bool.or_true, Bool.true_or, Bool.or_false, Bool.false_or, Bool.and_true, Bool.true_and, Bool.and_false, Bool.false_and, Bool.not_true, Bool.not_false, if_true, if_false, Bool.false_eq_true]); (first | done | rfl | (exfalso; simp_all; done) | skip))
def e_backing {κ : Kp} (hκ : κ = kid) : ESpec Try.prog := fnES [.flat, .flat, .flat] b_backing F_backing hκ fun avs p r hF hp => by
  unfold F_backing at hF
  split at hF
  case h_2 => cases hF
  rename_i b o s
  simp only [kid, Option.some.injEq, Prod.mk.injEq] at hF
  obtain ⟨rfl, rfl⟩ := hF
  refine ⟨trivial, fun vs w hR => ?_⟩
  obtain ⟨vs0, rfl, hR⟩ := hR
  obtain ⟨vs1, rfl, hR⟩ := hR
  obtain ⟨vs2, rfl, hR⟩ := hR
  have hR' : vs2 = [] := hR
  subst hR'
  exact k_backing b o s hp w

theorem b_rpages : Bodied Try.prog 154 := bodied Try.func154 rfl (by decide)
def F_rpages : FunX := fun κ avs => match avs with
  | [.val (.c (.v (.int .i64 n)))] => some (κ _ (1 ≤ n ∧ n ≤ 2031616), (.val (.c (.v (.int .i64 (κ _ ((n + 4095) / 4096)))))))
  | _ => none
set_option maxRecDepth 100000 in
set_option maxHeartbeats 4000000 in
theorem k_rpages (n : Int) (hside : 1 ≤ n ∧ n ≤ 2031616) (w : World) :
    Calls Try.prog 154 #[(SV.c (.v (.int .i64 n))).den] w fun e w' => ∃ v H', e = .returned v.den ∧ IsX (.val (.c (.v (.int .i64 ((n + 4095) / 4096))))) v H' ∧ HSat w (fun _ => False) H' w' := by
  obtain ⟨κ, hκ⟩ : ∃ κ : Kp, κ = kid := ⟨_, rfl⟩
  have hH : HSat w (fun _ => False) (heapOf [(nilId, .rd none 1 0 [])]) w := by
    subst hκ
    refine HSat.reads fun p hp => ?_
    simp only [List.mem_cons, List.not_mem_nil, or_false] at hp
    rcases hp with rfl
    · exact ⟨_, _, _, _, rfl, nil_holds w⟩
  refine (callsP (n := 11) FTok [] mixed [] Try.func154 rfl (by kernel_rfl) #[(SV.c (.v (.int .i64 n))).den] [(0, .c (.v (.int .i64 n)))] _ w rfl [.tmp 2] rfl (by simp) (by subst hκ; simp [SV.den, C.den, kid]) hH (fun v H' => IsX (.val (.c (.v (.int .i64 (κ _ ((n + 4095) / 4096)))))) v H') hκ ?_).mono ?_
  rotate_left
  · subst hκ; intro e w' h; exact h
  intro P' hP'
  cbv
  refine loopP hP' FTok [] mixed [0] (σ := {p : Int // CntOk n p}) (fun q => [(3, .c (.v (.int .i64 (κ _ q.1))))]) (fun _ => []) (fun q => (n - 4096 * q.1).toNat) ⟨0, cnt_0 hside.1⟩ [] ?_ (by decide) ?_ hκ ?_
  · cbv
    all_goals (subst hκ; delta kid; repeat' (first | exact rfl | exact trivial | refine And.intro ?_ ?_))
  · cbv
  rintro ⟨p, hp⟩
  cbv
  refine tst_mk (fun h => ?_) (fun h => ?_)
  · have hv := cnt_next hside.2 hp (by subst hκ; exact h)
    cbv
    all_goals (clear hH; subst hκ; delta kid at *; (try dsimp only at *))
    refine ⟨⟨⟨p + 1, hv.2.1⟩, [], hv.2.2, by decide, ?_, ?_⟩⟩
    all_goals repeat' (first | exact rfl | exact trivial | refine And.intro ?_ ?_ | exact congrArg (Value.int .i64) hv.1)
  · have hv := cnt_end hside hp (by subst hκ; exact h)
    cbv
    all_goals (clear hH; subst hκ; delta kid at *; (try dsimp only at *))
    exact IsX.int_ hv
def e_rpages {κ : Kp} (hκ : κ = kid) : ESpec Try.prog := fnES [.flat] b_rpages F_rpages hκ fun avs p r hF hp => by
  unfold F_rpages at hF
  split at hF
  case h_2 => cases hF
  rename_i n
  simp only [kid, Option.some.injEq, Prod.mk.injEq] at hF
  obtain ⟨rfl, rfl⟩ := hF
  refine ⟨trivial, fun vs w hR => ?_⟩
  obtain ⟨vs0, rfl, hR⟩ := hR
  have hR' : vs0 = [] := hR
  subst hR'
  exact k_rpages n hp w

theorem b_rsize : Bodied Try.prog 129 := bodied Try.func129 rfl (by decide)
def F_rsize : FunX := fun κ avs => match avs with
  | [.val (.c (.v (.int .i64 n)))] => some (κ _ (True), (.val (.tup [.c (.v (.int .i64 (κ _ (sizeV n)))), .c (.v (.int .i64 (κ _ (sizeE n))))])))
  | _ => none
set_option maxRecDepth 100000 in
set_option maxHeartbeats 4000000 in
theorem k_rsize (n : Int) (hside : True) (w : World) :
    Calls Try.prog 129 #[(SV.c (.v (.int .i64 n))).den] w fun e w' => ∃ v H', e = .returned v.den ∧ IsX (.val (.tup [.c (.v (.int .i64 (sizeV n))), .c (.v (.int .i64 (sizeE n)))])) v H' ∧ HSat w (fun _ => False) H' w' := by
  obtain ⟨κ, hκ⟩ : ∃ κ : Kp, κ = kid := ⟨_, rfl⟩
  have hH : HSat w (fun _ => False) (heapOf [(nilId, .rd none 1 0 [])]) w := by
    subst hκ
    refine HSat.reads fun p hp => ?_
    simp only [List.mem_cons, List.not_mem_nil, or_false] at hp
    rcases hp with rfl
    · exact ⟨_, _, _, _, rfl, nil_holds w⟩
  refine (callsP (n := 15) FTok [e_rpages hκ] mixed [] Try.func129 rfl (by kernel_rfl) #[(SV.c (.v (.int .i64 n))).den] [(0, .c (.v (.int .i64 n)))] _ w rfl [.tmp 2, .tmp 3] rfl (by simp) (by subst hκ; simp [SV.den, C.den, kid]) hH (fun v H' => IsX (.val (.tup [.c (.v (.int .i64 (κ _ (sizeV n)))), .c (.v (.int .i64 (κ _ (sizeE n))))])) v H') hκ ?_).mono ?_
  rotate_left
  · subst hκ; intro e w' h; exact h
  intro P' hP'
  cbv
  repeat' (first | refine And.intro ?_ ?_ | (intro _; cbv) | (refine tst_mk (fun h => ?_) (fun h => ?_) <;> cbv) | (refine LookX.nil ?_; cbv) | (refine LookX.auto hκ ?_; cbv))
  all_goals (clear hH; subst hκ; delta kid at *; (try dsimp only at *))
  all_goals (try (show Side _; refine ⟨?_⟩; exact (rsize_yes (by with_reducible assumption) (by with_reducible assumption) (by with_reducible assumption)).1))
  all_goals (try (show IsX _ _ _; refine IsX.val_ ?_; have hv := rsize_yes (n := n) (by with_reducible assumption) (by with_reducible assumption) (by with_reducible assumption); simp only [SV.den, SV.den0, C.den, List.map_cons, List.map_nil, hv.2.1, hv.2.2]; done))
  all_goals (show IsX _ _ _; refine IsX.val_ ?_; simp only [SV.den, SV.den0, C.den, List.map_cons, List.map_nil, sizeV, sizeE, sizeBad, GT.gt, GE.ge]; (try simp only [*, Bool.or_true, Bool.true_or, Bool.or_false, Bool.false_or, Bool.and_true, Bool.true_and, Bool.and_false, Bool.false_and, Bool.not_true, Bool.not_false, if_true, if_false, Bool.false_eq_true]); (first | done | rfl | (exfalso; simp_all; done) | skip))
def e_rsize {κ : Kp} (hκ : κ = kid) : ESpec Try.prog := fnES [.flat] b_rsize F_rsize hκ fun avs p r hF hp => by
  unfold F_rsize at hF
  split at hF
  case h_2 => cases hF
  rename_i n
  simp only [kid, Option.some.injEq, Prod.mk.injEq] at hF
  obtain ⟨rfl, rfl⟩ := hF
  refine ⟨trivial, fun vs w hR => ?_⟩
  obtain ⟨vs0, rfl, hR⟩ := hR
  have hR' : vs0 = [] := hR
  subst hR'
  exact k_rsize n hp w

theorem b_rrange : Bodied Try.prog 125 := bodied Try.func125 rfl (by decide)
def F_rrange : FunX := fun κ avs => match avs with
  | [.val (.c (.v (.int .i64 a))), .val (.c (.v (.int .i64 n)))] => some (κ _ (In64 a), (.val (.tup [.c (.v (.int .i64 (κ _ (rangeLo a n)))), .c (.v (.int .i64 (κ _ (rangeHi a n)))), .c (.v (.int .i64 (κ _ (rangeE a n))))])))
  | _ => none
set_option maxRecDepth 100000 in
set_option maxHeartbeats 4000000 in
theorem k_rrange (a : Int) (n : Int) (hside : In64 a) (w : World) :
    Calls Try.prog 125 #[(SV.c (.v (.int .i64 a))).den, (SV.c (.v (.int .i64 n))).den] w fun e w' => ∃ v H', e = .returned v.den ∧ IsX (.val (.tup [.c (.v (.int .i64 (rangeLo a n))), .c (.v (.int .i64 (rangeHi a n))), .c (.v (.int .i64 (rangeE a n)))])) v H' ∧ HSat w (fun _ => False) H' w' := by
  obtain ⟨κ, hκ⟩ : ∃ κ : Kp, κ = kid := ⟨_, rfl⟩
  have hH : HSat w (fun _ => False) (heapOf [(nilId, .rd none 1 0 [])]) w := by
    subst hκ
    refine HSat.reads fun p hp => ?_
    simp only [List.mem_cons, List.not_mem_nil, or_false] at hp
    rcases hp with rfl
    · exact ⟨_, _, _, _, rfl, nil_holds w⟩
  refine (callsP (n := 36) FTok [e_rsize hκ] mixed [] Try.func125 rfl (by kernel_rfl) #[(SV.c (.v (.int .i64 a))).den, (SV.c (.v (.int .i64 n))).den] [(0, .c (.v (.int .i64 a))), (1, .c (.v (.int .i64 n)))] _ w rfl [.tmp 4, .tmp 5, .tmp 6] rfl (by simp) (by subst hκ; simp [SV.den, C.den, kid]) hH (fun v H' => IsX (.val (.tup [.c (.v (.int .i64 (κ _ (rangeLo a n)))), .c (.v (.int .i64 (κ _ (rangeHi a n)))), .c (.v (.int .i64 (κ _ (rangeE a n))))])) v H') hκ ?_).mono ?_
  rotate_left
  · subst hκ; intro e w' h; exact h
  intro P' hP'
  cbv
  repeat' (first | refine And.intro ?_ ?_ | (intro _; cbv) | (refine tst_mk (fun h => ?_) (fun h => ?_) <;> cbv) | (refine LookX.nil ?_; cbv) | (refine LookX.auto hκ ?_; cbv))
  all_goals (clear hH; subst hκ; delta kid at *; (try dsimp only at *))
  all_goals (try (exact ⟨trivial⟩))
  all_goals (try (exact ⟨by decide⟩))
  all_goals (first | (have h0 : (Int.tmod a 4096 != 0) = true := (by with_reducible assumption); skip) | (have h0 : (sizeE n != 0) = true := (by with_reducible assumption); skip) | (show IsX _ _ _; have hb := rrange_bad hside (bne_no (x := sizeE n) (by with_reducible assumption)); refine IsX.val_ ?_; simp only [SV.den, SV.den0, C.den, List.map_cons, List.map_nil, rangeLo, rangeHi, rangeC, rangeE, ← hb]; clear hb; simp only [*, Bool.or_true, Bool.true_or, Bool.or_false, Bool.false_or, Bool.and_true, Bool.true_and, Bool.and_false, Bool.false_and, Bool.not_true, Bool.not_false, if_true, if_false, Bool.false_eq_true]))
  all_goals (try (show IsX _ _ _; refine IsX.val_ ?_; simp only [SV.den, SV.den0, C.den, List.map_cons, List.map_nil, rangeLo, rangeHi, rangeC, rangeE, rangeBad, GT.gt, GE.ge]; (try simp only [*, Bool.or_true, Bool.true_or, Bool.or_false, Bool.false_or, Bool.and_true, Bool.true_and, Bool.and_false, Bool.false_and, Bool.not_true, Bool.not_false, if_true, if_false, Bool.false_eq_true]); (first | done | rfl | (exfalso; simp_all; done) | skip)))
def e_rrange {κ : Kp} (hκ : κ = kid) : ESpec Try.prog := fnES [.flat, .flat] b_rrange F_rrange hκ fun avs p r hF hp => by
  unfold F_rrange at hF
  split at hF
  case h_2 => cases hF
  rename_i a n
  simp only [kid, Option.some.injEq, Prod.mk.injEq] at hF
  obtain ⟨rfl, rfl⟩ := hF
  refine ⟨trivial, fun vs w hR => ?_⟩
  obtain ⟨vs0, rfl, hR⟩ := hR
  obtain ⟨vs1, rfl, hR⟩ := hR
  have hR' : vs1 = [] := hR
  subst hR'
  exact k_rrange a n hp w

theorem b_rback : Bodied Try.prog 130 := bodied Try.func130 rfl (by decide)
def F_rback : FunX := fun κ avs => match avs with
  | [.val (.c (.v (.int .i64 b))), .val (.c (.v (.int .i64 o))), .val (.c (.v (.int .i64 s)))] => some (κ _ (In64 o ∧ SzOk s), (.val (.c (.v (.int .i64 (κ _ (backE b o s)))))))
  | _ => none
set_option maxRecDepth 100000 in
set_option maxHeartbeats 4000000 in
theorem k_rback (b : Int) (o : Int) (s : Int) (hside : In64 o ∧ SzOk s) (w : World) :
    Calls Try.prog 130 #[(SV.c (.v (.int .i64 b))).den, (SV.c (.v (.int .i64 o))).den, (SV.c (.v (.int .i64 s))).den] w fun e w' => ∃ v H', e = .returned v.den ∧ IsX (.val (.c (.v (.int .i64 (backE b o s))))) v H' ∧ HSat w (fun _ => False) H' w' := by
  obtain ⟨κ, hκ⟩ : ∃ κ : Kp, κ = kid := ⟨_, rfl⟩
  have hH : HSat w (fun _ => False) (heapOf [(nilId, .rd none 1 0 [])]) w := by
    subst hκ
    refine HSat.reads fun p hp => ?_
    simp only [List.mem_cons, List.not_mem_nil, or_false] at hp
    rcases hp with rfl
    · exact ⟨_, _, _, _, rfl, nil_holds w⟩
  refine (callsP (n := 36) FTok [] mixed [] Try.func130 rfl (by kernel_rfl) #[(SV.c (.v (.int .i64 b))).den, (SV.c (.v (.int .i64 o))).den, (SV.c (.v (.int .i64 s))).den] [(0, .c (.v (.int .i64 b))), (1, .c (.v (.int .i64 o))), (2, .c (.v (.int .i64 s)))] _ w rfl [.tmp 6] rfl (by simp) (by subst hκ; simp [SV.den, C.den, kid]) hH (fun v H' => IsX (.val (.c (.v (.int .i64 (κ _ (backE b o s)))))) v H') hκ ?_).mono ?_
  rotate_left
  · subst hκ; intro e w' h; exact h
  intro P' hP'
  cbv
  repeat' (first | refine And.intro ?_ ?_ | (intro _; cbv) | (refine tst_mk (fun h => ?_) (fun h => ?_) <;> cbv) | (refine LookX.nil ?_; cbv) | (refine LookX.auto hκ ?_; cbv))
  all_goals (clear hH; subst hκ; delta kid at *; (try dsimp only at *))
  all_goals (try (exact ⟨by decide⟩))
  all_goals (have hb := rback_bad hside.1 hside.2)
  all_goals (show IsX _ _ _; refine IsX.val_ ?_; simp only [SV.den, SV.den0, C.den, List.map_cons, List.map_nil, backE, backBad, GT.gt, GE.ge]; simp only [GT.gt] at hb; (try simp only [← hb]); clear hb; simp only [*, Bool.or_true, Bool.true_or, Bool.or_false, Bool.false_or, Bool.and_true, Bool.true_and, Bool.and_false, Bool.false_and, Bool.not_true, Bool.not_false, if_true, if_false, Bool.false_eq_true]; (try rfl))
def e_rback {κ : Kp} (hκ : κ = kid) : ESpec Try.prog := fnES [.flat, .flat, .flat] b_rback F_rback hκ fun avs p r hF hp => by
  unfold F_rback at hF
  split at hF
  case h_2 => cases hF
  rename_i b o s
  simp only [kid, Option.some.injEq, Prod.mk.injEq] at hF
  obtain ⟨rfl, rfl⟩ := hF
  refine ⟨trivial, fun vs w hR => ?_⟩
  obtain ⟨vs0, rfl, hR⟩ := hR
  obtain ⟨vs1, rfl, hR⟩ := hR
  obtain ⟨vs2, rfl, hR⟩ := hR
  have hR' : vs2 = [] := hR
  subst hR'
  exact k_rback b o s hp w

theorem b_clone : Bodied Try.prog 116 := bodied Try.func116 rfl (by decide)
def F_clone : FunX := fun κ avs => match avs with
  | [.lst l xl] => some (κ _ (l.length ≤ 300000), (.row 53 6 ((κ _ ((l).length))) ((κ _ (encL (l)))) (fun x => .c x)))
  | _ => none
set_option maxRecDepth 100000 in
set_option maxHeartbeats 4000000 in
theorem k_clone (l : List Ar) (Al : Option Addr) (cl : Nat) (hside : l.length ≤ 300000) (w : World) (hl : (Ent.rd Al 6 l.length (encL l)).holds w) :
    Calls Try.prog 116 #[.slice Al l.length cl] w fun e w' => ∃ v H', e = .returned v.den ∧ IsX (.row 53 6 (((l).length)) ((encL (l))) (fun x => .c x)) v H' ∧ HSat w (fun _ => False) H' w' := by
  obtain ⟨κ, hκ⟩ : ∃ κ : Kp, κ = kid := ⟨_, rfl⟩
  have hH : HSat w (fun _ => False) (heapOf [(nilId, .rd none 1 0 []), (200000, .rd Al 6 (κ _ l.length) (κ _ (encL l)))]) w := by
    subst hκ
    refine HSat.reads fun p hp => ?_
    simp only [List.mem_cons, List.not_mem_nil, or_false] at hp
    rcases hp with rfl | rfl
    · exact ⟨_, _, _, _, rfl, nil_holds w⟩
    · exact ⟨_, _, _, _, rfl, hl⟩
  refine (callsP (n := 8) FTok [] mixed [] Try.func116 rfl (by kernel_rfl) #[.slice Al l.length cl] [(0, .c (.sl 200000 Al (κ _ l.length) cl))] _ w rfl [.tmp 2] rfl (by simp) (by subst hκ; simp [SV.den, C.den, kid]) hH (fun v H' => IsX (.row 53 6 ((κ _ ((l).length))) ((κ _ (encL (l)))) (fun x => .c x)) v H') hκ ?_).mono ?_
  rotate_left
  · subst hκ; intro e w' h; exact h
  intro P' hP'
  cbv
  repeat' (first | refine And.intro ?_ ?_ | (intro _; cbv) | (refine tst_mk (fun h => ?_) (fun h => ?_) <;> cbv) | (refine LookX.nil ?_; cbv) | (refine LookX.auto hκ ?_; cbv))
  all_goals (try (show Side _; refine ⟨?_⟩; subst hκ; delta kid at *; first | exact rfl | exact trivial | exact ⟨rfl, rfl, .inl rfl⟩ | ((try dsimp only at *); (try simp only [setTo_len, noS_len, List.length_append, List.length_cons, List.length_nil, List.length_map, and_self, true_or, or_true, eq_self, true_and, and_true, Nat.zero_add, Nat.add_zero]); (first | done | omega); done)))
  all_goals (clear hH; subst hκ; delta kid at *; (try dsimp only at *))
  · exact IsX.nil_ (nil_of_none hl (by with_reducible assumption)) rfl
  all_goals (try simp only [Nat.zero_add, List.nil_append])
  all_goals (try (refine ⟨?_⟩; simp only [maxLen]; omega))
  all_goals (try (exact ⟨⟨trivial, trivial, .inl trivial, encL_ok l⟩⟩))
  all_goals (first | exact IsX.row_ rfl rfl rfl | trace_state)
def e_clone {κ : Kp} (hκ : κ = kid) : ESpec Try.prog := fnES [.list] b_clone F_clone hκ fun avs p r hF hp => by
  unfold F_clone at hF
  split at hF
  case h_2 => cases hF
  rename_i l xl
  simp only [kid, Option.some.injEq, Prod.mk.injEq] at hF
  obtain ⟨rfl, rfl⟩ := hF
  refine ⟨fun x y h => by simp [SV.den, SV.den0, h], fun vs w hR => ?_⟩
  obtain ⟨il, Al, cl, vs0, rfl, rfl, hl, hR⟩ := hR
  have hR' : vs0 = [] := hR
  subst hR'
  exact k_clone l Al cl hp w hl

end Go.Proofs.Ytbcicjmepojlnaa.Eng
/- Protecting and faults, in plain words; no condition but those typed. -/
namespace Go.Proofs.Ytbcicjmepojlnaa.Eng
open Go Go.RowKit
set_option autoImplicit false
set_option linter.unusedSimpArgs false
set_option linter.unusedVariables false

def wrE (l : List Ar) (c : Cl) : Int := if (!mayS l) = true then 1 else if (rangeE c.a c.n == 0) = true then (if (protE c.p == 0) = true then (if coveredL l (rangeLo c.a c.n) (rangeHi c.a c.n) = true then protE c.p else 7) else protE c.p) else rangeE c.a c.n
def wrX (l : List Ar) (x : Int) : Int := if (!mayS l) = true then 0 else x
def protS (l : List Ar) (c : Cl) : List Ar := setL l (wrX l (rangeLo c.a c.n)) (wrX l (rangeHi c.a c.n)) c.p
def protL (l : List Ar) (c : Cl) : List Ar := if (wrE l c != 0) = true then l else keptL l (protS l c)
def protN (l : List Ar) (c : Cl) : An := if (wrE l c != 0) = true then errA (wrE l c) else keptN (protS l c) 0
def faultN (l : List Ar) (c : Cl) : An := if (!mayS l || decide (c.p < 1) || decide (c.p > 7)) = true then errA 1 else if (!foundL l c.a) = true then errA 7 else if (!mayA (findL l c.a) c.p) = true then errA 8 else ⟨0, 0, attrA (findL l c.a) c.a⟩
end Go.Proofs.Ytbcicjmepojlnaa.Eng
/- Covered, found, faults page by page; the reference's protecting; no condition but those typed. -/
namespace Go.Proofs.Ytbcicjmepojlnaa.Eng
open Go Go.RowKit
set_option autoImplicit false
set_option linter.unusedSimpArgs false
set_option linter.unusedVariables false

theorem covF_spec : ∀ {W : List Ar} {at_ hi : Int}, Ok W → at_ % 4096 = 0 → (∀ a ∈ W, at_ ≤ a.s) → (∀ a ∈ W, a.s < hi) → (covF W at_ hi = true ↔ ∀ x, x % 4096 = 0 → at_ ≤ x → x < hi → ∃ t, Has W x t)
  | [], at_, hi, _, h0, _, _ => by
    unfold covF
    rw [decide_eq_true_eq]
    constructor
    · intro h x _ h1 h2; omega
    · intro h
      by_cases h1 : hi ≤ at_
      · exact h1
      · obtain ⟨t, ht⟩ := h at_ h0 (Int.le_refl _) (by omega)
        exact (Has.nil ht).elim
  | p :: r, at_, hi, hW, h0, h1, h2 => by
    have hp : Fo p := fo.1 (hW.1 p (List.mem_cons_self ..))
    have hr : Ok r := ⟨fun a ha => hW.1 a (List.mem_cons_of_mem _ ha), (List.pairwise_cons.1 hW.2).2⟩
    have hre : ∀ a ∈ r, p.e ≤ a.s := (List.pairwise_cons.1 hW.2).1
    have ih := covF_spec (W := r) (at_ := p.e) (hi := hi) hr hp.e0 hre (fun a ha => h2 a (List.mem_cons_of_mem _ ha))
    have a1 := h1 p (List.mem_cons_self ..)
    have a2 := h2 p (List.mem_cons_self ..)
    unfold covF
    by_cases he : p.s = at_
    · rw [if_neg (by simp [he]), ih]
      constructor
      · intro h x hx h3 h4
        by_cases h5 : x < p.e
        · exact ⟨_, (has_cons p r x _).2 (.inl ⟨⟨by omega, h5⟩, rfl⟩)⟩
        · obtain ⟨t, ht⟩ := h x hx (by omega) h4
          exact ⟨t, (has_cons p r x _).2 (.inr ht)⟩
      · intro h x hx h3 h4
        have := hp.lt
        obtain ⟨t, ht⟩ := h x hx (by omega) h4
        rcases (has_cons p r x t).1 ht with ⟨⟨_, h6⟩, _⟩ | h6
        · omega
        · exact ⟨t, h6⟩
    · rw [if_pos (by simp [he])]
      constructor
      · intro h; cases h
      · intro h
        exfalso
        obtain ⟨t, ht⟩ := h at_ h0 (Int.le_refl _) (by omega)
        rcases (has_cons p r at_ t).1 ht with ⟨⟨h6, _⟩, _⟩ | ⟨a, ha, ⟨h6, _⟩, _⟩
        · omega
        · have := hre a ha
          have := hp.lt
          omega
theorem covered_spec {l : List Ar} (hl : Rt l) {lo hi : Int} (hlo : In64 lo) : coveredL l lo hi = true ↔ lo < hi ∧ 65536 ≤ lo ∧ hi ≤ 2097152 ∧ ∀ x, x % 4096 = 0 → Touch x lo hi → ∃ t, Has l x t := by
  unfold coveredL
  by_cases h : lo < hi ∧ 65536 ≤ lo ∧ hi ≤ 2097152
  · have hr : rightL l = true := of_rt hl
    rw [if_neg (by rw [hr]; simp; omega)]
    have hP := within_parts lo hi
    have hW : Ok (withinL l lo hi) := parts_ok hP hl.ok
    have hf := floorA_eq' hlo
    rw [covF_spec hW (floor0 hlo) (fun a ha => by
      obtain ⟨b1, b2, b3⟩ := parts_in hP hl.1 ha
      have := b1.s0
      have := b2.2.1
      omega) (fun a ha => (parts_in hP hl.1 ha).2.1.2.2)]
    constructor
    · intro h2
      refine ⟨h.1, h.2.1, h.2.2, fun x hx ht => ?_⟩
      obtain ⟨t, h3⟩ := h2 x hx (by have := ht.2.1; omega) ht.2.2
      exact ⟨t, ((has_within hl.1 hx).1 h3).1⟩
    · rintro ⟨_, _, _, h2⟩ x hx h3 h4
      have ht : Touch x lo hi := ⟨h.1, by omega, h4⟩
      obtain ⟨t, h5⟩ := h2 x hx ht
      exact ⟨t, (has_within hl.1 hx).2 ⟨h5, ht⟩⟩
  · have : (!rightL l || decide (hi ≤ lo) || decide (lo < 65536) || decide (2097152 < hi)) = true := by
      simp only [Bool.or_eq_true, decide_eq_true_eq]
      omega
    rw [if_pos this]
    constructor
    · intro h; cases h
    · rintro ⟨h1, h2, h3, _⟩; exact absurd ⟨h1, h2, h3⟩ h

/-! ### Pages of right lists -/
theorem of_has {l : List Ar} (hl : Ok l) {q : Nat} (h0 : 16 ≤ q) (hq : q < 512) : (nthP (ofL l) q).is = true → Has l (4096 * q) (nthP (ofL l) q).t := fun h =>
  ((of_spec hl).1 _ _ (by omega)).1 ⟨q, rfl, h0, hq, h, rfl⟩
theorem has_of {l : List Ar} (hl : Ok l) {q : Nat} {t : At} (h : Has l (4096 * q) t) : (nthP (ofL l) q).is = true ∧ (nthP (ofL l) q).t = t := by
  obtain ⟨q', he, _, _, h1, h2⟩ := ((of_spec hl).1 _ _ (by omega)).2 h
  obtain rfl : q = q' := by omega
  exact ⟨h1, h2⟩
theorem in_page {a : Ar} (h : Fo a) {x : Int} : inA a x ↔ inA a (x - x % 4096) := by
  have := h.s0
  have := h.e0
  unfold inA
  omega
theorem idx_spec {l : List Ar} (hl : Fm l) (x : Int) : (idxI l x ≥ 0 ↔ ∃ a ∈ l, inA a x) ∧ (idxI l x ≥ 0 → idxL l x < l.length ∧ inA (nthA l (idxL l x)) x) := by
  have hh : ∀ i, i < l.length → (hasA (nthA l i) x = true ↔ inA (nthA l i) x) := fun i hi => by
    unfold hasA inA
    rw [hl _ (nthA_mem hi)]
    simp
  by_cases hex : ∃ i, i < l.length ∧ hasA (nthA l i) x = true
  · obtain ⟨i, hi, hy⟩ := hex
    have hsome : ((List.range l.length).find? fun i => hasA (nthA l i) x).isSome = true := by
      rw [List.find?_isSome]
      exact ⟨i, List.mem_range.2 hi, hy⟩
    obtain ⟨j, hj⟩ := Option.isSome_iff_exists.1 hsome
    have hj2 := List.find?_some hj
    have hj3 := List.mem_range.1 (List.mem_of_find?_eq_some hj)
    have e : idxL l x = j := by unfold idxL; rw [hj]; rfl
    have e2 : idxI l x = (j : Int) := by unfold idxI; rw [e, if_pos (by simpa using hj3)]
    rw [e2, e]
    have hin := (hh j hj3).1 hj2
    exact ⟨⟨fun _ => ⟨_, nthA_mem hj3, hin⟩, fun _ => by omega⟩, fun _ => ⟨hj3, hin⟩⟩
  · have hn : ∀ j : Nat, j < l.length → hasA (nthA l j) x = false := fun j hj => by
      cases hb : hasA (nthA l j) x
      · rfl
      · exact absurd ⟨j, hj, hb⟩ hex
    rw [idx_no hn]
    refine ⟨⟨fun h => by omega, ?_⟩, fun h => by omega⟩
    rintro ⟨a, ha, hin⟩
    obtain ⟨i, hi, rfl⟩ := List.getElem_of_mem ha
    rw [← nthA_elem hi] at hin
    have := (hh i hi).2 hin
    rw [hn i hi] at this
    cases this
theorem found_spec {l : List Ar} (hl : Rt l) (x : Int) : (foundL l x = true ↔ ∃ a ∈ l, inA a x) ∧ (foundL l x = true → findL l x ∈ l ∧ inA (findL l x) x) := by
  have hr : rightL l = true := of_rt hl
  obtain ⟨h1, h2⟩ := idx_spec hl.1 x
  have e : foundL l x = true ↔ idxI l x ≥ 0 := by
    unfold foundL
    rw [hr, Bool.and_true, decide_eq_true_eq]
  refine ⟨e.trans h1, fun hf => ?_⟩
  obtain ⟨h3, h4⟩ := h2 (e.1 hf)
  unfold findL
  rw [if_pos hf]
  exact ⟨nthA_mem h3, h4⟩
theorem attr_ext {a : Ar} (h : Fo a) {x : Int} (hx : inA a x) : hasA a x = true ∧ attrA a x = ext a (x - x % 4096) := by
  have h1 : hasA a x = true := by
    unfold hasA
    rw [fo.2 h]
    have := hx.1
    have := hx.2
    simp
    omega
  refine ⟨h1, ?_⟩
  have := hx.1
  have := hx.2
  have := h.lo
  have := h.hi
  unfold attrA ext
  rw [if_pos h1, tmod_pos (by omega), w64_id (show In64 (x - x % 4096) by unfold In64; omega), offP_eq h (by omega) (by omega)]
/-- A byte's page. -/
theorem fault_page {l : List Ar} (hl : Rt l) {x : Int} (h0 : 65536 ≤ x) (h1 : x < 2097152) : (nthP (ofL l) (x / 4096).toNat).is = foundL l x ∧ (foundL l x = true → (nthP (ofL l) (x / 4096).toNat).t = attrA (findL l x) x) := by
  obtain ⟨f1, f2⟩ := found_spec hl x
  have hq : (4096 * ((x / 4096).toNat : Int)) = x - x % 4096 := by omega
  cases hf : foundL l x with
  | true =>
    obtain ⟨g1, g2⟩ := f2 hf
    have hfo := fo.1 (hl.1 _ g1)
    have hh : Has l (4096 * ((x / 4096).toNat : Int)) (attrA (findL l x) x) := ⟨_, g1, by rw [hq]; exact (in_page hfo).1 g2, by rw [hq, (attr_ext hfo g2).2]⟩
    obtain ⟨e1, e2⟩ := has_of hl.ok hh
    exact ⟨e1, fun _ => e2⟩
  | false =>
    refine ⟨?_, fun h => by cases h⟩
    cases hi : (nthP (ofL l) (x / 4096).toNat).is with
    | false => rfl
    | true =>
      obtain ⟨a, ha, h2, _⟩ := of_has hl.ok (by omega) (by omega) hi
      rw [hq] at h2
      have := f1.2 ⟨a, ha, (in_page (fo.1 (hl.1 a ha))).2 h2⟩
      rw [hf] at this
      cases this

/-! ### A fault's reads, its bits -/
theorem adr_q {x : Int} (h1 : decide (x < 65536) = false) (h2 : decide (2097152 ≤ x) = false) : IntKind.i64.wrap (Int.tdiv x 4096) = (((x / 4096).toNat : Nat) : Int) ∧ (x / 4096).toNat < 512 := by
  have a1 := of_decide_eq_false h1
  have a2 := of_decide_eq_false h2
  have e : w64 (Int.tdiv x 4096) = x / 4096 := by
    rw [tdiv_pos (by omega)]
    exact w64_id (by unfold In64; omega)
  exact ⟨e.trans (by omega), by omega⟩
theorem adr_in {x : Int} (h1 : decide (x < 65536) = false) (h2 : decide (2097152 ≤ x) = false) : (0 : Int) ≤ IntKind.i64.wrap (Int.tdiv x 4096) ∧ IntKind.i64.wrap (Int.tdiv x 4096) < ((512 : Nat) : Int) := by
  obtain ⟨e, h⟩ := adr_q h1 h2
  rw [e]
  exact page_ix h
theorem adr_is {s : List Pg} (hs : s.length = 512) {x : Int} (h1 : decide (x < 65536) = false) (h2 : decide (2097152 ≤ x) = false) : (encS s)[0 + (IntKind.i64.wrap (Int.tdiv x 4096)).toNat * 5]? = some (.v (.bool (nthP s (x / 4096).toNat).is)) := by
  obtain ⟨e, h⟩ := adr_q h1 h2
  rw [e]
  exact page_is' hs h
theorem adr_attr {s : List Pg} (hs : s.length = 512) {x : Int} (h1 : decide (x < 65536) = false) (h2 : decide (2097152 ≤ x) = false) : takeM (encS s) (0 + (IntKind.i64.wrap (Int.tdiv x 4096)).toNat * 5 + 1) 4 = some [.v (.int .i64 (nthP s (x / 4096).toNat).t.p), .v (.bool (nthP s (x / 4096).toNat).t.sh), .v (.int .i64 (nthP s (x / 4096).toNat).t.b), .v (.int .i64 (nthP s (x / 4096).toNat).t.o)] := by
  obtain ⟨e, h⟩ := adr_q h1 h2
  rw [e]
  exact page_attr' hs h
theorem adr_isZ {s : List Pg} (hs : s.length = 512) {x : Int} (h1 : decide (x < 65536) = false) (h2 : decide (2097152 ≤ x) = false) : (putCells (List.replicate 512 [C.v (.bool false), .v (.int .i64 0), .v (.bool false), .v (.int .i64 0), .v (.int .i64 0)]).flatten 0 (encS s))[0 + (IntKind.i64.wrap (Int.tdiv x 4096)).toNat * 5]? = some (.v (.bool (nthP s (x / 4096).toNat).is)) := by
  rw [zero_put hs]
  exact adr_is hs h1 h2
theorem adr_attrZ {s : List Pg} (hs : s.length = 512) {x : Int} (h1 : decide (x < 65536) = false) (h2 : decide (2097152 ≤ x) = false) : takeM (putCells (List.replicate 512 [C.v (.bool false), .v (.int .i64 0), .v (.bool false), .v (.int .i64 0), .v (.int .i64 0)]).flatten 0 (encS s)) (0 + (IntKind.i64.wrap (Int.tdiv x 4096)).toNat * 5 + 1) 4 = some [.v (.int .i64 (nthP s (x / 4096).toNat).t.p), .v (.bool (nthP s (x / 4096).toNat).t.sh), .v (.int .i64 (nthP s (x / 4096).toNat).t.b), .v (.int .i64 (nthP s (x / 4096).toNat).t.o)] := by
  rw [zero_put hs]
  exact adr_attr hs h1 h2
def bitN : Nat → Int
  | 0 => 1
  | 1 => 2
  | 2 => 4
  | _ => 8
def bitBad (k p b : Int) : Bool := (Int.tmod (w64 (Int.tdiv k b)) 2 == 1) && (Int.tmod (w64 (Int.tdiv p b)) 2 == 0)
theorem bits_all : ∀ p : Fin 8, ∀ k : Fin 7, (bits .and .i64 (p.val : Int) ((k.val : Int) + 1) == ((k.val : Int) + 1)) = !(bitBad ((k.val : Int) + 1) (p.val : Int) 1 || bitBad ((k.val : Int) + 1) (p.val : Int) 2 || bitBad ((k.val : Int) + 1) (p.val : Int) 4) := by decide +kernel
theorem may_bits {a : Ar} (h : Fo a) {k : Int} (h1 : decide (k < 1) = false) (h2 : decide (7 < k) = false) : mayA a k = !(bitBad k a.p 1 || bitBad k a.p 2 || bitBad k a.p 4) := by
  have a1 := of_decide_eq_false h1
  have a2 := of_decide_eq_false h2
  have p0 := h.p0
  have p7 := h.p7
  have := bits_all ⟨a.p.toNat, by omega⟩ ⟨(k - 1).toNat, by omega⟩
  simp only at this
  rw [show ((a.p.toNat : Nat) : Int) = a.p by omega, show (((k - 1).toNat : Nat) : Int) + 1 = k by omega] at this
  unfold mayA
  rw [this, show decide (k ≥ 1) = true by rw [decide_eq_true_eq]; omega, show decide (k ≤ 7) = true by rw [decide_eq_true_eq]; omega]
  rfl
theorem mayS_rt {l : List Ar} (h : mayS l = true) : Rt l ∧ l.length ≤ 24 := by
  unfold mayS at h
  rw [Bool.and_eq_true, decide_eq_true_eq] at h
  exact ⟨rt_of h.1, by omega⟩
theorem rt_mayS {l : List Ar} (h : Rt l) (h2 : l.length ≤ 24) : mayS l = true := by
  unfold mayS
  rw [of_rt h]
  simp
  omega
/-- What a fault comes to, by pages. -/
theorem fault_a {l : List Ar} {c : Cl} (hm : mayS l = true) (h : decide (c.p < 1) = true ∨ decide (7 < c.p) = true) : faultN l c = errA 1 := by
  unfold faultN
  rw [if_pos]
  rcases h with h | h
  · rw [h]; simp
  · rw [show decide (c.p > 7) = true from h]; simp
theorem fault_b {l : List Ar} {c : Cl} (hm : mayS l = true) (h1 : decide (c.p < 1) = false) (h2 : decide (7 < c.p) = false) (h : decide (c.a < 65536) = true ∨ decide (2097152 ≤ c.a) = true ∨ (decide (c.a < 65536) = false ∧ decide (2097152 ≤ c.a) = false ∧ (nthP (ofL l) (c.a / 4096).toNat).is = false)) : faultN l c = errA 7 := by
  have hr := (mayS_rt hm).1
  have hf : foundL l c.a = false := by
    cases hf : foundL l c.a with
    | false => rfl
    | true =>
      obtain ⟨f1, f2⟩ := found_spec hr c.a
      obtain ⟨g1, g2, g3⟩ := f2 hf
      have hfo := fo.1 (hr.1 _ g1)
      have := hfo.lo
      have := hfo.hi
      rcases h with h | h | ⟨h3, h4, h5⟩
      · have := of_decide_eq_true h; omega
      · have := of_decide_eq_true h; omega
      · have a3 := of_decide_eq_false h3
        have a4 := of_decide_eq_false h4
        have := (fault_page hr (x := c.a) (by omega) (by omega)).1
        rw [h5, hf] at this
        cases this
  unfold faultN
  rw [if_neg (by rw [hm, h1, show decide (c.p > 7) = false from h2]; simp), if_pos (by rw [hf]; rfl)]
theorem fault_c {l : List Ar} {c : Cl} (hm : mayS l = true) (h1 : decide (c.p < 1) = false) (h2 : decide (7 < c.p) = false) (h3 : decide (c.a < 65536) = false) (h4 : decide (2097152 ≤ c.a) = false) (h5 : (nthP (ofL l) (c.a / 4096).toNat).is = true) : faultN l c = if (bitBad c.p (nthP (ofL l) (c.a / 4096).toNat).t.p 1 || bitBad c.p (nthP (ofL l) (c.a / 4096).toNat).t.p 2 || bitBad c.p (nthP (ofL l) (c.a / 4096).toNat).t.p 4) = true then errA 8 else ⟨0, 0, (nthP (ofL l) (c.a / 4096).toNat).t⟩ := by
  have hr := (mayS_rt hm).1
  have a3 := of_decide_eq_false h3
  have a4 := of_decide_eq_false h4
  obtain ⟨e1, e2⟩ := fault_page hr (x := c.a) (by omega) (by omega)
  have hf : foundL l c.a = true := by rw [← e1, h5]
  have e3 := e2 hf
  obtain ⟨g1, g2⟩ := (found_spec hr c.a).2 hf
  have hfo := fo.1 (hr.1 _ g1)
  have e4 : (nthP (ofL l) (c.a / 4096).toNat).t.p = (findL l c.a).p := by rw [e3, (attr_ext hfo g2).2]; rfl
  unfold faultN
  rw [if_neg (by rw [hm, h1, show decide (c.p > 7) = false from h2]; simp), if_neg (by rw [hf]; simp), may_bits hfo h1 h2, e3, ← e3, e4, Bool.not_not, e3]
/-- The bits that were looked at so far. -/
def bitsOk (k p : Int) (i : Nat) : Prop := ∀ j : Nat, j < i → bitBad k p (bitN j) = false
theorem bits_next {k p : Int} {i : Nat} (h : bitsOk k p i) (hb : bitBad k p (bitN i) = false) : bitsOk k p (i + 1) := fun j hj => by
  by_cases hji : j = i
  · subst hji; exact hb
  · exact h j (by omega)
theorem bit_a {k p b : Int} (h : (Int.tmod (IntKind.i64.wrap (Int.tdiv k b)) 2 == 1) = false) : bitBad k p b = false := by
  unfold bitBad
  rw [show (Int.tmod (w64 (Int.tdiv k b)) 2 == 1) = false from h]
  rfl
theorem bit_b {k p b : Int} (h : (Int.tmod (IntKind.i64.wrap (Int.tdiv p b)) 2 == 0) = false) : bitBad k p b = false := by
  unfold bitBad
  rw [show (Int.tmod (w64 (Int.tdiv p b)) 2 == 0) = false from h, Bool.and_false]
theorem bit_y {k p b : Int} (h : (Int.tmod (IntKind.i64.wrap (Int.tdiv k b)) 2 == 1) = true) (h2 : (Int.tmod (IntKind.i64.wrap (Int.tdiv p b)) 2 == 0) = true) : bitBad k p b = true := by
  unfold bitBad
  rw [show (Int.tmod (w64 (Int.tdiv k b)) 2 == 1) = true from h, show (Int.tmod (w64 (Int.tdiv p b)) 2 == 0) = true from h2]
  rfl
theorem bits_end {k p : Int} (h : bitsOk k p 3) : (bitBad k p 1 || bitBad k p 2 || bitBad k p 4) = false := by
  rw [show bitBad k p 1 = false from h 0 (by decide), show bitBad k p 2 = false from h 1 (by decide), show bitBad k p 4 = false from h 2 (by decide)]
  rfl
theorem bits_bad {k p : Int} (i : Nat) (hi : i < 3) (h : bitBad k p (bitN i) = true) : (bitBad k p 1 || bitBad k p 2 || bitBad k p 4) = true := by
  obtain rfl | rfl | rfl : i = 0 ∨ i = 1 ∨ i = 2 := by omega
  · rw [show bitBad k p 1 = true from h]; rfl
  · rw [show bitBad k p 2 = true from h, Bool.or_true]; rfl
  · rw [show bitBad k p 4 = true from h, Bool.or_true]
theorem fault_d {l : List Ar} {c : Cl} (hm : mayS l = true) (h1 : decide (c.p < 1) = false) (h2 : decide (7 < c.p) = false) (h3 : decide (c.a < 65536) = false) (h4 : decide (2097152 ≤ c.a) = false) (h5 : (nthP (ofL l) (c.a / 4096).toNat).is = true) (i : Nat) (hi : i < 3) (h : bitBad c.p (nthP (ofL l) (c.a / 4096).toNat).t.p (bitN i) = true) : faultN l c = errA 8 := by
  rw [fault_c hm h1 h2 h3 h4 h5, if_pos (bits_bad i hi h)]
theorem fault_e {l : List Ar} {c : Cl} (hm : mayS l = true) (h1 : decide (c.p < 1) = false) (h2 : decide (7 < c.p) = false) (h3 : decide (c.a < 65536) = false) (h4 : decide (2097152 ≤ c.a) = false) (h5 : (nthP (ofL l) (c.a / 4096).toNat).is = true) (h : bitsOk c.p (nthP (ofL l) (c.a / 4096).toNat).t.p 3) : faultN l c = ⟨0, 0, (nthP (ofL l) (c.a / 4096).toNat).t⟩ := by
  rw [fault_c hm h1 h2 h3 h4 h5, bits_end h]
  rfl
theorem IsX.ans_ {x : An} {e v p b o : Int} {sh : Bool} {y : An} {H' : Heap} (h : x = y) (h2 : y = ⟨e, v, ⟨p, sh, b, o⟩⟩) : IsX (.val (.agg [.v (.int .i64 x.er), .v (.int .i64 x.v), .v (.int .i64 x.t.p), .v (.bool x.t.sh), .v (.int .i64 x.t.b), .v (.int .i64 x.t.o)])) (.agg [.v (.int .i64 e), .v (.int .i64 v), .v (.int .i64 p), .v (.bool sh), .v (.int .i64 b), .v (.int .i64 o)]) H' := by
  subst h h2
  exact ⟨rfl⟩
end Go.Proofs.Ytbcicjmepojlnaa.Eng
/- The reference's protecting, page by page; no condition but those typed. -/
namespace Go.Proofs.Ytbcicjmepojlnaa.Eng
open Go Go.RowKit
set_option autoImplicit false
set_option linter.unusedSimpArgs false
set_option linter.unusedVariables false

def setP (p : Int) (g : Pg) : Pg := ⟨g.is, setT p g.t⟩
def proP (p : Int) (q0 : Nat) (s : List Pg) : Nat → List Pg
  | 0 => s
  | k + 1 => (proP p q0 s k).set (q0 + k) (setP p (nthP (proP p q0 s k) (q0 + k)))
theorem proP_len (p : Int) (q0 : Nat) (s : List Pg) : ∀ k, (proP p q0 s k).length = s.length
  | 0 => rfl
  | k + 1 => List.length_set.trans (proP_len p q0 s k)
theorem proP_get (p : Int) (q0 : Nat) {s : List Pg} (hs : s.length = 512) : ∀ (k : Nat), q0 + k ≤ 512 → ∀ q : Nat, nthP (proP p q0 s k) q = if q0 ≤ q ∧ q < q0 + k then setP p (nthP s q) else nthP s q
  | 0, _, q => by rw [if_neg (by omega)]; rfl
  | k + 1, hk, q => by
    have ih := proP_get p q0 hs k (by omega)
    show nthP ((proP p q0 s k).set (q0 + k) _) q = _
    rw [nthP_set _ (by rw [proP_len, hs]; omega), ih, ih]
    by_cases h : q = q0 + k
    · subst h
      rw [if_pos rfl, if_neg (by omega), if_pos (by omega)]
    · rw [if_neg h]
      by_cases h2 : q0 ≤ q ∧ q < q0 + k
      · rw [if_pos h2, if_pos (by omega)]
      · rw [if_neg h2, if_neg (by omega)]
theorem proP_is (p : Int) (q0 : Nat) {s : List Pg} (hs : s.length = 512) {k : Nat} (hk : q0 + k ≤ 512) (q : Nat) : (nthP (proP p q0 s k) q).is = (nthP s q).is := by
  rw [proP_get p q0 hs k hk]
  split <;> rfl
def covK (s : List Pg) (q0 k : Nat) : Bool := (List.range k).all fun j => (nthP s (q0 + j)).is
theorem covK_next (s : List Pg) (q0 k : Nat) : covK s q0 (k + 1) = (covK s q0 k && (nthP s (q0 + k)).is) := by
  unfold covK
  rw [List.range_succ, List.all_append]
  simp
theorem covK_iff (s : List Pg) (q0 k : Nat) : covK s q0 k = true ↔ ∀ q, q0 ≤ q → q < q0 + k → (nthP s q).is = true := by
  unfold covK
  rw [List.all_eq_true]
  constructor
  · intro h q h1 h2
    have := h (q - q0) (List.mem_range.2 (by omega))
    rw [show q0 + (q - q0) = q by omega] at this
    exact this
  · intro h j hj
    exact h _ (by omega) (by have := List.mem_range.1 hj; omega)
theorem covK_more {s : List Pg} {q0 k n : Nat} (h : covK s q0 k = false) (hk : k ≤ n) : covK s q0 n = false := by
  cases hn : covK s q0 n with
  | false => rfl
  | true =>
    have := (covK_iff s q0 k).2 fun q h1 h2 => (covK_iff s q0 n).1 hn q h1 (by omega)
    rw [h] at this
    cases this
def errK (s : List Pg) (q0 k : Nat) : Int := if covK s q0 k = true then 0 else 7
theorem errK_0 (s : List Pg) (q0 : Nat) : errK s q0 0 = 0 := rfl
theorem errK_iff {s : List Pg} {q0 k : Nat} : errK s q0 k = 0 ↔ covK s q0 k = true := by
  unfold errK
  split
  · rename_i h; exact ⟨fun _ => h, fun _ => rfl⟩
  · rename_i h; exact ⟨fun h2 => by omega, fun h2 => absurd h2 h⟩
theorem errK_yes {s : List Pg} {q0 k : Nat} (h : (errK s q0 k == 0) = true) (hi : (nthP s (q0 + k)).is = true) : errK s q0 k = errK s q0 (k + 1) := by
  have h1 := errK_iff.1 (beq_yes h)
  have h2 : covK s q0 (k + 1) = true := by rw [covK_next, h1, hi]; rfl
  rw [errK_iff.2 h1, errK_iff.2 h2]
theorem errK_no {s : List Pg} {q0 k : Nat} (hi : (nthP s (q0 + k)).is = false) : 7 = errK s q0 (k + 1) := by
  have h2 : covK s q0 (k + 1) = false := by rw [covK_next, hi, Bool.and_false]
  unfold errK
  rw [h2]
  rfl
theorem errK_7 {s : List Pg} {q0 k : Nat} (h : errK s q0 k ≠ 0) : errK s q0 k = 7 := by
  unfold errK at *
  split
  · rename_i h2; rw [if_pos h2] at h; exact absurd rfl h
  · rfl

/-! ### Reads and writes -/
theorem pro_ix {q0 k q1 : Nat} (h : q0 + k < q1) (h1 : q1 ≤ 512) : (0 : Int) ≤ ((q0 + k : Nat) : Int) ∧ ((q0 + k : Nat) : Int) < ((512 : Nat) : Int) := by omega
theorem pro_is {s : List Pg} (hs : s.length = 512) (p : Int) {q0 k : Nat} (hk : q0 + k < 512) : (encS (proP p q0 s k))[0 + ((q0 + k : Nat) : Int).toNat * 5]? = some (.v (.bool (nthP s (q0 + k)).is)) := by
  rw [page_is' (by rw [proP_len, hs]) hk, proP_is p q0 hs (by omega)]
theorem page_put_p {s : List Pg} {i : Nat} (p : Int) (h : i < s.length) : putCells (encS s) (i * 5 + 1) [.v (.int .i64 p)] = encS (s.set i (setP p (nthP s i))) :=
  enc_put encP_len s i (nthP s i) (setP p (nthP s i)) 1 _ (nthP_get h) (by decide) rfl
theorem pro_put {s : List Pg} (hs : s.length = 512) (p : Int) {q0 k : Nat} (hk : q0 + k < 512) : putCells (encS (proP p q0 s k)) (0 + ((q0 + k : Nat) : Int).toNat * 5 + 1) [.v (.int .i64 p)] = encS (proP p q0 s (k + 1)) := by
  rw [Int.toNat_natCast, Nat.zero_add]
  exact page_put_p p (by rw [proP_len, hs]; exact hk)
theorem pro_fit {s : List Pg} (hs : s.length = 512) (p : Int) {q0 k : Nat} (hk : q0 + k < 512) : 0 + ((q0 + k : Nat) : Int).toNat * 5 + 1 + 1 ≤ (encS (proP p q0 s k)).length := by
  rw [encS_len, proP_len, hs, Int.toNat_natCast]
  omega
theorem pro_q {a : Int} (h0 : 0 ≤ a) (h : a ≤ 2097152) : IntKind.i64.wrap (Int.tdiv a 4096) = (((a / 4096).toNat : Nat) : Int) ∧ (a / 4096).toNat ≤ 512 := by
  have e : w64 (Int.tdiv a 4096) = a / 4096 := by
    rw [tdiv_pos h0]
    exact w64_id (by unfold In64; omega)
  exact ⟨e.trans (by omega), by omega⟩

theorem pro_lt {x : Int} {m q1 : Nat} (w1 : x = (q1 : Int)) (h : decide ((m : Int) < x) = true) : m < q1 := by
  have := of_decide_eq_true h
  omega
theorem pro_ge {x : Int} {m q1 : Nat} (w1 : x = (q1 : Int)) (h : decide ((m : Int) < x) = false) : q1 ≤ m := by
  have := of_decide_eq_false h
  omega

/-! ### What comes about -/
theorem cov_pages {l : List Ar} (hl : Rt l) {lo hi : Int} (h : RgOk lo hi) : coveredL l lo hi = covK (ofL l) (lo / 4096).toNat ((hi / 4096).toNat - (lo / 4096).toNat) := by
  obtain ⟨h1, h2, h3, h4, h5⟩ := h
  rw [Bool.eq_iff_iff, covered_spec hl (by unfold In64; omega), covK_iff]
  constructor
  · rintro ⟨_, _, _, h6⟩ q g1 g2
    obtain ⟨t, ht⟩ := h6 (4096 * q) (by omega) ⟨h3, by omega, by omega⟩
    exact (has_of hl.ok ht).1
  · intro h6
    refine ⟨h3, h1, h2, fun x hx ht => ?_⟩
    have h7 := h6 (x / 4096).toNat (by have := ht.2.1; omega) (by have := ht.2.2; omega)
    have h8 := of_has hl.ok (q := (x / 4096).toNat) (by have := ht.2.1; omega) (by have := ht.2.2; omega) h7
    rw [show (4096 * ((x / 4096).toNat : Int)) = x by have := ht.2.1; omega] at h8
    exact ⟨_, h8⟩
theorem of_low {l : List Ar} (hl : Fm l) {q : Nat} (hq : q < 512) (h : q < 16) (hi : (nthP (ofL l) q).is = true) : False := by
  have e : nthP (ofL l) q = nthP noS q := (paint_not of_paints hq l noS hl noS_len (fun a ha hin => by have := (fo.1 (hl a ha)).lo; have := hin.1; omega)).1
  rw [e, noS_get] at hi
  cases hi
theorem good_of {l : List Ar} (hl : Rt l) : GoodS (ofL l) := ⟨ofL_len l, fun q hq hi => by
  by_cases h16 : 16 ≤ q
  · obtain ⟨a, ha, h1, h2⟩ := of_has hl.ok h16 hq hi
    rw [← h2]
    exact ⟨h16, ext_good (fo.1 (hl.1 a ha)) h1 (by omega)⟩
  · exact (of_low hl.1 hq (by omega) hi).elim⟩
theorem pro_list {l : List Ar} (hl : Rt l) {lo hi p : Int} (h : RgOk lo hi) (h0 : 0 ≤ p) (h7 : p ≤ 7) : listS (proP p (lo / 4096).toNat (ofL l) ((hi / 4096).toNat - (lo / 4096).toNat)) = setL l lo hi p := by
  obtain ⟨h1, h2, h3, h4, h5⟩ := h
  have hg := good_of hl
  have hq : (lo / 4096).toNat + ((hi / 4096).toNat - (lo / 4096).toNat) ≤ 512 := by omega
  have get := proP_get p (lo / 4096).toNat hg.1 _ hq
  obtain ⟨s1, s2⟩ := set_spec hl (lo := lo) (hi := hi) (p := p) (by unfold In64; omega) (by unfold In64; omega) h0 h7
  have hg2 : GoodS (proP p (lo / 4096).toNat (ofL l) ((hi / 4096).toNat - (lo / 4096).toNat)) := ⟨by rw [proP_len, hg.1], fun q hq' hi' => by
    rw [proP_is p _ hg.1 hq] at hi'
    obtain ⟨g1, g2⟩ := hg.2 q hq' hi'
    refine ⟨g1, ?_⟩
    rw [get q]
    split
    · exact ⟨h0, h7, g2.b0, g2.b9, g2.oz, g2.om⟩
    · exact g2⟩
  obtain ⟨l1, l2⟩ := listS_spec hg2
  refine rt_ext l1 s1 fun x t hx => ?_
  rw [l2 x t hx, s2 x t hx]
  constructor
  · rintro ⟨q, rfl, g1, g2, g3, g4⟩
    rw [proP_is p _ hg.1 hq] at g3
    have hh := of_has hl.ok g1 g2 g3
    rw [get q] at g4
    by_cases hin : (lo / 4096).toNat ≤ q ∧ q < (lo / 4096).toNat + ((hi / 4096).toNat - (lo / 4096).toNat)
    · rw [if_pos hin] at g4
      exact .inr ⟨_, ⟨hh, h3, by omega, by omega⟩, g4.symm⟩
    · rw [if_neg hin] at g4
      refine .inl ⟨g4 ▸ hh, fun ht => hin ?_⟩
      have := ht.2.1
      have := ht.2.2
      omega
  · have rng : ∀ t0, Has l x t0 → ∃ q : Nat, x = 4096 * (q : Int) ∧ 16 ≤ q ∧ q < 512 := fun t0 ht0 => by
      have := has_range hl.1 ht0
      exact ⟨(x / 4096).toNat, by omega, by omega, by omega⟩
    rintro (⟨g1, g2⟩ | ⟨t0, ⟨g1, g2⟩, rfl⟩)
    · obtain ⟨q, rfl, q1, q2⟩ := rng _ g1
      obtain ⟨e1, e2⟩ := has_of hl.ok g1
      refine ⟨q, rfl, q1, q2, by rw [proP_is p _ hg.1 hq]; exact e1, ?_⟩
      rw [get q, if_neg, e2]
      intro hin
      exact g2 ⟨h3, by omega, by omega⟩
    · obtain ⟨q, rfl, q1, q2⟩ := rng _ g1
      obtain ⟨e1, e2⟩ := has_of hl.ok g1
      refine ⟨q, rfl, q1, q2, by rw [proP_is p _ hg.1 hq]; exact e1, ?_⟩
      have := g2.2.1
      have := g2.2.2
      rw [get q, if_pos (by omega), ← e2]
      rfl

/-! ### What is asked wrongly -/
theorem wr_range {l : List Ar} {c : Cl} (hm : mayS l = true) (h : (rangeE c.a c.n == 0) = false) : wrE l c = rangeE c.a c.n := by
  unfold wrE
  rw [if_neg (by rw [hm]; simp), if_neg (by rw [h]; simp)]
theorem wr_prot {l : List Ar} {c : Cl} (hm : mayS l = true) (h : (rangeE c.a c.n == 0) = true) (hp : decide (c.p < 0) = true ∨ decide (7 < c.p) = true) : wrE l c = 1 := by
  have e : protE c.p = 1 := by
    unfold protE
    rw [if_pos]
    rcases hp with hp | hp
    · rw [hp]; rfl
    · rw [show decide (c.p > 7) = true from hp, Bool.or_true]
  unfold wrE
  rw [if_neg (by rw [hm]; simp), if_pos h, e]
  rfl
theorem wr_cov {l : List Ar} {c : Cl} (hm : mayS l = true) (h : (rangeE c.a c.n == 0) = true) (h1 : decide (c.p < 0) = false) (h2 : decide (7 < c.p) = false) : wrE l c = if coveredL l (rangeLo c.a c.n) (rangeHi c.a c.n) = true then 0 else 7 := by
  have e : protE c.p = 0 := by
    unfold protE
    rw [h1, show decide (c.p > 7) = false from h2]
    rfl
  unfold wrE
  rw [if_neg (by rw [hm]; simp), if_pos h, e]
  rfl
theorem pro_bad {l : List Ar} {c : Cl} {e : Int} (h : wrE l c = e) (he : e ≠ 0) : protN l c = errA e ∧ protL l c = l ∧ ((protN l c).er != 0) = true := by
  have h2 : (wrE l c != 0) = true := by rw [h]; simpa using he
  have h3 : protN l c = errA e := by unfold protN; rw [if_pos h2, h]
  refine ⟨h3, by unfold protL; rw [if_pos h2], ?_⟩
  rw [h3]
  simpa [errA] using he
theorem pro_ok {l : List Ar} {c : Cl} (hm : mayS l = true) (h : wrE l c = 0) : protN l c = keptN (setL l (rangeLo c.a c.n) (rangeHi c.a c.n) c.p) 0 ∧ protL l c = keptL l (setL l (rangeLo c.a c.n) (rangeHi c.a c.n) c.p) := by
  have h2 : ¬ (wrE l c != 0) = true := by rw [h]; simp
  have h3 : protS l c = setL l (rangeLo c.a c.n) (rangeHi c.a c.n) c.p := by
    unfold protS wrX
    rw [if_neg (by rw [hm]; simp), if_neg (by rw [hm]; simp)]
  exact ⟨by unfold protN; rw [if_neg h2, h3], by unfold protL; rw [if_neg h2, h3]⟩
theorem kept_no {was now : List Ar} {v : Int} (h : decide ((24 : Int) < (now.length : Int)) = true) : keptL was now = was ∧ keptN now v = errA 9 := ⟨if_pos h, if_pos h⟩
theorem kept_yes {was now : List Ar} {v : Int} (h : decide ((24 : Int) < (now.length : Int)) = false) : keptL was now = now ∧ keptN now v = okA v := ⟨if_neg (by rw [h]; simp), if_neg (by rw [h]; simp)⟩
section
variable {l : List Ar} {c : Cl} {q0 q1 k : Nat}
theorem pro_wr (hm : mayS l = true) (hr : rangeE c.a c.n = 0) (h1 : decide (c.p < 0) = false) (h2 : decide (7 < c.p) = false) (e0 : q0 = (rangeLo c.a c.n / 4096).toNat) (e1 : q1 = (rangeHi c.a c.n / 4096).toNat) : wrE l c = if covK (ofL l) q0 (q1 - q0) = true then 0 else 7 := by
  rw [wr_cov hm (by rw [hr]; rfl) h1 h2, cov_pages (mayS_rt hm).1 (range_ok hr).1, e0, e1]
theorem pro_e7 (hm : mayS l = true) (hr : rangeE c.a c.n = 0) (h1 : decide (c.p < 0) = false) (h2 : decide (7 < c.p) = false) (e0 : q0 = (rangeLo c.a c.n / 4096).toNat) (e1 : q1 = (rangeHi c.a c.n / 4096).toNat) (hk : q0 + k ≤ q1) (h : errK (ofL l) q0 k ≠ 0) : errK (ofL l) q0 k = 7 ∧ protN l c = errA 7 ∧ protL l c = l ∧ ((protN l c).er != 0) = true := by
  refine ⟨errK_7 h, pro_bad ?_ (by decide)⟩
  have hc : covK (ofL l) q0 k = false := by
    cases hc : covK (ofL l) q0 k with
    | false => rfl
    | true => exact absurd (errK_iff.2 hc) h
  rw [pro_wr hm hr h1 h2 e0 e1, covK_more hc (by omega)]
  rfl
theorem pro_e0 (hm : mayS l = true) (hr : rangeE c.a c.n = 0) (h1 : decide (c.p < 0) = false) (h2 : decide (7 < c.p) = false) (e0 : q0 = (rangeLo c.a c.n / 4096).toNat) (e1 : q1 = (rangeHi c.a c.n / 4096).toNat) (hk : q0 + k = q1) (h : errK (ofL l) q0 k = 0) : protN l c = keptN (listS (proP c.p q0 (ofL l) k)) 0 ∧ protL l c = keptL l (listS (proP c.p q0 (ofL l) k)) := by
  have hc := errK_iff.1 h
  have hkk : k = q1 - q0 := by omega
  have hw : wrE l c = 0 := by rw [pro_wr hm hr h1 h2 e0 e1, ← hkk, hc]; rfl
  have a1 := of_decide_eq_false h1
  have a2 := of_decide_eq_false h2
  have hl := pro_list (mayS_rt hm).1 (range_ok hr).1 (p := c.p) (by omega) (by omega)
  rw [← e0, ← e1, ← hkk] at hl
  rw [hl]
  exact pro_ok hm hw
theorem pro_same (hm : mayS l = true) (hr : rangeE c.a c.n = 0) (h1 : decide (c.p < 0) = false) (h2 : decide (7 < c.p) = false) (e0 : q0 = (rangeLo c.a c.n / 4096).toNat) (e1 : q1 = (rangeHi c.a c.n / 4096).toNat) (hk : q0 + k = q1) (h : errK (ofL l) q0 k = 0) (hn : decide ((24 : Int) < ((listS (proP c.p q0 (ofL l) k)).length : Int)) = true) : protN l c = errA 9 ∧ ((protN l c).er != 0) = true := by
  have := (pro_e0 hm hr h1 h2 e0 e1 hk h).1
  rw [(kept_no (was := l) hn).2] at this
  exact ⟨this, by rw [this]; rfl⟩
theorem pro_new (hm : mayS l = true) (hr : rangeE c.a c.n = 0) (h1 : decide (c.p < 0) = false) (h2 : decide (7 < c.p) = false) (e0 : q0 = (rangeLo c.a c.n / 4096).toNat) (e1 : q1 = (rangeHi c.a c.n / 4096).toNat) (hk : q0 + k = q1) (h : errK (ofL l) q0 k = 0) (hn : decide ((24 : Int) < ((listS (proP c.p q0 (ofL l) k)).length : Int)) = false) : protN l c = okA 0 ∧ ((protN l c).er != 0) = false ∧ listS (proP c.p q0 (ofL l) k) = protL l c := by
  obtain ⟨g1, g2⟩ := pro_e0 hm hr h1 h2 e0 e1 hk h
  rw [(kept_yes (was := l) hn).2] at g1
  rw [(kept_yes (v := 0) (was := l) hn).1] at g2
  exact ⟨g1, by rw [g1]; rfl, g2.symm⟩
end
end Go.Proofs.Ytbcicjmepojlnaa.Eng
/- Contracts of functions (printed by genx.py of this work): what each hands back; condition: as its 'hside' says. -/
namespace Go.Proofs.Ytbcicjmepojlnaa.Eng
open Go Go.RowKit
set_option linter.unusedVariables false
set_option linter.unusedSimpArgs false

theorem b_rfault : Bodied Try.prog 45 := bodied Try.func45 rfl (by decide)
def F_rfault : FunX := fun κ avs => match avs with
  | [.lst l xl, .val (.agg [.v (.int .i64 c1), .v (.int .i64 c2), .v (.int .i64 c3), .v (.int .i64 c4), .v (.int .i64 c5), .v (.int .i64 c6), .v (.int .i64 c7), .v (.int .i64 c8), .v (.int .i64 c9)])] => some (κ _ (mayS l = true), (.val (.agg [.v (.int .i64 (κ _ ((faultN l (⟨c1, c2, c3, c4, c5, c6, c7, c8, c9⟩ : Cl)).er))), .v (.int .i64 (κ _ ((faultN l (⟨c1, c2, c3, c4, c5, c6, c7, c8, c9⟩ : Cl)).v))), .v (.int .i64 (κ _ ((faultN l (⟨c1, c2, c3, c4, c5, c6, c7, c8, c9⟩ : Cl)).t.p))), .v (.bool (κ _ ((faultN l (⟨c1, c2, c3, c4, c5, c6, c7, c8, c9⟩ : Cl)).t.sh))), .v (.int .i64 (κ _ ((faultN l (⟨c1, c2, c3, c4, c5, c6, c7, c8, c9⟩ : Cl)).t.b))), .v (.int .i64 (κ _ ((faultN l (⟨c1, c2, c3, c4, c5, c6, c7, c8, c9⟩ : Cl)).t.o)))])))
  | _ => none
set_option maxRecDepth 100000 in
set_option maxHeartbeats 4000000 in
theorem k_rfault (l : List Ar) (c1 : Int) (c2 : Int) (c3 : Int) (c4 : Int) (c5 : Int) (c6 : Int) (c7 : Int) (c8 : Int) (c9 : Int) (Al : Option Addr) (cl : Nat) (hside : mayS l = true) (w : World) (hl : (Ent.rd Al 6 l.length (encL l)).holds w) :
    Calls Try.prog 45 #[.slice Al l.length cl, (SV.agg [.v (.int .i64 c1), .v (.int .i64 c2), .v (.int .i64 c3), .v (.int .i64 c4), .v (.int .i64 c5), .v (.int .i64 c6), .v (.int .i64 c7), .v (.int .i64 c8), .v (.int .i64 c9)]).den] w fun e w' => ∃ v H', e = .returned v.den ∧ IsX (.val (.agg [.v (.int .i64 ((faultN l (⟨c1, c2, c3, c4, c5, c6, c7, c8, c9⟩ : Cl)).er)), .v (.int .i64 ((faultN l (⟨c1, c2, c3, c4, c5, c6, c7, c8, c9⟩ : Cl)).v)), .v (.int .i64 ((faultN l (⟨c1, c2, c3, c4, c5, c6, c7, c8, c9⟩ : Cl)).t.p)), .v (.bool ((faultN l (⟨c1, c2, c3, c4, c5, c6, c7, c8, c9⟩ : Cl)).t.sh)), .v (.int .i64 ((faultN l (⟨c1, c2, c3, c4, c5, c6, c7, c8, c9⟩ : Cl)).t.b)), .v (.int .i64 ((faultN l (⟨c1, c2, c3, c4, c5, c6, c7, c8, c9⟩ : Cl)).t.o))])) v H' ∧ HSat w (fun _ => False) H' w' := by
  obtain ⟨κ, hκ⟩ : ∃ κ : Kp, κ = kid := ⟨_, rfl⟩
  have hH : HSat w (fun _ => False) (heapOf [(nilId, .rd none 1 0 []), (200000, .rd Al 6 (κ _ l.length) (κ _ (encL l)))]) w := by
    subst hκ
    refine HSat.reads fun p hp => ?_
    simp only [List.mem_cons, List.not_mem_nil, or_false] at hp
    rcases hp with rfl | rfl
    · exact ⟨_, _, _, _, rfl, nil_holds w⟩
    · exact ⟨_, _, _, _, rfl, hl⟩
  refine (callsP (n := 64) FTok [e_of hκ] mixed [] Try.func45 rfl (by kernel_rfl) #[.slice Al l.length cl, (SV.agg [.v (.int .i64 c1), .v (.int .i64 c2), .v (.int .i64 c3), .v (.int .i64 c4), .v (.int .i64 c5), .v (.int .i64 c6), .v (.int .i64 c7), .v (.int .i64 c8), .v (.int .i64 c9)]).den] [(0, .c (.sl 200000 Al (κ _ l.length) cl)), (1, .agg [.v (.int .i64 c1), .v (.int .i64 c2), .v (.int .i64 c3), .v (.int .i64 c4), .v (.int .i64 c5), .v (.int .i64 c6), .v (.int .i64 c7), .v (.int .i64 c8), .v (.int .i64 c9)])] _ w rfl [.cell 4 31] rfl (by simp) (by subst hκ; simp [SV.den, C.den, kid]) hH (fun v H' => IsX (.val (.agg [.v (.int .i64 (κ _ ((faultN l (⟨c1, c2, c3, c4, c5, c6, c7, c8, c9⟩ : Cl)).er))), .v (.int .i64 (κ _ ((faultN l (⟨c1, c2, c3, c4, c5, c6, c7, c8, c9⟩ : Cl)).v))), .v (.int .i64 (κ _ ((faultN l (⟨c1, c2, c3, c4, c5, c6, c7, c8, c9⟩ : Cl)).t.p))), .v (.bool (κ _ ((faultN l (⟨c1, c2, c3, c4, c5, c6, c7, c8, c9⟩ : Cl)).t.sh))), .v (.int .i64 (κ _ ((faultN l (⟨c1, c2, c3, c4, c5, c6, c7, c8, c9⟩ : Cl)).t.b))), .v (.int .i64 (κ _ ((faultN l (⟨c1, c2, c3, c4, c5, c6, c7, c8, c9⟩ : Cl)).t.o)))])) v H') hκ ?_).mono ?_
  rotate_left
  · subst hκ; intro e w' h; exact h
  intro P' hP'
  cbv
  have hrt := mayS_rt hside
  repeat' (first | refine And.intro ?_ ?_ | (intro _; cbv) | (refine tst_mk (fun h => ?_) (fun h => ?_) <;> cbv) | (refine LookX.nil ?_; cbv) | (refine LookX.auto hκ ?_; cbv) | (refine LookR.mk' (x := .v (.bool (κ _ (nthP (ofL l) (c2 / 4096).toNat).is))) (by subst hκ; delta kid at *; exact adr_isZ (ofL_len l) (by with_reducible assumption) (by with_reducible assumption)) ?_; cbv) | (refine LookN.mk' (x := [.v (.int .i64 (κ _ (nthP (ofL l) (c2 / 4096).toNat).t.p)), .v (.bool (κ _ (nthP (ofL l) (c2 / 4096).toNat).t.sh)), .v (.int .i64 (κ _ (nthP (ofL l) (c2 / 4096).toNat).t.b)), .v (.int .i64 (κ _ (nthP (ofL l) (c2 / 4096).toNat).t.o))]) (by subst hκ; delta kid at *; exact adr_attrZ (ofL_len l) (by with_reducible assumption) (by with_reducible assumption)) ?_; cbv))
  all_goals (try (show Side _; refine ⟨?_⟩; subst hκ; delta kid at *; first | exact rfl | exact trivial | exact ⟨rfl, rfl, .inl rfl⟩ | exact ⟨hrt.1.1, by omega⟩ | exact adr_in (by with_reducible assumption) (by with_reducible assumption) | ((try dsimp only at *); (try simp only [setTo_len, noS_len, List.length_append, List.length_cons, List.length_nil, List.length_map, and_self, true_or, or_true, eq_self, true_and, and_true, Nat.zero_add, Nat.add_zero]); (first | done | omega); done)))
  all_goals (try (show _ = true; subst hκ; delta kid; (have ho := encS_ok (ofL l); generalize encS (ofL l) = xs at ho ⊢; cases xs <;> exact ho)))
  all_goals (try (show 2560 = _; subst hκ; delta kid; (have ho := encS_len2 (s := ofL l) (ofL_len l); generalize encS (ofL l) = xs at ho ⊢; cases xs <;> exact ho.symm)))
  all_goals (try (show Side _; subst hκ; delta kid; refine ⟨?_⟩; rw [encS_noS, encS_len, encS_len, ofL_len l, noS_len]; omega))
  all_goals (try (show IsX _ _ _; (clear hH; subst hκ; delta kid at *; (try dsimp only at *)); first | exact IsX.ans_ (fault_a (c := (⟨c1, c2, c3, c4, c5, c6, c7, c8, c9⟩ : Cl)) hside (.inl (by with_reducible assumption))) rfl | exact IsX.ans_ (fault_a (c := (⟨c1, c2, c3, c4, c5, c6, c7, c8, c9⟩ : Cl)) hside (.inr (by with_reducible assumption))) rfl | exact IsX.ans_ (fault_b (c := (⟨c1, c2, c3, c4, c5, c6, c7, c8, c9⟩ : Cl)) hside (by with_reducible assumption) (by with_reducible assumption) (.inl (by with_reducible assumption))) rfl | exact IsX.ans_ (fault_b (c := (⟨c1, c2, c3, c4, c5, c6, c7, c8, c9⟩ : Cl)) hside (by with_reducible assumption) (by with_reducible assumption) (.inr (.inl (by with_reducible assumption)))) rfl | exact IsX.ans_ (fault_b (c := (⟨c1, c2, c3, c4, c5, c6, c7, c8, c9⟩ : Cl)) hside (by with_reducible assumption) (by with_reducible assumption) (.inr (.inr ⟨(by with_reducible assumption), (by with_reducible assumption), (by with_reducible assumption)⟩))) rfl))
  rename_i b3 b4 h1 h2 b5 h3 h4 b6
  refine loopP hP' FTok [e_of hκ] mixed [3, 4, 6] (σ := {i : Nat // i ≤ 3 ∧ bitsOk c6 (nthP (ofL l) (c2 / 4096).toNat).t.p i}) (fun q => [(7, .c (.v (.int .i64 (bitN q.1))))]) (fun q => [(3, .blk b3 24 [.v (.int .i64 c1), .v (.int .i64 c2), .v (.int .i64 c3), .v (.int .i64 c4), .v (.int .i64 c5), .v (.int .i64 c6), .v (.int .i64 c7), .v (.int .i64 c8), .v (.int .i64 c9)]), (4, .blk b4 31 [.v (.int .i64 0), .v (.int .i64 0), .v (.int .i64 0), .v (.bool false), .v (.int .i64 0), .v (.int .i64 0)]), (6, .blk b6 29 [.v (.int .i64 (κ _ (nthP (ofL l) (c2 / 4096).toNat).t.p)), .v (.bool (κ _ (nthP (ofL l) (c2 / 4096).toNat).t.sh)), .v (.int .i64 (κ _ (nthP (ofL l) (c2 / 4096).toNat).t.b)), .v (.int .i64 (κ _ (nthP (ofL l) (c2 / 4096).toNat).t.o))])]) (fun q => 3 - q.1) ⟨0, Nat.zero_le _, fun j hj => absurd hj (Nat.not_lt_zero j)⟩ [3, 4, 6] ?_ (by decide) ?_ hκ ?_
  · cbv
    all_goals (subst hκ; delta kid; repeat' (first | exact rfl | exact trivial | refine And.intro ?_ ?_))
  · cbv
    all_goals (subst hκ; delta kid; repeat' (first | exact rfl | exact trivial | refine And.intro ?_ ?_))
  rintro ⟨i, hi, hok⟩
  obtain rfl | rfl | rfl | rfl : i = 0 ∨ i = 1 ∨ i = 2 ∨ i = 3 := by omega
  · cbv
    refine tst_mk (fun h => ?_) (fun h => ?_)
    rotate_left
    · subst hκ; delta kid at h; exact absurd h (by decide)
    cbv
    repeat' (first | refine And.intro ?_ ?_ | (intro _; cbv) | (refine tst_mk (fun h => ?_) (fun h => ?_) <;> cbv) | (refine LookX.nil ?_; cbv) | (refine LookX.auto hκ ?_; cbv) | (refine LookR.mk' (x := .v (.bool (κ _ (nthP (ofL l) (c2 / 4096).toNat).is))) (by subst hκ; delta kid at *; exact adr_isZ (ofL_len l) (by with_reducible assumption) (by with_reducible assumption)) ?_; cbv) | (refine LookN.mk' (x := [.v (.int .i64 (κ _ (nthP (ofL l) (c2 / 4096).toNat).t.p)), .v (.bool (κ _ (nthP (ofL l) (c2 / 4096).toNat).t.sh)), .v (.int .i64 (κ _ (nthP (ofL l) (c2 / 4096).toNat).t.b)), .v (.int .i64 (κ _ (nthP (ofL l) (c2 / 4096).toNat).t.o))]) (by subst hκ; delta kid at *; exact adr_attrZ (ofL_len l) (by with_reducible assumption) (by with_reducible assumption)) ?_; cbv))
    all_goals (clear hH; subst hκ; delta kid at *; (try dsimp only at *))
    all_goals (try (exact ⟨by decide⟩))
    all_goals (try (exact rfl))
    · exact IsX.ans_ (fault_d (c := (⟨c1, c2, c3, c4, c5, c6, c7, c8, c9⟩ : Cl)) hside (by with_reducible assumption) (by with_reducible assumption) (by with_reducible assumption) (by with_reducible assumption) (by with_reducible assumption) 0 (by decide) (bit_y (b := 1) (by with_reducible assumption) (by with_reducible assumption))) rfl
    · refine ⟨⟨⟨0 + 1, by decide, bits_next hok (bit_b (b := 1) (by with_reducible assumption))⟩, [3, 4, 6], (by show 3 - (0 + 1) < 3 - 0; decide), by decide, ?_, ?_⟩⟩
      all_goals repeat' (first | exact rfl | exact trivial | refine And.intro ?_ ?_)
    · refine ⟨⟨⟨0 + 1, by decide, bits_next hok (bit_a (b := 1) (by with_reducible assumption))⟩, [3, 4, 6], (by show 3 - (0 + 1) < 3 - 0; decide), by decide, ?_, ?_⟩⟩
      all_goals repeat' (first | exact rfl | exact trivial | refine And.intro ?_ ?_)
  · cbv
    refine tst_mk (fun h => ?_) (fun h => ?_)
    rotate_left
    · subst hκ; delta kid at h; exact absurd h (by decide)
    cbv
    repeat' (first | refine And.intro ?_ ?_ | (intro _; cbv) | (refine tst_mk (fun h => ?_) (fun h => ?_) <;> cbv) | (refine LookX.nil ?_; cbv) | (refine LookX.auto hκ ?_; cbv) | (refine LookR.mk' (x := .v (.bool (κ _ (nthP (ofL l) (c2 / 4096).toNat).is))) (by subst hκ; delta kid at *; exact adr_isZ (ofL_len l) (by with_reducible assumption) (by with_reducible assumption)) ?_; cbv) | (refine LookN.mk' (x := [.v (.int .i64 (κ _ (nthP (ofL l) (c2 / 4096).toNat).t.p)), .v (.bool (κ _ (nthP (ofL l) (c2 / 4096).toNat).t.sh)), .v (.int .i64 (κ _ (nthP (ofL l) (c2 / 4096).toNat).t.b)), .v (.int .i64 (κ _ (nthP (ofL l) (c2 / 4096).toNat).t.o))]) (by subst hκ; delta kid at *; exact adr_attrZ (ofL_len l) (by with_reducible assumption) (by with_reducible assumption)) ?_; cbv))
    all_goals (clear hH; subst hκ; delta kid at *; (try dsimp only at *))
    all_goals (try (exact ⟨by decide⟩))
    all_goals (try (exact rfl))
    · exact IsX.ans_ (fault_d (c := (⟨c1, c2, c3, c4, c5, c6, c7, c8, c9⟩ : Cl)) hside (by with_reducible assumption) (by with_reducible assumption) (by with_reducible assumption) (by with_reducible assumption) (by with_reducible assumption) 1 (by decide) (bit_y (b := 2) (by with_reducible assumption) (by with_reducible assumption))) rfl
    · refine ⟨⟨⟨1 + 1, by decide, bits_next hok (bit_b (b := 2) (by with_reducible assumption))⟩, [3, 4, 6], (by show 3 - (1 + 1) < 3 - 1; decide), by decide, ?_, ?_⟩⟩
      all_goals repeat' (first | exact rfl | exact trivial | refine And.intro ?_ ?_)
    · refine ⟨⟨⟨1 + 1, by decide, bits_next hok (bit_a (b := 2) (by with_reducible assumption))⟩, [3, 4, 6], (by show 3 - (1 + 1) < 3 - 1; decide), by decide, ?_, ?_⟩⟩
      all_goals repeat' (first | exact rfl | exact trivial | refine And.intro ?_ ?_)
  · cbv
    refine tst_mk (fun h => ?_) (fun h => ?_)
    rotate_left
    · subst hκ; delta kid at h; exact absurd h (by decide)
    cbv
    repeat' (first | refine And.intro ?_ ?_ | (intro _; cbv) | (refine tst_mk (fun h => ?_) (fun h => ?_) <;> cbv) | (refine LookX.nil ?_; cbv) | (refine LookX.auto hκ ?_; cbv) | (refine LookR.mk' (x := .v (.bool (κ _ (nthP (ofL l) (c2 / 4096).toNat).is))) (by subst hκ; delta kid at *; exact adr_isZ (ofL_len l) (by with_reducible assumption) (by with_reducible assumption)) ?_; cbv) | (refine LookN.mk' (x := [.v (.int .i64 (κ _ (nthP (ofL l) (c2 / 4096).toNat).t.p)), .v (.bool (κ _ (nthP (ofL l) (c2 / 4096).toNat).t.sh)), .v (.int .i64 (κ _ (nthP (ofL l) (c2 / 4096).toNat).t.b)), .v (.int .i64 (κ _ (nthP (ofL l) (c2 / 4096).toNat).t.o))]) (by subst hκ; delta kid at *; exact adr_attrZ (ofL_len l) (by with_reducible assumption) (by with_reducible assumption)) ?_; cbv))
    all_goals (clear hH; subst hκ; delta kid at *; (try dsimp only at *))
    all_goals (try (exact ⟨by decide⟩))
    all_goals (try (exact rfl))
    · exact IsX.ans_ (fault_d (c := (⟨c1, c2, c3, c4, c5, c6, c7, c8, c9⟩ : Cl)) hside (by with_reducible assumption) (by with_reducible assumption) (by with_reducible assumption) (by with_reducible assumption) (by with_reducible assumption) 2 (by decide) (bit_y (b := 4) (by with_reducible assumption) (by with_reducible assumption))) rfl
    · refine ⟨⟨⟨2 + 1, by decide, bits_next hok (bit_b (b := 4) (by with_reducible assumption))⟩, [3, 4, 6], (by show 3 - (2 + 1) < 3 - 2; decide), by decide, ?_, ?_⟩⟩
      all_goals repeat' (first | exact rfl | exact trivial | refine And.intro ?_ ?_)
    · refine ⟨⟨⟨2 + 1, by decide, bits_next hok (bit_a (b := 4) (by with_reducible assumption))⟩, [3, 4, 6], (by show 3 - (2 + 1) < 3 - 2; decide), by decide, ?_, ?_⟩⟩
      all_goals repeat' (first | exact rfl | exact trivial | refine And.intro ?_ ?_)
  · cbv
    refine tst_mk (fun h => ?_) (fun h => ?_)
    · subst hκ; delta kid at h; exact absurd h (by decide)
    cbv
    repeat' (first | refine And.intro ?_ ?_ | (intro _; cbv) | (refine tst_mk (fun h => ?_) (fun h => ?_) <;> cbv) | (refine LookX.nil ?_; cbv) | (refine LookX.auto hκ ?_; cbv) | (refine LookR.mk' (x := .v (.bool (κ _ (nthP (ofL l) (c2 / 4096).toNat).is))) (by subst hκ; delta kid at *; exact adr_isZ (ofL_len l) (by with_reducible assumption) (by with_reducible assumption)) ?_; cbv) | (refine LookN.mk' (x := [.v (.int .i64 (κ _ (nthP (ofL l) (c2 / 4096).toNat).t.p)), .v (.bool (κ _ (nthP (ofL l) (c2 / 4096).toNat).t.sh)), .v (.int .i64 (κ _ (nthP (ofL l) (c2 / 4096).toNat).t.b)), .v (.int .i64 (κ _ (nthP (ofL l) (c2 / 4096).toNat).t.o))]) (by subst hκ; delta kid at *; exact adr_attrZ (ofL_len l) (by with_reducible assumption) (by with_reducible assumption)) ?_; cbv))
    all_goals (clear hH; subst hκ; delta kid at *; (try dsimp only at *))
    all_goals (try (exact rfl))
    exact IsX.ans_ (fault_e (c := (⟨c1, c2, c3, c4, c5, c6, c7, c8, c9⟩ : Cl)) hside (by with_reducible assumption) (by with_reducible assumption) (by with_reducible assumption) (by with_reducible assumption) (by with_reducible assumption) hok) rfl
def e_rfault {κ : Kp} (hκ : κ = kid) : ESpec Try.prog := fnES [.list, .flat] b_rfault F_rfault hκ fun avs p r hF hp => by
  unfold F_rfault at hF
  split at hF
  case h_2 => cases hF
  rename_i l xl c1 c2 c3 c4 c5 c6 c7 c8 c9
  simp only [kid, Option.some.injEq, Prod.mk.injEq] at hF
  obtain ⟨rfl, rfl⟩ := hF
  refine ⟨trivial, fun vs w hR => ?_⟩
  obtain ⟨il, Al, cl, vs0, rfl, rfl, hl, hR⟩ := hR
  obtain ⟨vs1, rfl, hR⟩ := hR
  have hR' : vs1 = [] := hR
  subst hR'
  exact k_rfault l c1 c2 c3 c4 c5 c6 c7 c8 c9 Al cl hp w hl

theorem b_rkept : Bodied Try.prog 123 := bodied Try.func123 rfl (by decide)
def F_rkept : FunX := fun κ avs => match avs with
  | [.lst was xwas, .spc s, .val (.c (.v (.int .i64 va)))] => some (κ _ (True), (.alt ((κ _ (decide ((24 : Int) < ((listS s).length : Int))))) (xwas) (fun x => .tup [.c x, .agg [.v (.int .i64 9), .v (.int .i64 0), .v (.int .i64 0), .v (.bool false), .v (.int .i64 0), .v (.int .i64 0)]]) ((κ _ (listS s))) (fun x => .tup [.c x, .agg [.v (.int .i64 0), .v (.int .i64 (κ _ (va))), .v (.int .i64 0), .v (.bool false), .v (.int .i64 0), .v (.int .i64 0)]])))
  | _ => none
set_option maxRecDepth 100000 in
set_option maxHeartbeats 4000000 in
theorem k_rkept (was : List Ar) (s : List Pg) (va : Int) (Awas : Option Addr) (cwas : Nat) (hside : True) (ns : s.length = 512) (w : World) (hwas : (Ent.rd Awas 6 was.length (encL was)).holds w) :
    Calls Try.prog 123 #[.slice Awas was.length cwas, (SV.agg (encS s)).den, (SV.c (.v (.int .i64 va))).den] w fun e w' => ∃ v H', e = .returned v.den ∧ IsX (.alt ((decide ((24 : Int) < ((listS s).length : Int)))) (.sl 200000 Awas was.length cwas) (fun x => .tup [.c x, .agg [.v (.int .i64 9), .v (.int .i64 0), .v (.int .i64 0), .v (.bool false), .v (.int .i64 0), .v (.int .i64 0)]]) ((listS s)) (fun x => .tup [.c x, .agg [.v (.int .i64 0), .v (.int .i64 (va)), .v (.int .i64 0), .v (.bool false), .v (.int .i64 0), .v (.int .i64 0)]])) v H' ∧ HSat w (fun _ => False) H' w' := by
  obtain ⟨κ, hκ⟩ : ∃ κ : Kp, κ = kid := ⟨_, rfl⟩
  have hH : HSat w (fun _ => False) (heapOf [(nilId, .rd none 1 0 []), (200000, .rd Awas 6 (κ _ was.length) (κ _ (encL was)))]) w := by
    subst hκ
    refine HSat.reads fun p hp => ?_
    simp only [List.mem_cons, List.not_mem_nil, or_false] at hp
    rcases hp with rfl | rfl
    · exact ⟨_, _, _, _, rfl, nil_holds w⟩
    · exact ⟨_, _, _, _, rfl, hwas⟩
  refine (callsP (n := 19) FTok [e_rlist hκ] mixed [] Try.func123 rfl (by kernel_rfl) #[.slice Awas was.length cwas, (SV.agg (encS s)).den, (SV.c (.v (.int .i64 va))).den] [(0, .c (.sl 200000 Awas (κ _ was.length) cwas)), (1, .agg (κ _ (encS s))), (2, .c (.v (.int .i64 va)))] _ w rfl [.tmp 6, .cell 7 31] rfl (by simp) (by subst hκ; simp [SV.den, C.den, kid]) hH (fun v H' => IsX (.alt ((κ _ (decide ((24 : Int) < ((listS s).length : Int))))) (.sl 200000 Awas (κ _ was.length) cwas) (fun x => .tup [.c x, .agg [.v (.int .i64 9), .v (.int .i64 0), .v (.int .i64 0), .v (.bool false), .v (.int .i64 0), .v (.int .i64 0)]]) ((κ _ (listS s))) (fun x => .tup [.c x, .agg [.v (.int .i64 0), .v (.int .i64 (κ _ (va))), .v (.int .i64 0), .v (.bool false), .v (.int .i64 0), .v (.int .i64 0)]])) v H') hκ ?_).mono ?_
  rotate_left
  · subst hκ; intro e w' h; exact h
  intro P' hP'
  cbv
  repeat' (first | refine And.intro ?_ ?_ | (intro _; cbv) | (refine tst_mk (fun h => ?_) (fun h => ?_) <;> cbv) | (refine LookX.nil ?_; cbv) | (refine LookX.auto hκ ?_; cbv) | (refine LookN.mk' (x := κ _ (encS s)) (by subst hκ; delta kid at *; exact whole_take ns) ?_; cbv))
  all_goals (try (show _ = true; subst hκ; delta kid; (have ho := encS_ok (s); generalize encS (s) = xs at ho ⊢; cases xs <;> exact ho)))
  all_goals (try (show Side _; refine ⟨?_⟩; subst hκ; delta kid at *; first | exact rfl | exact trivial | exact ⟨rfl, rfl, .inl rfl⟩ | exact ns | ((try dsimp only at *); (try simp only [setTo_len, noS_len, List.length_append, List.length_cons, List.length_nil, List.length_map, and_self, true_or, or_true, eq_self, true_and, and_true, Nat.zero_add, Nat.add_zero]); (first | done | omega); done)))
  all_goals (try (exact ⟨by subst hκ; exact ns⟩))
  all_goals (clear hH; subst hκ; delta kid at *; (try dsimp only at *))
  all_goals (show IsX _ _ _; first | exact IsX.sameM rfl (fun x => rfl) (by with_reducible assumption) | exact IsX.newM rfl rfl (fun x => rfl) (by with_reducible assumption) rfl)
def e_rkept {κ : Kp} (hκ : κ = kid) : ESpec Try.prog := fnES [.list, .space, .flat] b_rkept F_rkept hκ fun avs p r hF hp => by
  unfold F_rkept at hF
  split at hF
  case h_2 => cases hF
  rename_i was xwas s va
  simp only [kid, Option.some.injEq, Prod.mk.injEq] at hF
  obtain ⟨rfl, rfl⟩ := hF
  refine ⟨fun x y h => by simp [SV.den, SV.den0, h], fun vs w hR => ?_⟩
  obtain ⟨iwas, Awas, cwas, vs0, rfl, rfl, hwas, hR⟩ := hR
  obtain ⟨vs1, rfl, ns, hR⟩ := hR
  obtain ⟨vs2, rfl, hR⟩ := hR
  have hR' : vs2 = [] := hR
  subst hR'
  exact (k_rkept was s va Awas cwas hp ns w hwas).mono fun e w' ⟨v, H', h1, h2, h3⟩ => ⟨v, H', h1, h2.swap rfl, h3⟩

theorem b_rprotect : Bodied Try.prog 76 := bodied Try.func76 rfl (by decide)
def F_rprotect : FunX := fun κ avs => match avs with
  | [.lst l xl, .val (.agg [.v (.int .i64 c1), .v (.int .i64 c2), .v (.int .i64 c3), .v (.int .i64 c4), .v (.int .i64 c5), .v (.int .i64 c6), .v (.int .i64 c7), .v (.int .i64 c8), .v (.int .i64 c9)])] => some (κ _ (mayS l = true ∧ In64 (⟨c1, c2, c3, c4, c5, c6, c7, c8, c9⟩ : Cl).a), (.alt ((κ _ ((protN l (⟨c1, c2, c3, c4, c5, c6, c7, c8, c9⟩ : Cl)).er != 0))) (xl) (fun x => .tup [.c x, .agg [.v (.int .i64 (κ _ ((protN l (⟨c1, c2, c3, c4, c5, c6, c7, c8, c9⟩ : Cl)).er))), .v (.int .i64 (κ _ ((protN l (⟨c1, c2, c3, c4, c5, c6, c7, c8, c9⟩ : Cl)).v))), .v (.int .i64 (κ _ ((protN l (⟨c1, c2, c3, c4, c5, c6, c7, c8, c9⟩ : Cl)).t.p))), .v (.bool (κ _ ((protN l (⟨c1, c2, c3, c4, c5, c6, c7, c8, c9⟩ : Cl)).t.sh))), .v (.int .i64 (κ _ ((protN l (⟨c1, c2, c3, c4, c5, c6, c7, c8, c9⟩ : Cl)).t.b))), .v (.int .i64 (κ _ ((protN l (⟨c1, c2, c3, c4, c5, c6, c7, c8, c9⟩ : Cl)).t.o)))]]) ((κ _ (protL l (⟨c1, c2, c3, c4, c5, c6, c7, c8, c9⟩ : Cl)))) (fun x => .tup [.c x, .agg [.v (.int .i64 (κ _ ((protN l (⟨c1, c2, c3, c4, c5, c6, c7, c8, c9⟩ : Cl)).er))), .v (.int .i64 (κ _ ((protN l (⟨c1, c2, c3, c4, c5, c6, c7, c8, c9⟩ : Cl)).v))), .v (.int .i64 (κ _ ((protN l (⟨c1, c2, c3, c4, c5, c6, c7, c8, c9⟩ : Cl)).t.p))), .v (.bool (κ _ ((protN l (⟨c1, c2, c3, c4, c5, c6, c7, c8, c9⟩ : Cl)).t.sh))), .v (.int .i64 (κ _ ((protN l (⟨c1, c2, c3, c4, c5, c6, c7, c8, c9⟩ : Cl)).t.b))), .v (.int .i64 (κ _ ((protN l (⟨c1, c2, c3, c4, c5, c6, c7, c8, c9⟩ : Cl)).t.o)))]])))
  | _ => none
set_option maxRecDepth 100000 in
set_option maxHeartbeats 4000000 in
theorem k_rprotect (l : List Ar) (c1 : Int) (c2 : Int) (c3 : Int) (c4 : Int) (c5 : Int) (c6 : Int) (c7 : Int) (c8 : Int) (c9 : Int) (Al : Option Addr) (cl : Nat) (hside : mayS l = true ∧ In64 (⟨c1, c2, c3, c4, c5, c6, c7, c8, c9⟩ : Cl).a) (w : World) (hl : (Ent.rd Al 6 l.length (encL l)).holds w) :
    Calls Try.prog 76 #[.slice Al l.length cl, (SV.agg [.v (.int .i64 c1), .v (.int .i64 c2), .v (.int .i64 c3), .v (.int .i64 c4), .v (.int .i64 c5), .v (.int .i64 c6), .v (.int .i64 c7), .v (.int .i64 c8), .v (.int .i64 c9)]).den] w fun e w' => ∃ v H', e = .returned v.den ∧ IsX (.alt (((protN l (⟨c1, c2, c3, c4, c5, c6, c7, c8, c9⟩ : Cl)).er != 0)) (.sl 200000 Al l.length cl) (fun x => .tup [.c x, .agg [.v (.int .i64 ((protN l (⟨c1, c2, c3, c4, c5, c6, c7, c8, c9⟩ : Cl)).er)), .v (.int .i64 ((protN l (⟨c1, c2, c3, c4, c5, c6, c7, c8, c9⟩ : Cl)).v)), .v (.int .i64 ((protN l (⟨c1, c2, c3, c4, c5, c6, c7, c8, c9⟩ : Cl)).t.p)), .v (.bool ((protN l (⟨c1, c2, c3, c4, c5, c6, c7, c8, c9⟩ : Cl)).t.sh)), .v (.int .i64 ((protN l (⟨c1, c2, c3, c4, c5, c6, c7, c8, c9⟩ : Cl)).t.b)), .v (.int .i64 ((protN l (⟨c1, c2, c3, c4, c5, c6, c7, c8, c9⟩ : Cl)).t.o))]]) ((protL l (⟨c1, c2, c3, c4, c5, c6, c7, c8, c9⟩ : Cl))) (fun x => .tup [.c x, .agg [.v (.int .i64 ((protN l (⟨c1, c2, c3, c4, c5, c6, c7, c8, c9⟩ : Cl)).er)), .v (.int .i64 ((protN l (⟨c1, c2, c3, c4, c5, c6, c7, c8, c9⟩ : Cl)).v)), .v (.int .i64 ((protN l (⟨c1, c2, c3, c4, c5, c6, c7, c8, c9⟩ : Cl)).t.p)), .v (.bool ((protN l (⟨c1, c2, c3, c4, c5, c6, c7, c8, c9⟩ : Cl)).t.sh)), .v (.int .i64 ((protN l (⟨c1, c2, c3, c4, c5, c6, c7, c8, c9⟩ : Cl)).t.b)), .v (.int .i64 ((protN l (⟨c1, c2, c3, c4, c5, c6, c7, c8, c9⟩ : Cl)).t.o))]])) v H' ∧ HSat w (fun _ => False) H' w' := by
  obtain ⟨κ, hκ⟩ : ∃ κ : Kp, κ = kid := ⟨_, rfl⟩
  have hH : HSat w (fun _ => False) (heapOf [(nilId, .rd none 1 0 []), (200000, .rd Al 6 (κ _ l.length) (κ _ (encL l)))]) w := by
    subst hκ
    refine HSat.reads fun p hp => ?_
    simp only [List.mem_cons, List.not_mem_nil, or_false] at hp
    rcases hp with rfl | rfl
    · exact ⟨_, _, _, _, rfl, nil_holds w⟩
    · exact ⟨_, _, _, _, rfl, hl⟩
  refine (callsP (n := 67) FTok [e_rrange hκ, e_of hκ, e_rkept hκ] mixed [] Try.func76 rfl (by kernel_rfl) #[.slice Al l.length cl, (SV.agg [.v (.int .i64 c1), .v (.int .i64 c2), .v (.int .i64 c3), .v (.int .i64 c4), .v (.int .i64 c5), .v (.int .i64 c6), .v (.int .i64 c7), .v (.int .i64 c8), .v (.int .i64 c9)]).den] [(0, .c (.sl 200000 Al (κ _ l.length) cl)), (1, .agg [.v (.int .i64 c1), .v (.int .i64 c2), .v (.int .i64 c3), .v (.int .i64 c4), .v (.int .i64 c5), .v (.int .i64 c6), .v (.int .i64 c7), .v (.int .i64 c8), .v (.int .i64 c9)])] _ w rfl [.tmp 4, .cell 5 31] rfl (by simp) (by subst hκ; simp [SV.den, C.den, kid]) hH (fun v H' => IsX (.alt ((κ _ ((protN l (⟨c1, c2, c3, c4, c5, c6, c7, c8, c9⟩ : Cl)).er != 0))) (.sl 200000 Al (κ _ l.length) cl) (fun x => .tup [.c x, .agg [.v (.int .i64 (κ _ ((protN l (⟨c1, c2, c3, c4, c5, c6, c7, c8, c9⟩ : Cl)).er))), .v (.int .i64 (κ _ ((protN l (⟨c1, c2, c3, c4, c5, c6, c7, c8, c9⟩ : Cl)).v))), .v (.int .i64 (κ _ ((protN l (⟨c1, c2, c3, c4, c5, c6, c7, c8, c9⟩ : Cl)).t.p))), .v (.bool (κ _ ((protN l (⟨c1, c2, c3, c4, c5, c6, c7, c8, c9⟩ : Cl)).t.sh))), .v (.int .i64 (κ _ ((protN l (⟨c1, c2, c3, c4, c5, c6, c7, c8, c9⟩ : Cl)).t.b))), .v (.int .i64 (κ _ ((protN l (⟨c1, c2, c3, c4, c5, c6, c7, c8, c9⟩ : Cl)).t.o)))]]) ((κ _ (protL l (⟨c1, c2, c3, c4, c5, c6, c7, c8, c9⟩ : Cl)))) (fun x => .tup [.c x, .agg [.v (.int .i64 (κ _ ((protN l (⟨c1, c2, c3, c4, c5, c6, c7, c8, c9⟩ : Cl)).er))), .v (.int .i64 (κ _ ((protN l (⟨c1, c2, c3, c4, c5, c6, c7, c8, c9⟩ : Cl)).v))), .v (.int .i64 (κ _ ((protN l (⟨c1, c2, c3, c4, c5, c6, c7, c8, c9⟩ : Cl)).t.p))), .v (.bool (κ _ ((protN l (⟨c1, c2, c3, c4, c5, c6, c7, c8, c9⟩ : Cl)).t.sh))), .v (.int .i64 (κ _ ((protN l (⟨c1, c2, c3, c4, c5, c6, c7, c8, c9⟩ : Cl)).t.b))), .v (.int .i64 (κ _ ((protN l (⟨c1, c2, c3, c4, c5, c6, c7, c8, c9⟩ : Cl)).t.o)))]])) v H') hκ ?_).mono ?_
  rotate_left
  · subst hκ; intro e w' h; exact h
  intro P' hP'
  cbv
  have hrt := mayS_rt hside.1
  repeat' (first | refine And.intro ?_ ?_ | (intro _; cbv) | (refine tst_mk (fun h => ?_) (fun h => ?_) <;> cbv) | (refine LookX.nil ?_; cbv) | (refine LookX.auto hκ ?_; cbv))
  all_goals (try (show Side _; refine ⟨?_⟩; subst hκ; delta kid at *; first | exact rfl | exact trivial | exact ⟨rfl, rfl, .inl rfl⟩ | exact hside.2 | exact ⟨hrt.1.1, by omega⟩ | exact (proP_len _ _ _ _).trans (ofL_len l) | ((try dsimp only at *); (try simp only [setTo_len, noS_len, List.length_append, List.length_cons, List.length_nil, List.length_map, and_self, true_or, or_true, eq_self, true_and, and_true, Nat.zero_add, Nat.add_zero]); (first | done | omega); done)))
  all_goals (try (show _ = true; subst hκ; delta kid; (have ho := encS_ok (ofL l); generalize encS (ofL l) = xs at ho ⊢; cases xs <;> exact ho)))
  all_goals (try (show 2560 = _; subst hκ; delta kid; (have ho := encS_len2 (s := ofL l) (ofL_len l); generalize encS (ofL l) = xs at ho ⊢; cases xs <;> exact ho.symm)))
  all_goals (try (show Side _; subst hκ; delta kid; refine ⟨?_⟩; rw [encS_noS, encS_len, encS_len, ofL_len l, noS_len]; omega))
  · rename_i b3 b5 h1 b9
    refine loopP hP' FTok [e_rrange hκ, e_of hκ, e_rkept hκ] mixed [0, 3, 5, 7, 8, 9, 10] (σ := Unit) (fun _ => []) (fun _ => [(200000, .rd Al 6 (κ _ l.length) (κ _ (encL l))), (5, .blk b5 31 [.v (.int .i64 0), .v (.int .i64 0), .v (.int .i64 0), .v (.bool false), .v (.int .i64 0), .v (.int .i64 0)])]) (fun _ => 0) () [200000, 5] ?_ (by decide) ?_ hκ ?_
    · cbv
      all_goals (subst hκ; delta kid; repeat' (first | exact rfl | exact trivial | refine And.intro ?_ ?_))
    · cbv
      all_goals (subst hκ; delta kid; repeat' (first | exact rfl | exact trivial | refine And.intro ?_ ?_))
    intro _
    cbv
    repeat' (first | refine And.intro ?_ ?_ | (intro _; cbv) | (refine tst_mk (fun h => ?_) (fun h => ?_) <;> cbv) | (refine LookX.nil ?_; cbv) | (refine LookX.auto hκ ?_; cbv))
    all_goals (try (show Side _; refine ⟨?_⟩; subst hκ; delta kid at *; first | exact rfl | exact trivial | exact ⟨rfl, rfl, .inl rfl⟩ | exact hside.2 | exact ⟨hrt.1.1, by omega⟩ | exact (proP_len _ _ _ _).trans (ofL_len l) | ((try dsimp only at *); (try simp only [setTo_len, noS_len, List.length_append, List.length_cons, List.length_nil, List.length_map, and_self, true_or, or_true, eq_self, true_and, and_true, Nat.zero_add, Nat.add_zero]); (first | done | omega); done)))
    all_goals (clear hH; subst hκ; delta kid at *; (try dsimp only at *))
    all_goals (first | exact absurd h (by decide) | fail | skip)
    all_goals (have hw : wrE l (⟨c1, c2, c3, c4, c5, c6, c7, c8, c9⟩ : Cl) = _ := wr_prot (c := (⟨c1, c2, c3, c4, c5, c6, c7, c8, c9⟩ : Cl)) hside.1 (by with_reducible assumption) (.inl (by with_reducible assumption)); have hb := pro_bad hw (by decide); refine IsX.sameM rfl (fun x => ?_) hb.2.2; simp only [hb.1, errA, noAt])
  · rename_i b3 b5 h1 h2 b9
    refine loopP hP' FTok [e_rrange hκ, e_of hκ, e_rkept hκ] mixed [0, 3, 5, 7, 8, 9, 10] (σ := Unit) (fun _ => []) (fun _ => [(200000, .rd Al 6 (κ _ l.length) (κ _ (encL l))), (5, .blk b5 31 [.v (.int .i64 0), .v (.int .i64 0), .v (.int .i64 0), .v (.bool false), .v (.int .i64 0), .v (.int .i64 0)])]) (fun _ => 0) () [200000, 5] ?_ (by decide) ?_ hκ ?_
    · cbv
      all_goals (subst hκ; delta kid; repeat' (first | exact rfl | exact trivial | refine And.intro ?_ ?_))
    · cbv
      all_goals (subst hκ; delta kid; repeat' (first | exact rfl | exact trivial | refine And.intro ?_ ?_))
    intro _
    cbv
    repeat' (first | refine And.intro ?_ ?_ | (intro _; cbv) | (refine tst_mk (fun h => ?_) (fun h => ?_) <;> cbv) | (refine LookX.nil ?_; cbv) | (refine LookX.auto hκ ?_; cbv))
    all_goals (try (show Side _; refine ⟨?_⟩; subst hκ; delta kid at *; first | exact rfl | exact trivial | exact ⟨rfl, rfl, .inl rfl⟩ | exact hside.2 | exact ⟨hrt.1.1, by omega⟩ | exact (proP_len _ _ _ _).trans (ofL_len l) | ((try dsimp only at *); (try simp only [setTo_len, noS_len, List.length_append, List.length_cons, List.length_nil, List.length_map, and_self, true_or, or_true, eq_self, true_and, and_true, Nat.zero_add, Nat.add_zero]); (first | done | omega); done)))
    all_goals (clear hH; subst hκ; delta kid at *; (try dsimp only at *))
    all_goals (first | exact absurd h (by decide) | fail | skip)
    all_goals (have hw : wrE l (⟨c1, c2, c3, c4, c5, c6, c7, c8, c9⟩ : Cl) = _ := wr_prot (c := (⟨c1, c2, c3, c4, c5, c6, c7, c8, c9⟩ : Cl)) hside.1 (by with_reducible assumption) (.inr (by with_reducible assumption)); have hb := pro_bad hw (by decide); refine IsX.sameM rfl (fun x => ?_) hb.2.2; simp only [hb.1, errA, noAt])
  · rename_i b3 b5 h1 h2 b9
    have hr : rangeE c2 c3 = 0 := by subst hκ; exact beq_yes h1
    have hp1 : decide (c6 < 0) = false := by subst hκ; exact h2
    have hp2 : decide (7 < c6) = false := by subst hκ; exact h
    clear h1 h2 h
    have hg := (range_ok hr).1
    obtain ⟨q0, e0⟩ : ∃ q, q = (rangeLo c2 c3 / 4096).toNat := ⟨_, rfl⟩
    obtain ⟨q1, e1⟩ : ∃ q, q = (rangeHi c2 c3 / 4096).toNat := ⟨_, rfl⟩
    have hg1 := hg.lo
    have hg2 := hg.hi
    have hg3 := hg.lt
    have w0 : IntKind.i64.wrap (Int.tdiv (rangeLo c2 c3) 4096) = (q0 : Int) := by rw [e0]; exact (pro_q (by omega) (by omega)).1
    have w1 : IntKind.i64.wrap (Int.tdiv (rangeHi c2 c3) 4096) = (q1 : Int) := by rw [e1]; exact (pro_q (by omega) (by omega)).1
    have hq1 : q1 ≤ 512 := by omega
    have hq0 : q0 ≤ q1 := by omega
    refine loopP hP' FTok [e_rrange hκ, e_of hκ, e_rkept hκ] mixed [0, 3, 5, 7, 9] (σ := {k : Nat // q0 + k ≤ q1}) (fun q => [(8, .c (.v (.int .i64 (κ _ (errK (ofL l) q0 q.1))))), (10, .c (.v (.int .i64 (κ _ ((q0 + q.1 : Nat) : Int)))))]) (fun q => [(200000, .rd Al 6 (κ _ l.length) (κ _ (encL l))), (3, .blk b3 24 [.v (.int .i64 c1), .v (.int .i64 c2), .v (.int .i64 c3), .v (.int .i64 c4), .v (.int .i64 c5), .v (.int .i64 c6), .v (.int .i64 c7), .v (.int .i64 c8), .v (.int .i64 c9)]), (5, .blk b5 31 [.v (.int .i64 0), .v (.int .i64 0), .v (.int .i64 0), .v (.bool false), .v (.int .i64 0), .v (.int .i64 0)]), (9, .blk b9 37 (κ _ (encS (proP c6 q0 (ofL l) q.1))))]) (fun q => q1 - (q0 + q.1)) ⟨0, hq0⟩ [200000, 3, 5, 9] ?_ (by decide) ?_ hκ ?_
    · cbv
      all_goals (subst hκ; delta kid; repeat' (first | exact rfl | exact trivial | refine And.intro ?_ ?_ | exact congrArg (Value.int .i64) hr | exact congrArg (Value.int .i64) w0))
    · cbv
      all_goals (subst hκ; delta kid; repeat' (first | exact rfl | exact trivial | refine And.intro ?_ ?_ | (rw [zero_put (ofL_len _)]; rfl)))
    rintro ⟨k, hk⟩
    cbv
    refine ⟨⟨by subst hκ; delta kid; decide⟩, ?_⟩
    refine tst_mk (fun h => ?_) (fun h => ?_)
    · have hx : q0 + k < q1 := by subst hκ; delta kid at h; exact pro_lt w1 h
      have hk5 : q0 + k < 512 := by omega
      cbv
      refine tst_mk (fun h => ?_) (fun h => ?_)
      · cbv
        repeat' (first | refine And.intro ?_ ?_ | (intro _; cbv) | (refine tst_mk (fun h => ?_) (fun h => ?_) <;> cbv) | (refine LookX.nil ?_; cbv) | (refine LookX.auto hκ ?_; cbv) | (refine LookR.mk' (x := .v (.bool (κ _ (nthP (ofL l) (q0 + k)).is))) (by subst hκ; delta kid at *; exact pro_is (ofL_len l) c6 hk5) ?_; cbv))
        all_goals (clear hH; subst hκ; delta kid at *; (try dsimp only at *))
        all_goals (try (exact ⟨pro_ix hx hq1⟩))
        all_goals (try (exact ⟨Nat.zero_lt_one, pro_fit (ofL_len l) c6 hk5⟩))
        all_goals (try (exact ⟨pro_fit (ofL_len l) c6 hk5⟩))
        all_goals (try (exact rfl))
        all_goals (refine ⟨⟨⟨k + 1, by omega⟩, [200000, 3, 5, 9], (by show q1 - (q0 + (k + 1)) < q1 - (q0 + k); omega), by decide, ?_, ?_⟩⟩)
        all_goals repeat' (first | exact rfl | exact trivial | refine And.intro ?_ ?_ | exact congrArg (Value.int .i64) (errK_no (by with_reducible assumption)) | exact congrArg (Value.int .i64) (errK_yes (by with_reducible assumption) (by with_reducible assumption)) | exact congrArg (Value.int .i64) (nat_succ (by omega)) | exact congrArg (List.map C.den) (pro_put (ofL_len l) c6 hk5))
      · cbv
        repeat' (first | refine And.intro ?_ ?_ | (intro _; cbv) | (refine tst_mk (fun h => ?_) (fun h => ?_) <;> cbv) | (refine LookX.nil ?_; cbv) | (refine LookX.auto hκ ?_; cbv))
        all_goals (clear hH; subst hκ; delta kid at *; (try dsimp only at *))
        · have hb := pro_e7 (c := (⟨c1, c2, c3, c4, c5, c6, c7, c8, c9⟩ : Cl)) hside.1 hr hp1 hp2 e0 e1 hk (bne_yes (by with_reducible assumption))
          refine IsX.sameM rfl (fun x => ?_) hb.2.2.2
          simp only [hb.2.1, hb.1, errA, noAt]
        · exact absurd (bne_no h) (beq_no (by with_reducible assumption))
    · have hx : q0 + k = q1 := by subst hκ; delta kid at h; exact Nat.le_antisymm hk (pro_ge w1 h)
      cbv
      repeat' (first | refine And.intro ?_ ?_ | (intro _; cbv) | (refine tst_mk (fun h => ?_) (fun h => ?_) <;> cbv) | (refine LookX.nil ?_; cbv) | (refine LookX.auto hκ ?_; cbv) | (refine LookN.mk' (x := κ _ (encS (proP c6 q0 (ofL l) k))) (by subst hκ; delta kid at *; exact whole_take ((proP_len _ _ _ _).trans (ofL_len l))) ?_; cbv))
      all_goals (try (show Side _; refine ⟨?_⟩; subst hκ; delta kid at *; first | exact rfl | exact trivial | exact ⟨rfl, rfl, .inl rfl⟩ | exact hside.2 | exact ⟨hrt.1.1, by omega⟩ | exact (proP_len _ _ _ _).trans (ofL_len l) | ((try dsimp only at *); (try simp only [setTo_len, noS_len, List.length_append, List.length_cons, List.length_nil, List.length_map, and_self, true_or, or_true, eq_self, true_and, and_true, Nat.zero_add, Nat.add_zero]); (first | done | omega); done)))
      all_goals (clear hH; subst hκ; delta kid at *; (try dsimp only at *))
      · have hb := pro_e7 (c := (⟨c1, c2, c3, c4, c5, c6, c7, c8, c9⟩ : Cl)) hside.1 hr hp1 hp2 e0 e1 hk (bne_yes (by with_reducible assumption))
        refine IsX.sameM rfl (fun x => ?_) hb.2.2.2
        simp only [hb.2.1, hb.1, errA, noAt]
      · have hb := pro_same (c := (⟨c1, c2, c3, c4, c5, c6, c7, c8, c9⟩ : Cl)) hside.1 hr hp1 hp2 e0 e1 hx (bne_no (by with_reducible assumption)) (by with_reducible assumption)
        refine IsX.sameM rfl (fun x => ?_) hb.2
        simp only [hb.1, errA, noAt]
      · have hb := pro_new (c := (⟨c1, c2, c3, c4, c5, c6, c7, c8, c9⟩ : Cl)) hside.1 hr hp1 hp2 e0 e1 hx (bne_no (by with_reducible assumption)) (by with_reducible assumption)
        refine IsX.newM rfl rfl (fun x => ?_) hb.2.1 hb.2.2
        simp only [hb.1, okA, noAt]
  · rename_i b3 b5 b9
    have h1 := h
    refine loopP hP' FTok [e_rrange hκ, e_of hκ, e_rkept hκ] mixed [0, 3, 5, 7, 8, 9, 10] (σ := Unit) (fun _ => []) (fun _ => [(200000, .rd Al 6 (κ _ l.length) (κ _ (encL l))), (5, .blk b5 31 [.v (.int .i64 0), .v (.int .i64 0), .v (.int .i64 0), .v (.bool false), .v (.int .i64 0), .v (.int .i64 0)])]) (fun _ => 0) () [200000, 5] ?_ (by decide) ?_ hκ ?_
    · cbv
      all_goals (subst hκ; delta kid; repeat' (first | exact rfl | exact trivial | refine And.intro ?_ ?_))
    · cbv
      all_goals (subst hκ; delta kid; repeat' (first | exact rfl | exact trivial | refine And.intro ?_ ?_))
    intro _
    cbv
    repeat' (first | refine And.intro ?_ ?_ | (intro _; cbv) | (refine tst_mk (fun h => ?_) (fun h => ?_) <;> cbv) | (refine LookX.nil ?_; cbv) | (refine LookX.auto hκ ?_; cbv))
    all_goals (try (show Side _; refine ⟨?_⟩; subst hκ; delta kid at *; first | exact rfl | exact trivial | exact ⟨rfl, rfl, .inl rfl⟩ | exact hside.2 | exact ⟨hrt.1.1, by omega⟩ | exact (proP_len _ _ _ _).trans (ofL_len l) | ((try dsimp only at *); (try simp only [setTo_len, noS_len, List.length_append, List.length_cons, List.length_nil, List.length_map, and_self, true_or, or_true, eq_self, true_and, and_true, Nat.zero_add, Nat.add_zero]); (first | done | omega); done)))
    all_goals (clear hH; subst hκ; delta kid at *; (try dsimp only at *))
    all_goals (first | exact absurd h (by decide) | exact absurd (beq_yes h) (beq_no h1) | exact absurd (bne_no h) (beq_no h1) | skip)
    all_goals (have hw : wrE l (⟨c1, c2, c3, c4, c5, c6, c7, c8, c9⟩ : Cl) = _ := wr_range (c := (⟨c1, c2, c3, c4, c5, c6, c7, c8, c9⟩ : Cl)) hside.1 h1; have hb := pro_bad hw (beq_no h1); refine IsX.sameM rfl (fun x => ?_) hb.2.2; simp only [hb.1, errA, noAt])
def e_rprotect {κ : Kp} (hκ : κ = kid) : ESpec Try.prog := fnES [.list, .flat] b_rprotect F_rprotect hκ fun avs p r hF hp => by
  unfold F_rprotect at hF
  split at hF
  case h_2 => cases hF
  rename_i l xl c1 c2 c3 c4 c5 c6 c7 c8 c9
  simp only [kid, Option.some.injEq, Prod.mk.injEq] at hF
  obtain ⟨rfl, rfl⟩ := hF
  refine ⟨fun x y h => by simp [SV.den, SV.den0, h], fun vs w hR => ?_⟩
  obtain ⟨il, Al, cl, vs0, rfl, rfl, hl, hR⟩ := hR
  obtain ⟨vs1, rfl, hR⟩ := hR
  have hR' : vs1 = [] := hR
  subst hR'
  exact (k_rprotect l c1 c2 c3 c4 c5 c6 c7 c8 c9 Al cl hp w hl).mono fun e w' ⟨v, H', h1, h2, h3⟩ => ⟨v, H', h1, h2.swap rfl, h3⟩

end Go.Proofs.Ytbcicjmepojlnaa.Eng
/- What the laws of layer 11 come to, in plain words; no condition but those typed. -/
namespace Go.Proofs.Ytbcicjmepojlnaa.Eng
open Go Go.RowKit
set_option autoImplicit false
set_option linter.unusedSimpArgs false
set_option linter.unusedVariables false

theorem rt_take {l : List Ar} (h : Rt l) (n : Nat) : Rt (l.take n) := ⟨fun a ha => h.1 a (List.mem_of_mem_take ha), h.2.sublist (List.take_sublist n l)⟩
theorem some_rt (l : List Ar) : Rt (someL l) := rt_take (made_rt l) 24
theorem some_may (l : List Ar) : mayS (someL l) = true := rt_mayS (some_rt l) (someL_le l)
theorem pro_stay {l : List Ar} {c : Cl} (h : ((protN l c).er != 0) = true) : protL l c = l := by
  unfold protN at h
  unfold protL
  split
  · rfl
  · rename_i h1
    rw [if_neg h1] at h
    unfold keptN at h
    unfold keptL
    split
    · rfl
    · rename_i h2
      rw [if_neg h2] at h
      cases h
theorem not_may {l : List Ar} (h : mayS l = false) (c : Cl) : protN l c = errA 1 ∧ protL l c = l ∧ faultN l c = errA 1 := by
  have hw : wrE l c = 1 := by unfold wrE; rw [h]; rfl
  obtain ⟨h1, h2, _⟩ := pro_bad hw (by decide)
  exact ⟨h1, h2, by unfold faultN; rw [h]; rfl⟩
theorem same_pro {l : List Ar} {c : Cl} (h : ((protN l c).er != 0) = true) : sameL (protL l c) l = true := by rw [pro_stay h]; exact sameL_self l
theorem eqN_cells (x : An) : (x.er == x.er && (x.v == x.v && (x.t.p == x.t.p && (x.t.sh == x.t.sh && (x.t.b == x.t.b && (x.t.o == x.t.o && true)))))) = true := eqN_self x

theorem pro_bd {l : List Ar} (c : Cl) {n : Nat} (h : l.length ≤ n) (h2 : 24 ≤ n) : (protL l c).length ≤ n := by
  unfold protL
  split
  · exact h
  · unfold keptL
    split
    · exact h
    · rename_i h3
      simp only [decide_eq_true_eq] at h3
      omega

/-! ### A protected list -/
theorem protE_ok {p : Int} (h0 : 0 ≤ p) (h7 : p ≤ 7) : protE p = 0 := by
  unfold protE
  rw [if_neg]
  simp
  omega
theorem protE_no {p : Int} (h : ¬ (0 ≤ p ∧ p ≤ 7)) : protE p = 1 := by
  unfold protE
  rw [if_pos]
  simp
  omega
theorem wr_iff {l : List Ar} {c : Cl} (hm : mayS l = true) : wrE l c = 0 ↔ rangeE c.a c.n = 0 ∧ (0 ≤ c.p ∧ c.p ≤ 7) ∧ coveredL l (rangeLo c.a c.n) (rangeHi c.a c.n) = true := by
  unfold wrE
  rw [if_neg (by rw [hm]; simp)]
  by_cases hr : rangeE c.a c.n = 0
  · rw [if_pos (by rw [hr]; rfl)]
    by_cases hp : 0 ≤ c.p ∧ c.p ≤ 7
    · rw [if_pos (by rw [protE_ok hp.1 hp.2]; rfl), protE_ok hp.1 hp.2]
      split
      · rename_i h; exact ⟨fun _ => ⟨hr, hp, h⟩, fun _ => rfl⟩
      · rename_i h; exact ⟨fun h2 => by omega, fun h2 => absurd h2.2.2 h⟩
    · rw [if_neg (by rw [protE_no hp]; simp), protE_no hp]
      exact ⟨fun h2 => by omega, fun h2 => absurd h2.2.1 hp⟩
  · rw [if_neg (by simpa using hr)]
    exact ⟨fun h => absurd h hr, fun h => h.1⟩
/-- What a protected list is. -/
theorem pro_yes {l : List Ar} {c : Cl} (hm : mayS l = true) (h : (protN l c).er = 0) : rangeE c.a c.n = 0 ∧ (0 ≤ c.p ∧ c.p ≤ 7) ∧ coveredL l (rangeLo c.a c.n) (rangeHi c.a c.n) = true ∧ protL l c = setL l (rangeLo c.a c.n) (rangeHi c.a c.n) c.p ∧ (setL l (rangeLo c.a c.n) (rangeHi c.a c.n) c.p).length ≤ 24 := by
  by_cases hw : wrE l c = 0
  · obtain ⟨h1, h2, h3⟩ := (wr_iff hm).1 hw
    obtain ⟨h4, h5⟩ := pro_ok hm hw
    refine ⟨h1, h2, h3, ?_⟩
    rw [h4] at h
    cases hd : decide ((24 : Int) < ((setL l (rangeLo c.a c.n) (rangeHi c.a c.n) c.p).length : Int)) with
    | true => rw [(kept_no (was := l) hd).2] at h; cases h
    | false =>
      rw [h5, (kept_yes (v := 0) (was := l) hd).1]
      exact ⟨rfl, by have := of_decide_eq_false hd; omega⟩
  · rw [(pro_bad rfl hw).1] at h
    exact absurd h hw
theorem pro_rt {l : List Ar} {c : Cl} (hm : mayS l = true) (h : (protN l c).er = 0) : mayS (protL l c) = true ∧ ∀ x t, x % 4096 = 0 → (Has (protL l c) x t ↔ (Has l x t ∧ ¬ Touch x (rangeLo c.a c.n) (rangeHi c.a c.n)) ∨ ∃ t0, (Has l x t0 ∧ Touch x (rangeLo c.a c.n) (rangeHi c.a c.n)) ∧ t = setT c.p t0) := by
  obtain ⟨h1, h2, h3, h4, h5⟩ := pro_yes hm h
  have hg := (range_ok h1).1
  have := hg.lo
  have := hg.hi
  have := hg.lt
  obtain ⟨s1, s2⟩ := set_spec (mayS_rt hm).1 (lo := rangeLo c.a c.n) (hi := rangeHi c.a c.n) (p := c.p) (by unfold In64; omega) (by unfold In64; omega) h2.1 h2.2
  rw [h4]
  exact ⟨rt_mayS s1 h5, s2⟩
theorem cov_all {l : List Ar} (hl : Rt l) {lo hi : Int} (hg : RgOk lo hi) : coveredL l lo hi = true ↔ ∀ x, x % 4096 = 0 → lo ≤ x → x < hi → ∃ t, Has l x t := by
  have h1 := hg.lo
  have h2 := hg.hi
  have h3 := hg.lt
  have h4 := hg.z
  rw [covered_spec hl (by unfold In64; omega)]
  constructor
  · rintro ⟨_, _, _, h⟩ x hx a b
    exact h x hx ⟨h3, by omega, b⟩
  · intro h
    refine ⟨h3, h1, h2, fun x hx ht => h x hx ?_ ht.2.2⟩
    have := ht.2.1
    omega

/-! ### A fault at a page that is there -/
theorem fault_has {l : List Ar} (hm : mayS l = true) {x : Int} {t : At} (hx : x % 4096 = 0) (h : Has l x t) {c : Cl} (ha : c.a = x) (h1 : 1 ≤ c.p) (h2 : c.p ≤ 7) : faultN l c = if (bits .and .i64 t.p c.p == c.p) = true then ⟨0, 0, t⟩ else errA 8 := by
  have hr := (mayS_rt hm).1
  have hrg := has_range hr.1 h
  subst ha
  obtain ⟨a, ha, hin, he⟩ := h
  obtain ⟨f1, f2⟩ := found_spec hr c.a
  have hf := f1.2 ⟨a, ha, hin⟩
  obtain ⟨g1, g2⟩ := f2 hf
  have hfo := fo.1 (hr.1 _ g1)
  have e1 := (attr_ext hfo g2).2
  have e2 : ext (findL l c.a) (c.a - c.a % 4096) = t := by
    have : c.a - c.a % 4096 = c.a := by omega
    rw [this]
    exact has_fun hr.ok ⟨_, g1, g2, rfl⟩ ⟨a, ha, hin, he⟩
  have e3 : (findL l c.a).p = t.p := by rw [← e2]; rfl
  have e4 : mayA (findL l c.a) c.p = (bits .and .i64 t.p c.p == c.p) := by
    unfold mayA
    rw [e3, show decide (c.p ≥ 1) = true by rw [decide_eq_true_eq]; omega, show decide (c.p ≤ 7) = true by rw [decide_eq_true_eq]; omega]
    rfl
  unfold faultN
  rw [if_neg (by rw [hm, show decide (c.p < 1) = false by rw [decide_eq_false_iff_not]; omega, show decide (c.p > 7) = false by rw [decide_eq_false_iff_not]; omega]; simp), if_neg (by rw [hf]; simp), e4, e1, e2]
  cases hb : (bits .and .i64 t.p c.p == c.p) <;> rfl

/-! ### ProtectAllows -/
theorem kind_k {k : Int} (h0 : 0 ≤ k) (h : k ≤ 255) : IntKind.i64.wrap (1 + IntKind.i64.wrap (Int.tmod k 7)) = 1 + k % 7 ∧ 1 ≤ 1 + k % 7 ∧ 1 + k % 7 ≤ 7 := by
  have e : Int.tmod k 7 = k % 7 := Int.tmod_eq_emod_of_nonneg h0
  rw [e]
  have e1 : w64 (k % 7) = k % 7 := w64_id (by unfold In64; omega)
  have e2 : w64 (1 + k % 7) = 1 + k % 7 := w64_id (by unfold In64; omega)
  show w64 (1 + w64 (k % 7)) = _ ∧ _
  rw [e1, e2]
  omega
theorem alw_len {a n : Int} (h : rangeE a n = 0) : IntKind.i64.wrap (a + n) = a + n ∧ 65536 ≤ a ∧ 0 < n ∧ a + n ≤ 2097152 ∧ a % 4096 = 0 := by
  obtain ⟨h1, h2, h3, h4⟩ := (rangeE_iff a n).1 h
  obtain ⟨⟨s1, s2, s3⟩, s4, _⟩ := size_ok h2
  have := (sizeE_iff n).1 h2
  exact ⟨w64_id (by unfold In64; omega), h3, by omega, by omega, h1⟩
/-- What a fault at a page of what was protected tells. -/
theorem alw_page {l : List Ar} {c : Cl} (hm : mayS l = true) (h : (protN l c).er = 0) {x k : Int} (hx : x % 4096 = 0) (h1 : c.a ≤ x) (h2 : x < c.a + c.n) (k1 : 1 ≤ k) (k7 : k ≤ 7) :
    ∃ t : At, t.p = c.p ∧ faultN (protL l c) ⟨0, x, 0, 0, 0, k, 0, 0, 0⟩ = if (bits .and .i64 c.p k == k) = true then ⟨0, 0, t⟩ else errA 8 := by
  obtain ⟨g1, g2, g3, g4, g5⟩ := pro_yes hm h
  obtain ⟨p1, p2⟩ := pro_rt hm h
  obtain ⟨hg, e1, e2, e3⟩ := range_ok g1
  obtain ⟨_, s4, _⟩ := size_ok e3
  obtain ⟨t0, ht0⟩ := (cov_all (mayS_rt hm).1 hg).1 g3 x hx (by omega) (by omega)
  have hh : Has (protL l c) x (setT c.p t0) := (p2 x _ hx).2 (.inr ⟨t0, ⟨ht0, hg.lt, by omega, by omega⟩, rfl⟩)
  exact ⟨setT c.p t0, rfl, fault_has p1 hx hh rfl k1 k7⟩
theorem alw_step {a n x : Int} (h : rangeE a n = 0) (hx : x % 4096 = 0) (h1 : a ≤ x) (h2 : decide (x < IntKind.i64.wrap (a + n)) = true) : IntKind.i64.wrap (x + 4096) = x + 4096 ∧ (x + 4096) % 4096 = 0 ∧ a ≤ x + 4096 ∧ x < a + n ∧ (a + n - (x + 4096)).toNat < (a + n - x).toNat := by
  obtain ⟨e, _⟩ := alw_len h
  have h3 := of_decide_eq_true h2
  rw [e] at h3
  have := alw_len h
  exact ⟨w64_id (by unfold In64; omega), by omega, by omega, h3, by omega⟩

theorem alw_y {F : An} {t : At} {p k : Int} (ht : t.p = p) (hf : F = if (bits .and .i64 p k == k) = true then ⟨0, 0, t⟩ else errA 8) (hb : (bits .and .i64 p k == k) = true) : F.er = 0 ∧ F.t.p = p := by
  rw [hf, if_pos hb]
  exact ⟨rfl, ht⟩
theorem alw_n {F : An} {t : At} {p k : Int} (hf : F = if (bits .and .i64 p k == k) = true then ⟨0, 0, t⟩ else errA 8) (hb : (bits .and .i64 p k == k) = false) : F = errA 8 := by
  rw [hf, if_neg (by rw [hb]; simp)]

/-! ### ProtectHalves -/
theorem half_rg {s n : Int} (hs : 0 ≤ s ∧ s ≤ 59) (hn : 1 ≤ n ∧ n ≤ 41) (k : Int) (hk : 0 ≤ k ∧ k ≤ 41) : RgOk (4096 * (16 + s) + 4096 * k) (4096 * (16 + s) + 4096 * k + 4096 * n) := ⟨by omega, by omega, by omega, by omega, by omega⟩
theorem rg_range {lo n : Int} (h : RgOk lo (lo + n)) : rangeE lo n = 0 ∧ rangeLo lo n = lo ∧ rangeHi lo n = lo + n := by
  have := range_self h
  rw [show lo + n - lo = n by omega] at this
  exact this
/-- Three kinds of ends. -/
theorem pro_ends {l : List Ar} {c : Cl} (hm : mayS l = true) (hr : rangeE c.a c.n = 0) (hp : 0 ≤ c.p ∧ c.p ≤ 7) (h9 : (protN l c).er ≠ 9) : (protN l c).er = if coveredL l (rangeLo c.a c.n) (rangeHi c.a c.n) = true then 0 else 7 := by
  by_cases hc : coveredL l (rangeLo c.a c.n) (rangeHi c.a c.n) = true
  · rw [if_pos hc]
    have hw : wrE l c = 0 := (wr_iff hm).2 ⟨hr, hp, hc⟩
    have h4 := (pro_ok hm hw).1
    rw [h4] at h9 ⊢
    unfold keptN at *
    split
    · rename_i h; rw [if_pos h] at h9; exact absurd rfl h9
    · rfl
  · rw [if_neg hc]
    have hw : wrE l c = 7 := by
      unfold wrE
      rw [if_neg (by rw [hm]; simp), if_pos (by rw [hr]; rfl), protE_ok hp.1 hp.2, if_neg hc]
      rfl
    rw [(pro_bad hw (by decide)).1]
    rfl
theorem halves {x : List Ar} (hm : mayS x = true) {lo mid hi p : Int} (hp : 0 ≤ p ∧ p ≤ 7) (g1 : RgOk lo mid) (g2 : RgOk mid hi) (c1 c2 c3 : Cl) (e1 : c1.a = lo ∧ c1.n = hi - lo ∧ c1.p = p) (e2 : c2.a = lo ∧ c2.n = mid - lo ∧ c2.p = p) (e3 : c3.a = mid ∧ c3.n = hi - mid ∧ c3.p = p)
    (n1 : (protN x c1).er ≠ 9) (n2 : (protN x c2).er ≠ 9) (n3 : (protN (protL x c2) c3).er ≠ 9) :
    ((protN x c1).er ≠ 0 → (protN x c2).er ≠ 0 ∨ (protN (protL x c2) c3).er ≠ 0) ∧ ((protN x c1).er = 0 → (protN x c2).er = 0 ∧ (protN (protL x c2) c3).er = 0 ∧ protL x c1 = protL (protL x c2) c3) := by
  have hx := (mayS_rt hm).1
  have g : RgOk lo hi := ⟨g1.lo, g2.hi, by have := g1.lt; have := g2.lt; omega, g1.z, g2.z2⟩
  have r1 : rangeE c1.a c1.n = 0 ∧ rangeLo c1.a c1.n = lo ∧ rangeHi c1.a c1.n = hi := by rw [e1.1, e1.2.1]; exact range_self g
  have r2 : rangeE c2.a c2.n = 0 ∧ rangeLo c2.a c2.n = lo ∧ rangeHi c2.a c2.n = mid := by rw [e2.1, e2.2.1]; exact range_self g1
  have r3 : rangeE c3.a c3.n = 0 ∧ rangeLo c3.a c3.n = mid ∧ rangeHi c3.a c3.n = hi := by rw [e3.1, e3.2.1]; exact range_self g2
  have l1 := g1.lt
  have l2 := g2.lt
  have d1 := pro_ends hm r1.1 (by rw [e1.2.2]; exact hp) n1
  have d2 := pro_ends hm r2.1 (by rw [e2.2.2]; exact hp) n2
  rw [r1.2.1, r1.2.2] at d1
  rw [r2.2.1, r2.2.2] at d2
  have c1' := cov_all hx g
  have c2' := cov_all hx g1
  -- behind the first half
  have key : (protN x c2).er = 0 → ((protN (protL x c2) c3).er = 0 ↔ coveredL x lo hi = true) ∧ ∀ a t, a % 4096 = 0 → (Has (protL x c2) a t ↔ (Has x a t ∧ ¬ Touch a lo mid) ∨ ∃ t0, (Has x a t0 ∧ Touch a lo mid) ∧ t = setT p t0) := by
    intro h2
    obtain ⟨m2, p2⟩ := pro_rt hm h2
    rw [r2.2.1, r2.2.2, e2.2.2] at p2
    refine ⟨?_, p2⟩
    have d3 := pro_ends m2 r3.1 (by rw [e3.2.2]; exact hp) n3
    rw [r3.2.1, r3.2.2] at d3
    have c3' := cov_all (mayS_rt m2).1 g2
    have hc2 : coveredL x lo mid = true := by
      cases hc : coveredL x lo mid with
      | true => rfl
      | false => rw [hc, h2] at d2; cases d2
    have hc3 : coveredL (protL x c2) mid hi = true ↔ coveredL x lo hi = true := by
      rw [c3', c1']
      constructor
      · intro h a ha b1 b2
        by_cases hb : a < mid
        · exact c2'.1 hc2 a ha b1 hb
        · obtain ⟨t, ht⟩ := h a ha (by omega) b2
          rcases (p2 a t ha).1 ht with h3 | ⟨t0, h3, _⟩
          · exact ⟨t, h3.1⟩
          · exact ⟨t0, h3.1⟩
      · intro h a ha b1 b2
        obtain ⟨t, ht⟩ := h a ha (by omega) b2
        exact ⟨t, (p2 a t ha).2 (.inl ⟨ht, fun h4 => by have := h4.2.2; omega⟩)⟩
    rw [← hc3, d3]
    split
    · rename_i h; exact ⟨fun _ => h, fun _ => rfl⟩
    · rename_i h; exact ⟨fun h2 => by omega, fun h2 => absurd h2 h⟩
  constructor
  · intro h1
    by_cases h2 : (protN x c2).er = 0
    · refine .inr fun h3 => h1 ?_
      rw [d1, if_pos ((key h2).1.1 h3)]
    · exact .inl h2
  · intro h1
    have hc : coveredL x lo hi = true := by
      cases hc : coveredL x lo hi with
      | true => rfl
      | false => rw [hc, h1] at d1; cases d1
    have h2 : (protN x c2).er = 0 := by
      rw [d2, if_pos]
      exact c2'.2 fun a ha b1 b2 => c1'.1 hc a ha b1 (by omega)
    obtain ⟨k1, k2⟩ := key h2
    have h3 := k1.2 hc
    refine ⟨h2, h3, ?_⟩
    obtain ⟨m1, p1⟩ := pro_rt hm h1
    rw [r1.2.1, r1.2.2, e1.2.2] at p1
    obtain ⟨m2, _⟩ := pro_rt hm h2
    obtain ⟨m3, p3⟩ := pro_rt m2 h3
    rw [r3.2.1, r3.2.2, e3.2.2] at p3
    refine rt_ext (mayS_rt m1).1 (mayS_rt m3).1 fun a t ha => ?_
    rw [p1 a t ha, p3 a t ha]
    have tch : Touch a lo hi ↔ Touch a lo mid ∨ Touch a mid hi := by
      have := g1.z
      have := g1.z2
      have := g2.z2
      unfold Touch
      omega
    have dis : ¬ (Touch a lo mid ∧ Touch a mid hi) := by
      have := g1.z
      have := g1.z2
      have := g2.z2
      unfold Touch
      omega
    simp only [k2 a _ ha]
    rw [tch]
    constructor
    · rintro (⟨q1, q2⟩ | ⟨t0, ⟨q1, q2⟩, rfl⟩)
      · exact .inl ⟨.inl ⟨q1, fun h => q2 (.inl h)⟩, fun h => q2 (.inr h)⟩
      · rcases q2 with q2 | q2
        · exact .inl ⟨.inr ⟨t0, ⟨q1, q2⟩, rfl⟩, fun h => dis ⟨q2, h⟩⟩
        · exact .inr ⟨t0, ⟨.inl ⟨q1, fun h => dis ⟨h, q2⟩⟩, q2⟩, rfl⟩
    · rintro (⟨⟨q1, q2⟩ | ⟨t0, ⟨q1, q2⟩, rfl⟩, q3⟩ | ⟨t0, ⟨⟨q1, q2⟩ | ⟨t1, ⟨q1, q2⟩, rfl⟩, q3⟩, rfl⟩)
      · exact .inl ⟨q1, fun h => h.elim q2 q3⟩
      · exact .inr ⟨t0, ⟨q1, .inl q2⟩, rfl⟩
      · exact .inr ⟨t0, ⟨q1, .inr q3⟩, rfl⟩
      · exact absurd ⟨q2, q3⟩ dis

/-! ### ProtectBack -/
theorem join_len : ∀ (l out : List Ar), (l.foldl stepJ out).length ≤ out.length + l.length
  | [], out => by simp
  | a :: r, out => by
    rw [List.foldl_cons]
    have ih := join_len r (stepJ out a)
    have h1 : (stepJ out a).length ≤ out.length + 1 := by
      unfold stepJ
      split
      · simp
      · split
        · rw [List.length_append, List.length_dropLast, List.length_singleton]; omega
        · rw [List.length_append, List.length_singleton]; exact Nat.le_refl _
    rw [List.length_cons]
    omega
/-- A right list is the shortest of its pages. -/
theorem rt_short {l m : List Ar} (hl : Rt l) (hm : Ok m) (h : ∀ x t, x % 4096 = 0 → (Has l x t ↔ Has m x t)) : l.length ≤ m.length := by
  obtain ⟨j1, j2⟩ := joined_rt hm
  have e : l = joinedL m := rt_ext hl j1 fun x t hx => (h x t hx).trans (j2 x t).symm
  rw [e]
  have := join_len m []
  show (m.foldl stepJ []).length ≤ _
  simpa using this
theorem rt_disj {l : List Ar} (h : Ok l) {a b : Ar} (ha : a ∈ l) (hb : b ∈ l) {x : Int} (h1 : inA a x) (h2 : inA b x) : a = b := by
  have key : ∀ l : List Ar, (l.Pairwise fun a b => a.e ≤ b.s) → ∀ a ∈ l, ∀ b ∈ l, inA a x → inA b x → a = b := by
    intro l
    induction l with
    | nil => intro _ a ha; cases ha
    | cons y r ih =>
      intro hp a ha b hb i1 i2
      obtain ⟨p1, p2⟩ := List.pairwise_cons.1 hp
      rcases List.mem_cons.1 ha with ea | ha
      · rcases List.mem_cons.1 hb with eb | hb
        · rw [ea, eb]
        · have := p1 b hb
          rw [ea] at i1
          have := i1.2
          have := i2.1
          omega
      · rcases List.mem_cons.1 hb with eb | hb
        · have := p1 a ha
          rw [eb] at i2
          have := i2.2
          have := i1.1
          omega
        · exact ih p2 a ha b hb i1 i2
  exact key l h.2 a ha b hb h1 h2
theorem whole_set {l : List Ar} (hl : Rt l) {a : Ar} (ha : a ∈ l) {p : Int} (h0 : 0 ≤ p) (h7 : p ≤ 7) : (setL l a.s a.e p).length ≤ l.length := by
  have hfo := fo.1 (hl.1 a ha)
  have := hfo.lo
  have := hfo.hi
  obtain ⟨s1, s2⟩ := set_spec hl (lo := a.s) (hi := a.e) (p := p) (by unfold In64; have := hfo.lt; omega) (by unfold In64; have := hfo.lt; omega) h0 h7
  let f : Ar → Ar := fun b => if b.s = a.s then setA p b else b
  have fs : ∀ b, (f b).s = b.s ∧ (f b).e = b.e := fun b => by
    constructor
    · show (if b.s = a.s then setA p b else b).s = _
      split <;> rfl
    · show (if b.s = a.s then setA p b else b).e = _
      split <;> rfl
  have ff : ∀ b ∈ l, Fo (f b) := fun b hb => by
    show Fo (if b.s = a.s then setA p b else b)
    have := fo.1 (hl.1 b hb)
    split
    · exact setA_fo h0 h7 this
    · exact this
  have hm : Ok (l.map f) := ⟨fun b hb => by
    obtain ⟨b', hb', rfl⟩ := List.mem_map.1 hb
    exact fo.2 (ff b' hb'), by
    rw [List.pairwise_map]
    exact hl.ok.2.imp fun {x y} h => by rw [(fs x).2, (fs y).1]; exact h⟩
  have hsame : ∀ b ∈ l, b.s = a.s → b = a := fun b hb e => rt_disj hl.ok hb ha (x := a.s) ⟨by omega, by have := (fo.1 (hl.1 b hb)).lt; omega⟩ ⟨Int.le_refl _, hfo.lt⟩
  have := rt_short s1 hm fun x t hx => by
    rw [s2 x t hx, touch_ar hfo hx]
    constructor
    · rintro (⟨⟨b, hb, i1, i2⟩, n⟩ | ⟨t0, ⟨⟨b, hb, i1, i2⟩, i3⟩, rfl⟩)
      · refine ⟨f b, List.mem_map.2 ⟨b, hb, rfl⟩, ?_⟩
        have : f b = b := if_neg fun e => n (hsame b hb e ▸ i1)
        rw [this]
        exact ⟨i1, i2⟩
      · obtain rfl := rt_disj hl.ok hb ha i1 i3
        refine ⟨f b, List.mem_map.2 ⟨b, hb, rfl⟩, ?_⟩
        have : f b = setA p b := if_pos rfl
        rw [this]
        exact ⟨i1, by rw [setA_ext, i2]⟩
    · rintro ⟨c, hc, i1, i2⟩
      obtain ⟨b, hb, rfl⟩ := List.mem_map.1 hc
      by_cases e : b.s = a.s
      · obtain rfl := hsame b hb e
        have he : f b = setA p b := if_pos rfl
        rw [he] at i1 i2
        exact .inr ⟨ext b x, ⟨⟨b, hb, i1, rfl⟩, i1⟩, i2.symm⟩
      · have he : f b = b := if_neg e
        rw [he] at i1 i2
        exact .inl ⟨⟨b, hb, i1, i2⟩, fun h => e (by rw [rt_disj hl.ok hb ha i1 h])⟩
  simpa using this
theorem whole_cov {l : List Ar} (hl : Rt l) {a : Ar} (ha : a ∈ l) : coveredL l a.s a.e = true := by
  have hfo := fo.1 (hl.1 a ha)
  exact (cov_all hl ⟨hfo.lo, hfo.hi, hfo.lt, hfo.s0, hfo.e0⟩).2 fun x hx h1 h2 => ⟨_, a, ha, ⟨h1, h2⟩, rfl⟩
theorem back_ok {l : List Ar} (hm : mayS l = true) {a : Ar} (ha : a ∈ l) (c d : Cl) (e1 : c.a = a.s ∧ c.n = a.e - a.s) (e2 : d.a = a.s ∧ d.n = a.e - a.s ∧ d.p = a.p) :
    ((protN l c).er ≠ 0 → (c.p < 0 ∨ 7 < c.p) ∧ protL l c = l) ∧ ((protN l c).er = 0 → (protN (protL l c) d).er = 0 ∧ protL (protL l c) d = l) := by
  obtain ⟨hl, hl24⟩ := mayS_rt hm
  have hfo := fo.1 (hl.1 a ha)
  have g : RgOk a.s a.e := ⟨hfo.lo, hfo.hi, hfo.lt, hfo.s0, hfo.e0⟩
  have r := range_self g
  have rc : rangeE c.a c.n = 0 ∧ rangeLo c.a c.n = a.s ∧ rangeHi c.a c.n = a.e := by rw [e1.1, e1.2]; exact r
  have rd : rangeE d.a d.n = 0 ∧ rangeLo d.a d.n = a.s ∧ rangeHi d.a d.n = a.e := by rw [e2.1, e2.2.1]; exact r
  constructor
  · intro h
    refine ⟨?_, pro_stay (by simpa using h)⟩
    by_cases hp : 0 ≤ c.p ∧ c.p ≤ 7
    · exfalso
      have hw : wrE l c = 0 := (wr_iff hm).2 ⟨rc.1, hp, by rw [rc.2.1, rc.2.2]; exact whole_cov hl ha⟩
      have h4 := (pro_ok hm hw).1
      rw [rc.2.1, rc.2.2] at h4
      have := whole_set hl ha hp.1 hp.2
      rw [(kept_yes (was := l) (by rw [decide_eq_false_iff_not]; omega)).2] at h4
      rw [h4] at h
      exact h rfl
    · omega
  · intro h
    obtain ⟨_, hp, _, h4, h5⟩ := pro_yes hm h
    obtain ⟨m1, p1⟩ := pro_rt hm h
    rw [rc.2.1, rc.2.2] at p1 h4 h5
    have hl1 := (mayS_rt m1).1
    have hc : coveredL (protL l c) a.s a.e = true := (cov_all hl1 g).2 fun x hx b1 b2 => ⟨_, (p1 x _ hx).2 (.inr ⟨ext a x, ⟨⟨a, ha, ⟨b1, b2⟩, rfl⟩, (touch_ar hfo hx).2 ⟨b1, b2⟩⟩, rfl⟩)⟩
    have hw : wrE (protL l c) d = 0 := (wr_iff m1).2 ⟨rd.1, by rw [e2.2.2]; exact ⟨hfo.p0, hfo.p7⟩, by rw [rd.2.1, rd.2.2]; exact hc⟩
    have h6 := pro_ok m1 hw
    rw [rd.2.1, rd.2.2, e2.2.2] at h6
    obtain ⟨s1, s2⟩ := set_spec hl1 (lo := a.s) (hi := a.e) (p := a.p) (by unfold In64; have := hfo.lo; have := hfo.hi; have := hfo.lt; omega) (by unfold In64; have := hfo.lo; have := hfo.hi; have := hfo.lt; omega) hfo.p0 hfo.p7
    have he : setL (protL l c) a.s a.e a.p = l := rt_ext s1 hl fun x t hx => by
      rw [s2 x t hx]
      simp only [p1 x _ hx, touch_ar hfo hx]
      have own : ∀ t, Has l x t → inA a x → t = ext a x := fun t ht hi => has_fun hl.ok ht ⟨a, ha, hi, rfl⟩
      constructor
      · rintro (⟨⟨q1, q2⟩ | ⟨t0, ⟨q1, q2⟩, rfl⟩, q3⟩ | ⟨t0, ⟨⟨q1, q2⟩ | ⟨t1, ⟨q1, q2⟩, rfl⟩, q3⟩, rfl⟩)
        · exact q1
        · exact absurd q2 q3
        · exact absurd q3 q2
        · have := own _ q1 q2
          subst this
          exact q1
      · intro q
        by_cases hi : inA a x
        · have := own _ q hi
          subst this
          exact .inr ⟨setT c.p (ext a x), ⟨.inr ⟨ext a x, ⟨q, hi⟩, rfl⟩, hi⟩, rfl⟩
        · exact .inl ⟨.inl ⟨q, hi⟩, hi⟩
    rw [he] at h6
    rw [(kept_yes (v := 0) (was := protL l c) (by rw [decide_eq_false_iff_not]; omega)).1, (kept_yes (was := l) (by rw [decide_eq_false_iff_not]; omega)).2] at h6
    exact ⟨by rw [h6.1]; rfl, h6.2⟩
theorem back_no {pr : Int} (h1 : decide (pr < 0) = false) (h2 : decide (7 < pr) = false) (h : pr < 0 ∨ 7 < pr) : False := by
  have := of_decide_eq_false h1
  have := of_decide_eq_false h2
  omega
/-! ### Numbers that the laws reckon -/
def U8 (n : Int) : Prop := 0 ≤ n ∧ n ≤ 255
theorem pick_ix {l : List Ar} {k : Int} (hk : U8 k) (h : ((l.length : Int) == 0) = false) : Int.tmod (IntKind.i64.wrap k) (l.length : Int) = ((k.toNat % l.length : Nat) : Int) ∧ k.toNat % l.length < l.length := by
  have hk1 := hk.1
  have hk2 := hk.2
  have h1 := beq_no h
  have e : w64 k = k := w64_id (by unfold In64; omega)
  have hlt : k.toNat % l.length < l.length := Nat.mod_lt _ (by omega)
  refine ⟨?_, hlt⟩
  show Int.tmod (w64 k) _ = _
  rw [e, Int.tmod_eq_emod_of_nonneg hk1, Int.natCast_emod, Int.toNat_of_nonneg hk1]
theorem pick_in {l : List Ar} {k : Int} (hk : U8 k) (h : ((l.length : Int) == 0) = false) : 0 < 6 ∧ 0 ≤ Int.tmod (IntKind.i64.wrap k) (l.length : Int) ∧ Int.tmod (IntKind.i64.wrap k) (l.length : Int) < (l.length : Int) := by
  obtain ⟨e, h1⟩ := pick_ix hk h
  rw [e]
  omega
theorem pick_take {l : List Ar} {k : Int} (hk : U8 k) (h : ((l.length : Int) == 0) = false) : takeN (encL l) ((Int.tmod (IntKind.i64.wrap k) (l.length : Int)).toNat * 6) 6 = some [.v (.int .i64 (nthA l (k.toNat % l.length)).s), .v (.int .i64 (nthA l (k.toNat % l.length)).e), .v (.int .i64 (nthA l (k.toNat % l.length)).p), .v (.bool (nthA l (k.toNat % l.length)).sh), .v (.int .i64 (nthA l (k.toNat % l.length)).b), .v (.int .i64 (nthA l (k.toNat % l.length)).o)] := by
  obtain ⟨e, h1⟩ := pick_ix hk h
  rw [e]
  exact la_take h1
theorem pick_mem {l : List Ar} {k : Int} (hk : U8 k) (h : ((l.length : Int) == 0) = false) : nthA l (k.toNat % l.length) ∈ l := nthA_mem (pick_ix hk h).2
theorem len_w {a : Ar} (h : Fo a) : IntKind.i64.wrap (a.e - a.s) = a.e - a.s := by
  have := h.lo
  have := h.hi
  have := h.lt
  exact w64_id (by unfold In64; omega)
theorem hv_n {q : Int} (h : U8 q) : IntKind.i64.wrap (2 + IntKind.i64.wrap (Int.tmod q 40)) = 2 + q % 40 ∧ 0 ≤ q % 40 ∧ q % 40 ≤ 39 := by
  have h1 := h.1
  have h2 := h.2
  rw [Int.tmod_eq_emod_of_nonneg h1]
  have e1 : w64 (q % 40) = q % 40 := w64_id (by unfold In64; omega)
  have e2 : w64 (2 + q % 40) = 2 + q % 40 := w64_id (by unfold In64; omega)
  show w64 (2 + w64 (q % 40)) = _ ∧ _
  rw [e1, e2]
  omega
theorem hv_k {q n : Int} (h : U8 q) (hn : 2 ≤ n ∧ n ≤ 41) : IntKind.i64.wrap (1 + Int.tmod (IntKind.i64.wrap q) (IntKind.i64.wrap (n - 1))) = 1 + q % (n - 1) ∧ 0 ≤ q % (n - 1) ∧ q % (n - 1) < n - 1 := by
  have h1 := h.1
  have h2 := h.2
  have e0 : w64 q = q := w64_id (by unfold In64; omega)
  have e1 : w64 (n - 1) = n - 1 := w64_id (by unfold In64; omega)
  have b1 := Int.emod_nonneg q (show n - 1 ≠ 0 by omega)
  have b2 := Int.emod_lt_of_pos q (show 0 < n - 1 by omega)
  show w64 (1 + Int.tmod (w64 q) (w64 (n - 1))) = _ ∧ _
  rw [e0, e1, Int.tmod_eq_emod_of_nonneg h1]
  exact ⟨w64_id (by unfold In64; omega), b1, b2⟩
theorem hv_a {q : Int} (h : U8 q) : IntKind.i64.wrap (4096 * IntKind.i64.wrap (16 + IntKind.i64.wrap (Int.tmod q 60))) = 4096 * (16 + q % 60) ∧ 0 ≤ q % 60 ∧ q % 60 ≤ 59 := by
  have h1 := h.1
  have h2 := h.2
  rw [Int.tmod_eq_emod_of_nonneg h1]
  have e1 : w64 (q % 60) = q % 60 := w64_id (by unfold In64; omega)
  have e2 : w64 (16 + q % 60) = 16 + q % 60 := w64_id (by unfold In64; omega)
  have e3 : w64 (4096 * (16 + q % 60)) = 4096 * (16 + q % 60) := w64_id (by unfold In64; omega)
  show w64 (4096 * w64 (16 + w64 (q % 60))) = _ ∧ _
  rw [e1, e2, e3]
  omega
theorem hv_p {q : Int} (h : U8 q) : 0 ≤ IntKind.i64.wrap (Int.tmod q 8) ∧ IntKind.i64.wrap (Int.tmod q 8) ≤ 7 := by
  have h1 := h.1
  have h2 := h.2
  rw [Int.tmod_eq_emod_of_nonneg h1]
  have e1 : w64 (q % 8) = q % 8 := w64_id (by unfold In64; omega)
  show 0 ≤ w64 (q % 8) ∧ w64 (q % 8) ≤ 7
  rw [e1]
  omega
theorem hv_m {n : Int} (h : 0 ≤ n ∧ n ≤ 100) : IntKind.i64.wrap (4096 * n) = 4096 * n := w64_id (by unfold In64; omega)
abbrev hvN (q : Int) : Int := IntKind.i64.wrap (2 + IntKind.i64.wrap (Int.tmod q 40))
abbrev hvK (q r : Int) : Int := IntKind.i64.wrap (1 + Int.tmod (IntKind.i64.wrap r) (IntKind.i64.wrap (hvN q - 1)))
abbrev hvA (q : Int) : Int := IntKind.i64.wrap (4096 * IntKind.i64.wrap (16 + IntKind.i64.wrap (Int.tmod q 60)))
abbrev hvP (q : Int) : Int := IntKind.i64.wrap (Int.tmod q 8)
abbrev hv1 (q1 q2 q3 q4 : Int) : Cl := ⟨0, hvA q1, IntKind.i64.wrap (4096 * hvN q2), 0, 0, hvP q4, 0, 0, 0⟩
abbrev hv2 (q1 q2 q3 q4 : Int) : Cl := ⟨0, hvA q1, IntKind.i64.wrap (4096 * hvK q2 q3), 0, 0, hvP q4, 0, 0, 0⟩
abbrev hv3 (q1 q2 q3 q4 : Int) : Cl := ⟨0, IntKind.i64.wrap (hvA q1 + IntKind.i64.wrap (4096 * hvK q2 q3)), IntKind.i64.wrap (4096 * IntKind.i64.wrap (hvN q2 - hvK q2 q3)), 0, 0, hvP q4, 0, 0, 0⟩
theorem hv_ne {q : Int} (h : U8 q) : ¬ IntKind.i64.wrap (hvN q - 1) = 0 := by
  obtain ⟨e, b1, b2⟩ := hv_n h
  unfold hvN
  rw [e]
  have : w64 (2 + q % 40 - 1) = 2 + q % 40 - 1 := w64_id (by unfold In64; omega)
  show ¬ w64 _ = 0
  rw [this]
  omega
theorem halves_law {x : List Ar} (hm : mayS x = true) {q1 q2 q3 q4 : Int} (h1 : U8 q1) (h2 : U8 q2) (h3 : U8 q3) (h4 : U8 q4) (n1 : (protN x (hv1 q1 q2 q3 q4)).er ≠ 9) (n2 : (protN x (hv2 q1 q2 q3 q4)).er ≠ 9) (n3 : (protN (protL x (hv2 q1 q2 q3 q4)) (hv3 q1 q2 q3 q4)).er ≠ 9) :
    ((protN x (hv1 q1 q2 q3 q4)).er ≠ 0 → (protN x (hv2 q1 q2 q3 q4)).er ≠ 0 ∨ (protN (protL x (hv2 q1 q2 q3 q4)) (hv3 q1 q2 q3 q4)).er ≠ 0) ∧ ((protN x (hv1 q1 q2 q3 q4)).er = 0 → (protN x (hv2 q1 q2 q3 q4)).er = 0 ∧ (protN (protL x (hv2 q1 q2 q3 q4)) (hv3 q1 q2 q3 q4)).er = 0 ∧ protL x (hv1 q1 q2 q3 q4) = protL (protL x (hv2 q1 q2 q3 q4)) (hv3 q1 q2 q3 q4)) := by
  obtain ⟨a1, a2, a3⟩ := hv_a h1
  obtain ⟨b1, b2, b3⟩ := hv_n h2
  obtain ⟨c1, c2, c3⟩ := hv_k (n := 2 + q2 % 40) h3 (by omega)
  have eN : hvN q2 = 2 + q2 % 40 := b1
  have eK : hvK q2 q3 = 1 + q3 % (2 + q2 % 40 - 1) := by unfold hvK; rw [eN]; exact c1
  have eA : hvA q1 = 4096 * (16 + q1 % 60) := a1
  obtain ⟨n, hn⟩ : ∃ n, n = 2 + q2 % 40 := ⟨_, rfl⟩
  obtain ⟨k, hk⟩ : ∃ k, k = 1 + q3 % (2 + q2 % 40 - 1) := ⟨_, rfl⟩
  obtain ⟨a, ha⟩ : ∃ a, a = q1 % 60 := ⟨_, rfl⟩
  rw [← hn] at eN
  rw [← hk] at eK
  rw [← ha] at eA
  have f1 : IntKind.i64.wrap (4096 * hvN q2) = 4096 * n := by rw [eN]; exact hv_m (by omega)
  have f2 : IntKind.i64.wrap (4096 * hvK q2 q3) = 4096 * k := by rw [eK]; exact hv_m (by omega)
  have f3 : IntKind.i64.wrap (hvA q1 + IntKind.i64.wrap (4096 * hvK q2 q3)) = 4096 * (16 + a) + 4096 * k := by rw [f2, eA]; exact w64_id (by unfold In64; omega)
  have f4 : IntKind.i64.wrap (hvN q2 - hvK q2 q3) = n - k := by rw [eN, eK]; exact w64_id (by unfold In64; omega)
  have f5 : IntKind.i64.wrap (4096 * IntKind.i64.wrap (hvN q2 - hvK q2 q3)) = 4096 * (n - k) := by rw [f4]; exact hv_m (by omega)
  exact halves hm (lo := 4096 * (16 + a)) (mid := 4096 * (16 + a) + 4096 * k) (hi := 4096 * (16 + a) + 4096 * n) (hv_p h4) ⟨by omega, by omega, by omega, by omega, by omega⟩ ⟨by omega, by omega, by omega, by omega, by omega⟩ (hv1 q1 q2 q3 q4) (hv2 q1 q2 q3 q4) (hv3 q1 q2 q3 q4)
    ⟨eA, f1.trans (by omega), rfl⟩ ⟨eA, f2.trans (by omega), rfl⟩ ⟨f3, f5.trans (by omega), rfl⟩ n1 n2 n3
end Go.Proofs.Ytbcicjmepojlnaa.Eng
/- Contracts of functions (printed by genx.py of this work): what each hands back; condition: as its 'hside' says. -/
namespace Go.Proofs.Ytbcicjmepojlnaa.Eng
open Go Go.RowKit
set_option linter.unusedVariables false
set_option linter.unusedSimpArgs false

theorem b_failed : Bodied Try.prog 127 := bodied Try.func127 rfl (by decide)
def F_failed : FunX := fun κ avs => match avs with
  | [.lst l xl, .val (.c (.v (.int .i64 er)))] => some (κ _ (l.length ≤ 300000), (.row 53 6 ((κ _ ((l).length))) ((κ _ (encL (l)))) (fun x => .tup [.c x, .agg [.v (.int .i64 (κ _ (er))), .v (.int .i64 0), .v (.int .i64 0), .v (.bool false), .v (.int .i64 0), .v (.int .i64 0)]])))
  | _ => none
set_option maxRecDepth 100000 in
set_option maxHeartbeats 4000000 in
theorem k_failed (l : List Ar) (er : Int) (Al : Option Addr) (cl : Nat) (hside : l.length ≤ 300000) (w : World) (hl : (Ent.rd Al 6 l.length (encL l)).holds w) :
    Calls Try.prog 127 #[.slice Al l.length cl, (SV.c (.v (.int .i64 er))).den] w fun e w' => ∃ v H', e = .returned v.den ∧ IsX (.row 53 6 (((l).length)) ((encL (l))) (fun x => .tup [.c x, .agg [.v (.int .i64 (er)), .v (.int .i64 0), .v (.int .i64 0), .v (.bool false), .v (.int .i64 0), .v (.int .i64 0)]])) v H' ∧ HSat w (fun _ => False) H' w' := by
  obtain ⟨κ, hκ⟩ : ∃ κ : Kp, κ = kid := ⟨_, rfl⟩
  have hH : HSat w (fun _ => False) (heapOf [(nilId, .rd none 1 0 []), (200000, .rd Al 6 (κ _ l.length) (κ _ (encL l)))]) w := by
    subst hκ
    refine HSat.reads fun p hp => ?_
    simp only [List.mem_cons, List.not_mem_nil, or_false] at hp
    rcases hp with rfl | rfl
    · exact ⟨_, _, _, _, rfl, nil_holds w⟩
    · exact ⟨_, _, _, _, rfl, hl⟩
  refine (callsP (n := 10) FTok [e_clone hκ] mixed [] Try.func127 rfl (by kernel_rfl) #[.slice Al l.length cl, (SV.c (.v (.int .i64 er))).den] [(0, .c (.sl 200000 Al (κ _ l.length) cl)), (1, .c (.v (.int .i64 er)))] _ w rfl [.tmp 4, .cell 5 31] rfl (by simp) (by subst hκ; simp [SV.den, C.den, kid]) hH (fun v H' => IsX (.row 53 6 ((κ _ ((l).length))) ((κ _ (encL (l)))) (fun x => .tup [.c x, .agg [.v (.int .i64 (κ _ (er))), .v (.int .i64 0), .v (.int .i64 0), .v (.bool false), .v (.int .i64 0), .v (.int .i64 0)]])) v H') hκ ?_).mono ?_
  rotate_left
  · subst hκ; intro e w' h; exact h
  intro P' hP'
  cbv
  repeat' (first | refine And.intro ?_ ?_ | (intro _; cbv) | (refine tst_mk (fun h => ?_) (fun h => ?_) <;> cbv) | (refine LookX.nil ?_; cbv) | (refine LookX.auto hκ ?_; cbv))
  all_goals (try (show Side _; refine ⟨?_⟩; subst hκ; delta kid at *; first | exact rfl | exact trivial | exact ⟨rfl, rfl, .inl rfl⟩ | ((try dsimp only at *); (try simp only [setTo_len, noS_len, List.length_append, List.length_cons, List.length_nil, List.length_map, and_self, true_or, or_true, eq_self, true_and, and_true, Nat.zero_add, Nat.add_zero]); (first | done | omega); done)))
  all_goals (clear hH; subst hκ; delta kid at *; (try dsimp only at *))
  exact IsX.rowM rfl rfl (fun x => rfl) rfl
def e_failed {κ : Kp} (hκ : κ = kid) : ESpec Try.prog := fnES [.list, .flat] b_failed F_failed hκ fun avs p r hF hp => by
  unfold F_failed at hF
  split at hF
  case h_2 => cases hF
  rename_i l xl er
  simp only [kid, Option.some.injEq, Prod.mk.injEq] at hF
  obtain ⟨rfl, rfl⟩ := hF
  refine ⟨fun x y h => by simp [SV.den, SV.den0, h], fun vs w hR => ?_⟩
  obtain ⟨il, Al, cl, vs0, rfl, rfl, hl, hR⟩ := hR
  obtain ⟨vs1, rfl, hR⟩ := hR
  have hR' : vs1 = [] := hR
  subst hR'
  exact k_failed l er Al cl hp w hl

theorem b_kept : Bodied Try.prog 117 := bodied Try.func117 rfl (by decide)
def F_kept : FunX := fun κ avs => match avs with
  | [.lst was xwas, .lst now xnow, .val (.c (.v (.int .i64 va)))] => some (κ _ (was.length ≤ 300000 ∧ now.length ≤ 300000), (.row 53 6 ((κ _ ((keptL was now).length))) ((κ _ (encL (keptL was now)))) (fun x => .tup [.c x, .agg [.v (.int .i64 (κ _ ((keptN now va).er))), .v (.int .i64 (κ _ ((keptN now va).v))), .v (.int .i64 (κ _ ((keptN now va).t.p))), .v (.bool (κ _ ((keptN now va).t.sh))), .v (.int .i64 (κ _ ((keptN now va).t.b))), .v (.int .i64 (κ _ ((keptN now va).t.o)))]])))
  | _ => none
set_option maxRecDepth 100000 in
set_option maxHeartbeats 4000000 in
theorem k_kept (was : List Ar) (now : List Ar) (va : Int) (Awas : Option Addr) (cwas : Nat) (Anow : Option Addr) (cnow : Nat) (hside : was.length ≤ 300000 ∧ now.length ≤ 300000) (w : World) (hwas : (Ent.rd Awas 6 was.length (encL was)).holds w) (hnow : (Ent.rd Anow 6 now.length (encL now)).holds w) :
    Calls Try.prog 117 #[.slice Awas was.length cwas, .slice Anow now.length cnow, (SV.c (.v (.int .i64 va))).den] w fun e w' => ∃ v H', e = .returned v.den ∧ IsX (.row 53 6 (((keptL was now).length)) ((encL (keptL was now))) (fun x => .tup [.c x, .agg [.v (.int .i64 ((keptN now va).er)), .v (.int .i64 ((keptN now va).v)), .v (.int .i64 ((keptN now va).t.p)), .v (.bool ((keptN now va).t.sh)), .v (.int .i64 ((keptN now va).t.b)), .v (.int .i64 ((keptN now va).t.o))]])) v H' ∧ HSat w (fun _ => False) H' w' := by
  obtain ⟨κ, hκ⟩ : ∃ κ : Kp, κ = kid := ⟨_, rfl⟩
  have hH : HSat w (fun _ => False) (heapOf [(nilId, .rd none 1 0 []), (200000, .rd Awas 6 (κ _ was.length) (κ _ (encL was))), (200010, .rd Anow 6 (κ _ now.length) (κ _ (encL now)))]) w := by
    subst hκ
    refine HSat.reads fun p hp => ?_
    simp only [List.mem_cons, List.not_mem_nil, or_false] at hp
    rcases hp with rfl | rfl | rfl
    · exact ⟨_, _, _, _, rfl, nil_holds w⟩
    · exact ⟨_, _, _, _, rfl, hwas⟩
    · exact ⟨_, _, _, _, rfl, hnow⟩
  refine (callsP (n := 19) FTok [e_clone hκ, e_failed hκ] mixed [] Try.func117 rfl (by kernel_rfl) #[.slice Awas was.length cwas, .slice Anow now.length cnow, (SV.c (.v (.int .i64 va))).den] [(0, .c (.sl 200000 Awas (κ _ was.length) cwas)), (1, .c (.sl 200010 Anow (κ _ now.length) cnow)), (2, .c (.v (.int .i64 va)))] _ w rfl [.tmp 6, .cell 7 31] rfl (by simp) (by subst hκ; simp [SV.den, C.den, kid]) hH (fun v H' => IsX (.row 53 6 ((κ _ ((keptL was now).length))) ((κ _ (encL (keptL was now)))) (fun x => .tup [.c x, .agg [.v (.int .i64 (κ _ ((keptN now va).er))), .v (.int .i64 (κ _ ((keptN now va).v))), .v (.int .i64 (κ _ ((keptN now va).t.p))), .v (.bool (κ _ ((keptN now va).t.sh))), .v (.int .i64 (κ _ ((keptN now va).t.b))), .v (.int .i64 (κ _ ((keptN now va).t.o)))]])) v H') hκ ?_).mono ?_
  rotate_left
  · subst hκ; intro e w' h; exact h
  intro P' hP'
  cbv
  repeat' (first | refine And.intro ?_ ?_ | (intro _; cbv) | (refine tst_mk (fun h => ?_) (fun h => ?_) <;> cbv) | (refine LookX.nil ?_; cbv) | (refine LookX.auto hκ ?_; cbv))
  all_goals (try (show Side _; refine ⟨?_⟩; subst hκ; delta kid at *; first | exact rfl | exact trivial | exact ⟨rfl, rfl, .inl rfl⟩ | ((try dsimp only at *); (try simp only [setTo_len, noS_len, List.length_append, List.length_cons, List.length_nil, List.length_map, and_self, true_or, or_true, eq_self, true_and, and_true, Nat.zero_add, Nat.add_zero]); (first | done | omega); done)))
  all_goals (clear hH; subst hκ; delta kid at *; (try dsimp only at *))
  all_goals (show IsX _ _ _; refine IsX.rowM rfl rfl (fun x => ?_) ?_ <;> (try simp only [keptL, keptN, errA, okA, noAt, *, Bool.or_true, Bool.true_or, Bool.or_false, Bool.false_or, Bool.and_true, Bool.true_and, Bool.and_false, Bool.false_and, Bool.not_true, Bool.not_false, if_true, if_false, Bool.false_eq_true]) <;> (try rfl))
def e_kept {κ : Kp} (hκ : κ = kid) : ESpec Try.prog := fnES [.list, .list, .flat] b_kept F_kept hκ fun avs p r hF hp => by
  unfold F_kept at hF
  split at hF
  case h_2 => cases hF
  rename_i was xwas now xnow va
  simp only [kid, Option.some.injEq, Prod.mk.injEq] at hF
  obtain ⟨rfl, rfl⟩ := hF
  refine ⟨fun x y h => by simp [SV.den, SV.den0, h], fun vs w hR => ?_⟩
  obtain ⟨iwas, Awas, cwas, vs0, rfl, rfl, hwas, hR⟩ := hR
  obtain ⟨inow, Anow, cnow, vs1, rfl, rfl, hnow, hR⟩ := hR
  obtain ⟨vs2, rfl, hR⟩ := hR
  have hR' : vs2 = [] := hR
  subst hR'
  exact k_kept was now va Awas cwas Anow cnow hp w hwas hnow

theorem b_maym : Bodied Try.prog 126 := bodied Try.func126 rfl (by decide)
def F_maym : FunX := fun κ avs => match avs with
  | [.lst l xl] => some (κ _ (l.length ≤ 300000), (.val (.c (.v (.bool (κ _ (mayS l)))))))
  | _ => none
set_option maxRecDepth 100000 in
set_option maxHeartbeats 4000000 in
theorem k_maym (l : List Ar) (Al : Option Addr) (cl : Nat) (hside : l.length ≤ 300000) (w : World) (hl : (Ent.rd Al 6 l.length (encL l)).holds w) :
    Calls Try.prog 126 #[.slice Al l.length cl] w fun e w' => ∃ v H', e = .returned v.den ∧ IsX (.val (.c (.v (.bool (mayS l))))) v H' ∧ HSat w (fun _ => False) H' w' := by
  obtain ⟨κ, hκ⟩ : ∃ κ : Kp, κ = kid := ⟨_, rfl⟩
  have hH : HSat w (fun _ => False) (heapOf [(nilId, .rd none 1 0 []), (200000, .rd Al 6 (κ _ l.length) (κ _ (encL l)))]) w := by
    subst hκ
    refine HSat.reads fun p hp => ?_
    simp only [List.mem_cons, List.not_mem_nil, or_false] at hp
    rcases hp with rfl | rfl
    · exact ⟨_, _, _, _, rfl, nil_holds w⟩
    · exact ⟨_, _, _, _, rfl, hl⟩
  refine (callsP (n := 10) FTok [e_right hκ] mixed [] Try.func126 rfl (by kernel_rfl) #[.slice Al l.length cl] [(0, .c (.sl 200000 Al (κ _ l.length) cl))] _ w rfl [.tmp 2] rfl (by simp) (by subst hκ; simp [SV.den, C.den, kid]) hH (fun v H' => IsX (.val (.c (.v (.bool (κ _ (mayS l)))))) v H') hκ ?_).mono ?_
  rotate_left
  · subst hκ; intro e w' h; exact h
  intro P' hP'
  cbv
  repeat' (first | refine And.intro ?_ ?_ | (intro _; cbv) | (refine tst_mk (fun h => ?_) (fun h => ?_) <;> cbv) | (refine LookX.nil ?_; cbv) | (refine LookX.auto hκ ?_; cbv))
  all_goals (try (show Side _; refine ⟨?_⟩; subst hκ; delta kid at *; first | exact rfl | exact trivial | exact ⟨rfl, rfl, .inl rfl⟩ | ((try dsimp only at *); (try simp only [setTo_len, noS_len, List.length_append, List.length_cons, List.length_nil, List.length_map, and_self, true_or, or_true, eq_self, true_and, and_true, Nat.zero_add, Nat.add_zero]); (first | done | omega); done)))
  all_goals (clear hH; subst hκ; delta kid at *; (try dsimp only at *))
  all_goals (try (exact ⟨trivial⟩))
  all_goals (try (exact ⟨by decide⟩))
  all_goals (show IsX _ _ _; refine IsX.val_ ?_; simp only [SV.den, SV.den0, C.den, List.map_cons, List.map_nil, mayS, GT.gt, GE.ge]; (try simp only [*, Bool.or_true, Bool.true_or, Bool.or_false, Bool.false_or, Bool.and_true, Bool.true_and, Bool.and_false, Bool.false_and, Bool.not_true, Bool.not_false, if_true, if_false, Bool.false_eq_true]); (first | done | rfl | (exfalso; simp_all; done) | skip))
def e_maym {κ : Kp} (hκ : κ = kid) : ESpec Try.prog := fnES [.list] b_maym F_maym hκ fun avs p r hF hp => by
  unfold F_maym at hF
  split at hF
  case h_2 => cases hF
  rename_i l xl
  simp only [kid, Option.some.injEq, Prod.mk.injEq] at hF
  obtain ⟨rfl, rfl⟩ := hF
  refine ⟨trivial, fun vs w hR => ?_⟩
  obtain ⟨il, Al, cl, vs0, rfl, rfl, hl, hR⟩ := hR
  have hR' : vs0 = [] := hR
  subst hR'
  exact k_maym l Al cl hp w hl

theorem b_mayp : Bodied Try.prog 94 := bodied Try.func94 rfl (by decide)
def F_mayp : FunX := fun κ avs => match avs with
  | [.lst l xl] => some (κ _ (l.length ≤ 300000), (.val (.c (.v (.bool (κ _ (mayS l)))))))
  | _ => none
set_option maxRecDepth 100000 in
set_option maxHeartbeats 4000000 in
theorem k_mayp (l : List Ar) (Al : Option Addr) (cl : Nat) (hside : l.length ≤ 300000) (w : World) (hl : (Ent.rd Al 6 l.length (encL l)).holds w) :
    Calls Try.prog 94 #[.slice Al l.length cl] w fun e w' => ∃ v H', e = .returned v.den ∧ IsX (.val (.c (.v (.bool (mayS l))))) v H' ∧ HSat w (fun _ => False) H' w' := by
  obtain ⟨κ, hκ⟩ : ∃ κ : Kp, κ = kid := ⟨_, rfl⟩
  have hH : HSat w (fun _ => False) (heapOf [(nilId, .rd none 1 0 []), (200000, .rd Al 6 (κ _ l.length) (κ _ (encL l)))]) w := by
    subst hκ
    refine HSat.reads fun p hp => ?_
    simp only [List.mem_cons, List.not_mem_nil, or_false] at hp
    rcases hp with rfl | rfl
    · exact ⟨_, _, _, _, rfl, nil_holds w⟩
    · exact ⟨_, _, _, _, rfl, hl⟩
  refine (callsP (n := 10) FTok [e_right hκ] mixed [] Try.func94 rfl (by kernel_rfl) #[.slice Al l.length cl] [(0, .c (.sl 200000 Al (κ _ l.length) cl))] _ w rfl [.tmp 2] rfl (by simp) (by subst hκ; simp [SV.den, C.den, kid]) hH (fun v H' => IsX (.val (.c (.v (.bool (κ _ (mayS l)))))) v H') hκ ?_).mono ?_
  rotate_left
  · subst hκ; intro e w' h; exact h
  intro P' hP'
  cbv
  repeat' (first | refine And.intro ?_ ?_ | (intro _; cbv) | (refine tst_mk (fun h => ?_) (fun h => ?_) <;> cbv) | (refine LookX.nil ?_; cbv) | (refine LookX.auto hκ ?_; cbv))
  all_goals (try (show Side _; refine ⟨?_⟩; subst hκ; delta kid at *; first | exact rfl | exact trivial | exact ⟨rfl, rfl, .inl rfl⟩ | ((try dsimp only at *); (try simp only [setTo_len, noS_len, List.length_append, List.length_cons, List.length_nil, List.length_map, and_self, true_or, or_true, eq_self, true_and, and_true, Nat.zero_add, Nat.add_zero]); (first | done | omega); done)))
  all_goals (clear hH; subst hκ; delta kid at *; (try dsimp only at *))
  all_goals (try (exact ⟨trivial⟩))
  all_goals (try (exact ⟨by decide⟩))
  all_goals (show IsX _ _ _; refine IsX.val_ ?_; simp only [SV.den, SV.den0, C.den, List.map_cons, List.map_nil, mayS, GT.gt, GE.ge]; (try simp only [*, Bool.or_true, Bool.true_or, Bool.or_false, Bool.false_or, Bool.and_true, Bool.true_and, Bool.and_false, Bool.false_and, Bool.not_true, Bool.not_false, if_true, if_false, Bool.false_eq_true]); (first | done | rfl | (exfalso; simp_all; done) | skip))
def e_mayp {κ : Kp} (hκ : κ = kid) : ESpec Try.prog := fnES [.list] b_mayp F_mayp hκ fun avs p r hF hp => by
  unfold F_mayp at hF
  split at hF
  case h_2 => cases hF
  rename_i l xl
  simp only [kid, Option.some.injEq, Prod.mk.injEq] at hF
  obtain ⟨rfl, rfl⟩ := hF
  refine ⟨trivial, fun vs w hR => ?_⟩
  obtain ⟨il, Al, cl, vs0, rfl, rfl, hl, hR⟩ := hR
  have hR' : vs0 = [] := hR
  subst hR'
  exact k_mayp l Al cl hp w hl

theorem b_rmay : Bodied Try.prog 74 := bodied Try.func74 rfl (by decide)
def F_rmay : FunX := fun κ avs => match avs with
  | [.lst l xl] => some (κ _ (l.length ≤ 300000), (.val (.c (.v (.bool (κ _ (mayS l)))))))
  | _ => none
set_option maxRecDepth 100000 in
set_option maxHeartbeats 4000000 in
theorem k_rmay (l : List Ar) (Al : Option Addr) (cl : Nat) (hside : l.length ≤ 300000) (w : World) (hl : (Ent.rd Al 6 l.length (encL l)).holds w) :
    Calls Try.prog 74 #[.slice Al l.length cl] w fun e w' => ∃ v H', e = .returned v.den ∧ IsX (.val (.c (.v (.bool (mayS l))))) v H' ∧ HSat w (fun _ => False) H' w' := by
  obtain ⟨κ, hκ⟩ : ∃ κ : Kp, κ = kid := ⟨_, rfl⟩
  have hH : HSat w (fun _ => False) (heapOf [(nilId, .rd none 1 0 []), (200000, .rd Al 6 (κ _ l.length) (κ _ (encL l)))]) w := by
    subst hκ
    refine HSat.reads fun p hp => ?_
    simp only [List.mem_cons, List.not_mem_nil, or_false] at hp
    rcases hp with rfl | rfl
    · exact ⟨_, _, _, _, rfl, nil_holds w⟩
    · exact ⟨_, _, _, _, rfl, hl⟩
  refine (callsP (n := 10) FTok [e_rright hκ] mixed [] Try.func74 rfl (by kernel_rfl) #[.slice Al l.length cl] [(0, .c (.sl 200000 Al (κ _ l.length) cl))] _ w rfl [.tmp 2] rfl (by simp) (by subst hκ; simp [SV.den, C.den, kid]) hH (fun v H' => IsX (.val (.c (.v (.bool (κ _ (mayS l)))))) v H') hκ ?_).mono ?_
  rotate_left
  · subst hκ; intro e w' h; exact h
  intro P' hP'
  cbv
  repeat' (first | refine And.intro ?_ ?_ | (intro _; cbv) | (refine tst_mk (fun h => ?_) (fun h => ?_) <;> cbv) | (refine LookX.nil ?_; cbv) | (refine LookX.auto hκ ?_; cbv))
  all_goals (try (show Side _; refine ⟨?_⟩; subst hκ; delta kid at *; first | exact rfl | exact trivial | exact ⟨rfl, rfl, .inl rfl⟩ | ((try dsimp only at *); (try simp only [setTo_len, noS_len, List.length_append, List.length_cons, List.length_nil, List.length_map, and_self, true_or, or_true, eq_self, true_and, and_true, Nat.zero_add, Nat.add_zero]); (first | done | omega); done)))
  all_goals (clear hH; subst hκ; delta kid at *; (try dsimp only at *))
  all_goals (try (exact ⟨trivial⟩))
  all_goals (try (exact ⟨by decide⟩))
  all_goals (show IsX _ _ _; refine IsX.val_ ?_; simp only [SV.den, SV.den0, C.den, List.map_cons, List.map_nil, mayS, GT.gt, GE.ge]; (try simp only [*, Bool.or_true, Bool.true_or, Bool.or_false, Bool.false_or, Bool.and_true, Bool.true_and, Bool.and_false, Bool.false_and, Bool.not_true, Bool.not_false, if_true, if_false, Bool.false_eq_true]); (first | done | rfl | (exfalso; simp_all; done) | skip))
def e_rmay {κ : Kp} (hκ : κ = kid) : ESpec Try.prog := fnES [.list] b_rmay F_rmay hκ fun avs p r hF hp => by
  unfold F_rmay at hF
  split at hF
  case h_2 => cases hF
  rename_i l xl
  simp only [kid, Option.some.injEq, Prod.mk.injEq] at hF
  obtain ⟨rfl, rfl⟩ := hF
  refine ⟨trivial, fun vs w hR => ?_⟩
  obtain ⟨il, Al, cl, vs0, rfl, rfl, hl, hR⟩ := hR
  have hR' : vs0 = [] := hR
  subst hR'
  exact k_rmay l Al cl hp w hl

theorem b_wrong : Bodied Try.prog 124 := bodied Try.func124 rfl (by decide)
def F_wrong : FunX := fun κ avs => match avs with
  | [.lst l xl, .val (.agg [.v (.int .i64 c1), .v (.int .i64 c2), .v (.int .i64 c3), .v (.int .i64 c4), .v (.int .i64 c5), .v (.int .i64 c6), .v (.int .i64 c7), .v (.int .i64 c8), .v (.int .i64 c9)])] => some (κ _ (l.length ≤ 300000), (.val (.tup [.c (.v (.int .i64 (κ _ (wrX l (rangeLo (⟨c1, c2, c3, c4, c5, c6, c7, c8, c9⟩ : Cl).a (⟨c1, c2, c3, c4, c5, c6, c7, c8, c9⟩ : Cl).n))))), .c (.v (.int .i64 (κ _ (wrX l (rangeHi (⟨c1, c2, c3, c4, c5, c6, c7, c8, c9⟩ : Cl).a (⟨c1, c2, c3, c4, c5, c6, c7, c8, c9⟩ : Cl).n))))), .c (.v (.int .i64 (κ _ (wrE l (⟨c1, c2, c3, c4, c5, c6, c7, c8, c9⟩ : Cl)))))])))
  | _ => none
set_option maxRecDepth 100000 in
set_option maxHeartbeats 4000000 in
theorem k_wrong (l : List Ar) (c1 : Int) (c2 : Int) (c3 : Int) (c4 : Int) (c5 : Int) (c6 : Int) (c7 : Int) (c8 : Int) (c9 : Int) (Al : Option Addr) (cl : Nat) (hside : l.length ≤ 300000) (w : World) (hl : (Ent.rd Al 6 l.length (encL l)).holds w) :
    Calls Try.prog 124 #[.slice Al l.length cl, (SV.agg [.v (.int .i64 c1), .v (.int .i64 c2), .v (.int .i64 c3), .v (.int .i64 c4), .v (.int .i64 c5), .v (.int .i64 c6), .v (.int .i64 c7), .v (.int .i64 c8), .v (.int .i64 c9)]).den] w fun e w' => ∃ v H', e = .returned v.den ∧ IsX (.val (.tup [.c (.v (.int .i64 (wrX l (rangeLo (⟨c1, c2, c3, c4, c5, c6, c7, c8, c9⟩ : Cl).a (⟨c1, c2, c3, c4, c5, c6, c7, c8, c9⟩ : Cl).n)))), .c (.v (.int .i64 (wrX l (rangeHi (⟨c1, c2, c3, c4, c5, c6, c7, c8, c9⟩ : Cl).a (⟨c1, c2, c3, c4, c5, c6, c7, c8, c9⟩ : Cl).n)))), .c (.v (.int .i64 (wrE l (⟨c1, c2, c3, c4, c5, c6, c7, c8, c9⟩ : Cl))))])) v H' ∧ HSat w (fun _ => False) H' w' := by
  obtain ⟨κ, hκ⟩ : ∃ κ : Kp, κ = kid := ⟨_, rfl⟩
  have hH : HSat w (fun _ => False) (heapOf [(nilId, .rd none 1 0 []), (200000, .rd Al 6 (κ _ l.length) (κ _ (encL l)))]) w := by
    subst hκ
    refine HSat.reads fun p hp => ?_
    simp only [List.mem_cons, List.not_mem_nil, or_false] at hp
    rcases hp with rfl | rfl
    · exact ⟨_, _, _, _, rfl, nil_holds w⟩
    · exact ⟨_, _, _, _, rfl, hl⟩
  refine (callsP (n := 36) FTok [e_mayp hκ, e_range hκ, e_prot hκ, e_covered hκ] mixed [] Try.func124 rfl (by kernel_rfl) #[.slice Al l.length cl, (SV.agg [.v (.int .i64 c1), .v (.int .i64 c2), .v (.int .i64 c3), .v (.int .i64 c4), .v (.int .i64 c5), .v (.int .i64 c6), .v (.int .i64 c7), .v (.int .i64 c8), .v (.int .i64 c9)]).den] [(0, .c (.sl 200000 Al (κ _ l.length) cl)), (1, .agg [.v (.int .i64 c1), .v (.int .i64 c2), .v (.int .i64 c3), .v (.int .i64 c4), .v (.int .i64 c5), .v (.int .i64 c6), .v (.int .i64 c7), .v (.int .i64 c8), .v (.int .i64 c9)])] _ w rfl [.tmp 4, .tmp 5, .tmp 6] rfl (by simp) (by subst hκ; simp [SV.den, C.den, kid]) hH (fun v H' => IsX (.val (.tup [.c (.v (.int .i64 (κ _ (wrX l (rangeLo (⟨c1, c2, c3, c4, c5, c6, c7, c8, c9⟩ : Cl).a (⟨c1, c2, c3, c4, c5, c6, c7, c8, c9⟩ : Cl).n))))), .c (.v (.int .i64 (κ _ (wrX l (rangeHi (⟨c1, c2, c3, c4, c5, c6, c7, c8, c9⟩ : Cl).a (⟨c1, c2, c3, c4, c5, c6, c7, c8, c9⟩ : Cl).n))))), .c (.v (.int .i64 (κ _ (wrE l (⟨c1, c2, c3, c4, c5, c6, c7, c8, c9⟩ : Cl)))))])) v H') hκ ?_).mono ?_
  rotate_left
  · subst hκ; intro e w' h; exact h
  intro P' hP'
  cbv
  repeat' (first | refine And.intro ?_ ?_ | (intro _; cbv) | (refine tst_mk (fun h => ?_) (fun h => ?_) <;> cbv) | (refine LookX.nil ?_; cbv) | (refine LookX.auto hκ ?_; cbv))
  all_goals (try (show Side _; refine ⟨?_⟩; subst hκ; delta kid at *; first | exact rfl | exact trivial | exact ⟨rfl, rfl, .inl rfl⟩ | ((try dsimp only at *); (try simp only [setTo_len, noS_len, List.length_append, List.length_cons, List.length_nil, List.length_map, and_self, true_or, or_true, eq_self, true_and, and_true, Nat.zero_add, Nat.add_zero]); (first | done | omega); done)))
  all_goals (clear hH; subst hκ; delta kid at *; (try dsimp only at *))
  all_goals (try (exact ⟨trivial⟩))
  all_goals (try (exact ⟨by decide⟩))
  all_goals (show IsX _ _ _; refine IsX.val_ ?_; simp only [SV.den, SV.den0, C.den, List.map_cons, List.map_nil, wrX, wrE, GT.gt, GE.ge]; (try simp only [*, Bool.or_true, Bool.true_or, Bool.or_false, Bool.false_or, Bool.and_true, Bool.true_and, Bool.and_false, Bool.false_and, Bool.not_true, Bool.not_false, if_true, if_false, Bool.false_eq_true]); (first | done | rfl | (exfalso; simp_all; done) | skip))
def e_wrong {κ : Kp} (hκ : κ = kid) : ESpec Try.prog := fnES [.list, .flat] b_wrong F_wrong hκ fun avs p r hF hp => by
  unfold F_wrong at hF
  split at hF
  case h_2 => cases hF
  rename_i l xl c1 c2 c3 c4 c5 c6 c7 c8 c9
  simp only [kid, Option.some.injEq, Prod.mk.injEq] at hF
  obtain ⟨rfl, rfl⟩ := hF
  refine ⟨trivial, fun vs w hR => ?_⟩
  obtain ⟨il, Al, cl, vs0, rfl, rfl, hl, hR⟩ := hR
  obtain ⟨vs1, rfl, hR⟩ := hR
  have hR' : vs1 = [] := hR
  subst hR'
  exact k_wrong l c1 c2 c3 c4 c5 c6 c7 c8 c9 Al cl hp w hl

theorem b_protect : Bodied Try.prog 75 := bodied Try.func75 rfl (by decide)
def F_protect : FunX := fun κ avs => match avs with
  | [.lst l xl, .val (.agg [.v (.int .i64 c1), .v (.int .i64 c2), .v (.int .i64 c3), .v (.int .i64 c4), .v (.int .i64 c5), .v (.int .i64 c6), .v (.int .i64 c7), .v (.int .i64 c8), .v (.int .i64 c9)])] => some (κ _ (l.length ≤ 300000), (.row 53 6 ((κ _ ((protL l (⟨c1, c2, c3, c4, c5, c6, c7, c8, c9⟩ : Cl)).length))) ((κ _ (encL (protL l (⟨c1, c2, c3, c4, c5, c6, c7, c8, c9⟩ : Cl))))) (fun x => .tup [.c x, .agg [.v (.int .i64 (κ _ ((protN l (⟨c1, c2, c3, c4, c5, c6, c7, c8, c9⟩ : Cl)).er))), .v (.int .i64 (κ _ ((protN l (⟨c1, c2, c3, c4, c5, c6, c7, c8, c9⟩ : Cl)).v))), .v (.int .i64 (κ _ ((protN l (⟨c1, c2, c3, c4, c5, c6, c7, c8, c9⟩ : Cl)).t.p))), .v (.bool (κ _ ((protN l (⟨c1, c2, c3, c4, c5, c6, c7, c8, c9⟩ : Cl)).t.sh))), .v (.int .i64 (κ _ ((protN l (⟨c1, c2, c3, c4, c5, c6, c7, c8, c9⟩ : Cl)).t.b))), .v (.int .i64 (κ _ ((protN l (⟨c1, c2, c3, c4, c5, c6, c7, c8, c9⟩ : Cl)).t.o)))]])))
  | _ => none
set_option maxRecDepth 100000 in
set_option maxHeartbeats 4000000 in
theorem k_protect (l : List Ar) (c1 : Int) (c2 : Int) (c3 : Int) (c4 : Int) (c5 : Int) (c6 : Int) (c7 : Int) (c8 : Int) (c9 : Int) (Al : Option Addr) (cl : Nat) (hside : l.length ≤ 300000) (w : World) (hl : (Ent.rd Al 6 l.length (encL l)).holds w) :
    Calls Try.prog 75 #[.slice Al l.length cl, (SV.agg [.v (.int .i64 c1), .v (.int .i64 c2), .v (.int .i64 c3), .v (.int .i64 c4), .v (.int .i64 c5), .v (.int .i64 c6), .v (.int .i64 c7), .v (.int .i64 c8), .v (.int .i64 c9)]).den] w fun e w' => ∃ v H', e = .returned v.den ∧ IsX (.row 53 6 (((protL l (⟨c1, c2, c3, c4, c5, c6, c7, c8, c9⟩ : Cl)).length)) ((encL (protL l (⟨c1, c2, c3, c4, c5, c6, c7, c8, c9⟩ : Cl)))) (fun x => .tup [.c x, .agg [.v (.int .i64 ((protN l (⟨c1, c2, c3, c4, c5, c6, c7, c8, c9⟩ : Cl)).er)), .v (.int .i64 ((protN l (⟨c1, c2, c3, c4, c5, c6, c7, c8, c9⟩ : Cl)).v)), .v (.int .i64 ((protN l (⟨c1, c2, c3, c4, c5, c6, c7, c8, c9⟩ : Cl)).t.p)), .v (.bool ((protN l (⟨c1, c2, c3, c4, c5, c6, c7, c8, c9⟩ : Cl)).t.sh)), .v (.int .i64 ((protN l (⟨c1, c2, c3, c4, c5, c6, c7, c8, c9⟩ : Cl)).t.b)), .v (.int .i64 ((protN l (⟨c1, c2, c3, c4, c5, c6, c7, c8, c9⟩ : Cl)).t.o))]])) v H' ∧ HSat w (fun _ => False) H' w' := by
  obtain ⟨κ, hκ⟩ : ∃ κ : Kp, κ = kid := ⟨_, rfl⟩
  have hH : HSat w (fun _ => False) (heapOf [(nilId, .rd none 1 0 []), (200000, .rd Al 6 (κ _ l.length) (κ _ (encL l)))]) w := by
    subst hκ
    refine HSat.reads fun p hp => ?_
    simp only [List.mem_cons, List.not_mem_nil, or_false] at hp
    rcases hp with rfl | rfl
    · exact ⟨_, _, _, _, rfl, nil_holds w⟩
    · exact ⟨_, _, _, _, rfl, hl⟩
  refine (callsP (n := 32) FTok [e_wrong hκ, e_clone hκ, e_set hκ, e_kept hκ] mixed [] Try.func75 rfl (by kernel_rfl) #[.slice Al l.length cl, (SV.agg [.v (.int .i64 c1), .v (.int .i64 c2), .v (.int .i64 c3), .v (.int .i64 c4), .v (.int .i64 c5), .v (.int .i64 c6), .v (.int .i64 c7), .v (.int .i64 c8), .v (.int .i64 c9)]).den] [(0, .c (.sl 200000 Al (κ _ l.length) cl)), (1, .agg [.v (.int .i64 c1), .v (.int .i64 c2), .v (.int .i64 c3), .v (.int .i64 c4), .v (.int .i64 c5), .v (.int .i64 c6), .v (.int .i64 c7), .v (.int .i64 c8), .v (.int .i64 c9)])] _ w rfl [.tmp 4, .cell 5 31] rfl (by simp) (by subst hκ; simp [SV.den, C.den, kid]) hH (fun v H' => IsX (.row 53 6 ((κ _ ((protL l (⟨c1, c2, c3, c4, c5, c6, c7, c8, c9⟩ : Cl)).length))) ((κ _ (encL (protL l (⟨c1, c2, c3, c4, c5, c6, c7, c8, c9⟩ : Cl))))) (fun x => .tup [.c x, .agg [.v (.int .i64 (κ _ ((protN l (⟨c1, c2, c3, c4, c5, c6, c7, c8, c9⟩ : Cl)).er))), .v (.int .i64 (κ _ ((protN l (⟨c1, c2, c3, c4, c5, c6, c7, c8, c9⟩ : Cl)).v))), .v (.int .i64 (κ _ ((protN l (⟨c1, c2, c3, c4, c5, c6, c7, c8, c9⟩ : Cl)).t.p))), .v (.bool (κ _ ((protN l (⟨c1, c2, c3, c4, c5, c6, c7, c8, c9⟩ : Cl)).t.sh))), .v (.int .i64 (κ _ ((protN l (⟨c1, c2, c3, c4, c5, c6, c7, c8, c9⟩ : Cl)).t.b))), .v (.int .i64 (κ _ ((protN l (⟨c1, c2, c3, c4, c5, c6, c7, c8, c9⟩ : Cl)).t.o)))]])) v H') hκ ?_).mono ?_
  rotate_left
  · subst hκ; intro e w' h; exact h
  intro P' hP'
  cbv
  repeat' (first | refine And.intro ?_ ?_ | (intro _; cbv) | (refine tst_mk (fun h => ?_) (fun h => ?_) <;> cbv) | (refine LookX.nil ?_; cbv) | (refine LookX.auto hκ ?_; cbv))
  all_goals (try (show Side _; refine ⟨?_⟩; subst hκ; delta kid at *; first | exact rfl | exact trivial | exact ⟨rfl, rfl, .inl rfl⟩ | exact ⟨hside, bd (set_bd _ _ _ _) (by omega)⟩ | ((try dsimp only at *); (try simp only [setTo_len, noS_len, List.length_append, List.length_cons, List.length_nil, List.length_map, and_self, true_or, or_true, eq_self, true_and, and_true, Nat.zero_add, Nat.add_zero]); (first | done | omega); done)))
  all_goals (clear hH; subst hκ; delta kid at *; (try dsimp only at *))
  all_goals (show IsX _ _ _; refine IsX.rowM rfl rfl (fun x => ?_) ?_ <;> (try simp only [protL, protS, protN, errA, okA, noAt, *, Bool.or_true, Bool.true_or, Bool.or_false, Bool.false_or, Bool.and_true, Bool.true_and, Bool.and_false, Bool.false_and, Bool.not_true, Bool.not_false, if_true, if_false, Bool.false_eq_true]) <;> (try rfl))
def e_protect {κ : Kp} (hκ : κ = kid) : ESpec Try.prog := fnES [.list, .flat] b_protect F_protect hκ fun avs p r hF hp => by
  unfold F_protect at hF
  split at hF
  case h_2 => cases hF
  rename_i l xl c1 c2 c3 c4 c5 c6 c7 c8 c9
  simp only [kid, Option.some.injEq, Prod.mk.injEq] at hF
  obtain ⟨rfl, rfl⟩ := hF
  refine ⟨fun x y h => by simp [SV.den, SV.den0, h], fun vs w hR => ?_⟩
  obtain ⟨il, Al, cl, vs0, rfl, rfl, hl, hR⟩ := hR
  obtain ⟨vs1, rfl, hR⟩ := hR
  have hR' : vs1 = [] := hR
  subst hR'
  exact k_protect l c1 c2 c3 c4 c5 c6 c7 c8 c9 Al cl hp w hl

theorem b_fault : Bodied Try.prog 44 := bodied Try.func44 rfl (by decide)
def F_fault : FunX := fun κ avs => match avs with
  | [.lst l xl, .val (.agg [.v (.int .i64 c1), .v (.int .i64 c2), .v (.int .i64 c3), .v (.int .i64 c4), .v (.int .i64 c5), .v (.int .i64 c6), .v (.int .i64 c7), .v (.int .i64 c8), .v (.int .i64 c9)])] => some (κ _ (l.length ≤ 300000), (.val (.agg [.v (.int .i64 (κ _ ((faultN l (⟨c1, c2, c3, c4, c5, c6, c7, c8, c9⟩ : Cl)).er))), .v (.int .i64 (κ _ ((faultN l (⟨c1, c2, c3, c4, c5, c6, c7, c8, c9⟩ : Cl)).v))), .v (.int .i64 (κ _ ((faultN l (⟨c1, c2, c3, c4, c5, c6, c7, c8, c9⟩ : Cl)).t.p))), .v (.bool (κ _ ((faultN l (⟨c1, c2, c3, c4, c5, c6, c7, c8, c9⟩ : Cl)).t.sh))), .v (.int .i64 (κ _ ((faultN l (⟨c1, c2, c3, c4, c5, c6, c7, c8, c9⟩ : Cl)).t.b))), .v (.int .i64 (κ _ ((faultN l (⟨c1, c2, c3, c4, c5, c6, c7, c8, c9⟩ : Cl)).t.o)))])))
  | _ => none
set_option maxRecDepth 100000 in
set_option maxHeartbeats 4000000 in
theorem k_fault (l : List Ar) (c1 : Int) (c2 : Int) (c3 : Int) (c4 : Int) (c5 : Int) (c6 : Int) (c7 : Int) (c8 : Int) (c9 : Int) (Al : Option Addr) (cl : Nat) (hside : l.length ≤ 300000) (w : World) (hl : (Ent.rd Al 6 l.length (encL l)).holds w) :
    Calls Try.prog 44 #[.slice Al l.length cl, (SV.agg [.v (.int .i64 c1), .v (.int .i64 c2), .v (.int .i64 c3), .v (.int .i64 c4), .v (.int .i64 c5), .v (.int .i64 c6), .v (.int .i64 c7), .v (.int .i64 c8), .v (.int .i64 c9)]).den] w fun e w' => ∃ v H', e = .returned v.den ∧ IsX (.val (.agg [.v (.int .i64 ((faultN l (⟨c1, c2, c3, c4, c5, c6, c7, c8, c9⟩ : Cl)).er)), .v (.int .i64 ((faultN l (⟨c1, c2, c3, c4, c5, c6, c7, c8, c9⟩ : Cl)).v)), .v (.int .i64 ((faultN l (⟨c1, c2, c3, c4, c5, c6, c7, c8, c9⟩ : Cl)).t.p)), .v (.bool ((faultN l (⟨c1, c2, c3, c4, c5, c6, c7, c8, c9⟩ : Cl)).t.sh)), .v (.int .i64 ((faultN l (⟨c1, c2, c3, c4, c5, c6, c7, c8, c9⟩ : Cl)).t.b)), .v (.int .i64 ((faultN l (⟨c1, c2, c3, c4, c5, c6, c7, c8, c9⟩ : Cl)).t.o))])) v H' ∧ HSat w (fun _ => False) H' w' := by
  obtain ⟨κ, hκ⟩ : ∃ κ : Kp, κ = kid := ⟨_, rfl⟩
  have hH : HSat w (fun _ => False) (heapOf [(nilId, .rd none 1 0 []), (200000, .rd Al 6 (κ _ l.length) (κ _ (encL l)))]) w := by
    subst hκ
    refine HSat.reads fun p hp => ?_
    simp only [List.mem_cons, List.not_mem_nil, or_false] at hp
    rcases hp with rfl | rfl
    · exact ⟨_, _, _, _, rfl, nil_holds w⟩
    · exact ⟨_, _, _, _, rfl, hl⟩
  refine (callsP (n := 50) FTok [e_mayp hκ, e_find hκ, e_may hκ, e_attr hκ] mixed [] Try.func44 rfl (by kernel_rfl) #[.slice Al l.length cl, (SV.agg [.v (.int .i64 c1), .v (.int .i64 c2), .v (.int .i64 c3), .v (.int .i64 c4), .v (.int .i64 c5), .v (.int .i64 c6), .v (.int .i64 c7), .v (.int .i64 c8), .v (.int .i64 c9)]).den] [(0, .c (.sl 200000 Al (κ _ l.length) cl)), (1, .agg [.v (.int .i64 c1), .v (.int .i64 c2), .v (.int .i64 c3), .v (.int .i64 c4), .v (.int .i64 c5), .v (.int .i64 c6), .v (.int .i64 c7), .v (.int .i64 c8), .v (.int .i64 c9)])] _ w rfl [.cell 4 31] rfl (by simp) (by subst hκ; simp [SV.den, C.den, kid]) hH (fun v H' => IsX (.val (.agg [.v (.int .i64 (κ _ ((faultN l (⟨c1, c2, c3, c4, c5, c6, c7, c8, c9⟩ : Cl)).er))), .v (.int .i64 (κ _ ((faultN l (⟨c1, c2, c3, c4, c5, c6, c7, c8, c9⟩ : Cl)).v))), .v (.int .i64 (κ _ ((faultN l (⟨c1, c2, c3, c4, c5, c6, c7, c8, c9⟩ : Cl)).t.p))), .v (.bool (κ _ ((faultN l (⟨c1, c2, c3, c4, c5, c6, c7, c8, c9⟩ : Cl)).t.sh))), .v (.int .i64 (κ _ ((faultN l (⟨c1, c2, c3, c4, c5, c6, c7, c8, c9⟩ : Cl)).t.b))), .v (.int .i64 (κ _ ((faultN l (⟨c1, c2, c3, c4, c5, c6, c7, c8, c9⟩ : Cl)).t.o)))])) v H') hκ ?_).mono ?_
  rotate_left
  · subst hκ; intro e w' h; exact h
  intro P' hP'
  cbv
  repeat' (first | refine And.intro ?_ ?_ | (intro _; cbv) | (refine tst_mk (fun h => ?_) (fun h => ?_) <;> cbv) | (refine LookX.nil ?_; cbv) | (refine LookX.auto hκ ?_; cbv))
  all_goals (try (show Side _; refine ⟨?_⟩; subst hκ; delta kid at *; first | exact rfl | exact trivial | exact ⟨rfl, rfl, .inl rfl⟩ | ((try dsimp only at *); (try simp only [setTo_len, noS_len, List.length_append, List.length_cons, List.length_nil, List.length_map, and_self, true_or, or_true, eq_self, true_and, and_true, Nat.zero_add, Nat.add_zero]); (first | done | omega); done)))
  all_goals (clear hH; subst hκ; delta kid at *; (try dsimp only at *))
  all_goals (try (exact ⟨trivial⟩))
  all_goals (try (exact ⟨by decide⟩))
  all_goals (show IsX _ _ _; refine IsX.val_ ?_; simp only [SV.den, SV.den0, C.den, List.map_cons, List.map_nil, faultN, errA, okA, noAt, GT.gt, GE.ge]; (try simp only [*, Bool.or_true, Bool.true_or, Bool.or_false, Bool.false_or, Bool.and_true, Bool.true_and, Bool.and_false, Bool.false_and, Bool.not_true, Bool.not_false, if_true, if_false, Bool.false_eq_true]); (first | done | rfl | (exfalso; simp_all; done) | skip))
def e_fault {κ : Kp} (hκ : κ = kid) : ESpec Try.prog := fnES [.list, .flat] b_fault F_fault hκ fun avs p r hF hp => by
  unfold F_fault at hF
  split at hF
  case h_2 => cases hF
  rename_i l xl c1 c2 c3 c4 c5 c6 c7 c8 c9
  simp only [kid, Option.some.injEq, Prod.mk.injEq] at hF
  obtain ⟨rfl, rfl⟩ := hF
  refine ⟨trivial, fun vs w hR => ?_⟩
  obtain ⟨il, Al, cl, vs0, rfl, rfl, hl, hR⟩ := hR
  obtain ⟨vs1, rfl, hR⟩ := hR
  have hR' : vs1 = [] := hR
  subst hR'
  exact k_fault l c1 c2 c3 c4 c5 c6 c7 c8 c9 Al cl hp w hl

end Go.Proofs.Ytbcicjmepojlnaa.Eng
/- Contracts of functions (printed by genx.py of this work): what each hands back; condition: as its 'hside' says. -/
namespace Go.Proofs.Ytbcicjmepojlnaa.Eng
open Go Go.RowKit
set_option linter.unusedVariables false
set_option linter.unusedSimpArgs false

theorem b_awake11 : Bodied Try.prog 42 := bodied Try.func42 rfl (by decide)
def F_awake11 : FunX := fun κ avs => match avs with
  | [] => some (κ _ (True), (.val (.c (.v (.bool true)))))
  | _ => none
set_option maxRecDepth 100000 in
set_option maxHeartbeats 4000000 in
theorem k_awake11 (hside : True) (w : World) :
    Calls Try.prog 42 #[] w fun e w' => ∃ v H', e = .returned v.den ∧ IsX (.val (.c (.v (.bool true)))) v H' ∧ HSat w (fun _ => False) H' w' := by
  obtain ⟨κ, hκ⟩ : ∃ κ : Kp, κ = kid := ⟨_, rfl⟩
  have hH : HSat w (fun _ => False) (heapOf [(nilId, .rd none 1 0 [])]) w := by
    subst hκ
    refine HSat.reads fun p hp => ?_
    simp only [List.mem_cons, List.not_mem_nil, or_false] at hp
    rcases hp with rfl
    · exact ⟨_, _, _, _, rfl, nil_holds w⟩
  refine (callsP (n := 17) FTok [e_fault hκ] mixed [] Try.func42 rfl (by kernel_rfl) #[] [] _ w rfl [.tmp 0] rfl (by simp) (by subst hκ; simp [SV.den, C.den, kid]) hH (fun v H' => IsX (.val (.c (.v (.bool true)))) v H') hκ ?_).mono ?_
  rotate_left
  · subst hκ; intro e w' h; exact h
  intro P' hP'
  cbv
  repeat' (first | refine And.intro ?_ ?_ | (intro _; cbv) | (refine tst_mk (fun h => ?_) (fun h => ?_) <;> cbv) | (refine LookX.nil ?_; cbv) | (refine LookX.auto hκ ?_; cbv) | (refine LookX.mk' (x := [⟨65536, 69632, 3, false, 0, 0⟩]) (by subst hκ; rfl) ?_; cbv))
  all_goals (subst hκ; delta kid at *)
  all_goals (try (show Side _; exact ⟨⟨rfl, rfl, .inl rfl⟩⟩))
  all_goals (try (show Side _; refine ⟨?_⟩; decide +kernel))
  all_goals (try (show IsX _ _ _; refine IsX.bool_ ?_; decide +kernel))
  all_goals (first | exact absurd h (by decide +kernel) | trace_state)
def e_awake11 {κ : Kp} (hκ : κ = kid) : ESpec Try.prog := fnES [] b_awake11 F_awake11 hκ fun avs p r hF hp => by
  unfold F_awake11 at hF
  split at hF
  case h_2 => cases hF
  simp only [kid, Option.some.injEq, Prod.mk.injEq] at hF
  obtain ⟨rfl, rfl⟩ := hF
  refine ⟨trivial, fun vs w hR => ?_⟩
  have hR' : vs = [] := hR
  subst hR'
  exact k_awake11 hp w

theorem b_protectFaults : Bodied Try.prog 3 := bodied Try.func3 rfl (by decide)
def F_protectFaults : FunX := fun κ avs => match avs with
  | [.lstc l xl, .val (.agg [.v (.int .i64 c1), .v (.int .i64 c2), .v (.int .i64 c3), .v (.int .i64 c4), .v (.int .i64 c5), .v (.int .i64 c6), .v (.int .i64 c7), .v (.int .i64 c8), .v (.int .i64 c9)])] => some (κ _ (True), (.val (.c (.v (.bool true)))))
  | _ => none
set_option maxRecDepth 100000 in
set_option maxHeartbeats 4000000 in
theorem k_protectFaults (l : List Ar) (c1 : Int) (c2 : Int) (c3 : Int) (c4 : Int) (c5 : Int) (c6 : Int) (c7 : Int) (c8 : Int) (c9 : Int) (Al : Option Addr) (cl : Nat) (kl : l.length ≤ cl) (hside : True) (w : World) (hl : (Ent.rd Al 6 l.length (encL l)).holds w) :
    Calls Try.prog 3 #[.slice Al l.length cl, (SV.agg [.v (.int .i64 c1), .v (.int .i64 c2), .v (.int .i64 c3), .v (.int .i64 c4), .v (.int .i64 c5), .v (.int .i64 c6), .v (.int .i64 c7), .v (.int .i64 c8), .v (.int .i64 c9)]).den] w fun e w' => ∃ v H', e = .returned v.den ∧ IsX (.val (.c (.v (.bool true)))) v H' ∧ HSat w (fun _ => False) H' w' := by
  obtain ⟨κ, hκ⟩ : ∃ κ : Kp, κ = kid := ⟨_, rfl⟩
  have hH : HSat w (fun _ => False) (heapOf [(nilId, .rd none 1 0 []), (200000, .rd Al 6 (κ _ l.length) (κ _ (encL l)))]) w := by
    subst hκ
    refine HSat.reads fun p hp => ?_
    simp only [List.mem_cons, List.not_mem_nil, or_false] at hp
    rcases hp with rfl | rfl
    · exact ⟨_, _, _, _, rfl, nil_holds w⟩
    · exact ⟨_, _, _, _, rfl, hl⟩
  refine (callsP (n := 23) FTok [e_awake11 hκ, e_some hκ, e_fault hκ, e_rfault hκ] mixed [(4, [[], [0], [], [0, 1, 2], [0, 1, 2, 3], [], [], []])] Try.func3 rfl (by kernel_rfl) #[.slice Al l.length cl, (SV.agg [.v (.int .i64 c1), .v (.int .i64 c2), .v (.int .i64 c3), .v (.int .i64 c4), .v (.int .i64 c5), .v (.int .i64 c6), .v (.int .i64 c7), .v (.int .i64 c8), .v (.int .i64 c9)]).den] [(0, .c (.sl 200000 Al (κ _ l.length) cl)), (1, .agg [.v (.int .i64 c1), .v (.int .i64 c2), .v (.int .i64 c3), .v (.int .i64 c4), .v (.int .i64 c5), .v (.int .i64 c6), .v (.int .i64 c7), .v (.int .i64 c8), .v (.int .i64 c9)])] _ w rfl [.tmp 4] rfl (by simp) (by subst hκ; simp [SV.den, C.den, kid]) hH (fun v H' => IsX (.val (.c (.v (.bool true)))) v H') hκ ?_).mono ?_
  rotate_left
  · subst hκ; intro e w' h; exact h
  intro P' hP'
  cbv
  repeat' (first | refine And.intro ?_ ?_ | (intro _; cbv) | (refine tst_mk (fun h => ?_) (fun h => ?_) <;> cbv) | (refine LookX.nil ?_; cbv) | (refine LookX.auto hκ ?_; cbv))
  all_goals (try (show Side _; refine ⟨?_⟩; subst hκ; delta kid at *; first | exact rfl | exact trivial | exact ⟨rfl, rfl, .inl rfl⟩ | exact ⟨rfl, rfl, .inl rfl, kl⟩ | exact ⟨rfl, rfl, .inl rfl, encL_ok _⟩ | exact pro_bd _ (Nat.le_trans (someL_le l) (by decide)) (by decide) | exact some_may l | ((try dsimp only at *); have z1 := madeL_le l; have z2 := someL_le l; (try simp only [maxLen]); have q0 : ¬ (30 : Int) < (l.length : Int) := of_decide_eq_false (by assumption); (try simp only [setTo_len, noS_len, List.length_append, List.length_cons, List.length_nil, List.length_map, and_self, true_or, or_true, eq_self, true_and, and_true, Nat.zero_add, Nat.add_zero]); (first | done | omega); done)))
  all_goals (clear hH; subst hκ; delta kid at *; (try dsimp only at *))
  all_goals (try (exact ⟨trivial⟩))
  all_goals (try (show IsX _ _ _; exact IsX.val_ rfl))
  all_goals (try (exact ⟨by decide⟩))
  all_goals (show IsX _ _ _; refine IsX.bool_ ?_; exact eqN_cells _)
def e_protectFaults {κ : Kp} (hκ : κ = kid) : ESpec Try.prog := fnES [.listc, .flat] b_protectFaults F_protectFaults hκ fun avs p r hF hp => by
  unfold F_protectFaults at hF
  split at hF
  case h_2 => cases hF
  rename_i l xl c1 c2 c3 c4 c5 c6 c7 c8 c9
  simp only [kid, Option.some.injEq, Prod.mk.injEq] at hF
  obtain ⟨rfl, rfl⟩ := hF
  refine ⟨trivial, fun vs w hR => ?_⟩
  obtain ⟨il, Al, cl, vs0, rfl, rfl, kl, hl, hR⟩ := hR
  obtain ⟨vs1, rfl, hR⟩ := hR
  have hR' : vs1 = [] := hR
  subst hR'
  exact k_protectFaults l c1 c2 c3 c4 c5 c6 c7 c8 c9 Al cl kl hp w hl

theorem b_protectSets : Bodied Try.prog 23 := bodied Try.func23 rfl (by decide)
def F_protectSets : FunX := fun κ avs => match avs with
  | [.lstc l xl, .val (.agg [.v (.int .i64 c1), .v (.int .i64 c2), .v (.int .i64 c3), .v (.int .i64 c4), .v (.int .i64 c5), .v (.int .i64 c6), .v (.int .i64 c7), .v (.int .i64 c8), .v (.int .i64 c9)])] => some (κ _ (In64 (⟨c1, c2, c3, c4, c5, c6, c7, c8, c9⟩ : Cl).a), (.val (.c (.v (.bool true)))))
  | _ => none
set_option maxRecDepth 100000 in
set_option maxHeartbeats 4000000 in
theorem k_protectSets (l : List Ar) (c1 : Int) (c2 : Int) (c3 : Int) (c4 : Int) (c5 : Int) (c6 : Int) (c7 : Int) (c8 : Int) (c9 : Int) (Al : Option Addr) (cl : Nat) (kl : l.length ≤ cl) (hside : In64 (⟨c1, c2, c3, c4, c5, c6, c7, c8, c9⟩ : Cl).a) (w : World) (hl : (Ent.rd Al 6 l.length (encL l)).holds w) :
    Calls Try.prog 23 #[.slice Al l.length cl, (SV.agg [.v (.int .i64 c1), .v (.int .i64 c2), .v (.int .i64 c3), .v (.int .i64 c4), .v (.int .i64 c5), .v (.int .i64 c6), .v (.int .i64 c7), .v (.int .i64 c8), .v (.int .i64 c9)]).den] w fun e w' => ∃ v H', e = .returned v.den ∧ IsX (.val (.c (.v (.bool true)))) v H' ∧ HSat w (fun _ => False) H' w' := by
  obtain ⟨κ, hκ⟩ : ∃ κ : Kp, κ = kid := ⟨_, rfl⟩
  have hH : HSat w (fun _ => False) (heapOf [(nilId, .rd none 1 0 []), (200000, .rd Al 6 (κ _ l.length) (κ _ (encL l)))]) w := by
    subst hκ
    refine HSat.reads fun p hp => ?_
    simp only [List.mem_cons, List.not_mem_nil, or_false] at hp
    rcases hp with rfl | rfl
    · exact ⟨_, _, _, _, rfl, nil_holds w⟩
    · exact ⟨_, _, _, _, rfl, hl⟩
  refine (callsP (n := 40) FTok [e_awake11 hκ, e_some hκ, e_protect hκ, e_rprotect hκ, e_rsame hκ] mixed [] Try.func23 rfl (by kernel_rfl) #[.slice Al l.length cl, (SV.agg [.v (.int .i64 c1), .v (.int .i64 c2), .v (.int .i64 c3), .v (.int .i64 c4), .v (.int .i64 c5), .v (.int .i64 c6), .v (.int .i64 c7), .v (.int .i64 c8), .v (.int .i64 c9)]).den] [(0, .c (.sl 200000 Al (κ _ l.length) cl)), (1, .agg [.v (.int .i64 c1), .v (.int .i64 c2), .v (.int .i64 c3), .v (.int .i64 c4), .v (.int .i64 c5), .v (.int .i64 c6), .v (.int .i64 c7), .v (.int .i64 c8), .v (.int .i64 c9)])] _ w rfl [.tmp 4] rfl (by simp) (by subst hκ; simp [SV.den, C.den, kid]) hH (fun v H' => IsX (.val (.c (.v (.bool true)))) v H') hκ ?_).mono ?_
  rotate_left
  · subst hκ; intro e w' h; exact h
  intro P' hP'
  cbv
  repeat' (first | refine And.intro ?_ ?_ | (intro _; cbv) | (refine tst_mk (fun h => ?_) (fun h => ?_) <;> cbv) | (refine LookX.nil ?_; cbv) | (refine LookX.auto hκ ?_; cbv))
  all_goals (try (show Side _; refine ⟨?_⟩; subst hκ; delta kid at *; first | exact rfl | exact trivial | exact ⟨rfl, rfl, .inl rfl⟩ | exact ⟨rfl, rfl, .inl rfl, kl⟩ | exact ⟨rfl, rfl, .inl rfl, encL_ok _⟩ | exact pro_bd _ (Nat.le_trans (someL_le l) (by decide)) (by decide) | exact ⟨some_may l, hside⟩ | ((try dsimp only at *); have z1 := madeL_le l; have z2 := someL_le l; (try simp only [maxLen]); have q0 : ¬ (30 : Int) < (l.length : Int) := of_decide_eq_false (by assumption); (try simp only [setTo_len, noS_len, List.length_append, List.length_cons, List.length_nil, List.length_map, and_self, true_or, or_true, eq_self, true_and, and_true, Nat.zero_add, Nat.add_zero]); (first | done | omega); done)))
  all_goals (clear hH; subst hκ; delta kid at *; (try dsimp only at *))
  all_goals (try (exact ⟨trivial⟩))
  all_goals (try (show IsX _ _ _; exact IsX.val_ rfl))
  all_goals (try (exact ⟨by decide⟩))
  all_goals (try (exfalso; rw [eqN_cells] at h; cases h; done))
  all_goals (show IsX _ _ _; refine IsX.bool_ ?_; first | exact same_pro (by with_reducible assumption) | exact sameL_self _)
def e_protectSets {κ : Kp} (hκ : κ = kid) : ESpec Try.prog := fnES [.listc, .flat] b_protectSets F_protectSets hκ fun avs p r hF hp => by
  unfold F_protectSets at hF
  split at hF
  case h_2 => cases hF
  rename_i l xl c1 c2 c3 c4 c5 c6 c7 c8 c9
  simp only [kid, Option.some.injEq, Prod.mk.injEq] at hF
  obtain ⟨rfl, rfl⟩ := hF
  refine ⟨trivial, fun vs w hR => ?_⟩
  obtain ⟨il, Al, cl, vs0, rfl, rfl, kl, hl, hR⟩ := hR
  obtain ⟨vs1, rfl, hR⟩ := hR
  have hR' : vs1 = [] := hR
  subst hR'
  exact k_protectSets l c1 c2 c3 c4 c5 c6 c7 c8 c9 Al cl kl hp w hl

theorem b_protectWrong : Bodied Try.prog 24 := bodied Try.func24 rfl (by decide)
def F_protectWrong : FunX := fun κ avs => match avs with
  | [.lstc l xl, .val (.agg [.v (.int .i64 c1), .v (.int .i64 c2), .v (.int .i64 c3), .v (.int .i64 c4), .v (.int .i64 c5), .v (.int .i64 c6), .v (.int .i64 c7), .v (.int .i64 c8), .v (.int .i64 c9)])] => some (κ _ (True), (.val (.c (.v (.bool true)))))
  | _ => none
set_option maxRecDepth 100000 in
set_option maxHeartbeats 4000000 in
theorem k_protectWrong (l : List Ar) (c1 : Int) (c2 : Int) (c3 : Int) (c4 : Int) (c5 : Int) (c6 : Int) (c7 : Int) (c8 : Int) (c9 : Int) (Al : Option Addr) (cl : Nat) (kl : l.length ≤ cl) (hside : True) (w : World) (hl : (Ent.rd Al 6 l.length (encL l)).holds w) :
    Calls Try.prog 24 #[.slice Al l.length cl, (SV.agg [.v (.int .i64 c1), .v (.int .i64 c2), .v (.int .i64 c3), .v (.int .i64 c4), .v (.int .i64 c5), .v (.int .i64 c6), .v (.int .i64 c7), .v (.int .i64 c8), .v (.int .i64 c9)]).den] w fun e w' => ∃ v H', e = .returned v.den ∧ IsX (.val (.c (.v (.bool true)))) v H' ∧ HSat w (fun _ => False) H' w' := by
  obtain ⟨κ, hκ⟩ : ∃ κ : Kp, κ = kid := ⟨_, rfl⟩
  have hH : HSat w (fun _ => False) (heapOf [(nilId, .rd none 1 0 []), (200000, .rd Al 6 (κ _ l.length) (κ _ (encL l)))]) w := by
    subst hκ
    refine HSat.reads fun p hp => ?_
    simp only [List.mem_cons, List.not_mem_nil, or_false] at hp
    rcases hp with rfl | rfl
    · exact ⟨_, _, _, _, rfl, nil_holds w⟩
    · exact ⟨_, _, _, _, rfl, hl⟩
  refine (callsP (n := 40) FTok [e_awake11 hκ, e_rmay hκ, e_protect hκ, e_fault hκ, e_rsame hκ] mixed [] Try.func24 rfl (by kernel_rfl) #[.slice Al l.length cl, (SV.agg [.v (.int .i64 c1), .v (.int .i64 c2), .v (.int .i64 c3), .v (.int .i64 c4), .v (.int .i64 c5), .v (.int .i64 c6), .v (.int .i64 c7), .v (.int .i64 c8), .v (.int .i64 c9)]).den] [(0, .c (.sl 200000 Al (κ _ l.length) cl)), (1, .agg [.v (.int .i64 c1), .v (.int .i64 c2), .v (.int .i64 c3), .v (.int .i64 c4), .v (.int .i64 c5), .v (.int .i64 c6), .v (.int .i64 c7), .v (.int .i64 c8), .v (.int .i64 c9)])] _ w rfl [.tmp 4] rfl (by simp) (by subst hκ; simp [SV.den, C.den, kid]) hH (fun v H' => IsX (.val (.c (.v (.bool true)))) v H') hκ ?_).mono ?_
  rotate_left
  · subst hκ; intro e w' h; exact h
  intro P' hP'
  cbv
  repeat' (first | refine And.intro ?_ ?_ | (intro _; cbv) | (refine tst_mk (fun h => ?_) (fun h => ?_) <;> cbv) | (refine LookX.nil ?_; cbv) | (refine LookX.auto hκ ?_; cbv))
  all_goals (try (show Side _; refine ⟨?_⟩; subst hκ; delta kid at *; first | exact rfl | exact trivial | exact ⟨rfl, rfl, .inl rfl⟩ | exact ⟨rfl, rfl, .inl rfl, kl⟩ | exact ⟨rfl, rfl, .inl rfl, encL_ok _⟩ | exact pro_bd _ (Nat.le_trans (someL_le l) (by decide)) (by decide) | ((try dsimp only at *); have z1 := madeL_le l; have z2 := someL_le l; (try simp only [maxLen]); have q0 : ¬ (40 : Int) < (l.length : Int) := of_decide_eq_false (by assumption); (try simp only [setTo_len, noS_len, List.length_append, List.length_cons, List.length_nil, List.length_map, and_self, true_or, or_true, eq_self, true_and, and_true, Nat.zero_add, Nat.add_zero]); (first | done | omega); done)))
  all_goals (clear hH; subst hκ; delta kid at *; (try dsimp only at *))
  all_goals (try (exact ⟨trivial⟩))
  all_goals (try (show IsX _ _ _; exact IsX.val_ rfl))
  all_goals (try (exact ⟨by decide⟩))
  all_goals (try (show Side _; have q0 : ¬ (40 : Int) < (l.length : Int) := of_decide_eq_false (by assumption); exact ⟨pro_bd _ (by omega) (by omega)⟩))
  all_goals (obtain ⟨n1, n2, n3⟩ := not_may (l := l) (by with_reducible assumption) (⟨c1, c2, c3, c4, c5, c6, c7, c8, c9⟩ : Cl))
  all_goals (try (exfalso; rw [n1] at h; exact absurd h (by decide)))
  all_goals (try (exfalso; rw [n2, sameL_self] at h; cases h; done))
  all_goals (show IsX _ _ _; refine IsX.bool_ ?_; rw [n3]; rfl)
def e_protectWrong {κ : Kp} (hκ : κ = kid) : ESpec Try.prog := fnES [.listc, .flat] b_protectWrong F_protectWrong hκ fun avs p r hF hp => by
  unfold F_protectWrong at hF
  split at hF
  case h_2 => cases hF
  rename_i l xl c1 c2 c3 c4 c5 c6 c7 c8 c9
  simp only [kid, Option.some.injEq, Prod.mk.injEq] at hF
  obtain ⟨rfl, rfl⟩ := hF
  refine ⟨trivial, fun vs w hR => ?_⟩
  obtain ⟨il, Al, cl, vs0, rfl, rfl, kl, hl, hR⟩ := hR
  obtain ⟨vs1, rfl, hR⟩ := hR
  have hR' : vs1 = [] := hR
  subst hR'
  exact k_protectWrong l c1 c2 c3 c4 c5 c6 c7 c8 c9 Al cl kl hp w hl

end Go.Proofs.Ytbcicjmepojlnaa.Eng
/- Contracts of functions (printed by genx.py of this work): what each hands back; condition: as its 'hside' says. -/
namespace Go.Proofs.Ytbcicjmepojlnaa.Eng
open Go Go.RowKit
set_option linter.unusedVariables false
set_option linter.unusedSimpArgs false

theorem b_protectBack : Bodied Try.prog 26 := bodied Try.func26 rfl (by decide)
def F_protectBack : FunX := fun κ avs => match avs with
  | [.lstc l xl, .val (.c (.v (.int .u8 ka))), .val (.c (.v (.int .i64 pr)))] => some (κ _ (U8 ka), (.val (.c (.v (.bool true)))))
  | _ => none
set_option maxRecDepth 100000 in
set_option maxHeartbeats 4000000 in
theorem k_protectBack (l : List Ar) (ka : Int) (pr : Int) (Al : Option Addr) (cl : Nat) (kl : l.length ≤ cl) (hside : U8 ka) (w : World) (hl : (Ent.rd Al 6 l.length (encL l)).holds w) :
    Calls Try.prog 26 #[.slice Al l.length cl, (SV.c (.v (.int .u8 ka))).den, (SV.c (.v (.int .i64 pr))).den] w fun e w' => ∃ v H', e = .returned v.den ∧ IsX (.val (.c (.v (.bool true)))) v H' ∧ HSat w (fun _ => False) H' w' := by
  obtain ⟨κ, hκ⟩ : ∃ κ : Kp, κ = kid := ⟨_, rfl⟩
  have hH : HSat w (fun _ => False) (heapOf [(nilId, .rd none 1 0 []), (200000, .rd Al 6 (κ _ l.length) (κ _ (encL l)))]) w := by
    subst hκ
    refine HSat.reads fun p hp => ?_
    simp only [List.mem_cons, List.not_mem_nil, or_false] at hp
    rcases hp with rfl | rfl
    · exact ⟨_, _, _, _, rfl, nil_holds w⟩
    · exact ⟨_, _, _, _, rfl, hl⟩
  refine (callsP (n := 85) FTok [e_awake11 hκ, e_some hκ, e_protect hκ, e_rsame hκ] mixed [] Try.func26 rfl (by kernel_rfl) #[.slice Al l.length cl, (SV.c (.v (.int .u8 ka))).den, (SV.c (.v (.int .i64 pr))).den] [(0, .c (.sl 200000 Al (κ _ l.length) cl)), (1, .c (.v (.int .u8 ka))), (2, .c (.v (.int .i64 pr)))] _ w rfl [.tmp 6] rfl (by simp) (by subst hκ; simp [SV.den, C.den, kid]) hH (fun v H' => IsX (.val (.c (.v (.bool true)))) v H') hκ ?_).mono ?_
  rotate_left
  · subst hκ; intro e w' h; exact h
  intro P' hP'
  cbv
  repeat' (first | refine And.intro ?_ ?_ | (intro _; cbv) | (refine tst_mk (fun h => ?_) (fun h => ?_) <;> cbv) | (refine LookX.nil ?_; cbv) | (refine LookX.auto hκ ?_; cbv) | (refine LookN.mk' (x := [.v (.int .i64 (κ _ (nthA (someL l) (ka.toNat % (someL l).length)).s)), .v (.int .i64 (κ _ (nthA (someL l) (ka.toNat % (someL l).length)).e)), .v (.int .i64 (κ _ (nthA (someL l) (ka.toNat % (someL l).length)).p)), .v (.bool (κ _ (nthA (someL l) (ka.toNat % (someL l).length)).sh)), .v (.int .i64 (κ _ (nthA (someL l) (ka.toNat % (someL l).length)).b)), .v (.int .i64 (κ _ (nthA (someL l) (ka.toNat % (someL l).length)).o))]) (by subst hκ; delta kid at *; exact pick_take hside (by with_reducible assumption)) ?_; cbv))
  all_goals (try (show Side _; refine ⟨?_⟩; subst hκ; delta kid at *; first | exact rfl | exact trivial | exact ⟨rfl, rfl, .inl rfl⟩ | exact ⟨rfl, rfl, .inl rfl, kl⟩ | exact ⟨rfl, rfl, .inl rfl, encL_ok _⟩ | exact pro_bd _ (Nat.le_trans (someL_le l) (by decide)) (by decide) | exact pro_bd _ (pro_bd _ (Nat.le_trans (someL_le l) (by decide)) (by decide)) (by decide) | exact Nat.le_trans (someL_le l) (by decide) | exact pick_in hside (by with_reducible assumption) | ((try dsimp only at *); have z1 := madeL_le l; have z2 := someL_le l; (try simp only [maxLen]); have q0 : ¬ (30 : Int) < (l.length : Int) := of_decide_eq_false (by assumption); (try simp only [setTo_len, noS_len, List.length_append, List.length_cons, List.length_nil, List.length_map, and_self, true_or, or_true, eq_self, true_and, and_true, Nat.zero_add, Nat.add_zero]); (first | done | omega); done)))
  all_goals (clear hH; subst hκ; delta kid at *; (try dsimp only at *))
  all_goals (try (exact ⟨trivial⟩))
  all_goals (try (show IsX _ _ _; exact IsX.val_ rfl))
  all_goals (try (exact ⟨by decide⟩))
  all_goals (try (exact ⟨beq_no (by with_reducible assumption)⟩))
  all_goals (have hmem := pick_mem hside (by with_reducible assumption))
  all_goals (have hb := back_ok (some_may l) hmem (⟨0, (nthA (someL l) (ka.toNat % (someL l).length)).s, IntKind.i64.wrap ((nthA (someL l) (ka.toNat % (someL l).length)).e - (nthA (someL l) (ka.toNat % (someL l).length)).s), 0, 0, pr, 0, 0, 0⟩ : Cl) (⟨0, (nthA (someL l) (ka.toNat % (someL l).length)).s, IntKind.i64.wrap ((nthA (someL l) (ka.toNat % (someL l).length)).e - (nthA (someL l) (ka.toNat % (someL l).length)).s), 0, 0, (nthA (someL l) (ka.toNat % (someL l).length)).p, 0, 0, 0⟩ : Cl) ⟨rfl, len_w (fo.1 ((some_rt l).1 _ hmem))⟩ ⟨rfl, len_w (fo.1 ((some_rt l).1 _ hmem)), rfl⟩)
  all_goals (show IsX _ _ _; refine IsX.bool_ ?_; first | (have h1 := hb.1 (bne_yes (by with_reducible assumption)); first | (rw [h1.2]; exact sameL_self _) | exact (back_no (by with_reducible assumption) (by with_reducible assumption) h1.1).elim) | (have h2 := hb.2 (bne_no (by with_reducible assumption)); first | (rw [h2.2]; exact sameL_self _) | exact absurd h2.1 (beq_no (by with_reducible assumption))))
def e_protectBack {κ : Kp} (hκ : κ = kid) : ESpec Try.prog := fnES [.listc, .flat, .flat] b_protectBack F_protectBack hκ fun avs p r hF hp => by
  unfold F_protectBack at hF
  split at hF
  case h_2 => cases hF
  rename_i l xl ka pr
  simp only [kid, Option.some.injEq, Prod.mk.injEq] at hF
  obtain ⟨rfl, rfl⟩ := hF
  refine ⟨trivial, fun vs w hR => ?_⟩
  obtain ⟨il, Al, cl, vs0, rfl, rfl, kl, hl, hR⟩ := hR
  obtain ⟨vs1, rfl, hR⟩ := hR
  obtain ⟨vs2, rfl, hR⟩ := hR
  have hR' : vs2 = [] := hR
  subst hR'
  exact k_protectBack l ka pr Al cl kl hp w hl

theorem b_protectHalves : Bodied Try.prog 22 := bodied Try.func22 rfl (by decide)
def F_protectHalves : FunX := fun κ avs => match avs with
  | [.lstc l xl, .val (.agg [.v (.int .u8 q1), .v (.int .u8 q2), .v (.int .u8 q3), .v (.int .u8 q4)])] => some (κ _ (U8 (⟨q1, q2, q3, q4⟩ : Int × Int × Int × Int).1 ∧ U8 (⟨q1, q2, q3, q4⟩ : Int × Int × Int × Int).2.1 ∧ U8 (⟨q1, q2, q3, q4⟩ : Int × Int × Int × Int).2.2.1 ∧ U8 (⟨q1, q2, q3, q4⟩ : Int × Int × Int × Int).2.2.2), (.val (.c (.v (.bool true)))))
  | _ => none
set_option maxRecDepth 100000 in
set_option maxHeartbeats 4000000 in
theorem k_protectHalves (l : List Ar) (q1 : Int) (q2 : Int) (q3 : Int) (q4 : Int) (Al : Option Addr) (cl : Nat) (kl : l.length ≤ cl) (hside : U8 (⟨q1, q2, q3, q4⟩ : Int × Int × Int × Int).1 ∧ U8 (⟨q1, q2, q3, q4⟩ : Int × Int × Int × Int).2.1 ∧ U8 (⟨q1, q2, q3, q4⟩ : Int × Int × Int × Int).2.2.1 ∧ U8 (⟨q1, q2, q3, q4⟩ : Int × Int × Int × Int).2.2.2) (w : World) (hl : (Ent.rd Al 6 l.length (encL l)).holds w) :
    Calls Try.prog 22 #[.slice Al l.length cl, (SV.agg [.v (.int .u8 q1), .v (.int .u8 q2), .v (.int .u8 q3), .v (.int .u8 q4)]).den] w fun e w' => ∃ v H', e = .returned v.den ∧ IsX (.val (.c (.v (.bool true)))) v H' ∧ HSat w (fun _ => False) H' w' := by
  obtain ⟨κ, hκ⟩ : ∃ κ : Kp, κ = kid := ⟨_, rfl⟩
  have hH : HSat w (fun _ => False) (heapOf [(nilId, .rd none 1 0 []), (200000, .rd Al 6 (κ _ l.length) (κ _ (encL l)))]) w := by
    subst hκ
    refine HSat.reads fun p hp => ?_
    simp only [List.mem_cons, List.not_mem_nil, or_false] at hp
    rcases hp with rfl | rfl
    · exact ⟨_, _, _, _, rfl, nil_holds w⟩
    · exact ⟨_, _, _, _, rfl, hl⟩
  refine (callsP (n := 128) FTok [e_awake11 hκ, e_some hκ, e_protect hκ, e_rsame hκ] mixed [(1, [[], [], [0, 1], [0, 1], [0, 1, 2, 3], [0, 1, 2, 3], [0, 1, 2, 3, 4, 5], [0, 1, 2, 3, 4, 5], [2, 3, 4, 5, 6, 7], [4, 5, 6, 7], [6, 7], []])] Try.func22 rfl (by kernel_rfl) #[.slice Al l.length cl, (SV.agg [.v (.int .u8 q1), .v (.int .u8 q2), .v (.int .u8 q3), .v (.int .u8 q4)]).den] [(0, .c (.sl 200000 Al (κ _ l.length) cl)), (1, .agg [.v (.int .u8 q1), .v (.int .u8 q2), .v (.int .u8 q3), .v (.int .u8 q4)])] _ w rfl [.tmp 4] rfl (by simp) (by subst hκ; simp [SV.den, C.den, kid]) hH (fun v H' => IsX (.val (.c (.v (.bool true)))) v H') hκ ?_).mono ?_
  rotate_left
  · subst hκ; intro e w' h; exact h
  intro P' hP'
  cbv
  repeat' (first | refine And.intro ?_ ?_ | (intro _; cbv) | (refine tst_mk (fun h => ?_) (fun h => ?_) <;> cbv) | (refine LookX.nil ?_; cbv) | (refine LookX.auto hκ ?_; cbv))
  all_goals (try (show Side _; refine ⟨?_⟩; subst hκ; delta kid at *; first | exact rfl | exact trivial | exact ⟨rfl, rfl, .inl rfl⟩ | exact ⟨rfl, rfl, .inl rfl, kl⟩ | exact ⟨rfl, rfl, .inl rfl, encL_ok _⟩ | exact pro_bd _ (Nat.le_trans (someL_le l) (by decide)) (by decide) | exact pro_bd _ (pro_bd _ (Nat.le_trans (someL_le l) (by decide)) (by decide)) (by decide) | exact Nat.le_trans (someL_le l) (by decide) | exact pick_in hside (by with_reducible assumption) | ((try dsimp only at *); have z1 := madeL_le l; have z2 := someL_le l; (try simp only [maxLen]); have q0 : ¬ (20 : Int) < (l.length : Int) := of_decide_eq_false (by assumption); (try simp only [setTo_len, noS_len, List.length_append, List.length_cons, List.length_nil, List.length_map, and_self, true_or, or_true, eq_self, true_and, and_true, Nat.zero_add, Nat.add_zero]); (first | done | omega); done)))
  all_goals (clear hH; subst hκ; delta kid at *; (try dsimp only at *))
  all_goals (try (exact ⟨trivial⟩))
  all_goals (try (show IsX _ _ _; exact IsX.val_ rfl))
  all_goals (try (exact ⟨by decide⟩))
  all_goals (try (exact ⟨hv_ne hside.2.1⟩))
  all_goals (have hl := halves_law (some_may l) hside.1 hside.2.1 hside.2.2.1 hside.2.2.2 (beq_no (by with_reducible assumption)) (beq_no (by with_reducible assumption)) (beq_no (by with_reducible assumption)))
  all_goals (show IsX _ _ _; refine IsX.bool_ ?_; first | (have h1 := hl.1 (bne_yes (by with_reducible assumption)); first | exact absurd h1 (fun h2 => h2.elim (fun h3 => h3 (bne_no (by with_reducible assumption))) (fun h3 => h3 (bne_no (by with_reducible assumption)))) | (rcases h1 with h2 | h2; exact absurd (bne_no (by with_reducible assumption)) h2; simpa using h2)) | (have h1 := hl.2 (bne_no (by with_reducible assumption)); first | exact absurd h1.1 (beq_no (by with_reducible assumption)) | exact absurd h1.2.1 (beq_no (by with_reducible assumption)) | (show sameL (protL (someL l) (hv1 q1 q2 q3 q4)) (protL (protL (someL l) (hv2 q1 q2 q3 q4)) (hv3 q1 q2 q3 q4)) = true; rw [h1.2.2]; exact sameL_self _)))
def e_protectHalves {κ : Kp} (hκ : κ = kid) : ESpec Try.prog := fnES [.listc, .flat] b_protectHalves F_protectHalves hκ fun avs p r hF hp => by
  unfold F_protectHalves at hF
  split at hF
  case h_2 => cases hF
  rename_i l xl q1 q2 q3 q4
  simp only [kid, Option.some.injEq, Prod.mk.injEq] at hF
  obtain ⟨rfl, rfl⟩ := hF
  refine ⟨trivial, fun vs w hR => ?_⟩
  obtain ⟨il, Al, cl, vs0, rfl, rfl, kl, hl, hR⟩ := hR
  obtain ⟨vs1, rfl, hR⟩ := hR
  have hR' : vs1 = [] := hR
  subst hR'
  exact k_protectHalves l q1 q2 q3 q4 Al cl kl hp w hl

theorem b_protectAllows : Bodied Try.prog 25 := bodied Try.func25 rfl (by decide)
def F_protectAllows : FunX := fun κ avs => match avs with
  | [.lstc l xl, .val (.agg [.v (.int .i64 c1), .v (.int .i64 c2), .v (.int .i64 c3), .v (.int .i64 c4), .v (.int .i64 c5), .v (.int .i64 c6), .v (.int .i64 c7), .v (.int .i64 c8), .v (.int .i64 c9)]), .val (.c (.v (.int .u8 ka)))] => some (κ _ (U8 ka), (.val (.c (.v (.bool true)))))
  | _ => none
set_option maxRecDepth 100000 in
set_option maxHeartbeats 4000000 in
theorem k_protectAllows (l : List Ar) (c1 : Int) (c2 : Int) (c3 : Int) (c4 : Int) (c5 : Int) (c6 : Int) (c7 : Int) (c8 : Int) (c9 : Int) (ka : Int) (Al : Option Addr) (cl : Nat) (kl : l.length ≤ cl) (hside : U8 ka) (w : World) (hl : (Ent.rd Al 6 l.length (encL l)).holds w) :
    Calls Try.prog 25 #[.slice Al l.length cl, (SV.agg [.v (.int .i64 c1), .v (.int .i64 c2), .v (.int .i64 c3), .v (.int .i64 c4), .v (.int .i64 c5), .v (.int .i64 c6), .v (.int .i64 c7), .v (.int .i64 c8), .v (.int .i64 c9)]).den, (SV.c (.v (.int .u8 ka))).den] w fun e w' => ∃ v H', e = .returned v.den ∧ IsX (.val (.c (.v (.bool true)))) v H' ∧ HSat w (fun _ => False) H' w' := by
  obtain ⟨κ, hκ⟩ : ∃ κ : Kp, κ = kid := ⟨_, rfl⟩
  have hH : HSat w (fun _ => False) (heapOf [(nilId, .rd none 1 0 []), (200000, .rd Al 6 (κ _ l.length) (κ _ (encL l)))]) w := by
    subst hκ
    refine HSat.reads fun p hp => ?_
    simp only [List.mem_cons, List.not_mem_nil, or_false] at hp
    rcases hp with rfl | rfl
    · exact ⟨_, _, _, _, rfl, nil_holds w⟩
    · exact ⟨_, _, _, _, rfl, hl⟩
  refine (callsP (n := 82) FTok [e_awake11 hκ, e_some hκ, e_protect hκ, e_fault hκ] mixed [(3, [[], [], [0, 1], [], [], [], [5], [0, 1, 2, 3, 4, 5, 6], [6], []])] Try.func25 rfl (by kernel_rfl) #[.slice Al l.length cl, (SV.agg [.v (.int .i64 c1), .v (.int .i64 c2), .v (.int .i64 c3), .v (.int .i64 c4), .v (.int .i64 c5), .v (.int .i64 c6), .v (.int .i64 c7), .v (.int .i64 c8), .v (.int .i64 c9)]).den, (SV.c (.v (.int .u8 ka))).den] [(0, .c (.sl 200000 Al (κ _ l.length) cl)), (1, .agg [.v (.int .i64 c1), .v (.int .i64 c2), .v (.int .i64 c3), .v (.int .i64 c4), .v (.int .i64 c5), .v (.int .i64 c6), .v (.int .i64 c7), .v (.int .i64 c8), .v (.int .i64 c9)]), (2, .c (.v (.int .u8 ka)))] _ w rfl [.tmp 6] rfl (by simp) (by subst hκ; simp [SV.den, C.den, kid]) hH (fun v H' => IsX (.val (.c (.v (.bool true)))) v H') hκ ?_).mono ?_
  rotate_left
  · subst hκ; intro e w' h; exact h
  intro P' hP'
  cbv
  repeat' (first | refine And.intro ?_ ?_ | (intro _; cbv) | (refine tst_mk (fun h => ?_) (fun h => ?_) <;> cbv) | (refine LookX.nil ?_; cbv) | (refine LookX.auto hκ ?_; cbv))
  all_goals (try (show Side _; refine ⟨?_⟩; subst hκ; delta kid at *; first | exact rfl | exact trivial | exact ⟨rfl, rfl, .inl rfl⟩ | exact ⟨rfl, rfl, .inl rfl, kl⟩ | exact ⟨rfl, rfl, .inl rfl, encL_ok _⟩ | exact pro_bd _ (Nat.le_trans (someL_le l) (by decide)) (by decide) | exact pro_bd _ (pro_bd _ (Nat.le_trans (someL_le l) (by decide)) (by decide)) (by decide) | exact Nat.le_trans (someL_le l) (by decide) | exact pick_in hside (by with_reducible assumption) | ((try dsimp only at *); have z1 := madeL_le l; have z2 := someL_le l; (try simp only [maxLen]); have q0 : ¬ (30 : Int) < (l.length : Int) := of_decide_eq_false (by assumption); (try simp only [setTo_len, noS_len, List.length_append, List.length_cons, List.length_nil, List.length_map, and_self, true_or, or_true, eq_self, true_and, and_true, Nat.zero_add, Nat.add_zero]); (first | done | omega); done)))
  all_goals (try (show IsX _ _ _; subst hκ; exact IsX.val_ rfl))
  all_goals (try (exact ⟨by subst hκ; delta kid; decide⟩))
  rename_i b4 h30 Ax cx Ay cy b8
  have he : (protN (someL l) (⟨c1, c2, c3, c4, c5, c6, c7, c8, c9⟩ : Cl)).er = 0 := by subst hκ; exact bne_no h
  refine loopP hP' FTok [e_awake11 hκ, e_some hκ, e_protect hκ, e_fault hκ] mixed [4, 7, 9] (σ := {x : Int // x % 4096 = 0 ∧ c2 ≤ x}) (fun q => [(10, .c (.v (.int .i64 (κ _ q.1))))]) (fun q => [(4, .blk b4 24 [.v (.int .i64 c1), .v (.int .i64 c2), .v (.int .i64 c3), .v (.int .i64 c4), .v (.int .i64 c5), .v (.int .i64 c6), .v (.int .i64 c7), .v (.int .i64 c8), .v (.int .i64 c9)]), (24, .row Ay cy 53 6 (κ _ (protL (someL l) (⟨c1, c2, c3, c4, c5, c6, c7, c8, c9⟩ : Cl)).length) (κ _ (encL (protL (someL l) (⟨c1, c2, c3, c4, c5, c6, c7, c8, c9⟩ : Cl)))))]) (fun q => (c2 + c3 - q.1).toNat) ⟨c2, (alw_len (pro_yes (some_may l) he).1).2.2.2.2, Int.le_refl _⟩ [4, 24] ?_ (by decide) ?_ hκ ?_
  · cbv
    all_goals (subst hκ; delta kid; repeat' (first | exact rfl | exact trivial | refine And.intro ?_ ?_))
  · cbv
    all_goals (subst hκ; delta kid; repeat' (first | exact rfl | exact trivial | refine And.intro ?_ ?_))
  rintro ⟨x, hx, hx2⟩
  have hrg := (pro_yes (some_may l) he).1
  obtain ⟨kk, k1, k7⟩ := kind_k hside.1 hside.2
  rw [← kk] at k1 k7
  cbv
  refine tst_mk (fun h => ?_) (fun h => ?_)
  · have st := alw_step (a := c2) (n := c3) hrg hx hx2 (by subst hκ; exact h)
    cbv
    repeat' (first | refine And.intro ?_ ?_ | (intro _; cbv) | (refine tst_mk (fun h => ?_) (fun h => ?_) <;> cbv) | (refine LookX.nil ?_; cbv) | (refine LookX.auto hκ ?_; cbv))
    all_goals (try (show Side _; refine ⟨?_⟩; subst hκ; delta kid at *; first | exact rfl | exact trivial | exact ⟨rfl, rfl, .inl rfl⟩ | exact ⟨rfl, rfl, .inl rfl, kl⟩ | exact ⟨rfl, rfl, .inl rfl, encL_ok _⟩ | exact pro_bd _ (Nat.le_trans (someL_le l) (by decide)) (by decide) | exact pro_bd _ (pro_bd _ (Nat.le_trans (someL_le l) (by decide)) (by decide)) (by decide) | exact Nat.le_trans (someL_le l) (by decide) | exact pick_in hside (by with_reducible assumption) | ((try dsimp only at *); have z1 := madeL_le l; have z2 := someL_le l; (try simp only [maxLen]); have q0 : ¬ (30 : Int) < (l.length : Int) := of_decide_eq_false (by assumption); (try simp only [setTo_len, noS_len, List.length_append, List.length_cons, List.length_nil, List.length_map, and_self, true_or, or_true, eq_self, true_and, and_true, Nat.zero_add, Nat.add_zero]); (first | done | omega); done)))
    all_goals (clear hH; subst hκ; delta kid at *; (try dsimp only at *))
    all_goals (obtain ⟨t, ht, hf⟩ := alw_page (c := (⟨c1, c2, c3, c4, c5, c6, c7, c8, c9⟩ : Cl)) (some_may l) he hx hx2 st.2.2.2.1 k1 k7)
    all_goals (try (show IsX _ _ _; exfalso; rcases Bool.eq_false_or_eq_true (bits .and .i64 c6 (IntKind.i64.wrap (1 + IntKind.i64.wrap (ka.tmod 7))) == (IntKind.i64.wrap (1 + IntKind.i64.wrap (ka.tmod 7)))) with hb | hb; (have a := alw_y (p := c6) ht hf hb; first | exact absurd a.1 (bne_yes (by with_reducible assumption)) | exact absurd a.2 (bne_yes (by with_reducible assumption)) | exact absurd (beq_yes hb) (bne_yes (by with_reducible assumption)) | exact absurd (beq_yes hb) (beq_no (by with_reducible assumption))); (have a := alw_n (p := c6) hf hb; first | (rw [a] at h; exact absurd h (by decide)) | exact absurd (beq_yes (by with_reducible assumption)) (beq_no hb))))
    all_goals (try (exact rfl))
    all_goals (refine ⟨⟨⟨x + 4096, st.2.1, st.2.2.1⟩, [4, 24], st.2.2.2.2, by decide, ?_, ?_⟩⟩)
    all_goals repeat' (first | exact rfl | exact trivial | refine And.intro ?_ ?_ | exact congrArg (Value.int .i64) st.1)
  · cbv
    all_goals (clear hH; subst hκ; delta kid at *; (try dsimp only at *))
    exact IsX.val_ rfl
def e_protectAllows {κ : Kp} (hκ : κ = kid) : ESpec Try.prog := fnES [.listc, .flat, .flat] b_protectAllows F_protectAllows hκ fun avs p r hF hp => by
  unfold F_protectAllows at hF
  split at hF
  case h_2 => cases hF
  rename_i l xl c1 c2 c3 c4 c5 c6 c7 c8 c9 ka
  simp only [kid, Option.some.injEq, Prod.mk.injEq] at hF
  obtain ⟨rfl, rfl⟩ := hF
  refine ⟨trivial, fun vs w hR => ?_⟩
  obtain ⟨il, Al, cl, vs0, rfl, rfl, kl, hl, hR⟩ := hR
  obtain ⟨vs1, rfl, hR⟩ := hR
  obtain ⟨vs2, rfl, hR⟩ := hR
  have hR' : vs2 = [] := hR
  subst hR'
  exact k_protectAllows l c1 c2 c3 c4 c5 c6 c7 c8 c9 ka Al cl kl hp w hl

end Go.Proofs.Ytbcicjmepojlnaa.Eng
