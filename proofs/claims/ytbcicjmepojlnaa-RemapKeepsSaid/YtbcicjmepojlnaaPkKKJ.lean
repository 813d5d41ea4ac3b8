/- Texts of this work, laid together: symbolic execution over the model, contracts of the program's functions, what they come to; conditions: as each says. -/
import Derived.Test.YtbcicjmepojlnaaPkKAG
import Derived.Test.YtbcicjmepojlnaaPkKHC
import Derived.Test.YtbcicjmepojlnaaPkKHG
import Derived.Test.YtbcicjmepojlnaaPkKHH
import Derived.Test.YtbcicjmepojlnaaPkKKC
import Derived.Test.YtbcicjmepojlnaaPkKKD
import Derived.Test.YtbcicjmepojlnaaPkKKF
/- Calls, answers; what may be asked, in plain words; the reference's sizes are these; no condition but those typed. -/
namespace Go.Proofs.Ytbcicjmepojlnaa.Eng
open Go Go.RowKit
set_option autoImplicit false
set_option linter.unusedSimpArgs false
set_option linter.unusedVariables false
structure Cl where
  k : Int
  a : Int
  n : Int
  w : Int
  to : Int
  p : Int
  f : Int
  b : Int
  o : Int
structure An where
  er : Int
  v : Int
  t : At
structure Gp where
  s : Int
  e : Int
def errA (e : Int) : An := ⟨e, 0, noAt⟩
def okA (v : Int) : An := ⟨0, v, noAt⟩
def eqN (x y : An) : Bool := x.er == y.er && (x.v == y.v && (x.t.p == y.t.p && (x.t.sh == y.t.sh && (x.t.b == y.t.b && (x.t.o == y.t.o && true)))))
theorem eqN_self (x : An) : eqN x x = true := by
  unfold eqN
  simp
def rangeBad (a s : Int) : Bool := decide (a < 65536) || decide (a > w64 (2097152 - s))
def rangeE (a n : Int) : Int := if (Int.tmod a 4096 != 0) = true then 2 else if (sizeE n != 0) = true then sizeE n else if rangeBad a (sizeV n) = true then 4 else 0
def rangeC (a n x : Int) : Int := if (Int.tmod a 4096 != 0) = true then 0 else if (sizeE n != 0) = true then 0 else if rangeBad a (sizeV n) = true then 0 else x
def rangeLo (a n : Int) : Int := rangeC a n a
def rangeHi (a n : Int) : Int := rangeC a n (w64 (a + sizeV n))
theorem rangeC_ok {a n : Int} (x : Int) (h : rangeE a n = 0) : rangeC a n x = x := by
  unfold rangeE at h
  unfold rangeC
  split at h
  · omega
  · rename_i h1
    rw [if_neg h1]
    split at h
    · rename_i h2
      simp [h] at h2
    · rename_i h2
      rw [if_neg h2]
      split at h
      · omega
      · rename_i h3
        rw [if_neg h3]
def backBad (b o : Int) : Bool := decide (b < 0) || decide (b > 9) || (b == 0 && o != 0)
def backE (b o s : Int) : Int := if backBad b o = true then 1 else if (Int.tmod o 4096 != 0) = true then 2 else if (decide (o < 0) || decide (o > w64 (1099511627776 - s))) = true then 4 else 0
theorem bne_no {x y : Int} (h : (x != y) = false) : x = y := by simpa using h
theorem bne_yes {x y : Int} (h : (x != y) = true) : x ≠ y := by simpa using h
theorem beq_no {x y : Int} (h : (x == y) = false) : x ≠ y := by simpa using h
theorem beq_yes {x y : Int} (h : (x == y) = true) : x = y := by simpa using h
theorem sizeE_iff (n : Int) : sizeE n = 0 ↔ 0 < n ∧ n ≤ 2031616 := by
  unfold sizeE sizeBad
  by_cases h0 : n = 0
  · subst h0; decide
  · rw [if_neg (by simpa using h0)]
    by_cases h1 : n < 0 ∨ 2031616 < n
    · rw [if_pos (by simpa using h1)]; omega
    · rw [if_neg (by simpa using h1)]; omega
theorem sizeV_eq {n : Int} (h : 0 < n ∧ n ≤ 2031616) : sizeV n = (n + 4095) / 4096 * 4096 := by
  unfold sizeV sizeBad
  rw [if_neg (by simp; omega), if_neg (by simp; omega)]
  have e1 : w64 (n + 4096) = n + 4096 := w64_id (by unfold In64; omega)
  have e2 : w64 (n + 4096 - 1) = n + 4095 := (w64_id (by unfold In64; omega)).trans (by omega)
  rw [e1, e2, Int.tdiv_eq_ediv_of_nonneg (by omega)]
  have e3 : w64 ((n + 4095) / 4096) = (n + 4095) / 4096 := w64_id (by unfold In64; omega)
  rw [e3]
  exact w64_id (by unfold In64; omega)
structure SzOk (s : Int) : Prop where
  lo : 4096 ≤ s
  hi : s ≤ 2031616
  z : s % 4096 = 0
theorem size_ok {n : Int} (h : sizeE n = 0) : SzOk (sizeV n) ∧ n ≤ sizeV n ∧ sizeV n < n + 4096 := by
  have h2 := (sizeE_iff n).1 h
  rw [sizeV_eq h2]
  exact ⟨⟨by omega, by omega, by omega⟩, by omega, by omega⟩
theorem size_self {n : Int} (h : SzOk n) : sizeE n = 0 ∧ sizeV n = n := by
  obtain ⟨h1, h2, h3⟩ := h
  have h4 : 0 < n ∧ n ≤ 2031616 := by omega
  exact ⟨(sizeE_iff n).2 h4, by rw [sizeV_eq h4]; omega⟩
structure RgOk (a b : Int) : Prop where
  lo : 65536 ≤ a
  hi : b ≤ 2097152
  lt : a < b
  z : a % 4096 = 0
  z2 : b % 4096 = 0
theorem tmod0 (a : Int) : (Int.tmod a 4096 != 0) = false ↔ a % 4096 = 0 := by
  have h := whole_iff a
  unfold whole at h
  rw [← h]
  cases hb : (Int.tmod a 4096 == 0)
  · have : ¬ Int.tmod a 4096 = 0 := by simpa using hb
    simp [this]
  · have : Int.tmod a 4096 = 0 := by simpa using hb
    simp [this]
theorem rangeE_iff (a n : Int) : rangeE a n = 0 ↔ a % 4096 = 0 ∧ sizeE n = 0 ∧ 65536 ≤ a ∧ a + sizeV n ≤ 2097152 := by
  unfold rangeE
  by_cases h1 : a % 4096 = 0
  · rw [if_neg (by rw [(tmod0 a).2 h1]; simp)]
    by_cases h2 : sizeE n = 0
    · rw [if_neg (by simpa using h2)]
      obtain ⟨⟨s1, s2, s3⟩, _⟩ := size_ok h2
      unfold rangeBad
      rw [w64_id (show In64 (2097152 - sizeV n) by unfold In64; omega)]
      by_cases h3 : a < 65536 ∨ 2097152 - sizeV n < a
      · rw [if_pos (by simpa using h3)]; omega
      · rw [if_neg (by simpa using h3)]; omega
    · rw [if_pos (by simpa using h2)]
      exact ⟨fun h => absurd h h2, fun h => absurd h.2.1 h2⟩
  · rw [if_pos (by
      cases hb : (Int.tmod a 4096 != 0)
      · exact absurd ((tmod0 a).1 hb) h1
      · rfl)]
    omega
theorem range_ok {a n : Int} (h : rangeE a n = 0) : RgOk (rangeLo a n) (rangeHi a n) ∧ rangeLo a n = a ∧ rangeHi a n = a + sizeV n ∧ sizeE n = 0 := by
  obtain ⟨h1, h2, h3, h4⟩ := (rangeE_iff a n).1 h
  obtain ⟨⟨s1, s2, s3⟩, _⟩ := size_ok h2
  have e1 : rangeLo a n = a := rangeC_ok _ h
  have e2 : rangeHi a n = a + sizeV n := (rangeC_ok _ h).trans (w64_id (by unfold In64; omega))
  rw [e1, e2]
  exact ⟨⟨h3, h4, by omega, h1, by omega⟩, rfl, rfl, h2⟩
theorem range_self {lo hi : Int} (h : RgOk lo hi) : rangeE lo (hi - lo) = 0 ∧ rangeLo lo (hi - lo) = lo ∧ rangeHi lo (hi - lo) = hi := by
  obtain ⟨h1, h2, h3, h4, h5⟩ := h
  have hs := size_self (n := hi - lo) ⟨by omega, by omega, by omega⟩
  have h6 : rangeE lo (hi - lo) = 0 := (rangeE_iff _ _).2 ⟨h4, hs.1, h1, by rw [hs.2]; omega⟩
  have h7 := range_ok h6
  exact ⟨h6, h7.2.1, by rw [h7.2.2.1, hs.2]; omega⟩
/-! ### The reference's -/
structure CntOk (n p : Int) : Prop where
  lo : 0 ≤ p
  hi : 4096 * (p - 1) < n
theorem cnt_0 {n : Int} (h : 1 ≤ n) : CntOk n 0 := ⟨by omega, by omega⟩
theorem cnt_next {n p : Int} (hn : n ≤ 2031616) (h : CntOk n p) (hl : decide (w64 (4096 * p) < n) = true) : w64 (p + 1) = p + 1 ∧ CntOk n (p + 1) ∧ (n - 4096 * (p + 1)).toNat < (n - 4096 * p).toNat := by
  obtain ⟨h1, h2⟩ := h
  have e : w64 (4096 * p) = 4096 * p := w64_id (by unfold In64; omega)
  have h3 := of_decide_eq_true hl
  rw [e] at h3
  exact ⟨w64_id (by unfold In64; omega), ⟨by omega, by omega⟩, by omega⟩
theorem cnt_end {n p : Int} (hn : 1 ≤ n ∧ n ≤ 2031616) (h : CntOk n p) (hl : decide (w64 (4096 * p) < n) = false) : p = (n + 4095) / 4096 := by
  obtain ⟨h1, h2⟩ := h
  have e : w64 (4096 * p) = 4096 * p := w64_id (by unfold In64; omega)
  have h3 := of_decide_eq_false hl
  rw [e] at h3
  omega
theorem rsize_yes {n : Int} (h0 : (n == 0) = false) (h1 : decide (n < 0) = false) (h2 : decide (2031616 < n) = false) : (1 ≤ n ∧ n ≤ 2031616) ∧ w64 (4096 * ((n + 4095) / 4096)) = sizeV n ∧ sizeE n = 0 := by
  have a0 : ¬ n = 0 := by simpa using h0
  have a1 := of_decide_eq_false h1
  have a2 := of_decide_eq_false h2
  have h : 0 < n ∧ n ≤ 2031616 := by omega
  refine ⟨by omega, ?_, (sizeE_iff n).2 h⟩
  rw [sizeV_eq h, w64_id (by unfold In64; omega)]
  omega
theorem rrange_bad {a n : Int} (ha : In64 a) (he : sizeE n = 0) : (decide (a < 65536) || decide (2097152 < a) || decide (2097152 < w64 (a + sizeV n))) = rangeBad a (sizeV n) := by
  obtain ⟨⟨s1, s2, s3⟩, _⟩ := size_ok he
  unfold rangeBad
  rw [w64_id (show In64 (2097152 - sizeV n) by unfold In64; omega)]
  by_cases h1 : a < 65536
  · simp [h1]
  · by_cases h2 : 2097152 < a
    · have : a > 2097152 - sizeV n := by omega
      simp [h2, this]
    · rw [w64_id (show In64 (a + sizeV n) by unfold In64; omega)]
      simp only [h1, h2, decide_false, Bool.false_or]
      rw [decide_eq_decide]
      omega
/-! ### Results: a list and an answer -/
theorem IsX.rowM {mk : C → SV} {r r' : List Ar} {i c2 : Nat} {A2 : Option Addr} {v k : SV} {H' : Heap} (hv : v = .tup [.c (.sl i A2 r'.length c2), k]) (hH : H' i = some (.row A2 c2 53 6 r'.length (encL r'))) (hm : ∀ x, mk x = .tup [.c x, k]) (h : r' = r) : IsX (.row 53 6 r.length (encL r) mk) v H' :=
  IsX.row_ h (hv.trans (hm _).symm) hH
theorem IsX.sameM {b : Bool} {x : C} {mk1 mk2 : C → SV} {r : List Ar} {v k : SV} {H' : Heap} (hv : v = .tup [.c x, k]) (hm : ∀ x, mk1 x = .tup [.c x, k]) (hb : b = true) : IsX (.alt b x mk1 r mk2) v H' :=
  IsX.same_ hb (by rw [hv, hm])
theorem IsX.newM {b : Bool} {x : C} {mk1 mk2 : C → SV} {r r' : List Ar} {i c2 : Nat} {A2 : Option Addr} {v k : SV} {H' : Heap} (hv : v = .tup [.c (.sl i A2 r'.length c2), k]) (hH : H' i = some (.row A2 c2 53 6 r'.length (encL r'))) (hm : ∀ x, mk2 x = .tup [.c x, k]) (hb : b = false) (h : r' = r) : IsX (.alt b x mk1 r mk2) v H' :=
  IsX.new_ hb h (hv.trans (hm _).symm) hH
/-! ### Lists that may come; what is kept -/
def mayS (l : List Ar) : Bool := rightL l && decide ((l.length : Int) ≤ 24)
def keptL (was now : List Ar) : List Ar := if decide ((24 : Int) < (now.length : Int)) = true then was else now
def keptN (now : List Ar) (v : Int) : An := if decide ((24 : Int) < (now.length : Int)) = true then errA 9 else okA v
theorem nil_of_none {A : Option Addr} {l : List Ar} {w : World} (h : (Ent.rd A 6 l.length (encL l)).holds w) (hA : A.isNone = true) : l = [] := by
  cases l with
  | nil => rfl
  | cons a r =>
    obtain ⟨p, hp, _⟩ := h.2 (by simp [encL, encA])
    rw [hp] at hA
    cases hA
end Go.Proofs.Ytbcicjmepojlnaa.Eng
/- Contracts of functions (printed by genx.py of this work): what each hands back; condition: as its 'hside' says. -/
namespace Go.Proofs.Ytbcicjmepojlnaa.Eng
open Go Go.RowKit
set_option linter.unusedVariables false
set_option linter.unusedSimpArgs false
theorem b_size : Bodied Try.prog 151 := bodied Try.func151 rfl (by decide)
def F_size : FunX := fun κ avs => match avs with
  | [.val (.c (.v (.int .i64 n)))] => some (κ _ (True), (.val (.tup [.c (.v (.int .i64 (κ _ (sizeV n)))), .c (.v (.int .i64 (κ _ (sizeE n))))])))
  | _ => none
set_option maxRecDepth 100000 in
set_option maxHeartbeats 4000000 in
theorem k_size (n : Int) (hside : True) (w : World) :
    Calls Try.prog 151 #[(SV.c (.v (.int .i64 n))).den] w fun e w' => ∃ v H', e = .returned v.den ∧ IsX (.val (.tup [.c (.v (.int .i64 (sizeV n))), .c (.v (.int .i64 (sizeE n)))])) v H' ∧ HSat w (fun _ => False) H' w' := by
  obtain ⟨κ, hκ⟩ : ∃ κ : Kp, κ = kid := ⟨_, rfl⟩
  have hH : HSat w (fun _ => False) (heapOf [(nilId, .rd none 1 0 [])]) w := by
    subst hκ
    refine HSat.reads fun p hp => ?_
    simp only [List.mem_cons, List.not_mem_nil, or_false] at hp
    rcases hp with rfl
    · exact ⟨_, _, _, _, rfl, nil_holds w⟩
  refine (callsP (n := 19) FTok [] mixed [] Try.func151 rfl (by kernel_rfl) #[(SV.c (.v (.int .i64 n))).den] [(0, .c (.v (.int .i64 n)))] _ w rfl [.tmp 2, .tmp 3] rfl (by simp) (by subst hκ; simp [SV.den, C.den, kid]) hH (fun v H' => IsX (.val (.tup [.c (.v (.int .i64 (κ _ (sizeV n)))), .c (.v (.int .i64 (κ _ (sizeE n))))])) v H') hκ ?_).mono ?_
  rotate_left
  · subst hκ; intro e w' h; exact h
  intro P' hP'
  cbv
  repeat' (first | refine And.intro ?_ ?_ | (intro _; cbv) | (refine tst_mk (fun h => ?_) (fun h => ?_) <;> cbv) | (refine LookX.nil ?_; cbv) | (refine LookX.auto hκ ?_; cbv))
  all_goals (clear hH; subst hκ; delta kid at *; (try dsimp only at *))
  all_goals (try (exact ⟨trivial⟩))
  all_goals (try (exact ⟨by decide⟩))
  all_goals (show IsX _ _ _; refine IsX.val_ ?_; simp only [SV.den, SV.den0, C.den, List.map_cons, List.map_nil, sizeV, sizeE, sizeBad, GT.gt, GE.ge]; (try simp only [*, Bool.or_true, Bool.true_or, Bool.or_false, Bool.false_or, Bool.and_true, Bool.true_and, Bool.and_false, Bool.false_and, Bool.not_true, Bool.not_false, if_true, if_false, Bool.false_eq_true]); (first | done | rfl | (exfalso; simp_all; done) | skip))
def e_size {κ : Kp} (hκ : κ = kid) : ESpec Try.prog := fnES [.flat] b_size F_size hκ fun avs p r hF hp => by
  unfold F_size at hF
  split at hF
  case h_2 => cases hF
  rename_i n
  simp only [kid, Option.some.injEq, Prod.mk.injEq] at hF
  obtain ⟨rfl, rfl⟩ := hF
  refine ⟨trivial, fun vs w hR => ?_⟩
  obtain ⟨vs0, rfl, hR⟩ := hR
  have hR' : vs0 = [] := hR
  subst hR'
  exact k_size n hp w
theorem b_flags : Bodied Try.prog 152 := bodied Try.func152 rfl (by decide)
def F_flags : FunX := fun κ avs => match avs with
  | [.val (.c (.v (.int .i64 f))), .val (.c (.v (.int .i64 al)))] => some (κ _ (True), (.val (.c (.v (.int .i64 (κ _ (flagsE f al)))))))
  | _ => none
set_option maxRecDepth 100000 in
set_option maxHeartbeats 4000000 in
theorem k_flags (f : Int) (al : Int) (hside : True) (w : World) :
    Calls Try.prog 152 #[(SV.c (.v (.int .i64 f))).den, (SV.c (.v (.int .i64 al))).den] w fun e w' => ∃ v H', e = .returned v.den ∧ IsX (.val (.c (.v (.int .i64 (flagsE f al))))) v H' ∧ HSat w (fun _ => False) H' w' := by
  obtain ⟨κ, hκ⟩ : ∃ κ : Kp, κ = kid := ⟨_, rfl⟩
  have hH : HSat w (fun _ => False) (heapOf [(nilId, .rd none 1 0 [])]) w := by
    subst hκ
    refine HSat.reads fun p hp => ?_
    simp only [List.mem_cons, List.not_mem_nil, or_false] at hp
    rcases hp with rfl
    · exact ⟨_, _, _, _, rfl, nil_holds w⟩
  refine (callsP (n := 13) FTok [] mixed [] Try.func152 rfl (by kernel_rfl) #[(SV.c (.v (.int .i64 f))).den, (SV.c (.v (.int .i64 al))).den] [(0, .c (.v (.int .i64 f))), (1, .c (.v (.int .i64 al)))] _ w rfl [.tmp 4] rfl (by simp) (by subst hκ; simp [SV.den, C.den, kid]) hH (fun v H' => IsX (.val (.c (.v (.int .i64 (κ _ (flagsE f al)))))) v H') hκ ?_).mono ?_
  rotate_left
  · subst hκ; intro e w' h; exact h
  intro P' hP'
  cbv
  repeat' (first | refine And.intro ?_ ?_ | (intro _; cbv) | (refine tst_mk (fun h => ?_) (fun h => ?_) <;> cbv) | (refine LookX.nil ?_; cbv) | (refine LookX.auto hκ ?_; cbv))
  all_goals (clear hH; subst hκ; delta kid at *; (try dsimp only at *))
  all_goals (try (exact ⟨trivial⟩))
  all_goals (try (exact ⟨by decide⟩))
  all_goals (show IsX _ _ _; refine IsX.val_ ?_; simp only [SV.den, SV.den0, C.den, List.map_cons, List.map_nil, flagsE, GT.gt, GE.ge]; (try simp only [*, Bool.or_true, Bool.true_or, Bool.or_false, Bool.false_or, Bool.and_true, Bool.true_and, Bool.and_false, Bool.false_and, Bool.not_true, Bool.not_false, if_true, if_false, Bool.false_eq_true]); (first | done | rfl | (exfalso; simp_all; done) | skip))
def e_flags {κ : Kp} (hκ : κ = kid) : ESpec Try.prog := fnES [.flat, .flat] b_flags F_flags hκ fun avs p r hF hp => by
  unfold F_flags at hF
  split at hF
  case h_2 => cases hF
  rename_i f al
  simp only [kid, Option.some.injEq, Prod.mk.injEq] at hF
  obtain ⟨rfl, rfl⟩ := hF
  refine ⟨trivial, fun vs w hR => ?_⟩
  obtain ⟨vs0, rfl, hR⟩ := hR
  obtain ⟨vs1, rfl, hR⟩ := hR
  have hR' : vs1 = [] := hR
  subst hR'
  exact k_flags f al hp w
theorem b_range : Bodied Try.prog 131 := bodied Try.func131 rfl (by decide)
def F_range : FunX := fun κ avs => match avs with
  | [.val (.c (.v (.int .i64 a))), .val (.c (.v (.int .i64 n)))] => some (κ _ (True), (.val (.tup [.c (.v (.int .i64 (κ _ (rangeLo a n)))), .c (.v (.int .i64 (κ _ (rangeHi a n)))), .c (.v (.int .i64 (κ _ (rangeE a n))))])))
  | _ => none
set_option maxRecDepth 100000 in
set_option maxHeartbeats 4000000 in
theorem k_range (a : Int) (n : Int) (hside : True) (w : World) :
    Calls Try.prog 131 #[(SV.c (.v (.int .i64 a))).den, (SV.c (.v (.int .i64 n))).den] w fun e w' => ∃ v H', e = .returned v.den ∧ IsX (.val (.tup [.c (.v (.int .i64 (rangeLo a n))), .c (.v (.int .i64 (rangeHi a n))), .c (.v (.int .i64 (rangeE a n)))])) v H' ∧ HSat w (fun _ => False) H' w' := by
  obtain ⟨κ, hκ⟩ : ∃ κ : Kp, κ = kid := ⟨_, rfl⟩
  have hH : HSat w (fun _ => False) (heapOf [(nilId, .rd none 1 0 [])]) w := by
    subst hκ
    refine HSat.reads fun p hp => ?_
    simp only [List.mem_cons, List.not_mem_nil, or_false] at hp
    rcases hp with rfl
    · exact ⟨_, _, _, _, rfl, nil_holds w⟩
  refine (callsP (n := 34) FTok [e_size hκ] mixed [] Try.func131 rfl (by kernel_rfl) #[(SV.c (.v (.int .i64 a))).den, (SV.c (.v (.int .i64 n))).den] [(0, .c (.v (.int .i64 a))), (1, .c (.v (.int .i64 n)))] _ w rfl [.tmp 4, .tmp 5, .tmp 6] rfl (by simp) (by subst hκ; simp [SV.den, C.den, kid]) hH (fun v H' => IsX (.val (.tup [.c (.v (.int .i64 (κ _ (rangeLo a n)))), .c (.v (.int .i64 (κ _ (rangeHi a n)))), .c (.v (.int .i64 (κ _ (rangeE a n))))])) v H') hκ ?_).mono ?_
  rotate_left
  · subst hκ; intro e w' h; exact h
  intro P' hP'
  cbv
  repeat' (first | refine And.intro ?_ ?_ | (intro _; cbv) | (refine tst_mk (fun h => ?_) (fun h => ?_) <;> cbv) | (refine LookX.nil ?_; cbv) | (refine LookX.auto hκ ?_; cbv))
  all_goals (clear hH; subst hκ; delta kid at *; (try dsimp only at *))
  all_goals (try (exact ⟨trivial⟩))
  all_goals (try (exact ⟨by decide⟩))
  all_goals (show IsX _ _ _; refine IsX.val_ ?_; simp only [SV.den, SV.den0, C.den, List.map_cons, List.map_nil, rangeLo, rangeHi, rangeC, rangeE, rangeBad, GT.gt, GE.ge]; (try simp only [*, Bool.or_true, Bool.true_or, Bool.or_false, Bool.false_or, Bool.and_true, Bool.true_and, Bool.and_false, Bool.false_and, Bool.not_true, Bool.not_false, if_true, if_false, Bool.false_eq_true]); (first | done | rfl | (exfalso; simp_all; done) | skip))
def e_range {κ : Kp} (hκ : κ = kid) : ESpec Try.prog := fnES [.flat, .flat] b_range F_range hκ fun avs p r hF hp => by
  unfold F_range at hF
  split at hF
  case h_2 => cases hF
  rename_i a n
  simp only [kid, Option.some.injEq, Prod.mk.injEq] at hF
  obtain ⟨rfl, rfl⟩ := hF
  refine ⟨trivial, fun vs w hR => ?_⟩
  obtain ⟨vs0, rfl, hR⟩ := hR
  obtain ⟨vs1, rfl, hR⟩ := hR
  have hR' : vs1 = [] := hR
  subst hR'
  exact k_range a n hp w
theorem b_rpages : Bodied Try.prog 154 := bodied Try.func154 rfl (by decide)
def F_rpages : FunX := fun κ avs => match avs with
  | [.val (.c (.v (.int .i64 n)))] => some (κ _ (1 ≤ n ∧ n ≤ 2031616), (.val (.c (.v (.int .i64 (κ _ ((n + 4095) / 4096)))))))
  | _ => none
set_option maxRecDepth 100000 in
set_option maxHeartbeats 4000000 in
theorem k_rpages (n : Int) (hside : 1 ≤ n ∧ n ≤ 2031616) (w : World) :
    Calls Try.prog 154 #[(SV.c (.v (.int .i64 n))).den] w fun e w' => ∃ v H', e = .returned v.den ∧ IsX (.val (.c (.v (.int .i64 ((n + 4095) / 4096))))) v H' ∧ HSat w (fun _ => False) H' w' := by
  obtain ⟨κ, hκ⟩ : ∃ κ : Kp, κ = kid := ⟨_, rfl⟩
  have hH : HSat w (fun _ => False) (heapOf [(nilId, .rd none 1 0 [])]) w := by
    subst hκ
    refine HSat.reads fun p hp => ?_
    simp only [List.mem_cons, List.not_mem_nil, or_false] at hp
    rcases hp with rfl
    · exact ⟨_, _, _, _, rfl, nil_holds w⟩
  refine (callsP (n := 11) FTok [] mixed [] Try.func154 rfl (by kernel_rfl) #[(SV.c (.v (.int .i64 n))).den] [(0, .c (.v (.int .i64 n)))] _ w rfl [.tmp 2] rfl (by simp) (by subst hκ; simp [SV.den, C.den, kid]) hH (fun v H' => IsX (.val (.c (.v (.int .i64 (κ _ ((n + 4095) / 4096)))))) v H') hκ ?_).mono ?_
  rotate_left
  · subst hκ; intro e w' h; exact h
  intro P' hP'
  cbv
  refine loopP hP' FTok [] mixed [0] (σ := {p : Int // CntOk n p}) (fun q => [(3, .c (.v (.int .i64 (κ _ q.1))))]) (fun _ => []) (fun q => (n - 4096 * q.1).toNat) ⟨0, cnt_0 hside.1⟩ [] ?_ (by decide) ?_ hκ ?_
  · cbv
    all_goals (subst hκ; delta kid; repeat' (first | exact rfl | exact trivial | refine And.intro ?_ ?_))
  · cbv
  rintro ⟨p, hp⟩
  cbv
  refine tst_mk (fun h => ?_) (fun h => ?_)
  · have hv := cnt_next hside.2 hp (by subst hκ; exact h)
    cbv
    all_goals (clear hH; subst hκ; delta kid at *; (try dsimp only at *))
    refine ⟨⟨⟨p + 1, hv.2.1⟩, [], hv.2.2, by decide, ?_, ?_⟩⟩
    all_goals repeat' (first | exact rfl | exact trivial | refine And.intro ?_ ?_ | exact congrArg (Value.int .i64) hv.1)
  · have hv := cnt_end hside hp (by subst hκ; exact h)
    cbv
    all_goals (clear hH; subst hκ; delta kid at *; (try dsimp only at *))
    exact IsX.int_ hv
def e_rpages {κ : Kp} (hκ : κ = kid) : ESpec Try.prog := fnES [.flat] b_rpages F_rpages hκ fun avs p r hF hp => by
  unfold F_rpages at hF
  split at hF
  case h_2 => cases hF
  rename_i n
  simp only [kid, Option.some.injEq, Prod.mk.injEq] at hF
  obtain ⟨rfl, rfl⟩ := hF
  refine ⟨trivial, fun vs w hR => ?_⟩
  obtain ⟨vs0, rfl, hR⟩ := hR
  have hR' : vs0 = [] := hR
  subst hR'
  exact k_rpages n hp w
theorem b_rsize : Bodied Try.prog 129 := bodied Try.func129 rfl (by decide)
def F_rsize : FunX := fun κ avs => match avs with
  | [.val (.c (.v (.int .i64 n)))] => some (κ _ (True), (.val (.tup [.c (.v (.int .i64 (κ _ (sizeV n)))), .c (.v (.int .i64 (κ _ (sizeE n))))])))
  | _ => none
set_option maxRecDepth 100000 in
set_option maxHeartbeats 4000000 in
theorem k_rsize (n : Int) (hside : True) (w : World) :
    Calls Try.prog 129 #[(SV.c (.v (.int .i64 n))).den] w fun e w' => ∃ v H', e = .returned v.den ∧ IsX (.val (.tup [.c (.v (.int .i64 (sizeV n))), .c (.v (.int .i64 (sizeE n)))])) v H' ∧ HSat w (fun _ => False) H' w' := by
  obtain ⟨κ, hκ⟩ : ∃ κ : Kp, κ = kid := ⟨_, rfl⟩
  have hH : HSat w (fun _ => False) (heapOf [(nilId, .rd none 1 0 [])]) w := by
    subst hκ
    refine HSat.reads fun p hp => ?_
    simp only [List.mem_cons, List.not_mem_nil, or_false] at hp
    rcases hp with rfl
    · exact ⟨_, _, _, _, rfl, nil_holds w⟩
  refine (callsP (n := 15) FTok [e_rpages hκ] mixed [] Try.func129 rfl (by kernel_rfl) #[(SV.c (.v (.int .i64 n))).den] [(0, .c (.v (.int .i64 n)))] _ w rfl [.tmp 2, .tmp 3] rfl (by simp) (by subst hκ; simp [SV.den, C.den, kid]) hH (fun v H' => IsX (.val (.tup [.c (.v (.int .i64 (κ _ (sizeV n)))), .c (.v (.int .i64 (κ _ (sizeE n))))])) v H') hκ ?_).mono ?_
  rotate_left
  · subst hκ; intro e w' h; exact h
  intro P' hP'
  cbv
  repeat' (first | refine And.intro ?_ ?_ | (intro _; cbv) | (refine tst_mk (fun h => ?_) (fun h => ?_) <;> cbv) | (refine LookX.nil ?_; cbv) | (refine LookX.auto hκ ?_; cbv))
  all_goals (clear hH; subst hκ; delta kid at *; (try dsimp only at *))
  all_goals (try (show Side _; refine ⟨?_⟩; exact (rsize_yes (by with_reducible assumption) (by with_reducible assumption) (by with_reducible assumption)).1))
  all_goals (try (show IsX _ _ _; refine IsX.val_ ?_; have hv := rsize_yes (n := n) (by with_reducible assumption) (by with_reducible assumption) (by with_reducible assumption); simp only [SV.den, SV.den0, C.den, List.map_cons, List.map_nil, hv.2.1, hv.2.2]; done))
  all_goals (show IsX _ _ _; refine IsX.val_ ?_; simp only [SV.den, SV.den0, C.den, List.map_cons, List.map_nil, sizeV, sizeE, sizeBad, GT.gt, GE.ge]; (try simp only [*, Bool.or_true, Bool.true_or, Bool.or_false, Bool.false_or, Bool.and_true, Bool.true_and, Bool.and_false, Bool.false_and, Bool.not_true, Bool.not_false, if_true, if_false, Bool.false_eq_true]); (first | done | rfl | (exfalso; simp_all; done) | skip))
def e_rsize {κ : Kp} (hκ : κ = kid) : ESpec Try.prog := fnES [.flat] b_rsize F_rsize hκ fun avs p r hF hp => by
  unfold F_rsize at hF
  split at hF
  case h_2 => cases hF
  rename_i n
  simp only [kid, Option.some.injEq, Prod.mk.injEq] at hF
  obtain ⟨rfl, rfl⟩ := hF
  refine ⟨trivial, fun vs w hR => ?_⟩
  obtain ⟨vs0, rfl, hR⟩ := hR
  have hR' : vs0 = [] := hR
  subst hR'
  exact k_rsize n hp w
theorem b_rrange : Bodied Try.prog 125 := bodied Try.func125 rfl (by decide)
def F_rrange : FunX := fun κ avs => match avs with
  | [.val (.c (.v (.int .i64 a))), .val (.c (.v (.int .i64 n)))] => some (κ _ (In64 a), (.val (.tup [.c (.v (.int .i64 (κ _ (rangeLo a n)))), .c (.v (.int .i64 (κ _ (rangeHi a n)))), .c (.v (.int .i64 (κ _ (rangeE a n))))])))
  | _ => none
set_option maxRecDepth 100000 in
set_option maxHeartbeats 4000000 in
theorem k_rrange (a : Int) (n : Int) (hside : In64 a) (w : World) :
    Calls Try.prog 125 #[(SV.c (.v (.int .i64 a))).den, (SV.c (.v (.int .i64 n))).den] w fun e w' => ∃ v H', e = .returned v.den ∧ IsX (.val (.tup [.c (.v (.int .i64 (rangeLo a n))), .c (.v (.int .i64 (rangeHi a n))), .c (.v (.int .i64 (rangeE a n)))])) v H' ∧ HSat w (fun _ => False) H' w' := by
  obtain ⟨κ, hκ⟩ : ∃ κ : Kp, κ = kid := ⟨_, rfl⟩
  have hH : HSat w (fun _ => False) (heapOf [(nilId, .rd none 1 0 [])]) w := by
    subst hκ
    refine HSat.reads fun p hp => ?_
    simp only [List.mem_cons, List.not_mem_nil, or_false] at hp
    rcases hp with rfl
    · exact ⟨_, _, _, _, rfl, nil_holds w⟩
  refine (callsP (n := 36) FTok [e_rsize hκ] mixed [] Try.func125 rfl (by kernel_rfl) #[(SV.c (.v (.int .i64 a))).den, (SV.c (.v (.int .i64 n))).den] [(0, .c (.v (.int .i64 a))), (1, .c (.v (.int .i64 n)))] _ w rfl [.tmp 4, .tmp 5, .tmp 6] rfl (by simp) (by subst hκ; simp [SV.den, C.den, kid]) hH (fun v H' => IsX (.val (.tup [.c (.v (.int .i64 (κ _ (rangeLo a n)))), .c (.v (.int .i64 (κ _ (rangeHi a n)))), .c (.v (.int .i64 (κ _ (rangeE a n))))])) v H') hκ ?_).mono ?_
  rotate_left
  · subst hκ; intro e w' h; exact h
  intro P' hP'
  cbv
  repeat' (first | refine And.intro ?_ ?_ | (intro _; cbv) | (refine tst_mk (fun h => ?_) (fun h => ?_) <;> cbv) | (refine LookX.nil ?_; cbv) | (refine LookX.auto hκ ?_; cbv))
  all_goals (clear hH; subst hκ; delta kid at *; (try dsimp only at *))
  all_goals (try (exact ⟨trivial⟩))
  all_goals (try (exact ⟨by decide⟩))
  all_goals (first | (have h0 : (Int.tmod a 4096 != 0) = true := (by with_reducible assumption); skip) | (have h0 : (sizeE n != 0) = true := (by with_reducible assumption); skip) | (show IsX _ _ _; have hb := rrange_bad hside (bne_no (x := sizeE n) (by with_reducible assumption)); refine IsX.val_ ?_; simp only [SV.den, SV.den0, C.den, List.map_cons, List.map_nil, rangeLo, rangeHi, rangeC, rangeE, ← hb]; clear hb; simp only [*, Bool.or_true, Bool.true_or, Bool.or_false, Bool.false_or, Bool.and_true, Bool.true_and, Bool.and_false, Bool.false_and, Bool.not_true, Bool.not_false, if_true, if_false, Bool.false_eq_true]))
  all_goals (try (show IsX _ _ _; refine IsX.val_ ?_; simp only [SV.den, SV.den0, C.den, List.map_cons, List.map_nil, rangeLo, rangeHi, rangeC, rangeE, rangeBad, GT.gt, GE.ge]; (try simp only [*, Bool.or_true, Bool.true_or, Bool.or_false, Bool.false_or, Bool.and_true, Bool.true_and, Bool.and_false, Bool.false_and, Bool.not_true, Bool.not_false, if_true, if_false, Bool.false_eq_true]); (first | done | rfl | (exfalso; simp_all; done) | skip)))
def e_rrange {κ : Kp} (hκ : κ = kid) : ESpec Try.prog := fnES [.flat, .flat] b_rrange F_rrange hκ fun avs p r hF hp => by
  unfold F_rrange at hF
  split at hF
  case h_2 => cases hF
  rename_i a n
  simp only [kid, Option.some.injEq, Prod.mk.injEq] at hF
  obtain ⟨rfl, rfl⟩ := hF
  refine ⟨trivial, fun vs w hR => ?_⟩
  obtain ⟨vs0, rfl, hR⟩ := hR
  obtain ⟨vs1, rfl, hR⟩ := hR
  have hR' : vs1 = [] := hR
  subst hR'
  exact k_rrange a n hp w
theorem b_clone : Bodied Try.prog 116 := bodied Try.func116 rfl (by decide)
def F_clone : FunX := fun κ avs => match avs with
  | [.lst l xl] => some (κ _ (l.length ≤ 300000), (.row 53 6 ((κ _ ((l).length))) ((κ _ (encL (l)))) (fun x => .c x)))
  | _ => none
set_option maxRecDepth 100000 in
set_option maxHeartbeats 4000000 in
theorem k_clone (l : List Ar) (Al : Option Addr) (cl : Nat) (hside : l.length ≤ 300000) (w : World) (hl : (Ent.rd Al 6 l.length (encL l)).holds w) :
    Calls Try.prog 116 #[.slice Al l.length cl] w fun e w' => ∃ v H', e = .returned v.den ∧ IsX (.row 53 6 (((l).length)) ((encL (l))) (fun x => .c x)) v H' ∧ HSat w (fun _ => False) H' w' := by
  obtain ⟨κ, hκ⟩ : ∃ κ : Kp, κ = kid := ⟨_, rfl⟩
  have hH : HSat w (fun _ => False) (heapOf [(nilId, .rd none 1 0 []), (200000, .rd Al 6 (κ _ l.length) (κ _ (encL l)))]) w := by
    subst hκ
    refine HSat.reads fun p hp => ?_
    simp only [List.mem_cons, List.not_mem_nil, or_false] at hp
    rcases hp with rfl | rfl
    · exact ⟨_, _, _, _, rfl, nil_holds w⟩
    · exact ⟨_, _, _, _, rfl, hl⟩
  refine (callsP (n := 8) FTok [] mixed [] Try.func116 rfl (by kernel_rfl) #[.slice Al l.length cl] [(0, .c (.sl 200000 Al (κ _ l.length) cl))] _ w rfl [.tmp 2] rfl (by simp) (by subst hκ; simp [SV.den, C.den, kid]) hH (fun v H' => IsX (.row 53 6 ((κ _ ((l).length))) ((κ _ (encL (l)))) (fun x => .c x)) v H') hκ ?_).mono ?_
  rotate_left
  · subst hκ; intro e w' h; exact h
  intro P' hP'
  cbv
  repeat' (first | refine And.intro ?_ ?_ | (intro _; cbv) | (refine tst_mk (fun h => ?_) (fun h => ?_) <;> cbv) | (refine LookX.nil ?_; cbv) | (refine LookX.auto hκ ?_; cbv))
  all_goals (try (show Side _; refine ⟨?_⟩; subst hκ; delta kid at *; first | exact rfl | exact trivial | exact ⟨rfl, rfl, .inl rfl⟩ | ((try dsimp only at *); (try simp only [setTo_len, noS_len, List.length_append, List.length_cons, List.length_nil, List.length_map, and_self, true_or, or_true, eq_self, true_and, and_true, Nat.zero_add, Nat.add_zero]); (first | done | omega); done)))
  all_goals (clear hH; subst hκ; delta kid at *; (try dsimp only at *))
  · exact IsX.nil_ (nil_of_none hl (by with_reducible assumption)) rfl
  all_goals (try simp only [Nat.zero_add, List.nil_append])
  all_goals (try (refine ⟨?_⟩; simp only [maxLen]; omega))
  all_goals (try (exact ⟨⟨trivial, trivial, .inl trivial, encL_ok l⟩⟩))
  all_goals (first | exact IsX.row_ rfl rfl rfl | trace_state)
def e_clone {κ : Kp} (hκ : κ = kid) : ESpec Try.prog := fnES [.list] b_clone F_clone hκ fun avs p r hF hp => by
  unfold F_clone at hF
  split at hF
  case h_2 => cases hF
  rename_i l xl
  simp only [kid, Option.some.injEq, Prod.mk.injEq] at hF
  obtain ⟨rfl, rfl⟩ := hF
  refine ⟨fun x y h => by simp [SV.den, SV.den0, h], fun vs w hR => ?_⟩
  obtain ⟨il, Al, cl, vs0, rfl, rfl, hl, hR⟩ := hR
  have hR' : vs0 = [] := hR
  subst hR'
  exact k_clone l Al cl hp w hl
end Go.Proofs.Ytbcicjmepojlnaa.Eng
