/- Texts of this work, laid together: symbolic execution over the model, contracts of the program's functions, what they come to; conditions: as each says. -/
import Derived.Test.YtbcicjmepojlnaaPkYAL
import Derived.Test.YtbcicjmepojlnaaPkYAO
import Derived.Test.YtbcicjmepojlnaaPkYAP
/- What list.Covered and list.Pages come to, step by step; no condition but those typed. -/
namespace Go.Proofs.Ytbcicjmepojlnaa.Eng
open Go Go.RowKit
set_option autoImplicit false
set_option linter.unusedSimpArgs false
set_option linter.unusedVariables false
def atW (W : List Ar) (a0 : Int) : Nat → Int
  | 0 => a0
  | i + 1 => (nthA W i).e
theorem drop_cons {W : List Ar} {i : Nat} (h : i < W.length) : W.drop i = nthA W i :: W.drop (i + 1) := by
  have h2 := nthA_get h
  rw [List.getElem?_eq_getElem h] at h2
  injection h2 with h2
  rw [List.drop_eq_getElem_cons h, h2]
end Go.Proofs.Ytbcicjmepojlnaa.Eng
/- Contracts of functions (printed by genx.py of this work): what each hands back; condition: as its 'hside' says. -/
namespace Go.Proofs.Ytbcicjmepojlnaa.Eng
open Go Go.RowKit
set_option linter.unusedVariables false
set_option linter.unusedSimpArgs false
end Go.Proofs.Ytbcicjmepojlnaa.Eng
/- Protecting and faults, in plain words; no condition but those typed. -/
namespace Go.Proofs.Ytbcicjmepojlnaa.Eng
open Go Go.RowKit
set_option autoImplicit false
set_option linter.unusedSimpArgs false
set_option linter.unusedVariables false
end Go.Proofs.Ytbcicjmepojlnaa.Eng
/- Lists of areas by their pages: right lists are told by them; cuts, joins; no condition but those typed. -/
namespace Go.Proofs.Ytbcicjmepojlnaa.Eng
open Go Go.RowKit
set_option autoImplicit false
set_option linter.unusedSimpArgs false
set_option linter.unusedVariables false
def offP (a : Ar) (x : Int) : Int := if a.b = 0 then 0 else a.o + x - a.s
def ext (a : Ar) (x : Int) : At := ⟨a.p, a.sh, a.b, offP a x⟩
def inA (a : Ar) (x : Int) : Prop := a.s ≤ x ∧ x < a.e
def Has (l : List Ar) (x : Int) (t : At) : Prop := ∃ a ∈ l, inA a x ∧ ext a x = t
def Fm (l : List Ar) : Prop := ∀ a ∈ l, formed a = true
def Ok (l : List Ar) : Prop := Fm l ∧ l.Pairwise fun a b => a.e ≤ b.s
def Rt (l : List Ar) : Prop := Fm l ∧ l.Pairwise fun a b => a.e ≤ b.s ∧ goesA a b = false
theorem Rt.ok {l : List Ar} (h : Rt l) : Ok l := ⟨h.1, h.2.imp fun h => h.1⟩
theorem Has.nil {x : Int} {t : At} : ¬ Has [] x t := fun ⟨a, h, _⟩ => by cases h
theorem has_app (l k : List Ar) (x : Int) (t : At) : Has (l ++ k) x t ↔ Has l x t ∨ Has k x t := by
  unfold Has
  constructor
  · rintro ⟨a, ha, h⟩
    rcases List.mem_append.1 ha with h1 | h1
    · exact .inl ⟨a, h1, h⟩
    · exact .inr ⟨a, h1, h⟩
  · rintro (⟨a, ha, h⟩ | ⟨a, ha, h⟩)
    · exact ⟨a, List.mem_append.2 (.inl ha), h⟩
    · exact ⟨a, List.mem_append.2 (.inr ha), h⟩
theorem has_cons (a : Ar) (l : List Ar) (x : Int) (t : At) : Has (a :: l) x t ↔ (inA a x ∧ ext a x = t) ∨ Has l x t := by
  unfold Has
  constructor
  · rintro ⟨b, hb, h⟩
    rcases List.mem_cons.1 hb with rfl | h1
    · exact .inl h
    · exact .inr ⟨b, h1, h⟩
  · rintro (h | ⟨b, hb, h⟩)
    · exact ⟨a, List.mem_cons_self .., h⟩
    · exact ⟨b, List.mem_cons_of_mem _ hb, h⟩
theorem has_one (a : Ar) (x : Int) (t : At) : Has [a] x t ↔ inA a x ∧ ext a x = t := by
  rw [has_cons]
  exact ⟨fun h => h.elim id fun h => (Has.nil h).elim, .inl⟩
/-! ### Areas -/
structure Fo (a : Ar) : Prop where
  s0 : a.s % 4096 = 0
  e0 : a.e % 4096 = 0
  lo : 65536 ≤ a.s
  hi : a.e ≤ 2097152
  lt : a.s < a.e
  p0 : 0 ≤ a.p
  p7 : a.p ≤ 7
  b0 : 0 ≤ a.b
  b9 : a.b ≤ 9
  oz : a.b = 0 → a.o = 0
  om : a.b ≠ 0 → a.o % 4096 = 0 ∧ 0 ≤ a.o ∧ a.o ≤ 1099511627776 - (a.e - a.s)
theorem fo {a : Ar} : formed a = true ↔ Fo a := by
  rw [formed_iff]
  exact ⟨fun ⟨h1, h2, h3, h4, h5, h6, h7, h8, h9, h10, h11⟩ => ⟨h1, h2, h3, h4, h5, h6, h7, h8, h9, h10, h11⟩, fun ⟨h1, h2, h3, h4, h5, h6, h7, h8, h9, h10, h11⟩ => ⟨h1, h2, h3, h4, h5, h6, h7, h8, h9, h10, h11⟩⟩
theorem offP_s {a : Ar} (h : Fo a) : offP a a.s = a.o := by
  unfold offP
  split
  · rename_i hb; exact (h.oz hb).symm
  · omega
theorem goes_ext {a b : Ar} : goesA a b = true ↔ Fo a ∧ Fo b ∧ a.e = b.s ∧ ext a a.e = ext b b.s := by
  rw [goes_iff]
  simp only [fo]
  unfold ext
  simp only [At.mk.injEq]
  constructor
  · rintro ⟨h1, h2, h3, h4, h5, h6, h7⟩
    refine ⟨h1, h2, h3, h4, h5, h6, ?_⟩
    rw [offP_s h2, h7]
    rfl
  · rintro ⟨h1, h2, h3, h4, h5, h6, h7⟩
    refine ⟨h1, h2, h3, h4, h5, h6, ?_⟩
    rw [offP_s h2] at h7
    exact h7.symm
theorem formed_at {l : List Ar} (h : Fm l) {i : Nat} (hi : i < l.length) : Fo (nthA l i) := by
  have h1 := nthA_get hi
  rw [List.getElem?_eq_getElem hi] at h1
  injection h1 with h1
  rw [← h1]
  exact fo.1 (h _ (List.getElem_mem hi))
theorem nthA_elem {l : List Ar} {i : Nat} (hi : i < l.length) : nthA l i = l[i] := by
  have h1 := nthA_get hi
  rw [List.getElem?_eq_getElem hi] at h1
  injection h1 with h1
  exact h1.symm
theorem of_rt {l : List Ar} (h : Rt l) : rightL l = true := by
  refine right_yes fun j hj => ?_
  have hf := fo.2 (formed_at h.1 hj)
  unfold badAt
  rw [hf]
  by_cases h0 : 0 < j
  · have := (List.pairwise_iff_getElem.1 h.2) (j - 1) j (by omega) hj (by omega)
    rw [← nthA_elem, ← nthA_elem] at this
    rw [this.2]
    have h2 : decide ((nthA l (j - 1)).e > (nthA l j).s) = false := by simp; omega
    rw [h2]
    simp
  · have : decide (0 < j) = false := by simp; omega
    rw [this]
    rfl
/-! ### Right lists are told by their pages -/
theorem has_lo {l : List Ar} {b : Int} (h : ∀ a ∈ l, b ≤ a.s) {x : Int} {t : At} (hx : Has l x t) : b ≤ x := by
  obtain ⟨a, ha, h1, _⟩ := hx
  have := h a ha
  have := h1.1
  omega
theorem has_fun : ∀ {l : List Ar}, Ok l → ∀ {x : Int} {t t' : At}, Has l x t → Has l x t' → t = t'
  | [], _, _, _, _, h, _ => (Has.nil h).elim
  | a :: l, hl, x, t, t', h, h' => by
    have pl := List.pairwise_cons.1 hl.2
    rcases (has_cons ..).1 h with h1 | h1
    · rcases (has_cons ..).1 h' with h2 | h2
      · exact h1.2.symm.trans h2.2
      · have := has_lo (b := a.e) pl.1 h2
        have := h1.1.2
        omega
    · rcases (has_cons ..).1 h' with h2 | h2
      · have := has_lo (b := a.e) pl.1 h1
        have := h2.1.2
        omega
      · exact has_fun ⟨fun c hc => hl.1 c (List.mem_cons_of_mem _ hc), pl.2⟩ h1 h2
/-! ### Joining -/
end Go.Proofs.Ytbcicjmepojlnaa.Eng
/- Pages of lists, and lists of pages, step by step, as the reference's loops have them; no condition but those typed. -/
namespace Go.Proofs.Ytbcicjmepojlnaa.Eng
open Go Go.RowKit
set_option autoImplicit false
set_option linter.unusedSimpArgs false
set_option linter.unusedVariables false
/-! ### Cells -/
theorem takeM_of_takeN {xs l : List C} {k n : Nat} (h : takeN xs k n = some l) : takeM xs k n = some l := by
  unfold takeN at h
  unfold takeM
  split at h
  · rename_i hc
    rw [if_pos hc.2]
    exact h
  · cases h
theorem page_take {s : List Pg} {i : Nat} (h : i < s.length) : takeM (encS s) (i * 5) 5 = some [.v (.bool (nthP s i).is), .v (.int .i64 (nthP s i).t.p), .v (.bool (nthP s i).t.sh), .v (.int .i64 (nthP s i).t.b), .v (.int .i64 (nthP s i).t.o)] :=
  takeM_of_takeN (enc_take encP_len (by decide) s i _ (nthP_get h))
theorem page_is {s : List Pg} {i : Nat} (h : i < s.length) : (encS s)[i * 5 + 0]? = some (.v (.bool (nthP s i).is)) := enc_get encP_len s i _ 0 (nthP_get h) (by decide)
theorem page_attr {s : List Pg} {i : Nat} (h : i < s.length) : takeM (encS s) (i * 5 + 1) 4 = some [.v (.int .i64 (nthP s i).t.p), .v (.bool (nthP s i).t.sh), .v (.int .i64 (nthP s i).t.b), .v (.int .i64 (nthP s i).t.o)] := by
  have hl := encS_len s
  have hg := fun j hj => enc_get encP_len s i _ j (nthP_get h) hj
  unfold takeM
  rw [if_pos (by rw [hl]; omega)]
  congr 1
  apply List.ext_getElem?
  intro j
  rw [getElem?_drop_take]
  split
  · rename_i hj
    have := hg (1 + j) (by omega)
    rw [show i * 5 + 1 + j = i * 5 + (1 + j) by omega]
    show (s.flatMap encP)[i * 5 + (1 + j)]? = _
    rw [this, Nat.add_comm 1 j]
    rfl
  · rename_i hj; exact (List.getElem?_eq_none (by show 4 ≤ j; omega)).symm
theorem whole_take {s : List Pg} (h : s.length = 512) : takeM (encS s) 0 2560 = some (encS s) := by
  have hl := encS_len s
  unfold takeM
  rw [if_pos (by omega), List.drop_zero, List.take_of_length_le (by omega)]
theorem putC_many (cs : List C) (off : Nat) (a b : C) (r : List C) : putCells cs off (a :: b :: r) = cs.take off ++ (a :: b :: r) ++ cs.drop (off + (a :: b :: r).length) := rfl
theorem putC_whole {cs xs : List C} (h : cs.length = xs.length) : putCells cs 0 xs = xs := by
  unfold putCells
  split
  · rename_i x
    match cs, h with
    | [c], _ => rfl
  · rw [List.take_zero, List.nil_append, List.drop_of_length_le (by omega), List.append_nil]
theorem page_put {s : List Pg} {i : Nat} (p : Pg) (h : i < s.length) : putCells (encS s) (i * 5) (encP p) = encS (s.set i p) := by
  rw [show encP p = .v (.bool p.is) :: .v (.int .i64 p.t.p) :: [.v (.bool p.t.sh), .v (.int .i64 p.t.b), .v (.int .i64 p.t.o)] from rfl, putC_many]
  show (encS s).take (i * 5) ++ encP p ++ (encS s).drop (i * 5 + 5) = _
  have e1 : s = s.take i ++ nthP s i :: s.drop (i + 1) := by
    have h2 := nthP_get h
    rw [List.getElem?_eq_getElem h] at h2
    injection h2 with h2
    rw [← h2, List.getElem_cons_drop, List.take_append_drop]
  have e2 : s.set i p = s.take i ++ p :: s.drop (i + 1) := by
    rw [List.set_eq_take_append_cons_drop, if_pos h]
  have e3 : encS s = encS (s.take i) ++ (encP (nthP s i) ++ encS (s.drop (i + 1))) := by
    conv => lhs; rw [e1]
    unfold encS
    rw [List.flatMap_append, List.flatMap_cons]
  have hl : (encS (s.take i)).length = i * 5 := by rw [encS_len, List.length_take]; omega
  rw [e2, e3]
  unfold encS
  rw [List.flatMap_append, List.flatMap_cons, List.take_append_of_le_length (by rw [← encS, hl]; exact Nat.le_refl _), List.take_of_length_le (by rw [← encS, hl]; exact Nat.le_refl _), ← encS]
  rw [List.append_assoc]
  congr 1
  congr 1
  rw [← hl, List.drop_length_add_append]
  exact List.drop_left (l₁ := encP (nthP s i))
theorem set_len {s : List Pg} {i : Nat} {p : Pg} : (s.set i p).length = s.length := List.length_set
theorem whole_put {s s' : List Pg} (h : s.length = 512) (h' : s'.length = 512) : takeM (putCells (encS s') 0 (encS s)) 0 2560 = some (encS s) := by
  rw [putC_whole (by rw [encS_len, encS_len, h, h']), whole_take h]
theorem nthA_mem {l : List Ar} {i : Nat} (h : i < l.length) : nthA l i ∈ l := by
  rw [nthA_elem h]
  exact List.getElem_mem h
theorem encS_len2 {s : List Pg} (h : s.length = 512) : (encS s).length = 2560 := by
  rw [encS_len, h]
/-! ### Of -/
def ofStep (a : Ar) (s : List Pg) (k : Nat) : List Pg := s.set (pG a k).toNat ⟨true, refAttr a (pG a k)⟩
def ofA (a : Ar) (s : List Pg) : Nat → List Pg
  | 0 => s
  | n + 1 => ofStep a (ofA a s n) n
def lenA (a : Ar) : Nat := (a.e / 4096 - a.s / 4096).toNat
def ofL (l : List Ar) : List Pg := l.foldl (fun s a => ofA a s (lenA a)) noS
theorem ofA_len (a : Ar) (s : List Pg) : ∀ n, (ofA a s n).length = s.length
  | 0 => rfl
  | n + 1 => by rw [ofA, ofStep, set_len, ofA_len a s n]
theorem ofF_len : ∀ (l : List Ar) (s : List Pg), (l.foldl (fun s a => ofA a s (lenA a)) s).length = s.length
  | [], s => rfl
  | a :: l, s => by rw [List.foldl_cons, ofF_len l, ofA_len]
theorem ofL_len (l : List Ar) : (ofL l).length = 512 := by
  unfold ofL
  rw [ofF_len, noS_len]
theorem ofL_next {l : List Ar} {i : Nat} (h : i < l.length) : ofL (l.take (i + 1)) = ofA (nthA l i) (ofL (l.take i)) (lenA (nthA l i)) := by
  unfold ofL
  rw [take_next h, List.foldl_append]
  rfl
theorem of_in {a : Ar} (h : formed a = true) {k : Nat} (hk : pG a k < w64 (Int.tdiv a.e 4096)) : k < lenA a ∧ 0 ≤ pG a k ∧ pG a k < 512 ∧ w64 (pG a k + 1) = pG a (k + 1) := by
  have f := fo.1 h
  have := f.lo; have := f.hi; have := f.s0; have := f.e0; have := f.lt
  rw [w_div (n := a.e) (by omega)] at hk
  unfold lenA
  have e : w64 (pG a k + 1) = pG a k + 1 := w64_id (by unfold pG at hk ⊢; unfold In64; omega)
  unfold pG at *
  omega
theorem of_out {a : Ar} (h : formed a = true) {k : Nat} (hk : ¬ pG a k < w64 (Int.tdiv a.e 4096)) (hl : k ≤ lenA a) : k = lenA a := by
  have f := fo.1 h
  have := f.lo; have := f.hi; have := f.s0; have := f.e0; have := f.lt
  rw [w_div (n := a.e) (by omega)] at hk
  unfold lenA at *
  unfold pG at *
  omega
theorem of_0 {a : Ar} (h : formed a = true) : w64 (Int.tdiv a.s 4096) = pG a 0 := by
  have f := fo.1 h
  have := f.lo; have := f.hi; have := f.lt
  rw [w_div (n := a.s) (by omega)]
  unfold pG
  omega
theorem of_fit {a : Ar} (h : formed a = true) {k : Nat} (hk : pG a k < w64 (Int.tdiv a.e 4096)) {s : List Pg} (hs : s.length = 512) : 0 + (pG a k).toNat * 5 + 5 ≤ (encS (ofA a s k)).length := by
  have := of_in h hk
  rw [encS_len, ofA_len, hs]
  omega
theorem of_put {a : Ar} (h : formed a = true) {k : Nat} (hk : pG a k < w64 (Int.tdiv a.e 4096)) {s : List Pg} (hs : s.length = 512) : putCells (encS (ofA a s k)) (0 + (pG a k).toNat * 5) [.v (.bool true), .v (.int .i64 (refAttr a (pG a k)).p), .v (.bool (refAttr a (pG a k)).sh), .v (.int .i64 (refAttr a (pG a k)).b), .v (.int .i64 (refAttr a (pG a k)).o)] = encS (ofA a s (k + 1)) := by
  have := of_in h hk
  rw [Nat.zero_add]
  exact page_put ⟨true, refAttr a (pG a k)⟩ (by rw [ofA_len, hs]; omega)
/-! ### List -/
def pageAr (n : Nat) (t : At) : Ar := ⟨4096 * n, 4096 * (n + 1), t.p, t.sh, t.b, t.o⟩
def goesOn (s : List Pg) (z : Ar) (n : Nat) : Bool := (z.e == 4096 * (n : Int)) && afterA (nthP s (n - 1)).t (nthP s n).t
def listStep (s : List Pg) (out : List Ar) (n : Nat) : List Ar :=
  if (nthP s n).is = true then
    match out.getLast? with
    | none => [pageAr n (nthP s n).t]
    | some z => if goesOn s z n = true then out.dropLast ++ [{ z with e := 4096 * (n + 1) }] else out ++ [pageAr n (nthP s n).t]
  else out
def listN (s : List Pg) : Nat → List Ar
  | 0 => []
  | n + 1 => listStep s (listN s n) (16 + n)
def listS (s : List Pg) : List Ar := listN s 496
theorem listStep_le (s : List Pg) (out : List Ar) (n : Nat) : (listStep s out n).length ≤ out.length + 1 := by
  unfold listStep
  split
  · split
    · simp
    · split
      · simp
      · simp
  · omega
theorem listN_le (s : List Pg) : ∀ n, (listN s n).length ≤ n
  | 0 => Nat.le_refl _
  | n + 1 => by
    have := listStep_le s (listN s n) (16 + n)
    have := listN_le s n
    rw [listN]
    omega
theorem listS_le (s : List Pg) : (listS s).length ≤ 496 := listN_le s 496
theorem step_not {s : List Pg} {out : List Ar} {n : Nat} (h : (nthP s n).is = false) : listStep s out n = out := by
  unfold listStep
  rw [h]
  rfl
theorem step_nil {s : List Pg} {n : Nat} (h : (nthP s n).is = true) : listStep s [] n = [pageAr n (nthP s n).t] := by
  unfold listStep
  rw [if_pos h]
  rfl
theorem step_yes {s : List Pg} {out : List Ar} {n : Nat} (h : (nthP s n).is = true) (h0 : 0 < out.length) (hg : goesOn s (nthA out (out.length - 1)) n = true) : listStep s out n = out.dropLast ++ [{ nthA out (out.length - 1) with e := 4096 * (n + 1) }] := by
  unfold listStep
  rw [if_pos h, last_at h0]
  simp only [hg, if_true]
theorem step_no {s : List Pg} {out : List Ar} {n : Nat} (h : (nthP s n).is = true) (h0 : 0 < out.length) (hg : goesOn s (nthA out (out.length - 1)) n = false) : listStep s out n = out ++ [pageAr n (nthP s n).t] := by
  unfold listStep
  rw [if_pos h, last_at h0]
  simp only [hg, Bool.false_eq_true, if_false]
theorem last_e {l : List Ar} (h0 : decide ((0 : Int) < (l.length : Int)) = true) (hl : l.length ≤ 1000000) : (encL l)[(IntKind.i64.wrap ((l.length : Int) - 1)).toNat * 6 + 1]? = some (.v (.int .i64 (nthA l (l.length - 1)).e)) := by
  have := last_ix h0 hl
  rw [this.1]
  exact la_e this.2
theorem set_last {l : List Ar} (h : 0 < l.length) (x : Ar) : l.set (l.length - 1) x = l.dropLast ++ [x] := by
  rw [List.set_eq_take_append_cons_drop, if_pos (by omega), List.dropLast_eq_take, List.drop_of_length_le (by omega)]
theorem last_set_e {l : List Ar} (h0 : decide ((0 : Int) < (l.length : Int)) = true) (hl : l.length ≤ 1000000) (e : Int) : putCells (encL l) ((IntKind.i64.wrap ((l.length : Int) - 1)).toNat * 6 + 1) [.v (.int .i64 e)] = encL (l.dropLast ++ [{ nthA l (l.length - 1) with e := e }]) := by
  have h := last_ix h0 hl
  have hp : 0 < l.length := by have := of_decide_eq_true h0; omega
  rw [h.1, Int.toNat_natCast, ← set_last hp]
  exact enc_put encA_len l (l.length - 1) (nthA l (l.length - 1)) { nthA l (l.length - 1) with e := e } 1 (.v (.int .i64 e)) (nthA_get h.2) (by decide) rfl
theorem page_is' {s : List Pg} (hs : s.length = 512) {m : Nat} (h : m < 512) : (encS s)[0 + ((m : Nat) : Int).toNat * 5]? = some (.v (.bool (nthP s m).is)) := by
  rw [Int.toNat_natCast, Nat.zero_add]
  exact page_is (by omega)
theorem page_attr' {s : List Pg} (hs : s.length = 512) {m : Nat} (h : m < 512) : takeM (encS s) (0 + ((m : Nat) : Int).toNat * 5 + 1) 4 = some [.v (.int .i64 (nthP s m).t.p), .v (.bool (nthP s m).t.sh), .v (.int .i64 (nthP s m).t.b), .v (.int .i64 (nthP s m).t.o)] := by
  rw [Int.toNat_natCast, Nat.zero_add]
  exact page_attr (by omega)
theorem pre_page {m : Nat} (h : 16 ≤ m) (h' : m < 512) : IntKind.i64.wrap (((m : Nat) : Int) - 1) = ((m - 1 : Nat) : Int) := by
  have : w64 ((m : Int) - 1) = (m : Int) - 1 := w64_id (by unfold In64; omega)
  unfold w64 at this
  rw [this]
  omega
theorem page_pre {s : List Pg} (hs : s.length = 512) {m : Nat} (h0 : 16 ≤ m) (h : m < 512) : takeM (encS s) (0 + (IntKind.i64.wrap (((m : Nat) : Int) - 1)).toNat * 5 + 1) 4 = some [.v (.int .i64 (nthP s (m - 1)).t.p), .v (.bool (nthP s (m - 1)).t.sh), .v (.int .i64 (nthP s (m - 1)).t.b), .v (.int .i64 (nthP s (m - 1)).t.o)] := by
  rw [pre_page h0 h]
  exact page_attr' hs (by omega)
theorem mul_page {m : Nat} (h : m ≤ 512) : IntKind.i64.wrap (4096 * ((m : Nat) : Int)) = 4096 * (m : Int) := w64_id (by unfold In64; omega)
theorem mul_next {m : Nat} (h : m < 512) : IntKind.i64.wrap (4096 * IntKind.i64.wrap (((m : Nat) : Int) + 1)) = 4096 * ((m : Int) + 1) := by
  have : w64 ((m : Int) + 1) = (m : Int) + 1 := w64_id (by unfold In64; omega)
  unfold w64 at this
  rw [this]
  exact w64_id (by unfold In64; omega)
def nextAr (s : List Pg) (m : Nat) : Ar := ⟨IntKind.i64.wrap (4096 * ((m : Nat) : Int)), IntKind.i64.wrap (4096 * IntKind.i64.wrap (((m : Nat) : Int) + 1)), (nthP s m).t.p, (nthP s m).t.sh, (nthP s m).t.b, (nthP s m).t.o⟩
theorem nextAr_eq (s : List Pg) {m : Nat} (h : m < 512) : nextAr s m = pageAr m (nthP s m).t := by
  unfold nextAr pageAr
  rw [mul_page (by omega), mul_next h]
section
variable {s : List Pg} {n : Nat}
theorem lst_not (hi : (nthP s (16 + n)).is = false) : listN s (n + 1) = listN s n := step_not hi
theorem lst_yes (hm : 16 + n < 512) (hi : (nthP s (16 + n)).is = true) (h0 : decide ((0 : Int) < ((listN s n).length : Int)) = true) (he : ((nthA (listN s n) ((listN s n).length - 1)).e == IntKind.i64.wrap (4096 * ((16 + n : Nat) : Int))) = true)
    (ha : afterA (nthP s (16 + n - 1)).t (nthP s (16 + n)).t = true) : listN s (n + 1) = (listN s n).dropLast ++ [{ nthA (listN s n) ((listN s n).length - 1) with e := IntKind.i64.wrap (4096 * IntKind.i64.wrap (((16 + n : Nat) : Int) + 1)) }] := by
  rw [mul_page (by omega)] at he
  rw [mul_next hm]
  refine step_yes hi (by have := of_decide_eq_true h0; omega) ?_
  unfold goesOn
  rw [he, ha]
  rfl
theorem lst_no1 (hm : 16 + n < 512) (hi : (nthP s (16 + n)).is = true) (h0 : decide ((0 : Int) < ((listN s n).length : Int)) = true) (ha : afterA (nthP s (16 + n - 1)).t (nthP s (16 + n)).t = false) : listN s (n + 1) = listN s n ++ [nextAr s (16 + n)] := by
  rw [nextAr_eq s hm]
  refine step_no hi (by have := of_decide_eq_true h0; omega) ?_
  unfold goesOn
  rw [ha, Bool.and_false]
theorem lst_no2 (hm : 16 + n < 512) (hi : (nthP s (16 + n)).is = true) (h0 : decide ((0 : Int) < ((listN s n).length : Int)) = true) (he : ((nthA (listN s n) ((listN s n).length - 1)).e == IntKind.i64.wrap (4096 * ((16 + n : Nat) : Int))) = false) : listN s (n + 1) = listN s n ++ [nextAr s (16 + n)] := by
  rw [nextAr_eq s hm]
  rw [mul_page (by omega)] at he
  refine step_no hi (by have := of_decide_eq_true h0; omega) ?_
  unfold goesOn
  rw [he, Bool.false_and]
theorem lst_no3 (hm : 16 + n < 512) (hi : (nthP s (16 + n)).is = true) (h0 : decide ((0 : Int) < ((listN s n).length : Int)) = false) : listN s (n + 1) = listN s n ++ [nextAr s (16 + n)] := by
  rw [nextAr_eq s hm]
  have hnil : listN s n = [] := List.eq_nil_of_length_eq_zero (by have := of_decide_eq_false h0; omega)
  show listStep s (listN s n) (16 + n) = _
  rw [hnil]
  exact step_nil hi
theorem lst_len1 {a : Ar} (hv : listN s (n + 1) = listN s n ++ [a]) : (listN s n).length + 1 = (listN s (n + 1)).length := by rw [hv, List.length_append]; rfl
theorem lst_enc1 (hv : listN s (n + 1) = listN s n ++ [nextAr s (16 + n)]) : encL (listN s n) ++ [.v (.int .i64 (IntKind.i64.wrap (4096 * ((16 + n : Nat) : Int)))), .v (.int .i64 (IntKind.i64.wrap (4096 * IntKind.i64.wrap (((16 + n : Nat) : Int) + 1)))), .v (.int .i64 (nthP s (16 + n)).t.p), .v (.bool (nthP s (16 + n)).t.sh), .v (.int .i64 (nthP s (16 + n)).t.b), .v (.int .i64 (nthP s (16 + n)).t.o)] = encL (listN s (n + 1)) := by
  rw [hv, encL_app, encL_one]
  rfl
theorem lst_len2 {a : Ar} (h0 : decide ((0 : Int) < ((listN s n).length : Int)) = true) (hv : listN s (n + 1) = (listN s n).dropLast ++ [a]) : (listN s n).length = (listN s (n + 1)).length := by
  have := of_decide_eq_true h0
  rw [hv, List.length_append, List.length_dropLast]
  show _ = _ - 1 + 1
  omega
theorem lst_fit (h0 : decide ((0 : Int) < ((listN s n).length : Int)) = true) (hl : (listN s n).length ≤ 1000000) : (IntKind.i64.wrap (((listN s n).length : Int) - 1)).toNat * 6 + 1 + 1 ≤ (encL (listN s n)).length := by
  have h := last_ix h0 hl
  rw [h.1, encL_len]
  omega
theorem page_ix {m : Nat} (h : m < 512) : (0 : Int) ≤ ((m : Nat) : Int) ∧ ((m : Nat) : Int) < ((512 : Nat) : Int) := by omega
theorem pre_ix' {m : Nat} (h : 16 ≤ m) (h' : m < 512) : 0 ≤ IntKind.i64.wrap (((m : Nat) : Int) - 1) ∧ IntKind.i64.wrap (((m : Nat) : Int) - 1) < ((512 : Nat) : Int) := by
  rw [pre_page h h']
  omega
theorem page_succ {m : Nat} (h : m < 512) : IntKind.i64.wrap (((m : Nat) : Int) + 1) = ((m + 1 : Nat) : Int) := nat_succ (by omega)
end
/-! ### Made -/
def overN (s t : List Pg) : Nat → List Pg
  | 0 => s
  | n + 1 => if (nthP t n).is = true then (overN s t n).set n (nthP t n) else overN s t n
def overS (s t : List Pg) : List Pg := overN s t 512
def madeStep (s : List Pg) (a : Ar) : List Pg := if formed a = true then overS s (ofL [a]) else s
def madeT (l : List Ar) : List Pg := l.foldl madeStep noS
def madeL (l : List Ar) : List Ar := listS (madeT (l.take 40))
theorem overN_len (s t : List Pg) : ∀ n, (overN s t n).length = s.length
  | 0 => rfl
  | n + 1 => by
    rw [overN]
    split
    · rw [set_len, overN_len s t n]
    · exact overN_len s t n
theorem madeStep_len (s : List Pg) (a : Ar) : (madeStep s a).length = s.length := by
  unfold madeStep
  split
  · exact overN_len _ _ _
  · rfl
theorem madeF_len : ∀ (l : List Ar) (s : List Pg), (l.foldl madeStep s).length = s.length
  | [], s => rfl
  | a :: l, s => by rw [List.foldl_cons, madeF_len l, madeStep_len]
theorem madeT_len (l : List Ar) : (madeT l).length = 512 := by
  unfold madeT
  rw [madeF_len, noS_len]
theorem made_next {l : List Ar} {i : Nat} (h : i < l.length) : madeT (l.take (i + 1)) = madeStep (madeT (l.take i)) (nthA l i) := by
  unfold madeT
  rw [take_next h, List.foldl_append]
  rfl
theorem madeL_le (l : List Ar) : (madeL l).length ≤ 496 := listS_le _
theorem made_yes {s : List Pg} {a : Ar} (h : formed a = true) : madeStep s a = overS s (ofL [a]) := if_pos h
theorem made_no {s : List Pg} {a : Ar} (h : formed a = false) : madeStep s a = s := if_neg (by rw [h]; simp)
theorem over_yes {s t : List Pg} {n : Nat} (h : (nthP t n).is = true) : overN s t (n + 1) = (overN s t n).set n (nthP t n) := if_pos h
theorem over_no {s t : List Pg} {n : Nat} (h : (nthP t n).is = false) : overN s t (n + 1) = overN s t n := if_neg (by rw [h]; simp)
theorem slice_one {l : List Ar} {i : Nat} (h : i < l.length) (hi : i ≤ 1000000) : ((encL l).drop (((i : Nat) : Int).toNat * 6)).take (((IntKind.i64.wrap (((i : Nat) : Int) + 1)).toNat - ((i : Nat) : Int).toNat) * 6) = encL [nthA l i] := by
  have e : IntKind.i64.wrap (((i : Nat) : Int) + 1) = ((i + 1 : Nat) : Int) := by
    have : w64 ((i : Int) + 1) = (i : Int) + 1 := w64_id (by unfold In64; omega)
    unfold w64 at this
    rw [this]
    rfl
  rw [e, Int.toNat_natCast, Int.toNat_natCast, Nat.add_sub_cancel_left]
  have := area_take h
  unfold takeN at this
  split at this
  · exact Option.some.inj this
  · cases this
theorem slice_n {i : Nat} (hi : i ≤ 1000000) : (IntKind.i64.wrap (((i : Nat) : Int) + 1)).toNat - ((i : Nat) : Int).toNat = 1 := by
  have : w64 ((i : Int) + 1) = (i : Int) + 1 := w64_id (by unfold In64; omega)
  unfold w64 at this
  rw [this]
  omega
theorem slice_b {l : List Ar} {i : Nat} (h : i < l.length) (hi : i ≤ 1000000) : 0 ≤ ((i : Nat) : Int) ∧ ((i : Nat) : Int) ≤ IntKind.i64.wrap (((i : Nat) : Int) + 1) ∧ IntKind.i64.wrap (((i : Nat) : Int) + 1) ≤ (l.length : Int) := by
  have : w64 ((i : Int) + 1) = (i : Int) + 1 := w64_id (by unfold In64; omega)
  unfold w64 at this
  rw [this]
  omega
theorem zero_put {s : List Pg} (h : s.length = 512) : putCells (List.replicate 512 [C.v (.bool false), .v (.int .i64 0), .v (.bool false), .v (.int .i64 0), .v (.int .i64 0)]).flatten 0 (encS s) = encS s := by
  rw [encS_noS]
  exact putC_whole (by rw [encS_len, encS_len, h, noS_len])
theorem page_take' {s : List Pg} (hs : s.length = 512) {m : Nat} (h : m < 512) : takeM (encS s) (0 + ((m : Nat) : Int).toNat * 5) 5 = some [.v (.bool (nthP s m).is), .v (.int .i64 (nthP s m).t.p), .v (.bool (nthP s m).t.sh), .v (.int .i64 (nthP s m).t.b), .v (.int .i64 (nthP s m).t.o)] := by
  rw [Int.toNat_natCast, Nat.zero_add]
  exact page_take (by omega)
theorem over_put {s t : List Pg} (hs : s.length = 512) {m : Nat} (h : m < 512) (hi : (nthP t m).is = true) : putCells (encS (overN s t m)) (0 + ((m : Nat) : Int).toNat * 5) [.v (.bool (nthP t m).is), .v (.int .i64 (nthP t m).t.p), .v (.bool (nthP t m).t.sh), .v (.int .i64 (nthP t m).t.b), .v (.int .i64 (nthP t m).t.o)] = encS (overN s t (m + 1)) := by
  rw [Int.toNat_natCast, Nat.zero_add, over_yes hi]
  exact page_put (nthP t m) (by rw [overN_len, hs]; exact h)
theorem over_fit {s t : List Pg} (hs : s.length = 512) {m : Nat} (h : m < 512) : 0 + ((m : Nat) : Int).toNat * 5 + 5 ≤ (encS (overN s t m)).length := by
  rw [encS_len, overN_len, hs]
  omega
theorem fm_one {a : Ar} (h : formed a = true) : Fm [a] := fun b hb => by rw [List.mem_singleton.1 hb]; exact h
end Go.Proofs.Ytbcicjmepojlnaa.Eng
/- Contracts of functions (printed by genx.py of this work): what each hands back; condition: as its 'hside' says. -/
namespace Go.Proofs.Ytbcicjmepojlnaa.Eng
open Go Go.RowKit
set_option linter.unusedVariables false
set_option linter.unusedSimpArgs false
theorem b_of : Bodied Try.prog 48 := bodied Try.func48 rfl (by decide)
def F_of : FunX := fun κ avs => match avs with
  | [.lst l xl] => some (κ _ (Fm l ∧ l.length ≤ 300000), (.val (.agg (κ _ (encS (ofL l))))))
  | _ => none
set_option maxRecDepth 100000 in
set_option maxHeartbeats 4000000 in
theorem k_of (l : List Ar) (Al : Option Addr) (cl : Nat) (hside : Fm l ∧ l.length ≤ 300000) (w : World) (hl : (Ent.rd Al 6 l.length (encL l)).holds w) :
    Calls Try.prog 48 #[.slice Al l.length cl] w fun e w' => ∃ v H', e = .returned v.den ∧ IsX (.val (.agg (encS (ofL l)))) v H' ∧ HSat w (fun _ => False) H' w' := by
  obtain ⟨κ, hκ⟩ : ∃ κ : Kp, κ = kid := ⟨_, rfl⟩
  have hH : HSat w (fun _ => False) (heapOf [(nilId, .rd none 1 0 []), (200000, .rd Al 6 (κ _ l.length) (κ _ (encL l)))]) w := by
    subst hκ
    refine HSat.reads fun p hp => ?_
    simp only [List.mem_cons, List.not_mem_nil, or_false] at hp
    rcases hp with rfl | rfl
    · exact ⟨_, _, _, _, rfl, nil_holds w⟩
    · exact ⟨_, _, _, _, rfl, hl⟩
  refine (callsP (n := 44) FTok [e_refAttr hκ] mixed [] Try.func48 rfl (by kernel_rfl) #[.slice Al l.length cl] [(0, .c (.sl 200000 Al (κ _ l.length) cl))] _ w rfl [.cell 2 37] rfl (by simp) (by subst hκ; simp [SV.den, C.den, kid]) hH (fun v H' => IsX (.val (.agg (κ _ (encS (ofL l))))) v H') hκ ?_).mono ?_
  rotate_left
  · subst hκ; intro e w' h; exact h
  intro P' hP'
  cbv
  repeat' (first | refine And.intro ?_ ?_ | (intro _; cbv) | (refine tst_mk (fun h => ?_) (fun h => ?_) <;> cbv) | (refine LookX.nil ?_; cbv) | (refine LookX.auto hκ ?_; cbv))
  rename_i b2 b3
  refine loopP hP' FTok [e_refAttr hκ] mixed [0, 2, 3] (σ := Nat) (fun i => [(4, .c (.v (.int .i64 (κ _ ((i : Nat) : Int)))))]) (fun i => [(200000, .rd Al 6 (κ _ l.length) (κ _ (encL l))), (2, .blk b2 37 (κ _ (encS noS))), (3, .blk b3 37 (κ _ (encS (ofL (l.take i)))))]) (fun i => l.length - i) 0 [200000, 2, 3] ?_ (by decide) ?_ hκ ?_
  · cbv
    all_goals (subst hκ; delta kid; repeat' (first | exact rfl | exact trivial | refine And.intro ?_ ?_))
  · cbv
    all_goals (subst hκ; delta kid; repeat' (first | exact rfl | exact trivial | refine And.intro ?_ ?_ | exact congrArg (List.map C.den) encS_noS))
  intro i
  cbv
  refine tst_mk (fun h => ?_) (fun h => ?_)
  · have hx : i < l.length := by subst hκ; delta kid at h; have h2 : (i : Int) < (l.length : Int) := of_decide_eq_true h; omega
    have hf := hside.1 _ (nthA_mem hx)
    cbv
    repeat' (first | refine And.intro ?_ ?_ | (intro _; cbv) | (refine tst_mk (fun h => ?_) (fun h => ?_) <;> cbv) | (refine LookX.nil ?_; cbv) | (refine LookX.auto hκ ?_; cbv) | (refine LookN.mk' (x := [.v (.int .i64 (κ _ (nthA l i).s)), .v (.int .i64 (κ _ (nthA l i).e)), .v (.int .i64 (κ _ (nthA l i).p)), .v (.bool (κ _ (nthA l i).sh)), .v (.int .i64 (κ _ (nthA l i).b)), .v (.int .i64 (κ _ (nthA l i).o))]) (by subst hκ; delta kid at *; exact la_take hx) ?_; cbv) | (refine LookR.mk' (x := .v (.int .i64 (κ _ (nthA l i).s))) (by subst hκ; delta kid at *; exact la_s hx) ?_; cbv) | (refine LookR.mk' (x := .v (.int .i64 (κ _ (nthA l i).e))) (by subst hκ; delta kid at *; exact la_e hx) ?_; cbv))
    all_goals (try (show Side _; refine ⟨?_⟩; subst hκ; delta kid at *; first | exact rfl | exact trivial | exact ⟨rfl, rfl, .inl rfl⟩ | exact la_ix hx | ((try dsimp only at *); (try simp only [setTo_len, noS_len, List.length_append, List.length_cons, List.length_nil, List.length_map, and_self, true_or, or_true, eq_self, true_and, and_true, Nat.zero_add, Nat.add_zero]); (first | done | omega); done)))
    refine loopP hP' FTok [e_refAttr hκ] mixed [0, 2, 3, 4] (σ := {k : Nat // k ≤ lenA (nthA l i)}) (fun q => [(5, .c (.v (.int .i64 (κ _ (pG (nthA l i) q.1)))))]) (fun q => [(200000, .rd Al 6 (κ _ l.length) (κ _ (encL l))), (2, .blk b2 37 (κ _ (encS noS))), (3, .blk b3 37 (κ _ (encS (ofA (nthA l i) (ofL (l.take i)) q.1))))]) (fun q => lenA (nthA l i) - q.1) ⟨0, Nat.zero_le _⟩ [200000, 2, 3] ?_ (by decide) ?_ hκ ?_
    · cbv
      all_goals (subst hκ; delta kid; repeat' (first | exact rfl | exact trivial | refine And.intro ?_ ?_ | exact congrArg (Value.int .i64) (of_0 hf)))
    · cbv
      all_goals (subst hκ; delta kid; repeat' (first | exact rfl | exact trivial | refine And.intro ?_ ?_ | exact congrArg (Value.int .i64) (of_0 hf)))
    rintro ⟨k, hk⟩
    cbv
    repeat' (first | refine And.intro ?_ ?_ | (intro _; cbv) | (refine tst_mk (fun h => ?_) (fun h => ?_) <;> cbv) | (refine LookX.nil ?_; cbv) | (refine LookX.auto hκ ?_; cbv) | (refine LookN.mk' (x := [.v (.int .i64 (κ _ (nthA l i).s)), .v (.int .i64 (κ _ (nthA l i).e)), .v (.int .i64 (κ _ (nthA l i).p)), .v (.bool (κ _ (nthA l i).sh)), .v (.int .i64 (κ _ (nthA l i).b)), .v (.int .i64 (κ _ (nthA l i).o))]) (by subst hκ; delta kid at *; exact la_take hx) ?_; cbv) | (refine LookR.mk' (x := .v (.int .i64 (κ _ (nthA l i).s))) (by subst hκ; delta kid at *; exact la_s hx) ?_; cbv) | (refine LookR.mk' (x := .v (.int .i64 (κ _ (nthA l i).e))) (by subst hκ; delta kid at *; exact la_e hx) ?_; cbv))
    all_goals (try (show Side _; refine ⟨?_⟩; subst hκ; delta kid at *; first | exact rfl | exact trivial | exact ⟨rfl, rfl, .inl rfl⟩ | exact la_ix hx | ((try dsimp only at *); (try simp only [setTo_len, noS_len, List.length_append, List.length_cons, List.length_nil, List.length_map, and_self, true_or, or_true, eq_self, true_and, and_true, Nat.zero_add, Nat.add_zero]); (first | done | omega); done)))
    all_goals (clear hH; subst hκ; delta kid at *; (try dsimp only at *))
    all_goals (try simp only [nthA_eta] at *)
    · have q := of_in hf (of_decide_eq_true h); exact ⟨⟨q.2.1, q.2.2.1⟩⟩
    · exact ⟨of_fit hf (of_decide_eq_true h) (ofL_len _)⟩
    · have q := of_in hf (of_decide_eq_true h)
      refine ⟨⟨⟨k + 1, q.1⟩, [200000, 2, 3], (by show lenA (nthA l i) - (k + 1) < lenA (nthA l i) - k; omega), by decide, ?_, ?_⟩⟩
      all_goals repeat' (first | exact rfl | exact trivial | refine And.intro ?_ ?_ | exact congrArg (Value.int .i64) q.2.2.2 | exact congrArg (List.map C.den) (of_put hf (of_decide_eq_true h) (ofL_len _)))
    · have q := of_out hf (of_decide_eq_false h) hk
      subst q
      refine ⟨⟨i + 1, [200000, 2, 3], (by show l.length - (i + 1) < l.length - i; omega), by decide, ?_, ?_⟩⟩
      all_goals repeat' (first | exact rfl | exact trivial | refine And.intro ?_ ?_ | exact congrArg (List.map C.den) (congrArg encS (ofL_next hx).symm) | exact congrArg (Value.int .i64) (nat_succ (by omega)))
  · have hx : ¬ i < l.length := by subst hκ; delta kid at h; have h2 : ¬ (i : Int) < (l.length : Int) := of_decide_eq_false h; omega
    cbv
    repeat' (first | refine And.intro ?_ ?_ | (intro _; cbv) | (refine tst_mk (fun h => ?_) (fun h => ?_) <;> cbv) | (refine LookX.nil ?_; cbv) | (refine LookX.auto hκ ?_; cbv) | (refine LookN.mk' (x := κ _ (encS (ofL (l.take i)))) (by subst hκ; delta kid at *; exact whole_take (ofL_len _)) ?_; cbv) | (refine LookN.mk' (x := κ _ (encS (ofL (l.take i)))) (by subst hκ; delta kid at *; exact whole_put (ofL_len _) noS_len) ?_; cbv))
    all_goals (try (show Side _; refine ⟨?_⟩; subst hκ; delta kid at *; first | exact rfl | exact trivial | exact ⟨rfl, rfl, .inl rfl⟩ | exact la_ix hx | ((try dsimp only at *); (try simp only [setTo_len, noS_len, List.length_append, List.length_cons, List.length_nil, List.length_map, and_self, true_or, or_true, eq_self, true_and, and_true, Nat.zero_add, Nat.add_zero]); (first | done | omega); done)))
    all_goals (clear hH; subst hκ; delta kid at *; (try dsimp only at *))
    · (have ho := encS_ok (ofL (l.take i)); generalize encS (ofL (l.take i)) = xs at ho ⊢; cases xs <;> exact ho)
    · (have ho := encS_len2 (s := ofL (l.take i)) (ofL_len _); generalize encS (ofL (l.take i)) = xs at ho ⊢; cases xs <;> exact ho.symm)
    · exact ⟨by rw [encS_len, encS_len, ofL_len, noS_len]; omega⟩
    · rw [take_all hx]
      exact IsX.val_ rfl
def e_of {κ : Kp} (hκ : κ = kid) : ESpec Try.prog := fnES [.list] b_of F_of hκ fun avs p r hF hp => by
  unfold F_of at hF
  split at hF
  case h_2 => cases hF
  rename_i l xl
  simp only [kid, Option.some.injEq, Prod.mk.injEq] at hF
  obtain ⟨rfl, rfl⟩ := hF
  refine ⟨trivial, fun vs w hR => ?_⟩
  obtain ⟨il, Al, cl, vs0, rfl, rfl, hl, hR⟩ := hR
  have hR' : vs0 = [] := hR
  subst hR'
  exact k_of l Al cl hp w hl
end Go.Proofs.Ytbcicjmepojlnaa.Eng
