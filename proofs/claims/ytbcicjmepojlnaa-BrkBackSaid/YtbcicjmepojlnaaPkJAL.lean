/- Texts of this work, laid together: symbolic execution over the model, contracts of the program's functions, what they come to; conditions: as each says. -/
import Derived.Test.YtbcicjmepojlnaaPkJAH
import Derived.Test.YtbcicjmepojlnaaPkJAK
/- Contracts of functions of lists that hand back new ones (printed by genr.py of this work); condition: as its 'hside' says. -/
namespace Go.Proofs.Ytbcicjmepojlnaa.Eng
open Go Go.RowKit
set_option linter.unusedVariables false
set_option linter.unusedSimpArgs false
theorem b_put : Bodied Try.prog 61 := bodied Try.func61 rfl (by decide)
def F_put : FunR := fun κ l rest => match rest with
  | [.agg [.v (.int .i64 a1), .v (.int .i64 a2), .v (.int .i64 a3), .v (.bool a4), .v (.int .i64 a5), .v (.int .i64 a6)]] => some (κ _ (l.length ≤ 300000), κ _ (putL l (⟨a1, a2, a3, a4, a5, a6⟩ : Ar)))
  | _ => none
set_option maxRecDepth 100000 in
set_option maxHeartbeats 8000000 in
theorem k_put (l : List Ar) (a1 : Int) (a2 : Int) (a3 : Int) (a4 : Bool) (a5 : Int) (a6 : Int) (hside : l.length ≤ 300000) (A : Option Addr) (c : Nat) (w : World) (hr : (Ent.rd A 6 l.length (encL l)).holds w) :
    Calls Try.prog 61 #[.slice A l.length c, (SV.agg [.v (.int .i64 a1), .v (.int .i64 a2), .v (.int .i64 a3), .v (.bool a4), .v (.int .i64 a5), .v (.int .i64 a6)]).den] w fun e w' => ∃ v H', e = .returned v.den ∧ IsR (putL l (⟨a1, a2, a3, a4, a5, a6⟩ : Ar)) v H' ∧ HSat w (fun _ => False) H' w' := by
  obtain ⟨κ, hκ⟩ : ∃ κ : Kp, κ = kid := ⟨_, rfl⟩
  have hH : HSat w (fun _ => False) (heapOf [(nilId, .rd none 1 0 []), (200000, .rd A 6 (κ _ l.length) (κ _ (encL l)))]) w := by
    subst hκ
    refine HSat.reads fun p hp => ?_
    simp only [List.mem_cons, List.not_mem_nil, or_false] at hp
    rcases hp with rfl | rfl
    · exact ⟨_, _, _, _, rfl, nil_holds w⟩
    · exact ⟨_, _, _, _, rfl, hr⟩
  refine (callsE (n := 31) FTok [e_right hκ, e_formed hκ, e_around hκ, e_concat hκ, e_joined hκ] mixed [] Try.func61 rfl (by kernel_rfl) #[.slice A l.length c, (SV.agg [.v (.int .i64 a1), .v (.int .i64 a2), .v (.int .i64 a3), .v (.bool a4), .v (.int .i64 a5), .v (.int .i64 a6)]).den] [(0, .c (.sl 200000 A (κ _ l.length) c)), (1, .agg [.v (.int .i64 a1), .v (.int .i64 a2), .v (.int .i64 a3), .v (.bool a4), .v (.int .i64 a5), .v (.int .i64 a6)])] _ w rfl [.tmp 4] rfl (by simp) (by subst hκ; simp [SV.den, C.den, kid]) hH (fun v H' => IsR (κ _ (putL l (⟨a1, a2, a3, a4, a5, a6⟩ : Ar))) v H') hκ ?_).mono ?_
  rotate_left
  · subst hκ; intro e w' h; exact h
  cbv
  repeat' (first | refine And.intro ?_ ?_ | (intro _; cbv) | (refine tst_mk (fun h => ?_) (fun h => ?_) <;> cbv) | (refine LookX.nil ?_; cbv) | (refine LookX.auto hκ ?_; cbv) | (refine LookX.mk' (one_cells a1 a2 a3 a4 a5 a6) ?_; cbv))
  all_goals (try (clear hH))
  all_goals subst hκ
  all_goals (try delta kid at *)
  all_goals (try dsimp only at *)
  all_goals (try (exact ⟨trivial⟩))
  all_goals (try (exact ⟨by decide⟩))
  all_goals (try (exact ⟨rfl⟩))
  all_goals (try (refine ⟨?_⟩; have q1 := ahead_le l (floorA a1); have q2 := behind_le l (toI a2); have q3 := within_le l a1 a2; (try simp only [List.length_append, List.length_cons, List.length_nil, List.length_map, and_self, true_or, or_true, eq_self, true_and, and_true, Nat.zero_add, Nat.add_zero]); (first | done | omega); done))
  all_goals (first | exact IsR.nil_ (put_no (l := l) (a := ⟨a1, a2, a3, a4, a5, a6⟩) (by with_reducible assumption)) | exact IsR.nil_ (put_no2 (l := l) (a := ⟨a1, a2, a3, a4, a5, a6⟩) (by with_reducible assumption)) | exact IsR.row_ (put_all (l := l) (a := ⟨a1, a2, a3, a4, a5, a6⟩) (by with_reducible assumption) (by with_reducible assumption) (by with_reducible assumption)) rfl | exact IsR.row_ (put_some (l := l) (a := ⟨a1, a2, a3, a4, a5, a6⟩) (by with_reducible assumption) (by with_reducible assumption) (by with_reducible assumption)) rfl)
def e_put {κ : Kp} (hκ : κ = kid) : ESpec Try.prog := lisRES b_put F_put hκ fun l rest p r hF hp A c w hr => by
  unfold F_put at hF
  split at hF
  · rename_i a1 a2 a3 a4 a5 a6
    simp only [kid, Option.some.injEq, Prod.mk.injEq] at hF
    obtain ⟨rfl, rfl⟩ := hF
    exact k_put l a1 a2 a3 a4 a5 a6 hp A c w hr
  · cases hF
end Go.Proofs.Ytbcicjmepojlnaa.Eng
/- What lists that are not right tell; no condition. -/
namespace Go.Proofs.Ytbcicjmepojlnaa.Eng
open Go Go.RowKit
set_option autoImplicit false
set_option linter.unusedSimpArgs false
set_option linter.unusedVariables false
theorem sameL_self (l : List Ar) : sameL l l = true := (sameL_iff l l).2 rfl
end Go.Proofs.Ytbcicjmepojlnaa.Eng
/- Contracts of functions (printed by genx.py of this work): what each hands back; condition: as its 'hside' says. -/
namespace Go.Proofs.Ytbcicjmepojlnaa.Eng
open Go Go.RowKit
set_option linter.unusedVariables false
set_option linter.unusedSimpArgs false
end Go.Proofs.Ytbcicjmepojlnaa.Eng
/- What the laws of layer 7 come to, in plain words; no condition but those typed. -/
namespace Go.Proofs.Ytbcicjmepojlnaa.Eng
open Go Go.RowKit
set_option autoImplicit false
set_option linter.unusedSimpArgs false
set_option linter.unusedVariables false
theorem made_rt (l : List Ar) : Rt (madeL l) := (made_spec l).1
theorem rt_len {l : List Ar} (h : Rt l) : l.length ≤ 496 := by
  have hs : GoodS (ofL l) := ⟨ofL_len l, fun q hq hi => by
    by_cases he : ∃ a ∈ l, inA a (4096 * q)
    · obtain ⟨a, ha, hin⟩ := he
      have fa := fo.1 (h.1 a ha)
      have e : nthP (ofL l) q = pgOf a q := paint_yes of_paints hq l noS h.ok noS_len a ha hin
      rw [e]
      have := fa.lo; have := hin.1
      exact ⟨by omega, ext_good fa hin (by omega)⟩
    · have e : nthP (ofL l) q = nthP noS q := (paint_not of_paints hq l noS h.1 noS_len fun a ha hin => he ⟨a, ha, hin⟩).1
      rw [e, noS_get] at hi
      cases hi⟩
  obtain ⟨h1, h2⟩ := listS_spec hs
  have : listS (ofL l) = l := rt_ext h1 h fun x t hx => (h2 x t hx).trans ((of_spec h.ok).1 x t hx)
  rw [← this]
  exact listS_le _
theorem around_bd (l : List Ar) (hl : l.length ≤ 496) (lo hi : Int) : (aroundA l lo hi).length ≤ 496 ∧ (aroundB l lo hi).length ≤ 496 := by
  unfold aroundA aroundB
  have := ahead_le l (floorA lo)
  have := behind_le l (toI hi)
  split
  · exact ⟨hl, Nat.zero_le _⟩
  · omega
theorem cut_bd (l : List Ar) (lo hi : Int) : (cutL l lo hi).length ≤ 2000 := by
  unfold cutL
  split
  · rename_i h
    have := around_bd l (rt_len (rt_iff.1 h)) lo hi
    rw [List.length_append]
    omega
  · exact Nat.zero_le _
theorem put_bd (l : List Ar) (a : Ar) : (putL l a).length ≤ 2000 := by
  unfold putL
  split
  · rename_i h
    rw [Bool.and_eq_true] at h
    have := around_bd l (rt_len (rt_iff.1 h.1)) a.s a.e
    have := joined_le (aroundA l a.s a.e ++ [a] ++ aroundB l a.s a.e)
    rw [List.length_append, List.length_append] at this
    have e : [a].length = 1 := rfl
    omega
  · exact Nat.zero_le _
theorem bd {n m : Nat} (h : n ≤ 2000) (hm : 2000 ≤ m) : n ≤ m := Nat.le_trans h hm
end Go.Proofs.Ytbcicjmepojlnaa.Eng
/- Covered, found, faults page by page; the reference's protecting; no condition but those typed. -/
namespace Go.Proofs.Ytbcicjmepojlnaa.Eng
open Go Go.RowKit
set_option autoImplicit false
set_option linter.unusedSimpArgs false
set_option linter.unusedVariables false
/-! ### Pages of right lists -/
theorem of_has {l : List Ar} (hl : Ok l) {q : Nat} (h0 : 16 ≤ q) (hq : q < 512) : (nthP (ofL l) q).is = true → Has l (4096 * q) (nthP (ofL l) q).t := fun h =>
  ((of_spec hl).1 _ _ (by omega)).1 ⟨q, rfl, h0, hq, h, rfl⟩
theorem has_of {l : List Ar} (hl : Ok l) {q : Nat} {t : At} (h : Has l (4096 * q) t) : (nthP (ofL l) q).is = true ∧ (nthP (ofL l) q).t = t := by
  obtain ⟨q', he, _, _, h1, h2⟩ := ((of_spec hl).1 _ _ (by omega)).2 h
  obtain rfl : q = q' := by omega
  exact ⟨h1, h2⟩
/-! ### A fault's reads, its bits -/
theorem mayS_rt {l : List Ar} (h : mayS l = true) : Rt l ∧ l.length ≤ 24 := by
  unfold mayS at h
  rw [Bool.and_eq_true, decide_eq_true_eq] at h
  exact ⟨rt_of h.1, by omega⟩
theorem rt_mayS {l : List Ar} (h : Rt l) (h2 : l.length ≤ 24) : mayS l = true := by
  unfold mayS
  rw [of_rt h]
  simp
  omega
end Go.Proofs.Ytbcicjmepojlnaa.Eng
/- The reference's protecting, page by page; no condition but those typed. -/
namespace Go.Proofs.Ytbcicjmepojlnaa.Eng
open Go Go.RowKit
set_option autoImplicit false
set_option linter.unusedSimpArgs false
set_option linter.unusedVariables false
/-! ### Reads and writes -/
theorem pro_q {a : Int} (h0 : 0 ≤ a) (h : a ≤ 2097152) : IntKind.i64.wrap (Int.tdiv a 4096) = (((a / 4096).toNat : Nat) : Int) ∧ (a / 4096).toNat ≤ 512 := by
  have e : w64 (Int.tdiv a 4096) = a / 4096 := by
    rw [tdiv_pos h0]
    exact w64_id (by unfold In64; omega)
  exact ⟨e.trans (by omega), by omega⟩
theorem pro_lt {x : Int} {m q1 : Nat} (w1 : x = (q1 : Int)) (h : decide ((m : Int) < x) = true) : m < q1 := by
  have := of_decide_eq_true h
  omega
theorem pro_ge {x : Int} {m q1 : Nat} (w1 : x = (q1 : Int)) (h : decide ((m : Int) < x) = false) : q1 ≤ m := by
  have := of_decide_eq_false h
  omega
/-! ### What comes about -/
theorem of_low {l : List Ar} (hl : Fm l) {q : Nat} (hq : q < 512) (h : q < 16) (hi : (nthP (ofL l) q).is = true) : False := by
  have e : nthP (ofL l) q = nthP noS q := (paint_not of_paints hq l noS hl noS_len (fun a ha hin => by have := (fo.1 (hl a ha)).lo; have := hin.1; omega)).1
  rw [e, noS_get] at hi
  cases hi
theorem good_of {l : List Ar} (hl : Rt l) : GoodS (ofL l) := ⟨ofL_len l, fun q hq hi => by
  by_cases h16 : 16 ≤ q
  · obtain ⟨a, ha, h1, h2⟩ := of_has hl.ok h16 hq hi
    rw [← h2]
    exact ⟨h16, ext_good (fo.1 (hl.1 a ha)) h1 (by omega)⟩
  · exact (of_low hl.1 hq (by omega) hi).elim⟩
/-! ### What is asked wrongly -/
theorem kept_no {was now : List Ar} {v : Int} (h : decide ((24 : Int) < (now.length : Int)) = true) : keptL was now = was ∧ keptN now v = errA 9 := ⟨if_pos h, if_pos h⟩
theorem kept_yes {was now : List Ar} {v : Int} (h : decide ((24 : Int) < (now.length : Int)) = false) : keptL was now = now ∧ keptN now v = okA v := ⟨if_neg (by rw [h]; simp), if_neg (by rw [h]; simp)⟩
section
variable {l : List Ar} {c : Cl} {q0 q1 k : Nat}
end
end Go.Proofs.Ytbcicjmepojlnaa.Eng
/- Contracts of functions (printed by genx.py of this work): what each hands back; condition: as its 'hside' says. -/
namespace Go.Proofs.Ytbcicjmepojlnaa.Eng
open Go Go.RowKit
set_option linter.unusedVariables false
set_option linter.unusedSimpArgs false
theorem b_rkept : Bodied Try.prog 123 := bodied Try.func123 rfl (by decide)
def F_rkept : FunX := fun κ avs => match avs with
  | [.lst was xwas, .spc s, .val (.c (.v (.int .i64 va)))] => some (κ _ (True), (.alt ((κ _ (decide ((24 : Int) < ((listS s).length : Int))))) (xwas) (fun x => .tup [.c x, .agg [.v (.int .i64 9), .v (.int .i64 0), .v (.int .i64 0), .v (.bool false), .v (.int .i64 0), .v (.int .i64 0)]]) ((κ _ (listS s))) (fun x => .tup [.c x, .agg [.v (.int .i64 0), .v (.int .i64 (κ _ (va))), .v (.int .i64 0), .v (.bool false), .v (.int .i64 0), .v (.int .i64 0)]])))
  | _ => none
set_option maxRecDepth 100000 in
set_option maxHeartbeats 4000000 in
theorem k_rkept (was : List Ar) (s : List Pg) (va : Int) (Awas : Option Addr) (cwas : Nat) (hside : True) (ns : s.length = 512) (w : World) (hwas : (Ent.rd Awas 6 was.length (encL was)).holds w) :
    Calls Try.prog 123 #[.slice Awas was.length cwas, (SV.agg (encS s)).den, (SV.c (.v (.int .i64 va))).den] w fun e w' => ∃ v H', e = .returned v.den ∧ IsX (.alt ((decide ((24 : Int) < ((listS s).length : Int)))) (.sl 200000 Awas was.length cwas) (fun x => .tup [.c x, .agg [.v (.int .i64 9), .v (.int .i64 0), .v (.int .i64 0), .v (.bool false), .v (.int .i64 0), .v (.int .i64 0)]]) ((listS s)) (fun x => .tup [.c x, .agg [.v (.int .i64 0), .v (.int .i64 (va)), .v (.int .i64 0), .v (.bool false), .v (.int .i64 0), .v (.int .i64 0)]])) v H' ∧ HSat w (fun _ => False) H' w' := by
  obtain ⟨κ, hκ⟩ : ∃ κ : Kp, κ = kid := ⟨_, rfl⟩
  have hH : HSat w (fun _ => False) (heapOf [(nilId, .rd none 1 0 []), (200000, .rd Awas 6 (κ _ was.length) (κ _ (encL was)))]) w := by
    subst hκ
    refine HSat.reads fun p hp => ?_
    simp only [List.mem_cons, List.not_mem_nil, or_false] at hp
    rcases hp with rfl | rfl
    · exact ⟨_, _, _, _, rfl, nil_holds w⟩
    · exact ⟨_, _, _, _, rfl, hwas⟩
  refine (callsP (n := 19) FTok [e_rlist hκ] mixed [] Try.func123 rfl (by kernel_rfl) #[.slice Awas was.length cwas, (SV.agg (encS s)).den, (SV.c (.v (.int .i64 va))).den] [(0, .c (.sl 200000 Awas (κ _ was.length) cwas)), (1, .agg (κ _ (encS s))), (2, .c (.v (.int .i64 va)))] _ w rfl [.tmp 6, .cell 7 31] rfl (by simp) (by subst hκ; simp [SV.den, C.den, kid]) hH (fun v H' => IsX (.alt ((κ _ (decide ((24 : Int) < ((listS s).length : Int))))) (.sl 200000 Awas (κ _ was.length) cwas) (fun x => .tup [.c x, .agg [.v (.int .i64 9), .v (.int .i64 0), .v (.int .i64 0), .v (.bool false), .v (.int .i64 0), .v (.int .i64 0)]]) ((κ _ (listS s))) (fun x => .tup [.c x, .agg [.v (.int .i64 0), .v (.int .i64 (κ _ (va))), .v (.int .i64 0), .v (.bool false), .v (.int .i64 0), .v (.int .i64 0)]])) v H') hκ ?_).mono ?_
  rotate_left
  · subst hκ; intro e w' h; exact h
  intro P' hP'
  cbv
  repeat' (first | refine And.intro ?_ ?_ | (intro _; cbv) | (refine tst_mk (fun h => ?_) (fun h => ?_) <;> cbv) | (refine LookX.nil ?_; cbv) | (refine LookX.auto hκ ?_; cbv) | (refine LookN.mk' (x := κ _ (encS s)) (by subst hκ; delta kid at *; exact whole_take ns) ?_; cbv))
  all_goals (try (show _ = true; subst hκ; delta kid; (have ho := encS_ok (s); generalize encS (s) = xs at ho ⊢; cases xs <;> exact ho)))
  all_goals (try (show Side _; refine ⟨?_⟩; subst hκ; delta kid at *; first | exact rfl | exact trivial | exact ⟨rfl, rfl, .inl rfl⟩ | exact ns | ((try dsimp only at *); (try simp only [setTo_len, noS_len, List.length_append, List.length_cons, List.length_nil, List.length_map, and_self, true_or, or_true, eq_self, true_and, and_true, Nat.zero_add, Nat.add_zero]); (first | done | omega); done)))
  all_goals (try (exact ⟨by subst hκ; exact ns⟩))
  all_goals (clear hH; subst hκ; delta kid at *; (try dsimp only at *))
  all_goals (show IsX _ _ _; first | exact IsX.sameM rfl (fun x => rfl) (by with_reducible assumption) | exact IsX.newM rfl rfl (fun x => rfl) (by with_reducible assumption) rfl)
def e_rkept {κ : Kp} (hκ : κ = kid) : ESpec Try.prog := fnES [.list, .space, .flat] b_rkept F_rkept hκ fun avs p r hF hp => by
  unfold F_rkept at hF
  split at hF
  case h_2 => cases hF
  rename_i was xwas s va
  simp only [kid, Option.some.injEq, Prod.mk.injEq] at hF
  obtain ⟨rfl, rfl⟩ := hF
  refine ⟨fun x y h => by simp [SV.den, SV.den0, h], fun vs w hR => ?_⟩
  obtain ⟨iwas, Awas, cwas, vs0, rfl, rfl, hwas, hR⟩ := hR
  obtain ⟨vs1, rfl, ns, hR⟩ := hR
  obtain ⟨vs2, rfl, hR⟩ := hR
  have hR' : vs2 = [] := hR
  subst hR'
  exact (k_rkept was s va Awas cwas hp ns w hwas).mono fun e w' ⟨v, H', h1, h2, h3⟩ => ⟨v, H', h1, h2.swap rfl, h3⟩
end Go.Proofs.Ytbcicjmepojlnaa.Eng
/- What the laws of layer 11 come to, in plain words; no condition but those typed. -/
namespace Go.Proofs.Ytbcicjmepojlnaa.Eng
open Go Go.RowKit
set_option autoImplicit false
set_option linter.unusedSimpArgs false
set_option linter.unusedVariables false
theorem rt_take {l : List Ar} (h : Rt l) (n : Nat) : Rt (l.take n) := ⟨fun a ha => h.1 a (List.mem_of_mem_take ha), h.2.sublist (List.take_sublist n l)⟩
theorem some_rt (l : List Ar) : Rt (someL l) := rt_take (made_rt l) 24
theorem some_may (l : List Ar) : mayS (someL l) = true := rt_mayS (some_rt l) (someL_le l)
theorem eqN_cells (x : An) : (x.er == x.er && (x.v == x.v && (x.t.p == x.t.p && (x.t.sh == x.t.sh && (x.t.b == x.t.b && (x.t.o == x.t.o && true)))))) = true := eqN_self x
/-! ### A protected list -/
/-! ### A fault at a page that is there -/
/-! ### ProtectAllows -/
/-! ### ProtectHalves -/
/-! ### ProtectBack -/
/-! ### Numbers that the laws reckon -/
abbrev hvN (q : Int) : Int := IntKind.i64.wrap (2 + IntKind.i64.wrap (Int.tmod q 40))
abbrev hvK (q r : Int) : Int := IntKind.i64.wrap (1 + Int.tmod (IntKind.i64.wrap r) (IntKind.i64.wrap (hvN q - 1)))
abbrev hvA (q : Int) : Int := IntKind.i64.wrap (4096 * IntKind.i64.wrap (16 + IntKind.i64.wrap (Int.tmod q 60)))
abbrev hvP (q : Int) : Int := IntKind.i64.wrap (Int.tmod q 8)
abbrev hv1 (q1 q2 q3 q4 : Int) : Cl := ⟨0, hvA q1, IntKind.i64.wrap (4096 * hvN q2), 0, 0, hvP q4, 0, 0, 0⟩
abbrev hv3 (q1 q2 q3 q4 : Int) : Cl := ⟨0, IntKind.i64.wrap (hvA q1 + IntKind.i64.wrap (4096 * hvK q2 q3)), IntKind.i64.wrap (4096 * IntKind.i64.wrap (hvN q2 - hvK q2 q3)), 0, 0, hvP q4, 0, 0, 0⟩
end Go.Proofs.Ytbcicjmepojlnaa.Eng
/- Contracts of functions (printed by genx.py of this work): what each hands back; condition: as its 'hside' says. -/
namespace Go.Proofs.Ytbcicjmepojlnaa.Eng
open Go Go.RowKit
set_option linter.unusedVariables false
set_option linter.unusedSimpArgs false
theorem b_failed : Bodied Try.prog 127 := bodied Try.func127 rfl (by decide)
def F_failed : FunX := fun κ avs => match avs with
  | [.lst l xl, .val (.c (.v (.int .i64 er)))] => some (κ _ (l.length ≤ 300000), (.row 53 6 ((κ _ ((l).length))) ((κ _ (encL (l)))) (fun x => .tup [.c x, .agg [.v (.int .i64 (κ _ (er))), .v (.int .i64 0), .v (.int .i64 0), .v (.bool false), .v (.int .i64 0), .v (.int .i64 0)]])))
  | _ => none
set_option maxRecDepth 100000 in
set_option maxHeartbeats 4000000 in
theorem k_failed (l : List Ar) (er : Int) (Al : Option Addr) (cl : Nat) (hside : l.length ≤ 300000) (w : World) (hl : (Ent.rd Al 6 l.length (encL l)).holds w) :
    Calls Try.prog 127 #[.slice Al l.length cl, (SV.c (.v (.int .i64 er))).den] w fun e w' => ∃ v H', e = .returned v.den ∧ IsX (.row 53 6 (((l).length)) ((encL (l))) (fun x => .tup [.c x, .agg [.v (.int .i64 (er)), .v (.int .i64 0), .v (.int .i64 0), .v (.bool false), .v (.int .i64 0), .v (.int .i64 0)]])) v H' ∧ HSat w (fun _ => False) H' w' := by
  obtain ⟨κ, hκ⟩ : ∃ κ : Kp, κ = kid := ⟨_, rfl⟩
  have hH : HSat w (fun _ => False) (heapOf [(nilId, .rd none 1 0 []), (200000, .rd Al 6 (κ _ l.length) (κ _ (encL l)))]) w := by
    subst hκ
    refine HSat.reads fun p hp => ?_
    simp only [List.mem_cons, List.not_mem_nil, or_false] at hp
    rcases hp with rfl | rfl
    · exact ⟨_, _, _, _, rfl, nil_holds w⟩
    · exact ⟨_, _, _, _, rfl, hl⟩
  refine (callsP (n := 10) FTok [e_clone hκ] mixed [] Try.func127 rfl (by kernel_rfl) #[.slice Al l.length cl, (SV.c (.v (.int .i64 er))).den] [(0, .c (.sl 200000 Al (κ _ l.length) cl)), (1, .c (.v (.int .i64 er)))] _ w rfl [.tmp 4, .cell 5 31] rfl (by simp) (by subst hκ; simp [SV.den, C.den, kid]) hH (fun v H' => IsX (.row 53 6 ((κ _ ((l).length))) ((κ _ (encL (l)))) (fun x => .tup [.c x, .agg [.v (.int .i64 (κ _ (er))), .v (.int .i64 0), .v (.int .i64 0), .v (.bool false), .v (.int .i64 0), .v (.int .i64 0)]])) v H') hκ ?_).mono ?_
  rotate_left
  · subst hκ; intro e w' h; exact h
  intro P' hP'
  cbv
  repeat' (first | refine And.intro ?_ ?_ | (intro _; cbv) | (refine tst_mk (fun h => ?_) (fun h => ?_) <;> cbv) | (refine LookX.nil ?_; cbv) | (refine LookX.auto hκ ?_; cbv))
  all_goals (try (show Side _; refine ⟨?_⟩; subst hκ; delta kid at *; first | exact rfl | exact trivial | exact ⟨rfl, rfl, .inl rfl⟩ | ((try dsimp only at *); (try simp only [setTo_len, noS_len, List.length_append, List.length_cons, List.length_nil, List.length_map, and_self, true_or, or_true, eq_self, true_and, and_true, Nat.zero_add, Nat.add_zero]); (first | done | omega); done)))
  all_goals (clear hH; subst hκ; delta kid at *; (try dsimp only at *))
  exact IsX.rowM rfl rfl (fun x => rfl) rfl
def e_failed {κ : Kp} (hκ : κ = kid) : ESpec Try.prog := fnES [.list, .flat] b_failed F_failed hκ fun avs p r hF hp => by
  unfold F_failed at hF
  split at hF
  case h_2 => cases hF
  rename_i l xl er
  simp only [kid, Option.some.injEq, Prod.mk.injEq] at hF
  obtain ⟨rfl, rfl⟩ := hF
  refine ⟨fun x y h => by simp [SV.den, SV.den0, h], fun vs w hR => ?_⟩
  obtain ⟨il, Al, cl, vs0, rfl, rfl, hl, hR⟩ := hR
  obtain ⟨vs1, rfl, hR⟩ := hR
  have hR' : vs1 = [] := hR
  subst hR'
  exact k_failed l er Al cl hp w hl
theorem b_kept : Bodied Try.prog 117 := bodied Try.func117 rfl (by decide)
def F_kept : FunX := fun κ avs => match avs with
  | [.lst was xwas, .lst now xnow, .val (.c (.v (.int .i64 va)))] => some (κ _ (was.length ≤ 300000 ∧ now.length ≤ 300000), (.row 53 6 ((κ _ ((keptL was now).length))) ((κ _ (encL (keptL was now)))) (fun x => .tup [.c x, .agg [.v (.int .i64 (κ _ ((keptN now va).er))), .v (.int .i64 (κ _ ((keptN now va).v))), .v (.int .i64 (κ _ ((keptN now va).t.p))), .v (.bool (κ _ ((keptN now va).t.sh))), .v (.int .i64 (κ _ ((keptN now va).t.b))), .v (.int .i64 (κ _ ((keptN now va).t.o)))]])))
  | _ => none
set_option maxRecDepth 100000 in
set_option maxHeartbeats 4000000 in
theorem k_kept (was : List Ar) (now : List Ar) (va : Int) (Awas : Option Addr) (cwas : Nat) (Anow : Option Addr) (cnow : Nat) (hside : was.length ≤ 300000 ∧ now.length ≤ 300000) (w : World) (hwas : (Ent.rd Awas 6 was.length (encL was)).holds w) (hnow : (Ent.rd Anow 6 now.length (encL now)).holds w) :
    Calls Try.prog 117 #[.slice Awas was.length cwas, .slice Anow now.length cnow, (SV.c (.v (.int .i64 va))).den] w fun e w' => ∃ v H', e = .returned v.den ∧ IsX (.row 53 6 (((keptL was now).length)) ((encL (keptL was now))) (fun x => .tup [.c x, .agg [.v (.int .i64 ((keptN now va).er)), .v (.int .i64 ((keptN now va).v)), .v (.int .i64 ((keptN now va).t.p)), .v (.bool ((keptN now va).t.sh)), .v (.int .i64 ((keptN now va).t.b)), .v (.int .i64 ((keptN now va).t.o))]])) v H' ∧ HSat w (fun _ => False) H' w' := by
  obtain ⟨κ, hκ⟩ : ∃ κ : Kp, κ = kid := ⟨_, rfl⟩
  have hH : HSat w (fun _ => False) (heapOf [(nilId, .rd none 1 0 []), (200000, .rd Awas 6 (κ _ was.length) (κ _ (encL was))), (200010, .rd Anow 6 (κ _ now.length) (κ _ (encL now)))]) w := by
    subst hκ
    refine HSat.reads fun p hp => ?_
    simp only [List.mem_cons, List.not_mem_nil, or_false] at hp
    rcases hp with rfl | rfl | rfl
    · exact ⟨_, _, _, _, rfl, nil_holds w⟩
    · exact ⟨_, _, _, _, rfl, hwas⟩
    · exact ⟨_, _, _, _, rfl, hnow⟩
  refine (callsP (n := 19) FTok [e_clone hκ, e_failed hκ] mixed [] Try.func117 rfl (by kernel_rfl) #[.slice Awas was.length cwas, .slice Anow now.length cnow, (SV.c (.v (.int .i64 va))).den] [(0, .c (.sl 200000 Awas (κ _ was.length) cwas)), (1, .c (.sl 200010 Anow (κ _ now.length) cnow)), (2, .c (.v (.int .i64 va)))] _ w rfl [.tmp 6, .cell 7 31] rfl (by simp) (by subst hκ; simp [SV.den, C.den, kid]) hH (fun v H' => IsX (.row 53 6 ((κ _ ((keptL was now).length))) ((κ _ (encL (keptL was now)))) (fun x => .tup [.c x, .agg [.v (.int .i64 (κ _ ((keptN now va).er))), .v (.int .i64 (κ _ ((keptN now va).v))), .v (.int .i64 (κ _ ((keptN now va).t.p))), .v (.bool (κ _ ((keptN now va).t.sh))), .v (.int .i64 (κ _ ((keptN now va).t.b))), .v (.int .i64 (κ _ ((keptN now va).t.o)))]])) v H') hκ ?_).mono ?_
  rotate_left
  · subst hκ; intro e w' h; exact h
  intro P' hP'
  cbv
  repeat' (first | refine And.intro ?_ ?_ | (intro _; cbv) | (refine tst_mk (fun h => ?_) (fun h => ?_) <;> cbv) | (refine LookX.nil ?_; cbv) | (refine LookX.auto hκ ?_; cbv))
  all_goals (try (show Side _; refine ⟨?_⟩; subst hκ; delta kid at *; first | exact rfl | exact trivial | exact ⟨rfl, rfl, .inl rfl⟩ | ((try dsimp only at *); (try simp only [setTo_len, noS_len, List.length_append, List.length_cons, List.length_nil, List.length_map, and_self, true_or, or_true, eq_self, true_and, and_true, Nat.zero_add, Nat.add_zero]); (first | done | omega); done)))
  all_goals (clear hH; subst hκ; delta kid at *; (try dsimp only at *))
  all_goals (show IsX _ _ _; refine IsX.rowM rfl rfl (fun x => ?_) ?_ <;> (try simp only [keptL, keptN, errA, okA, noAt, *, Bool.or_true, Bool.true_or, Bool.or_false, Bool.false_or, Bool.and_true, Bool.true_and, Bool.and_false, Bool.false_and, Bool.not_true, Bool.not_false, if_true, if_false, Bool.false_eq_true]) <;> (try rfl))
def e_kept {κ : Kp} (hκ : κ = kid) : ESpec Try.prog := fnES [.list, .list, .flat] b_kept F_kept hκ fun avs p r hF hp => by
  unfold F_kept at hF
  split at hF
  case h_2 => cases hF
  rename_i was xwas now xnow va
  simp only [kid, Option.some.injEq, Prod.mk.injEq] at hF
  obtain ⟨rfl, rfl⟩ := hF
  refine ⟨fun x y h => by simp [SV.den, SV.den0, h], fun vs w hR => ?_⟩
  obtain ⟨iwas, Awas, cwas, vs0, rfl, rfl, hwas, hR⟩ := hR
  obtain ⟨inow, Anow, cnow, vs1, rfl, rfl, hnow, hR⟩ := hR
  obtain ⟨vs2, rfl, hR⟩ := hR
  have hR' : vs2 = [] := hR
  subst hR'
  exact k_kept was now va Awas cwas Anow cnow hp w hwas hnow
theorem b_rmay : Bodied Try.prog 74 := bodied Try.func74 rfl (by decide)
def F_rmay : FunX := fun κ avs => match avs with
  | [.lst l xl] => some (κ _ (l.length ≤ 300000), (.val (.c (.v (.bool (κ _ (mayS l)))))))
  | _ => none
set_option maxRecDepth 100000 in
set_option maxHeartbeats 4000000 in
theorem k_rmay (l : List Ar) (Al : Option Addr) (cl : Nat) (hside : l.length ≤ 300000) (w : World) (hl : (Ent.rd Al 6 l.length (encL l)).holds w) :
    Calls Try.prog 74 #[.slice Al l.length cl] w fun e w' => ∃ v H', e = .returned v.den ∧ IsX (.val (.c (.v (.bool (mayS l))))) v H' ∧ HSat w (fun _ => False) H' w' := by
  obtain ⟨κ, hκ⟩ : ∃ κ : Kp, κ = kid := ⟨_, rfl⟩
  have hH : HSat w (fun _ => False) (heapOf [(nilId, .rd none 1 0 []), (200000, .rd Al 6 (κ _ l.length) (κ _ (encL l)))]) w := by
    subst hκ
    refine HSat.reads fun p hp => ?_
    simp only [List.mem_cons, List.not_mem_nil, or_false] at hp
    rcases hp with rfl | rfl
    · exact ⟨_, _, _, _, rfl, nil_holds w⟩
    · exact ⟨_, _, _, _, rfl, hl⟩
  refine (callsP (n := 10) FTok [e_rright hκ] mixed [] Try.func74 rfl (by kernel_rfl) #[.slice Al l.length cl] [(0, .c (.sl 200000 Al (κ _ l.length) cl))] _ w rfl [.tmp 2] rfl (by simp) (by subst hκ; simp [SV.den, C.den, kid]) hH (fun v H' => IsX (.val (.c (.v (.bool (κ _ (mayS l)))))) v H') hκ ?_).mono ?_
  rotate_left
  · subst hκ; intro e w' h; exact h
  intro P' hP'
  cbv
  repeat' (first | refine And.intro ?_ ?_ | (intro _; cbv) | (refine tst_mk (fun h => ?_) (fun h => ?_) <;> cbv) | (refine LookX.nil ?_; cbv) | (refine LookX.auto hκ ?_; cbv))
  all_goals (try (show Side _; refine ⟨?_⟩; subst hκ; delta kid at *; first | exact rfl | exact trivial | exact ⟨rfl, rfl, .inl rfl⟩ | ((try dsimp only at *); (try simp only [setTo_len, noS_len, List.length_append, List.length_cons, List.length_nil, List.length_map, and_self, true_or, or_true, eq_self, true_and, and_true, Nat.zero_add, Nat.add_zero]); (first | done | omega); done)))
  all_goals (clear hH; subst hκ; delta kid at *; (try dsimp only at *))
  all_goals (try (exact ⟨trivial⟩))
  all_goals (try (exact ⟨by decide⟩))
  all_goals (show IsX _ _ _; refine IsX.val_ ?_; simp only [SV.den, SV.den0, C.den, List.map_cons, List.map_nil, mayS, GT.gt, GE.ge]; (try simp only [*, Bool.or_true, Bool.true_or, Bool.or_false, Bool.false_or, Bool.and_true, Bool.true_and, Bool.and_false, Bool.false_and, Bool.not_true, Bool.not_false, if_true, if_false, Bool.false_eq_true]); (first | done | rfl | (exfalso; simp_all; done) | skip))
def e_rmay {κ : Kp} (hκ : κ = kid) : ESpec Try.prog := fnES [.list] b_rmay F_rmay hκ fun avs p r hF hp => by
  unfold F_rmay at hF
  split at hF
  case h_2 => cases hF
  rename_i l xl
  simp only [kid, Option.some.injEq, Prod.mk.injEq] at hF
  obtain ⟨rfl, rfl⟩ := hF
  refine ⟨trivial, fun vs w hR => ?_⟩
  obtain ⟨il, Al, cl, vs0, rfl, rfl, hl, hR⟩ := hR
  have hR' : vs0 = [] := hR
  subst hR'
  exact k_rmay l Al cl hp w hl
end Go.Proofs.Ytbcicjmepojlnaa.Eng
