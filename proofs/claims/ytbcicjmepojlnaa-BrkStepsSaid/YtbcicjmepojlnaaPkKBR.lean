/- Texts of this work, laid together: symbolic execution over the model, contracts of the program's functions, what they come to; conditions: as each says. -/
import Derived.Test.YtbcicjmepojlnaaPkKBN
import Derived.Test.YtbcicjmepojlnaaPkKBQ
/- The break step by step: what a round comes to; no condition but those typed. -/
namespace Go.Proofs.Ytbcicjmepojlnaa.Eng
open Go Go.RowKit
set_option autoImplicit false
set_option linter.unusedSimpArgs false
set_option linter.unusedVariables false
set_option linter.unusedSectionVars false
def encW (l : List Int) : List C := l.flatMap fun n => [.v (.int .i64 n)]
def nthW (l : List Int) (i : Nat) : Int := l.getD i 0
theorem nthW_get {l : List Int} {i : Nat} (h : i < l.length) : l[i]? = some (nthW l i) := by
  unfold nthW
  rw [List.getD_eq_getElem?_getD, List.getElem?_eq_getElem h]
  rfl
theorem wa_v {l : List Int} {i : Nat} (h : i < l.length) : (encW l)[((i : Nat) : Int).toNat * 1]? = some (.v (.int .i64 (nthW l i))) := by
  rw [Int.toNat_natCast]
  exact enc_get (f := fun n : Int => [C.v (.int .i64 n)]) (z := 1) (fun _ => rfl) l i _ 0 (nthW_get h) (by decide)
theorem wa_ix {l : List Int} {i : Nat} (h : i < l.length) : 0 < 1 ∧ 0 ≤ ((i : Nat) : Int) ∧ ((i : Nat) : Int) < (l.length : Int) := by omega
def stN (m w : Int) : Int := if brkR w = true then w else m
theorem st_ok {m w : Int} (hm : BrOk m) : BrOk (stN m w) := by
  unfold stN
  split
  · rename_i h
    exact (br_iff w).1 h
  · exact hm
theorem step_may {m : Int} (hm : BrOk m) : mayS (stepP m) = true := by
  obtain ⟨s1, s2⟩ := step_rt hm
  exact rt_mayS s1 (by omega)
theorem st_all {m : Int} (hm : BrOk m) (w : Int) : brkL (stepP m) m w = stepP (stN m w) ∧ brkV (stepP m) m w = stN m w ∧ ((brkN (stepP m) m w).er == 0) = ((w == 0) || brkR w) := by
  have hmay := step_may hm
  have hb := (br_iff m).2 hm
  cases hw : (w == 0) with
  | true =>
    obtain ⟨_, k1, k2, k3, _⟩ := bk_0 hmay hb hw
    have hn : brkR w = false := by rw [beq_yes hw]; decide
    unfold stN
    rw [hn, if_neg (by simp), k1, k2, k3]
    exact ⟨rfl, rfl, rfl⟩
  | false =>
    cases hr : brkR w with
    | true =>
      obtain ⟨e1, e2⟩ := step_move hm ((br_iff w).1 hr)
      obtain ⟨g1, g2, g3⟩ := bk_go hmay hb hw e1
      have hd : decide ((24 : Int) < ((stepP w).length : Int)) = false := by
        have := (step_rt ((br_iff w).1 hr)).2
        rw [decide_eq_false_iff_not]
        omega
      rw [e2] at g1 g2 g3
      rw [(kept_yes (was := stepP m) hd).2] at g1 g3
      rw [(kept_yes (v := 0) (was := stepP m) hd).1] at g2
      unfold stN
      rw [hr, if_pos rfl, g1, g2, g3]
      exact ⟨rfl, rfl, rfl⟩
    | false =>
      obtain ⟨k1, k2, k3, _⟩ := bk_bad hmay hb (bk_4 hmay hb hw hr) (by decide)
      unfold stN
      rw [hr, if_neg (by simp), k1, k2, k3]
      exact ⟨rfl, rfl, rfl⟩
abbrev stG (v : Int) : Int := IntKind.i64.wrap (IntKind.i64.wrap (Int.tdiv (IntKind.i64.wrap (v + 4095)) 4096) - 16)
theorem st_pages {v : Int} (h : BrOk v) : stG v = endB v - 16 ∧ 16 ≤ endB v ∧ endB v ≤ 80 ∧ IntKind.i64.wrap (4096 * IntKind.i64.wrap (16 + stG v)) = 4096 * endB v := by
  obtain ⟨u1, u2, u3⟩ := up_end h
  have h1 := h.lo
  have h2 := h.hi
  have e0 : IntKind.i64.wrap (v + 4095) = v + 4095 := w64_id (by unfold In64; omega)
  have e1 : IntKind.i64.wrap (Int.tdiv (v + 4095) 4096) = endB v := by rw [Int.tdiv_eq_ediv_of_nonneg (by omega)]; exact w64_id (by unfold endB at *; unfold In64; omega)
  have e2 : IntKind.i64.wrap (endB v - 16) = endB v - 16 := w64_id (by unfold In64; omega)
  have e3 : stG v = endB v - 16 := by unfold stG; rw [e0, e1, e2]
  have e4 : IntKind.i64.wrap (16 + (endB v - 16)) = endB v := (w64_id (by unfold In64; omega)).trans (by omega)
  have e5 : IntKind.i64.wrap (4096 * endB v) = 4096 * endB v := w64_id (by unfold In64; omega)
  rw [e3, e4, e5]
  exact ⟨rfl, u2, u3, rfl⟩
theorem st_0 {v : Int} (h : BrOk v) (hp : (stG v == 0) = true) : stepP v = [] := by
  obtain ⟨k1, k2, k3, k4⟩ := st_pages h
  have hp := beq_yes hp
  unfold stepP
  rw [if_pos (by omega)]
theorem st_1 {v : Int} (h : BrOk v) (hp : (stG v == 0) = false) : stepP v = [⟨65536, IntKind.i64.wrap (4096 * IntKind.i64.wrap (16 + stG v)), 3, false, 0, 0⟩] ∧ decide (0 < stG v) = true := by
  obtain ⟨k1, k2, k3, k4⟩ := st_pages h
  have hp := beq_no hp
  rw [k4]
  unfold stepP
  rw [if_neg (by omega)]
  exact ⟨rfl, by rw [decide_eq_true_eq]; omega⟩
section
variable {m w : Int} (hm : BrOk m)
include hm
theorem sf_1 (h : (w != 0) = true) : (!(brkR w == ((brkN (stepP m) m w).er == 0))) = false := by
  obtain ⟨e1, e2, e3⟩ := st_all hm w
  have hw : (w == 0) = false := by unfold bne at h; rw [Bool.not_eq_true'] at h; exact h
  rw [e3, hw, Bool.false_or]
  simp
theorem sf_2 (h : brkR w = true) : (brkV (stepP m) m w != w) = false := by
  obtain ⟨e1, e2, e3⟩ := st_all hm w
  rw [e2]
  unfold stN
  rw [if_pos h]
  simp
theorem sf_3 (h : brkR w = false) : (brkV (stepP m) m w != m) = false := by
  obtain ⟨e1, e2, e3⟩ := st_all hm w
  rw [e2]
  unfold stN
  rw [if_neg (by rw [h]; simp)]
  simp
theorem sf_4 (h : (stG (brkV (stepP m) m w) == 0) = true) : decide ((0 : Int) < ((brkL (stepP m) m w).length : Int)) = false := by
  obtain ⟨e1, e2, e3⟩ := st_all hm w
  rw [e2] at h
  rw [e1, st_0 (st_ok hm) h]
  rfl
theorem sf_0 (h : decide (0 < stG (brkV (stepP m) m w)) = true) : (stG (brkV (stepP m) m w) == 0) = false := by
  have h := of_decide_eq_true h
  rw [beq_eq_false_iff_ne]
  omega
theorem sf_5 (h : decide (0 < stG (brkV (stepP m) m w)) = true) : (((brkL (stepP m) m w).length : Int) != 1) = false := by
  have h2 := sf_0 hm h
  obtain ⟨e1, e2, e3⟩ := st_all hm w
  rw [e2] at h2
  rw [e1, (st_1 (st_ok hm) h2).1]
  rfl
theorem sf_6 (h : decide (0 < stG (brkV (stepP m) m w)) = true) : (!((nthA (brkL (stepP m) m w) 0).s == 65536 && ((nthA (brkL (stepP m) m w) 0).e == IntKind.i64.wrap (4096 * IntKind.i64.wrap (16 + stG (brkV (stepP m) m w))) && ((nthA (brkL (stepP m) m w) 0).p == 3 && ((nthA (brkL (stepP m) m w) 0).sh == false && ((nthA (brkL (stepP m) m w) 0).b == 0 && ((nthA (brkL (stepP m) m w) 0).o == 0 && true))))))) = false := by
  have h2 := sf_0 hm h
  obtain ⟨e1, e2, e3⟩ := st_all hm w
  rw [e2] at h2 ⊢
  have h3 := (st_1 (st_ok hm) h2).1
  generalize IntKind.i64.wrap (4096 * IntKind.i64.wrap (16 + stG (stN m w))) = E at h3 ⊢
  rw [e1, h3]
  show (!((65536 : Int) == 65536 && (E == E && ((3 : Int) == 3 && (false == false && ((0 : Int) == 0 && ((0 : Int) == 0 && true))))))) = false
  simp
theorem sf_7 (h : (stG (brkV (stepP m) m w) == 0) = true) (h2 : decide (0 < stG (brkV (stepP m) m w)) = true) : False := by
  have h3 := sf_0 hm h2
  rw [h] at h3
  cases h3
end
theorem st_take {L : List Ar} (h : ((L.length : Int) != 1) = false) : takeN (encL L) (((0 : Int)).toNat * 6) 6 = some [.v (.int .i64 (nthA L 0).s), .v (.int .i64 (nthA L 0).e), .v (.int .i64 (nthA L 0).p), .v (.bool (nthA L 0).sh), .v (.int .i64 (nthA L 0).b), .v (.int .i64 (nthA L 0).o)] := by
  have h := bne_no h
  exact la_take (i := 0) (by omega)
theorem st_ix {L : List Ar} (h : ((L.length : Int) != 1) = false) : 0 < 6 ∧ 0 ≤ (0 : Int) ∧ (0 : Int) < (L.length : Int) := by
  have h := bne_no h
  omega
end Go.Proofs.Ytbcicjmepojlnaa.Eng
/- Contracts of functions (printed by genx.py of this work): what each hands back; condition: as its 'hside' says. -/
namespace Go.Proofs.Ytbcicjmepojlnaa.Eng
open Go Go.RowKit
set_option linter.unusedVariables false
set_option linter.unusedSimpArgs false
set_option maxRecDepth 100000 in
set_option maxHeartbeats 4000000 in
theorem k_brkSteps (ws : List Int) (Aws : Option Addr) (cws : Nat) (hside : True) (w : World) (hws : (Ent.rd Aws 1 ws.length (encW ws)).holds w) :
    Calls Try.prog 21 #[.slice Aws ws.length cws] w fun e w' => ∃ v H', e = .returned v.den ∧ IsX (.val (.c (.v (.bool true)))) v H' ∧ HSat w (fun _ => False) H' w' := by
  obtain ⟨κ, hκ⟩ : ∃ κ : Kp, κ = kid := ⟨_, rfl⟩
  have hH : HSat w (fun _ => False) (heapOf [(nilId, .rd none 1 0 []), (200000, .rd Aws 1 (κ _ ws.length) (κ _ (encW ws)))]) w := by
    subst hκ
    refine HSat.reads fun p hp => ?_
    simp only [List.mem_cons, List.not_mem_nil, or_false] at hp
    rcases hp with rfl | rfl
    · exact ⟨_, _, _, _, rfl, nil_holds w⟩
    · exact ⟨_, _, _, _, rfl, hws⟩
  refine (callsP (n := 106) FTok [e_awake13 hκ, e_bmove hκ, e_rbright hκ] mixed [] Try.func21 rfl (by kernel_rfl) #[.slice Aws ws.length cws] [(0, .c (.sl 200000 Aws (κ _ ws.length) cws))] _ w rfl [.tmp 2] rfl (by simp) (by subst hκ; simp [SV.den, C.den, kid]) hH (fun v H' => IsX (.val (.c (.v (.bool true)))) v H') hκ ?_).mono ?_
  rotate_left
  · subst hκ; intro e w' h; exact h
  intro P' hP'
  cbv
  repeat' (first | refine And.intro ?_ ?_ | (intro _; cbv) | (refine tst_mk (fun h => ?_) (fun h => ?_) <;> cbv) | (refine LookX.nil ?_; cbv) | (refine LookX.auto hκ ?_; cbv))
  all_goals (try (show IsX _ _ _; subst hκ; exact IsX.val_ rfl))
  all_goals (try (exact ⟨by subst hκ; exact trivial⟩))
  have hn : ws.length ≤ 20 := by subst hκ; delta kid at h; have h2 : ¬ (20 : Int) < (ws.length : Int) := of_decide_eq_false h; omega
  clear h
  refine loopP hP' FTok [e_bmove hκ, e_rbright hκ] mixed [0] (σ := Nat × {m : Int // BrOk m} × Option Addr × Nat) (fun q => [(3, .c (.sl 300000 q.2.2.1 (κ _ (stepP q.2.1.1).length) q.2.2.2)), (4, .c (.v (.int .i64 (κ _ q.2.1.1)))), (5, .c (.v (.int .i64 (κ _ ((q.1 : Nat) : Int)))))]) (fun q => [(200000, .rd Aws 1 (κ _ ws.length) (κ _ (encW ws))), (300000, .row q.2.2.1 q.2.2.2 53 6 (κ _ (stepP q.2.1.1).length) (κ _ (encL (stepP q.2.1.1))))]) (fun q => ws.length - q.1) (0, ⟨65536, ⟨by decide, by decide⟩⟩, none, 0) [200000, 999999] ?_ (by decide) ?_ hκ ?_
  · cbv
    all_goals (subst hκ; delta kid; repeat' (first | exact rfl | exact trivial | refine And.intro ?_ ?_))
  · cbv
    all_goals (subst hκ; delta kid; repeat' (first | exact rfl | exact trivial | refine And.intro ?_ ?_))
  rintro ⟨i, ⟨m, hm⟩, A2, c2⟩
  cbv
  refine tst_mk (fun h => ?_) (fun h => ?_)
  · have hx : i < ws.length := by subst hκ; delta kid at h; have h2 : (i : Int) < (ws.length : Int) := of_decide_eq_true h; omega
    clear h
    obtain ⟨e1, e2, e3⟩ := st_all hm (nthW ws i)
    cbv
    repeat' (first | refine And.intro ?_ ?_ | (intro _; cbv) | (refine tst_mk (fun h => ?_) (fun h => ?_) <;> first | (exfalso; subst hκ; delta kid at h; exact absurd h (by decide)) | (exfalso; subst hκ; delta kid at *; cases (h.symm.trans (by with_reducible assumption : _ = false)); done) | (exfalso; subst hκ; delta kid at *; cases (h.symm.trans (by with_reducible assumption : _ = true)); done) | (exfalso; subst hκ; delta kid at *; exact (beq_no (by with_reducible assumption)) (bne_no h)) | (exfalso; subst hκ; delta kid at *; exact (beq_no h) (beq_yes (by with_reducible assumption))) | (exfalso; subst hκ; delta kid at *; exact (beq_no (by with_reducible assumption)) (beq_yes h)) | cbv) | (refine LookX.nil ?_; cbv) | (refine LookX.auto hκ ?_; cbv) | (refine LookR.mk' (x := .v (.int .i64 (κ _ (nthW ws i)))) (by subst hκ; delta kid at *; exact wa_v hx) ?_; cbv) | (refine LookN.mk' (x := [.v (.int .i64 (κ _ (nthA (brkL (stepP m) m (nthW ws i)) 0).s)), .v (.int .i64 (κ _ (nthA (brkL (stepP m) m (nthW ws i)) 0).e)), .v (.int .i64 (κ _ (nthA (brkL (stepP m) m (nthW ws i)) 0).p)), .v (.bool (κ _ (nthA (brkL (stepP m) m (nthW ws i)) 0).sh)), .v (.int .i64 (κ _ (nthA (brkL (stepP m) m (nthW ws i)) 0).b)), .v (.int .i64 (κ _ (nthA (brkL (stepP m) m (nthW ws i)) 0).o))]) (by subst hκ; delta kid at *; exact st_take (by with_reducible assumption)) ?_; cbv))
    all_goals (try (show Side _; refine ⟨?_⟩; subst hκ; delta kid at *; first | exact rfl | exact trivial | exact ⟨rfl, rfl, .inl rfl⟩ | exact Nat.le_trans (step_rt hm).2 (by decide) | ((try dsimp only at *); (try simp only [setTo_len, noS_len, List.length_append, List.length_cons, List.length_nil, List.length_map, and_self, true_or, or_true, eq_self, true_and, and_true, Nat.zero_add, Nat.add_zero]); (first | done | omega); done)))
    all_goals (clear hH; subst hκ; delta kid at *; (try dsimp only at *))
    all_goals (try (exact ⟨wa_ix hx⟩))
    all_goals (try (show Side _; exact ⟨st_ix (by with_reducible assumption)⟩))
    all_goals (try (show IsX _ _ _; exfalso; first | cases (h.symm.trans (sf_1 hm (by with_reducible assumption))) | cases (h.symm.trans (sf_2 hm (by with_reducible assumption))) | cases (h.symm.trans (sf_3 hm (by with_reducible assumption))) | cases (h.symm.trans (sf_4 hm (by with_reducible assumption))) | cases (h.symm.trans (sf_5 hm (by with_reducible assumption))) | cases (h.symm.trans (sf_6 hm (by with_reducible assumption))) | exact sf_7 hm (by with_reducible assumption) (by with_reducible assumption)))
    all_goals (refine ⟨⟨(i + 1, ⟨stN m (nthW ws i), st_ok hm⟩, ?_, ?_), [200000, 33], (by show ws.length - (i + 1) < ws.length - i; omega), by decide, ?_, ?_⟩⟩)
    all_goals (try repeat' (first | exact rfl | exact trivial | refine And.intro ?_ ?_ | exact congrArg (fun L => Value.slice _ (List.length L) _) e1 | exact congrArg (Value.int .i64) e2 | exact congrArg (Value.int .i64) (nat_succ (by omega)) | exact congrArg List.length e1 | exact congrArg encL e1))
  · cbv
    (clear hH; subst hκ; delta kid at *; (try dsimp only at *))
    exact IsX.val_ rfl
end Go.Proofs.Ytbcicjmepojlnaa.Eng
