/- Texts of this work, laid together: symbolic execution over the model, contracts of the program's functions, what they come to; conditions: as each says. -/
import Derived.Test.YtbcicjmepojlnaaPkBaseAK
/- A row whose areas are turned one by one; no condition but those typed. -/
namespace Go.Proofs.Ytbcicjmepojlnaa.Eng
open Go Go.RowKit
set_option autoImplicit false
set_option linter.unusedSimpArgs false
set_option linter.unusedVariables false

def modTo (f : Ar → Ar) (W : List Ar) (i : Nat) : List Ar := (W.take i).map f ++ W.drop i
theorem modTo_len (f : Ar → Ar) (W : List Ar) (i : Nat) : (modTo f W i).length = W.length := by
  unfold modTo
  rw [List.length_append, List.length_map, List.length_take, List.length_drop]
  omega
theorem modTo_zero (f : Ar → Ar) (W : List Ar) : modTo f W 0 = W := by
  unfold modTo
  rw [List.take_zero, List.drop_zero]
  rfl
theorem modTo_get {f : Ar → Ar} {W : List Ar} {i : Nat} (h : i < W.length) : (modTo f W i)[i]? = some (nthA W i) := by
  unfold modTo
  have e : ((W.take i).map f).length = i := by rw [List.length_map, List.length_take]; omega
  rw [List.getElem?_append_right (by omega), e, Nat.sub_self, List.getElem?_drop, Nat.add_zero, nthA_get h]
theorem modTo_next {f : Ar → Ar} {W : List Ar} {i : Nat} (h : i < W.length) : (modTo f W i).set i (f (nthA W i)) = modTo f W (i + 1) := by
  unfold modTo
  have e : ((W.take i).map f).length = i := by rw [List.length_map, List.length_take]; omega
  rw [List.set_append_right _ _ (by omega), e, Nat.sub_self, take_next h, List.map_append, List.append_assoc]
  congr 1
  rw [List.drop_eq_getElem_cons h]
  have h2 := nthA_get h
  rw [List.getElem?_eq_getElem h] at h2
  injection h2 with h2
  rw [List.set_cons_zero]
  rfl
def backA (v : Int) (a : Ar) : Ar := { a with b := v }
theorem back_put (v : Int) {W : List Ar} {i : Nat} (h : i < W.length) : putCells (encL (modTo (backA v) W i)) (((i : Nat) : Int).toNat * 6 + 4) [.v (.int .i64 v)] = encL (modTo (backA v) W (i + 1)) := by
  rw [Int.toNat_natCast, ← modTo_next h]
  exact enc_put encA_len (modTo (backA v) W i) i (nthA W i) (backA v (nthA W i)) 4 (.v (.int .i64 v)) (modTo_get h) (by decide) rfl
theorem back_in (v : Int) {W : List Ar} {i : Nat} (h : i < W.length) : ((i : Nat) : Int).toNat * 6 + 4 + 1 ≤ (encL (modTo (backA v) W i)).length := by
  rw [Int.toNat_natCast, encL_len, modTo_len]
  omega
theorem back_zero (v : Int) (W : List Ar) : encL W = encL (modTo (backA v) W 0) := by rw [modTo_zero]
end Go.Proofs.Ytbcicjmepojlnaa.Eng
/- Contracts of functions (printed by genx.py of this work): what each hands back; condition: as its 'hside' says. -/
namespace Go.Proofs.Ytbcicjmepojlnaa.Eng
open Go Go.RowKit
set_option linter.unusedVariables false
set_option linter.unusedSimpArgs false

theorem b_listOwn : Bodied Try.prog 14 := bodied Try.func14 rfl (by decide)
def F_listOwn : FunX := fun κ avs => match avs with
  | [.lstc l xl, .val (.agg [.v (.int .i64 at1), .v (.int .i64 at2)])] => some (κ _ (True), (.val (.c (.v (.bool true)))))
  | _ => none
set_option maxRecDepth 100000 in
set_option maxHeartbeats 4000000 in
theorem k_listOwn (l : List Ar) (at1 : Int) (at2 : Int) (Al : Option Addr) (cl : Nat) (kl : l.length ≤ cl) (hside : True) (w : World) (hl : (Ent.rd Al 6 l.length (encL l)).holds w) :
    Calls Try.prog 14 #[.slice Al l.length cl, (SV.agg [.v (.int .i64 at1), .v (.int .i64 at2)]).den] w fun e w' => ∃ v H', e = .returned v.den ∧ IsX (.val (.c (.v (.bool true)))) v H' ∧ HSat w (fun _ => False) H' w' := by
  obtain ⟨κ, hκ⟩ : ∃ κ : Kp, κ = kid := ⟨_, rfl⟩
  have hH : HSat w (fun _ => False) (heapOf [(nilId, .rd none 1 0 []), (200000, .rd Al 6 (κ _ l.length) (κ _ (encL l)))]) w := by
    subst hκ
    refine HSat.reads fun p hp => ?_
    simp only [List.mem_cons, List.not_mem_nil, or_false] at hp
    rcases hp with rfl | rfl
    · exact ⟨_, _, _, _, rfl, nil_holds w⟩
    · exact ⟨_, _, _, _, rfl, hl⟩
  refine (callsP (n := 73) FTok [e_awake7 hκ, e_made hκ, e_set hκ, e_cut hκ, e_rsame hκ] mixed [] Try.func14 rfl (by kernel_rfl) #[.slice Al l.length cl, (SV.agg [.v (.int .i64 at1), .v (.int .i64 at2)]).den] [(0, .c (.sl 200000 Al (κ _ l.length) cl)), (1, .agg [.v (.int .i64 at1), .v (.int .i64 at2)])] _ w rfl [.tmp 4] rfl (by simp) (by subst hκ; simp [SV.den, C.den, kid]) hH (fun v H' => IsX (.val (.c (.v (.bool true)))) v H') hκ ?_).mono ?_
  rotate_left
  · subst hκ; intro e w' h; exact h
  intro P' hP'
  cbv
  repeat' (first | refine And.intro ?_ ?_ | (intro _; cbv) | (refine tst_mk (fun h => ?_) (fun h => ?_) <;> cbv) | (refine LookX.nil ?_; cbv) | (refine LookX.auto hκ ?_; cbv))
  all_goals (try (show Side _; refine ⟨?_⟩; subst hκ; delta kid at *; first | exact rfl | exact trivial | exact ⟨rfl, rfl, .inl rfl⟩ | exact ⟨rfl, rfl, .inl rfl, kl⟩ | exact ⟨rfl, rfl, .inl rfl, encL_ok _⟩ | exact bd _ (Nat.le_trans (someL_le l) (by decide)) (by decide) | exact Nat.le_trans (madeL_le l) (by decide) | exact bd (set_bd _ _ _ _) (by omega) | ((try dsimp only at *); have z1 := madeL_le l; have z2 := someL_le l; (try simp only [maxLen]); have q0 : ¬ (20 : Int) < (l.length : Int) := of_decide_eq_false (by assumption); (try simp only [setTo_len, noS_len, List.length_append, List.length_cons, List.length_nil, List.length_map, and_self, true_or, or_true, eq_self, true_and, and_true, Nat.zero_add, Nat.add_zero]); (first | done | omega); done)))
  all_goals (try (show IsX _ _ _; subst hκ; exact IsX.val_ rfl))
  all_goals (try (exact ⟨by subst hκ; delta kid; decide⟩))
  rename_i b3 Ax cx Ae Aw cw A0 c0 A1 c1 A2 c2
  refine loopP hP' FTok [e_rsame hκ] mixed [5, 6, 7, 8, 9] (σ := Nat) (fun i => [(10, .c (.v (.int .i64 (κ _ ((i : Nat) : Int)))))]) (fun i => [(22, .row Ax cx 53 6 (κ _ (madeL l).length) (κ _ (encL (madeL l)))), (25, .row Aw cw 53 6 (κ _ (madeL l).length) (κ _ (encL (madeL l)))), (31, .row A0 c0 53 6 (κ _ (setL (madeL l) at1 at2 5).length) (κ _ (encL (modTo (backA 3) (setL (madeL l) at1 at2 5) i)))), (37, .row A1 c1 53 6 (κ _ (cutL (madeL l) at1 at2).length) (κ _ (encL (cutL (madeL l) at1 at2)))), (39, .row A2 c2 53 6 (κ _ (cutL (madeL l) 5 5).length) (κ _ (encL (cutL (madeL l) 5 5))))]) (fun i => (setL (madeL l) at1 at2 5).length - i) 0 [22, 25, 31, 37, 39] ?_ (by decide) ?_ hκ ?_
  · cbv
    all_goals (subst hκ; delta kid; repeat' (first | exact rfl | exact trivial | refine And.intro ?_ ?_ | exact Nat.zero_add _ | exact congrArg (fun n => Value.slice Aw n cw) (Nat.zero_add _) | exact List.nil_append _ | exact back_zero 3 _))
  · cbv
    all_goals (subst hκ; delta kid; repeat' (first | exact rfl | exact trivial | refine And.intro ?_ ?_ | exact Nat.zero_add _ | exact congrArg (fun n => Value.slice Aw n cw) (Nat.zero_add _) | exact List.nil_append _ | exact back_zero 3 _))
  intro i
  cbv
  refine tst_mk (fun h => ?_) (fun h => ?_)
  · have hx : i < (setL (madeL l) at1 at2 5).length := by subst hκ; delta kid at h; have h2 : (i : Int) < ((setL (madeL l) at1 at2 5).length : Int) := of_decide_eq_true h; omega
    have hb := set_bd (madeL l) at1 at2 5
    cbv
    repeat' (first | refine And.intro ?_ ?_ | (intro _; cbv) | (refine tst_mk (fun h => ?_) (fun h => ?_) <;> cbv) | (refine LookX.nil ?_; cbv) | (refine LookX.auto hκ ?_; cbv))
    all_goals (clear hH; subst hκ; delta kid at *; (try dsimp only at *))
    all_goals (try (exact ⟨la_ix hx⟩))
    all_goals (try (exact ⟨rfl⟩))
    all_goals (try (exact ⟨Nat.zero_lt_one, back_in 3 hx⟩))
    refine ⟨⟨i + 1, [22, 25, 31, 37, 39], (by show (setL (madeL l) at1 at2 5).length - (i + 1) < (setL (madeL l) at1 at2 5).length - i; omega), by decide, ?_, ?_⟩⟩
    all_goals repeat' (first | exact rfl | exact trivial | refine And.intro ?_ ?_ | exact congrArg (Value.int .i64) (nat_succ (by omega)) | exact back_put 3 hx)
  · cbv
    refine loopP hP' FTok [e_rsame hκ] mixed [5, 6, 8, 9] (σ := Nat) (fun i => [(11, .c (.v (.int .i64 (κ _ ((i : Nat) : Int)))))]) (fun i => [(22, .row Ax cx 53 6 (κ _ (madeL l).length) (κ _ (encL (madeL l)))), (25, .row Aw cw 53 6 (κ _ (madeL l).length) (κ _ (encL (madeL l)))), (37, .row A1 c1 53 6 (κ _ (cutL (madeL l) at1 at2).length) (κ _ (encL (modTo (backA 3) (cutL (madeL l) at1 at2) i)))), (39, .row A2 c2 53 6 (κ _ (cutL (madeL l) 5 5).length) (κ _ (encL (cutL (madeL l) 5 5))))]) (fun i => (cutL (madeL l) at1 at2).length - i) 0 [22, 25, 37, 39] ?_ (by decide) ?_ hκ ?_
    · cbv
      all_goals (subst hκ; delta kid; repeat' (first | exact rfl | exact trivial | refine And.intro ?_ ?_ | exact Nat.zero_add _ | exact congrArg (fun n => Value.slice Aw n cw) (Nat.zero_add _) | exact List.nil_append _ | exact back_zero 3 _))
    · cbv
      all_goals (subst hκ; delta kid; repeat' (first | exact rfl | exact trivial | refine And.intro ?_ ?_ | exact Nat.zero_add _ | exact congrArg (fun n => Value.slice Aw n cw) (Nat.zero_add _) | exact List.nil_append _ | exact back_zero 3 _))
    intro i
    cbv
    refine tst_mk (fun h => ?_) (fun h => ?_)
    · have hx : i < (cutL (madeL l) at1 at2).length := by subst hκ; delta kid at h; have h2 : (i : Int) < ((cutL (madeL l) at1 at2).length : Int) := of_decide_eq_true h; omega
      have hb := cut_bd (madeL l) at1 at2
      cbv
      repeat' (first | refine And.intro ?_ ?_ | (intro _; cbv) | (refine tst_mk (fun h => ?_) (fun h => ?_) <;> cbv) | (refine LookX.nil ?_; cbv) | (refine LookX.auto hκ ?_; cbv))
      all_goals (clear hH; subst hκ; delta kid at *; (try dsimp only at *))
      all_goals (try (exact ⟨la_ix hx⟩))
      all_goals (try (exact ⟨rfl⟩))
      all_goals (try (exact ⟨Nat.zero_lt_one, back_in 3 hx⟩))
      refine ⟨⟨i + 1, [22, 25, 37, 39], (by show (cutL (madeL l) at1 at2).length - (i + 1) < (cutL (madeL l) at1 at2).length - i; omega), by decide, ?_, ?_⟩⟩
      all_goals repeat' (first | exact rfl | exact trivial | refine And.intro ?_ ?_ | exact congrArg (Value.int .i64) (nat_succ (by omega)) | exact back_put 3 hx)
    · cbv
      refine loopP hP' FTok [e_rsame hκ] mixed [5, 6, 9] (σ := Nat) (fun i => [(12, .c (.v (.int .i64 (κ _ ((i : Nat) : Int)))))]) (fun i => [(22, .row Ax cx 53 6 (κ _ (madeL l).length) (κ _ (encL (madeL l)))), (25, .row Aw cw 53 6 (κ _ (madeL l).length) (κ _ (encL (madeL l)))), (39, .row A2 c2 53 6 (κ _ (cutL (madeL l) 5 5).length) (κ _ (encL (modTo (backA 3) (cutL (madeL l) 5 5) i))))]) (fun i => (cutL (madeL l) 5 5).length - i) 0 [22, 25, 39] ?_ (by decide) ?_ hκ ?_
      · cbv
        all_goals (subst hκ; delta kid; repeat' (first | exact rfl | exact trivial | refine And.intro ?_ ?_ | exact Nat.zero_add _ | exact congrArg (fun n => Value.slice Aw n cw) (Nat.zero_add _) | exact List.nil_append _ | exact back_zero 3 _))
      · cbv
        all_goals (subst hκ; delta kid; repeat' (first | exact rfl | exact trivial | refine And.intro ?_ ?_ | exact Nat.zero_add _ | exact congrArg (fun n => Value.slice Aw n cw) (Nat.zero_add _) | exact List.nil_append _ | exact back_zero 3 _))
      intro i
      cbv
      refine tst_mk (fun h => ?_) (fun h => ?_)
      · have hx : i < (cutL (madeL l) 5 5).length := by subst hκ; delta kid at h; have h2 : (i : Int) < ((cutL (madeL l) 5 5).length : Int) := of_decide_eq_true h; omega
        have hb := cut_bd (madeL l) 5 5
        cbv
        repeat' (first | refine And.intro ?_ ?_ | (intro _; cbv) | (refine tst_mk (fun h => ?_) (fun h => ?_) <;> cbv) | (refine LookX.nil ?_; cbv) | (refine LookX.auto hκ ?_; cbv))
        all_goals (clear hH; subst hκ; delta kid at *; (try dsimp only at *))
        all_goals (try (exact ⟨la_ix hx⟩))
        all_goals (try (exact ⟨rfl⟩))
        all_goals (try (exact ⟨Nat.zero_lt_one, back_in 3 hx⟩))
        refine ⟨⟨i + 1, [22, 25, 39], (by show (cutL (madeL l) 5 5).length - (i + 1) < (cutL (madeL l) 5 5).length - i; omega), by decide, ?_, ?_⟩⟩
        all_goals repeat' (first | exact rfl | exact trivial | refine And.intro ?_ ?_ | exact congrArg (Value.int .i64) (nat_succ (by omega)) | exact back_put 3 hx)
      · cbv
        repeat' (first | refine And.intro ?_ ?_ | (intro _; cbv) | (refine tst_mk (fun h => ?_) (fun h => ?_) <;> cbv) | (refine LookX.nil ?_; cbv) | (refine LookX.auto hκ ?_; cbv))
        all_goals (try (show Side _; refine ⟨?_⟩; subst hκ; delta kid at *; first | exact rfl | exact trivial | exact ⟨rfl, rfl, .inl rfl⟩ | exact ⟨rfl, rfl, .inl rfl, kl⟩ | exact ⟨rfl, rfl, .inl rfl, encL_ok _⟩ | exact bd _ (Nat.le_trans (someL_le l) (by decide)) (by decide) | exact Nat.le_trans (madeL_le l) (by decide) | ((try dsimp only at *); have z1 := madeL_le l; have z2 := someL_le l; (try simp only [maxLen]); have q0 : ¬ (20 : Int) < (l.length : Int) := of_decide_eq_false (by assumption); (try simp only [setTo_len, noS_len, List.length_append, List.length_cons, List.length_nil, List.length_map, and_self, true_or, or_true, eq_self, true_and, and_true, Nat.zero_add, Nat.add_zero]); (first | done | omega); done)))
        all_goals (clear hH; subst hκ; delta kid at *; (try dsimp only at *))
        refine IsX.bool_ ?_
        exact sameL_self _
def e_listOwn {κ : Kp} (hκ : κ = kid) : ESpec Try.prog := fnES [.listc, .flat] b_listOwn F_listOwn hκ fun avs p r hF hp => by
  unfold F_listOwn at hF
  split at hF
  case h_2 => cases hF
  rename_i l xl at1 at2
  simp only [kid, Option.some.injEq, Prod.mk.injEq] at hF
  obtain ⟨rfl, rfl⟩ := hF
  refine ⟨trivial, fun vs w hR => ?_⟩
  obtain ⟨il, Al, cl, vs0, rfl, rfl, kl, hl, hR⟩ := hR
  obtain ⟨vs1, rfl, hR⟩ := hR
  have hR' : vs1 = [] := hR
  subst hR'
  exact k_listOwn l at1 at2 Al cl kl hp w hl

end Go.Proofs.Ytbcicjmepojlnaa.Eng
