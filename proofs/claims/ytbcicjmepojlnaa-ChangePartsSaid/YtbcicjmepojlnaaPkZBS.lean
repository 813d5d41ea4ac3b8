/- Texts of this work, laid together: symbolic execution over the model, contracts of the program's functions, what they come to; conditions: as each says. -/
import Derived.Test.YtbcicjmepojlnaaPkZBR
/- Calls one behind the other keep a space right; no condition but those typed. -/
namespace Go.Proofs.Ytbcicjmepojlnaa.Eng
open Go Go.RowKit
set_option autoImplicit false
set_option linter.unusedSimpArgs false
set_option linter.unusedVariables false
set_option linter.unusedSectionVars false
def okC (l : List Cl) : Prop := ∀ c ∈ l, In64 c.a ∧ In64 c.f
theorem plS_ok : ∀ (l : List Cl) (s : Sp), okC l → spR s.1 s.2 = true → spR (plS s l).1 (plS s l).2 = true
  | [], s, _, h => h
  | c :: r, s, hc, h => plS_ok r (doS s c) (fun x hx => hc x (List.mem_cons_of_mem _ hx)) (do_ok h (hc c (List.mem_cons_self ..)).1 (hc c (List.mem_cons_self ..)).2)
theorem okC_take {l : List Cl} (h : okC l) (i : Nat) : okC (l.take i) := fun c hc => h c (List.mem_of_mem_take hc)
def stL (l : List Cl) : List Ar := (plS ([], 65536) l).1
def stB (l : List Cl) : Int := (plS ([], 65536) l).2
def stA (l : List Cl) : List An := plA ([], 65536) l
theorem spR_0 : spR [] 65536 = true := by decide
theorem st_right {l : List Cl} (h : okC l) : spR (stL l) (stB l) = true := plS_ok l _ h spR_0
theorem spR_may {l : List Ar} {b : Int} (h : spR l b = true) : mayS l = true := by
  unfold spR at h
  rw [Bool.and_eq_true] at h
  exact h.1
theorem spR_len {l : List Ar} {b : Int} (h : spR l b = true) : l.length ≤ 24 := (mayS_rt (spR_may h)).2
theorem st_len {l : List Cl} (h : okC l) : (stL l).length ≤ 24 := spR_len (st_right h)
theorem stL_next {l : List Cl} {i : Nat} (h : i < l.length) : stL (l.take (i + 1)) = doL (stL (l.take i)) (stB (l.take i)) (nthCl l i) := congrArg Prod.fst (plS_next h ([], 65536))
theorem stB_next {l : List Cl} {i : Nat} (h : i < l.length) : stB (l.take (i + 1)) = doB (stL (l.take i)) (stB (l.take i)) (nthCl l i) := congrArg Prod.snd (plS_next h ([], 65536))
theorem stA_next {l : List Cl} {i : Nat} (h : i < l.length) : stA (l.take (i + 1)) = stA (l.take i) ++ [doN (stL (l.take i)) (stB (l.take i)) (nthCl l i)] := plA_next h ([], 65536)
theorem stA_len (l : List Cl) : (stA l).length = l.length := plA_len l _
theorem encAs_app (l k : List An) : encAs (l ++ k) = encAs l ++ encAs k := by
  unfold encAs
  rw [List.flatMap_append]
theorem encAs_one (a : An) : encAs [a] = encAn a := by
  unfold encAs
  rw [List.flatMap_cons, List.flatMap_nil, List.append_nil]
theorem stA_enc {l : List Cl} {i : Nat} (h : i < l.length) : encAs (stA (l.take i)) ++ encAn (doN (stL (l.take i)) (stB (l.take i)) (nthCl l i)) = encAs (stA (l.take (i + 1))) := by rw [stA_next h, encAs_app, encAs_one]
theorem stA_tlen {l : List Cl} {i : Nat} (h : i < l.length) : (stA (l.take i)).length + 1 = (stA (l.take (i + 1))).length := by rw [stA_next h, List.length_append]; rfl
theorem stA_tle {l : List Cl} {i : Nat} (h : i < l.length) : (stA (l.take i)).length = i := by rw [stA_len, List.length_take]; omega
theorem encCl_len (c : Cl) : (encCl c).length = 9 := rfl
theorem encAn_len (a : An) : (encAn a).length = 6 := rfl
theorem cl_take {l : List Cl} {i : Nat} (h : i < l.length) : takeN (encCs l) (((i : Nat) : Int).toNat * 9) 9 = some (encCl (nthCl l i)) := by
  rw [Int.toNat_natCast]
  exact enc_take encCl_len (by decide) l i _ (nthCl_get h)
theorem cl_ix {i n : Nat} (h : i < n) : 0 < 9 ∧ 0 ≤ ((i : Nat) : Int) ∧ ((i : Nat) : Int) < (n : Int) := by omega
theorem encCs_take (l : List Cl) (m : Nat) : (encCs l).take (m * 9) = encCs (l.take m) := by
  induction l generalizing m with
  | nil => simp [encCs]
  | cons c r ih =>
    cases m with
    | zero => simp [encCs]
    | succ m =>
      have e : (m + 1) * 9 = 9 + m * 9 := by omega
      have h9 : (encCl c).length = 9 := rfl
      show (encCl c ++ encCs r).take ((m + 1) * 9) = encCl c ++ encCs (r.take m)
      rw [e, ← h9, List.take_length_add_append, h9, ih]
theorem do_5 (l : List Ar) (b : Int) (a n w to p f k o : Int) : doL l b ⟨5, a, n, w, to, p, f, k, o⟩ = l ∧ doB l b ⟨5, a, n, w, to, p, f, k, o⟩ = b := by
  unfold doL doB
  constructor <;> (split <;> rfl)
theorem aw_ok : okC [(⟨0, 0, 1, 0, 0, 1, 0, 0, 0⟩ : Cl)] := by
  intro c hc
  rw [List.mem_singleton] at hc
  subst hc
  exact ⟨by unfold In64; decide, by unfold In64; decide⟩
theorem aw_v : (encAs (stA [(⟨0, 0, 1, 0, 0, 1, 0, 0, 0⟩ : Cl)]))[((0 : Int)).toNat * 6 + 1]? = some (.v (.int .i64 2093056)) := by kernel_rfl
end Go.Proofs.Ytbcicjmepojlnaa.Eng
/- Contracts of functions (printed by genx.py of this work): what each hands back; condition: as its 'hside' says. -/
namespace Go.Proofs.Ytbcicjmepojlnaa.Eng
open Go Go.RowKit
set_option linter.unusedVariables false
set_option linter.unusedSimpArgs false
theorem b_cright : Bodied Try.prog 93 := bodied Try.func93 rfl (by decide)
def F_cright : FunX2 := fun κ avs => match avs with
  | [.spv l xl lb] => some (κ _ (l.length ≤ 300000), (.val (.c (.v (.bool (κ _ (spR l lb)))))))
  | _ => none
set_option maxRecDepth 100000 in
set_option maxHeartbeats 4000000 in
theorem k_cright (l : List Ar) (lb : Int) (Al : Option Addr) (cl : Nat) (hside : l.length ≤ 300000) (w : World) (hl : (Ent.rd Al 6 l.length (encL l)).holds w) :
    Calls Try.prog 93 #[(SV.agg [.sl 200000 Al l.length cl, .v (.int .i64 lb)]).den] w fun e w' => ∃ v H', e = .returned v.den ∧ IsX (.val (.c (.v (.bool (spR l lb))))) v H' ∧ HSat w (fun _ => False) H' w' := by
  obtain ⟨κ, hκ⟩ : ∃ κ : Kp, κ = kid := ⟨_, rfl⟩
  have hH : HSat w (fun _ => False) (heapOf [(nilId, .rd none 1 0 []), (200000, .rd Al 6 (κ _ l.length) (κ _ (encL l)))]) w := by
    subst hκ
    refine HSat.reads fun p hp => ?_
    simp only [List.mem_cons, List.not_mem_nil, or_false] at hp
    rcases hp with rfl | rfl
    · exact ⟨_, _, _, _, rfl, nil_holds w⟩
    · exact ⟨_, _, _, _, rfl, hl⟩
  refine (callsP (n := 17) FTok [e_right hκ, e_bright hκ] mixed [] Try.func93 rfl (by kernel_rfl) #[(SV.agg [.sl 200000 Al l.length cl, .v (.int .i64 lb)]).den] [(0, .agg [.sl 200000 Al (κ _ l.length) cl, .v (.int .i64 lb)])] _ w rfl [.tmp 2] rfl (by simp) (by subst hκ; simp [SV.den, C.den, kid]) hH (fun v H' => IsX (.val (.c (.v (.bool (κ _ (spR l lb)))))) v H') hκ ?_).mono ?_
  rotate_left
  · subst hκ; intro e w' h; exact h
  intro P' hP'
  cbv
  repeat' (first | refine And.intro ?_ ?_ | (intro _; cbv) | (refine tst_mk (fun h => ?_) (fun h => ?_) <;> cbv) | (refine LookX.nil ?_; cbv) | (refine LookX.auto hκ ?_; cbv))
  all_goals (try (show Side _; refine ⟨?_⟩; subst hκ; delta kid at *; first | exact rfl | exact trivial | exact ⟨rfl, rfl, .inl rfl⟩ | ((try dsimp only at *); (try simp only [setTo_len, noS_len, List.length_append, List.length_cons, List.length_nil, List.length_map, and_self, true_or, or_true, eq_self, true_and, and_true, Nat.zero_add, Nat.add_zero]); (first | done | omega); done)))
  all_goals (clear hH; subst hκ; delta kid at *; (try dsimp only at *))
  all_goals (try (exact ⟨trivial⟩))
  all_goals (try (exact ⟨by decide⟩))
  all_goals (show IsX _ _ _; refine IsX.val_ ?_; simp only [SV.den, SV.den0, C.den, List.map_cons, List.map_nil, spR, mayS, GT.gt, GE.ge]; (try simp only [*, Bool.or_true, Bool.true_or, Bool.or_false, Bool.false_or, Bool.and_true, Bool.true_and, Bool.and_false, Bool.false_and, Bool.not_true, Bool.not_false, if_true, if_false, Bool.false_eq_true]); (first | done | rfl | (exfalso; simp_all; done) | skip))
def e_cright {κ : Kp} (hκ : κ = kid) : ESpec Try.prog := fn2ES [.sp] b_cright F_cright hκ fun avs p r hF hp => by
  unfold F_cright at hF
  split at hF
  case h_2 => cases hF
  rename_i l xl lb
  simp only [kid, Option.some.injEq, Prod.mk.injEq] at hF
  obtain ⟨rfl, rfl⟩ := hF
  refine ⟨trivial, fun vs w hR => ?_⟩
  obtain ⟨il, Al, cl, vs0, rfl, rfl, hl, hR⟩ := hR
  have hR' : vs0 = [] := hR
  subst hR'
  exact k_cright l lb Al cl hp w hl
end Go.Proofs.Ytbcicjmepojlnaa.Eng
