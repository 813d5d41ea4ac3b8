/- Texts of this work, laid together: symbolic execution over the model, contracts of the program's functions, what they come to; conditions: as each says. -/
import Derived.Test.YtbcicjmepojlnaaGreatPkGAK
import Derived.Test.YtbcicjmepojlnaaGreatPkGAP
/- Contracts of functions (printed by genx.py of this work): what each hands back; condition: as its 'hside' says. -/
namespace Go.Proofs.YtbcicjmepojlnaaGreat.Eng
open Go Go.RowKit
set_option linter.unusedVariables false
set_option linter.unusedSimpArgs false
theorem b_size : Bodied Tryz.prog 69 := bodied Tryz.func69 rfl (by decide)
def F_size : FunX := fun κ avs => match avs with
  | [.val (.c (.v (.int .i64 n)))] => some (κ _ (True), (.val (.tup [.c (.v (.int .i64 (κ _ (sizeV n)))), .c (.v (.int .i64 (κ _ (sizeE n))))])))
  | _ => none
set_option maxRecDepth 100000 in
set_option maxHeartbeats 4000000 in
theorem k_size (n : Int) (hside : True) (w : World) :
    Calls Tryz.prog 69 #[(SV.c (.v (.int .i64 n))).den] w fun e w' => ∃ v H', e = .returned v.den ∧ IsX (.val (.tup [.c (.v (.int .i64 (sizeV n))), .c (.v (.int .i64 (sizeE n)))])) v H' ∧ HSat w (fun _ => False) H' w' := by
  obtain ⟨κ, hκ⟩ : ∃ κ : Kp, κ = kid := ⟨_, rfl⟩
  have hH : HSat w (fun _ => False) (heapOf [(nilId, .rd none 1 0 [])]) w := by
    subst hκ
    refine HSat.reads fun p hp => ?_
    simp only [List.mem_cons, List.not_mem_nil, or_false] at hp
    rcases hp with rfl
    · exact ⟨_, _, _, _, rfl, nil_holds w⟩
  refine (callsP (n := 19) FTok [] mixed [] Tryz.func69 rfl (by kernel_rfl) #[(SV.c (.v (.int .i64 n))).den] [(0, .c (.v (.int .i64 n)))] _ w rfl [.tmp 2, .tmp 3] rfl (by simp) (by subst hκ; simp [SV.den, C.den, kid]) hH (fun v H' => IsX (.val (.tup [.c (.v (.int .i64 (κ _ (sizeV n)))), .c (.v (.int .i64 (κ _ (sizeE n))))])) v H') hκ ?_).mono ?_
  rotate_left
  · subst hκ; intro e w' h; exact h
  intro P' hP'
  cbv
  repeat' (first | refine And.intro ?_ ?_ | (intro _; cbv) | (refine tst_mk (fun h => ?_) (fun h => ?_) <;> cbv) | (refine LookX.nil ?_; cbv) | (refine LookX.auto hκ ?_; cbv))
  all_goals (clear hH; subst hκ; delta kid at *; (try dsimp only at *))
  all_goals (try (exact ⟨trivial⟩))
  all_goals (try (exact ⟨by decide⟩))
  all_goals (show IsX _ _ _; refine IsX.val_ ?_; simp only [SV.den, SV.den0, C.den, List.map_cons, List.map_nil, sizeV, sizeE, sizeBad, GT.gt, GE.ge]; (try simp only [*, Bool.or_true, Bool.true_or, Bool.or_false, Bool.false_or, Bool.and_true, Bool.true_and, Bool.and_false, Bool.false_and, Bool.not_true, Bool.not_false, if_true, if_false, Bool.false_eq_true]); (first | done | rfl | (exfalso; simp_all; done) | skip))
def e_size {κ : Kp} (hκ : κ = kid) : ESpec Tryz.prog := fnES [.flat] b_size F_size hκ fun avs p r hF hp => by
  unfold F_size at hF
  split at hF
  case h_2 => cases hF
  rename_i n
  simp only [kid, Option.some.injEq, Prod.mk.injEq] at hF
  obtain ⟨rfl, rfl⟩ := hF
  refine ⟨trivial, fun vs w hR => ?_⟩
  obtain ⟨vs0, rfl, hR⟩ := hR
  have hR' : vs0 = [] := hR
  subst hR'
  exact k_size n hp w
theorem b_prot : Bodied Tryz.prog 70 := bodied Tryz.func70 rfl (by decide)
def F_prot : FunX := fun κ avs => match avs with
  | [.val (.c (.v (.int .i64 p)))] => some (κ _ (True), (.val (.c (.v (.int .i64 (κ _ (protE p)))))))
  | _ => none
set_option maxRecDepth 100000 in
set_option maxHeartbeats 4000000 in
theorem k_prot (p : Int) (hside : True) (w : World) :
    Calls Tryz.prog 70 #[(SV.c (.v (.int .i64 p))).den] w fun e w' => ∃ v H', e = .returned v.den ∧ IsX (.val (.c (.v (.int .i64 (protE p))))) v H' ∧ HSat w (fun _ => False) H' w' := by
  obtain ⟨κ, hκ⟩ : ∃ κ : Kp, κ = kid := ⟨_, rfl⟩
  have hH : HSat w (fun _ => False) (heapOf [(nilId, .rd none 1 0 [])]) w := by
    subst hκ
    refine HSat.reads fun p hp => ?_
    simp only [List.mem_cons, List.not_mem_nil, or_false] at hp
    rcases hp with rfl
    · exact ⟨_, _, _, _, rfl, nil_holds w⟩
  refine (callsP (n := 9) FTok [] mixed [] Tryz.func70 rfl (by kernel_rfl) #[(SV.c (.v (.int .i64 p))).den] [(0, .c (.v (.int .i64 p)))] _ w rfl [.tmp 2] rfl (by simp) (by subst hκ; simp [SV.den, C.den, kid]) hH (fun v H' => IsX (.val (.c (.v (.int .i64 (κ _ (protE p)))))) v H') hκ ?_).mono ?_
  rotate_left
  · subst hκ; intro e w' h; exact h
  intro P' hP'
  cbv
  repeat' (first | refine And.intro ?_ ?_ | (intro _; cbv) | (refine tst_mk (fun h => ?_) (fun h => ?_) <;> cbv) | (refine LookX.nil ?_; cbv) | (refine LookX.auto hκ ?_; cbv))
  all_goals (clear hH; subst hκ; delta kid at *; (try dsimp only at *))
  all_goals (try (exact ⟨trivial⟩))
  all_goals (try (exact ⟨by decide⟩))
  all_goals (show IsX _ _ _; refine IsX.val_ ?_; simp only [SV.den, SV.den0, C.den, List.map_cons, List.map_nil, protE, GT.gt, GE.ge]; (try simp only [*, Bool.or_true, Bool.true_or, Bool.or_false, Bool.false_or, Bool.and_true, Bool.true_and, Bool.and_false, Bool.false_and, Bool.not_true, Bool.not_false, if_true, if_false, Bool.false_eq_true]); (first | done | rfl | (exfalso; simp_all; done) | skip))
def e_prot {κ : Kp} (hκ : κ = kid) : ESpec Tryz.prog := fnES [.flat] b_prot F_prot hκ fun avs p r hF hp => by
  unfold F_prot at hF
  split at hF
  case h_2 => cases hF
  rename_i p
  simp only [kid, Option.some.injEq, Prod.mk.injEq] at hF
  obtain ⟨rfl, rfl⟩ := hF
  refine ⟨trivial, fun vs w hR => ?_⟩
  obtain ⟨vs0, rfl, hR⟩ := hR
  have hR' : vs0 = [] := hR
  subst hR'
  exact k_prot p hp w
theorem b_flags : Bodied Tryz.prog 71 := bodied Tryz.func71 rfl (by decide)
def F_flags : FunX := fun κ avs => match avs with
  | [.val (.c (.v (.int .i64 f))), .val (.c (.v (.int .i64 al)))] => some (κ _ (True), (.val (.c (.v (.int .i64 (κ _ (flagsE f al)))))))
  | _ => none
set_option maxRecDepth 100000 in
set_option maxHeartbeats 4000000 in
theorem k_flags (f : Int) (al : Int) (hside : True) (w : World) :
    Calls Tryz.prog 71 #[(SV.c (.v (.int .i64 f))).den, (SV.c (.v (.int .i64 al))).den] w fun e w' => ∃ v H', e = .returned v.den ∧ IsX (.val (.c (.v (.int .i64 (flagsE f al))))) v H' ∧ HSat w (fun _ => False) H' w' := by
  obtain ⟨κ, hκ⟩ : ∃ κ : Kp, κ = kid := ⟨_, rfl⟩
  have hH : HSat w (fun _ => False) (heapOf [(nilId, .rd none 1 0 [])]) w := by
    subst hκ
    refine HSat.reads fun p hp => ?_
    simp only [List.mem_cons, List.not_mem_nil, or_false] at hp
    rcases hp with rfl
    · exact ⟨_, _, _, _, rfl, nil_holds w⟩
  refine (callsP (n := 13) FTok [] mixed [] Tryz.func71 rfl (by kernel_rfl) #[(SV.c (.v (.int .i64 f))).den, (SV.c (.v (.int .i64 al))).den] [(0, .c (.v (.int .i64 f))), (1, .c (.v (.int .i64 al)))] _ w rfl [.tmp 4] rfl (by simp) (by subst hκ; simp [SV.den, C.den, kid]) hH (fun v H' => IsX (.val (.c (.v (.int .i64 (κ _ (flagsE f al)))))) v H') hκ ?_).mono ?_
  rotate_left
  · subst hκ; intro e w' h; exact h
  intro P' hP'
  cbv
  repeat' (first | refine And.intro ?_ ?_ | (intro _; cbv) | (refine tst_mk (fun h => ?_) (fun h => ?_) <;> cbv) | (refine LookX.nil ?_; cbv) | (refine LookX.auto hκ ?_; cbv))
  all_goals (clear hH; subst hκ; delta kid at *; (try dsimp only at *))
  all_goals (try (exact ⟨trivial⟩))
  all_goals (try (exact ⟨by decide⟩))
  all_goals (show IsX _ _ _; refine IsX.val_ ?_; simp only [SV.den, SV.den0, C.den, List.map_cons, List.map_nil, flagsE, GT.gt, GE.ge]; (try simp only [*, Bool.or_true, Bool.true_or, Bool.or_false, Bool.false_or, Bool.and_true, Bool.true_and, Bool.and_false, Bool.false_and, Bool.not_true, Bool.not_false, if_true, if_false, Bool.false_eq_true]); (first | done | rfl | (exfalso; simp_all; done) | skip))
def e_flags {κ : Kp} (hκ : κ = kid) : ESpec Tryz.prog := fnES [.flat, .flat] b_flags F_flags hκ fun avs p r hF hp => by
  unfold F_flags at hF
  split at hF
  case h_2 => cases hF
  rename_i f al
  simp only [kid, Option.some.injEq, Prod.mk.injEq] at hF
  obtain ⟨rfl, rfl⟩ := hF
  refine ⟨trivial, fun vs w hR => ?_⟩
  obtain ⟨vs0, rfl, hR⟩ := hR
  obtain ⟨vs1, rfl, hR⟩ := hR
  have hR' : vs1 = [] := hR
  subst hR'
  exact k_flags f al hp w
theorem b_range : Bodied Tryz.prog 35 := bodied Tryz.func35 rfl (by decide)
def F_range : FunX := fun κ avs => match avs with
  | [.val (.c (.v (.int .i64 a))), .val (.c (.v (.int .i64 n)))] => some (κ _ (True), (.val (.tup [.c (.v (.int .i64 (κ _ (rangeLo a n)))), .c (.v (.int .i64 (κ _ (rangeHi a n)))), .c (.v (.int .i64 (κ _ (rangeE a n))))])))
  | _ => none
set_option maxRecDepth 100000 in
set_option maxHeartbeats 4000000 in
theorem k_range (a : Int) (n : Int) (hside : True) (w : World) :
    Calls Tryz.prog 35 #[(SV.c (.v (.int .i64 a))).den, (SV.c (.v (.int .i64 n))).den] w fun e w' => ∃ v H', e = .returned v.den ∧ IsX (.val (.tup [.c (.v (.int .i64 (rangeLo a n))), .c (.v (.int .i64 (rangeHi a n))), .c (.v (.int .i64 (rangeE a n)))])) v H' ∧ HSat w (fun _ => False) H' w' := by
  obtain ⟨κ, hκ⟩ : ∃ κ : Kp, κ = kid := ⟨_, rfl⟩
  have hH : HSat w (fun _ => False) (heapOf [(nilId, .rd none 1 0 [])]) w := by
    subst hκ
    refine HSat.reads fun p hp => ?_
    simp only [List.mem_cons, List.not_mem_nil, or_false] at hp
    rcases hp with rfl
    · exact ⟨_, _, _, _, rfl, nil_holds w⟩
  refine (callsP (n := 34) FTok [e_size hκ] mixed [] Tryz.func35 rfl (by kernel_rfl) #[(SV.c (.v (.int .i64 a))).den, (SV.c (.v (.int .i64 n))).den] [(0, .c (.v (.int .i64 a))), (1, .c (.v (.int .i64 n)))] _ w rfl [.tmp 4, .tmp 5, .tmp 6] rfl (by simp) (by subst hκ; simp [SV.den, C.den, kid]) hH (fun v H' => IsX (.val (.tup [.c (.v (.int .i64 (κ _ (rangeLo a n)))), .c (.v (.int .i64 (κ _ (rangeHi a n)))), .c (.v (.int .i64 (κ _ (rangeE a n))))])) v H') hκ ?_).mono ?_
  rotate_left
  · subst hκ; intro e w' h; exact h
  intro P' hP'
  cbv
  repeat' (first | refine And.intro ?_ ?_ | (intro _; cbv) | (refine tst_mk (fun h => ?_) (fun h => ?_) <;> cbv) | (refine LookX.nil ?_; cbv) | (refine LookX.auto hκ ?_; cbv))
  all_goals (clear hH; subst hκ; delta kid at *; (try dsimp only at *))
  all_goals (try (exact ⟨trivial⟩))
  all_goals (try (exact ⟨by decide⟩))
  all_goals (show IsX _ _ _; refine IsX.val_ ?_; simp only [SV.den, SV.den0, C.den, List.map_cons, List.map_nil, rangeLo, rangeHi, rangeC, rangeE, rangeBad, GT.gt, GE.ge]; (try simp only [*, Bool.or_true, Bool.true_or, Bool.or_false, Bool.false_or, Bool.and_true, Bool.true_and, Bool.and_false, Bool.false_and, Bool.not_true, Bool.not_false, if_true, if_false, Bool.false_eq_true]); (first | done | rfl | (exfalso; simp_all; done) | skip))
def e_range {κ : Kp} (hκ : κ = kid) : ESpec Tryz.prog := fnES [.flat, .flat] b_range F_range hκ fun avs p r hF hp => by
  unfold F_range at hF
  split at hF
  case h_2 => cases hF
  rename_i a n
  simp only [kid, Option.some.injEq, Prod.mk.injEq] at hF
  obtain ⟨rfl, rfl⟩ := hF
  refine ⟨trivial, fun vs w hR => ?_⟩
  obtain ⟨vs0, rfl, hR⟩ := hR
  obtain ⟨vs1, rfl, hR⟩ := hR
  have hR' : vs1 = [] := hR
  subst hR'
  exact k_range a n hp w
theorem b_backing : Bodied Tryz.prog 72 := bodied Tryz.func72 rfl (by decide)
def F_backing : FunX := fun κ avs => match avs with
  | [.val (.c (.v (.int .i64 b))), .val (.c (.v (.int .i64 o))), .val (.c (.v (.int .i64 s)))] => some (κ _ (True), (.val (.c (.v (.int .i64 (κ _ (backE b o s)))))))
  | _ => none
set_option maxRecDepth 100000 in
set_option maxHeartbeats 4000000 in
theorem k_backing (b : Int) (o : Int) (s : Int) (hside : True) (w : World) :
    Calls Tryz.prog 72 #[(SV.c (.v (.int .i64 b))).den, (SV.c (.v (.int .i64 o))).den, (SV.c (.v (.int .i64 s))).den] w fun e w' => ∃ v H', e = .returned v.den ∧ IsX (.val (.c (.v (.int .i64 (backE b o s))))) v H' ∧ HSat w (fun _ => False) H' w' := by
  obtain ⟨κ, hκ⟩ : ∃ κ : Kp, κ = kid := ⟨_, rfl⟩
  have hH : HSat w (fun _ => False) (heapOf [(nilId, .rd none 1 0 [])]) w := by
    subst hκ
    refine HSat.reads fun p hp => ?_
    simp only [List.mem_cons, List.not_mem_nil, or_false] at hp
    rcases hp with rfl
    · exact ⟨_, _, _, _, rfl, nil_holds w⟩
  refine (callsP (n := 35) FTok [] mixed [] Tryz.func72 rfl (by kernel_rfl) #[(SV.c (.v (.int .i64 b))).den, (SV.c (.v (.int .i64 o))).den, (SV.c (.v (.int .i64 s))).den] [(0, .c (.v (.int .i64 b))), (1, .c (.v (.int .i64 o))), (2, .c (.v (.int .i64 s)))] _ w rfl [.tmp 6] rfl (by simp) (by subst hκ; simp [SV.den, C.den, kid]) hH (fun v H' => IsX (.val (.c (.v (.int .i64 (κ _ (backE b o s)))))) v H') hκ ?_).mono ?_
  rotate_left
  · subst hκ; intro e w' h; exact h
  intro P' hP'
  cbv
  repeat' (first | refine And.intro ?_ ?_ | (intro _; cbv) | (refine tst_mk (fun h => ?_) (fun h => ?_) <;> cbv) | (refine LookX.nil ?_; cbv) | (refine LookX.auto hκ ?_; cbv))
  all_goals (clear hH; subst hκ; delta kid at *; (try dsimp only at *))
  all_goals (try (exact ⟨trivial⟩))
  all_goals (try (exact ⟨by decide⟩))
  all_goals (show IsX _ _ _; refine IsX.val_ ?_; simp only [SV.den, SV.den0, C.den, List.map_cons, List.map_nil, backE, backBad, GT.gt, GE.ge]; (try simp only [*, Bool.or_true, Bool.true_or, Bool.or_false, Bool.false_or, Bool.and_true, Bool.true_and, Bool.and_false, Bool.false_and, Bool.not_true, Bool.not_false, if_true, if_false, Bool.false_eq_true]); (first | done | rfl | (exfalso; simp_all; done) | skip))
def e_backing {κ : Kp} (hκ : κ = kid) : ESpec Tryz.prog := fnES [.flat, .flat, .flat] b_backing F_backing hκ fun avs p r hF hp => by
  unfold F_backing at hF
  split at hF
  case h_2 => cases hF
  rename_i b o s
  simp only [kid, Option.some.injEq, Prod.mk.injEq] at hF
  obtain ⟨rfl, rfl⟩ := hF
  refine ⟨trivial, fun vs w hR => ?_⟩
  obtain ⟨vs0, rfl, hR⟩ := hR
  obtain ⟨vs1, rfl, hR⟩ := hR
  obtain ⟨vs2, rfl, hR⟩ := hR
  have hR' : vs2 = [] := hR
  subst hR'
  exact k_backing b o s hp w
theorem b_rpages : Bodied Tryz.prog 90 := bodied Tryz.func90 rfl (by decide)
def F_rpages : FunX := fun κ avs => match avs with
  | [.val (.c (.v (.int .i64 n)))] => some (κ _ (1 ≤ n ∧ n ≤ 2031616), (.val (.c (.v (.int .i64 (κ _ ((n + 4095) / 4096)))))))
  | _ => none
set_option maxRecDepth 100000 in
set_option maxHeartbeats 4000000 in
theorem k_rpages (n : Int) (hside : 1 ≤ n ∧ n ≤ 2031616) (w : World) :
    Calls Tryz.prog 90 #[(SV.c (.v (.int .i64 n))).den] w fun e w' => ∃ v H', e = .returned v.den ∧ IsX (.val (.c (.v (.int .i64 ((n + 4095) / 4096))))) v H' ∧ HSat w (fun _ => False) H' w' := by
  obtain ⟨κ, hκ⟩ : ∃ κ : Kp, κ = kid := ⟨_, rfl⟩
  have hH : HSat w (fun _ => False) (heapOf [(nilId, .rd none 1 0 [])]) w := by
    subst hκ
    refine HSat.reads fun p hp => ?_
    simp only [List.mem_cons, List.not_mem_nil, or_false] at hp
    rcases hp with rfl
    · exact ⟨_, _, _, _, rfl, nil_holds w⟩
  refine (callsP (n := 11) FTok [] mixed [] Tryz.func90 rfl (by kernel_rfl) #[(SV.c (.v (.int .i64 n))).den] [(0, .c (.v (.int .i64 n)))] _ w rfl [.tmp 2] rfl (by simp) (by subst hκ; simp [SV.den, C.den, kid]) hH (fun v H' => IsX (.val (.c (.v (.int .i64 (κ _ ((n + 4095) / 4096)))))) v H') hκ ?_).mono ?_
  rotate_left
  · subst hκ; intro e w' h; exact h
  intro P' hP'
  cbv
  refine loopP hP' FTok [] mixed [0] (σ := {p : Int // CntOk n p}) (fun q => [(3, .c (.v (.int .i64 (κ _ q.1))))]) (fun _ => []) (fun q => (n - 4096 * q.1).toNat) ⟨0, cnt_0 hside.1⟩ [] ?_ (by decide) ?_ hκ ?_
  · cbv
    all_goals (subst hκ; delta kid; repeat' (first | exact rfl | exact trivial | refine And.intro ?_ ?_))
  · cbv
  rintro ⟨p, hp⟩
  cbv
  refine tst_mk (fun h => ?_) (fun h => ?_)
  · have hv := cnt_next hside.2 hp (by subst hκ; exact h)
    cbv
    all_goals (clear hH; subst hκ; delta kid at *; (try dsimp only at *))
    refine ⟨⟨⟨p + 1, hv.2.1⟩, [], hv.2.2, by decide, ?_, ?_⟩⟩
    all_goals repeat' (first | exact rfl | exact trivial | refine And.intro ?_ ?_ | exact congrArg (Value.int .i64) hv.1)
  · have hv := cnt_end hside hp (by subst hκ; exact h)
    cbv
    all_goals (clear hH; subst hκ; delta kid at *; (try dsimp only at *))
    exact IsX.int_ hv
def e_rpages {κ : Kp} (hκ : κ = kid) : ESpec Tryz.prog := fnES [.flat] b_rpages F_rpages hκ fun avs p r hF hp => by
  unfold F_rpages at hF
  split at hF
  case h_2 => cases hF
  rename_i n
  simp only [kid, Option.some.injEq, Prod.mk.injEq] at hF
  obtain ⟨rfl, rfl⟩ := hF
  refine ⟨trivial, fun vs w hR => ?_⟩
  obtain ⟨vs0, rfl, hR⟩ := hR
  have hR' : vs0 = [] := hR
  subst hR'
  exact k_rpages n hp w
theorem b_rsize : Bodied Tryz.prog 52 := bodied Tryz.func52 rfl (by decide)
def F_rsize : FunX := fun κ avs => match avs with
  | [.val (.c (.v (.int .i64 n)))] => some (κ _ (True), (.val (.tup [.c (.v (.int .i64 (κ _ (sizeV n)))), .c (.v (.int .i64 (κ _ (sizeE n))))])))
  | _ => none
set_option maxRecDepth 100000 in
set_option maxHeartbeats 4000000 in
theorem k_rsize (n : Int) (hside : True) (w : World) :
    Calls Tryz.prog 52 #[(SV.c (.v (.int .i64 n))).den] w fun e w' => ∃ v H', e = .returned v.den ∧ IsX (.val (.tup [.c (.v (.int .i64 (sizeV n))), .c (.v (.int .i64 (sizeE n)))])) v H' ∧ HSat w (fun _ => False) H' w' := by
  obtain ⟨κ, hκ⟩ : ∃ κ : Kp, κ = kid := ⟨_, rfl⟩
  have hH : HSat w (fun _ => False) (heapOf [(nilId, .rd none 1 0 [])]) w := by
    subst hκ
    refine HSat.reads fun p hp => ?_
    simp only [List.mem_cons, List.not_mem_nil, or_false] at hp
    rcases hp with rfl
    · exact ⟨_, _, _, _, rfl, nil_holds w⟩
  refine (callsP (n := 15) FTok [e_rpages hκ] mixed [] Tryz.func52 rfl (by kernel_rfl) #[(SV.c (.v (.int .i64 n))).den] [(0, .c (.v (.int .i64 n)))] _ w rfl [.tmp 2, .tmp 3] rfl (by simp) (by subst hκ; simp [SV.den, C.den, kid]) hH (fun v H' => IsX (.val (.tup [.c (.v (.int .i64 (κ _ (sizeV n)))), .c (.v (.int .i64 (κ _ (sizeE n))))])) v H') hκ ?_).mono ?_
  rotate_left
  · subst hκ; intro e w' h; exact h
  intro P' hP'
  cbv
  repeat' (first | refine And.intro ?_ ?_ | (intro _; cbv) | (refine tst_mk (fun h => ?_) (fun h => ?_) <;> cbv) | (refine LookX.nil ?_; cbv) | (refine LookX.auto hκ ?_; cbv))
  all_goals (clear hH; subst hκ; delta kid at *; (try dsimp only at *))
  all_goals (try (show Side _; refine ⟨?_⟩; exact (rsize_yes (by with_reducible assumption) (by with_reducible assumption) (by with_reducible assumption)).1))
  all_goals (try (show IsX _ _ _; refine IsX.val_ ?_; have hv := rsize_yes (n := n) (by with_reducible assumption) (by with_reducible assumption) (by with_reducible assumption); simp only [SV.den, SV.den0, C.den, List.map_cons, List.map_nil, hv.2.1, hv.2.2]; done))
  all_goals (show IsX _ _ _; refine IsX.val_ ?_; simp only [SV.den, SV.den0, C.den, List.map_cons, List.map_nil, sizeV, sizeE, sizeBad, GT.gt, GE.ge]; (try simp only [*, Bool.or_true, Bool.true_or, Bool.or_false, Bool.false_or, Bool.and_true, Bool.true_and, Bool.and_false, Bool.false_and, Bool.not_true, Bool.not_false, if_true, if_false, Bool.false_eq_true]); (first | done | rfl | (exfalso; simp_all; done) | skip))
def e_rsize {κ : Kp} (hκ : κ = kid) : ESpec Tryz.prog := fnES [.flat] b_rsize F_rsize hκ fun avs p r hF hp => by
  unfold F_rsize at hF
  split at hF
  case h_2 => cases hF
  rename_i n
  simp only [kid, Option.some.injEq, Prod.mk.injEq] at hF
  obtain ⟨rfl, rfl⟩ := hF
  refine ⟨trivial, fun vs w hR => ?_⟩
  obtain ⟨vs0, rfl, hR⟩ := hR
  have hR' : vs0 = [] := hR
  subst hR'
  exact k_rsize n hp w
theorem b_rrange : Bodied Tryz.prog 58 := bodied Tryz.func58 rfl (by decide)
def F_rrange : FunX := fun κ avs => match avs with
  | [.val (.c (.v (.int .i64 a))), .val (.c (.v (.int .i64 n)))] => some (κ _ (In64 a), (.val (.tup [.c (.v (.int .i64 (κ _ (rangeLo a n)))), .c (.v (.int .i64 (κ _ (rangeHi a n)))), .c (.v (.int .i64 (κ _ (rangeE a n))))])))
  | _ => none
set_option maxRecDepth 100000 in
set_option maxHeartbeats 4000000 in
theorem k_rrange (a : Int) (n : Int) (hside : In64 a) (w : World) :
    Calls Tryz.prog 58 #[(SV.c (.v (.int .i64 a))).den, (SV.c (.v (.int .i64 n))).den] w fun e w' => ∃ v H', e = .returned v.den ∧ IsX (.val (.tup [.c (.v (.int .i64 (rangeLo a n))), .c (.v (.int .i64 (rangeHi a n))), .c (.v (.int .i64 (rangeE a n)))])) v H' ∧ HSat w (fun _ => False) H' w' := by
  obtain ⟨κ, hκ⟩ : ∃ κ : Kp, κ = kid := ⟨_, rfl⟩
  have hH : HSat w (fun _ => False) (heapOf [(nilId, .rd none 1 0 [])]) w := by
    subst hκ
    refine HSat.reads fun p hp => ?_
    simp only [List.mem_cons, List.not_mem_nil, or_false] at hp
    rcases hp with rfl
    · exact ⟨_, _, _, _, rfl, nil_holds w⟩
  refine (callsP (n := 36) FTok [e_rsize hκ] mixed [] Tryz.func58 rfl (by kernel_rfl) #[(SV.c (.v (.int .i64 a))).den, (SV.c (.v (.int .i64 n))).den] [(0, .c (.v (.int .i64 a))), (1, .c (.v (.int .i64 n)))] _ w rfl [.tmp 4, .tmp 5, .tmp 6] rfl (by simp) (by subst hκ; simp [SV.den, C.den, kid]) hH (fun v H' => IsX (.val (.tup [.c (.v (.int .i64 (κ _ (rangeLo a n)))), .c (.v (.int .i64 (κ _ (rangeHi a n)))), .c (.v (.int .i64 (κ _ (rangeE a n))))])) v H') hκ ?_).mono ?_
  rotate_left
  · subst hκ; intro e w' h; exact h
  intro P' hP'
  cbv
  repeat' (first | refine And.intro ?_ ?_ | (intro _; cbv) | (refine tst_mk (fun h => ?_) (fun h => ?_) <;> cbv) | (refine LookX.nil ?_; cbv) | (refine LookX.auto hκ ?_; cbv))
  all_goals (clear hH; subst hκ; delta kid at *; (try dsimp only at *))
  all_goals (try (exact ⟨trivial⟩))
  all_goals (try (exact ⟨by decide⟩))
  all_goals (first | (have h0 : (Int.tmod a 4096 != 0) = true := (by with_reducible assumption); skip) | (have h0 : (sizeE n != 0) = true := (by with_reducible assumption); skip) | (show IsX _ _ _; have hb := rrange_bad hside (bne_no (x := sizeE n) (by with_reducible assumption)); refine IsX.val_ ?_; simp only [SV.den, SV.den0, C.den, List.map_cons, List.map_nil, rangeLo, rangeHi, rangeC, rangeE, ← hb]; clear hb; simp only [*, Bool.or_true, Bool.true_or, Bool.or_false, Bool.false_or, Bool.and_true, Bool.true_and, Bool.and_false, Bool.false_and, Bool.not_true, Bool.not_false, if_true, if_false, Bool.false_eq_true]))
  all_goals (try (show IsX _ _ _; refine IsX.val_ ?_; simp only [SV.den, SV.den0, C.den, List.map_cons, List.map_nil, rangeLo, rangeHi, rangeC, rangeE, rangeBad, GT.gt, GE.ge]; (try simp only [*, Bool.or_true, Bool.true_or, Bool.or_false, Bool.false_or, Bool.and_true, Bool.true_and, Bool.and_false, Bool.false_and, Bool.not_true, Bool.not_false, if_true, if_false, Bool.false_eq_true]); (first | done | rfl | (exfalso; simp_all; done) | skip)))
def e_rrange {κ : Kp} (hκ : κ = kid) : ESpec Tryz.prog := fnES [.flat, .flat] b_rrange F_rrange hκ fun avs p r hF hp => by
  unfold F_rrange at hF
  split at hF
  case h_2 => cases hF
  rename_i a n
  simp only [kid, Option.some.injEq, Prod.mk.injEq] at hF
  obtain ⟨rfl, rfl⟩ := hF
  refine ⟨trivial, fun vs w hR => ?_⟩
  obtain ⟨vs0, rfl, hR⟩ := hR
  obtain ⟨vs1, rfl, hR⟩ := hR
  have hR' : vs1 = [] := hR
  subst hR'
  exact k_rrange a n hp w
theorem b_rback : Bodied Tryz.prog 53 := bodied Tryz.func53 rfl (by decide)
def F_rback : FunX := fun κ avs => match avs with
  | [.val (.c (.v (.int .i64 b))), .val (.c (.v (.int .i64 o))), .val (.c (.v (.int .i64 s)))] => some (κ _ (In64 o ∧ SzOk s), (.val (.c (.v (.int .i64 (κ _ (backE b o s)))))))
  | _ => none
set_option maxRecDepth 100000 in
set_option maxHeartbeats 4000000 in
theorem k_rback (b : Int) (o : Int) (s : Int) (hside : In64 o ∧ SzOk s) (w : World) :
    Calls Tryz.prog 53 #[(SV.c (.v (.int .i64 b))).den, (SV.c (.v (.int .i64 o))).den, (SV.c (.v (.int .i64 s))).den] w fun e w' => ∃ v H', e = .returned v.den ∧ IsX (.val (.c (.v (.int .i64 (backE b o s))))) v H' ∧ HSat w (fun _ => False) H' w' := by
  obtain ⟨κ, hκ⟩ : ∃ κ : Kp, κ = kid := ⟨_, rfl⟩
  have hH : HSat w (fun _ => False) (heapOf [(nilId, .rd none 1 0 [])]) w := by
    subst hκ
    refine HSat.reads fun p hp => ?_
    simp only [List.mem_cons, List.not_mem_nil, or_false] at hp
    rcases hp with rfl
    · exact ⟨_, _, _, _, rfl, nil_holds w⟩
  refine (callsP (n := 36) FTok [] mixed [] Tryz.func53 rfl (by kernel_rfl) #[(SV.c (.v (.int .i64 b))).den, (SV.c (.v (.int .i64 o))).den, (SV.c (.v (.int .i64 s))).den] [(0, .c (.v (.int .i64 b))), (1, .c (.v (.int .i64 o))), (2, .c (.v (.int .i64 s)))] _ w rfl [.tmp 6] rfl (by simp) (by subst hκ; simp [SV.den, C.den, kid]) hH (fun v H' => IsX (.val (.c (.v (.int .i64 (κ _ (backE b o s)))))) v H') hκ ?_).mono ?_
  rotate_left
  · subst hκ; intro e w' h; exact h
  intro P' hP'
  cbv
  repeat' (first | refine And.intro ?_ ?_ | (intro _; cbv) | (refine tst_mk (fun h => ?_) (fun h => ?_) <;> cbv) | (refine LookX.nil ?_; cbv) | (refine LookX.auto hκ ?_; cbv))
  all_goals (clear hH; subst hκ; delta kid at *; (try dsimp only at *))
  all_goals (try (exact ⟨by decide⟩))
  all_goals (have hb := rback_bad hside.1 hside.2)
  all_goals (show IsX _ _ _; refine IsX.val_ ?_; simp only [SV.den, SV.den0, C.den, List.map_cons, List.map_nil, backE, backBad, GT.gt, GE.ge]; simp only [GT.gt] at hb; (try simp only [← hb]); clear hb; simp only [*, Bool.or_true, Bool.true_or, Bool.or_false, Bool.false_or, Bool.and_true, Bool.true_and, Bool.and_false, Bool.false_and, Bool.not_true, Bool.not_false, if_true, if_false, Bool.false_eq_true]; (try rfl))
def e_rback {κ : Kp} (hκ : κ = kid) : ESpec Tryz.prog := fnES [.flat, .flat, .flat] b_rback F_rback hκ fun avs p r hF hp => by
  unfold F_rback at hF
  split at hF
  case h_2 => cases hF
  rename_i b o s
  simp only [kid, Option.some.injEq, Prod.mk.injEq] at hF
  obtain ⟨rfl, rfl⟩ := hF
  refine ⟨trivial, fun vs w hR => ?_⟩
  obtain ⟨vs0, rfl, hR⟩ := hR
  obtain ⟨vs1, rfl, hR⟩ := hR
  obtain ⟨vs2, rfl, hR⟩ := hR
  have hR' : vs2 = [] := hR
  subst hR'
  exact k_rback b o s hp w
theorem b_clone : Bodied Tryz.prog 12 := bodied Tryz.func12 rfl (by decide)
def F_clone : FunX := fun κ avs => match avs with
  | [.lst l xl] => some (κ _ (l.length ≤ 300000), (.row 49 6 ((κ _ ((l).length))) ((κ _ (encL (l)))) (fun x => .c x)))
  | _ => none
set_option maxRecDepth 100000 in
set_option maxHeartbeats 4000000 in
theorem k_clone (l : List Ar) (Al : Option Addr) (cl : Nat) (hside : l.length ≤ 300000) (w : World) (hl : (Ent.rd Al 6 l.length (encL l)).holds w) :
    Calls Tryz.prog 12 #[.slice Al l.length cl] w fun e w' => ∃ v H', e = .returned v.den ∧ IsX (.row 49 6 (((l).length)) ((encL (l))) (fun x => .c x)) v H' ∧ HSat w (fun _ => False) H' w' := by
  obtain ⟨κ, hκ⟩ : ∃ κ : Kp, κ = kid := ⟨_, rfl⟩
  have hH : HSat w (fun _ => False) (heapOf [(nilId, .rd none 1 0 []), (200000, .rd Al 6 (κ _ l.length) (κ _ (encL l)))]) w := by
    subst hκ
    refine HSat.reads fun p hp => ?_
    simp only [List.mem_cons, List.not_mem_nil, or_false] at hp
    rcases hp with rfl | rfl
    · exact ⟨_, _, _, _, rfl, nil_holds w⟩
    · exact ⟨_, _, _, _, rfl, hl⟩
  refine (callsP (n := 8) FTok [] mixed [] Tryz.func12 rfl (by kernel_rfl) #[.slice Al l.length cl] [(0, .c (.sl 200000 Al (κ _ l.length) cl))] _ w rfl [.tmp 2] rfl (by simp) (by subst hκ; simp [SV.den, C.den, kid]) hH (fun v H' => IsX (.row 49 6 ((κ _ ((l).length))) ((κ _ (encL (l)))) (fun x => .c x)) v H') hκ ?_).mono ?_
  rotate_left
  · subst hκ; intro e w' h; exact h
  intro P' hP'
  cbv
  repeat' (first | refine And.intro ?_ ?_ | (intro _; cbv) | (refine tst_mk (fun h => ?_) (fun h => ?_) <;> cbv) | (refine LookX.nil ?_; cbv) | (refine LookX.auto hκ ?_; cbv))
  all_goals (try (show Side _; refine ⟨?_⟩; subst hκ; delta kid at *; first | exact rfl | exact trivial | exact ⟨rfl, rfl, .inl rfl⟩ | ((try dsimp only at *); (try simp only [setTo_len, noS_len, List.length_append, List.length_cons, List.length_nil, List.length_map, and_self, true_or, or_true, eq_self, true_and, and_true, Nat.zero_add, Nat.add_zero]); (first | done | omega); done)))
  all_goals (clear hH; subst hκ; delta kid at *; (try dsimp only at *))
  · exact IsX.nil_ (nil_of_none hl (by with_reducible assumption)) rfl
  all_goals (try simp only [Nat.zero_add, List.nil_append])
  all_goals (try (refine ⟨?_⟩; simp only [maxLen]; omega))
  all_goals (try (exact ⟨⟨trivial, trivial, .inl trivial, encL_ok l⟩⟩))
  all_goals (first | exact IsX.row_ rfl rfl rfl | trace_state)
def e_clone {κ : Kp} (hκ : κ = kid) : ESpec Tryz.prog := fnES [.list] b_clone F_clone hκ fun avs p r hF hp => by
  unfold F_clone at hF
  split at hF
  case h_2 => cases hF
  rename_i l xl
  simp only [kid, Option.some.injEq, Prod.mk.injEq] at hF
  obtain ⟨rfl, rfl⟩ := hF
  refine ⟨fun x y h => by simp [SV.den, SV.den0, h], fun vs w hR => ?_⟩
  obtain ⟨il, Al, cl, vs0, rfl, rfl, hl, hR⟩ := hR
  have hR' : vs0 = [] := hR
  subst hR'
  exact k_clone l Al cl hp w hl
end Go.Proofs.YtbcicjmepojlnaaGreat.Eng
