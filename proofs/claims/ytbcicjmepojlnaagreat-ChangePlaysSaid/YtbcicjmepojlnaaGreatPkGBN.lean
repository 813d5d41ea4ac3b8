/- Texts of this work, laid together: symbolic execution over the model, contracts of the program's functions, what they come to; conditions: as each says. -/
import Derived.Test.YtbcicjmepojlnaaGreatPkGBA
import Derived.Test.YtbcicjmepojlnaaGreatPkGBM
/- Remap: the pure forms; no condition but those typed. -/
namespace Go.Proofs.YtbcicjmepojlnaaGreat.Eng
open Go Go.RowKit
set_option autoImplicit false
set_option linter.unusedSimpArgs false
set_option linter.unusedVariables false
def rmFl (f : Int) : Int := if (flagsE f 49 != 0) = true then flagsE f 49 else if ((bits .and .i64 f 16 == 0) && bitB f 33) = true then 1 else 0
def rmE0 (c : Cl) : Int := if (rmFl c.f != 0) = true then rmFl c.f else if (rangeE c.a c.n != 0) = true then rangeE c.a c.n else if (sizeE c.w != 0) = true then sizeE c.w else if (bitB c.f 32 && (sizeV c.w != w64 (rangeHi c.a c.n - rangeLo c.a c.n))) = true then 1 else 0
def rmE (l : List Ar) (c : Cl) : Int := if (!mayS l) = true then 1 else if (rmE0 c != 0) = true then rmE0 c else if (!foundL l (rangeLo c.a c.n) || decide ((findL l (rangeLo c.a c.n)).e < rangeHi c.a c.n)) = true then 7 else 0
def rdLo (l : List Ar) (c : Cl) (z : Int) : Int := if (mayS l && (rmFl c.f == 0)) = true then rangeLo c.a c.n else z
def rdHi (l : List Ar) (c : Cl) (z : Int) : Int := if (mayS l && (rmFl c.f == 0)) = true then rangeHi c.a c.n else z
def rdSz (l : List Ar) (c : Cl) (z : Int) : Int := if (mayS l && ((rmFl c.f == 0) && (rangeE c.a c.n == 0))) = true then sizeV c.w else z
def rdW (l : List Ar) (c : Cl) (z : Ar) : Ar := if (rmE l c == 0) = true then findL l (rangeLo c.a c.n) else z
def rdO (l : List Ar) (c : Cl) (z : Ar) : Ar := if (rmE l c == 0) = true then partA (findL l (rangeLo c.a c.n)) (rangeLo c.a c.n) (rangeHi c.a c.n) else z
def longK (b o n : Int) : Bool := (b != 0) && decide (o > w64 (1099511627776 - n))
def mvA (o : Ar) (p n : Int) : Ar := ⟨p, w64 (p + n), o.p, o.sh, o.b, o.o⟩
def mvL (l : List Ar) (f lo hi : Int) (o : Ar) (p n : Int) : List Ar := putL (if bitB f 32 = true then l else cutL l lo hi) (mvA o p n)
def kfE (c : Cl) (lo hi n : Int) (o : Ar) : Int := if (rangeE c.to c.w != 0) = true then rangeE c.to c.w else if (decide (rangeLo c.to c.w < hi) && decide (rangeHi c.to c.w > lo)) = true then 1 else if longK o.b o.o n = true then 4 else 0
def kfL (l : List Ar) (c : Cl) (lo hi n : Int) (o : Ar) : List Ar := if (kfE c lo hi n o != 0) = true then l else keptL l (mvL l c.f lo hi o (rangeLo c.to c.w) n)
def kfN (l : List Ar) (c : Cl) (lo hi n : Int) (o : Ar) : An := if (kfE c lo hi n o != 0) = true then errA (kfE c lo hi n o) else keptN (mvL l c.f lo hi o (rangeLo c.to c.w) n) (rangeLo c.to c.w)
def kaL (l : List Ar) (f lo hi n : Int) (o : Ar) : List Ar := if (placeE l 0 n 0 != 0) = true then l else keptL l (mvL l f lo hi o (placeV l 0 n 0) n)
def kaN (l : List Ar) (f lo hi n : Int) (o : Ar) : An := if (placeE l 0 n 0 != 0) = true then errA (placeE l 0 n 0) else keptN (mvL l f lo hi o (placeV l 0 n 0) n) (placeV l 0 n 0)
def growB (l : List Ar) (lo hi n e : Int) : Bool := (e == hi) && fitsL l hi (w64 (n - w64 (hi - lo)))
def growA (o : Ar) (lo n : Int) : Ar := ⟨o.s, w64 (lo + n), o.p, o.sh, o.b, o.o⟩
def kgL (l : List Ar) (f lo hi n e : Int) (o : Ar) : List Ar := if longK o.b o.o n = true then l else if growB l lo hi n e = true then keptL l (putL l (growA o lo n)) else if bitB f 16 = true then kaL l f lo hi n o else l
def kgN (l : List Ar) (f lo hi n e : Int) (o : Ar) : An := if longK o.b o.o n = true then errA 4 else if growB l lo hi n e = true then keptN (putL l (growA o lo n)) lo else if bitB f 16 = true then kaN l f lo hi n o else errA 5
abbrev rmLo (c : Cl) : Int := rangeLo c.a c.n
abbrev rmHi (c : Cl) : Int := rangeHi c.a c.n
abbrev rmW (l : List Ar) (c : Cl) : Ar := findL l (rangeLo c.a c.n)
abbrev rmO (l : List Ar) (c : Cl) : Ar := partA (findL l (rangeLo c.a c.n)) (rangeLo c.a c.n) (rangeHi c.a c.n)
def remK (l : List Ar) (c : Cl) : List Ar := if bitB c.f 1 = true then kfL l c (rmLo c) (rmHi c) (sizeV c.w) (rmO l c) else if bitB c.f 32 = true then kaL l c.f (rmLo c) (rmHi c) (sizeV c.w) (rmO l c) else if decide (sizeV c.w ≤ w64 (rmHi c - rmLo c)) = true then keptL l (cutL l (w64 (rmLo c + sizeV c.w)) (rmHi c)) else kgL l c.f (rmLo c) (rmHi c) (sizeV c.w) (rmW l c).e (rmO l c)
def remM (l : List Ar) (c : Cl) : An := if bitB c.f 1 = true then kfN l c (rmLo c) (rmHi c) (sizeV c.w) (rmO l c) else if bitB c.f 32 = true then kaN l c.f (rmLo c) (rmHi c) (sizeV c.w) (rmO l c) else if decide (sizeV c.w ≤ w64 (rmHi c - rmLo c)) = true then keptN (cutL l (w64 (rmLo c + sizeV c.w)) (rmHi c)) (rmLo c) else kgN l c.f (rmLo c) (rmHi c) (sizeV c.w) (rmW l c).e (rmO l c)
def remL (l : List Ar) (c : Cl) : List Ar := if (rmE l c != 0) = true then l else remK l c
def remN (l : List Ar) (c : Cl) : An := if (rmE l c != 0) = true then errA (rmE l c) else remM l c
theorem rm_ok0 {l : List Ar} {c : Cl} (h : rmE l c = 0) : mayS l = true ∧ rmFl c.f = 0 ∧ rangeE c.a c.n = 0 ∧ sizeE c.w = 0 ∧ (bitB c.f 32 && (sizeV c.w != w64 (rangeHi c.a c.n - rangeLo c.a c.n))) = false ∧ foundL l (rangeLo c.a c.n) = true ∧ decide ((findL l (rangeLo c.a c.n)).e < rangeHi c.a c.n) = false := by
  unfold rmE at h
  cases hm : mayS l with
  | false => rw [hm] at h; cases h
  | true =>
    rw [hm, if_neg (by simp)] at h
    by_cases h0 : rmE0 c = 0
    · rw [h0, if_neg (by simp)] at h
      have hf : foundL l (rangeLo c.a c.n) = true ∧ decide ((findL l (rangeLo c.a c.n)).e < rangeHi c.a c.n) = false := by
        cases h1 : foundL l (rangeLo c.a c.n) with
        | false => rw [h1] at h; cases h
        | true =>
          cases h2 : decide ((findL l (rangeLo c.a c.n)).e < rangeHi c.a c.n) with
          | true => rw [h1, h2] at h; cases h
          | false => exact ⟨rfl, rfl⟩
      unfold rmE0 at h0
      by_cases k1 : rmFl c.f = 0
      · rw [k1, if_neg (by simp)] at h0
        by_cases k2 : rangeE c.a c.n = 0
        · rw [k2, if_neg (by simp)] at h0
          by_cases k3 : sizeE c.w = 0
          · rw [k3, if_neg (by simp)] at h0
            cases k4 : (bitB c.f 32 && (sizeV c.w != w64 (rangeHi c.a c.n - rangeLo c.a c.n))) with
            | true => rw [k4] at h0; cases h0
            | false => exact ⟨rfl, k1, k2, k3, rfl, hf⟩
          · rw [if_pos (by simpa using k3)] at h0; exact absurd h0 k3
        · rw [if_pos (by simpa using k2)] at h0; exact absurd h0 k2
      · rw [if_pos (by simpa using k1)] at h0; exact absurd h0 k1
    · rw [if_pos (by simpa using h0)] at h; exact absurd h h0
theorem rd_ok {l : List Ar} {c : Cl} (h : rmE l c = 0) (z : Int) (y : Ar) : rdLo l c z = rmLo c ∧ rdHi l c z = rmHi c ∧ rdSz l c z = sizeV c.w ∧ rdW l c y = rmW l c ∧ rdO l c y = rmO l c := by
  obtain ⟨h1, h2, h3, _⟩ := rm_ok0 h
  unfold rdLo rdHi rdSz rdW rdO
  rw [h1, h2, h3, h]
  exact ⟨rfl, rfl, rfl, rfl, rfl⟩
theorem mvL_bd (l : List Ar) (f lo hi : Int) (o : Ar) (p n : Int) : (mvL l f lo hi o p n).length ≤ 2000 := put_bd _ _
end Go.Proofs.YtbcicjmepojlnaaGreat.Eng
/- Contracts of functions (printed by genx.py of this work): what each hands back; condition: as its 'hside' says. -/
namespace Go.Proofs.YtbcicjmepojlnaaGreat.Eng
open Go Go.RowKit
set_option linter.unusedVariables false
set_option linter.unusedSimpArgs false
theorem b_rmflags : Bodied Tryz.prog 82 := bodied Tryz.func82 rfl (by decide)
def F_rmflags : FunX := fun κ avs => match avs with
  | [.val (.c (.v (.int .i64 f)))] => some (κ _ (True), (.val (.c (.v (.int .i64 (κ _ (rmFl f)))))))
  | _ => none
set_option maxRecDepth 100000 in
set_option maxHeartbeats 4000000 in
theorem k_rmflags (f : Int) (hside : True) (w : World) :
    Calls Tryz.prog 82 #[(SV.c (.v (.int .i64 f))).den] w fun e w' => ∃ v H', e = .returned v.den ∧ IsX (.val (.c (.v (.int .i64 (rmFl f))))) v H' ∧ HSat w (fun _ => False) H' w' := by
  obtain ⟨κ, hκ⟩ : ∃ κ : Kp, κ = kid := ⟨_, rfl⟩
  have hH : HSat w (fun _ => False) (heapOf [(nilId, .rd none 1 0 [])]) w := by
    subst hκ
    refine HSat.reads fun p hp => ?_
    simp only [List.mem_cons, List.not_mem_nil, or_false] at hp
    rcases hp with rfl
    · exact ⟨_, _, _, _, rfl, nil_holds w⟩
  refine (callsP (n := 17) FTok [e_flags hκ] mixed [] Tryz.func82 rfl (by kernel_rfl) #[(SV.c (.v (.int .i64 f))).den] [(0, .c (.v (.int .i64 f)))] _ w rfl [.tmp 2] rfl (by simp) (by subst hκ; simp [SV.den, C.den, kid]) hH (fun v H' => IsX (.val (.c (.v (.int .i64 (κ _ (rmFl f)))))) v H') hκ ?_).mono ?_
  rotate_left
  · subst hκ; intro e w' h; exact h
  intro P' hP'
  cbv
  repeat' (first | refine And.intro ?_ ?_ | (intro _; cbv) | (refine tst_mk (fun h => ?_) (fun h => ?_) <;> cbv) | (refine LookX.nil ?_; cbv) | (refine LookX.auto hκ ?_; cbv))
  all_goals (try (show Side _; refine ⟨?_⟩; subst hκ; delta kid at *; first | exact rfl | exact trivial | exact ⟨rfl, rfl, .inl rfl⟩ | ((try dsimp only at *); (try simp only [setTo_len, noS_len, List.length_append, List.length_cons, List.length_nil, List.length_map, and_self, true_or, or_true, eq_self, true_and, and_true, Nat.zero_add, Nat.add_zero]); (first | done | omega); done)))
  all_goals (clear hH; subst hκ; delta kid at *; (try dsimp only at *))
  all_goals (try (exact ⟨trivial⟩))
  all_goals (try (exact ⟨by decide⟩))
  all_goals (show IsX _ _ _; refine IsX.val_ ?_; simp only [SV.den, SV.den0, C.den, List.map_cons, List.map_nil, rmFl, bitB, GT.gt, GE.ge]; (try simp only [*, Bool.or_true, Bool.true_or, Bool.or_false, Bool.false_or, Bool.and_true, Bool.true_and, Bool.and_false, Bool.false_and, Bool.not_true, Bool.not_false, if_true, if_false, Bool.false_eq_true]); (first | done | rfl | (exfalso; simp_all; done) | skip))
def e_rmflags {κ : Kp} (hκ : κ = kid) : ESpec Tryz.prog := fnES [.flat] b_rmflags F_rmflags hκ fun avs p r hF hp => by
  unfold F_rmflags at hF
  split at hF
  case h_2 => cases hF
  rename_i f
  simp only [kid, Option.some.injEq, Prod.mk.injEq] at hF
  obtain ⟨rfl, rfl⟩ := hF
  refine ⟨trivial, fun vs w hR => ?_⟩
  obtain ⟨vs0, rfl, hR⟩ := hR
  have hR' : vs0 = [] := hR
  subst hR'
  exact k_rmflags f hp w
end Go.Proofs.YtbcicjmepojlnaaGreat.Eng
/- Contracts of functions (printed by genk.py of this work): what each hands back; condition: as its 'hside' says. -/
namespace Go.Proofs.YtbcicjmepojlnaaGreat.Eng
open Go Go.RowKit
set_option linter.unusedVariables false
set_option linter.unusedSimpArgs false
theorem b_khas : Bodied Tryz.prog 41 := bodied Tryz.func41 rfl (by decide)
def F_khas : FunK := fun κ l cs rest => match cs, rest with
  | [.v (.int .i64 c1), .v (.int .i64 c2), .v (.int .i64 c3), .v (.int .i64 c4), .v (.int .i64 c5), .v (.int .i64 c6), .v (.int .i64 c7), .v (.int .i64 c8), .v (.int .i64 c9), .v (.int .i64 lo), .v (.int .i64 hi), .v (.int .i64 sz), .v (.int .i64 o1), .v (.int .i64 o2), .v (.int .i64 o3), .v (.bool o4), .v (.int .i64 o5), .v (.int .i64 o6), .v (.int .i64 w1), .v (.int .i64 w2), .v (.int .i64 w3), .v (.bool w4), .v (.int .i64 w5), .v (.int .i64 w6)], [.c (.v (.int .i64 g))] => some (κ _ (True), (.val (.c (.v (.bool (κ _ (bitB c7 g)))))), none)
  | _, _ => none
set_option maxRecDepth 100000 in
set_option maxHeartbeats 4000000 in
theorem k_khas (l : List Ar) (c1 : Int) (c2 : Int) (c3 : Int) (c4 : Int) (c5 : Int) (c6 : Int) (c7 : Int) (c8 : Int) (c9 : Int) (lo : Int) (hi : Int) (sz : Int) (o1 : Int) (o2 : Int) (o3 : Int) (o4 : Bool) (o5 : Int) (o6 : Int) (w1 : Int) (w2 : Int) (w3 : Int) (w4 : Bool) (w5 : Int) (w6 : Int) (g : Int) (hside : True) (b : Nat) (Al : Option Addr) (cl : Nat) (w : World) (hin : InK b 72 [.v (.int .i64 c1), .v (.int .i64 c2), .v (.int .i64 c3), .v (.int .i64 c4), .v (.int .i64 c5), .v (.int .i64 c6), .v (.int .i64 c7), .v (.int .i64 c8), .v (.int .i64 c9), .v (.int .i64 lo), .v (.int .i64 hi), .v (.int .i64 sz), .v (.int .i64 o1), .v (.int .i64 o2), .v (.int .i64 o3), .v (.bool o4), .v (.int .i64 o5), .v (.int .i64 o6), .v (.int .i64 w1), .v (.int .i64 w2), .v (.int .i64 w3), .v (.bool w4), .v (.int .i64 w5), .v (.int .i64 w6)] l Al cl w) :
    Calls Tryz.prog 41 #[.pointer (some ⟨b, 0, none⟩), (SV.c (.v (.int .i64 g))).den] w fun e w' => ∃ v H', e = .returned v.den ∧ IsP (.val (.c (.v (.bool (bitB c7 g))))) (.blk b 72 (.sl 200010 Al (l.length) cl :: [.v (.int .i64 c1), .v (.int .i64 c2), .v (.int .i64 c3), .v (.int .i64 c4), .v (.int .i64 c5), .v (.int .i64 c6), .v (.int .i64 c7), .v (.int .i64 c8), .v (.int .i64 c9), .v (.int .i64 lo), .v (.int .i64 hi), .v (.int .i64 sz), .v (.int .i64 o1), .v (.int .i64 o2), .v (.int .i64 o3), .v (.bool o4), .v (.int .i64 o5), .v (.int .i64 o6), .v (.int .i64 w1), .v (.int .i64 w2), .v (.int .i64 w3), .v (.bool w4), .v (.int .i64 w5), .v (.int .i64 w6)])) v H' ∧ HSat w (fun g => g = b) H' w' := by
  obtain ⟨κ, hκ⟩ : ∃ κ : Kp, κ = kid := ⟨_, rfl⟩
  have hH : HSat w (fun g => g = b) (heapOf (EK κ b 72 [.v (.int .i64 c1), .v (.int .i64 c2), .v (.int .i64 c3), .v (.int .i64 c4), .v (.int .i64 c5), .v (.int .i64 c6), .v (.int .i64 c7), .v (.int .i64 c8), .v (.int .i64 c9), .v (.int .i64 lo), .v (.int .i64 hi), .v (.int .i64 sz), .v (.int .i64 o1), .v (.int .i64 o2), .v (.int .i64 o3), .v (.bool o4), .v (.int .i64 o5), .v (.int .i64 o6), .v (.int .i64 w1), .v (.int .i64 w2), .v (.int .i64 w3), .v (.bool w4), .v (.int .i64 w5), .v (.int .i64 w6)] l Al cl)) w := by subst hκ; exact hin.h
  unfold EK at hH
  refine (callsP (n := 13) FTok [] mixed [] Tryz.func41 rfl (by kernel_rfl) #[.pointer (some ⟨b, 0, none⟩), (SV.c (.v (.int .i64 g))).den] [(0, .c (.loc 200000 b 0)), (1, .c (.v (.int .i64 g)))] _ w rfl [.tmp 4] rfl (by simp) (by subst hκ; simp [SV.den, C.den, kid]) hH (fun v H' => IsP (.val (.c (.v (.bool (κ _ (bitB c7 g)))))) (.blk b 72 (.sl 200010 Al (κ _ (l.length)) cl :: [.v (.int .i64 c1), .v (.int .i64 c2), .v (.int .i64 c3), .v (.int .i64 c4), .v (.int .i64 c5), .v (.int .i64 c6), .v (.int .i64 c7), .v (.int .i64 c8), .v (.int .i64 c9), .v (.int .i64 lo), .v (.int .i64 hi), .v (.int .i64 sz), .v (.int .i64 o1), .v (.int .i64 o2), .v (.int .i64 o3), .v (.bool o4), .v (.int .i64 o5), .v (.int .i64 o6), .v (.int .i64 w1), .v (.int .i64 w2), .v (.int .i64 w3), .v (.bool w4), .v (.int .i64 w5), .v (.int .i64 w6)])) v H') hκ ?_).mono ?_
  rotate_left
  · subst hκ; intro e w' h; exact h
  intro P' hP'
  cbv
  repeat' (first | refine And.intro ?_ ?_ | (intro _; cbv) | (refine tst_mk (fun h => ?_) (fun h => ?_) <;> cbv) | (refine LookX.nil ?_; cbv) | (refine LookX.auto hκ ?_; cbv))
  all_goals (try (show Side _; refine ⟨?_⟩; subst hκ; delta kid at *; first | exact rfl | exact trivial | exact ⟨rfl, rfl, .inl rfl⟩ | ((try dsimp only at *); (try simp only [setTo_len, noS_len, List.length_append, List.length_cons, List.length_nil, List.length_map, and_self, true_or, or_true, eq_self, true_and, and_true, Nat.zero_add, Nat.add_zero]); (first | done | omega); done)))
  all_goals (clear hH; subst hκ; delta kid at *; (try dsimp only at *))
  all_goals (try (exact ⟨trivial⟩))
  all_goals (try (exact ⟨by decide⟩))
  all_goals (show IsP _ _ _ _; refine IsP.mk' (IsX.val_ ?_) rfl ?_ <;> simp only [SV.den, SV.den0, C.den, List.map_cons, List.map_nil, bitB, GT.gt, GE.ge] <;> (try simp only [*, Bool.or_true, Bool.true_or, Bool.or_false, Bool.false_or, Bool.and_true, Bool.true_and, Bool.and_false, Bool.false_and, Bool.not_true, Bool.not_false, if_true, if_false, Bool.false_eq_true]) <;> (first | done | rfl | (exfalso; simp_all; done) | skip))
def e_khas {κ : Kp} (hκ : κ = kid) : ESpec Tryz.prog := recES 72 b_khas F_khas false (fun _ l cs rest p r o hF => by unfold F_khas at hF; split at hF <;> first | (injection hF with hF; injection hF with _ hF; injection hF with _ hF; exact hF.symm) | cases hF) hκ fun l cs rest p r o hF hp => by
  unfold F_khas at hF
  split at hF
  case h_2 => cases hF
  rename_i c1 c2 c3 c4 c5 c6 c7 c8 c9 lo hi sz o1 o2 o3 o4 o5 o6 w1 w2 w3 w4 w5 w6 g
  simp only [kid, Option.some.injEq, Prod.mk.injEq] at hF
  obtain ⟨rfl, rfl, rfl⟩ := hF
  exact ⟨trivial, fun b A c w hin => k_khas l c1 c2 c3 c4 c5 c6 c7 c8 c9 lo hi sz o1 o2 o3 o4 o5 o6 w1 w2 w3 w4 w5 w6 g hp b A c w hin⟩
theorem b_klong : Bodied Tryz.prog 84 := bodied Tryz.func84 rfl (by decide)
def F_klong : FunK := fun κ l cs rest => match cs, rest with
  | [.v (.int .i64 c1), .v (.int .i64 c2), .v (.int .i64 c3), .v (.int .i64 c4), .v (.int .i64 c5), .v (.int .i64 c6), .v (.int .i64 c7), .v (.int .i64 c8), .v (.int .i64 c9), .v (.int .i64 lo), .v (.int .i64 hi), .v (.int .i64 sz), .v (.int .i64 o1), .v (.int .i64 o2), .v (.int .i64 o3), .v (.bool o4), .v (.int .i64 o5), .v (.int .i64 o6), .v (.int .i64 w1), .v (.int .i64 w2), .v (.int .i64 w3), .v (.bool w4), .v (.int .i64 w5), .v (.int .i64 w6)], [] => some (κ _ (True), (.val (.c (.v (.bool (κ _ (longK o5 o6 sz)))))), none)
  | _, _ => none
set_option maxRecDepth 100000 in
set_option maxHeartbeats 4000000 in
theorem k_klong (l : List Ar) (c1 : Int) (c2 : Int) (c3 : Int) (c4 : Int) (c5 : Int) (c6 : Int) (c7 : Int) (c8 : Int) (c9 : Int) (lo : Int) (hi : Int) (sz : Int) (o1 : Int) (o2 : Int) (o3 : Int) (o4 : Bool) (o5 : Int) (o6 : Int) (w1 : Int) (w2 : Int) (w3 : Int) (w4 : Bool) (w5 : Int) (w6 : Int) (hside : True) (b : Nat) (Al : Option Addr) (cl : Nat) (w : World) (hin : InK b 72 [.v (.int .i64 c1), .v (.int .i64 c2), .v (.int .i64 c3), .v (.int .i64 c4), .v (.int .i64 c5), .v (.int .i64 c6), .v (.int .i64 c7), .v (.int .i64 c8), .v (.int .i64 c9), .v (.int .i64 lo), .v (.int .i64 hi), .v (.int .i64 sz), .v (.int .i64 o1), .v (.int .i64 o2), .v (.int .i64 o3), .v (.bool o4), .v (.int .i64 o5), .v (.int .i64 o6), .v (.int .i64 w1), .v (.int .i64 w2), .v (.int .i64 w3), .v (.bool w4), .v (.int .i64 w5), .v (.int .i64 w6)] l Al cl w) :
    Calls Tryz.prog 84 #[.pointer (some ⟨b, 0, none⟩)] w fun e w' => ∃ v H', e = .returned v.den ∧ IsP (.val (.c (.v (.bool (longK o5 o6 sz))))) (.blk b 72 (.sl 200010 Al (l.length) cl :: [.v (.int .i64 c1), .v (.int .i64 c2), .v (.int .i64 c3), .v (.int .i64 c4), .v (.int .i64 c5), .v (.int .i64 c6), .v (.int .i64 c7), .v (.int .i64 c8), .v (.int .i64 c9), .v (.int .i64 lo), .v (.int .i64 hi), .v (.int .i64 sz), .v (.int .i64 o1), .v (.int .i64 o2), .v (.int .i64 o3), .v (.bool o4), .v (.int .i64 o5), .v (.int .i64 o6), .v (.int .i64 w1), .v (.int .i64 w2), .v (.int .i64 w3), .v (.bool w4), .v (.int .i64 w5), .v (.int .i64 w6)])) v H' ∧ HSat w (fun g => g = b) H' w' := by
  obtain ⟨κ, hκ⟩ : ∃ κ : Kp, κ = kid := ⟨_, rfl⟩
  have hH : HSat w (fun g => g = b) (heapOf (EK κ b 72 [.v (.int .i64 c1), .v (.int .i64 c2), .v (.int .i64 c3), .v (.int .i64 c4), .v (.int .i64 c5), .v (.int .i64 c6), .v (.int .i64 c7), .v (.int .i64 c8), .v (.int .i64 c9), .v (.int .i64 lo), .v (.int .i64 hi), .v (.int .i64 sz), .v (.int .i64 o1), .v (.int .i64 o2), .v (.int .i64 o3), .v (.bool o4), .v (.int .i64 o5), .v (.int .i64 o6), .v (.int .i64 w1), .v (.int .i64 w2), .v (.int .i64 w3), .v (.bool w4), .v (.int .i64 w5), .v (.int .i64 w6)] l Al cl)) w := by subst hκ; exact hin.h
  unfold EK at hH
  refine (callsP (n := 22) FTok [] mixed [(1, [[], [], [], [], [], [], [], [], [], [], [], [], [7, 8, 9, 10, 11], [7, 8, 9, 10, 11], [7, 8, 9, 10, 11], [7, 8, 9, 10, 11], [7, 8, 9, 10, 11], [], [], []])] Tryz.func84 rfl (by kernel_rfl) #[.pointer (some ⟨b, 0, none⟩)] [(0, .c (.loc 200000 b 0))] _ w rfl [.tmp 2] rfl (by simp) (by subst hκ; simp [SV.den, C.den, kid]) hH (fun v H' => IsP (.val (.c (.v (.bool (κ _ (longK o5 o6 sz)))))) (.blk b 72 (.sl 200010 Al (κ _ (l.length)) cl :: [.v (.int .i64 c1), .v (.int .i64 c2), .v (.int .i64 c3), .v (.int .i64 c4), .v (.int .i64 c5), .v (.int .i64 c6), .v (.int .i64 c7), .v (.int .i64 c8), .v (.int .i64 c9), .v (.int .i64 lo), .v (.int .i64 hi), .v (.int .i64 sz), .v (.int .i64 o1), .v (.int .i64 o2), .v (.int .i64 o3), .v (.bool o4), .v (.int .i64 o5), .v (.int .i64 o6), .v (.int .i64 w1), .v (.int .i64 w2), .v (.int .i64 w3), .v (.bool w4), .v (.int .i64 w5), .v (.int .i64 w6)])) v H') hκ ?_).mono ?_
  rotate_left
  · subst hκ; intro e w' h; exact h
  intro P' hP'
  cbv
  repeat' (first | refine And.intro ?_ ?_ | (intro _; cbv) | (refine tst_mk (fun h => ?_) (fun h => ?_) <;> cbv) | (refine LookX.nil ?_; cbv) | (refine LookX.auto hκ ?_; cbv))
  all_goals (try (show Side _; refine ⟨?_⟩; subst hκ; delta kid at *; first | exact rfl | exact trivial | exact ⟨rfl, rfl, .inl rfl⟩ | ((try dsimp only at *); (try simp only [setTo_len, noS_len, List.length_append, List.length_cons, List.length_nil, List.length_map, and_self, true_or, or_true, eq_self, true_and, and_true, Nat.zero_add, Nat.add_zero]); (first | done | omega); done)))
  all_goals (clear hH; subst hκ; delta kid at *; (try dsimp only at *))
  all_goals (try (exact ⟨trivial⟩))
  all_goals (try (exact ⟨by decide⟩))
  all_goals (show IsP _ _ _ _; refine IsP.mk' (IsX.val_ ?_) rfl ?_ <;> simp only [SV.den, SV.den0, C.den, List.map_cons, List.map_nil, longK, GT.gt, GE.ge] <;> (try simp only [*, Bool.or_true, Bool.true_or, Bool.or_false, Bool.false_or, Bool.and_true, Bool.true_and, Bool.and_false, Bool.false_and, Bool.not_true, Bool.not_false, if_true, if_false, Bool.false_eq_true]) <;> (first | done | rfl | (exfalso; simp_all; done) | skip))
def e_klong {κ : Kp} (hκ : κ = kid) : ESpec Tryz.prog := recES 72 b_klong F_klong false (fun _ l cs rest p r o hF => by unfold F_klong at hF; split at hF <;> first | (injection hF with hF; injection hF with _ hF; injection hF with _ hF; exact hF.symm) | cases hF) hκ fun l cs rest p r o hF hp => by
  unfold F_klong at hF
  split at hF
  case h_2 => cases hF
  rename_i c1 c2 c3 c4 c5 c6 c7 c8 c9 lo hi sz o1 o2 o3 o4 o5 o6 w1 w2 w3 w4 w5 w6 
  simp only [kid, Option.some.injEq, Prod.mk.injEq] at hF
  obtain ⟨rfl, rfl, rfl⟩ := hF
  exact ⟨trivial, fun b A c w hin => k_klong l c1 c2 c3 c4 c5 c6 c7 c8 c9 lo hi sz o1 o2 o3 o4 o5 o6 w1 w2 w3 w4 w5 w6  hp b A c w hin⟩
theorem b_kfail : Bodied Tryz.prog 40 := bodied Tryz.func40 rfl (by decide)
def F_kfail : FunK := fun κ l cs rest => match cs, rest with
  | [.v (.int .i64 c1), .v (.int .i64 c2), .v (.int .i64 c3), .v (.int .i64 c4), .v (.int .i64 c5), .v (.int .i64 c6), .v (.int .i64 c7), .v (.int .i64 c8), .v (.int .i64 c9), .v (.int .i64 lo), .v (.int .i64 hi), .v (.int .i64 sz), .v (.int .i64 o1), .v (.int .i64 o2), .v (.int .i64 o3), .v (.bool o4), .v (.int .i64 o5), .v (.int .i64 o6), .v (.int .i64 w1), .v (.int .i64 w2), .v (.int .i64 w3), .v (.bool w4), .v (.int .i64 w5), .v (.int .i64 w6)], [.c (.v (.int .i64 er))] => some (κ _ (l.length ≤ 300000), (.row 49 6 ((κ _ ((l).length))) ((κ _ (encL (l)))) (fun x => .tup [.c x, .agg [.v (.int .i64 (κ _ (er))), .v (.int .i64 0), .v (.int .i64 0), .v (.bool false), .v (.int .i64 0), .v (.int .i64 0)]])), none)
  | _, _ => none
set_option maxRecDepth 100000 in
set_option maxHeartbeats 4000000 in
theorem k_kfail (l : List Ar) (c1 : Int) (c2 : Int) (c3 : Int) (c4 : Int) (c5 : Int) (c6 : Int) (c7 : Int) (c8 : Int) (c9 : Int) (lo : Int) (hi : Int) (sz : Int) (o1 : Int) (o2 : Int) (o3 : Int) (o4 : Bool) (o5 : Int) (o6 : Int) (w1 : Int) (w2 : Int) (w3 : Int) (w4 : Bool) (w5 : Int) (w6 : Int) (er : Int) (hside : l.length ≤ 300000) (b : Nat) (Al : Option Addr) (cl : Nat) (w : World) (hin : InK b 72 [.v (.int .i64 c1), .v (.int .i64 c2), .v (.int .i64 c3), .v (.int .i64 c4), .v (.int .i64 c5), .v (.int .i64 c6), .v (.int .i64 c7), .v (.int .i64 c8), .v (.int .i64 c9), .v (.int .i64 lo), .v (.int .i64 hi), .v (.int .i64 sz), .v (.int .i64 o1), .v (.int .i64 o2), .v (.int .i64 o3), .v (.bool o4), .v (.int .i64 o5), .v (.int .i64 o6), .v (.int .i64 w1), .v (.int .i64 w2), .v (.int .i64 w3), .v (.bool w4), .v (.int .i64 w5), .v (.int .i64 w6)] l Al cl w) :
    Calls Tryz.prog 40 #[.pointer (some ⟨b, 0, none⟩), (SV.c (.v (.int .i64 er))).den] w fun e w' => ∃ v H', e = .returned v.den ∧ IsP (.row 49 6 (((l).length)) ((encL (l))) (fun x => .tup [.c x, .agg [.v (.int .i64 (er)), .v (.int .i64 0), .v (.int .i64 0), .v (.bool false), .v (.int .i64 0), .v (.int .i64 0)]])) (.blk b 72 (.sl 200010 Al (l.length) cl :: [.v (.int .i64 c1), .v (.int .i64 c2), .v (.int .i64 c3), .v (.int .i64 c4), .v (.int .i64 c5), .v (.int .i64 c6), .v (.int .i64 c7), .v (.int .i64 c8), .v (.int .i64 c9), .v (.int .i64 lo), .v (.int .i64 hi), .v (.int .i64 sz), .v (.int .i64 o1), .v (.int .i64 o2), .v (.int .i64 o3), .v (.bool o4), .v (.int .i64 o5), .v (.int .i64 o6), .v (.int .i64 w1), .v (.int .i64 w2), .v (.int .i64 w3), .v (.bool w4), .v (.int .i64 w5), .v (.int .i64 w6)])) v H' ∧ HSat w (fun g => g = b) H' w' := by
  obtain ⟨κ, hκ⟩ : ∃ κ : Kp, κ = kid := ⟨_, rfl⟩
  have hH : HSat w (fun g => g = b) (heapOf (EK κ b 72 [.v (.int .i64 c1), .v (.int .i64 c2), .v (.int .i64 c3), .v (.int .i64 c4), .v (.int .i64 c5), .v (.int .i64 c6), .v (.int .i64 c7), .v (.int .i64 c8), .v (.int .i64 c9), .v (.int .i64 lo), .v (.int .i64 hi), .v (.int .i64 sz), .v (.int .i64 o1), .v (.int .i64 o2), .v (.int .i64 o3), .v (.bool o4), .v (.int .i64 o5), .v (.int .i64 o6), .v (.int .i64 w1), .v (.int .i64 w2), .v (.int .i64 w3), .v (.bool w4), .v (.int .i64 w5), .v (.int .i64 w6)] l Al cl)) w := by subst hκ; exact hin.h
  unfold EK at hH
  refine (callsP (n := 13) FTok [e_clone hκ] mixed [] Tryz.func40 rfl (by kernel_rfl) #[.pointer (some ⟨b, 0, none⟩), (SV.c (.v (.int .i64 er))).den] [(0, .c (.loc 200000 b 0)), (1, .c (.v (.int .i64 er)))] _ w rfl [.tmp 4, .cell 5 33] rfl (by simp) (by subst hκ; simp [SV.den, C.den, kid]) hH (fun v H' => IsP (.row 49 6 ((κ _ ((l).length))) ((κ _ (encL (l)))) (fun x => .tup [.c x, .agg [.v (.int .i64 (κ _ (er))), .v (.int .i64 0), .v (.int .i64 0), .v (.bool false), .v (.int .i64 0), .v (.int .i64 0)]])) (.blk b 72 (.sl 200010 Al (κ _ (l.length)) cl :: [.v (.int .i64 c1), .v (.int .i64 c2), .v (.int .i64 c3), .v (.int .i64 c4), .v (.int .i64 c5), .v (.int .i64 c6), .v (.int .i64 c7), .v (.int .i64 c8), .v (.int .i64 c9), .v (.int .i64 lo), .v (.int .i64 hi), .v (.int .i64 sz), .v (.int .i64 o1), .v (.int .i64 o2), .v (.int .i64 o3), .v (.bool o4), .v (.int .i64 o5), .v (.int .i64 o6), .v (.int .i64 w1), .v (.int .i64 w2), .v (.int .i64 w3), .v (.bool w4), .v (.int .i64 w5), .v (.int .i64 w6)])) v H') hκ ?_).mono ?_
  rotate_left
  · subst hκ; intro e w' h; exact h
  intro P' hP'
  cbv
  repeat' (first | refine And.intro ?_ ?_ | (intro _; cbv) | (refine tst_mk (fun h => ?_) (fun h => ?_) <;> cbv) | (refine LookX.nil ?_; cbv) | (refine LookX.auto hκ ?_; cbv))
  all_goals (try (show Side _; refine ⟨?_⟩; subst hκ; delta kid at *; first | exact rfl | exact trivial | exact ⟨rfl, rfl, .inl rfl⟩ | ((try dsimp only at *); (try simp only [setTo_len, noS_len, List.length_append, List.length_cons, List.length_nil, List.length_map, and_self, true_or, or_true, eq_self, true_and, and_true, Nat.zero_add, Nat.add_zero]); (first | done | omega); done)))
  all_goals (clear hH; subst hκ; delta kid at *; (try dsimp only at *))
  all_goals (show IsP _ _ _ _; refine IsP.mk' (IsX.rowM rfl rfl (fun x => ?_) ?_) rfl rfl <;> (try simp only [errA, *, Bool.or_true, Bool.true_or, Bool.or_false, Bool.false_or, Bool.and_true, Bool.true_and, Bool.and_false, Bool.false_and, Bool.not_true, Bool.not_false, if_true, if_false, Bool.false_eq_true]) <;> (try rfl))
def e_kfail {κ : Kp} (hκ : κ = kid) : ESpec Tryz.prog := recES 72 b_kfail F_kfail false (fun _ l cs rest p r o hF => by unfold F_kfail at hF; split at hF <;> first | (injection hF with hF; injection hF with _ hF; injection hF with _ hF; exact hF.symm) | cases hF) hκ fun l cs rest p r o hF hp => by
  unfold F_kfail at hF
  split at hF
  case h_2 => cases hF
  rename_i c1 c2 c3 c4 c5 c6 c7 c8 c9 lo hi sz o1 o2 o3 o4 o5 o6 w1 w2 w3 w4 w5 w6 er
  simp only [kid, Option.some.injEq, Prod.mk.injEq] at hF
  obtain ⟨rfl, rfl, rfl⟩ := hF
  exact ⟨fun x y h => by simp [SV.den, SV.den0, h], fun b A c w hin => k_kfail l c1 c2 c3 c4 c5 c6 c7 c8 c9 lo hi sz o1 o2 o3 o4 o5 o6 w1 w2 w3 w4 w5 w6 er hp b A c w hin⟩
end Go.Proofs.YtbcicjmepojlnaaGreat.Eng
