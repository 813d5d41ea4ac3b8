/- Texts of this work, laid together: symbolic execution over the model, contracts of the program's functions, what they come to; conditions: as each says. -/
import Derived.Test.YtbcicjmepojlnaaPkGAAAA
/- Flags; the reference's Place, as the program's; no condition but those typed. -/
namespace Go.Proofs.Ytbcicjmepojlnaa.Eng
open Go Go.RowKit
set_option autoImplicit false
set_option linter.unusedSimpArgs false
set_option linter.unusedVariables false
set_option linter.unusedSectionVars false
theorem flag_all : ∀ f : Fin 256, (Int.tmod (f.val : Int) 2 == 1) = bitB f.val 1 ∧ (Int.tmod (IntKind.i64.wrap (Int.tdiv (f.val : Int) 2)) 2 == 1) = bitB f.val 2 ∧ (Int.tmod (IntKind.i64.wrap (Int.tdiv (f.val : Int) 4)) 2 == 1) = bitB f.val 4 ∧ (Int.tmod (IntKind.i64.wrap (Int.tdiv (f.val : Int) 8)) 2 == 0) = !bitB f.val 8 := by decide +kernel
theorem flag_is {f : Int} (h : 0 ≤ f ∧ f ≤ 255) : (Int.tmod f 2 == 1) = bitB f 1 ∧ (Int.tmod (IntKind.i64.wrap (Int.tdiv f 2)) 2 == 1) = bitB f 2 ∧ (Int.tmod (IntKind.i64.wrap (Int.tdiv f 4)) 2 == 1) = bitB f 4 ∧ (Int.tmod (IntKind.i64.wrap (Int.tdiv f 8)) 2 == 0) = !bitB f 8 := by
  have := flag_all ⟨f.toNat, by omega⟩
  have e : ((f.toNat : Nat) : Int) = f := by omega
  simp only [e] at this
  exact this
theorem pick_is {l : List Ar} {n f : Int} : pickB l n f = true → chooseL l 65536 2097152 n (!bitB f 8) = pickV l n f := fun h => by
  unfold pickB at h
  unfold pickV chooseL
  cases hb : bitB f 8 with
  | true =>
    rw [hb, if_pos rfl] at h
    rw [if_neg (by simp), if_pos h, if_pos rfl]
  | false =>
    rw [hb, if_neg (by simp)] at h
    rw [if_pos (by decide), if_pos h, if_neg (by simp)]
theorem pick_no {l : List Ar} {n f : Int} (h : pickB l n f = false) : chooseL l 65536 2097152 n (!bitB f 8) = -1 := by
  unfold pickB at h
  unfold chooseL
  cases hb : bitB f 8 with
  | true =>
    rw [hb, if_pos rfl] at h
    rw [if_neg (by simp), if_neg (by rw [h]; simp)]
  | false =>
    rw [hb, if_neg (by simp)] at h
    rw [if_pos (by decide), if_neg (by rw [h]; simp)]
theorem IsX.ii {a b a' b' : Int} {H' : Heap} (h : a' = a ∧ b' = b) : IsX (.val (.tup [.c (.v (.int .i64 a)), .c (.v (.int .i64 b))])) (.tup [.c (.v (.int .i64 a')), .c (.v (.int .i64 b'))]) H' := by
  obtain ⟨rfl, rfl⟩ := h
  exact IsX.val_ rfl
theorem pick_dec {l : List Ar} (hl : Rt l) {n f : Int} (h64 : In64 n) : pickB l n f = decide (0 ≤ chooseL l 65536 2097152 n (!bitB f 8)) := by
  obtain ⟨k1, k2, _⟩ := chooses hl (lo := 65536) (hi := 2097152) h64
  unfold pickB
  cases hb : bitB f 8 with
  | true => rw [if_pos rfl]; exact k1
  | false => rw [if_neg (by simp)]; exact k2
section
variable {l : List Ar} {a n f : Int} (hm : mayS l = true) (h64 : In64 n) (hf : 0 ≤ f ∧ f ≤ 255)
include hm hf
theorem pl1 (t1 : (Int.tmod f 2 == 1) = true) (h : (rangeE a n != 0) = true) : 0 = placeV l a n f ∧ rangeE a n = placeE l a n f := by
  rw [(flag_is hf).1] at t1
  have e : fixE l a n f = rangeE a n := by unfold fixE; rw [if_pos h]
  unfold placeV placeE fixV
  rw [hm, t1, e, h]
  exact ⟨rfl, rfl⟩
theorem fix_go (h : (rangeE a n != 0) = false) : fixE l a n f = if (bitB f 2 && someP (ofL l) (rangeLo a n) (rangeHi a n)) = true then 6 else 0 := by
  unfold fixE
  rw [if_neg (by rw [h]; simp), some_within (mayS_rt hm).1 (range_ok (bne_no h)).1]
theorem pl2 (t1 : (Int.tmod f 2 == 1) = true) (h : (rangeE a n != 0) = false) (t2 : (Int.tmod (IntKind.i64.wrap (Int.tdiv f 2)) 2 == 1) = true) (h2 : someP (ofL l) (rangeLo a n) (rangeHi a n) = true) : 0 = placeV l a n f ∧ 6 = placeE l a n f := by
  rw [(flag_is hf).1] at t1
  rw [(flag_is hf).2.1] at t2
  have e := fix_go hm hf (l := l) h
  rw [t2, h2] at e
  unfold placeV placeE fixV
  rw [hm, t1, e]
  exact ⟨rfl, rfl⟩
theorem pl3 (t1 : (Int.tmod f 2 == 1) = true) (h : (rangeE a n != 0) = false) (h2 : (Int.tmod (IntKind.i64.wrap (Int.tdiv f 2)) 2 == 1) = false ∨ someP (ofL l) (rangeLo a n) (rangeHi a n) = false) : a = placeV l a n f ∧ 0 = placeE l a n f := by
  rw [(flag_is hf).1] at t1
  rw [(flag_is hf).2.1] at h2
  have e := fix_go hm hf (l := l) h
  rw [if_neg (by rcases h2 with h2 | h2 <;> rw [h2] <;> simp)] at e
  unfold placeV placeE fixV
  rw [hm, t1, e]
  exact ⟨rfl, rfl⟩
theorem pl4 (t1 : (Int.tmod f 2 == 1) = false) (h : (a != 0) = true) (h2 : fitsL l a n = true) : a = placeV l a n f ∧ 0 = placeE l a n f := by
  rw [(flag_is hf).1] at t1
  unfold placeV placeE
  rw [hm, t1, h, h2]
  exact ⟨rfl, rfl⟩
include h64
theorem pl5 (t1 : (Int.tmod f 2 == 1) = false) (h : (a != 0) = false ∨ fitsL l a n = false) (h2 : decide (chooseL l 65536 2097152 n (Int.tmod (IntKind.i64.wrap (Int.tdiv f 8)) 2 == 0) < 0) = true) : 0 = placeV l a n f ∧ 5 = placeE l a n f := by
  rw [(flag_is hf).1] at t1
  rw [(flag_is hf).2.2.2] at h2
  have hp : pickB l n f = false := by
    rw [pick_dec (mayS_rt hm).1 h64, decide_eq_false_iff_not]
    have := of_decide_eq_true h2
    omega
  have hc : (a != 0 && fitsL l a n) = false := by rcases h with h | h <;> rw [h] <;> simp
  unfold placeV placeE
  rw [hm, t1, hc, hp]
  exact ⟨rfl, rfl⟩
theorem pl6 (t1 : (Int.tmod f 2 == 1) = false) (h : (a != 0) = false ∨ fitsL l a n = false) (h2 : decide (chooseL l 65536 2097152 n (Int.tmod (IntKind.i64.wrap (Int.tdiv f 8)) 2 == 0) < 0) = false) : chooseL l 65536 2097152 n (Int.tmod (IntKind.i64.wrap (Int.tdiv f 8)) 2 == 0) = placeV l a n f ∧ 0 = placeE l a n f := by
  rw [(flag_is hf).1] at t1
  rw [(flag_is hf).2.2.2] at h2 ⊢
  have hp : pickB l n f = true := by
    rw [pick_dec (mayS_rt hm).1 h64, decide_eq_true_eq]
    have := of_decide_eq_false h2
    omega
  have hc : (a != 0 && fitsL l a n) = false := by rcases h with h | h <;> rw [h] <;> simp
  unfold placeV placeE
  rw [hm, t1, hc, hp, pick_is hp]
  exact ⟨rfl, rfl⟩
end
end Go.Proofs.Ytbcicjmepojlnaa.Eng
/- Contracts of functions (printed by genx.py of this work): what each hands back; condition: as its 'hside' says. -/
namespace Go.Proofs.Ytbcicjmepojlnaa.Eng
open Go Go.RowKit
set_option linter.unusedVariables false
set_option linter.unusedSimpArgs false

theorem b_rplace : Bodied Try.prog 83 := bodied Try.func83 rfl (by decide)
def F_rplace : FunX := fun κ avs => match avs with
  | [.lst l xl, .val (.c (.v (.int .i64 a))), .val (.c (.v (.int .i64 n))), .val (.c (.v (.int .i64 f)))] => some (κ _ (mayS l = true ∧ In64 a ∧ In64 n ∧ 0 ≤ f ∧ f ≤ 255), (.val (.tup [.c (.v (.int .i64 (κ _ (placeV l a n f)))), .c (.v (.int .i64 (κ _ (placeE l a n f))))])))
  | _ => none
set_option maxRecDepth 100000 in
set_option maxHeartbeats 4000000 in
theorem k_rplace (l : List Ar) (a : Int) (n : Int) (f : Int) (Al : Option Addr) (cl : Nat) (hside : mayS l = true ∧ In64 a ∧ In64 n ∧ 0 ≤ f ∧ f ≤ 255) (w : World) (hl : (Ent.rd Al 6 l.length (encL l)).holds w) :
    Calls Try.prog 83 #[.slice Al l.length cl, (SV.c (.v (.int .i64 a))).den, (SV.c (.v (.int .i64 n))).den, (SV.c (.v (.int .i64 f))).den] w fun e w' => ∃ v H', e = .returned v.den ∧ IsX (.val (.tup [.c (.v (.int .i64 (placeV l a n f))), .c (.v (.int .i64 (placeE l a n f)))])) v H' ∧ HSat w (fun _ => False) H' w' := by
  obtain ⟨κ, hκ⟩ : ∃ κ : Kp, κ = kid := ⟨_, rfl⟩
  have hH : HSat w (fun _ => False) (heapOf [(nilId, .rd none 1 0 []), (200000, .rd Al 6 (κ _ l.length) (κ _ (encL l)))]) w := by
    subst hκ
    refine HSat.reads fun p hp => ?_
    simp only [List.mem_cons, List.not_mem_nil, or_false] at hp
    rcases hp with rfl | rfl
    · exact ⟨_, _, _, _, rfl, nil_holds w⟩
    · exact ⟨_, _, _, _, rfl, hl⟩
  refine (callsP (n := 58) FTok [e_rrange hκ, e_of hκ, e_rsomeP hκ, e_rfits hκ, e_rchoose hκ] mixed [] Try.func83 rfl (by kernel_rfl) #[.slice Al l.length cl, (SV.c (.v (.int .i64 a))).den, (SV.c (.v (.int .i64 n))).den, (SV.c (.v (.int .i64 f))).den] [(0, .c (.sl 200000 Al (κ _ l.length) cl)), (1, .c (.v (.int .i64 a))), (2, .c (.v (.int .i64 n))), (3, .c (.v (.int .i64 f)))] _ w rfl [.tmp 8, .tmp 9] rfl (by simp) (by subst hκ; simp [SV.den, C.den, kid]) hH (fun v H' => IsX (.val (.tup [.c (.v (.int .i64 (κ _ (placeV l a n f)))), .c (.v (.int .i64 (κ _ (placeE l a n f))))])) v H') hκ ?_).mono ?_
  rotate_left
  · subst hκ; intro e w' h; exact h
  intro P' hP'
  cbv
  have hrt := mayS_rt hside.1
  repeat' (first | refine And.intro ?_ ?_ | (intro _; cbv) | (refine tst_mk (fun h => ?_) (fun h => ?_) <;> cbv) | (refine LookX.nil ?_; cbv) | (refine LookX.auto hκ ?_; cbv))
  all_goals (try (show Side _; refine ⟨?_⟩; subst hκ; delta kid at *; first | exact rfl | exact trivial | exact ⟨rfl, rfl, .inl rfl⟩ | exact hside.2.1 | exact ⟨hrt.1.1, by omega⟩ | exact ⟨hrt.1, (by omega), hside.2.1, hside.2.2.1⟩ | exact ⟨hrt.1, (by omega), hside.2.2.1⟩ | exact ofL_len l | ((try dsimp only at *); (try simp only [setTo_len, noS_len, List.length_append, List.length_cons, List.length_nil, List.length_map, and_self, true_or, or_true, eq_self, true_and, and_true, Nat.zero_add, Nat.add_zero]); (first | done | omega); done)))
  all_goals (clear hH; subst hκ; delta kid at *; (try dsimp only at *))
  all_goals (show IsX _ _ _)
  · exact IsX.ii (pl1 hside.1 hside.2.2.2 (by with_reducible assumption) (by with_reducible assumption))
  · exact IsX.ii (pl2 hside.1 hside.2.2.2 (by with_reducible assumption) (by with_reducible assumption) (by with_reducible assumption) (by with_reducible assumption))
  · exact IsX.ii (pl3 hside.1 hside.2.2.2 (by with_reducible assumption) (by with_reducible assumption) (.inr (by with_reducible assumption)))
  · exact IsX.ii (pl3 hside.1 hside.2.2.2 (by with_reducible assumption) (by with_reducible assumption) (.inl (by with_reducible assumption)))
  · exact IsX.ii (pl4 hside.1 hside.2.2.2 (by with_reducible assumption) (by with_reducible assumption) (by with_reducible assumption))
  · exact IsX.ii (pl5 hside.1 hside.2.2.1 hside.2.2.2 (by with_reducible assumption) (.inr (by with_reducible assumption)) (by with_reducible assumption))
  · exact IsX.ii (pl6 hside.1 hside.2.2.1 hside.2.2.2 (by with_reducible assumption) (.inr (by with_reducible assumption)) (by with_reducible assumption))
  · exact IsX.ii (pl5 hside.1 hside.2.2.1 hside.2.2.2 (by with_reducible assumption) (.inl (by with_reducible assumption)) (by with_reducible assumption))
  · exact IsX.ii (pl6 hside.1 hside.2.2.1 hside.2.2.2 (by with_reducible assumption) (.inl (by with_reducible assumption)) (by with_reducible assumption))
def e_rplace {κ : Kp} (hκ : κ = kid) : ESpec Try.prog := fnES [.list, .flat, .flat, .flat] b_rplace F_rplace hκ fun avs p r hF hp => by
  unfold F_rplace at hF
  split at hF
  case h_2 => cases hF
  rename_i l xl a n f
  simp only [kid, Option.some.injEq, Prod.mk.injEq] at hF
  obtain ⟨rfl, rfl⟩ := hF
  refine ⟨trivial, fun vs w hR => ?_⟩
  obtain ⟨il, Al, cl, vs0, rfl, rfl, hl, hR⟩ := hR
  obtain ⟨vs1, rfl, hR⟩ := hR
  obtain ⟨vs2, rfl, hR⟩ := hR
  obtain ⟨vs3, rfl, hR⟩ := hR
  have hR' : vs3 = [] := hR
  subst hR'
  exact k_rplace l a n f Al cl hp w hl

end Go.Proofs.Ytbcicjmepojlnaa.Eng
/- What is asked of a map; no condition but those typed. -/
namespace Go.Proofs.Ytbcicjmepojlnaa.Eng
open Go Go.RowKit
set_option autoImplicit false
set_option linter.unusedSimpArgs false
set_option linter.unusedVariables false
set_option linter.unusedSectionVars false
theorem fl15_all : ∀ f : Fin 16, flagsE (f.val : Int) 15 = 0 ∧ (Int.tmod (f.val : Int) 4 == 2) = (bits .and .i64 (f.val : Int) 3 == 2) := by decide +kernel
theorem fl15 {f : Int} (h1 : decide (f < 0) = false) (h2 : decide (15 < f) = false) : flagsE f 15 = 0 ∧ (Int.tmod f 4 == 2) = (bits .and .i64 f 3 == 2) := by
  have a1 := of_decide_eq_false h1
  have a2 := of_decide_eq_false h2
  have := fl15_all ⟨f.toNat, by omega⟩
  have e : ((f.toNat : Nat) : Int) = f := by omega
  simp only [e] at this
  exact this
theorem fl15_no {f : Int} (h64 : In64 f) (h : decide (f < 0) = true ∨ decide (15 < f) = true) : flagsE f 15 = 1 := by
  unfold flagsE
  rcases h with h | h
  · rw [h]; rfl
  · have a := of_decide_eq_true h
    have b := h64.2
    obtain ⟨m, rfl⟩ : ∃ m : Nat, f = m := ⟨f.toNat, by omega⟩
    have k := andNot_zero m 15 (by omega) (by omega)
    rw [if_pos]
    rw [Bool.or_eq_true]
    refine .inr ?_
    rw [bne_iff_ne]
    intro hc
    have h3 := k.1 hc
    have h4 := Nat.and_le_right (n := m) (m := 15)
    omega
theorem prot_no {p : Int} (h : decide (p < 0) = true ∨ decide (7 < p) = true) : protE p = 1 := by
  unfold protE
  rw [if_pos]
  rw [Bool.or_eq_true]
  exact h
theorem prot_ok {p : Int} (h1 : decide (p < 0) = false) (h2 : decide (7 < p) = false) : protE p = 0 := by
  unfold protE
  rw [if_neg]
  rw [h1, show decide (p > 7) = false from h2]
  simp
section
variable {l : List Ar} {c : Cl} (hm : mayS l = true)
include hm
theorem mp_ask (h : (askE c != 0) = true) : mapN l c = errA (askE c) ∧ mapL l c = l ∧ ((mapN l c).er != 0) = true := by
  have he : mapE l c = askE c := by unfold mapE; rw [hm, if_neg (by simp), if_pos h]
  have e1 : mapN l c = errA (askE c) := by unfold mapN; rw [he, if_pos h]
  exact ⟨e1, by unfold mapL; rw [he, if_pos h], by rw [e1]; exact h⟩
theorem mp_place (h0 : askE c = 0) (h : (placeE l c.a (sizeV c.n) c.f != 0) = true) : mapN l c = errA (placeE l c.a (sizeV c.n) c.f) ∧ mapL l c = l ∧ ((mapN l c).er != 0) = true := by
  have he : mapE l c = placeE l c.a (sizeV c.n) c.f := by unfold mapE; rw [hm, if_neg (by simp), h0, if_neg (by simp)]
  have e1 : mapN l c = errA (placeE l c.a (sizeV c.n) c.f) := by unfold mapN; rw [he, if_pos h]
  exact ⟨e1, by unfold mapL; rw [he, if_pos h], by rw [e1]; exact h⟩
theorem mp_ok (h0 : askE c = 0) (h : (placeE l c.a (sizeV c.n) c.f != 0) = false) : mapN l c = keptN (putL l (mapA l c)) (mapV l c) ∧ mapL l c = keptL l (putL l (mapA l c)) := by
  have he : mapE l c = placeE l c.a (sizeV c.n) c.f := by unfold mapE; rw [hm, if_neg (by simp), h0, if_neg (by simp)]
  exact ⟨by unfold mapN; rw [he, if_neg (by rw [h]; simp)], by unfold mapL; rw [he, if_neg (by rw [h]; simp)]⟩
end
section
variable {c : Cl} (hs : (sizeE c.n == 0) = true)
include hs
theorem ask_a (h : decide (c.p < 0) = true ∨ decide (7 < c.p) = true) : askE c = 1 := by
  have e := beq_yes hs
  unfold askE
  rw [e, prot_no h]
  rfl
theorem ask_b (h1 : decide (c.p < 0) = false) (h2 : decide (7 < c.p) = false) (h64 : In64 c.f) (h : decide (c.f < 0) = true ∨ decide (15 < c.f) = true) : askE c = 1 := by
  have e := beq_yes hs
  unfold askE
  rw [e, prot_ok h1 h2, fl15_no h64 h]
  rfl
theorem ask_c (h1 : decide (c.p < 0) = false) (h2 : decide (7 < c.p) = false) (h3 : decide (c.f < 0) = false) (h4 : decide (15 < c.f) = false) (h : (Int.tmod c.f 4 == 2) = true) : askE c = 1 := by
  have e := beq_yes hs
  have k := fl15 h3 h4
  rw [k.2] at h
  unfold askE
  rw [e, prot_ok h1 h2, k.1, h]
  rfl
theorem ask_d (h1 : decide (c.p < 0) = false) (h2 : decide (7 < c.p) = false) (h3 : decide (c.f < 0) = false) (h4 : decide (15 < c.f) = false) (h : (Int.tmod c.f 4 == 2) = false) : askE c = backE c.b c.o (sizeV c.n) := by
  have e := beq_yes hs
  have k := fl15 h3 h4
  rw [k.2] at h
  unfold askE
  rw [e, prot_ok h1 h2, k.1, h]
  rfl
end
theorem ask_s {c : Cl} (h : (sizeE c.n == 0) = false) : askE c = sizeE c.n ∧ (sizeE c.n != 0) = true := by
  have h2 : (sizeE c.n != 0) = true := by
    rw [bne_iff_ne]
    exact beq_no h
  exact ⟨by unfold askE; rw [if_pos h2], h2⟩
/-- Where a place is, there is room for the size. -/
theorem place_rng {l : List Ar} (hm : mayS l = true) {a n f : Int} (hn : SzOk n) (ha : In64 a) (h : placeE l a n f = 0) : 65536 ≤ placeV l a n f ∧ placeV l a n f + n ≤ 2097152 ∧ placeV l a n f % 4096 = 0 := by
  have hrt := (mayS_rt hm).1
  obtain ⟨n1, n2, n3⟩ := hn
  have h64 : In64 n := by unfold In64; omega
  unfold placeE at h
  unfold placeV
  rw [hm] at h ⊢
  rw [if_neg (by simp)] at h ⊢
  by_cases b1 : bitB f 1 = true
  · rw [if_pos b1] at h ⊢
    unfold fixV
    rw [h, if_neg (by simp)]
    have hr : rangeE a n = 0 := by
      unfold fixE at h
      by_cases hb : (rangeE a n != 0) = true
      · rw [if_pos hb] at h
        exact h
      · have hb2 : (rangeE a n != 0) = false := by simpa using hb
        exact bne_no hb2
    obtain ⟨⟨r1, r2, r3, r4, r5⟩, e1, e2, e3⟩ := range_ok hr
    have hv := size_ok e3
    have := hv.2.1
    rw [e1] at r1 r4
    rw [e2] at r2
    exact ⟨r1, by omega, r4⟩
  · rw [if_neg b1] at h ⊢
    by_cases b2 : (a != 0 && fitsL l a n) = true
    · rw [if_pos b2]
      rw [Bool.and_eq_true] at b2
      have k := (fits_iff hrt ha h64).1 b2.2
      exact ⟨k.2.2.1, k.2.2.2.1, k.2.1⟩
    · rw [if_neg b2] at h ⊢
      by_cases b3 : pickB l n f = true
      · rw [if_pos b3]
        have hs : sizeG n = true := (sizeG_iff h64).2 ⟨n1, n2, n3⟩
        unfold pickB at b3
        unfold pickV
        split
        · rename_i b4
          rw [if_pos b4] at b3
          have g := ((low_spec hrt hs h64).1 b3).1
          exact ⟨g.l1, g.h1, g.z⟩
        · rename_i b4
          rw [if_neg b4] at b3
          have g := ((high_spec hrt hs h64).1 b3).1
          exact ⟨g.l1, g.h1, g.z⟩
      · rw [if_neg b3] at h
        cases h
theorem back_is {b o n : Int} (hn : SzOk n) (h : backE b o n = 0) : 0 ≤ b ∧ b ≤ 9 ∧ (b = 0 → o = 0) ∧ (b ≠ 0 → o % 4096 = 0 ∧ 0 ≤ o ∧ o ≤ 1099511627776 - n) := by
  obtain ⟨n1, n2, n3⟩ := hn
  unfold backE at h
  rw [w64_id (show In64 (1099511627776 - n) by unfold In64; omega)] at h
  by_cases h1 : backBad b o = true
  · rw [if_pos h1] at h; cases h
  · rw [if_neg h1] at h
    by_cases h2 : (Int.tmod o 4096 != 0) = true
    · rw [if_pos h2] at h; cases h
    · rw [if_neg h2] at h
      have h2' := (tmod0 o).1 (by simpa using h2)
      by_cases h3 : (decide (o < 0) || decide (o > 1099511627776 - n)) = true
      · rw [if_pos h3] at h; cases h
      · simp only [Bool.or_eq_true, decide_eq_true_eq, not_or] at h3
        unfold backBad at h1
        simp at h1
        omega
theorem map_fo {l : List Ar} {c : Cl} (hm : mayS l = true) (hs : (sizeE c.n == 0) = true) (ha : In64 c.a) (h1 : decide (c.p < 0) = false) (h2 : decide (7 < c.p) = false) (hb : backE c.b c.o (sizeV c.n) = 0) (h : (placeE l c.a (sizeV c.n) c.f != 0) = false) : Fo (mapA l c) ∧ (mapA l c).e = mapV l c + sizeV c.n := by
  have hn := (size_ok (beq_yes hs)).1
  obtain ⟨r1, r2, r3⟩ := place_rng hm hn ha (bne_no h)
  obtain ⟨k1, k2, k3, k4⟩ := back_is hn hb
  obtain ⟨n1, n2, n3⟩ := hn
  have a1 := of_decide_eq_false h1
  have a2 := of_decide_eq_false h2
  have e : w64 (mapV l c + sizeV c.n) = mapV l c + sizeV c.n := w64_id (by unfold mapV In64; omega)
  have e2 : (mapA l c).e = mapV l c + sizeV c.n := e
  refine ⟨fo.1 ((formed_iff _).2 ⟨r3, ?_, r1, ?_, ?_, (show 0 ≤ c.p by omega), (show c.p ≤ 7 by omega), k1, k2, k3, fun hne => ?_⟩), e2⟩
  · rw [e2]; unfold mapV; omega
  · rw [e2]; unfold mapV; omega
  · rw [e2]; show mapV l c < _; omega
  · have := k4 hne
    rw [e2]
    exact ⟨this.1, this.2.1, by show c.o ≤ 1099511627776 - (mapV l c + sizeV c.n - mapV l c); omega⟩
theorem map_pages {l : List Ar} {c : Cl} (hm : mayS l = true) (hf : Fo (mapA l c)) (he : (mapA l c).e = mapV l c + sizeV c.n) : listS (withP ⟨c.p, bitB c.f 4, c.b, c.o⟩ (mapV l c / 4096).toNat (ofL l) (((mapV l c + sizeV c.n) / 4096).toNat - (mapV l c / 4096).toNat)) = putL l (mapA l c) := by
  have h1 := with_of hf (s := ofL l) (ofL_len l)
  have hl : lenA (mapA l c) = ((mapV l c + sizeV c.n) / 4096).toNat - (mapV l c / 4096).toNat := by
    have := hf.lo
    have := hf.lt
    unfold lenA
    rw [he]
    show ((mapV l c + sizeV c.n) / 4096 - mapV l c / 4096).toNat = _
    have hs : (mapA l c).s = mapV l c := rfl
    omega
  rw [← put_pages (mayS_rt hm).1 hf, ← h1, hl]
  rfl
theorem mp_x {l : List Ar} {c : Cl} (hm : mayS l = true) (hs : (sizeE c.n == 0) = true) (ha : In64 c.a) (h1 : decide (c.p < 0) = false) (h2 : decide (7 < c.p) = false) (h3 : decide (c.f < 0) = false) (h4 : decide (15 < c.f) = false) (hb : backE c.b c.o (sizeV c.n) = 0) (h : (placeE l c.a (sizeV c.n) c.f != 0) = false) :
    listS (withP ⟨c.p, (Int.tmod (IntKind.i64.wrap (Int.tdiv c.f 4)) 2 == 1), c.b, c.o⟩ (placeV l c.a (sizeV c.n) c.f / 4096).toNat (ofL l) ((IntKind.i64.wrap (placeV l c.a (sizeV c.n) c.f + sizeV c.n) / 4096).toNat - (placeV l c.a (sizeV c.n) c.f / 4096).toNat)) = putL l (mapA l c) := by
  have a3 := of_decide_eq_false h3
  have a4 := of_decide_eq_false h4
  obtain ⟨hf, he⟩ := map_fo hm hs ha h1 h2 hb h
  have hn := (size_ok (beq_yes hs)).1
  obtain ⟨r1, r2, r3⟩ := place_rng hm hn ha (bne_no h)
  have := hn.lo
  have e : IntKind.i64.wrap (placeV l c.a (sizeV c.n) c.f + sizeV c.n) = placeV l c.a (sizeV c.n) c.f + sizeV c.n := w64_id (by unfold In64; omega)
  rw [e, (flag_is ⟨by omega, by omega⟩).2.2.1]
  exact map_pages hm hf he
theorem mp_same {l : List Ar} {c : Cl} {X : List Ar} (hm : mayS l = true) (h0 : askE c = 0) (h : (placeE l c.a (sizeV c.n) c.f != 0) = false) (hx : X = putL l (mapA l c)) (hn : decide ((24 : Int) < (X.length : Int)) = true) : mapN l c = errA 9 ∧ ((mapN l c).er != 0) = true := by
  subst hx
  have g := (mp_ok hm h0 h).1
  rw [(kept_no (was := l) hn).2] at g
  exact ⟨g, by rw [g]; rfl⟩
theorem mp_new {l : List Ar} {c : Cl} {X : List Ar} (hm : mayS l = true) (h0 : askE c = 0) (h : (placeE l c.a (sizeV c.n) c.f != 0) = false) (hx : X = putL l (mapA l c)) (hn : decide ((24 : Int) < (X.length : Int)) = false) : mapN l c = okA (mapV l c) ∧ ((mapN l c).er != 0) = false ∧ X = mapL l c := by
  subst hx
  obtain ⟨g1, g2⟩ := mp_ok hm h0 h
  rw [(kept_yes (was := l) hn).2] at g1
  rw [(kept_yes (v := 0) (was := l) hn).1] at g2
  exact ⟨g1, by rw [g1]; rfl, g2.symm⟩
theorem mp_side {l : List Ar} {a n f : Int} (hm : mayS l = true) (hs : (sizeE n == 0) = true) (ha : In64 a) (h : (placeE l a (sizeV n) f != 0) = false) : 0 ≤ placeV l a (sizeV n) f ∧ placeV l a (sizeV n) f ≤ IntKind.i64.wrap (placeV l a (sizeV n) f + sizeV n) ∧ IntKind.i64.wrap (placeV l a (sizeV n) f + sizeV n) ≤ 2097152 := by
  have hn := (size_ok (beq_yes hs)).1
  obtain ⟨r1, r2, r3⟩ := place_rng hm hn ha (bne_no h)
  have := hn.lo
  have e : IntKind.i64.wrap (placeV l a (sizeV n) f + sizeV n) = placeV l a (sizeV n) f + sizeV n := w64_id (by unfold In64; omega)
  rw [e]
  omega
theorem mp_sz {n : Int} (hs : (sizeE n == 0) = true) : In64 (sizeV n) := by
  have hn := (size_ok (beq_yes hs)).1
  have := hn.lo
  have := hn.hi
  unfold In64
  omega
theorem fl_rng {f : Int} (h3 : decide (f < 0) = false) (h4 : decide (15 < f) = false) : 0 ≤ f ∧ f ≤ 255 := by
  have a3 := of_decide_eq_false h3
  have a4 := of_decide_eq_false h4
  omega
theorem same_map {l : List Ar} {c : Cl} (h : ((mapN l c).er != 0) = true) : sameL (mapL l c) l = true := by
  rw [map_self h]
  exact sameL_self l
end Go.Proofs.Ytbcicjmepojlnaa.Eng
/- Contracts of functions (printed by genx.py of this work): what each hands back; condition: as its 'hside' says. -/
namespace Go.Proofs.Ytbcicjmepojlnaa.Eng
open Go Go.RowKit
set_option linter.unusedVariables false
set_option linter.unusedSimpArgs false

theorem b_rmap : Bodied Try.prog 79 := bodied Try.func79 rfl (by decide)
def F_rmap : FunX := fun κ avs => match avs with
  | [.lst l xl, .val (.agg [.v (.int .i64 c1), .v (.int .i64 c2), .v (.int .i64 c3), .v (.int .i64 c4), .v (.int .i64 c5), .v (.int .i64 c6), .v (.int .i64 c7), .v (.int .i64 c8), .v (.int .i64 c9)])] => some (κ _ (mayS l = true ∧ In64 (⟨c1, c2, c3, c4, c5, c6, c7, c8, c9⟩ : Cl).a ∧ In64 (⟨c1, c2, c3, c4, c5, c6, c7, c8, c9⟩ : Cl).o ∧ In64 (⟨c1, c2, c3, c4, c5, c6, c7, c8, c9⟩ : Cl).f), (.alt ((κ _ ((mapN l (⟨c1, c2, c3, c4, c5, c6, c7, c8, c9⟩ : Cl)).er != 0))) (xl) (fun x => .tup [.c x, .agg [.v (.int .i64 (κ _ ((mapN l (⟨c1, c2, c3, c4, c5, c6, c7, c8, c9⟩ : Cl)).er))), .v (.int .i64 (κ _ ((mapN l (⟨c1, c2, c3, c4, c5, c6, c7, c8, c9⟩ : Cl)).v))), .v (.int .i64 (κ _ ((mapN l (⟨c1, c2, c3, c4, c5, c6, c7, c8, c9⟩ : Cl)).t.p))), .v (.bool (κ _ ((mapN l (⟨c1, c2, c3, c4, c5, c6, c7, c8, c9⟩ : Cl)).t.sh))), .v (.int .i64 (κ _ ((mapN l (⟨c1, c2, c3, c4, c5, c6, c7, c8, c9⟩ : Cl)).t.b))), .v (.int .i64 (κ _ ((mapN l (⟨c1, c2, c3, c4, c5, c6, c7, c8, c9⟩ : Cl)).t.o)))]]) ((κ _ (mapL l (⟨c1, c2, c3, c4, c5, c6, c7, c8, c9⟩ : Cl)))) (fun x => .tup [.c x, .agg [.v (.int .i64 (κ _ ((mapN l (⟨c1, c2, c3, c4, c5, c6, c7, c8, c9⟩ : Cl)).er))), .v (.int .i64 (κ _ ((mapN l (⟨c1, c2, c3, c4, c5, c6, c7, c8, c9⟩ : Cl)).v))), .v (.int .i64 (κ _ ((mapN l (⟨c1, c2, c3, c4, c5, c6, c7, c8, c9⟩ : Cl)).t.p))), .v (.bool (κ _ ((mapN l (⟨c1, c2, c3, c4, c5, c6, c7, c8, c9⟩ : Cl)).t.sh))), .v (.int .i64 (κ _ ((mapN l (⟨c1, c2, c3, c4, c5, c6, c7, c8, c9⟩ : Cl)).t.b))), .v (.int .i64 (κ _ ((mapN l (⟨c1, c2, c3, c4, c5, c6, c7, c8, c9⟩ : Cl)).t.o)))]])))
  | _ => none
set_option maxRecDepth 100000 in
set_option maxHeartbeats 4000000 in
theorem k_rmap (l : List Ar) (c1 : Int) (c2 : Int) (c3 : Int) (c4 : Int) (c5 : Int) (c6 : Int) (c7 : Int) (c8 : Int) (c9 : Int) (Al : Option Addr) (cl : Nat) (hside : mayS l = true ∧ In64 (⟨c1, c2, c3, c4, c5, c6, c7, c8, c9⟩ : Cl).a ∧ In64 (⟨c1, c2, c3, c4, c5, c6, c7, c8, c9⟩ : Cl).o ∧ In64 (⟨c1, c2, c3, c4, c5, c6, c7, c8, c9⟩ : Cl).f) (w : World) (hl : (Ent.rd Al 6 l.length (encL l)).holds w) :
    Calls Try.prog 79 #[.slice Al l.length cl, (SV.agg [.v (.int .i64 c1), .v (.int .i64 c2), .v (.int .i64 c3), .v (.int .i64 c4), .v (.int .i64 c5), .v (.int .i64 c6), .v (.int .i64 c7), .v (.int .i64 c8), .v (.int .i64 c9)]).den] w fun e w' => ∃ v H', e = .returned v.den ∧ IsX (.alt (((mapN l (⟨c1, c2, c3, c4, c5, c6, c7, c8, c9⟩ : Cl)).er != 0)) (.sl 200000 Al l.length cl) (fun x => .tup [.c x, .agg [.v (.int .i64 ((mapN l (⟨c1, c2, c3, c4, c5, c6, c7, c8, c9⟩ : Cl)).er)), .v (.int .i64 ((mapN l (⟨c1, c2, c3, c4, c5, c6, c7, c8, c9⟩ : Cl)).v)), .v (.int .i64 ((mapN l (⟨c1, c2, c3, c4, c5, c6, c7, c8, c9⟩ : Cl)).t.p)), .v (.bool ((mapN l (⟨c1, c2, c3, c4, c5, c6, c7, c8, c9⟩ : Cl)).t.sh)), .v (.int .i64 ((mapN l (⟨c1, c2, c3, c4, c5, c6, c7, c8, c9⟩ : Cl)).t.b)), .v (.int .i64 ((mapN l (⟨c1, c2, c3, c4, c5, c6, c7, c8, c9⟩ : Cl)).t.o))]]) ((mapL l (⟨c1, c2, c3, c4, c5, c6, c7, c8, c9⟩ : Cl))) (fun x => .tup [.c x, .agg [.v (.int .i64 ((mapN l (⟨c1, c2, c3, c4, c5, c6, c7, c8, c9⟩ : Cl)).er)), .v (.int .i64 ((mapN l (⟨c1, c2, c3, c4, c5, c6, c7, c8, c9⟩ : Cl)).v)), .v (.int .i64 ((mapN l (⟨c1, c2, c3, c4, c5, c6, c7, c8, c9⟩ : Cl)).t.p)), .v (.bool ((mapN l (⟨c1, c2, c3, c4, c5, c6, c7, c8, c9⟩ : Cl)).t.sh)), .v (.int .i64 ((mapN l (⟨c1, c2, c3, c4, c5, c6, c7, c8, c9⟩ : Cl)).t.b)), .v (.int .i64 ((mapN l (⟨c1, c2, c3, c4, c5, c6, c7, c8, c9⟩ : Cl)).t.o))]])) v H' ∧ HSat w (fun _ => False) H' w' := by
  obtain ⟨κ, hκ⟩ : ∃ κ : Kp, κ = kid := ⟨_, rfl⟩
  have hH : HSat w (fun _ => False) (heapOf [(nilId, .rd none 1 0 []), (200000, .rd Al 6 (κ _ l.length) (κ _ (encL l)))]) w := by
    subst hκ
    refine HSat.reads fun p hp => ?_
    simp only [List.mem_cons, List.not_mem_nil, or_false] at hp
    rcases hp with rfl | rfl
    · exact ⟨_, _, _, _, rfl, nil_holds w⟩
    · exact ⟨_, _, _, _, rfl, hl⟩
  refine (callsP (n := 94) FTok [e_rsize hκ, e_rback hκ, e_rplace hκ, e_of hκ, e_rwith hκ, e_rkept hκ] mixed [(12, [[], [0], [0], [0, 1, 2], [0, 1, 2, 3], [0, 1, 2, 3, 4], [0, 1, 2, 3], [0, 1, 2, 3, 4, 5, 6], [0], [0, 1, 2, 3, 4, 5, 6, 7, 8], [], [], [11], [], []])] Try.func79 rfl (by kernel_rfl) #[.slice Al l.length cl, (SV.agg [.v (.int .i64 c1), .v (.int .i64 c2), .v (.int .i64 c3), .v (.int .i64 c4), .v (.int .i64 c5), .v (.int .i64 c6), .v (.int .i64 c7), .v (.int .i64 c8), .v (.int .i64 c9)]).den] [(0, .c (.sl 200000 Al (κ _ l.length) cl)), (1, .agg [.v (.int .i64 c1), .v (.int .i64 c2), .v (.int .i64 c3), .v (.int .i64 c4), .v (.int .i64 c5), .v (.int .i64 c6), .v (.int .i64 c7), .v (.int .i64 c8), .v (.int .i64 c9)])] _ w rfl [.tmp 4, .cell 5 31] rfl (by simp) (by subst hκ; simp [SV.den, C.den, kid]) hH (fun v H' => IsX (.alt ((κ _ ((mapN l (⟨c1, c2, c3, c4, c5, c6, c7, c8, c9⟩ : Cl)).er != 0))) (.sl 200000 Al (κ _ l.length) cl) (fun x => .tup [.c x, .agg [.v (.int .i64 (κ _ ((mapN l (⟨c1, c2, c3, c4, c5, c6, c7, c8, c9⟩ : Cl)).er))), .v (.int .i64 (κ _ ((mapN l (⟨c1, c2, c3, c4, c5, c6, c7, c8, c9⟩ : Cl)).v))), .v (.int .i64 (κ _ ((mapN l (⟨c1, c2, c3, c4, c5, c6, c7, c8, c9⟩ : Cl)).t.p))), .v (.bool (κ _ ((mapN l (⟨c1, c2, c3, c4, c5, c6, c7, c8, c9⟩ : Cl)).t.sh))), .v (.int .i64 (κ _ ((mapN l (⟨c1, c2, c3, c4, c5, c6, c7, c8, c9⟩ : Cl)).t.b))), .v (.int .i64 (κ _ ((mapN l (⟨c1, c2, c3, c4, c5, c6, c7, c8, c9⟩ : Cl)).t.o)))]]) ((κ _ (mapL l (⟨c1, c2, c3, c4, c5, c6, c7, c8, c9⟩ : Cl)))) (fun x => .tup [.c x, .agg [.v (.int .i64 (κ _ ((mapN l (⟨c1, c2, c3, c4, c5, c6, c7, c8, c9⟩ : Cl)).er))), .v (.int .i64 (κ _ ((mapN l (⟨c1, c2, c3, c4, c5, c6, c7, c8, c9⟩ : Cl)).v))), .v (.int .i64 (κ _ ((mapN l (⟨c1, c2, c3, c4, c5, c6, c7, c8, c9⟩ : Cl)).t.p))), .v (.bool (κ _ ((mapN l (⟨c1, c2, c3, c4, c5, c6, c7, c8, c9⟩ : Cl)).t.sh))), .v (.int .i64 (κ _ ((mapN l (⟨c1, c2, c3, c4, c5, c6, c7, c8, c9⟩ : Cl)).t.b))), .v (.int .i64 (κ _ ((mapN l (⟨c1, c2, c3, c4, c5, c6, c7, c8, c9⟩ : Cl)).t.o)))]])) v H') hκ ?_).mono ?_
  rotate_left
  · subst hκ; intro e w' h; exact h
  intro P' hP'
  cbv
  have hrt := mayS_rt hside.1
  repeat' (first | refine And.intro ?_ ?_ | (intro _; cbv) | (refine tst_mk (fun h => ?_) (fun h => ?_) <;> first | (exfalso; subst hκ; delta kid at h; exact absurd h (by decide)) | (exfalso; subst hκ; delta kid at *; exact (beq_no (by with_reducible assumption)) (bne_no h)) | (exfalso; subst hκ; delta kid at *; exact (beq_no h) (beq_yes (by with_reducible assumption))) | (exfalso; subst hκ; delta kid at *; exact (beq_no (by with_reducible assumption)) (beq_yes h)) | cbv) | (refine LookX.nil ?_; cbv) | (refine LookX.auto hκ ?_; cbv))
  all_goals (try (show Side _; refine ⟨?_⟩; subst hκ; delta kid at *; first | exact rfl | exact trivial | exact ⟨rfl, rfl, .inl rfl⟩ | exact ⟨hrt.1.1, by omega⟩ | exact ofL_len l | exact (withP_len _ _ _ _).trans (ofL_len l) | ((try dsimp only at *); (try simp only [setTo_len, noS_len, List.length_append, List.length_cons, List.length_nil, List.length_map, and_self, true_or, or_true, eq_self, true_and, and_true, Nat.zero_add, Nat.add_zero]); (first | done | omega); done)))
  all_goals (clear hH; subst hκ; delta kid at *; (try dsimp only at *))
  all_goals (try (show Side _; refine ⟨?_⟩; first | exact ⟨hside.2.2.1, (size_ok (beq_yes (by with_reducible assumption))).1⟩ | exact ⟨hside.1, hside.2.1, mp_sz (by with_reducible assumption), fl_rng (by with_reducible assumption) (by with_reducible assumption)⟩ | exact mp_side hside.1 (by with_reducible assumption) hside.2.1 (by with_reducible assumption)))
  all_goals (try (have ha : askE (⟨c1, c2, c3, c4, c5, c6, c7, c8, c9⟩ : Cl) = 1 := (by first | exact ask_a (c := (⟨c1, c2, c3, c4, c5, c6, c7, c8, c9⟩ : Cl)) (by with_reducible assumption) (.inl (by with_reducible assumption)) | exact ask_a (c := (⟨c1, c2, c3, c4, c5, c6, c7, c8, c9⟩ : Cl)) (by with_reducible assumption) (.inr (by with_reducible assumption)) | exact ask_b (c := (⟨c1, c2, c3, c4, c5, c6, c7, c8, c9⟩ : Cl)) (by with_reducible assumption) (by with_reducible assumption) (by with_reducible assumption) hside.2.2.2 (.inl (by with_reducible assumption)) | exact ask_b (c := (⟨c1, c2, c3, c4, c5, c6, c7, c8, c9⟩ : Cl)) (by with_reducible assumption) (by with_reducible assumption) (by with_reducible assumption) hside.2.2.2 (.inr (by with_reducible assumption)) | exact ask_c (c := (⟨c1, c2, c3, c4, c5, c6, c7, c8, c9⟩ : Cl)) (by with_reducible assumption) (by with_reducible assumption) (by with_reducible assumption) (by with_reducible assumption) (by with_reducible assumption) (by with_reducible assumption)); have hb := mp_ask (c := (⟨c1, c2, c3, c4, c5, c6, c7, c8, c9⟩ : Cl)) hside.1 (by rw [ha]; rfl); refine IsX.sameM rfl (fun x => ?_) hb.2.2; simp only [hb.1, ha, errA, noAt]; done))
  · have ha := (ask_d (c := (⟨c1, c2, c3, c4, c5, c6, c7, c8, c9⟩ : Cl)) (by with_reducible assumption) (by with_reducible assumption) (by with_reducible assumption) (by with_reducible assumption) (by with_reducible assumption) (by with_reducible assumption)).trans (beq_yes (by with_reducible assumption))
    have hb := mp_place (c := (⟨c1, c2, c3, c4, c5, c6, c7, c8, c9⟩ : Cl)) hside.1 ha (by with_reducible assumption)
    refine IsX.sameM rfl (fun x => ?_) hb.2.2
    simp only [hb.1, errA, noAt]
  · have hbk : backE c8 c9 (sizeV c3) = 0 := beq_yes (by with_reducible assumption)
    have ha : askE (⟨c1, c2, c3, c4, c5, c6, c7, c8, c9⟩ : Cl) = 0 := (ask_d (c := (⟨c1, c2, c3, c4, c5, c6, c7, c8, c9⟩ : Cl)) (by with_reducible assumption) (by with_reducible assumption) (by with_reducible assumption) (by with_reducible assumption) (by with_reducible assumption) (by with_reducible assumption)).trans hbk
    have hx := mp_x (c := (⟨c1, c2, c3, c4, c5, c6, c7, c8, c9⟩ : Cl)) hside.1 (by with_reducible assumption) hside.2.1 (by with_reducible assumption) (by with_reducible assumption) (by with_reducible assumption) (by with_reducible assumption) hbk (by with_reducible assumption)
    have hb := mp_same (c := (⟨c1, c2, c3, c4, c5, c6, c7, c8, c9⟩ : Cl)) hside.1 ha (by with_reducible assumption) hx h
    refine IsX.sameM rfl (fun x => ?_) hb.2
    simp only [hb.1, errA, noAt]
  · have hbk : backE c8 c9 (sizeV c3) = 0 := beq_yes (by with_reducible assumption)
    have ha : askE (⟨c1, c2, c3, c4, c5, c6, c7, c8, c9⟩ : Cl) = 0 := (ask_d (c := (⟨c1, c2, c3, c4, c5, c6, c7, c8, c9⟩ : Cl)) (by with_reducible assumption) (by with_reducible assumption) (by with_reducible assumption) (by with_reducible assumption) (by with_reducible assumption) (by with_reducible assumption)).trans hbk
    have hx := mp_x (c := (⟨c1, c2, c3, c4, c5, c6, c7, c8, c9⟩ : Cl)) hside.1 (by with_reducible assumption) hside.2.1 (by with_reducible assumption) (by with_reducible assumption) (by with_reducible assumption) (by with_reducible assumption) hbk (by with_reducible assumption)
    have hb := mp_new (c := (⟨c1, c2, c3, c4, c5, c6, c7, c8, c9⟩ : Cl)) hside.1 ha (by with_reducible assumption) hx h
    refine IsX.newM rfl rfl (fun x => ?_) hb.2.1 hb.2.2
    simp only [hb.1, okA, noAt, mapV]
  · have ha := ask_d (c := (⟨c1, c2, c3, c4, c5, c6, c7, c8, c9⟩ : Cl)) (by with_reducible assumption) (by with_reducible assumption) (by with_reducible assumption) (by with_reducible assumption) (by with_reducible assumption) (by with_reducible assumption)
    have hb := mp_ask (c := (⟨c1, c2, c3, c4, c5, c6, c7, c8, c9⟩ : Cl)) hside.1 (by rw [ha]; exact h)
    refine IsX.sameM rfl (fun x => ?_) hb.2.2
    simp only [hb.1, ha, errA, noAt]
  · have ha := ask_s (c := (⟨c1, c2, c3, c4, c5, c6, c7, c8, c9⟩ : Cl)) (by with_reducible assumption)
    have hb := mp_ask (c := (⟨c1, c2, c3, c4, c5, c6, c7, c8, c9⟩ : Cl)) hside.1 (by rw [ha.1]; exact ha.2)
    refine IsX.sameM rfl (fun x => ?_) hb.2.2
    simp only [hb.1, ha.1, errA, noAt]
def e_rmap {κ : Kp} (hκ : κ = kid) : ESpec Try.prog := fnES [.list, .flat] b_rmap F_rmap hκ fun avs p r hF hp => by
  unfold F_rmap at hF
  split at hF
  case h_2 => cases hF
  rename_i l xl c1 c2 c3 c4 c5 c6 c7 c8 c9
  simp only [kid, Option.some.injEq, Prod.mk.injEq] at hF
  obtain ⟨rfl, rfl⟩ := hF
  refine ⟨fun x y h => by simp [SV.den, SV.den0, h], fun vs w hR => ?_⟩
  obtain ⟨il, Al, cl, vs0, rfl, rfl, hl, hR⟩ := hR
  obtain ⟨vs1, rfl, hR⟩ := hR
  have hR' : vs1 = [] := hR
  subst hR'
  exact (k_rmap l c1 c2 c3 c4 c5 c6 c7 c8 c9 Al cl hp w hl).mono fun e w' ⟨v, H', h1, h2, h3⟩ => ⟨v, H', h1, h2.swap rfl, h3⟩

end Go.Proofs.Ytbcicjmepojlnaa.Eng
/- Contracts of functions (printed by genx.py of this work): what each hands back; condition: as its 'hside' says. -/
namespace Go.Proofs.Ytbcicjmepojlnaa.Eng
open Go Go.RowKit
set_option linter.unusedVariables false
set_option linter.unusedSimpArgs false

theorem b_mappingMaps : Bodied Try.prog 29 := bodied Try.func29 rfl (by decide)
def F_mappingMaps : FunX := fun κ avs => match avs with
  | [.lstc l xl, .val (.agg [.v (.int .i64 c1), .v (.int .i64 c2), .v (.int .i64 c3), .v (.int .i64 c4), .v (.int .i64 c5), .v (.int .i64 c6), .v (.int .i64 c7), .v (.int .i64 c8), .v (.int .i64 c9)])] => some (κ _ (In64 (⟨c1, c2, c3, c4, c5, c6, c7, c8, c9⟩ : Cl).a ∧ In64 (⟨c1, c2, c3, c4, c5, c6, c7, c8, c9⟩ : Cl).o ∧ In64 (⟨c1, c2, c3, c4, c5, c6, c7, c8, c9⟩ : Cl).f), (.val (.c (.v (.bool true)))))
  | _ => none
set_option maxRecDepth 100000 in
set_option maxHeartbeats 4000000 in
theorem k_mappingMaps (l : List Ar) (c1 : Int) (c2 : Int) (c3 : Int) (c4 : Int) (c5 : Int) (c6 : Int) (c7 : Int) (c8 : Int) (c9 : Int) (Al : Option Addr) (cl : Nat) (kl : l.length ≤ cl) (hside : In64 (⟨c1, c2, c3, c4, c5, c6, c7, c8, c9⟩ : Cl).a ∧ In64 (⟨c1, c2, c3, c4, c5, c6, c7, c8, c9⟩ : Cl).o ∧ In64 (⟨c1, c2, c3, c4, c5, c6, c7, c8, c9⟩ : Cl).f) (w : World) (hl : (Ent.rd Al 6 l.length (encL l)).holds w) :
    Calls Try.prog 29 #[.slice Al l.length cl, (SV.agg [.v (.int .i64 c1), .v (.int .i64 c2), .v (.int .i64 c3), .v (.int .i64 c4), .v (.int .i64 c5), .v (.int .i64 c6), .v (.int .i64 c7), .v (.int .i64 c8), .v (.int .i64 c9)]).den] w fun e w' => ∃ v H', e = .returned v.den ∧ IsX (.val (.c (.v (.bool true)))) v H' ∧ HSat w (fun _ => False) H' w' := by
  obtain ⟨κ, hκ⟩ : ∃ κ : Kp, κ = kid := ⟨_, rfl⟩
  have hH : HSat w (fun _ => False) (heapOf [(nilId, .rd none 1 0 []), (200000, .rd Al 6 (κ _ l.length) (κ _ (encL l)))]) w := by
    subst hκ
    refine HSat.reads fun p hp => ?_
    simp only [List.mem_cons, List.not_mem_nil, or_false] at hp
    rcases hp with rfl | rfl
    · exact ⟨_, _, _, _, rfl, nil_holds w⟩
    · exact ⟨_, _, _, _, rfl, hl⟩
  refine (callsP (n := 40) FTok [e_awake10 hκ, e_some hκ, e_map hκ, e_rmap hκ, e_rsame hκ] mixed [] Try.func29 rfl (by kernel_rfl) #[.slice Al l.length cl, (SV.agg [.v (.int .i64 c1), .v (.int .i64 c2), .v (.int .i64 c3), .v (.int .i64 c4), .v (.int .i64 c5), .v (.int .i64 c6), .v (.int .i64 c7), .v (.int .i64 c8), .v (.int .i64 c9)]).den] [(0, .c (.sl 200000 Al (κ _ l.length) cl)), (1, .agg [.v (.int .i64 c1), .v (.int .i64 c2), .v (.int .i64 c3), .v (.int .i64 c4), .v (.int .i64 c5), .v (.int .i64 c6), .v (.int .i64 c7), .v (.int .i64 c8), .v (.int .i64 c9)])] _ w rfl [.tmp 4] rfl (by simp) (by subst hκ; simp [SV.den, C.den, kid]) hH (fun v H' => IsX (.val (.c (.v (.bool true)))) v H') hκ ?_).mono ?_
  rotate_left
  · subst hκ; intro e w' h; exact h
  intro P' hP'
  cbv
  repeat' (first | refine And.intro ?_ ?_ | (intro _; cbv) | (refine tst_mk (fun h => ?_) (fun h => ?_) <;> cbv) | (refine LookX.nil ?_; cbv) | (refine LookX.auto hκ ?_; cbv))
  all_goals (try (show Side _; refine ⟨?_⟩; subst hκ; delta kid at *; first | exact rfl | exact trivial | exact ⟨rfl, rfl, .inl rfl⟩ | exact ⟨rfl, rfl, .inl rfl, kl⟩ | exact ⟨rfl, rfl, .inl rfl, encL_ok _⟩ | exact bd (put_bd _ _) (by omega) | exact ⟨some_may l, hside⟩ | ((try dsimp only at *); have z1 := madeL_le l; have z2 := someL_le l; (try simp only [maxLen]); have q0 : ¬ (30 : Int) < (l.length : Int) := of_decide_eq_false (by assumption); (try simp only [setTo_len, noS_len, List.length_append, List.length_cons, List.length_nil, List.length_map, and_self, true_or, or_true, eq_self, true_and, and_true, Nat.zero_add, Nat.add_zero]); (first | done | omega); done)))
  all_goals (clear hH; subst hκ; delta kid at *; (try dsimp only at *))
  all_goals (try (exact ⟨trivial⟩))
  all_goals (try (show IsX _ _ _; exact IsX.val_ rfl))
  all_goals (try (exact ⟨by decide⟩))
  all_goals (try (exfalso; rw [eqN_cells] at h; cases h; done))
  all_goals (try (show Side _; refine ⟨?_⟩; have z2 := someL_le l; have z3 := map_bd (someL l) (⟨c1, c2, c3, c4, c5, c6, c7, c8, c9⟩ : Cl); omega))
  all_goals (show IsX _ _ _; refine IsX.bool_ ?_; first | exact same_map (by with_reducible assumption) | exact sameL_self _)
def e_mappingMaps {κ : Kp} (hκ : κ = kid) : ESpec Try.prog := fnES [.listc, .flat] b_mappingMaps F_mappingMaps hκ fun avs p r hF hp => by
  unfold F_mappingMaps at hF
  split at hF
  case h_2 => cases hF
  rename_i l xl c1 c2 c3 c4 c5 c6 c7 c8 c9
  simp only [kid, Option.some.injEq, Prod.mk.injEq] at hF
  obtain ⟨rfl, rfl⟩ := hF
  refine ⟨trivial, fun vs w hR => ?_⟩
  obtain ⟨il, Al, cl, vs0, rfl, rfl, kl, hl, hR⟩ := hR
  obtain ⟨vs1, rfl, hR⟩ := hR
  have hR' : vs1 = [] := hR
  subst hR'
  exact k_mappingMaps l c1 c2 c3 c4 c5 c6 c7 c8 c9 Al cl kl hp w hl

end Go.Proofs.Ytbcicjmepojlnaa.Eng
