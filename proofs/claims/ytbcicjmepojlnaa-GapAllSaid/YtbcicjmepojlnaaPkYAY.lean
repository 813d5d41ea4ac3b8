/- Texts of this work, laid together: symbolic execution over the model, contracts of the program's functions, what they come to; conditions: as each says. -/
import Derived.Test.YtbcicjmepojlnaaPkYAT
import Derived.Test.YtbcicjmepojlnaaPkYAW
import Derived.Test.YtbcicjmepojlnaaPkYAX
/- Loops over gaps; the reference's free pages, choices; no condition but those typed. -/
namespace Go.Proofs.Ytbcicjmepojlnaa.Eng
open Go Go.RowKit
set_option autoImplicit false
set_option linter.unusedSimpArgs false
set_option linter.unusedVariables false
theorem g_take {l : List Gp} {i : Nat} (h : i < l.length) : takeN (encG l) (((i : Nat) : Int).toNat * 2) 2 = some [.v (.int .i64 (nthG l i).s), .v (.int .i64 (nthG l i).e)] := by
  rw [Int.toNat_natCast]
  exact enc_take encGp_len (by decide) l i _ (nthG_get h)
theorem g_ix {l : List Gp} {i : Nat} (h : i < l.length) : 0 < 2 ∧ 0 ≤ ((i : Nat) : Int) ∧ ((i : Nat) : Int) < (l.length : Int) := by omega
theorem g_next {l : List Gp} {i : Nat} (h : i < l.length) : l.take (i + 1) = l.take i ++ [nthG l i] := by
  have h2 := nthG_get h
  rw [List.take_add_one, h2]
  rfl
theorem nthG_mem {l : List Gp} {i : Nat} (h : i < l.length) : nthG l i ∈ l := List.mem_of_getElem? (nthG_get h)
def largeStep (n : Int) (g : Gp) : Int := maxI n (w64 (g.e - g.s))
def largeF (l : List Gp) : Int := l.foldl largeStep 0
theorem large_next {l : List Gp} {i : Nat} (h : i < l.length) : largeStep (largeF (l.take i)) (nthG l i) = largeF (l.take (i + 1)) := by
  unfold largeF
  rw [g_next h, List.foldl_append]
  rfl
theorem large_all {l : List Gp} {i : Nat} (h : ¬ i < l.length) : largeF (l.take i) = largeF l := by rw [List.take_of_length_le (by omega)]
theorem largest_eq (l : List Ar) : largestL l = largeF (gapsL l) := rfl
section
variable {l : List Ar} {a n : Int}
end
theorem gapsL_len {l : List Ar} {m : Nat} (h : l.length ≤ m) : (gapsL l).length ≤ m + 1 := by
  unfold gapsL
  split
  · have := gapsE_len l; omega
  · simp
/-! ### The reference's -/
section
variable {s : List Pg} {p n : Int}
end
end Go.Proofs.Ytbcicjmepojlnaa.Eng
/- The reference's Fits and Choose, and the program's; no condition but those typed. -/
namespace Go.Proofs.Ytbcicjmepojlnaa.Eng
open Go Go.RowKit
set_option autoImplicit false
set_option linter.unusedSimpArgs false
set_option linter.unusedVariables false
section
variable {l : List Ar} {a n : Int}
end
section
variable {l : List Ar} {lo hi n : Int} {gr : Bool} {k : Nat}
end
end Go.Proofs.Ytbcicjmepojlnaa.Eng
/- Contracts of functions (printed by genx.py of this work): what each hands back; condition: as its 'hside' says. -/
namespace Go.Proofs.Ytbcicjmepojlnaa.Eng
open Go Go.RowKit
set_option linter.unusedVariables false
set_option linter.unusedSimpArgs false
theorem b_largest : Bodied Try.prog 50 := bodied Try.func50 rfl (by decide)
def F_largest : FunX := fun κ avs => match avs with
  | [.lst l xl] => some (κ _ (l.length ≤ 300000), (.val (.c (.v (.int .i64 (κ _ (largestL l)))))))
  | _ => none
set_option maxRecDepth 100000 in
set_option maxHeartbeats 4000000 in
theorem k_largest (l : List Ar) (Al : Option Addr) (cl : Nat) (hside : l.length ≤ 300000) (w : World) (hl : (Ent.rd Al 6 l.length (encL l)).holds w) :
    Calls Try.prog 50 #[.slice Al l.length cl] w fun e w' => ∃ v H', e = .returned v.den ∧ IsX (.val (.c (.v (.int .i64 (largestL l))))) v H' ∧ HSat w (fun _ => False) H' w' := by
  obtain ⟨κ, hκ⟩ : ∃ κ : Kp, κ = kid := ⟨_, rfl⟩
  have hH : HSat w (fun _ => False) (heapOf [(nilId, .rd none 1 0 []), (200000, .rd Al 6 (κ _ l.length) (κ _ (encL l)))]) w := by
    subst hκ
    refine HSat.reads fun p hp => ?_
    simp only [List.mem_cons, List.not_mem_nil, or_false] at hp
    rcases hp with rfl | rfl
    · exact ⟨_, _, _, _, rfl, nil_holds w⟩
    · exact ⟨_, _, _, _, rfl, hl⟩
  refine (callsP (n := 22) FTok [e_gaps hκ] mixed [] Try.func50 rfl (by kernel_rfl) #[.slice Al l.length cl] [(0, .c (.sl 200000 Al (κ _ l.length) cl))] _ w rfl [.tmp 2] rfl (by simp) (by subst hκ; simp [SV.den, C.den, kid]) hH (fun v H' => IsX (.val (.c (.v (.int .i64 (κ _ (largestL l)))))) v H') hκ ?_).mono ?_
  rotate_left
  · subst hκ; intro e w' h; exact h
  intro P' hP'
  cbv
  repeat' (first | refine And.intro ?_ ?_ | (intro _; cbv) | (refine tst_mk (fun h => ?_) (fun h => ?_) <;> cbv) | (refine LookX.nil ?_; cbv) | (refine LookX.auto hκ ?_; cbv))
  all_goals (try (show Side _; refine ⟨?_⟩; subst hκ; delta kid at *; first | exact rfl | exact trivial | exact ⟨rfl, rfl, .inl rfl⟩ | ((try dsimp only at *); (try simp only [setTo_len, noS_len, List.length_append, List.length_cons, List.length_nil, List.length_map, and_self, true_or, or_true, eq_self, true_and, and_true, Nat.zero_add, Nat.add_zero]); (first | done | omega); done)))
  rename_i A2 c2
  refine loopP hP' FTok [] mixed [7, 8] (σ := Nat) (fun i => [(3, .c (.v (.int .i64 (κ _ (largeF ((gapsL l).take i)))))), (9, .c (.v (.int .i64 (κ _ ((i : Nat) : Int)))))]) (fun _ => [(7, .row A2 c2 42 2 (κ _ (gapsL l).length) (κ _ (encG (gapsL l))))]) (fun i => (gapsL l).length - i) 0 [7] ?_ (by decide) ?_ hκ ?_
  · cbv
    all_goals (subst hκ; delta kid; repeat' (first | exact rfl | exact trivial | refine And.intro ?_ ?_))
  · cbv
    all_goals (subst hκ; delta kid; repeat' (first | exact rfl | exact trivial | refine And.intro ?_ ?_))
  intro i
  cbv
  refine tst_mk (fun h => ?_) (fun h => ?_)
  · have hx : i < (gapsL l).length := by subst hκ; delta kid at h; have h2 : (i : Int) < ((gapsL l).length : Int) := of_decide_eq_true h; omega
    have hgl := gapsL_len hside
    cbv
    repeat' (first | refine And.intro ?_ ?_ | (intro _; cbv) | (refine tst_mk (fun h => ?_) (fun h => ?_) <;> cbv) | (refine LookX.nil ?_; cbv) | (refine LookX.auto hκ ?_; cbv) | (refine LookN.mk' (x := [.v (.int .i64 (κ _ (nthG (gapsL l) i).s)), .v (.int .i64 (κ _ (nthG (gapsL l) i).e))]) (by subst hκ; delta kid at *; exact g_take hx) ?_; cbv))
    all_goals (try (show Side _; refine ⟨?_⟩; subst hκ; delta kid at *; first | exact rfl | exact trivial | exact ⟨rfl, rfl, .inl rfl⟩ | ((try dsimp only at *); (try simp only [setTo_len, noS_len, List.length_append, List.length_cons, List.length_nil, List.length_map, and_self, true_or, or_true, eq_self, true_and, and_true, Nat.zero_add, Nat.add_zero]); (first | done | omega); done)))
    all_goals (clear hH; subst hκ; delta kid at *; (try dsimp only at *))
    all_goals (try (exact ⟨g_ix hx⟩))
    refine ⟨⟨i + 1, [7], (by show (gapsL l).length - (i + 1) < (gapsL l).length - i; omega), by decide, ?_, ?_⟩⟩
    all_goals repeat' (first | exact rfl | exact trivial | refine And.intro ?_ ?_ | exact congrArg (Value.int .i64) (nat_succ (by omega)) | exact congrArg (Value.int .i64) (large_next hx))
  · have hx : ¬ i < (gapsL l).length := by subst hκ; delta kid at h; have h2 : ¬ (i : Int) < ((gapsL l).length : Int) := of_decide_eq_false h; omega
    cbv
    (clear hH; subst hκ; delta kid at *; (try dsimp only at *))
    exact IsX.val_ (congrArg (Value.int .i64) ((large_all hx).trans (largest_eq l).symm))
def e_largest {κ : Kp} (hκ : κ = kid) : ESpec Try.prog := fnES [.list] b_largest F_largest hκ fun avs p r hF hp => by
  unfold F_largest at hF
  split at hF
  case h_2 => cases hF
  rename_i l xl
  simp only [kid, Option.some.injEq, Prod.mk.injEq] at hF
  obtain ⟨rfl, rfl⟩ := hF
  refine ⟨trivial, fun vs w hR => ?_⟩
  obtain ⟨il, Al, cl, vs0, rfl, rfl, hl, hR⟩ := hR
  have hR' : vs0 = [] := hR
  subst hR'
  exact k_largest l Al cl hp w hl
theorem b_awake08 : Bodied Try.prog 46 := bodied Try.func46 rfl (by decide)
def F_awake08 : FunX := fun κ avs => match avs with
  | [] => some (κ _ (True), (.val (.c (.v (.bool true)))))
  | _ => none
set_option maxRecDepth 100000 in
set_option maxHeartbeats 4000000 in
theorem k_awake08 (hside : True) (w : World) :
    Calls Try.prog 46 #[] w fun e w' => ∃ v H', e = .returned v.den ∧ IsX (.val (.c (.v (.bool true)))) v H' ∧ HSat w (fun _ => False) H' w' := by
  obtain ⟨κ, hκ⟩ : ∃ κ : Kp, κ = kid := ⟨_, rfl⟩
  have hH : HSat w (fun _ => False) (heapOf [(nilId, .rd none 1 0 [])]) w := by
    subst hκ
    refine HSat.reads fun p hp => ?_
    simp only [List.mem_cons, List.not_mem_nil, or_false] at hp
    rcases hp with rfl
    · exact ⟨_, _, _, _, rfl, nil_holds w⟩
  refine (callsP (n := 17) FTok [e_highest hκ, e_gaps hκ] mixed [] Try.func46 rfl (by kernel_rfl) #[] [] _ w rfl [.tmp 0] rfl (by simp) (by subst hκ; simp [SV.den, C.den, kid]) hH (fun v H' => IsX (.val (.c (.v (.bool true)))) v H') hκ ?_).mono ?_
  rotate_left
  · subst hκ; intro e w' h; exact h
  intro P' hP'
  cbv
  repeat' (first | refine And.intro ?_ ?_ | (intro _; cbv) | (refine tst_mk (fun h => ?_) (fun h => ?_) <;> cbv) | (refine LookX.nil ?_; cbv) | (refine LookX.auto hκ ?_; cbv))
  all_goals (try (show Side _; refine ⟨?_⟩; subst hκ; delta kid at *; first | exact rfl | exact trivial | exact ⟨rfl, rfl, .inl rfl⟩ | ((try dsimp only at *); (try simp only [setTo_len, noS_len, List.length_append, List.length_cons, List.length_nil, List.length_map, and_self, true_or, or_true, eq_self, true_and, and_true, Nat.zero_add, Nat.add_zero]); (first | done | omega); done)))
  all_goals (subst hκ; delta kid at *)
  all_goals (try (show IsX _ _ _; refine IsX.bool_ ?_; decide +kernel))
  all_goals (first | exact absurd h (by decide +kernel) | trace_state)
def e_awake08 {κ : Kp} (hκ : κ = kid) : ESpec Try.prog := fnES [] b_awake08 F_awake08 hκ fun avs p r hF hp => by
  unfold F_awake08 at hF
  split at hF
  case h_2 => cases hF
  simp only [kid, Option.some.injEq, Prod.mk.injEq] at hF
  obtain ⟨rfl, rfl⟩ := hF
  refine ⟨trivial, fun vs w hR => ?_⟩
  have hR' : vs = [] := hR
  subst hR'
  exact k_awake08 hp w
end Go.Proofs.Ytbcicjmepojlnaa.Eng
/- The longest gap; no condition but those typed. -/
namespace Go.Proofs.Ytbcicjmepojlnaa.Eng
open Go Go.RowKit
set_option autoImplicit false
set_option linter.unusedSimpArgs false
set_option linter.unusedVariables false
end Go.Proofs.Ytbcicjmepojlnaa.Eng
/- Pages and gaps, counted; no condition but those typed. -/
namespace Go.Proofs.Ytbcicjmepojlnaa.Eng
open Go Go.RowKit
set_option autoImplicit false
set_option linter.unusedSimpArgs false
set_option linter.unusedVariables false
/-! ### GapSums -/
theorem nthG_gap {l : List Ar} (hl : Rt l) {i : Nat} (h : i < (gapsL l).length) : GapOk l 65536 (nthG (gapsL l) i) := by
  have h2 := nthG_mem h
  rw [gaps_yes (of_rt hl)] at h2 ⊢
  exact (gaps_spec hl.ok).1 _ h2
theorem gap_rise {l : List Ar} (hl : Rt l) {i : Nat} (h : i < (gapsL l).length) {j : Nat} (hj : j < i) : (nthG (gapsL l) j).e < (nthG (gapsL l) i).s := by
  have h2 := (gaps_spec hl.ok).2.1
  rw [← gaps_yes (of_rt hl)] at h2
  have := (List.pairwise_iff_getElem.1 h2) j i (by omega) h hj
  have e1 := nthG_get h
  have e2 := nthG_get (show j < (gapsL l).length by omega)
  rw [List.getElem?_eq_getElem h] at e1
  rw [List.getElem?_eq_getElem (show j < (gapsL l).length by omega)] at e2
  injection e1 with e1
  injection e2 with e2
  rw [e1, e2] at this
  exact this
/-! ### GapTaken -/
/-! ### GapAll -/
def Ahead (G : List Gp) (p n : Nat) : Prop := n ≤ G.length ∧ (∀ j, j < n → (nthG G j).s < 4096 * (p : Int)) ∧ ∀ j, n ≤ j → j < G.length → 4096 * (p : Int) ≤ (nthG G j).s
section
variable {l : List Ar} (hl : Rt l) {p n : Nat}
include hl
theorem ahead_0 : Ahead (gapsL l) 16 0 := ⟨Nat.zero_le _, fun j hj => absurd hj (Nat.not_lt_zero j), fun j _ hj => (nthG_gap hl hj).lo⟩
theorem ahead_all (h : Ahead (gapsL l) 512 n) : n = (gapsL l).length := by
  obtain ⟨h1, _, h3⟩ := h
  by_cases hn : n < (gapsL l).length
  · have a := h3 n (Nat.le_refl _) hn
    have b := nthG_gap hl hn
    have := b.lt
    have := b.hi
    omega
  · omega
theorem free_is {q : Nat} (hq : q < 512) : (nthP (ofL l) q).is = false ↔ ∀ t, ¬ Has l (4096 * (q : Int)) t := by
  constructor
  · intro h t ht
    rw [(has_of hl.ok ht).1] at h
    cases h
  · intro h
    cases hb : (nthP (ofL l) q).is with
    | false => rfl
    | true =>
      by_cases h16 : 16 ≤ q
      · exact absurd (of_has hl.ok h16 hq hb) (h _)
      · exact (of_low hl.1 hq (by omega) hb).elim
theorem gap_at {q : Nat} (h16 : 16 ≤ q) (hq : q < 512) (h : (nthP (ofL l) q).is = false) : ∃ j, j < (gapsL l).length ∧ (nthG (gapsL l) j).s ≤ 4096 * (q : Int) ∧ 4096 * (q : Int) < (nthG (gapsL l) j).e := by
  obtain ⟨g, hg, h1, h2⟩ := (gaps_spec hl.ok).2.2 (4096 * (q : Int)) (by omega) (by omega) (by omega) ((free_is hl hq).1 h)
  rw [← gaps_yes (of_rt hl)] at hg
  obtain ⟨j, hj, rfl⟩ := List.getElem_of_mem hg
  have e := nthG_get hj
  rw [List.getElem?_eq_getElem hj] at e
  injection e with e
  rw [e] at h1 h2
  exact ⟨j, hj, h1, h2⟩
theorem gap_free_pg {j : Nat} (hj : j < (gapsL l).length) {q : Nat} (h1 : (nthG (gapsL l) j).s ≤ 4096 * (q : Int)) (h2 : 4096 * (q : Int) < (nthG (gapsL l) j).e) : (nthP (ofL l) q).is = false := by
  have hk := nthG_gap hl hj
  have := hk.hi
  exact (free_is hl (by omega)).2 fun t ht => hk.free _ t h1 h2 ht
theorem ahead_skip (h : Ahead (gapsL l) p n) (h16 : 16 ≤ p) (hp : p < 512) (hs : (nthP (ofL l) p).is = true ∨ (16 < p ∧ (nthP (ofL l) (p - 1)).is = false)) : Ahead (gapsL l) (p + 1) n := by
  obtain ⟨h1, h2, h3⟩ := h
  refine ⟨h1, fun j hj => by have := h2 j hj; omega, fun j hj hj2 => ?_⟩
  have a := h3 j hj hj2
  have hk := nthG_gap hl hj2
  have z := hk.z
  by_cases he : (nthG (gapsL l) j).s = 4096 * (p : Int)
  · exfalso
    have lt := hk.lt
    rcases hs with h | ⟨hp16, h⟩
    · rw [gap_free_pg hl hj2 (by omega) (by omega)] at h
      cases h
    · rcases hk.start with h5 | ⟨t, ht⟩
      · omega
      · exact (free_is hl (by omega)).1 h t (by rw [show 4096 * ((p - 1 : Nat) : Int) = (nthG (gapsL l) j).s - 4096 by omega]; exact ht)
  · omega
theorem ahead_hit (h : Ahead (gapsL l) p n) (h16 : 16 ≤ p) (hp : p < 512) (hs : (nthP (ofL l) p).is = false) (hs2 : p = 16 ∨ (nthP (ofL l) (p - 1)).is = true) : n < (gapsL l).length ∧ (nthG (gapsL l) n).s = 4096 * (p : Int) ∧ Ahead (gapsL l) (p + 1) (n + 1) := by
  obtain ⟨h1, h2, h3⟩ := h
  obtain ⟨j, hj, c1, c2⟩ := gap_at hl h16 hp hs
  have hk := nthG_gap hl hj
  have z := hk.z
  have lo := hk.lo
  have es : (nthG (gapsL l) j).s = 4096 * (p : Int) := by
    by_cases he : (nthG (gapsL l) j).s = 4096 * (p : Int)
    · exact he
    · exfalso
      rcases hs2 with h | h
      · omega
      · rw [gap_free_pg hl hj (q := p - 1) (by omega) (by omega)] at h
        cases h
  have ej : j = n := by
    by_cases hjn : j < n
    · have := h2 j hjn; omega
    · by_cases hnj : n < j
      · have := h3 n (Nat.le_refl _) (by omega)
        have r := gap_rise hl hj hnj
        have := (nthG_gap hl (show n < (gapsL l).length by omega)).lt
        omega
      · omega
  subst ej
  refine ⟨hj, es, hj, fun k hk => ?_, fun k hk hk2 => ?_⟩
  · by_cases hkj : k = j
    · subst hkj; omega
    · have := h2 k (by omega); omega
  · have r := gap_rise hl hk2 (show j < k by omega)
    have lt := (nthG_gap hl hj).lt
    have z2 := (nthG_gap hl hj).z2
    omega
theorem gap_end {j : Nat} (hj : j < (gapsL l).length) {q : Nat} (h1 : (nthG (gapsL l) j).s ≤ 4096 * (q : Int)) (h2 : 4096 * (q : Int) ≤ (nthG (gapsL l) j).e) (hs : q = 512 ∨ (q < 512 ∧ (nthP (ofL l) q).is = true)) : (nthG (gapsL l) j).e = 4096 * (q : Int) := by
  have hk := nthG_gap hl hj
  have := hk.hi
  rcases hs with rfl | ⟨hq, h⟩
  · omega
  · by_cases he : 4096 * (q : Int) < (nthG (gapsL l) j).e
    · rw [gap_free_pg hl hj h1 he] at h
      cases h
    · omega
theorem gap_more {j : Nat} (hj : j < (gapsL l).length) {q : Nat} (hq : q < 512) (h2 : 4096 * (q : Int) ≤ (nthG (gapsL l) j).e) (hs : (nthP (ofL l) q).is = false) : 4096 * ((q + 1 : Nat) : Int) ≤ (nthG (gapsL l) j).e := by
  have hk := nthG_gap hl hj
  have z := hk.z2
  by_cases he : (nthG (gapsL l) j).e = 4096 * (q : Int)
  · exfalso
    rcases hk.stop with h | ⟨t, ht⟩
    · omega
    · exact (free_is hl hq).1 hs t (by rw [← he]; exact ht)
  · omega
end
end Go.Proofs.Ytbcicjmepojlnaa.Eng
/- A gap's fields; no condition but those typed. -/
namespace Go.Proofs.Ytbcicjmepojlnaa.Eng
open Go Go.RowKit
set_option autoImplicit false
set_option linter.unusedSimpArgs false
set_option linter.unusedVariables false
theorem g_s {l : List Gp} {i : Nat} (h : i < l.length) : (encG l)[((i : Nat) : Int).toNat * 2]? = some (.v (.int .i64 (nthG l i).s)) := by
  rw [Int.toNat_natCast]
  exact enc_get encGp_len l i _ 0 (nthG_get h) (by decide)
theorem g_e {l : List Gp} {i : Nat} (h : i < l.length) : (encG l)[((i : Nat) : Int).toNat * 2 + 1]? = some (.v (.int .i64 (nthG l i).e)) := by
  rw [Int.toNat_natCast]
  exact enc_get encGp_len l i _ 1 (nthG_get h) (by decide)
theorem page_pis {s : List Pg} (hs : s.length = 512) {m : Nat} (h : 16 ≤ m) (h' : m < 512) : (encS s)[0 + (IntKind.i64.wrap (((m : Nat) : Int) - 1)).toNat * 5]? = some (.v (.bool (nthP s (m - 1)).is)) := by
  rw [pre_page h h']
  exact page_is' hs (by omega)
theorem all_next {l : List Ar} (hl : Rt l) {k n q : Nat} (hn : n < (gapsL l).length) (hs : (nthG (gapsL l) n).s = 4096 * ((16 + k : Nat) : Int)) (he : (nthG (gapsL l) n).e = 4096 * (q : Int)) (hk : k < 496) (hq : q ≤ 512) : maxI (largeF ((gapsL l).take n)) (IntKind.i64.wrap (4096 * IntKind.i64.wrap ((q : Int) - ((16 + k : Nat) : Int)))) = largeF ((gapsL l).take (n + 1)) := by
  rw [← large_next hn]
  unfold largeStep
  have e1 : IntKind.i64.wrap ((q : Int) - ((16 + k : Nat) : Int)) = (q : Int) - ((16 + k : Nat) : Int) := w64_id (by unfold In64; omega)
  have e2 : IntKind.i64.wrap (4096 * ((q : Int) - ((16 + k : Nat) : Int))) = 4096 * ((q : Int) - ((16 + k : Nat) : Int)) := w64_id (by unfold In64; omega)
  have e3 : w64 ((nthG (gapsL l) n).e - (nthG (gapsL l) n).s) = (nthG (gapsL l) n).e - (nthG (gapsL l) n).s := w64_id (by unfold In64; omega)
  rw [e1, e2, e3, hs, he]
  congr 1
  omega
theorem mul_q {q : Nat} (hq : q ≤ 512) : IntKind.i64.wrap (4096 * (q : Int)) = 4096 * (q : Int) := w64_id (by unfold In64; omega)
theorem all_end {l : List Ar} : (largestL l == largeF ((gapsL l).take (gapsL l).length)) = true := by
  rw [List.take_length, ← largest_eq]
  exact beq_self_eq_true _
theorem lt_page {k : Nat} (h : decide ((16 : Int) < ((16 + k : Nat) : Int)) = true) : 16 < 16 + k := by
  have := of_decide_eq_true h
  omega
theorem ge_page {k : Nat} (h : decide ((16 : Int) < ((16 + k : Nat) : Int)) = false) : 16 + k = 16 := by
  have := of_decide_eq_false h
  omega
theorem lt_512 {q : Nat} (h : decide (((q : Nat) : Int) < 512) = true) : q < 512 := by
  have := of_decide_eq_true h
  omega
theorem ge_512 {q : Nat} (h : decide (((q : Nat) : Int) < 512) = false) (h2 : q ≤ 512) : q = 512 := by
  have := of_decide_eq_false h
  omega
/-! ### GapTaken -/
end Go.Proofs.Ytbcicjmepojlnaa.Eng
/- The gaps against the pages, with pages and gaps as names; no condition but those typed. -/
namespace Go.Proofs.Ytbcicjmepojlnaa.Eng
open Go Go.RowKit
set_option autoImplicit false
set_option linter.unusedSimpArgs false
set_option linter.unusedVariables false
set_option linter.unusedSectionVars false
structure GA (l : List Ar) (S : List Pg) (G : List Gp) : Prop where
  hS : S = ofL l
  hG : G = gapsL l
  hl : Rt l
section
variable {l : List Ar} {S : List Pg} {G : List Gp} (g : GA l S G) {k n q : Nat}
include g
theorem ga_len : S.length = 512 := by rw [g.hS]; exact ofL_len _
theorem ga_0 : Ahead G (16 + 0) 0 := by rw [g.hG]; exact ahead_0 g.hl
theorem ga_skip1 (h : Ahead G (16 + k) n) (hk : k < 496) (hs : (nthP S (16 + k)).is = true) : Ahead G (16 + (k + 1)) n := by
  obtain ⟨rfl, rfl, hl⟩ := g
  exact ahead_skip hl h (show 16 ≤ 16 + k by omega) (show 16 + k < 512 by omega) (.inl hs)
theorem ga_skip2 (h : Ahead G (16 + k) n) (hk : k < 496) (hd : decide ((16 : Int) < ((16 + k : Nat) : Int)) = true) (hs : (nthP S (16 + k - 1)).is = false) : Ahead G (16 + (k + 1)) n := by
  obtain ⟨rfl, rfl, hl⟩ := g
  exact ahead_skip hl h (show 16 ≤ 16 + k by omega) (show 16 + k < 512 by omega) (.inr ⟨lt_page hd, hs⟩)
theorem ga_hit (h : Ahead G (16 + k) n) (hk : k < 496) (hs : (nthP S (16 + k)).is = false) (h2 : decide ((16 : Int) < ((16 + k : Nat) : Int)) = false ∨ (nthP S (16 + k - 1)).is = true) :
    n < G.length ∧ (nthG G n).s = 4096 * ((16 + k : Nat) : Int) ∧ Ahead G (16 + (k + 1)) (n + 1) ∧ 4096 * ((16 + k : Nat) : Int) ≤ (nthG G n).e := by
  obtain ⟨rfl, rfl, hl⟩ := g
  obtain ⟨c1, c2, c3⟩ := ahead_hit hl h (by omega) (by omega) hs (by
    rcases h2 with h2 | h2
    · exact .inl (ge_page h2)
    · exact .inr h2)
  have lt := (nthG_gap hl c1).lt
  generalize nthG (gapsL l) n = x at c2 lt ⊢
  exact ⟨c1, c2, c3, by omega⟩
theorem ga_more (hn : n < G.length) (hq : q < 512) (h2 : 4096 * (q : Int) ≤ (nthG G n).e) (hs : (nthP S q).is = false) : 4096 * ((q + 1 : Nat) : Int) ≤ (nthG G n).e := by
  obtain ⟨rfl, rfl, hl⟩ := g
  exact gap_more hl hn hq h2 hs
theorem ga_end (hn : n < G.length) (h0 : (nthG G n).s = 4096 * ((16 + k : Nat) : Int)) (h1 : 16 + k ≤ q) (h2 : 4096 * (q : Int) ≤ (nthG G n).e) (hs : q = 512 ∨ (q < 512 ∧ (nthP S q).is = true)) : (nthG G n).e = 4096 * (q : Int) := by
  obtain ⟨rfl, rfl, hl⟩ := g
  refine gap_end hl hn (by rw [h0]; omega) h2 ?_
  rcases hs with hs | ⟨hs, hb⟩
  · exact .inl hs
  · exact .inr ⟨hs, hb⟩
theorem ga_most (hn : n < G.length) (hs : (nthG G n).s = 4096 * ((16 + k : Nat) : Int)) (he : (nthG G n).e = 4096 * (q : Int)) (hk : k < 496) (hq : q ≤ 512) : maxI (largeF (G.take n)) (IntKind.i64.wrap (4096 * IntKind.i64.wrap ((q : Int) - ((16 + k : Nat) : Int)))) = largeF (G.take (n + 1)) := by
  obtain ⟨rfl, rfl, hl⟩ := g
  exact all_next hl hn hs he hk hq
theorem ga_all (h : Ahead G (16 + 496) n) : n = G.length := by
  obtain ⟨rfl, rfl, hl⟩ := g
  exact ahead_all hl h
theorem ga_fin : (largestL l == largeF (G.take G.length)) = true := by
  obtain ⟨rfl, rfl, hl⟩ := g
  exact all_end
theorem ga_is (hq : q < 512) : (encS S)[0 + ((q : Nat) : Int).toNat * 5]? = some (.v (.bool (nthP S q).is)) := page_is' (ga_len g) hq
theorem ga_pis (hk : k < 496) : (encS S)[0 + (IntKind.i64.wrap (((16 + k : Nat) : Int) - 1)).toNat * 5]? = some (.v (.bool (nthP S (16 + k - 1)).is)) := page_pis (ga_len g) (by omega) (by omega)
theorem ga_ne_s (hs : (nthG G n).s = 4096 * ((16 + k : Nat) : Int)) (hk : k ≤ 496) : ((nthG G n).s != IntKind.i64.wrap (4096 * ((16 + k : Nat) : Int))) = false := by
  rw [mul_q (by omega), hs, bne_self_eq_false]
theorem ga_ne_e (he : (nthG G n).e = 4096 * (q : Int)) (hq : q ≤ 512) : ((nthG G n).e != IntKind.i64.wrap (4096 * (q : Int))) = false := by
  rw [mul_q hq, he, bne_self_eq_false]
theorem ga_small (hl : l.length ≤ 300000) : G.length ≤ 300001 := by
  rw [g.hG]
  exact gapsL_len hl
theorem ga_leq (h : (((G.length : Nat) : Int) == (((gapsL l).length : Nat) : Int)) = false) : False := by
  rw [g.hG, beq_self_eq_true] at h
  cases h
end
theorem pg_in {k : Nat} (hk : k < 496) : (0 : Int) ≤ ((16 + k : Nat) : Int) ∧ ((16 + k : Nat) : Int) < ((512 : Nat) : Int) := by omega
theorem pg_pin {k : Nat} (hk : k < 496) : (0 : Int) ≤ IntKind.i64.wrap (((16 + k : Nat) : Int) - 1) ∧ IntKind.i64.wrap (((16 + k : Nat) : Int) - 1) < ((512 : Nat) : Int) := by
  rw [pre_page (by omega) (by omega)]
  omega
theorem pg_lt {k : Nat} (h : decide (((16 + k : Nat) : Int) < 512) = true) : k < 496 := by
  have := of_decide_eq_true h
  omega
theorem pg_ge {k : Nat} (hk : 16 + k ≤ 512) (h : decide (((16 + k : Nat) : Int) < 512) = false) : k = 496 := by
  have := of_decide_eq_false h
  omega
theorem pg_fit {k : Nat} (hk : k < 496) : 16 + (k + 1) ≤ 512 := by omega
theorem pg_meas {k : Nat} (hk : k < 496) : 496 - (k + 1) < 496 - k := by omega
theorem q_meas {q : Nat} (hq : q < 512) : 512 - (q + 1) < 512 - q := by omega
theorem ga_ix {n m : Nat} (h : n < m) : 0 < 2 ∧ 0 ≤ ((n : Nat) : Int) ∧ ((n : Nat) : Int) < (m : Int) := by omega
theorem len_ge {n m : Nat} (h : n < m) : decide (((m : Nat) : Int) ≤ ((n : Nat) : Int)) = false := by
  rw [decide_eq_false_iff_not]
  omega
theorem g_le {m : Nat} (h : m ≤ 300001) {n : Nat} (hn : n < m) : IntKind.i64.wrap (((n : Nat) : Int) + 1) = ((n + 1 : Nat) : Int) := nat_succ (by omega)
end Go.Proofs.Ytbcicjmepojlnaa.Eng
/- Contracts of functions (printed by genx.py of this work): what each hands back; condition: as its 'hside' says. -/
namespace Go.Proofs.Ytbcicjmepojlnaa.Eng
open Go Go.RowKit
set_option linter.unusedVariables false
set_option linter.unusedSimpArgs false
end Go.Proofs.Ytbcicjmepojlnaa.Eng
/- Contracts of functions (printed by genx.py of this work): what each hands back; condition: as its 'hside' says. -/
namespace Go.Proofs.Ytbcicjmepojlnaa.Eng
open Go Go.RowKit
set_option linter.unusedVariables false
set_option linter.unusedSimpArgs false
set_option maxRecDepth 100000 in
set_option maxHeartbeats 4000000 in
theorem k_gapAll (l : List Ar) (Al : Option Addr) (cl : Nat) (kl : l.length ≤ cl) (hside : True) (w : World) (hl : (Ent.rd Al 6 l.length (encL l)).holds w) :
    Calls Try.prog 4 #[.slice Al l.length cl] w fun e w' => ∃ v H', e = .returned v.den ∧ IsX (.val (.c (.v (.bool true)))) v H' ∧ HSat w (fun _ => False) H' w' := by
  obtain ⟨κ, hκ⟩ : ∃ κ : Kp, κ = kid := ⟨_, rfl⟩
  have hH : HSat w (fun _ => False) (heapOf [(nilId, .rd none 1 0 []), (200000, .rd Al 6 (κ _ l.length) (κ _ (encL l)))]) w := by
    subst hκ
    refine HSat.reads fun p hp => ?_
    simp only [List.mem_cons, List.not_mem_nil, or_false] at hp
    rcases hp with rfl | rfl
    · exact ⟨_, _, _, _, rfl, nil_holds w⟩
    · exact ⟨_, _, _, _, rfl, hl⟩
  refine (callsP (n := 98) FTok [e_awake08 hκ, e_made hκ, e_of hκ, e_gaps hκ, e_largest hκ] mixed [] Try.func4 rfl (by kernel_rfl) #[.slice Al l.length cl] [(0, .c (.sl 200000 Al (κ _ l.length) cl))] _ w rfl [.tmp 2] rfl (by simp) (by subst hκ; simp [SV.den, C.den, kid]) hH (fun v H' => IsX (.val (.c (.v (.bool true)))) v H') hκ ?_).mono ?_
  rotate_left
  · subst hκ; intro e w' h; exact h
  intro P' hP'
  cbv
  repeat' (first | refine And.intro ?_ ?_ | (intro _; cbv) | (refine tst_mk (fun h => ?_) (fun h => ?_) <;> cbv) | (refine LookX.nil ?_; cbv) | (refine LookX.auto hκ ?_; cbv))
  all_goals (try (show Side _; refine ⟨?_⟩; subst hκ; delta kid at *; first | exact rfl | exact trivial | exact ⟨rfl, rfl, .inl rfl⟩ | exact ⟨rfl, rfl, .inl rfl, kl⟩ | exact ⟨rfl, rfl, .inl rfl, encL_ok _⟩ | exact ⟨(made_rt l).1, by omega⟩ | ((try dsimp only at *); have z1 := madeL_le l; (try simp only [maxLen]); have q0 : ¬ (20 : Int) < (l.length : Int) := of_decide_eq_false (by assumption); (try simp only [setTo_len, noS_len, List.length_append, List.length_cons, List.length_nil, List.length_map, and_self, true_or, or_true, eq_self, true_and, and_true, Nat.zero_add, Nat.add_zero]); (first | done | omega); done)))
  all_goals (try (show IsX _ _ _; (clear hH; subst hκ; delta kid at *; (try dsimp only at *)); exact IsX.val_ rfl))
  all_goals (try (show _ = true; subst hκ; delta kid; (have ho := encS_ok (ofL (madeL l)); generalize encS (ofL (madeL l)) = xs at ho ⊢; cases xs <;> exact ho)))
  all_goals (try (show 2560 = _; subst hκ; delta kid; (have ho := encS_len2 (s := ofL (madeL l)) (ofL_len _); generalize encS (ofL (madeL l)) = xs at ho ⊢; cases xs <;> exact ho.symm)))
  all_goals (try (show Side _; subst hκ; delta kid; refine ⟨?_⟩; rw [encS_noS, encS_len, encS_len, ofL_len _, noS_len]; omega))
  all_goals (try (show Side _; subst hκ; delta kid; exact ⟨by decide⟩))
  all_goals (try (show Side _; subst hκ; delta kid; exact ⟨⟨(made_rt l).1, Nat.le_trans (madeL_le l) (by decide)⟩⟩))
  have hr := made_rt l
  have hml : (madeL l).length ≤ 300000 := by have z1 := madeL_le l; omega
  obtain ⟨S, hS⟩ : ∃ S, S = ofL (madeL l) := ⟨_, rfl⟩
  obtain ⟨GG, hG⟩ : ∃ GG, GG = gapsL (madeL l) := ⟨_, rfl⟩
  have g : GA (madeL l) S GG := ⟨hS, hG, hr⟩
  rename_i A1 c1 b4 A2 c2
  clear h
  refine loopP hP' FTok [e_largest hκ] mixed [3, 4, 5] (σ := {s : Nat × Nat // 16 + s.1 ≤ 512 ∧ Ahead GG (16 + s.1) s.2}) (fun q => [(6, .c (.v (.int .i64 (κ _ ((q.1.2 : Nat) : Int))))), (7, .c (.v (.int .i64 (κ _ (largeF (GG.take q.1.2)))))), (8, .c (.v (.int .i64 (κ _ ((16 + q.1.1 : Nat) : Int)))))]) (fun _ => [(19, .row A1 c1 53 6 (κ _ (madeL l).length) (κ _ (encL (madeL l)))), (4, .blk b4 37 (κ _ (encS S))), (23, .row A2 c2 42 2 (κ _ GG.length) (κ _ (encG GG)))]) (fun q => 496 - q.1.1) ⟨(0, 0), (by decide), ga_0 g⟩ [19, 4, 23] ?_ (by decide) ?_ hκ ?_
  · cbv
    all_goals (subst hκ; delta kid; subst hS hG; repeat' (first | exact rfl | exact trivial | refine And.intro ?_ ?_))
  · cbv
    all_goals (subst hκ; delta kid; subst hS hG; repeat' (first | exact rfl | exact trivial | refine And.intro ?_ ?_ | (rw [zero_put (ga_len g)]; rfl) | (rw [zero_put (ga_len g)]) | exact zero_put (ga_len g) | exact congrArg (List.map C.den) (zero_put (ga_len g))))
  rintro ⟨⟨k, n⟩, hk, hA⟩
  have hk : 16 + k ≤ 512 := hk
  have hA : Ahead GG (16 + k) n := hA
  clear hS hG
  cbv
  refine tst_mk (fun h => ?_) (fun h => ?_)
  · have hx : k < 496 := by subst hκ; delta kid at h; exact pg_lt h
    clear h hk
    cbv
    repeat' (first | refine And.intro ?_ ?_ | (intro _; cbv) | (refine tst_mk (fun h => ?_) (fun h => ?_) <;> cbv) | (refine LookX.nil ?_; cbv) | (refine LookX.auto hκ ?_; cbv) | (refine LookR.mk' (x := .v (.bool (κ _ (nthP S (16 + k)).is))) (by subst hκ; delta kid at *; exact ga_is g (show 16 + k < 512 by omega)) ?_; cbv) | (refine LookR.mk' (x := .v (.bool (κ _ (nthP S (16 + k - 1)).is))) (by subst hκ; delta kid at *; exact ga_pis g hx) ?_; cbv))
    all_goals (try (show Side _; (clear hH; subst hκ; delta kid at *; (try dsimp only at *)); first | exact ⟨pg_in hx⟩ | exact ⟨pg_pin hx⟩))
    all_goals (try ((clear hH; subst hκ; delta kid at *; (try dsimp only at *)); first | (refine ⟨⟨⟨(k + 1, n), pg_fit hx, ga_skip1 g hA hx (by with_reducible assumption)⟩, [19, 4, 23], pg_meas hx, by decide, ?_, ?_⟩⟩ <;> repeat' (first | exact rfl | exact trivial | refine And.intro ?_ ?_ | exact congrArg (Value.int .i64) (page_succ (show 16 + k < 512 by omega)))) | (refine ⟨⟨⟨(k + 1, n), pg_fit hx, ga_skip2 g hA hx (by with_reducible assumption) (by with_reducible assumption)⟩, [19, 4, 23], pg_meas hx, by decide, ?_, ?_⟩⟩ <;> repeat' (first | exact rfl | exact trivial | refine And.intro ?_ ?_ | exact congrArg (Value.int .i64) (page_succ (show 16 + k < 512 by omega))))))
    all_goals
      obtain ⟨hn, hgs, hA2, hge⟩ := ga_hit g hA hx (by subst hκ; delta kid at *; exact (by with_reducible assumption)) (by subst hκ; delta kid at *; first | exact .inr (by with_reducible assumption) | exact .inl (by with_reducible assumption))
      have hn2 : n < (gapsL (madeL l)).length := by rw [← g.hG]; exact hn
      have gl := ga_small g hml
      have hk4 : k ≤ 496 := Nat.le_of_lt hx
      refine loopP hP' FTok [e_largest hκ] mixed [3, 4, 5, 6, 7, 8] (σ := {q : Nat // 16 + k ≤ q ∧ q ≤ 512 ∧ 4096 * (q : Int) ≤ (nthG GG n).e}) (fun q => [(9, .c (.v (.int .i64 (κ _ ((q.1 : Nat) : Int)))))]) (fun _ => [(19, .row A1 c1 53 6 (κ _ (madeL l).length) (κ _ (encL (madeL l)))), (4, .blk b4 37 (κ _ (encS S))), (23, .row A2 c2 42 2 (κ _ GG.length) (κ _ (encG GG)))]) (fun q => 512 - q.1) ⟨16 + k, Nat.le_refl _, (by omega), hge⟩ [19, 4, 23] ?_ (by decide) ?_ hκ ?_
      · cbv
        all_goals (subst hκ; delta kid; repeat' (first | exact rfl | exact trivial | refine And.intro ?_ ?_))
      · cbv
        all_goals (subst hκ; delta kid; repeat' (first | exact rfl | exact trivial | refine And.intro ?_ ?_))
      rintro ⟨q, hq1, hq2, hq3⟩
      cbv
      refine tst_mk (fun h => ?_) (fun h => ?_)
      · have hx2 : q < 512 := by subst hκ; delta kid at h; exact lt_512 h
        cbv
        repeat' (first | refine And.intro ?_ ?_ | (intro _; cbv) | (refine tst_mk (fun h => ?_) (fun h => ?_) <;> cbv) | (refine LookX.nil ?_; cbv) | (refine LookX.auto hκ ?_; cbv) | (refine LookR.mk' (x := .v (.bool (κ _ (nthP S q).is))) (by subst hκ; delta kid at *; exact ga_is g hx2) ?_; cbv) | (refine LookR.mk' (x := .v (.int .i64 (κ _ (nthG GG n).s))) (by subst hκ; delta kid at *; exact g_s hn) ?_; cbv) | (refine LookR.mk' (x := .v (.int .i64 (κ _ (nthG GG n).e))) (by subst hκ; delta kid at *; exact g_e hn) ?_; cbv))
        all_goals (try (show Side _; (clear hH; subst hκ; delta kid at *; (try dsimp only at *)); first | exact ⟨page_ix hx2⟩ | exact ⟨ga_ix hn2⟩ | exact ⟨ga_ix hn⟩ | exact ⟨congrArg List.length g.hG.symm⟩))
        all_goals (clear hH; subst hκ; delta kid at *; (try dsimp only at *))
        all_goals (try (refine ⟨⟨⟨q + 1, Nat.le_succ_of_le hq1, hx2, ga_more g hn hx2 hq3 (by with_reducible assumption)⟩, [19, 4, 23], q_meas hx2, by decide, ?_, ?_⟩⟩ <;> repeat' (first | exact rfl | exact trivial | refine And.intro ?_ ?_ | exact congrArg (Value.int .i64) (page_succ hx2))))
        all_goals (have he := ga_end g hn hgs hq1 hq3 (.inr ⟨hx2, (by with_reducible assumption)⟩))
        all_goals (first | (show IsX _ _ _; exfalso; first | (cases ((len_ge hn2).symm.trans (by with_reducible assumption)); done) | (cases ((len_ge hn).symm.trans (by with_reducible assumption)); done) | (cases ((ga_ne_s g hgs hk4).symm.trans (by with_reducible assumption)); done) | (cases ((ga_ne_e g he hq2).symm.trans (by with_reducible assumption)); done)) | (refine ⟨⟨⟨(k + 1, n + 1), pg_fit hx, hA2⟩, [19, 4, 23], pg_meas hx, by decide, ?_, ?_⟩⟩ <;> repeat' (first | exact rfl | exact trivial | refine And.intro ?_ ?_ | exact congrArg (Value.int .i64) (g_le gl hn) | exact congrArg (Value.int .i64) (ga_most g hn hgs he hx hq2) | exact congrArg (Value.int .i64) (page_succ (show 16 + k < 512 by omega)))))
      · have hx2 : q = 512 := by subst hκ; delta kid at h; exact ge_512 h hq2
        have he := ga_end g hn hgs hq1 hq3 (.inl hx2)
        cbv
        repeat' (first | refine And.intro ?_ ?_ | (intro _; cbv) | (refine tst_mk (fun h => ?_) (fun h => ?_) <;> cbv) | (refine LookX.nil ?_; cbv) | (refine LookX.auto hκ ?_; cbv) | (refine LookR.mk' (x := .v (.bool (κ _ (nthP S q).is))) (by subst hκ; delta kid at *; exact ga_is g hx2) ?_; cbv) | (refine LookR.mk' (x := .v (.int .i64 (κ _ (nthG GG n).s))) (by subst hκ; delta kid at *; exact g_s hn) ?_; cbv) | (refine LookR.mk' (x := .v (.int .i64 (κ _ (nthG GG n).e))) (by subst hκ; delta kid at *; exact g_e hn) ?_; cbv))
        all_goals (try (show Side _; (clear hH; subst hκ; delta kid at *; (try dsimp only at *)); first | exact ⟨ga_ix hn2⟩ | exact ⟨ga_ix hn⟩ | exact ⟨congrArg List.length g.hG.symm⟩))
        all_goals (clear hH; subst hκ; delta kid at *; (try dsimp only at *))
        all_goals (first | (show IsX _ _ _; exfalso; first | (cases ((len_ge hn2).symm.trans (by with_reducible assumption)); done) | (cases ((len_ge hn).symm.trans (by with_reducible assumption)); done) | (cases ((ga_ne_s g hgs hk4).symm.trans (by with_reducible assumption)); done) | (cases ((ga_ne_e g he hq2).symm.trans (by with_reducible assumption)); done)) | (refine ⟨⟨⟨(k + 1, n + 1), pg_fit hx, hA2⟩, [19, 4, 23], pg_meas hx, by decide, ?_, ?_⟩⟩ <;> repeat' (first | exact rfl | exact trivial | refine And.intro ?_ ?_ | exact congrArg (Value.int .i64) (g_le gl hn) | exact congrArg (Value.int .i64) (ga_most g hn hgs he hx hq2) | exact congrArg (Value.int .i64) (page_succ (show 16 + k < 512 by omega)))))
  · have hx : k = 496 := by subst hκ; delta kid at h; exact pg_ge hk h
    subst hx
    obtain rfl := ga_all g hA
    clear h
    cbv
    repeat' (first | refine And.intro ?_ ?_ | (intro _; cbv) | (refine tst_mk (fun h => ?_) (fun h => ?_) <;> cbv) | (refine LookX.nil ?_; cbv) | (refine LookX.auto hκ ?_; cbv))
    all_goals (try (show Side _; refine ⟨?_⟩; subst hκ; delta kid at *; first | exact rfl | exact trivial | exact ⟨rfl, rfl, .inl rfl⟩ | exact ⟨rfl, rfl, .inl rfl, kl⟩ | exact ⟨rfl, rfl, .inl rfl, encL_ok _⟩ | exact ⟨(made_rt l).1, by omega⟩ | ((try dsimp only at *); have z1 := madeL_le l; (try simp only [maxLen]); have q0 : ¬ (20 : Int) < (l.length : Int) := of_decide_eq_false (by assumption); (try simp only [setTo_len, noS_len, List.length_append, List.length_cons, List.length_nil, List.length_map, and_self, true_or, or_true, eq_self, true_and, and_true, Nat.zero_add, Nat.add_zero]); (first | done | omega); done)))
    all_goals (clear hH; subst hκ; delta kid at *; (try dsimp only at *))
    all_goals (first | exact ⟨hml⟩ | exact IsX.bool_ (ga_fin g) | exact (ga_leq g h).elim)
end Go.Proofs.Ytbcicjmepojlnaa.Eng
