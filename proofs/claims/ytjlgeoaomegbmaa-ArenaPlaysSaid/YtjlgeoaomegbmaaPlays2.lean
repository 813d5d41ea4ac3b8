/- Whatever is born, dies, and is touched: the program's arenas and the reference's stay alike; condition: the numbers lie in their types. -/
import Derived.Test.YtjlgeoaomegbmaaSame2
namespace Go.Proofs.Ytjlgeoaomegbmaa.Eng
open Go Go.RowKit
set_option linter.unusedVariables false
set_option linter.unusedSimpArgs false

structure OpV where
  k : Int
  slot : Int
  h : Int
  fr : Int
def op0 : OpV := ⟨0, 0, 0, 0⟩
def encOp (o : OpV) : List C := [.v (.int .u8 o.k), .v (.int .i64 o.slot), .v (.int .i64 o.h), .v (.int .u8 o.fr)]
def encO (l : List OpV) : List C := l.flatMap encOp
def opA (l : List OpV) (i : Nat) : OpV := l.getD i op0
theorem op_take {l : List OpV} {i : Nat} (h : i < l.length) : takeN (encO l) (((i : Nat) : Int).toNat * 4) 4 = some [.v (.int .u8 (opA l i).k), .v (.int .i64 (opA l i).slot), .v (.int .i64 (opA l i).h), .v (.int .u8 (opA l i).fr)] := by
  have h2 : l[i]? = some (opA l i) := by unfold opA; rw [List.getD_eq_getElem?_getD, List.getElem?_eq_getElem h]; rfl
  rw [Int.toNat_natCast]
  exact enc_take (f := encOp) (fun _ => rfl) (by decide) l i _ h2
theorem opA_mem {l : List OpV} {i : Nat} (h : i < l.length) : opA l i ∈ l := by
  unfold opA
  rw [List.getD_eq_getElem?_getD, List.getElem?_eq_getElem h]
  exact List.getElem_mem h
def bAt (bs : List Int) (fr : Int) : Int := bs.getD ((bs.length : Int) - fr).toNat 0
theorem b_ix {bs : List Int} {fr : Int} (hb : bs.length ≤ 1000) (h1 : 0 < fr) (h3 : fr ≤ 255) (h2 : IntKind.i64.wrap fr ≤ (bs.length : Int)) :
    IntKind.i64.wrap ((bs.length : Int) - IntKind.i64.wrap fr) = (bs.length : Int) - fr ∧ 0 ≤ (bs.length : Int) - fr ∧ (bs.length : Int) - fr < (bs.length : Int) := by
  have e : w64 fr = fr := w64_id (by unfold In64; omega)
  unfold w64 at e
  rw [e] at h2 ⊢
  have e2 : w64 ((bs.length : Int) - fr) = (bs.length : Int) - fr := w64_id (by unfold In64; omega)
  unfold w64 at e2
  rw [e2]
  omega
theorem b_ixs {bs : List Int} {fr : Int} (hb : bs.length ≤ 1000) (h3 : 0 ≤ fr ∧ fr ≤ 255) (h1 : decide (0 < fr) = true) (h2 : decide (IntKind.i64.wrap fr ≤ (bs.length : Int)) = true) :
    0 < 1 ∧ 0 ≤ IntKind.i64.wrap ((bs.length : Int) - IntKind.i64.wrap fr) ∧ IntKind.i64.wrap ((bs.length : Int) - IntKind.i64.wrap fr) < (bs.length : Int) := by
  have := b_ix hb (of_decide_eq_true h1) h3.2 (of_decide_eq_true h2)
  rw [this.1]
  omega
theorem b_at {bs : List Int} {fr : Int} (hb : bs.length ≤ 1000) (h3 : 0 ≤ fr ∧ fr ≤ 255) (h1 : decide (0 < fr) = true) (h2 : decide (IntKind.i64.wrap fr ≤ (bs.length : Int)) = true) :
    (encI bs)[(IntKind.i64.wrap ((bs.length : Int) - IntKind.i64.wrap fr)).toNat * 1]? = some (.v (.int .i64 (bAt bs fr))) := by
  have := b_ix hb (of_decide_eq_true h1) h3.2 (of_decide_eq_true h2)
  rw [this.1]
  have hlt : ((bs.length : Int) - fr).toNat < bs.length := by omega
  have h4 : bs[((bs.length : Int) - fr).toNat]? = some (bAt bs fr) := by unfold bAt; rw [List.getD_eq_getElem?_getD, List.getElem?_eq_getElem hlt]; rfl
  exact enc_get (f := fun n : Int => [C.v (.int .i64 n)]) (z := 1) (fun _ => rfl) bs _ _ 0 h4 (by decide)
theorem app1 (bs : List Int) (x : Int) : bs.length + 1 = (bs ++ [x]).length := by rw [List.length_append]; rfl
theorem encI_app1 (bs : List Int) (x : Int) : encI bs ++ [.v (.int .i64 x)] = encI (bs ++ [x]) := by rw [encI_app]; rfl
theorem opIx {l : List OpV} {i : Nat} (h : i < l.length) : 0 < 4 ∧ 0 ≤ ((i : Nat) : Int) ∧ ((i : Nat) : Int) < (l.length : Int) := by omega
theorem slice_eq {A : Option Addr} {n m c : Nat} (h : n = m) : Value.slice A n c = Value.slice A m c := by rw [h]
theorem Fine.le {l : List St} {k m : Nat} (h : Fine l k) (hk : k ≤ m) : Fine l m := ⟨h.len, fun x hx => by have := h.g x hx; omega⟩
theorem deathL_len (l : List St) (h : Int) : (deathL l h).length = l.length := by
  unfold deathL
  split
  · exact putSt_len _ _ _
  · rfl
structure PS where
  i : Nat
  st : List St
  s : Bool
  d : Bool
  bs : List Int
  A3 : Option Addr
  c3 : Nat
structure PSok (m N : Nat) (q : PS) : Prop where
  i : q.i ≤ m
  f : Fine q.st q.i
  n : q.st.length = N
  b : q.bs.length ≤ q.i
def slN (n0 : Int) : Nat := newN (IntKind.i64.wrap (Int.tmod n0 41))
set_option maxRecDepth 100000 in
set_option maxHeartbeats 40000000 in
theorem k_plays (n0 : Int) (l : List OpV) (A0 : Option Addr) (c0 : Nat) (w : World) (hfr : ∀ o ∈ l, 0 ≤ o.fr ∧ o.fr ≤ 255) (hr : (Ent.rd A0 4 l.length (encO l)).holds w) :
    Calls Try.prog 16 #[.int .u8 n0, .slice A0 l.length c0] w fun e w' => e = .returned (.bool true) ∧ Below w.heap.size w w' := by
  obtain ⟨κ, hκ⟩ : ∃ κ : Kp, κ = kid := ⟨_, rfl⟩
  have hH : HSat w (fun _ => False) (heapOf [(nilId, .rd none 1 0 []), (200000, .rd A0 4 (κ _ l.length) (κ _ (encO l)))]) w := by
    subst hκ
    refine HSat.reads fun p hp => ?_
    simp only [List.mem_cons, List.not_mem_nil, or_false] at hp
    rcases hp with rfl | rfl
    · exact ⟨_, _, _, _, rfl, nil_holds w⟩
    · exact ⟨_, _, _, _, rfl, hr⟩
  refine (callsE (n := 112) FTok [e_awake2 hκ, e_newP hκ, e_newR hκ, e_bornP hκ, e_birthR hκ, e_diedP hκ, e_deathR hκ, e_touchP hκ, e_rightP hκ, e_rightR hκ, e_same2 hκ] mixed [(17, [[], [0], [0], [], [0, 1, 2, 3], [0, 1, 2, 3, 4], [0, 1, 2, 3, 4], [], [], []])] Try.func16 rfl (by kernel_rfl) #[.int .u8 n0, .slice A0 l.length c0] [(0, .c (.v (.int .u8 n0))), (1, .c (.sl 200000 A0 (κ _ l.length) c0))] _ w rfl [.tmp 4] rfl (by simp) (by subst hκ; simp [SV.den, C.den, kid]) hH
    (fun v H' => Is (κ _ (.bool true)) v) hκ ?_).mono ?_
  rotate_left
  · subst hκ
    rintro e w' ⟨v, H', rfl, ⟨hv⟩, hH'⟩
    exact ⟨by rw [hv]; rfl, hH'.isBelow⟩
  cbv
  repeat' (first | refine And.intro ?_ ?_ | (intro _; cbv) | (refine tst_mk (fun h => ?_) (fun h => ?_) <;> cbv))
  all_goals (try (exact ⟨by subst hκ; trivial⟩))
  all_goals (try (exact ⟨by subst hκ; show ¬ (41 : Int) = 0; decide⟩))
  all_goals (try (exact ⟨by subst hκ; rfl⟩))
  rename_i b A b2 B e B2 e2
  have hlen : l.length ≤ 200 := by
    subst hκ
    have h2 : ¬ (200 : Int) < (l.length : Int) := of_decide_eq_false h
    omega
  have hN : slN n0 ≤ 1000 := newN_le _
  refine loopG FTok [e_awake2 hκ, e_newP hκ, e_newR hκ, e_bornP hκ, e_birthR hκ, e_diedP hκ, e_deathR hκ, e_touchP hκ, e_rightP hκ, e_rightR hκ, e_same2 hκ] mixed [1] (σ := {q : PS // PSok l.length (slN n0) q})
    (fun q => [(5, .c (.loc 300000 b 0)), (6, .c (.loc 300010 b2 0)), (7, .c (.sl 300020 q.1.A3 (κ _ q.1.bs.length) q.1.c3)), (8, .c (.v (.int .i64 (κ _ ((q.1.i : Nat) : Int)))))])
    (fun q => [(300000, .blk b 80 [.v (.int .i64 (κ _ (newF 7))), .sl 300001 A (κ _ (slN n0)) (κ _ (slN n0)), .v (.bool (κ _ q.1.s)), .v (.bool (κ _ q.1.d))]), (300001, .row A (κ _ (slN n0)) 84 2 (κ _ (slN n0)) (κ _ (encS q.1.st))),
      (300010, .blk b2 58 [.v (.int .i64 (κ _ (newFR 7))), .sl 300011 B (κ _ (slN n0)) e, .sl 300012 B2 (κ _ (slN n0)) e2, .v (.bool (κ _ q.1.s)), .v (.bool (κ _ q.1.d))]), (300011, .row B e 2 1 (κ _ (slN n0)) (κ _ (encG q.1.st))), (300012, .row B2 e2 4 1 (κ _ (slN n0)) (κ _ (encV q.1.st))),
      (300020, .row q.1.A3 q.1.c3 2 1 (κ _ q.1.bs.length) (κ _ (encI q.1.bs))), (200000, .rd A0 4 (κ _ l.length) (κ _ (encO l)))])
    (fun q => l.length - q.1.i) ⟨κ _ ⟨0, rep (slN n0), false, false, [], none, 0⟩, by subst hκ; exact ⟨Nat.zero_le _, fine_new _ hN, rep_len _, Nat.zero_le _⟩⟩ [24, 100024, 28, 100028, 200028, 999999, 200000] ?_ (by decide) ?_ hκ ?_
  · cbv
    subst hκ
    delta kid
    exact ⟨rfl, rfl, trivial⟩
  · cbv
    subst hκ
    delta kid
    repeat' (first | exact rfl | exact trivial | refine And.intro ?_ ?_)
  rintro ⟨⟨i, st, s, d, bs, A3, c3⟩, hq⟩
  cbv
  refine tst_mk (fun h => ?_) (fun h => ?_)
  · have hi : i < l.length := by subst hκ; delta kid at h; have h2 : (i : Int) < (l.length : Int) := of_decide_eq_true h; omega
    have hf1 := hfr _ (opA_mem hi)
    obtain ⟨q1, q2, q3, q4⟩ := hq
    dsimp only at q1 q2 q3 q4
    have hb1 : bs.length ≤ 1000 := by omega
    have hF : Fine st 999 := q2.le (by omega)
    have hFb : ∀ y, Fine (bornL st y) 999 := fun y => (q2.born (by omega) y).le (by omega)
    have hFd : ∀ y, Fine (diedL st y) 999 := fun y => (q2.died y).le (by omega)
    have hd : ∀ y, deathL st y = diedL st y := fun y => (death_eq hF (by decide) y true).1
    have hdD : ∀ z y, deathD st z y = diedD st z y := fun z y => (death_eq hF (by decide) y z).2
    have hb : ∀ y, bornV st y = birthV st y := fun y => birth_eq hF (by decide) y
    have hr : ∀ y, rightP st y = rightR st y := fun y => right_eq hF (by decide) y
    have hrb : ∀ y z, rightP (bornL st y) z = rightR (bornL st y) z := fun y z => right_eq (hFb y) (by decide) z
    have hrd : ∀ y z, rightP (diedL st y) z = rightR (diedL st y) z := fun y z => right_eq (hFd y) (by decide) z
    have hts1 : ∀ y, rightR st y = true → touchS st s y = s := fun y h => by unfold touchS; rw [hr, if_pos h]
    have hts2 : ∀ y, rightR st y = false → touchS st s y = true := fun y h => by unfold touchS; rw [hr, if_neg (by rw [h]; simp)]
    have he : w64 ((i : Int) + 1) = ((i + 1 : Nat) : Int) := by rw [w64_id (by unfold In64; omega)]; rfl
    cbv
    repeat' (first | refine And.intro ?_ ?_ | (intro _; cbv) | (refine tst_mk (fun h => ?_) (fun h => ?_) <;> cbv) | (refine LookX.auto hκ ?_; cbv) | (refine LookX.autoGV hκ ?_; cbv) | (refine LookN.mk' (x := [.v (.int .u8 (κ _ (opA l i).k)), .v (.int .i64 (κ _ (opA l i).slot)), .v (.int .i64 (κ _ (opA l i).h)), .v (.int .u8 (κ _ (opA l i).fr))]) (by subst hκ; delta kid at *; exact op_take hi) ?_; cbv) | (refine LookR.mk' (x := .v (.int .i64 (κ _ (bAt bs (opA l i).fr)))) (by subst hκ; delta kid at *; exact b_at hb1 hf1 (by assumption) (by assumption)) ?_; cbv))
    all_goals (clear hH)
    all_goals (subst hκ; delta kid at *; dsimp only at *)
    all_goals (try (exact ⟨trivial⟩))
    all_goals (try (exact ⟨by decide⟩))
    all_goals (try (exact ⟨rfl⟩))
    all_goals (try (exact ⟨⟨rfl, rfl, rfl, rfl⟩⟩))
    all_goals (try (exact ⟨⟨rfl, rfl, rfl, rfl, rfl⟩⟩))
    all_goals (try (exact ⟨⟨rfl, rfl, rfl, rfl, rfl, rfl, rfl⟩⟩))
    all_goals (try (exact ⟨⟨rfl, rfl, rfl, rfl, rfl, rfl, rfl, rfl, rfl, rfl, rfl⟩⟩))
    all_goals (try (exact ⟨⟨rfl, rfl, .inl rfl, rfl⟩⟩))
    all_goals (try (refine ⟨?_⟩; simp only [bornL_len, diedL_len, deathL_len, q3, hN, and_self]; done))
    all_goals (try (exact ⟨hF⟩))
    all_goals (try (refine ⟨?_⟩; simp only [maxLen]; omega))
    all_goals (try (exact ⟨opIx hi⟩))
    all_goals (try (exact ⟨b_ixs hb1 hf1 (by assumption) (by assumption)⟩))
    all_goals (try (show List.Nodup _; decide))
    all_goals (try (rw [hd]))
    all_goals (try (rw [hdD]))
    all_goals (try (rw [hts1 _ (by assumption)]))
    all_goals (try (rw [hts2 _ (by assumption)]))
    all_goals (try (simp only [hd, hr, hrb, hrd, hb] at h; simp at h; done))
    all_goals (try (exact ⟨⟨q3, q3, q3, rfl, rfl, rfl, rfl, hF⟩⟩))
    all_goals (try (exact ⟨⟨(bornL_len _ _).trans q3, (bornL_len _ _).trans q3, (bornL_len _ _).trans q3, rfl, rfl, rfl, rfl, hFb _⟩⟩))
    all_goals (try (exact ⟨⟨(diedL_len _ _).trans q3, (diedL_len _ _).trans q3, (diedL_len _ _).trans q3, rfl, rfl, rfl, rfl, hFd _⟩⟩))
    all_goals (first
      | exact ⟨⟨⟨⟨i + 1, bornL st (opA l i).slot, s, bornD st d (opA l i).slot, bs ++ [bornV st (opA l i).slot], _, _⟩, ⟨hi, q2.born (by omega) _, (bornL_len _ _).trans q3, by rw [List.length_append]; show bs.length + 1 ≤ i + 1; omega⟩⟩, [300000, 300001, 300010, 300011, 300012, 90, 200000], (by show l.length - (i + 1) < l.length - i; omega), by decide, ⟨rfl, rfl, rfl, rfl, rfl, rfl, rfl, slice_eq (app1 bs _), rfl, congrArg (Value.int .i64) he, trivial⟩, ⟨rfl, rfl, rfl⟩, ⟨rfl, rfl, rfl, rfl, rfl, rfl⟩, ⟨rfl, rfl, rfl⟩, ⟨rfl, rfl, rfl, rfl, rfl, rfl⟩, ⟨rfl, rfl, rfl, rfl, rfl, rfl⟩, ⟨rfl, rfl, rfl, rfl, app1 bs _, encI_app1 bs _⟩, ⟨rfl, rfl, rfl, rfl⟩, trivial⟩⟩
      | exact ⟨⟨⟨⟨i + 1, diedL st _, s, _, bs, A3, c3⟩, ⟨hi, q2.died _, (diedL_len _ _).trans q3, by show bs.length ≤ i + 1; omega⟩⟩, [300000, 300001, 300010, 300011, 300012, 300020, 200000], (by show l.length - (i + 1) < l.length - i; omega), by decide, ⟨rfl, rfl, rfl, rfl, rfl, rfl, rfl, rfl, rfl, congrArg (Value.int .i64) he, trivial⟩, ⟨rfl, rfl, rfl⟩, ⟨rfl, rfl, rfl, rfl, rfl, rfl⟩, ⟨rfl, rfl, rfl⟩, ⟨rfl, rfl, rfl, rfl, rfl, rfl⟩, ⟨rfl, rfl, rfl, rfl, rfl, rfl⟩, ⟨rfl, rfl, rfl, rfl, rfl, rfl⟩, ⟨rfl, rfl, rfl, rfl⟩, trivial⟩⟩
      | exact ⟨⟨⟨⟨i + 1, st, _, d, bs, A3, c3⟩, ⟨hi, q2.up, q3, by show bs.length ≤ i + 1; omega⟩⟩, [300000, 300001, 300010, 300011, 300012, 300020, 200000], (by show l.length - (i + 1) < l.length - i; omega), by decide, ⟨rfl, rfl, rfl, rfl, rfl, rfl, rfl, rfl, rfl, congrArg (Value.int .i64) he, trivial⟩, ⟨rfl, rfl, rfl⟩, ⟨rfl, rfl, rfl, rfl, rfl, rfl⟩, ⟨rfl, rfl, rfl⟩, ⟨rfl, rfl, rfl, rfl, rfl, rfl⟩, ⟨rfl, rfl, rfl, rfl, rfl, rfl⟩, ⟨rfl, rfl, rfl, rfl, rfl, rfl⟩, ⟨rfl, rfl, rfl, rfl⟩, trivial⟩⟩)
  · cbv
    subst hκ
    exact ⟨rfl⟩
end Go.Proofs.Ytjlgeoaomegbmaa.Eng
