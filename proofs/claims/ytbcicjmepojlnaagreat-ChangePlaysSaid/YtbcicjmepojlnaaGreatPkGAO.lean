/- Texts of this work, laid together: symbolic execution over the model, contracts of the program's functions, what they come to; conditions: as each says. -/
import Derived.Test.YtbcicjmepojlnaaGreatPkGAN
/- The contract of slices.Concat, of two lists and of three (printed by conce.py of this work); condition: 300000 areas in each. -/
namespace Go.Proofs.YtbcicjmepojlnaaGreat.Eng
open Go Go.RowKit
set_option linter.unusedSimpArgs false
set_option linter.unusedVariables false
def concatT (κ : Kp) : TSpec := fun args H d K => match args with
  | [.c (.sl id A n c)] => match H id with
    | some (.row A' c' t z n' [.sl i1 B1 m1 e1, .sl i2 B2 m2 e2]) => match rowOf (H i1), rowOf (H i2) with
      | some (B1', z1, m1', xs1), some (B2', z2, m2', xs2) => (z = 1 ∧ n = 2 ∧ n' = 2) ∧ Side (κ _ (A = A' ∧ B1 = B1' ∧ m1 = m1' ∧ (z1 = 6 ∨ m1 = 0) ∧ B2 = B2' ∧ m2 = m2' ∧ (z2 = 6 ∨ m2 = 0))) ∧ LookX encL xs1 fun l1 => LookX encL xs2 fun l2 => Side (κ _ (l1.length = m1 ∧ l1.length ≤ 300000 ∧ l2.length = m2 ∧ l2.length ≤ 300000)) ∧ ∀ (A2 : Option Addr) (c2 : Nat), K (.c (.sl d A2 (κ _ (l1 ++ l2).length) c2)) [(d, some (.row A2 c2 49 6 (κ _ (l1 ++ l2).length) (κ _ (encL (l1 ++ l2)))))]
      | _, _ => False
    | some (.row A' c' t z n' [.sl i1 B1 m1 e1, .sl i2 B2 m2 e2, .sl i3 B3 m3 e3]) => match rowOf (H i1), rowOf (H i2), rowOf (H i3) with
      | some (B1', z1, m1', xs1), some (B2', z2, m2', xs2), some (B3', z3, m3', xs3) => (z = 1 ∧ n = 3 ∧ n' = 3) ∧ Side (κ _ (A = A' ∧ B1 = B1' ∧ m1 = m1' ∧ (z1 = 6 ∨ m1 = 0) ∧ B2 = B2' ∧ m2 = m2' ∧ (z2 = 6 ∨ m2 = 0) ∧ B3 = B3' ∧ m3 = m3' ∧ (z3 = 6 ∨ m3 = 0))) ∧ LookX encL xs1 fun l1 => LookX encL xs2 fun l2 => LookX encL xs3 fun l3 => Side (κ _ (l1.length = m1 ∧ l1.length ≤ 300000 ∧ l2.length = m2 ∧ l2.length ≤ 300000 ∧ l3.length = m3 ∧ l3.length ≤ 300000)) ∧ ∀ (A2 : Option Addr) (c2 : Nat), K (.c (.sl d A2 (κ _ (l1 ++ l2 ++ l3).length) c2)) [(d, some (.row A2 c2 49 6 (κ _ (l1 ++ l2 ++ l3).length) (κ _ (encL (l1 ++ l2 ++ l3)))))]
      | _, _, _ => False
    | _ => False
  | _ => False
theorem concatT_conj (args : List SV) (H : Heap) (d : Nat) : ConjP (concatT kid args H d) (okKey false H d) := by
  unfold concatT
  split
  · split
    · split
      · exact .and_ fun _ => .side fun _ => .look encL_inj fun l1 _ => .look encL_inj fun l2 _ => .side fun _ => .all2 (fun A2 c2 => .c (.sl d A2 _ c2)) (fun A2 c2 => [(d, some (.row A2 c2 49 6 _ _))]) fun _ _ => okd _ _ _
      · exact .false_
    · split
      · exact .and_ fun _ => .side fun _ => .look encL_inj fun l1 _ => .look encL_inj fun l2 _ => .look encL_inj fun l3 _ => .side fun _ => .all2 (fun A2 c2 => .c (.sl d A2 _ c2)) (fun A2 c2 => [(d, some (.row A2 c2 49 6 _ _))]) fun _ _ => okd _ _ _
      · exact .false_
    · exact .false_
  · exact .false_
def e_concat {κ : Kp} (hκ : κ = kid) : ESpec Tryz.prog := ES b_concat false concatT hκ concatT_conj fun args H0 H d w0 M w hs hsub hH => by
  have hs' := hs
  unfold concatT at hs'
  split at hs'
  case h_2 => exact hs'.elim
  rename_i id A n c
  split at hs'
  case h_3 => exact hs'.elim
  · rename_i A' c' t z n' i1 B1 m1 e1 i2 B2 m2 e2 hid
    split at hs'
    case h_2 => exact hs'.elim
    rename_i B1' z1 m1' xs1 B2' z2 m2' xs2 hrow1 hrow2
    obtain ⟨⟨rfl, rfl, rfl⟩, ⟨h1⟩, ⟨l1, hx1, ⟨l2, hx2, ⟨h2⟩, _⟩⟩⟩ := hs'
    obtain ⟨rfl, rfl, rfl, hz1, rfl, rfl, hz2⟩ := h1
    obtain ⟨hn1, hb1, hn2, hb2⟩ : l1.length = m1 ∧ l1.length ≤ 300000 ∧ l2.length = m2 ∧ l2.length ≤ 300000 := h2
    have hrd1 : (Ent.rd B1 6 l1.length (encL l1)).holds w := rd_holds (hH.drop hsub) hrow1 hz1 hn1 hx1
    have hrd2 : (Ent.rd B2 6 l2.length (encL l2)).holds w := rd_holds (hH.drop hsub) hrow2 hz2 hn2 hx2
    have hrd : (Ent.rd A 1 2 [.sl 200001 B1 m1 e1, .sl 200002 B2 m2 e2]).holds w := by
      have h0 := gives_row_rd.holds w (hH.holds _ _ (hsub _ _ hid))
      refine ⟨h0.1, fun hx => ?_⟩
      obtain ⟨a, e1, e2, e3⟩ := h0.2 (by simp)
      exact ⟨a, e1, e2, e3⟩
    subst hn1 hn2
    refine (k_concat2 l1 l2 hb1 hb2 A c B1 e1 B2 e2 w hrd hrd1 hrd2).mono ?_
    rintro e w' ⟨v, H', rfl, hr, hH'⟩
    obtain ⟨i, A2, c2, H2, hv, hi, hH2⟩ := hr.row hH'
    refine ⟨.c (.sl d A2 (l1 ++ l2).length c2), [(d, some (.row A2 c2 49 6 (l1 ++ l2).length (encL (l1 ++ l2))))], _, rfl, fun K hK => ?_, fun _ => hv, leaveR hH hi rfl hH2 d⟩
    unfold concatT at hK
    simp only [hid, hrow1, hrow2] at hK
    obtain ⟨_, _, ⟨k1, hk1, ⟨k2, hk2, _, h⟩⟩⟩ := hK
    have := encL_inj _ _ (hx1.symm.trans hk1)
    subst this
    have := encL_inj _ _ (hx2.symm.trans hk2)
    subst this
    exact h A2 c2
  · rename_i A' c' t z n' i1 B1 m1 e1 i2 B2 m2 e2 i3 B3 m3 e3 hid
    split at hs'
    case h_2 => exact hs'.elim
    rename_i B1' z1 m1' xs1 B2' z2 m2' xs2 B3' z3 m3' xs3 hrow1 hrow2 hrow3
    obtain ⟨⟨rfl, rfl, rfl⟩, ⟨h1⟩, ⟨l1, hx1, ⟨l2, hx2, ⟨l3, hx3, ⟨h2⟩, _⟩⟩⟩⟩ := hs'
    obtain ⟨rfl, rfl, rfl, hz1, rfl, rfl, hz2, rfl, rfl, hz3⟩ := h1
    obtain ⟨hn1, hb1, hn2, hb2, hn3, hb3⟩ : l1.length = m1 ∧ l1.length ≤ 300000 ∧ l2.length = m2 ∧ l2.length ≤ 300000 ∧ l3.length = m3 ∧ l3.length ≤ 300000 := h2
    have hrd1 : (Ent.rd B1 6 l1.length (encL l1)).holds w := rd_holds (hH.drop hsub) hrow1 hz1 hn1 hx1
    have hrd2 : (Ent.rd B2 6 l2.length (encL l2)).holds w := rd_holds (hH.drop hsub) hrow2 hz2 hn2 hx2
    have hrd3 : (Ent.rd B3 6 l3.length (encL l3)).holds w := rd_holds (hH.drop hsub) hrow3 hz3 hn3 hx3
    have hrd : (Ent.rd A 1 3 [.sl 200001 B1 m1 e1, .sl 200002 B2 m2 e2, .sl 200003 B3 m3 e3]).holds w := by
      have h0 := gives_row_rd.holds w (hH.holds _ _ (hsub _ _ hid))
      refine ⟨h0.1, fun hx => ?_⟩
      obtain ⟨a, e1, e2, e3⟩ := h0.2 (by simp)
      exact ⟨a, e1, e2, e3⟩
    subst hn1 hn2 hn3
    refine (k_concat3 l1 l2 l3 hb1 hb2 hb3 A c B1 e1 B2 e2 B3 e3 w hrd hrd1 hrd2 hrd3).mono ?_
    rintro e w' ⟨v, H', rfl, hr, hH'⟩
    obtain ⟨i, A2, c2, H2, hv, hi, hH2⟩ := hr.row hH'
    refine ⟨.c (.sl d A2 (l1 ++ l2 ++ l3).length c2), [(d, some (.row A2 c2 49 6 (l1 ++ l2 ++ l3).length (encL (l1 ++ l2 ++ l3))))], _, rfl, fun K hK => ?_, fun _ => hv, leaveR hH hi rfl hH2 d⟩
    unfold concatT at hK
    simp only [hid, hrow1, hrow2, hrow3] at hK
    obtain ⟨_, _, ⟨k1, hk1, ⟨k2, hk2, ⟨k3, hk3, _, h⟩⟩⟩⟩ := hK
    have := encL_inj _ _ (hx1.symm.trans hk1)
    subst this
    have := encL_inj _ _ (hx2.symm.trans hk2)
    subst this
    have := encL_inj _ _ (hx3.symm.trans hk3)
    subst this
    exact h A2 c2
end Go.Proofs.YtbcicjmepojlnaaGreat.Eng
/- Contracts of functions (printed by gen.py of this work): what each hands back; condition: as its 'hside' says. -/
namespace Go.Proofs.YtbcicjmepojlnaaGreat.Eng
open Go Go.RowKit
set_option linter.unusedVariables false
set_option linter.unusedSimpArgs false
theorem b_lfloor : Bodied Tryz.prog 101 := bodied Tryz.func101 rfl (by decide)
def r_lfloor (n : Int) : SV := .c (.v (.int .i64 (floorA n)))
def F_lfloor (κ : Kp) : List SV → Heap → Option (Prop × SV) := fun args _ => match args with
  | [.c (.v (.int .i64 n))] => some (κ _ (True), .c (.v (.int .i64 (κ _ (floorA n)))))
  | _ => none
set_option maxRecDepth 100000 in
set_option maxHeartbeats 4000000 in
theorem k_lfloor (n : Int) (w : World) (hside : True) : Calls Tryz.prog 101 #[(SV.c (.v (.int .i64 n))).den] w fun e w' => e = .returned (r_lfloor n).den ∧ Below w.heap.size w w' := by
  obtain ⟨κ, hκ⟩ : ∃ κ : Kp, κ = kid := ⟨_, rfl⟩
  refine pureE FTok [] mixed [] Tryz.func101 rfl (by kernel_rfl) _ [(0, .c (.v (.int .i64 n)))] _ w 9 rfl [.tmp 2] rfl (by simp) (by simp [SV.den, C.den]) hκ ?_
  cbv
  repeat' (first | refine And.intro ?_ ?_ | (intro _; cbv) | (refine tst_mk (fun h => ?_) (fun h => ?_) <;> cbv))
  all_goals subst hκ
  all_goals (try delta kid at *)
  all_goals (try simp only [kid] at *)
  all_goals (refine ⟨?_⟩)
  all_goals (try (simp_all [r_lfloor, SV.den, C.den, SV.den0, floorA, w64]; done))
  all_goals (try simp_all [r_lfloor, SV.den, C.den, SV.den0, floorA, w64])
  all_goals (try omega)
def e_lfloor {κ : Kp} (hκ : κ = kid) : ESpec Tryz.prog := pureES b_lfloor F_lfloor hκ fun args H s v w0 M w H' hF hs _ _ => by
  unfold F_lfloor at hF
  split at hF
  · rename_i n
    injection hF with hF
    injection hF with h1 h2
    subst h1 h2
    exact k_lfloor n w hs
  · cases hF
end Go.Proofs.YtbcicjmepojlnaaGreat.Eng
/- list.around: what lies ahead of a range, and behind it (printed by around.py of this work); condition: at most a million areas. -/
namespace Go.Proofs.YtbcicjmepojlnaaGreat.Eng
open Go Go.RowKit
set_option linter.unusedSimpArgs false
set_option linter.unusedVariables false
theorem ahead_next {l : List Ar} {i : Nat} (h : i < l.length) (f : Int) : aheadL (l.take (i + 1)) f = aheadL (l.take i) f ++ aheadA f (nthA l i) := by rw [take_next h, ahead_app, ahead_one]
theorem behind_next {l : List Ar} {i : Nat} (h : i < l.length) (f : Int) : behindL (l.take (i + 1)) f = behindL (l.take i) f ++ behindA f (nthA l i) := by rw [take_next h, behind_app, behind_one]
theorem aheadA_yes {f : Int} {a : Ar} (h : hasPart a 65536 (maxI f 65536) = true) (h2 : decide (a.s < f) = true) : aheadA f a = [partA a 65536 (maxI f 65536)] := by
  unfold aheadA
  rw [h, show decide (f > a.s) = true from h2]
  rfl
theorem aheadA_no {f : Int} {a : Ar} (h2 : decide (a.s < f) = false) : aheadA f a = [] := by
  unfold aheadA
  rw [show decide (f > a.s) = false from h2, Bool.and_false]
  rfl
theorem aheadA_none {f : Int} {a : Ar} (h : hasPart a 65536 (maxI f 65536) = false) : aheadA f a = [] := by
  unfold aheadA
  rw [h]
  rfl
theorem behindA_yes {f : Int} {a : Ar} (h : hasPart a (maxI f 65536) 2097152 = true) (h2 : decide (f < a.e) = true) : behindA f a = [partA a (maxI f 65536) 2097152] := by
  unfold behindA
  rw [h, h2]
  rfl
theorem behindA_no {f : Int} {a : Ar} (h2 : decide (f < a.e) = false) : behindA f a = [] := by
  unfold behindA
  rw [h2, Bool.and_false]
  rfl
theorem behindA_none {f : Int} {a : Ar} (h : hasPart a (maxI f 65536) 2097152 = false) : behindA f a = [] := by
  unfold behindA
  rw [h]
  rfl
theorem takeA_le (l : List Ar) (i : Nat) (f : Int) : (aheadL (l.take i) f).length ≤ l.length := by
  have h1 := ahead_le (l.take i) f
  have h2 : (l.take i).length ≤ l.length := by rw [List.length_take]; omega
  omega
theorem takeB_le (l : List Ar) (i : Nat) (f : Int) : (behindL (l.take i) f).length ≤ l.length := by
  have h1 := behind_le (l.take i) f
  have h2 : (l.take i).length ≤ l.length := by rw [List.length_take]; omega
  omega
structure IsTwo (x y : List Ar) (v : SV) (H' : Heap) : Prop where
  h : ∃ i A1 c1 j A2 c2, v = .tup [.c (.sl i A1 x.length c1), .c (.sl j A2 y.length c2)] ∧ H' i = some (.row A1 c1 49 6 x.length (encL x)) ∧ H' j = some (.row A2 c2 49 6 y.length (encL y)) ∧ i ≠ j
structure IsAround (l : List Ar) (lo hi : Int) (A : Option Addr) (c : Nat) (v : SV) (H' : Heap) : Prop where
  h : (decide (lo ≥ hi) = true ∧ v = .tup [.c (.sl 200000 A l.length c), .c (.sl nilId none 0 0)]) ∨ (decide (lo ≥ hi) = false ∧ IsTwo (aheadL l (floorA lo)) (behindL l (toI hi)) v H')
theorem b_around : Bodied Tryz.prog 77 := bodied Tryz.func77 rfl (by decide)
set_option maxRecDepth 100000 in
set_option maxHeartbeats 8000000 in
theorem k_around (l : List Ar) (lo hi : Int) (hside : l.length ≤ 1000000) (A : Option Addr) (c : Nat) (w : World) (hr : (Ent.rd A 6 l.length (encL l)).holds w) :
    Calls Tryz.prog 77 #[.slice A l.length c, .int .i64 lo, .int .i64 hi] w fun e w' => ∃ v H', e = .returned v.den ∧ IsAround l lo hi A c v H' ∧ HSat w (fun _ => False) H' w' := by
  obtain ⟨κ, hκ⟩ : ∃ κ : Kp, κ = kid := ⟨_, rfl⟩
  have hH := holdsEL hr hκ
  refine (callsE (n := 74) FTok [e_lfloor hκ, e_part hκ] mixed [] Tryz.func77 rfl (by kernel_rfl) #[.slice A l.length c, .int .i64 lo, .int .i64 hi] [(0, .c (.sl 200000 A (κ _ l.length) c)), (1, .c (.v (.int .i64 lo))), (2, .c (.v (.int .i64 hi)))] _ w rfl [.tmp 6, .tmp 7] rfl (by simp) (by subst hκ; simp [SV.den, C.den, kid]) hH
    (fun v H' => IsAround (κ _ l) lo hi A c v H') hκ ?_).mono ?_
  rotate_left
  · subst hκ; intro e w' h; exact h
  cbv
  refine tst_mk (fun hge => ?_) (fun hge => ?_)
  · cbv
    subst hκ
    delta kid at *
    exact ⟨.inl ⟨hge, rfl⟩⟩
  cbv
  refine ⟨⟨by subst hκ; exact trivial⟩, ?_⟩
  cbv
  refine tst_mk (fun hm => ?_) (fun hm => ?_)
  · cbv
    refine ⟨⟨by subst hκ; exact trivial⟩, ?_⟩
    cbv
    refine loopG FTok [e_lfloor hκ, e_part hκ] mixed [0, 1, 2, 8, 9, 29, 30] (σ := Nat × Option Addr × Nat × Option Addr × Nat) (fun q => [(6, .c (.sl 300000 q.2.1 (κ _ (aheadL (l.take q.1) (floorA lo)).length) q.2.2.1)), (7, .c (.sl 300001 q.2.2.2.1 (κ _ (behindL (l.take q.1) (w64 (0 - floorA (w64 (0 - hi))))).length) q.2.2.2.2)), (31, .c (.v (.int .i64 (κ _ ((q.1 : Nat) : Int)))))])
      (fun q => [(200000, .rd A 6 (κ _ l.length) (κ _ (encL l))), (300000, .row q.2.1 q.2.2.1 49 6 (κ _ (aheadL (l.take q.1) (floorA lo)).length) (κ _ (encL (aheadL (l.take q.1) (floorA lo))))), (300001, .row q.2.2.2.1 q.2.2.2.2 49 6 (κ _ (behindL (l.take q.1) (w64 (0 - floorA (w64 (0 - hi))))).length) (κ _ (encL (behindL (l.take q.1) (w64 (0 - floorA (w64 (0 - hi))))))))])
      (fun q => l.length - q.1) (0, none, 0, none, 0) [200000, 999999, 999998] ?_ (by decide) ?_ hκ ?_
    · cbv
      subst hκ
      delta kid
      all_goals repeat' (first | exact rfl | exact trivial | refine And.intro ?_ ?_)
    · cbv
      subst hκ
      delta kid
      all_goals repeat' (first | exact rfl | exact trivial | refine And.intro ?_ ?_)
    rintro ⟨i, A2, c2, B2, e2⟩
    cbv
    refine tst_mk (fun h => ?_) (fun h => ?_)
    · have hx : i < l.length := by subst hκ; delta kid at h; have h2 : (i : Int) < (l.length : Int) := of_decide_eq_true h; omega
      have hl2 := takeA_le l i (floorA lo)
      have hl3 := takeB_le l i (w64 (0 - floorA (w64 (0 - hi))))
      have hva := ahead_next hx (floorA lo)
      have hvb := behind_next hx (w64 (0 - floorA (w64 (0 - hi))))
      cbv
      repeat' (first | refine And.intro ?_ ?_ | (intro _; cbv) | (refine tst_mk (fun h => ?_) (fun h => ?_) <;> cbv) | (refine LookN.mk' (x := [.v (.int .i64 (κ _ (nthA l i).s)), .v (.int .i64 (κ _ (nthA l i).e)), .v (.int .i64 (κ _ (nthA l i).p)), .v (.bool (κ _ (nthA l i).sh)), .v (.int .i64 (κ _ (nthA l i).b)), .v (.int .i64 (κ _ (nthA l i).o))]) (by subst hκ; delta kid at *; exact la_take hx) ?_; cbv))
      all_goals (clear hH; subst hκ; delta kid at *; try dsimp only at *)
      all_goals (try (exact ⟨la_ix hx⟩))
      all_goals (try (exact ⟨rfl⟩))
      all_goals (try (exact ⟨trivial⟩))
      all_goals (try (exact ⟨⟨rfl, rfl, rfl, rfl, rfl⟩⟩))
      all_goals (try (exact ⟨⟨rfl, rfl, .inl rfl, rfl⟩⟩))
      all_goals (try (exact ⟨by simp only [maxLen]; omega⟩))
      · rename_i A3 c3 _ _ B3 e3 h0 h1 h2 h3
        simp only [nthA_eta] at *
        have qa : aheadA (floorA lo) (nthA l i) = [partA (nthA l i) 65536 (maxI (floorA lo) 65536)] := aheadA_yes h1 h2
        have qb : behindA (w64 (0 - floorA (w64 (0 - hi)))) (nthA l i) = [partA (nthA l i) (maxI (w64 (0 - floorA (w64 (0 - hi)))) 65536) 2097152] := behindA_yes h3 h
        rw [qa] at hva
        rw [qb] at hvb
        have a1 : (aheadL (l.take i) (floorA lo)).length + 1 = (aheadL (l.take (i + 1)) (floorA lo)).length := by rw [hva, List.length_append]; rfl
        have a2 : encL (aheadL (l.take i) (floorA lo)) ++ encA (partA (nthA l i) 65536 (maxI (floorA lo) 65536)) = encL (aheadL (l.take (i + 1)) (floorA lo)) := by rw [hva, encL_app, encL_one]
        have b1 : (behindL (l.take i) (w64 (0 - floorA (w64 (0 - hi))))).length + 1 = (behindL (l.take (i + 1)) (w64 (0 - floorA (w64 (0 - hi))))).length := by rw [hvb, List.length_append]; rfl
        have b2 : encL (behindL (l.take i) (w64 (0 - floorA (w64 (0 - hi))))) ++ encA (partA (nthA l i) (maxI (w64 (0 - floorA (w64 (0 - hi)))) 65536) 2097152) = encL (behindL (l.take (i + 1)) (w64 (0 - floorA (w64 (0 - hi))))) := by rw [hvb, encL_app, encL_one]
        refine ⟨⟨(i + 1, A3, c3, B3, e3), [200000, 52, 70], (by show l.length - (i + 1) < l.length - i; omega), by decide, ?_, ?_⟩⟩
        all_goals repeat' (first | exact rfl | exact trivial | refine And.intro ?_ ?_ | exact a1 | exact a2 | exact b1 | exact b2 | exact congrArg (fun n => Value.slice A3 n c3) a1 | exact congrArg (fun n => Value.slice B3 n e3) b1 | exact congrArg (Value.int .i64) (nat_succ (by omega)))
      · rename_i A3 c3 _ h0 h1 h2 h3
        simp only [nthA_eta] at *
        have qa : aheadA (floorA lo) (nthA l i) = [partA (nthA l i) 65536 (maxI (floorA lo) 65536)] := aheadA_yes h1 h2
        have qb : behindA (w64 (0 - floorA (w64 (0 - hi)))) (nthA l i) = [] := behindA_no h
        rw [qa] at hva
        rw [qb, List.append_nil] at hvb
        have a1 : (aheadL (l.take i) (floorA lo)).length + 1 = (aheadL (l.take (i + 1)) (floorA lo)).length := by rw [hva, List.length_append]; rfl
        have a2 : encL (aheadL (l.take i) (floorA lo)) ++ encA (partA (nthA l i) 65536 (maxI (floorA lo) 65536)) = encL (aheadL (l.take (i + 1)) (floorA lo)) := by rw [hva, encL_app, encL_one]
        have b1 : (behindL (l.take i) (w64 (0 - floorA (w64 (0 - hi))))).length = (behindL (l.take (i + 1)) (w64 (0 - floorA (w64 (0 - hi))))).length := by rw [hvb]
        have b2 : encL (behindL (l.take i) (w64 (0 - floorA (w64 (0 - hi))))) = encL (behindL (l.take (i + 1)) (w64 (0 - floorA (w64 (0 - hi))))) := by rw [hvb]
        refine ⟨⟨(i + 1, A3, c3, B2, e2), [200000, 52, 300001], (by show l.length - (i + 1) < l.length - i; omega), by decide, ?_, ?_⟩⟩
        all_goals repeat' (first | exact rfl | exact trivial | refine And.intro ?_ ?_ | exact a1 | exact a2 | exact b1 | exact b2 | exact congrArg (fun n => Value.slice A3 n c3) a1 | exact congrArg (fun n => Value.slice B2 n e2) b1 | exact congrArg (Value.int .i64) (nat_succ (by omega)))
      · rename_i A3 c3 _ h0 h1 h2
        simp only [nthA_eta] at *
        have qa : aheadA (floorA lo) (nthA l i) = [partA (nthA l i) 65536 (maxI (floorA lo) 65536)] := aheadA_yes h1 h2
        have qb : behindA (w64 (0 - floorA (w64 (0 - hi)))) (nthA l i) = [] := behindA_none h
        rw [qa] at hva
        rw [qb, List.append_nil] at hvb
        have a1 : (aheadL (l.take i) (floorA lo)).length + 1 = (aheadL (l.take (i + 1)) (floorA lo)).length := by rw [hva, List.length_append]; rfl
        have a2 : encL (aheadL (l.take i) (floorA lo)) ++ encA (partA (nthA l i) 65536 (maxI (floorA lo) 65536)) = encL (aheadL (l.take (i + 1)) (floorA lo)) := by rw [hva, encL_app, encL_one]
        have b1 : (behindL (l.take i) (w64 (0 - floorA (w64 (0 - hi))))).length = (behindL (l.take (i + 1)) (w64 (0 - floorA (w64 (0 - hi))))).length := by rw [hvb]
        have b2 : encL (behindL (l.take i) (w64 (0 - floorA (w64 (0 - hi))))) = encL (behindL (l.take (i + 1)) (w64 (0 - floorA (w64 (0 - hi))))) := by rw [hvb]
        refine ⟨⟨(i + 1, A3, c3, B2, e2), [200000, 52, 300001], (by show l.length - (i + 1) < l.length - i; omega), by decide, ?_, ?_⟩⟩
        all_goals repeat' (first | exact rfl | exact trivial | refine And.intro ?_ ?_ | exact a1 | exact a2 | exact b1 | exact b2 | exact congrArg (fun n => Value.slice A3 n c3) a1 | exact congrArg (fun n => Value.slice B2 n e2) b1 | exact congrArg (Value.int .i64) (nat_succ (by omega)))
      · rename_i B3 e3 h0 h1 h2 h3
        simp only [nthA_eta] at *
        have qa : aheadA (floorA lo) (nthA l i) = [] := aheadA_no h2
        have qb : behindA (w64 (0 - floorA (w64 (0 - hi)))) (nthA l i) = [partA (nthA l i) (maxI (w64 (0 - floorA (w64 (0 - hi)))) 65536) 2097152] := behindA_yes h3 h
        rw [qa, List.append_nil] at hva
        rw [qb] at hvb
        have a1 : (aheadL (l.take i) (floorA lo)).length = (aheadL (l.take (i + 1)) (floorA lo)).length := by rw [hva]
        have a2 : encL (aheadL (l.take i) (floorA lo)) = encL (aheadL (l.take (i + 1)) (floorA lo)) := by rw [hva]
        have b1 : (behindL (l.take i) (w64 (0 - floorA (w64 (0 - hi))))).length + 1 = (behindL (l.take (i + 1)) (w64 (0 - floorA (w64 (0 - hi))))).length := by rw [hvb, List.length_append]; rfl
        have b2 : encL (behindL (l.take i) (w64 (0 - floorA (w64 (0 - hi))))) ++ encA (partA (nthA l i) (maxI (w64 (0 - floorA (w64 (0 - hi)))) 65536) 2097152) = encL (behindL (l.take (i + 1)) (w64 (0 - floorA (w64 (0 - hi))))) := by rw [hvb, encL_app, encL_one]
        refine ⟨⟨(i + 1, A2, c2, B3, e3), [200000, 300000, 70], (by show l.length - (i + 1) < l.length - i; omega), by decide, ?_, ?_⟩⟩
        all_goals repeat' (first | exact rfl | exact trivial | refine And.intro ?_ ?_ | exact a1 | exact a2 | exact b1 | exact b2 | exact congrArg (fun n => Value.slice A2 n c2) a1 | exact congrArg (fun n => Value.slice B3 n e3) b1 | exact congrArg (Value.int .i64) (nat_succ (by omega)))
      · rename_i h0 h1 h2 h3
        simp only [nthA_eta] at *
        have qa : aheadA (floorA lo) (nthA l i) = [] := aheadA_no h2
        have qb : behindA (w64 (0 - floorA (w64 (0 - hi)))) (nthA l i) = [] := behindA_no h
        rw [qa, List.append_nil] at hva
        rw [qb, List.append_nil] at hvb
        have a1 : (aheadL (l.take i) (floorA lo)).length = (aheadL (l.take (i + 1)) (floorA lo)).length := by rw [hva]
        have a2 : encL (aheadL (l.take i) (floorA lo)) = encL (aheadL (l.take (i + 1)) (floorA lo)) := by rw [hva]
        have b1 : (behindL (l.take i) (w64 (0 - floorA (w64 (0 - hi))))).length = (behindL (l.take (i + 1)) (w64 (0 - floorA (w64 (0 - hi))))).length := by rw [hvb]
        have b2 : encL (behindL (l.take i) (w64 (0 - floorA (w64 (0 - hi))))) = encL (behindL (l.take (i + 1)) (w64 (0 - floorA (w64 (0 - hi))))) := by rw [hvb]
        refine ⟨⟨(i + 1, A2, c2, B2, e2), [200000, 300000, 300001], (by show l.length - (i + 1) < l.length - i; omega), by decide, ?_, ?_⟩⟩
        all_goals repeat' (first | exact rfl | exact trivial | refine And.intro ?_ ?_ | exact a1 | exact a2 | exact b1 | exact b2 | exact congrArg (fun n => Value.slice A2 n c2) a1 | exact congrArg (fun n => Value.slice B2 n e2) b1 | exact congrArg (Value.int .i64) (nat_succ (by omega)))
      · rename_i h0 h1 h2
        simp only [nthA_eta] at *
        have qa : aheadA (floorA lo) (nthA l i) = [] := aheadA_no h2
        have qb : behindA (w64 (0 - floorA (w64 (0 - hi)))) (nthA l i) = [] := behindA_none h
        rw [qa, List.append_nil] at hva
        rw [qb, List.append_nil] at hvb
        have a1 : (aheadL (l.take i) (floorA lo)).length = (aheadL (l.take (i + 1)) (floorA lo)).length := by rw [hva]
        have a2 : encL (aheadL (l.take i) (floorA lo)) = encL (aheadL (l.take (i + 1)) (floorA lo)) := by rw [hva]
        have b1 : (behindL (l.take i) (w64 (0 - floorA (w64 (0 - hi))))).length = (behindL (l.take (i + 1)) (w64 (0 - floorA (w64 (0 - hi))))).length := by rw [hvb]
        have b2 : encL (behindL (l.take i) (w64 (0 - floorA (w64 (0 - hi))))) = encL (behindL (l.take (i + 1)) (w64 (0 - floorA (w64 (0 - hi))))) := by rw [hvb]
        refine ⟨⟨(i + 1, A2, c2, B2, e2), [200000, 300000, 300001], (by show l.length - (i + 1) < l.length - i; omega), by decide, ?_, ?_⟩⟩
        all_goals repeat' (first | exact rfl | exact trivial | refine And.intro ?_ ?_ | exact a1 | exact a2 | exact b1 | exact b2 | exact congrArg (fun n => Value.slice A2 n c2) a1 | exact congrArg (fun n => Value.slice B2 n e2) b1 | exact congrArg (Value.int .i64) (nat_succ (by omega)))
      · rename_i B3 e3 h0 h1 h2
        simp only [nthA_eta] at *
        have qa : aheadA (floorA lo) (nthA l i) = [] := aheadA_none h1
        have qb : behindA (w64 (0 - floorA (w64 (0 - hi)))) (nthA l i) = [partA (nthA l i) (maxI (w64 (0 - floorA (w64 (0 - hi)))) 65536) 2097152] := behindA_yes h2 h
        rw [qa, List.append_nil] at hva
        rw [qb] at hvb
        have a1 : (aheadL (l.take i) (floorA lo)).length = (aheadL (l.take (i + 1)) (floorA lo)).length := by rw [hva]
        have a2 : encL (aheadL (l.take i) (floorA lo)) = encL (aheadL (l.take (i + 1)) (floorA lo)) := by rw [hva]
        have b1 : (behindL (l.take i) (w64 (0 - floorA (w64 (0 - hi))))).length + 1 = (behindL (l.take (i + 1)) (w64 (0 - floorA (w64 (0 - hi))))).length := by rw [hvb, List.length_append]; rfl
        have b2 : encL (behindL (l.take i) (w64 (0 - floorA (w64 (0 - hi))))) ++ encA (partA (nthA l i) (maxI (w64 (0 - floorA (w64 (0 - hi)))) 65536) 2097152) = encL (behindL (l.take (i + 1)) (w64 (0 - floorA (w64 (0 - hi))))) := by rw [hvb, encL_app, encL_one]
        refine ⟨⟨(i + 1, A2, c2, B3, e3), [200000, 300000, 70], (by show l.length - (i + 1) < l.length - i; omega), by decide, ?_, ?_⟩⟩
        all_goals repeat' (first | exact rfl | exact trivial | refine And.intro ?_ ?_ | exact a1 | exact a2 | exact b1 | exact b2 | exact congrArg (fun n => Value.slice A2 n c2) a1 | exact congrArg (fun n => Value.slice B3 n e3) b1 | exact congrArg (Value.int .i64) (nat_succ (by omega)))
      · rename_i h0 h1 h2
        simp only [nthA_eta] at *
        have qa : aheadA (floorA lo) (nthA l i) = [] := aheadA_none h1
        have qb : behindA (w64 (0 - floorA (w64 (0 - hi)))) (nthA l i) = [] := behindA_no h
        rw [qa, List.append_nil] at hva
        rw [qb, List.append_nil] at hvb
        have a1 : (aheadL (l.take i) (floorA lo)).length = (aheadL (l.take (i + 1)) (floorA lo)).length := by rw [hva]
        have a2 : encL (aheadL (l.take i) (floorA lo)) = encL (aheadL (l.take (i + 1)) (floorA lo)) := by rw [hva]
        have b1 : (behindL (l.take i) (w64 (0 - floorA (w64 (0 - hi))))).length = (behindL (l.take (i + 1)) (w64 (0 - floorA (w64 (0 - hi))))).length := by rw [hvb]
        have b2 : encL (behindL (l.take i) (w64 (0 - floorA (w64 (0 - hi))))) = encL (behindL (l.take (i + 1)) (w64 (0 - floorA (w64 (0 - hi))))) := by rw [hvb]
        refine ⟨⟨(i + 1, A2, c2, B2, e2), [200000, 300000, 300001], (by show l.length - (i + 1) < l.length - i; omega), by decide, ?_, ?_⟩⟩
        all_goals repeat' (first | exact rfl | exact trivial | refine And.intro ?_ ?_ | exact a1 | exact a2 | exact b1 | exact b2 | exact congrArg (fun n => Value.slice A2 n c2) a1 | exact congrArg (fun n => Value.slice B2 n e2) b1 | exact congrArg (Value.int .i64) (nat_succ (by omega)))
      · rename_i h0 h1
        simp only [nthA_eta] at *
        have qa : aheadA (floorA lo) (nthA l i) = [] := aheadA_none h1
        have qb : behindA (w64 (0 - floorA (w64 (0 - hi)))) (nthA l i) = [] := behindA_none h
        rw [qa, List.append_nil] at hva
        rw [qb, List.append_nil] at hvb
        have a1 : (aheadL (l.take i) (floorA lo)).length = (aheadL (l.take (i + 1)) (floorA lo)).length := by rw [hva]
        have a2 : encL (aheadL (l.take i) (floorA lo)) = encL (aheadL (l.take (i + 1)) (floorA lo)) := by rw [hva]
        have b1 : (behindL (l.take i) (w64 (0 - floorA (w64 (0 - hi))))).length = (behindL (l.take (i + 1)) (w64 (0 - floorA (w64 (0 - hi))))).length := by rw [hvb]
        have b2 : encL (behindL (l.take i) (w64 (0 - floorA (w64 (0 - hi))))) = encL (behindL (l.take (i + 1)) (w64 (0 - floorA (w64 (0 - hi))))) := by rw [hvb]
        refine ⟨⟨(i + 1, A2, c2, B2, e2), [200000, 300000, 300001], (by show l.length - (i + 1) < l.length - i; omega), by decide, ?_, ?_⟩⟩
        all_goals repeat' (first | exact rfl | exact trivial | refine And.intro ?_ ?_ | exact a1 | exact a2 | exact b1 | exact b2 | exact congrArg (fun n => Value.slice A2 n c2) a1 | exact congrArg (fun n => Value.slice B2 n e2) b1 | exact congrArg (Value.int .i64) (nat_succ (by omega)))
    · have hx : ¬ i < l.length := by subst hκ; delta kid at h; have h2 : ¬ (i : Int) < (l.length : Int) := of_decide_eq_false h; omega
      cbv
      subst hκ
      delta kid at *
      try dsimp only at *
      have ht : toI hi = w64 (0 - floorA (w64 (0 - hi))) := by unfold toI; rw [if_pos (of_decide_eq_true hm)]
      refine ⟨.inr ⟨hge, ?_⟩⟩
      rw [ht, take_all hx]
      exact ⟨⟨300000, A2, c2, 300001, B2, e2, rfl, rfl, rfl, by decide⟩⟩
  · cbv
    refine loopG FTok [e_lfloor hκ, e_part hκ] mixed [0, 1, 2, 8, 9, 29, 30] (σ := Nat × Option Addr × Nat × Option Addr × Nat) (fun q => [(6, .c (.sl 300000 q.2.1 (κ _ (aheadL (l.take q.1) (floorA lo)).length) q.2.2.1)), (7, .c (.sl 300001 q.2.2.2.1 (κ _ (behindL (l.take q.1) (hi)).length) q.2.2.2.2)), (31, .c (.v (.int .i64 (κ _ ((q.1 : Nat) : Int)))))])
      (fun q => [(200000, .rd A 6 (κ _ l.length) (κ _ (encL l))), (300000, .row q.2.1 q.2.2.1 49 6 (κ _ (aheadL (l.take q.1) (floorA lo)).length) (κ _ (encL (aheadL (l.take q.1) (floorA lo))))), (300001, .row q.2.2.2.1 q.2.2.2.2 49 6 (κ _ (behindL (l.take q.1) (hi)).length) (κ _ (encL (behindL (l.take q.1) (hi)))))])
      (fun q => l.length - q.1) (0, none, 0, none, 0) [200000, 999999, 999998] ?_ (by decide) ?_ hκ ?_
    · cbv
      subst hκ
      delta kid
      all_goals repeat' (first | exact rfl | exact trivial | refine And.intro ?_ ?_)
    · cbv
      subst hκ
      delta kid
      all_goals repeat' (first | exact rfl | exact trivial | refine And.intro ?_ ?_)
    rintro ⟨i, A2, c2, B2, e2⟩
    cbv
    refine tst_mk (fun h => ?_) (fun h => ?_)
    · have hx : i < l.length := by subst hκ; delta kid at h; have h2 : (i : Int) < (l.length : Int) := of_decide_eq_true h; omega
      have hl2 := takeA_le l i (floorA lo)
      have hl3 := takeB_le l i (hi)
      have hva := ahead_next hx (floorA lo)
      have hvb := behind_next hx (hi)
      cbv
      repeat' (first | refine And.intro ?_ ?_ | (intro _; cbv) | (refine tst_mk (fun h => ?_) (fun h => ?_) <;> cbv) | (refine LookN.mk' (x := [.v (.int .i64 (κ _ (nthA l i).s)), .v (.int .i64 (κ _ (nthA l i).e)), .v (.int .i64 (κ _ (nthA l i).p)), .v (.bool (κ _ (nthA l i).sh)), .v (.int .i64 (κ _ (nthA l i).b)), .v (.int .i64 (κ _ (nthA l i).o))]) (by subst hκ; delta kid at *; exact la_take hx) ?_; cbv))
      all_goals (clear hH; subst hκ; delta kid at *; try dsimp only at *)
      all_goals (try (exact ⟨la_ix hx⟩))
      all_goals (try (exact ⟨rfl⟩))
      all_goals (try (exact ⟨trivial⟩))
      all_goals (try (exact ⟨⟨rfl, rfl, rfl, rfl, rfl⟩⟩))
      all_goals (try (exact ⟨⟨rfl, rfl, .inl rfl, rfl⟩⟩))
      all_goals (try (exact ⟨by simp only [maxLen]; omega⟩))
      · rename_i A3 c3 _ _ B3 e3 h0 h1 h2 h3
        simp only [nthA_eta] at *
        have qa : aheadA (floorA lo) (nthA l i) = [partA (nthA l i) 65536 (maxI (floorA lo) 65536)] := aheadA_yes h1 h2
        have qb : behindA (hi) (nthA l i) = [partA (nthA l i) (maxI (hi) 65536) 2097152] := behindA_yes h3 h
        rw [qa] at hva
        rw [qb] at hvb
        have a1 : (aheadL (l.take i) (floorA lo)).length + 1 = (aheadL (l.take (i + 1)) (floorA lo)).length := by rw [hva, List.length_append]; rfl
        have a2 : encL (aheadL (l.take i) (floorA lo)) ++ encA (partA (nthA l i) 65536 (maxI (floorA lo) 65536)) = encL (aheadL (l.take (i + 1)) (floorA lo)) := by rw [hva, encL_app, encL_one]
        have b1 : (behindL (l.take i) (hi)).length + 1 = (behindL (l.take (i + 1)) (hi)).length := by rw [hvb, List.length_append]; rfl
        have b2 : encL (behindL (l.take i) (hi)) ++ encA (partA (nthA l i) (maxI (hi) 65536) 2097152) = encL (behindL (l.take (i + 1)) (hi)) := by rw [hvb, encL_app, encL_one]
        refine ⟨⟨(i + 1, A3, c3, B3, e3), [200000, 52, 70], (by show l.length - (i + 1) < l.length - i; omega), by decide, ?_, ?_⟩⟩
        all_goals repeat' (first | exact rfl | exact trivial | refine And.intro ?_ ?_ | exact a1 | exact a2 | exact b1 | exact b2 | exact congrArg (fun n => Value.slice A3 n c3) a1 | exact congrArg (fun n => Value.slice B3 n e3) b1 | exact congrArg (Value.int .i64) (nat_succ (by omega)))
      · rename_i A3 c3 _ h0 h1 h2 h3
        simp only [nthA_eta] at *
        have qa : aheadA (floorA lo) (nthA l i) = [partA (nthA l i) 65536 (maxI (floorA lo) 65536)] := aheadA_yes h1 h2
        have qb : behindA (hi) (nthA l i) = [] := behindA_no h
        rw [qa] at hva
        rw [qb, List.append_nil] at hvb
        have a1 : (aheadL (l.take i) (floorA lo)).length + 1 = (aheadL (l.take (i + 1)) (floorA lo)).length := by rw [hva, List.length_append]; rfl
        have a2 : encL (aheadL (l.take i) (floorA lo)) ++ encA (partA (nthA l i) 65536 (maxI (floorA lo) 65536)) = encL (aheadL (l.take (i + 1)) (floorA lo)) := by rw [hva, encL_app, encL_one]
        have b1 : (behindL (l.take i) (hi)).length = (behindL (l.take (i + 1)) (hi)).length := by rw [hvb]
        have b2 : encL (behindL (l.take i) (hi)) = encL (behindL (l.take (i + 1)) (hi)) := by rw [hvb]
        refine ⟨⟨(i + 1, A3, c3, B2, e2), [200000, 52, 300001], (by show l.length - (i + 1) < l.length - i; omega), by decide, ?_, ?_⟩⟩
        all_goals repeat' (first | exact rfl | exact trivial | refine And.intro ?_ ?_ | exact a1 | exact a2 | exact b1 | exact b2 | exact congrArg (fun n => Value.slice A3 n c3) a1 | exact congrArg (fun n => Value.slice B2 n e2) b1 | exact congrArg (Value.int .i64) (nat_succ (by omega)))
      · rename_i A3 c3 _ h0 h1 h2
        simp only [nthA_eta] at *
        have qa : aheadA (floorA lo) (nthA l i) = [partA (nthA l i) 65536 (maxI (floorA lo) 65536)] := aheadA_yes h1 h2
        have qb : behindA (hi) (nthA l i) = [] := behindA_none h
        rw [qa] at hva
        rw [qb, List.append_nil] at hvb
        have a1 : (aheadL (l.take i) (floorA lo)).length + 1 = (aheadL (l.take (i + 1)) (floorA lo)).length := by rw [hva, List.length_append]; rfl
        have a2 : encL (aheadL (l.take i) (floorA lo)) ++ encA (partA (nthA l i) 65536 (maxI (floorA lo) 65536)) = encL (aheadL (l.take (i + 1)) (floorA lo)) := by rw [hva, encL_app, encL_one]
        have b1 : (behindL (l.take i) (hi)).length = (behindL (l.take (i + 1)) (hi)).length := by rw [hvb]
        have b2 : encL (behindL (l.take i) (hi)) = encL (behindL (l.take (i + 1)) (hi)) := by rw [hvb]
        refine ⟨⟨(i + 1, A3, c3, B2, e2), [200000, 52, 300001], (by show l.length - (i + 1) < l.length - i; omega), by decide, ?_, ?_⟩⟩
        all_goals repeat' (first | exact rfl | exact trivial | refine And.intro ?_ ?_ | exact a1 | exact a2 | exact b1 | exact b2 | exact congrArg (fun n => Value.slice A3 n c3) a1 | exact congrArg (fun n => Value.slice B2 n e2) b1 | exact congrArg (Value.int .i64) (nat_succ (by omega)))
      · rename_i B3 e3 h0 h1 h2 h3
        simp only [nthA_eta] at *
        have qa : aheadA (floorA lo) (nthA l i) = [] := aheadA_no h2
        have qb : behindA (hi) (nthA l i) = [partA (nthA l i) (maxI (hi) 65536) 2097152] := behindA_yes h3 h
        rw [qa, List.append_nil] at hva
        rw [qb] at hvb
        have a1 : (aheadL (l.take i) (floorA lo)).length = (aheadL (l.take (i + 1)) (floorA lo)).length := by rw [hva]
        have a2 : encL (aheadL (l.take i) (floorA lo)) = encL (aheadL (l.take (i + 1)) (floorA lo)) := by rw [hva]
        have b1 : (behindL (l.take i) (hi)).length + 1 = (behindL (l.take (i + 1)) (hi)).length := by rw [hvb, List.length_append]; rfl
        have b2 : encL (behindL (l.take i) (hi)) ++ encA (partA (nthA l i) (maxI (hi) 65536) 2097152) = encL (behindL (l.take (i + 1)) (hi)) := by rw [hvb, encL_app, encL_one]
        refine ⟨⟨(i + 1, A2, c2, B3, e3), [200000, 300000, 70], (by show l.length - (i + 1) < l.length - i; omega), by decide, ?_, ?_⟩⟩
        all_goals repeat' (first | exact rfl | exact trivial | refine And.intro ?_ ?_ | exact a1 | exact a2 | exact b1 | exact b2 | exact congrArg (fun n => Value.slice A2 n c2) a1 | exact congrArg (fun n => Value.slice B3 n e3) b1 | exact congrArg (Value.int .i64) (nat_succ (by omega)))
      · rename_i h0 h1 h2 h3
        simp only [nthA_eta] at *
        have qa : aheadA (floorA lo) (nthA l i) = [] := aheadA_no h2
        have qb : behindA (hi) (nthA l i) = [] := behindA_no h
        rw [qa, List.append_nil] at hva
        rw [qb, List.append_nil] at hvb
        have a1 : (aheadL (l.take i) (floorA lo)).length = (aheadL (l.take (i + 1)) (floorA lo)).length := by rw [hva]
        have a2 : encL (aheadL (l.take i) (floorA lo)) = encL (aheadL (l.take (i + 1)) (floorA lo)) := by rw [hva]
        have b1 : (behindL (l.take i) (hi)).length = (behindL (l.take (i + 1)) (hi)).length := by rw [hvb]
        have b2 : encL (behindL (l.take i) (hi)) = encL (behindL (l.take (i + 1)) (hi)) := by rw [hvb]
        refine ⟨⟨(i + 1, A2, c2, B2, e2), [200000, 300000, 300001], (by show l.length - (i + 1) < l.length - i; omega), by decide, ?_, ?_⟩⟩
        all_goals repeat' (first | exact rfl | exact trivial | refine And.intro ?_ ?_ | exact a1 | exact a2 | exact b1 | exact b2 | exact congrArg (fun n => Value.slice A2 n c2) a1 | exact congrArg (fun n => Value.slice B2 n e2) b1 | exact congrArg (Value.int .i64) (nat_succ (by omega)))
      · rename_i h0 h1 h2
        simp only [nthA_eta] at *
        have qa : aheadA (floorA lo) (nthA l i) = [] := aheadA_no h2
        have qb : behindA (hi) (nthA l i) = [] := behindA_none h
        rw [qa, List.append_nil] at hva
        rw [qb, List.append_nil] at hvb
        have a1 : (aheadL (l.take i) (floorA lo)).length = (aheadL (l.take (i + 1)) (floorA lo)).length := by rw [hva]
        have a2 : encL (aheadL (l.take i) (floorA lo)) = encL (aheadL (l.take (i + 1)) (floorA lo)) := by rw [hva]
        have b1 : (behindL (l.take i) (hi)).length = (behindL (l.take (i + 1)) (hi)).length := by rw [hvb]
        have b2 : encL (behindL (l.take i) (hi)) = encL (behindL (l.take (i + 1)) (hi)) := by rw [hvb]
        refine ⟨⟨(i + 1, A2, c2, B2, e2), [200000, 300000, 300001], (by show l.length - (i + 1) < l.length - i; omega), by decide, ?_, ?_⟩⟩
        all_goals repeat' (first | exact rfl | exact trivial | refine And.intro ?_ ?_ | exact a1 | exact a2 | exact b1 | exact b2 | exact congrArg (fun n => Value.slice A2 n c2) a1 | exact congrArg (fun n => Value.slice B2 n e2) b1 | exact congrArg (Value.int .i64) (nat_succ (by omega)))
      · rename_i B3 e3 h0 h1 h2
        simp only [nthA_eta] at *
        have qa : aheadA (floorA lo) (nthA l i) = [] := aheadA_none h1
        have qb : behindA (hi) (nthA l i) = [partA (nthA l i) (maxI (hi) 65536) 2097152] := behindA_yes h2 h
        rw [qa, List.append_nil] at hva
        rw [qb] at hvb
        have a1 : (aheadL (l.take i) (floorA lo)).length = (aheadL (l.take (i + 1)) (floorA lo)).length := by rw [hva]
        have a2 : encL (aheadL (l.take i) (floorA lo)) = encL (aheadL (l.take (i + 1)) (floorA lo)) := by rw [hva]
        have b1 : (behindL (l.take i) (hi)).length + 1 = (behindL (l.take (i + 1)) (hi)).length := by rw [hvb, List.length_append]; rfl
        have b2 : encL (behindL (l.take i) (hi)) ++ encA (partA (nthA l i) (maxI (hi) 65536) 2097152) = encL (behindL (l.take (i + 1)) (hi)) := by rw [hvb, encL_app, encL_one]
        refine ⟨⟨(i + 1, A2, c2, B3, e3), [200000, 300000, 70], (by show l.length - (i + 1) < l.length - i; omega), by decide, ?_, ?_⟩⟩
        all_goals repeat' (first | exact rfl | exact trivial | refine And.intro ?_ ?_ | exact a1 | exact a2 | exact b1 | exact b2 | exact congrArg (fun n => Value.slice A2 n c2) a1 | exact congrArg (fun n => Value.slice B3 n e3) b1 | exact congrArg (Value.int .i64) (nat_succ (by omega)))
      · rename_i h0 h1 h2
        simp only [nthA_eta] at *
        have qa : aheadA (floorA lo) (nthA l i) = [] := aheadA_none h1
        have qb : behindA (hi) (nthA l i) = [] := behindA_no h
        rw [qa, List.append_nil] at hva
        rw [qb, List.append_nil] at hvb
        have a1 : (aheadL (l.take i) (floorA lo)).length = (aheadL (l.take (i + 1)) (floorA lo)).length := by rw [hva]
        have a2 : encL (aheadL (l.take i) (floorA lo)) = encL (aheadL (l.take (i + 1)) (floorA lo)) := by rw [hva]
        have b1 : (behindL (l.take i) (hi)).length = (behindL (l.take (i + 1)) (hi)).length := by rw [hvb]
        have b2 : encL (behindL (l.take i) (hi)) = encL (behindL (l.take (i + 1)) (hi)) := by rw [hvb]
        refine ⟨⟨(i + 1, A2, c2, B2, e2), [200000, 300000, 300001], (by show l.length - (i + 1) < l.length - i; omega), by decide, ?_, ?_⟩⟩
        all_goals repeat' (first | exact rfl | exact trivial | refine And.intro ?_ ?_ | exact a1 | exact a2 | exact b1 | exact b2 | exact congrArg (fun n => Value.slice A2 n c2) a1 | exact congrArg (fun n => Value.slice B2 n e2) b1 | exact congrArg (Value.int .i64) (nat_succ (by omega)))
      · rename_i h0 h1
        simp only [nthA_eta] at *
        have qa : aheadA (floorA lo) (nthA l i) = [] := aheadA_none h1
        have qb : behindA (hi) (nthA l i) = [] := behindA_none h
        rw [qa, List.append_nil] at hva
        rw [qb, List.append_nil] at hvb
        have a1 : (aheadL (l.take i) (floorA lo)).length = (aheadL (l.take (i + 1)) (floorA lo)).length := by rw [hva]
        have a2 : encL (aheadL (l.take i) (floorA lo)) = encL (aheadL (l.take (i + 1)) (floorA lo)) := by rw [hva]
        have b1 : (behindL (l.take i) (hi)).length = (behindL (l.take (i + 1)) (hi)).length := by rw [hvb]
        have b2 : encL (behindL (l.take i) (hi)) = encL (behindL (l.take (i + 1)) (hi)) := by rw [hvb]
        refine ⟨⟨(i + 1, A2, c2, B2, e2), [200000, 300000, 300001], (by show l.length - (i + 1) < l.length - i; omega), by decide, ?_, ?_⟩⟩
        all_goals repeat' (first | exact rfl | exact trivial | refine And.intro ?_ ?_ | exact a1 | exact a2 | exact b1 | exact b2 | exact congrArg (fun n => Value.slice A2 n c2) a1 | exact congrArg (fun n => Value.slice B2 n e2) b1 | exact congrArg (Value.int .i64) (nat_succ (by omega)))
    · have hx : ¬ i < l.length := by subst hκ; delta kid at h; have h2 : ¬ (i : Int) < (l.length : Int) := of_decide_eq_false h; omega
      cbv
      subst hκ
      delta kid at *
      try dsimp only at *
      have ht : toI hi = hi := by unfold toI; rw [if_neg (of_decide_eq_false hm)]
      refine ⟨.inr ⟨hge, ?_⟩⟩
      rw [ht, take_all hx]
      exact ⟨⟨300000, A2, c2, 300001, B2, e2, rfl, rfl, rfl, by decide⟩⟩
end Go.Proofs.YtbcicjmepojlnaaGreat.Eng
/- The contract of list.around; condition: at most a million areas. -/
namespace Go.Proofs.YtbcicjmepojlnaaGreat.Eng
open Go Go.RowKit
set_option linter.unusedSimpArgs false
set_option linter.unusedVariables false
theorem ConjP.turn {T T' : KT → Prop} {ok : Nat → Prop} (h : ConjP T ok) (he : ∀ K, T' K ↔ T K) : ConjP T' ok := by
  obtain ⟨s, R, h0, h1, h2⟩ := h
  exact ⟨s, R, h0, h1, fun K => (he K).trans (h2 K)⟩
def aroundT (κ : Kp) : TSpec := fun args H d K => match args with
  | [.c (.sl id A n c), .c (.v (.int .i64 lo)), .c (.v (.int .i64 hi))] => match rowOf (H id) with
    | some (A', z, n', xs) => Side (κ _ (A = A' ∧ n = n' ∧ (z = 6 ∨ n = 0))) ∧ LookX encL xs fun l => Side (κ _ (l.length = n ∧ l.length ≤ 1000000)) ∧ match κ _ (decide (lo ≥ hi)) with
      | true => K (.tup [.c (.sl id A n c), .c (.sl nilId none 0 0)]) []
      | false => ∀ (A1 : Option Addr) (c1 : Nat) (A2 : Option Addr) (c2 : Nat), K (.tup [.c (.sl d A1 (κ _ (aheadL l (floorA lo)).length) c1), .c (.sl (d + 100000) A2 (κ _ (behindL l (toI hi)).length) c2)])
          [(d, some (.row A1 c1 49 6 (κ _ (aheadL l (floorA lo)).length) (κ _ (encL (aheadL l (floorA lo)))))), (d + 100000, some (.row A2 c2 49 6 (κ _ (behindL l (toI hi)).length) (κ _ (encL (behindL l (toI hi))))))]
    | none => False
  | _ => False
theorem aroundT_conj (args : List SV) (H : Heap) (d : Nat) : ConjP (aroundT kid args H d) (okKey false H d) := by
  unfold aroundT
  split
  · split
    · rename_i id A n c lo hi _ _ _ _ _ _
      refine .side fun _ => .look encL_inj fun l _ => .side fun _ => ?_
      simp only [kid]
      cases hd : decide (lo ≥ hi)
      · exact (ConjP.all_ (α := Option Addr × Nat × Option Addr × Nat) (fun x => .tup [.c (.sl d x.1 _ x.2.1), .c (.sl (d + 100000) x.2.2.1 _ x.2.2.2)]) (fun x => [(d, some (.row x.1 x.2.1 49 6 _ _)), (d + 100000, some (.row x.2.2.1 x.2.2.2 49 6 _ _))]) (by simp [okKey])).turn fun K => ⟨fun h x => h _ _ _ _, fun h A c B e => h (A, c, B, e)⟩
      · exact .one _ _ (by simp)
    · exact .false_
  · exact .false_
def e_around {κ : Kp} (hκ : κ = kid) : ESpec Tryz.prog := ES b_around false aroundT hκ aroundT_conj fun args H0 H d w0 M w hs hsub hH => by
  have hs' := hs
  unfold aroundT at hs'
  split at hs'
  case h_2 => exact hs'.elim
  rename_i id A n c lo hi
  split at hs'
  case h_2 => exact hs'.elim
  rename_i A' z n' xs hrow
  obtain ⟨⟨h1⟩, ⟨l, hx, ⟨h2⟩, _⟩⟩ := hs'
  obtain ⟨rfl, rfl, hz⟩ := h1
  obtain ⟨hn, hb⟩ : l.length = n ∧ l.length ≤ 1000000 := h2
  have hrd : (Ent.rd A 6 l.length (encL l)).holds w := rd_holds (hH.drop hsub) hrow hz hn hx
  subst hn
  have key : ∀ K : KT, aroundT kid [.c (.sl id A l.length c), .c (.v (.int .i64 lo)), .c (.v (.int .i64 hi))] H0 d K → (decide (lo ≥ hi) = true → K (.tup [.c (.sl id A l.length c), .c (.sl nilId none 0 0)]) []) ∧
      (decide (lo ≥ hi) = false → ∀ A1 c1 A2 c2, K (.tup [.c (.sl d A1 (aheadL l (floorA lo)).length c1), .c (.sl (d + 100000) A2 (behindL l (toI hi)).length c2)]) [(d, some (.row A1 c1 49 6 (aheadL l (floorA lo)).length (encL (aheadL l (floorA lo))))), (d + 100000, some (.row A2 c2 49 6 (behindL l (toI hi)).length (encL (behindL l (toI hi)))))]) := by
    intro K hK
    unfold aroundT at hK
    simp only [hrow] at hK
    obtain ⟨_, ⟨l2, hl2, _, h⟩⟩ := hK
    have := encL_inj _ _ (hx.symm.trans hl2)
    subst this
    simp only [kid] at h
    constructor
    · intro hd
      rw [hd] at h
      exact h
    · intro hd
      rw [hd] at h
      exact h
  refine (k_around l lo hi hb A c w hrd).mono ?_
  rintro e w' ⟨v, H', rfl, ⟨⟨hd, rfl⟩ | ⟨hd, ⟨i, A1, c1, j, A2, c2, rfl, e1, e2, hne⟩⟩⟩, hH'⟩
  · refine ⟨.tup [.c (.sl id A l.length c), .c (.sl nilId none 0 0)], [], _, rfl, fun K hK => (key K hK).1 hd, fun _ => rfl, ?_⟩
    exact hH.below (hH'.isBelow)
  · refine ⟨_, _, _, rfl, fun K hK => (key K hK).2 hd A1 c1 A2 c2, fun _ => rfl, ?_⟩
    rw [mutE_nil] at hH'
    refine hH.leave (ρ := []) (E := []) (by simp) trivial hH' _ [(d, i), (d + 100000, j)] ?_ ?_ (by simp [hne])
    · intro q hq
      simp only [List.mem_cons, List.not_mem_nil, or_false] at hq
      rcases hq with rfl | rfl
      · exact ⟨_, _, e1, by simp [upds, upd_apply], gives_refl _, rfl⟩
      · exact ⟨_, _, e2, by simp [upds, upd_apply], gives_refl _, rfl⟩
    · intro q hq
      have h1 : d ≠ q := fun e => hq (d, i) (by simp) e
      have h2 : d + 100000 ≠ q := fun e => hq (d + 100000, j) (by simp) e
      exact .inr ⟨upds_other _ H q (by simp [h1, h2]), fun k t e hk => by simp at hk⟩
end Go.Proofs.YtbcicjmepojlnaaGreat.Eng
/- What functions on lists come to, branch by branch; no condition. -/
namespace Go.Proofs.YtbcicjmepojlnaaGreat.Eng
open Go Go.RowKit
set_option linter.unusedSimpArgs false
set_option linter.unusedVariables false
theorem IsR.nil_ {r : List Ar} {i : Nat} {H' : Heap} (h : r = []) : IsR r (.c (.sl i none 0 0)) H' := by
  subst h
  exact ⟨⟨i, none, 0, rfl, .inr ⟨rfl, rfl, rfl⟩⟩⟩
theorem IsR.row_ {r r' : List Ar} {i c2 : Nat} {A2 : Option Addr} {H' : Heap} (h : r' = r) (hH : H' i = some (.row A2 c2 49 6 r'.length (encL r'))) : IsR r (.c (.sl i A2 r'.length c2)) H' := by
  subst h
  exact ⟨⟨i, A2, c2, rfl, .inl hH⟩⟩
theorem around_all {l : List Ar} {lo hi : Int} (h : decide (hi ≤ lo) = true) : aroundA l lo hi = l ∧ aroundB l lo hi = [] := by
  have h2 : lo ≥ hi := of_decide_eq_true h
  unfold aroundA aroundB
  rw [if_pos h2, if_pos h2]
  exact ⟨rfl, rfl⟩
theorem around_some {l : List Ar} {lo hi : Int} (h : decide (hi ≤ lo) = false) : aroundA l lo hi = aheadL l (floorA lo) ∧ aroundB l lo hi = behindL l (toI hi) := by
  have h2 : ¬ lo ≥ hi := of_decide_eq_false h
  unfold aroundA aroundB
  rw [if_neg h2, if_neg h2]
  exact ⟨rfl, rfl⟩
theorem cut_no {l : List Ar} {lo hi : Int} (h : rightL l = false) : cutL l lo hi = [] := by
  unfold cutL
  rw [h]
  rfl
theorem cut_all {l : List Ar} {lo hi : Int} (h : rightL l = true) (h2 : decide (hi ≤ lo) = true) : l ++ [] = cutL l lo hi := by
  unfold cutL
  rw [if_pos h, (around_all h2).1, (around_all h2).2]
theorem cut_some {l : List Ar} {lo hi : Int} (h : rightL l = true) (h2 : decide (hi ≤ lo) = false) : aheadL l (floorA lo) ++ behindL l (toI hi) = cutL l lo hi := by
  unfold cutL
  rw [if_pos h, (around_some h2).1, (around_some h2).2]
theorem put_no {l : List Ar} {a : Ar} (h : rightL l = false) : putL l a = [] := by
  unfold putL
  rw [h]
  rfl
theorem put_no2 {l : List Ar} {a : Ar} (h : formed a = false) : putL l a = [] := by
  unfold putL
  rw [h, Bool.and_false]
  rfl
theorem put_all {l : List Ar} {a : Ar} (h : rightL l = true) (hf : formed a = true) (h2 : decide (a.e ≤ a.s) = true) : joinedL (l ++ [a] ++ []) = putL l a := by
  unfold putL
  rw [h, hf, (around_all h2).1, (around_all h2).2]
  rfl
theorem put_some {l : List Ar} {a : Ar} (h : rightL l = true) (hf : formed a = true) (h2 : decide (a.e ≤ a.s) = false) : joinedL (aheadL l (floorA a.s) ++ [a] ++ behindL l (toI a.e)) = putL l a := by
  unfold putL
  rw [h, hf, (around_some h2).1, (around_some h2).2]
  rfl
theorem set_no {l : List Ar} {lo hi p : Int} (h : rightL l = false) : setL l lo hi p = [] := by
  unfold setL
  rw [h]
  rfl
theorem set_no2 {l : List Ar} {lo hi p : Int} (h : decide (p < 0) = true) : setL l lo hi p = [] := by
  unfold setL
  rw [h, Bool.or_true]
  rfl
theorem set_no3 {l : List Ar} {lo hi p : Int} (h : decide (7 < p) = true) : setL l lo hi p = [] := by
  unfold setL
  rw [show decide (p > 7) = true from h, Bool.or_true]
  rfl
theorem set_all {l : List Ar} {lo hi p : Int} (h : rightL l = true) (h1 : decide (p < 0) = false) (h3 : decide (7 < p) = false) (h2 : decide (hi ≤ lo) = true) : joinedL (l ++ [] ++ []) = setL l lo hi p := by
  have hm : midL l lo hi p = [] := by
    unfold midL
    rw [if_neg (by have := of_decide_eq_true h2; omega)]
  unfold setL
  rw [h, h1, show decide (p > 7) = false from h3, (around_all h2).1, (around_all h2).2, hm]
  rfl
theorem set_some {l : List Ar} {lo hi p : Int} (h : rightL l = true) (h1 : decide (p < 0) = false) (h3 : decide (7 < p) = false) (h2 : decide (hi ≤ lo) = false) : joinedL (aheadL l (floorA lo) ++ (withinL l lo hi).map (setA p) ++ behindL l (toI hi)) = setL l lo hi p := by
  have hm : midL l lo hi p = (withinL l lo hi).map (setA p) := by
    unfold midL
    rw [if_pos (by have := of_decide_eq_false h2; omega)]
  unfold setL
  rw [h, h1, show decide (p > 7) = false from h3, (around_some h2).1, (around_some h2).2, hm]
  rfl
theorem lt_geT {κ : Kp} (hκ : κ = kid) {lo hi : Int} (h : κ _ (decide (hi ≤ lo)) = true) (h' : κ _ (decide (lo < hi)) = true) : False := by
  subst hκ
  have h1 := of_decide_eq_true h
  have h2 := of_decide_eq_true h'
  omega
theorem lt_geF {κ : Kp} (hκ : κ = kid) {lo hi : Int} (h : κ _ (decide (hi ≤ lo)) = false) (h' : κ _ (decide (lo < hi)) = false) : False := by
  subst hκ
  have h1 := of_decide_eq_false h
  have h2 := of_decide_eq_false h'
  omega
theorem one_cells (a1 a2 a3 : Int) (a4 : Bool) (a5 a6 : Int) : [.v (.int .i64 a1), .v (.int .i64 a2), .v (.int .i64 a3), .v (.bool a4), .v (.int .i64 a5), .v (.int .i64 a6)] = encL [(⟨a1, a2, a3, a4, a5, a6⟩ : Ar)] := rfl
def within2L (l : List Ar) (lo hi : Int) : List Ar := if (!rightL l || decide (lo ≥ hi)) = true then [] else withinL l lo hi
theorem within2_no {l : List Ar} {lo hi : Int} (h : rightL l = false) : within2L l lo hi = [] := by
  unfold within2L
  rw [h]
  rfl
theorem within2_no2 {l : List Ar} {lo hi : Int} (h : decide (hi ≤ lo) = true) : within2L l lo hi = [] := by
  unfold within2L
  rw [show decide (lo ≥ hi) = true from h, Bool.or_true]
  rfl
theorem within2_yes {l : List Ar} {lo hi : Int} (h : rightL l = true) (h2 : decide (hi ≤ lo) = false) : withinL l lo hi = within2L l lo hi := by
  unfold within2L
  rw [h, show decide (lo ≥ hi) = false from h2]
  rfl
def setTo (p : Int) (W : List Ar) (i : Nat) : List Ar := (W.take i).map (setA p) ++ W.drop i
theorem setTo_len (p : Int) (W : List Ar) (i : Nat) : (setTo p W i).length = W.length := by
  unfold setTo
  rw [List.length_append, List.length_map, List.length_take, List.length_drop]
  omega
theorem setTo_zero (p : Int) (W : List Ar) : setTo p W 0 = W := by
  unfold setTo
  rw [List.take_zero, List.drop_zero]
  rfl
theorem setTo_all {p : Int} {W : List Ar} {i : Nat} (h : ¬ i < W.length) : setTo p W i = W.map (setA p) := by
  unfold setTo
  rw [List.take_of_length_le (by omega), List.drop_of_length_le (by omega), List.append_nil]
theorem setTo_get {p : Int} {W : List Ar} {i : Nat} (h : i < W.length) : (setTo p W i)[i]? = some (nthA W i) := by
  unfold setTo
  have e : ((W.take i).map (setA p)).length = i := by rw [List.length_map, List.length_take]; omega
  rw [List.getElem?_append_right (by omega), e, Nat.sub_self, List.getElem?_drop, Nat.add_zero, nthA_get h]
theorem setTo_next {p : Int} {W : List Ar} {i : Nat} (h : i < W.length) : (setTo p W i).set i (setA p (nthA W i)) = setTo p W (i + 1) := by
  unfold setTo
  have e : ((W.take i).map (setA p)).length = i := by rw [List.length_map, List.length_take]; omega
  rw [List.set_append_right _ _ (by omega), e, Nat.sub_self, take_next h, List.map_append, List.append_assoc]
  congr 1
  rw [List.drop_eq_getElem_cons h]
  have h2 := nthA_get h
  rw [List.getElem?_eq_getElem h] at h2
  injection h2 with h2
  rw [List.set_cons_zero]
  rfl
theorem setTo_put {p : Int} {W : List Ar} {i : Nat} (h : i < W.length) : putCells (encL (setTo p W i)) (((i : Nat) : Int).toNat * 6 + 2) [.v (.int .i64 p)] = encL (setTo p W (i + 1)) := by
  rw [Int.toNat_natCast, ← setTo_next h]
  exact enc_put encA_len (setTo p W i) i (nthA W i) (setA p (nthA W i)) 2 (.v (.int .i64 p)) (setTo_get h) (by decide) rfl
theorem setTo_in {p : Int} {W : List Ar} {i : Nat} (h : i < W.length) : ((i : Nat) : Int).toNat * 6 + 2 + 1 ≤ (encL (setTo p W i)).length := by
  rw [Int.toNat_natCast, encL_len, setTo_len]
  omega
end Go.Proofs.YtbcicjmepojlnaaGreat.Eng
