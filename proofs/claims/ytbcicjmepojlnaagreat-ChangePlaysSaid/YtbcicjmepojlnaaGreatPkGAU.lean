/- Texts of this work, laid together: symbolic execution over the model, contracts of the program's functions, what they come to; conditions: as each says. -/
import Derived.Test.YtbcicjmepojlnaaGreatPkGAK
import Derived.Test.YtbcicjmepojlnaaGreatPkGAO
import Derived.Test.YtbcicjmepojlnaaGreatPkGAP
import Derived.Test.YtbcicjmepojlnaaGreatPkGAR
import Derived.Test.YtbcicjmepojlnaaGreatPkGAT
/- Contracts of functions of lists that hand back new ones (printed by genr.py of this work); condition: as its 'hside' says. -/
namespace Go.Proofs.YtbcicjmepojlnaaGreat.Eng
open Go Go.RowKit
set_option linter.unusedVariables false
set_option linter.unusedSimpArgs false
theorem b_put : Bodied Tryz.prog 34 := bodied Tryz.func34 rfl (by decide)
def F_put : FunR := fun κ l rest => match rest with
  | [.agg [.v (.int .i64 a1), .v (.int .i64 a2), .v (.int .i64 a3), .v (.bool a4), .v (.int .i64 a5), .v (.int .i64 a6)]] => some (κ _ (l.length ≤ 300000), κ _ (putL l (⟨a1, a2, a3, a4, a5, a6⟩ : Ar)))
  | _ => none
set_option maxRecDepth 100000 in
set_option maxHeartbeats 8000000 in
theorem k_put (l : List Ar) (a1 : Int) (a2 : Int) (a3 : Int) (a4 : Bool) (a5 : Int) (a6 : Int) (hside : l.length ≤ 300000) (A : Option Addr) (c : Nat) (w : World) (hr : (Ent.rd A 6 l.length (encL l)).holds w) :
    Calls Tryz.prog 34 #[.slice A l.length c, (SV.agg [.v (.int .i64 a1), .v (.int .i64 a2), .v (.int .i64 a3), .v (.bool a4), .v (.int .i64 a5), .v (.int .i64 a6)]).den] w fun e w' => ∃ v H', e = .returned v.den ∧ IsR (putL l (⟨a1, a2, a3, a4, a5, a6⟩ : Ar)) v H' ∧ HSat w (fun _ => False) H' w' := by
  obtain ⟨κ, hκ⟩ : ∃ κ : Kp, κ = kid := ⟨_, rfl⟩
  have hH : HSat w (fun _ => False) (heapOf [(nilId, .rd none 1 0 []), (200000, .rd A 6 (κ _ l.length) (κ _ (encL l)))]) w := by
    subst hκ
    refine HSat.reads fun p hp => ?_
    simp only [List.mem_cons, List.not_mem_nil, or_false] at hp
    rcases hp with rfl | rfl
    · exact ⟨_, _, _, _, rfl, nil_holds w⟩
    · exact ⟨_, _, _, _, rfl, hr⟩
  refine (callsE (n := 31) FTok [e_right hκ, e_formed hκ, e_around hκ, e_concat hκ, e_joined hκ] mixed [] Tryz.func34 rfl (by kernel_rfl) #[.slice A l.length c, (SV.agg [.v (.int .i64 a1), .v (.int .i64 a2), .v (.int .i64 a3), .v (.bool a4), .v (.int .i64 a5), .v (.int .i64 a6)]).den] [(0, .c (.sl 200000 A (κ _ l.length) c)), (1, .agg [.v (.int .i64 a1), .v (.int .i64 a2), .v (.int .i64 a3), .v (.bool a4), .v (.int .i64 a5), .v (.int .i64 a6)])] _ w rfl [.tmp 4] rfl (by simp) (by subst hκ; simp [SV.den, C.den, kid]) hH (fun v H' => IsR (κ _ (putL l (⟨a1, a2, a3, a4, a5, a6⟩ : Ar))) v H') hκ ?_).mono ?_
  rotate_left
  · subst hκ; intro e w' h; exact h
  cbv
  repeat' (first | refine And.intro ?_ ?_ | (intro _; cbv) | (refine tst_mk (fun h => ?_) (fun h => ?_) <;> cbv) | (refine LookX.nil ?_; cbv) | (refine LookX.auto hκ ?_; cbv) | (refine LookX.mk' (one_cells a1 a2 a3 a4 a5 a6) ?_; cbv))
  all_goals (try (clear hH))
  all_goals subst hκ
  all_goals (try delta kid at *)
  all_goals (try dsimp only at *)
  all_goals (try (exact ⟨trivial⟩))
  all_goals (try (exact ⟨by decide⟩))
  all_goals (try (exact ⟨rfl⟩))
  all_goals (try (refine ⟨?_⟩; have q1 := ahead_le l (floorA a1); have q2 := behind_le l (toI a2); have q3 := within_le l a1 a2; (try simp only [List.length_append, List.length_cons, List.length_nil, List.length_map, and_self, true_or, or_true, eq_self, true_and, and_true, Nat.zero_add, Nat.add_zero]); (first | done | omega); done))
  all_goals (first | exact IsR.nil_ (put_no (l := l) (a := ⟨a1, a2, a3, a4, a5, a6⟩) (by with_reducible assumption)) | exact IsR.nil_ (put_no2 (l := l) (a := ⟨a1, a2, a3, a4, a5, a6⟩) (by with_reducible assumption)) | exact IsR.row_ (put_all (l := l) (a := ⟨a1, a2, a3, a4, a5, a6⟩) (by with_reducible assumption) (by with_reducible assumption) (by with_reducible assumption)) rfl | exact IsR.row_ (put_some (l := l) (a := ⟨a1, a2, a3, a4, a5, a6⟩) (by with_reducible assumption) (by with_reducible assumption) (by with_reducible assumption)) rfl)
def e_put {κ : Kp} (hκ : κ = kid) : ESpec Tryz.prog := lisRES b_put F_put hκ fun l rest p r hF hp A c w hr => by
  unfold F_put at hF
  split at hF
  · rename_i a1 a2 a3 a4 a5 a6
    simp only [kid, Option.some.injEq, Prod.mk.injEq] at hF
    obtain ⟨rfl, rfl⟩ := hF
    exact k_put l a1 a2 a3 a4 a5 a6 hp A c w hr
  · cases hF
end Go.Proofs.YtbcicjmepojlnaaGreat.Eng
/- Pages of lists and lists of pages: what the reference's Of, List, Made come to, page by page; no condition but those typed. -/
namespace Go.Proofs.YtbcicjmepojlnaaGreat.Eng
open Go Go.RowKit
set_option autoImplicit false
set_option linter.unusedSimpArgs false
set_option linter.unusedVariables false
structure GoodAt (t : At) : Prop where
  p0 : 0 ≤ t.p
  p7 : t.p ≤ 7
  b0 : 0 ≤ t.b
  b9 : t.b ≤ 9
  oz : t.b = 0 → t.o = 0
  om : t.b ≠ 0 → t.o % 4096 = 0 ∧ 0 ≤ t.o ∧ t.o ≤ 1099511627776 - 4096
def GoodS (s : List Pg) : Prop := s.length = 512 ∧ ∀ q : Nat, q < 512 → (nthP s q).is = true → 16 ≤ q ∧ GoodAt (nthP s q).t
def PHas (s : List Pg) (x : Int) (t : At) : Prop := ∃ q : Nat, x = 4096 * q ∧ 16 ≤ q ∧ q < 512 ∧ (nthP s q).is = true ∧ (nthP s q).t = t
theorem ext_good {a : Ar} (h : Fo a) {x : Int} (hx : inA a x) (h0 : x % 4096 = 0) : GoodAt (ext a x) := by
  have := h.s0; have := h.e0; have := h.lo; have := h.hi; have h1 := hx.1; have h2 := hx.2
  refine ⟨h.p0, h.p7, h.b0, h.b9, fun hb => if_pos hb, fun hb => ?_⟩
  have hb' : a.b ≠ 0 := hb
  have := h.om hb'
  show offP a x % 4096 = 0 ∧ 0 ≤ offP a x ∧ offP a x ≤ _
  unfold offP
  rw [if_neg hb']
  omega
theorem after_ext {z : Ar} (h : Fo z) {x : Int} (hx : inA z x) (h0 : x % 4096 = 0) {t : At} : afterA (ext z x) t = true ↔ ext z (x + 4096) = t := by
  have := h.s0; have := h.e0; have := h.lo; have := h.hi; have h1 := hx.1; have h2 := hx.2
  rw [after_iff]
  obtain ⟨t1, t2, t3, t4⟩ := t
  show z.p = t1 ∧ z.sh = t2 ∧ z.b = t3 ∧ (if z.b > 0 then w64 (offP z x + 4096) else offP z x) = t4 ↔ ext z (x + 4096) = ⟨t1, t2, t3, t4⟩
  unfold ext
  simp only [At.mk.injEq]
  refine and_congr_right fun _ => and_congr_right fun _ => and_congr_right fun _ => ?_
  have hb0 := h.b0
  by_cases hb : z.b = 0
  · rw [if_neg (by omega)]
    unfold offP
    rw [if_pos hb, if_pos hb]
  · have := h.om hb
    rw [if_pos (by omega)]
    unfold offP
    rw [if_neg hb, if_neg hb, w64_id (by unfold In64; omega)]
    constructor <;> intro h <;> omega
/-! ### List -/
theorem pageAr_fo {m : Nat} (h0 : 16 ≤ m) (h : m < 512) {t : At} (ht : GoodAt t) : Fo (pageAr m t) := by
  unfold pageAr
  exact ⟨by show (4096 * (m : Int)) % 4096 = 0; omega, by show (4096 * ((m : Int) + 1)) % 4096 = 0; omega, by show (65536 : Int) ≤ 4096 * m; omega, by show 4096 * ((m : Int) + 1) ≤ 2097152; omega, by show 4096 * (m : Int) < 4096 * ((m : Int) + 1); omega,
    ht.p0, ht.p7, ht.b0, ht.b9, ht.oz, fun hb => by have := ht.om hb; show t.o % 4096 = 0 ∧ 0 ≤ t.o ∧ t.o ≤ 1099511627776 - (4096 * ((m : Int) + 1) - 4096 * (m : Int)); omega⟩
theorem pageAr_ext {m : Nat} {t : At} (ht : GoodAt t) : ext (pageAr m t) (4096 * m) = t := by
  unfold ext pageAr offP
  obtain ⟨p, sh, b, o⟩ := t
  simp only [At.mk.injEq, true_and]
  split
  · rename_i hb; exact (ht.oz hb).symm
  · omega
theorem listN_spec {s : List Pg} (hs : GoodS s) : ∀ n : Nat, n ≤ 496 → Rt (listN s n) ∧ (∀ a ∈ listN s n, a.e ≤ 4096 * ((16 : Int) + n)) ∧ ∀ x t, x % 4096 = 0 → (Has (listN s n) x t ↔ PHas s x t ∧ x < 4096 * ((16 : Int) + n))
  | 0, _ => ⟨⟨fun a h => (by cases h), List.Pairwise.nil⟩, fun a h => (by cases h), fun x t _ => ⟨fun h => (Has.nil h).elim, fun ⟨⟨q, h1, h2, _⟩, h3⟩ => by exfalso; omega⟩⟩
  | n + 1, hn => by
    obtain ⟨r1, r2, r3⟩ := listN_spec hs n (by omega)
    have key : ∀ x t, PHas s x t ∧ x < 4096 * ((16 : Int) + (n + 1 : Nat)) ↔ (PHas s x t ∧ x < 4096 * ((16 : Int) + n)) ∨ (x = 4096 * ((16 : Int) + n) ∧ (nthP s (16 + n)).is = true ∧ (nthP s (16 + n)).t = t) := by
      intro x t
      constructor
      · rintro ⟨⟨q, h1, h2, h3, h4, h5⟩, h6⟩
        by_cases hq : q = 16 + n
        · subst hq; exact .inr ⟨by omega, h4, h5⟩
        · exact .inl ⟨⟨q, h1, h2, h3, h4, h5⟩, by omega⟩
      · rintro (⟨h1, h2⟩ | ⟨h1, h2, h3⟩)
        · exact ⟨h1, by omega⟩
        · exact ⟨⟨16 + n, by omega, by omega, by omega, h2, h3⟩, by omega⟩
    cases hi : (nthP s (16 + n)).is with
    | false =>
      rw [show listN s (n + 1) = listN s n from step_not hi]
      refine ⟨r1, fun a ha => by have := r2 a ha; omega, fun x t hx => ?_⟩
      rw [r3 x t hx, key, hi]
      exact ⟨.inl, fun h => h.elim id fun h => by have := h.2.1; cases this⟩
    | true =>
      have hg := (hs.2 (16 + n) (by omega) hi).2
      have fnew := pageAr_fo (m := 16 + n) (by omega) (by omega) hg
      have enew := pageAr_ext (m := 16 + n) hg
      have snew : (pageAr (16 + n) (nthP s (16 + n)).t).s = 4096 * ((16 : Int) + n) := by unfold pageAr; simp only; omega
      have enew' : (pageAr (16 + n) (nthP s (16 + n)).t).e = 4096 * ((16 : Int) + (n + 1 : Nat)) := by unfold pageAr; simp only; omega
      have app : (∀ y ∈ listN s n, goesA y (pageAr (16 + n) (nthP s (16 + n)).t) = false) → Rt (listN s n ++ [pageAr (16 + n) (nthP s (16 + n)).t]) ∧ (∀ a ∈ listN s n ++ [pageAr (16 + n) (nthP s (16 + n)).t], a.e ≤ 4096 * ((16 : Int) + (n + 1 : Nat))) ∧ ∀ x t, x % 4096 = 0 → (Has (listN s n ++ [pageAr (16 + n) (nthP s (16 + n)).t]) x t ↔ PHas s x t ∧ x < 4096 * ((16 : Int) + (n + 1 : Nat))) := by
        intro hno
        refine ⟨⟨fun c hc => ?_, List.pairwise_append.2 ⟨r1.2, List.pairwise_singleton _ _, fun y hy c hc => ?_⟩⟩, fun c hc => ?_, fun x t hx => ?_⟩
        · rcases List.mem_append.1 hc with h | h
          · exact r1.1 c h
          · rw [List.mem_singleton.1 h]; exact fo.2 fnew
        · rw [List.mem_singleton.1 hc, snew]
          exact ⟨r2 y hy, hno y hy⟩
        · rcases List.mem_append.1 hc with h | h
          · have := r2 c h; omega
          · rw [List.mem_singleton.1 h, enew']; exact Int.le_refl _
        · rw [has_app, has_one, r3 x t hx, key]
          refine or_congr_right ?_
          unfold inA
          rw [snew, enew']
          constructor
          · rintro ⟨⟨h1, h2⟩, h3⟩
            have : x = 4096 * ((16 : Int) + n) := by omega
            refine ⟨this, hi, ?_⟩
            rw [← h3, this, show 4096 * ((16 : Int) + n) = 4096 * ((16 + n : Nat) : Int) by omega, enew]
          · rintro ⟨h1, h2, h3⟩
            refine ⟨by omega, ?_⟩
            rw [h1, show 4096 * ((16 : Int) + n) = 4096 * ((16 + n : Nat) : Int) by omega, enew, h3]
      show Rt (listStep s (listN s n) (16 + n)) ∧ (∀ a ∈ listStep s (listN s n) (16 + n), _) ∧ ∀ x t, x % 4096 = 0 → (Has (listStep s (listN s n) (16 + n)) x t ↔ _)
      unfold listStep
      rw [if_pos hi]
      split
      · rename_i hl
        have hnil : listN s n = [] := List.getLast?_eq_none_iff.1 hl
        have := app (by rw [hnil]; intro y hy; cases hy)
        rw [hnil] at this
        exact this
      · rename_i z hl
        obtain ⟨d, hd⟩ := List.getLast?_eq_some_iff.1 hl
        have hz : z ∈ listN s n := by rw [hd]; exact List.mem_append.2 (.inr (List.mem_singleton.2 rfl))
        have fz := fo.1 (r1.1 z hz)
        have hze := r2 z hz
        have := fz.lt; have := fz.s0; have := fz.e0; have := fz.lo
        -- its last page
        have hlast : z.e = 4096 * ((16 : Int) + n) → (nthP s (16 + n - 1)).t = ext z (z.e - 4096) ∧ (nthP s (16 + n - 1)).is = true := by
          intro he
          have h1 : Has (listN s n) (z.e - 4096) (ext z (z.e - 4096)) := ⟨z, hz, ⟨by omega, by omega⟩, rfl⟩
          obtain ⟨⟨q, q1, q2, q3, q4, q5⟩, _⟩ := (r3 _ _ (by omega)).1 h1
          have : q = 16 + n - 1 := by omega
          subst this
          exact ⟨q5, q4⟩
        have hgo : goesOn s z (16 + n) = true ↔ z.e = 4096 * ((16 : Int) + n) ∧ ext z z.e = (nthP s (16 + n)).t := by
          unfold goesOn
          rw [Bool.and_eq_true, beq_iff_eq]
          constructor
          · rintro ⟨h1, h2⟩
            have h1' : z.e = 4096 * ((16 : Int) + n) := by omega
            rw [(hlast h1').1, after_ext fz ⟨by omega, by omega⟩ (by omega), show z.e - 4096 + 4096 = z.e by omega] at h2
            exact ⟨h1', h2⟩
          · rintro ⟨h1, h2⟩
            refine ⟨by omega, ?_⟩
            rw [(hlast h1).1, after_ext fz ⟨by omega, by omega⟩ (by omega), show z.e - 4096 + 4096 = z.e by omega]
            exact h2
        split
        · rename_i hgt
          obtain ⟨g1, g2⟩ := hgo.1 hgt
          have pd := List.pairwise_append.1 (hd ▸ r1.2)
          rw [hd, show (d ++ [z]).dropLast = d by simp]
          have fz' : Fo { z with e := 4096 * (((16 + n : Nat) : Int) + 1) } := by
            refine ⟨fz.s0, by show (4096 * (((16 + n : Nat) : Int) + 1)) % 4096 = 0; omega, fz.lo, by show 4096 * (((16 + n : Nat) : Int) + 1) ≤ 2097152; omega, by show z.s < 4096 * (((16 + n : Nat) : Int) + 1); omega, fz.p0, fz.p7, fz.b0, fz.b9, fz.oz, fun hb => ?_⟩
            have hb' : z.b ≠ 0 := hb
            have h1 := fz.om hb'
            have h2 : (nthP s (16 + n)).t.o = z.o + z.e - z.s := by rw [← g2]; unfold ext offP; simp only; rw [if_neg hb']
            have h3 : (nthP s (16 + n)).t.b = z.b := by rw [← g2]; rfl
            have h4 := hg.om (by rw [h3]; exact hb')
            show z.o % 4096 = 0 ∧ 0 ≤ z.o ∧ z.o ≤ 1099511627776 - (4096 * (((16 + n : Nat) : Int) + 1) - z.s)
            omega
          have hx' : ∀ x, ext { z with e := 4096 * (((16 + n : Nat) : Int) + 1) } x = ext z x := fun x => rfl
          refine ⟨⟨fun c hc => ?_, List.pairwise_append.2 ⟨pd.1, List.pairwise_singleton _ _, fun y hy c hc => ?_⟩⟩, fun c hc => ?_, fun x t hx => ?_⟩
          · rcases List.mem_append.1 hc with h | h
            · exact r1.1 c (by rw [hd]; exact List.mem_append.2 (.inl h))
            · rw [List.mem_singleton.1 h]; exact fo.2 fz'
          · rw [List.mem_singleton.1 hc]
            obtain ⟨h1, h2⟩ := pd.2.2 y hy z (List.mem_singleton.2 rfl)
            refine ⟨h1, ?_⟩
            cases hg' : goesA y { z with e := 4096 * (((16 + n : Nat) : Int) + 1) } with
            | false => rfl
            | true =>
              obtain ⟨k1, _, k3, k4⟩ := goes_ext.1 hg'
              have : goesA y z = true := goes_ext.2 ⟨k1, fz, k3, k4⟩
              rw [h2] at this
              cases this
          · rcases List.mem_append.1 hc with h | h
            · have := r2 c (by rw [hd]; exact List.mem_append.2 (.inl h)); omega
            · rw [List.mem_singleton.1 h]
              show 4096 * (((16 + n : Nat) : Int) + 1) ≤ 4096 * ((16 : Int) + (n + 1 : Nat))
              omega
          · have e1 := r3 x t hx
            rw [hd, has_app, has_one] at e1
            rw [has_app, has_one, key, ← e1, or_assoc]
            refine or_congr_right ?_
            unfold inA
            show (z.s ≤ x ∧ x < 4096 * (((16 + n : Nat) : Int) + 1)) ∧ ext z x = t ↔ _
            constructor
            · rintro ⟨⟨h1, h2⟩, h3⟩
              by_cases hxe : x < z.e
              · exact .inl ⟨⟨h1, hxe⟩, h3⟩
              · have : x = z.e := by omega
                exact .inr ⟨by omega, hi, by rw [← g2, ← this, h3]⟩
            · rintro (⟨⟨h1, h2⟩, h3⟩ | ⟨h1, h2, h3⟩)
              · exact ⟨⟨h1, by omega⟩, h3⟩
              · exact ⟨⟨by omega, by omega⟩, by rw [h1, ← g1, g2, h3]⟩
        · rename_i hgf
          refine app fun y hy => ?_
          cases hg' : goesA y (pageAr (16 + n) (nthP s (16 + n)).t) with
          | false => rfl
          | true =>
            exfalso
            obtain ⟨k1, _, k3, k4⟩ := goes_ext.1 hg'
            rw [snew] at k3 k4
            rw [hd] at hy
            rcases List.mem_append.1 hy with h | h
            · have pd := List.pairwise_append.1 (hd ▸ r1.2)
              have := (pd.2.2 y h z (List.mem_singleton.2 rfl)).1
              omega
            · rw [List.mem_singleton.1 h] at k3 k4
              refine hgf (hgo.2 ⟨k3, ?_⟩)
              rw [k4, show 4096 * ((16 : Int) + n) = 4096 * ((16 + n : Nat) : Int) by omega, enew]
theorem listS_spec {s : List Pg} (hs : GoodS s) : Rt (listS s) ∧ ∀ x t, x % 4096 = 0 → (Has (listS s) x t ↔ PHas s x t) := by
  obtain ⟨h1, _, h3⟩ := listN_spec hs 496 (Nat.le_refl _)
  refine ⟨h1, fun x t hx => (h3 x t hx).trans ⟨fun h => h.1, fun h => ⟨h, ?_⟩⟩⟩
  obtain ⟨q, h4, _, h5, _⟩ := h
  omega
end Go.Proofs.YtbcicjmepojlnaaGreat.Eng
/- Cuts, puts, sets, parts of right lists, page by page; no condition but those typed. -/
namespace Go.Proofs.YtbcicjmepojlnaaGreat.Eng
open Go Go.RowKit
set_option autoImplicit false
set_option linter.unusedSimpArgs false
set_option linter.unusedVariables false
theorem floorA_eq' {n : Int} (h : In64 n) : floorA n = n - n % 4096 := by
  unfold In64 at h
  unfold floorA
  rcases (by omega : n < 0 ∨ 0 ≤ n) with h0 | h0
  · rw [tmod_neg h0, w64_id (n := -(-n % 4096) + 4096) (by unfold In64; omega), tmod_pos (by omega), w64_id (by unfold In64; omega)]
    omega
  · rw [tmod_pos h0, w64_id (n := n % 4096 + 4096) (by unfold In64; omega), tmod_pos (by omega), w64_id (by unfold In64; omega)]
    omega
theorem toI_eq {hi : Int} (h : In64 hi) : (hi < 2097152 → toI hi = hi + (-hi) % 4096) ∧ (¬ hi < 2097152 → toI hi = hi) := by
  unfold In64 at h
  unfold toI
  constructor
  · intro h1
    rw [if_pos h1]
    by_cases hm : hi = -9223372036854775808
    · subst hm
      decide +kernel
    · rw [w64_id (n := 0 - hi) (by unfold In64; omega), floorA_eq' (by unfold In64; omega), w64_id (by unfold In64; omega)]
      have : (0 - hi) = -hi := by omega
      rw [this]
      omega
  · intro h1
    rw [if_neg h1]
/-! ### Parts -/
structure SubA (a' a : Ar) : Prop where
  fo : Fo a'
  s : a.s ≤ a'.s
  e : a'.e ≤ a.e
  x : ∀ x, ext a' x = ext a x
theorem part_spec {a : Ar} (h : Fo a) (lo hi : Int) : (hasPart a lo hi = true → SubA (partA a lo hi) a ∧ ∀ x, x % 4096 = 0 → (inA (partA a lo hi) x ↔ inA a x ∧ Touch x lo hi)) ∧ (hasPart a lo hi = false → ∀ x, x % 4096 = 0 → inA a x → ¬ Touch x lo hi) := by
  have := h.s0; have := h.e0; have := h.lo; have := h.hi; have := h.lt
  by_cases hc : hi ≤ a.s ∨ lo ≥ a.e ∨ lo ≥ hi
  · have hno : hasPart a lo hi = false := by
      unfold hasPart
      rw [if_pos]
      simp only [Bool.or_eq_true, Bool.not_eq_true', decide_eq_true_eq]
      omega
    refine ⟨fun hp => (by rw [hno] at hp; cases hp), fun _ x hx hin ht => ?_⟩
    have := hin.1; have := hin.2; have := ht.1; have := ht.2.1; have := ht.2.2
    omega
  · have hfm := fo.2 h
    have e1 : fromA a lo = maxI a.s (maxI lo 0 - maxI lo 0 % 4096) := by
      unfold fromA
      rw [floorA_eq' (by unfold maxI In64; split <;> omega)]
    have e2 : toA a hi = minI a.e (if hi > 2097152 then 2097152 else hi + (-hi) % 4096) := by
      unfold toA
      by_cases h2 : hi > 2097152
      · rw [if_pos h2]
        unfold ceilA
        rw [if_pos h2]
      · rw [if_neg h2, ceilA_eq (by omega) (by omega)]
    have hp : hasPart a lo hi = decide (fromA a lo < toA a hi) := by
      have hb : (!formed a || decide (hi ≤ a.s) || decide (lo ≥ a.e) || decide (lo ≥ hi)) = false := by
        have d1 : decide (hi ≤ a.s) = false := decide_eq_false (by omega)
        have d2 : decide (lo ≥ a.e) = false := decide_eq_false (by omega)
        have d3 : decide (lo ≥ hi) = false := decide_eq_false (by omega)
        rw [hfm, d1, d2, d3]
        rfl
      unfold hasPart
      rw [hb, if_neg (by simp), Bool.eq_iff_iff]
      simp only [Bool.not_eq_true', decide_eq_false_iff_not, decide_eq_true_eq]
      omega
    have hin : ∀ x, x % 4096 = 0 → (fromA a lo ≤ x ∧ x < toA a hi ↔ inA a x ∧ Touch x lo hi) := by
      intro x hx
      rw [e1, e2]
      unfold inA Touch maxI minI
      constructor
      · intro hh
        revert hh
        repeat' split
        all_goals omega
      · intro hh
        revert hh
        repeat' split
        all_goals omega
    refine ⟨fun hp' => ?_, fun hp' x hx hi' ht => ?_⟩
    · rw [hp] at hp'
      have hlt := of_decide_eq_true hp'
      have f1 : a.s ≤ fromA a lo := by rw [e1]; unfold maxI; split <;> omega
      have f2 : toA a hi ≤ a.e := by rw [e2]; unfold minI; split <;> omega
      have f3 : fromA a lo % 4096 = 0 := by rw [e1]; unfold maxI; repeat' split
                                            all_goals omega
      have f4 : toA a hi % 4096 = 0 := by rw [e2]; unfold minI; repeat' split
                                          all_goals omega
      have hpa : partA a lo hi = ⟨fromA a lo, toA a hi, a.p, a.sh, a.b, offA a (fromA a lo)⟩ := by
        unfold partA
        rw [if_pos (by rw [hp]; exact hp')]
      rw [hpa]
      refine ⟨⟨fo.1 (formed_sub hfm f1 hlt f2 f3 f4), f1, f2, fun x => ?_⟩, hin⟩
      unfold ext
      simp only [At.mk.injEq, true_and]
      unfold offP
      simp only
      split
      · rfl
      · rename_i hb
        rw [offA_eq hfm (by omega) (by omega), if_neg hb]
        omega
    · rw [hp] at hp'
      have := (hin x hx).2 ⟨hi', ht⟩
      have := of_decide_eq_false hp'
      omega
def Parts (f : Ar → List Ar) (P : Int → Prop) : Prop := ∀ a, Fo a → (f a = [] ∨ ∃ a', f a = [a'] ∧ SubA a' a) ∧ ∀ x, x % 4096 = 0 → ((∃ a' ∈ f a, inA a' x) ↔ inA a x ∧ P x)
theorem parts_mem {f : Ar → List Ar} {P : Int → Prop} (hf : Parts f P) {a a' : Ar} (ha : Fo a) (h : a' ∈ f a) : SubA a' a := by
  rcases (hf a ha).1 with e | ⟨b, e, hs⟩
  · rw [e] at h; cases h
  · rw [e] at h; rw [List.mem_singleton.1 h]; exact hs
theorem parts_has {f : Ar → List Ar} {P : Int → Prop} (hf : Parts f P) {l : List Ar} (hl : Fm l) {x : Int} {t : At} (hx : x % 4096 = 0) : Has (l.flatMap f) x t ↔ Has l x t ∧ P x := by
  rw [has_flat]
  constructor
  · rintro ⟨a, ha, a', h1, h2, h3⟩
    have fa := fo.1 (hl a ha)
    obtain ⟨g1, g2⟩ := ((hf a fa).2 x hx).1 ⟨a', h1, h2⟩
    exact ⟨⟨a, ha, g1, by rw [← (parts_mem hf fa h1).x]; exact h3⟩, g2⟩
  · rintro ⟨⟨a, ha, h1, h2⟩, hp⟩
    have fa := fo.1 (hl a ha)
    obtain ⟨a', g1, g2⟩ := ((hf a fa).2 x hx).2 ⟨h1, hp⟩
    exact ⟨a, ha, a', g1, g2, by rw [(parts_mem hf fa g1).x]; exact h2⟩
theorem parts_fm {f : Ar → List Ar} {P : Int → Prop} (hf : Parts f P) {l : List Ar} (hl : Fm l) : Fm (l.flatMap f) := fun b hb => by
  obtain ⟨a, ha, h⟩ := List.mem_flatMap.1 hb
  exact fo.2 (parts_mem hf (fo.1 (hl a ha)) h).fo
theorem parts_one {f : Ar → List Ar} {P : Int → Prop} (hf : Parts f P) {R : Ar → Ar → Prop} {l : List Ar} (hl : Fm l) : ∀ a ∈ l, (f a).Pairwise R := fun a ha => by
  rcases (hf a (fo.1 (hl a ha))).1 with e | ⟨b, e, _⟩
  · rw [e]; exact List.Pairwise.nil
  · rw [e]; exact List.pairwise_singleton _ _
theorem parts_ok {f : Ar → List Ar} {P : Int → Prop} (hf : Parts f P) {l : List Ar} (hl : Ok l) : Ok (l.flatMap f) := by
  refine ⟨parts_fm hf hl.1, List.pairwise_flatMap.2 ⟨parts_one hf hl.1, ?_⟩⟩
  refine List.Pairwise.imp_of_mem ?_ hl.2
  intro a b ha hb hab a' ha' b' hb'
  have h1 := parts_mem hf (fo.1 (hl.1 a ha)) ha'
  have h2 := parts_mem hf (fo.1 (hl.1 b hb)) hb'
  have := h1.e; have := h2.s
  omega
theorem parts_rt {f : Ar → List Ar} {P : Int → Prop} (hf : Parts f P) {l : List Ar} (hl : Rt l) : Rt (l.flatMap f) := by
  refine ⟨parts_fm hf hl.1, List.pairwise_flatMap.2 ⟨parts_one hf hl.1, ?_⟩⟩
  refine List.Pairwise.imp_of_mem ?_ hl.2
  intro a b ha hb hab a' ha' b' hb'
  have fa := fo.1 (hl.1 a ha)
  have fb := fo.1 (hl.1 b hb)
  have h1 := parts_mem hf fa ha'
  have h2 := parts_mem hf fb hb'
  have e1 := h1.e; have e2 := h2.s; have e3 := hab.1
  refine ⟨by omega, ?_⟩
  cases hg : goesA a' b' with
  | false => rfl
  | true =>
    obtain ⟨_, _, k3, k4⟩ := goes_ext.1 hg
    have : goesA a b = true := goes_ext.2 ⟨fa, fb, by omega, by
      have q1 : a'.e = a.e := by omega
      have q2 : b'.s = b.s := by omega
      rw [h1.x, h2.x, q1, q2] at k4
      exact k4⟩
    rw [hab.2] at this
    cases this
theorem parts_in {f : Ar → List Ar} {P : Int → Prop} (hf : Parts f P) {l : List Ar} (hl : Fm l) {b : Ar} (hb : b ∈ l.flatMap f) : Fo b ∧ P b.s ∧ P (b.e - 4096) := by
  obtain ⟨a, ha, h⟩ := List.mem_flatMap.1 hb
  have fa := fo.1 (hl a ha)
  have hs := parts_mem hf fa h
  have := hs.fo.lt; have := hs.fo.s0; have := hs.fo.e0
  exact ⟨hs.fo, (((hf a fa).2 b.s hs.fo.s0).1 ⟨b, h, by omega, by omega⟩).2, (((hf a fa).2 (b.e - 4096) (by omega)).1 ⟨b, h, by omega, by omega⟩).2⟩
theorem within_parts (lo hi : Int) : Parts (partL lo hi) (fun x => Touch x lo hi) := by
  intro a ha
  obtain ⟨h1, h2⟩ := part_spec ha lo hi
  unfold partL
  cases hp : hasPart a lo hi with
  | true =>
    obtain ⟨g1, g2⟩ := h1 hp
    rw [if_pos rfl]
    refine ⟨.inr ⟨_, rfl, g1⟩, fun x hx => ?_⟩
    rw [← g2 x hx]
    exact ⟨fun ⟨a', h, k⟩ => by rw [List.mem_singleton.1 h] at k; exact k, fun h => ⟨_, List.mem_singleton.2 rfl, h⟩⟩
  | false =>
    rw [if_neg (by simp)]
    exact ⟨.inl rfl, fun x hx => ⟨fun ⟨a', h, _⟩ => (by cases h), fun ⟨k1, k2⟩ => (h2 hp x hx k1 k2).elim⟩⟩
theorem ahead_parts {f : Int} (h0 : f % 4096 = 0) : Parts (aheadA f) (fun x => x < f) := by
  intro a ha
  have := ha.s0; have := ha.e0; have := ha.lo; have := ha.hi; have := ha.lt
  obtain ⟨h1, h2⟩ := part_spec ha 65536 (maxI f 65536)
  unfold aheadA
  by_cases hs : f > a.s
  · have hm : maxI f 65536 = f := by unfold maxI; rw [if_neg (by omega)]
    rw [hm] at h1 h2 ⊢
    have hd : decide (f > a.s) = true := by simpa using hs
    rw [hd, Bool.and_true]
    cases hp : hasPart a 65536 f with
    | true =>
      obtain ⟨g1, g2⟩ := h1 hp
      rw [if_pos rfl]
      refine ⟨.inr ⟨_, rfl, g1⟩, fun x hx => ?_⟩
      have : (∃ a' ∈ [partA a 65536 f], inA a' x) ↔ inA (partA a 65536 f) x := ⟨fun ⟨a', h, k⟩ => by rw [List.mem_singleton.1 h] at k; exact k, fun h => ⟨_, List.mem_singleton.2 rfl, h⟩⟩
      rw [this, g2 x hx]
      unfold Touch inA
      omega
    | false =>
      rw [if_neg (by simp)]
      refine ⟨.inl rfl, fun x hx => ⟨fun ⟨a', h, _⟩ => (by cases h), fun ⟨k1, k2⟩ => (h2 hp x hx k1 ?_).elim⟩⟩
      have := k1.1
      unfold Touch
      omega
  · have hd : decide (f > a.s) = false := by simpa using hs
    rw [hd, Bool.and_false, if_neg (by simp)]
    refine ⟨.inl rfl, fun x hx => ⟨fun ⟨a', h, _⟩ => (by cases h), fun ⟨k1, k2⟩ => ?_⟩⟩
    have := k1.1
    omega
theorem behind_parts {g : Int} (h0 : g % 4096 = 0 ∨ 2097152 ≤ g) : Parts (behindA g) (fun x => g ≤ x) := by
  intro a ha
  have := ha.s0; have := ha.e0; have := ha.lo; have := ha.hi; have := ha.lt
  obtain ⟨h1, h2⟩ := part_spec ha (maxI g 65536) 2097152
  unfold behindA
  by_cases hs : g < a.e
  · have hm : ∀ x, inA a x → x % 4096 = 0 → (Touch x (maxI g 65536) 2097152 ↔ g ≤ x) := by
      intro x hx hx0
      have := hx.1; have := hx.2
      unfold Touch maxI
      split <;> omega
    have hd : decide (g < a.e) = true := by simpa using hs
    rw [hd, Bool.and_true]
    cases hp : hasPart a (maxI g 65536) 2097152 with
    | true =>
      obtain ⟨g1, g2⟩ := h1 hp
      rw [if_pos rfl]
      refine ⟨.inr ⟨_, rfl, g1⟩, fun x hx => ?_⟩
      have : (∃ a' ∈ [partA a (maxI g 65536) 2097152], inA a' x) ↔ inA (partA a (maxI g 65536) 2097152) x := ⟨fun ⟨a', h, k⟩ => by rw [List.mem_singleton.1 h] at k; exact k, fun h => ⟨_, List.mem_singleton.2 rfl, h⟩⟩
      rw [this, g2 x hx]
      exact ⟨fun ⟨k1, k2⟩ => ⟨k1, (hm x k1 hx).1 k2⟩, fun ⟨k1, k2⟩ => ⟨k1, (hm x k1 hx).2 k2⟩⟩
    | false =>
      rw [if_neg (by simp)]
      exact ⟨.inl rfl, fun x hx => ⟨fun ⟨a', h, _⟩ => (by cases h), fun ⟨k1, k2⟩ => (h2 hp x hx k1 ((hm x k1 hx).2 k2)).elim⟩⟩
  · have hd : decide (g < a.e) = false := by simpa using hs
    rw [hd, Bool.and_false, if_neg (by simp)]
    refine ⟨.inl rfl, fun x hx => ⟨fun ⟨a', h, _⟩ => (by cases h), fun ⟨k1, k2⟩ => ?_⟩⟩
    have := k1.2
    omega
/-! ### Cut, Put, Set -/
theorem touch_iff {x lo hi : Int} (hlo : In64 lo) (hhi : In64 hi) (hx : x % 4096 = 0) (hr : 65536 ≤ x ∧ x < 2097152) (h : lo < hi) : (x < floorA lo ∨ toI hi ≤ x) ↔ ¬ Touch x lo hi := by
  rw [floorA_eq' hlo]
  obtain ⟨h1, h2⟩ := toI_eq hhi
  unfold Touch
  by_cases hc : hi < 2097152
  · rw [h1 hc]; omega
  · rw [h2 hc]; omega
theorem floor0 {lo : Int} (h : In64 lo) : floorA lo % 4096 = 0 := by rw [floorA_eq' h]; omega
theorem to0 {hi : Int} (h : In64 hi) : toI hi % 4096 = 0 ∨ 2097152 ≤ toI hi := by
  obtain ⟨h1, h2⟩ := toI_eq h
  by_cases hc : hi < 2097152
  · rw [h1 hc]; omega
  · rw [h2 hc]; omega
theorem floor_lt_to {lo hi : Int} (hlo : In64 lo) (hhi : In64 hi) (h : lo < hi) : floorA lo < toI hi := by
  rw [floorA_eq' hlo]
  obtain ⟨h1, h2⟩ := toI_eq hhi
  by_cases hc : hi < 2097152
  · rw [h1 hc]; omega
  · rw [h2 hc]; omega
theorem three_ok {l m : List Ar} (hl : Ok l) {f g : Int} (hf : f % 4096 = 0) (hg : g % 4096 = 0 ∨ 2097152 ≤ g) (hfg : f ≤ g) (hm : Ok m) (hm2 : ∀ b ∈ m, f ≤ b.s ∧ (b.e ≤ g)) : Ok (aheadL l f ++ m ++ behindL l g) := by
  have pa := ahead_parts hf
  have pb := behind_parts hg
  have oa := parts_ok pa hl
  have ob := parts_ok pb hl
  have ea : ∀ b ∈ aheadL l f, b.e ≤ f := fun b hb => by
    obtain ⟨h1, _, h3⟩ := parts_in pa hl.1 hb
    have := h1.e0
    omega
  have eb : ∀ b ∈ behindL l g, g ≤ b.s := fun b hb => (parts_in pb hl.1 hb).2.1
  refine ⟨fun b hb => ?_, List.pairwise_append.2 ⟨List.pairwise_append.2 ⟨oa.2, hm.2, fun y hy z hz => ?_⟩, ob.2, fun y hy z hz => ?_⟩⟩
  · rcases List.mem_append.1 hb with h | h
    · rcases List.mem_append.1 h with h | h
      · exact oa.1 b h
      · exact hm.1 b h
    · exact ob.1 b h
  · have := ea y hy
    have := (hm2 z hz).1
    omega
  · have := eb z hz
    rcases List.mem_append.1 hy with h | h
    · have := ea y h; omega
    · have := (hm2 y h).2; omega
theorem has_ahead {l : List Ar} (hl : Fm l) {f : Int} (hf : f % 4096 = 0) {x : Int} {t : At} (hx : x % 4096 = 0) : Has (aheadL l f) x t ↔ Has l x t ∧ x < f := parts_has (ahead_parts hf) hl hx
theorem has_behind {l : List Ar} (hl : Fm l) {g : Int} (hg : g % 4096 = 0 ∨ 2097152 ≤ g) {x : Int} {t : At} (hx : x % 4096 = 0) : Has (behindL l g) x t ↔ Has l x t ∧ g ≤ x := parts_has (behind_parts hg) hl hx
theorem has_within {l : List Ar} (hl : Fm l) {lo hi x : Int} {t : At} (hx : x % 4096 = 0) : Has (withinL l lo hi) x t ↔ Has l x t ∧ Touch x lo hi := parts_has (within_parts lo hi) hl hx
theorem cut_spec {l : List Ar} (hl : Rt l) {lo hi : Int} (hlo : In64 lo) (hhi : In64 hi) : Rt (cutL l lo hi) ∧ ∀ x t, x % 4096 = 0 → (Has (cutL l lo hi) x t ↔ Has l x t ∧ ¬ Touch x lo hi) := by
  unfold cutL
  rw [if_pos (rt_iff.2 hl)]
  by_cases h : lo ≥ hi
  · unfold aroundA aroundB
    rw [if_pos h, if_pos h, List.append_nil]
    exact ⟨hl, fun x t hx => ⟨fun h1 => ⟨h1, fun h2 => by have := h2.1; omega⟩, fun h1 => h1.1⟩⟩
  · have hlt : lo < hi := by omega
    unfold aroundA aroundB
    rw [if_neg h, if_neg h]
    have hf := floor0 hlo
    have hg := to0 hhi
    have hfg := floor_lt_to hlo hhi hlt
    have ra := parts_rt (ahead_parts hf) hl
    have rb := parts_rt (behind_parts hg) hl
    refine ⟨⟨fun b hb => ?_, List.pairwise_append.2 ⟨ra.2, rb.2, fun y hy z hz => ?_⟩⟩, fun x t hx => ?_⟩
    · rcases List.mem_append.1 hb with h | h
      · exact ra.1 b h
      · exact rb.1 b h
    · obtain ⟨h1, _, h3⟩ := parts_in (ahead_parts hf) hl.1 hy
      have h4 := (parts_in (behind_parts hg) hl.1 hz).2.1
      have := h1.e0
      refine ⟨by omega, ?_⟩
      cases hgo : goesA y z with
      | false => rfl
      | true => have := (goes_ext.1 hgo).2.2.1; omega
    · rw [has_app, has_ahead hl.1 hf hx, has_behind hl.1 hg hx, ← and_or_left]
      exact ⟨fun ⟨h1, h2⟩ => ⟨h1, (touch_iff hlo hhi hx (has_range hl.1 h1) hlt).1 h2⟩, fun ⟨h1, h2⟩ => ⟨h1, (touch_iff hlo hhi hx (has_range hl.1 h1) hlt).2 h2⟩⟩
theorem fo_in {a : Ar} (h : Fo a) : In64 a.s ∧ In64 a.e := by
  have := h.lo; have := h.hi; have := h.lt
  unfold In64
  omega
theorem put_spec {l : List Ar} (hl : Rt l) {a : Ar} (ha : Fo a) : Rt (putL l a) ∧ ∀ x t, x % 4096 = 0 → (Has (putL l a) x t ↔ (inA a x ∧ ext a x = t) ∨ (Has l x t ∧ ¬ inA a x)) := by
  have hs := (fo_in ha).1
  have he := (fo_in ha).2
  have := ha.lt; have := ha.s0; have := ha.e0; have := ha.hi
  have hfs : floorA a.s = a.s := by rw [floorA_eq' hs]; omega
  have hte : toI a.e = a.e := by
    obtain ⟨h1, h2⟩ := toI_eq he
    by_cases hc : a.e < 2097152
    · rw [h1 hc]; omega
    · exact h2 hc
  unfold putL
  rw [rt_iff.2 hl, fo.2 ha, Bool.and_true, if_pos rfl]
  unfold aroundA aroundB
  rw [if_neg (by omega), if_neg (by omega)]
  have ok := three_ok (m := [a]) hl.ok (floor0 hs) (to0 he) (by omega) ⟨fun b hb => by rw [List.mem_singleton.1 hb]; exact fo.2 ha, List.pairwise_singleton _ _⟩ (fun b hb => by rw [List.mem_singleton.1 hb]; omega)
  obtain ⟨j1, j2⟩ := joined_rt ok
  refine ⟨j1, fun x t hx => ?_⟩
  rw [j2, has_app, has_app, has_one, has_ahead hl.1 (floor0 hs) hx, has_behind hl.1 (to0 he) hx, hfs, hte]
  unfold inA
  constructor
  · rintro ((⟨h1, h2⟩ | h1) | ⟨h1, h2⟩)
    · exact .inr ⟨h1, by omega⟩
    · exact .inl h1
    · exact .inr ⟨h1, by omega⟩
  · rintro (h1 | ⟨h1, h2⟩)
    · exact .inl (.inr h1)
    · by_cases hxs : x < a.s
      · exact .inl (.inl ⟨h1, hxs⟩)
      · exact .inr ⟨h1, by omega⟩
def setT (p : Int) (t : At) : At := { t with p := p }
theorem setA_ext (p : Int) (a : Ar) (x : Int) : ext (setA p a) x = setT p (ext a x) := rfl
theorem setA_fo {p : Int} (h0 : 0 ≤ p) (h7 : p ≤ 7) {a : Ar} (h : Fo a) : Fo (setA p a) := ⟨h.s0, h.e0, h.lo, h.hi, h.lt, h0, h7, h.b0, h.b9, h.oz, h.om⟩
theorem has_set (p : Int) (l : List Ar) (x : Int) (t : At) : Has (l.map (setA p)) x t ↔ ∃ t0, Has l x t0 ∧ t = setT p t0 := by
  unfold Has
  constructor
  · rintro ⟨b, hb, h1, h2⟩
    obtain ⟨a, ha, rfl⟩ := List.mem_map.1 hb
    exact ⟨ext a x, ⟨a, ha, h1, rfl⟩, by rw [← h2, setA_ext]⟩
  · rintro ⟨t0, ⟨a, ha, h1, h2⟩, h3⟩
    exact ⟨setA p a, List.mem_map.2 ⟨a, ha, rfl⟩, h1, by rw [setA_ext, h2, h3]⟩
theorem set_ok {p : Int} (h0 : 0 ≤ p) (h7 : p ≤ 7) {l : List Ar} (h : Ok l) : Ok (l.map (setA p)) := by
  refine ⟨fun b hb => ?_, List.pairwise_map.2 h.2⟩
  obtain ⟨a, ha, rfl⟩ := List.mem_map.1 hb
  exact fo.2 (setA_fo h0 h7 (fo.1 (h.1 a ha)))
theorem set_spec {l : List Ar} (hl : Rt l) {lo hi p : Int} (hlo : In64 lo) (hhi : In64 hi) (h0 : 0 ≤ p) (h7 : p ≤ 7) : Rt (setL l lo hi p) ∧ ∀ x t, x % 4096 = 0 → (Has (setL l lo hi p) x t ↔ (Has l x t ∧ ¬ Touch x lo hi) ∨ ∃ t0, (Has l x t0 ∧ Touch x lo hi) ∧ t = setT p t0) := by
  unfold setL
  rw [rt_iff.2 hl, if_neg (by simp only [Bool.not_true, Bool.false_or, Bool.or_eq_true, decide_eq_true_eq]; omega)]
  by_cases h : lo ≥ hi
  · unfold aroundA aroundB midL
    rw [if_pos h, if_pos h, if_neg (by omega), List.append_nil, List.append_nil]
    obtain ⟨j1, j2⟩ := joined_rt hl.ok
    refine ⟨j1, fun x t hx => (j2 x t).trans ⟨fun h1 => .inl ⟨h1, fun h2 => by have := h2.1; omega⟩, ?_⟩⟩
    rintro (h1 | ⟨t0, ⟨_, h2⟩, _⟩)
    · exact h1.1
    · have := h2.1; omega
  · have hlt : lo < hi := by omega
    unfold aroundA aroundB midL
    rw [if_neg h, if_neg h, if_pos hlt]
    have hf := floor0 hlo
    have hg := to0 hhi
    have hfg := floor_lt_to hlo hhi hlt
    have ow := set_ok h0 h7 (parts_ok (within_parts lo hi) hl.ok)
    have ok := three_ok (m := (withinL l lo hi).map (setA p)) hl.ok hf hg (by omega) ow (fun b hb => by
      obtain ⟨a, ha, rfl⟩ := List.mem_map.1 hb
      obtain ⟨f1, f2, f3⟩ := parts_in (within_parts lo hi) hl.1 ha
      have := f1.s0; have := f1.e0; have := f1.lo; have := f1.hi; have := f1.lt
      show floorA lo ≤ a.s ∧ a.e ≤ toI hi
      have k1 := touch_iff hlo hhi f1.s0 (by omega) hlt
      have k2 := touch_iff hlo hhi (x := a.e - 4096) (by omega) (by omega) hlt
      have n1 : ¬ (a.s < floorA lo ∨ toI hi ≤ a.s) := fun hh => k1.1 hh f2
      have n2 : ¬ (a.e - 4096 < floorA lo ∨ toI hi ≤ a.e - 4096) := fun hh => k2.1 hh f3
      have := to0 hhi
      omega)
    obtain ⟨j1, j2⟩ := joined_rt ok
    refine ⟨j1, fun x t hx => ?_⟩
    rw [j2, has_app, has_app, has_set, has_ahead hl.1 hf hx, has_behind hl.1 hg hx]
    constructor
    · rintro ((⟨h1, h2⟩ | ⟨t0, h1, h2⟩) | ⟨h1, h2⟩)
      · exact .inl ⟨h1, (touch_iff hlo hhi hx (has_range hl.1 h1) hlt).1 (.inl h2)⟩
      · exact .inr ⟨t0, (has_within hl.1 hx).1 h1, h2⟩
      · exact .inl ⟨h1, (touch_iff hlo hhi hx (has_range hl.1 h1) hlt).1 (.inr h2)⟩
    · rintro (⟨h1, h2⟩ | ⟨t0, h1, h2⟩)
      · rcases (touch_iff hlo hhi hx (has_range hl.1 h1) hlt).2 h2 with h3 | h3
        · exact .inl (.inl ⟨h1, h3⟩)
        · exact .inr ⟨h1, h3⟩
      · exact .inl (.inr ⟨t0, (has_within hl.1 hx).2 h1, h2⟩)
end Go.Proofs.YtbcicjmepojlnaaGreat.Eng
/- What the reference's Of and Made come to, page by page; how many areas there are; no condition but those typed. -/
namespace Go.Proofs.YtbcicjmepojlnaaGreat.Eng
open Go Go.RowKit
set_option autoImplicit false
set_option linter.unusedSimpArgs false
set_option linter.unusedVariables false
theorem nthP_set {s : List Pg} {i : Nat} (p : Pg) (h : i < s.length) (q : Nat) : nthP (s.set i p) q = if q = i then p else nthP s q := by
  unfold nthP
  rw [List.getD_eq_getElem?_getD, List.getD_eq_getElem?_getD, List.getElem?_set]
  by_cases hq : i = q
  · subst hq
    rw [if_pos rfl, if_pos h, if_pos rfl]
    rfl
  · rw [if_neg hq, if_neg (fun e => hq e.symm)]
theorem refAttr_ext {a : Ar} (h : Fo a) {q : Int} (h1 : a.s ≤ 4096 * q) (h2 : 4096 * q < a.e) : refAttr a q = ext a (4096 * q) := by
  have := h.s0; have := h.e0
  rw [(refAttr_in (fo.2 h) (q := q) (by omega) (by omega)).2]
  unfold ext offP
  simp only [At.mk.injEq, true_and]
  split
  · rfl
  · omega
def pgOf (a : Ar) (q : Nat) : Pg := ⟨true, ext a (4096 * q)⟩
theorem ofA_get {a : Ar} (h : Fo a) {s : List Pg} (hs : s.length = 512) : ∀ (k : Nat), k ≤ lenA a → ∀ q : Nat, nthP (ofA a s k) q = if a.s ≤ 4096 * (q : Int) ∧ 4096 * (q : Int) < a.s + 4096 * k then pgOf a q else nthP s q
  | 0, _, q => by
    rw [if_neg (by omega)]
    rfl
  | k + 1, hk, q => by
    have := h.s0; have := h.e0; have := h.lo; have := h.hi; have := h.lt
    have hk' : (k : Int) < a.e / 4096 - a.s / 4096 := by unfold lenA at hk; omega
    have hp : (pG a k).toNat < (ofA a s k).length := by rw [ofA_len, hs]; unfold pG; omega
    show nthP (ofStep a (ofA a s k) k) q = _
    unfold ofStep
    rw [nthP_set _ hp, ofA_get h hs k (by omega) q]
    by_cases hq : q = (pG a k).toNat
    · have hq' : (q : Int) = a.s / 4096 + k := by rw [hq]; unfold pG; omega
      rw [if_pos hq, if_pos (by omega), refAttr_ext h (by unfold pG; omega) (by unfold pG; omega)]
      unfold pgOf
      rw [hq']
      rfl
    · have hq' : (q : Int) ≠ a.s / 4096 + k := by intro e; apply hq; unfold pG; omega
      rw [if_neg hq]
      by_cases hc : a.s ≤ 4096 * (q : Int) ∧ 4096 * (q : Int) < a.s + 4096 * k
      · rw [if_pos hc, if_pos (by omega)]
      · rw [if_neg hc, if_neg (by omega)]
def Paints (f : List Pg → Ar → List Pg) : Prop := ∀ s a, Fo a → s.length = 512 → (f s a).length = 512 ∧ ∀ q : Nat, q < 512 → (inA a (4096 * q) → nthP (f s a) q = pgOf a q) ∧ (¬ inA a (4096 * q) → nthP (f s a) q = nthP s q)
theorem of_paints : Paints fun s a => ofA a s (lenA a) := by
  intro s a h hs
  have := h.s0; have := h.e0; have := h.lt
  refine ⟨by rw [ofA_len, hs], fun q hq => ?_⟩
  have h1 := ofA_get h hs (lenA a) (Nat.le_refl _) q
  have h2 : a.s + 4096 * (lenA a : Int) = a.e := by unfold lenA; omega
  rw [h2] at h1
  exact ⟨fun hi => h1.trans (if_pos hi), fun hi => h1.trans (if_neg hi)⟩
theorem paint_not {f : List Pg → Ar → List Pg} (hf : Paints f) {q : Nat} (hq : q < 512) : ∀ (l : List Ar) (s : List Pg), Fm l → s.length = 512 → (∀ a ∈ l, ¬ inA a (4096 * q)) → nthP (l.foldl f s) q = nthP s q ∧ (l.foldl f s).length = 512
  | [], s, _, hs, _ => ⟨rfl, hs⟩
  | a :: l, s, hl, hs, hn => by
    obtain ⟨h1, h2⟩ := hf s a (fo.1 (hl a (List.mem_cons_self ..))) hs
    have := paint_not hf hq l (f s a) (fun c hc => hl c (List.mem_cons_of_mem _ hc)) h1 fun c hc => hn c (List.mem_cons_of_mem _ hc)
    rw [List.foldl_cons]
    exact ⟨this.1.trans ((h2 q hq).2 (hn a (List.mem_cons_self ..))), this.2⟩
theorem paint_yes {f : List Pg → Ar → List Pg} (hf : Paints f) {q : Nat} (hq : q < 512) : ∀ (l : List Ar) (s : List Pg), Ok l → s.length = 512 → ∀ a ∈ l, inA a (4096 * q) → nthP (l.foldl f s) q = pgOf a q
  | b :: l, s, hl, hs, a, ha, hi => by
    obtain ⟨h1, h2⟩ := hf s b (fo.1 (hl.1 b (List.mem_cons_self ..))) hs
    have pl := List.pairwise_cons.1 hl.2
    have hl' : Ok l := ⟨fun c hc => hl.1 c (List.mem_cons_of_mem _ hc), pl.2⟩
    rw [List.foldl_cons]
    rcases List.mem_cons.1 ha with rfl | h
    · rw [(paint_not hf hq l _ hl'.1 h1 fun c hc hic => by have := pl.1 c hc; have := hi.2; have := hic.1; omega).1]
      exact (h2 q hq).1 hi
    · exact paint_yes hf hq l _ hl' h1 a h hi
theorem noS_get (q : Nat) : nthP noS q = noPg := by
  unfold nthP noS
  rw [List.getD_eq_getElem?_getD, List.getElem?_replicate]
  split <;> rfl
theorem painted {f : List Pg → Ar → List Pg} (hf : Paints f) {l : List Ar} (hl : Ok l) : (∀ x t, x % 4096 = 0 → (PHas (l.foldl f noS) x t ↔ Has l x t)) ∧ ∀ q : Nat, q < 512 → (nthP (l.foldl f noS) q).is = false → nthP (l.foldl f noS) q = noPg := by
  have two : ∀ q : Nat, q < 512 → (∃ a ∈ l, inA a (4096 * q) ∧ nthP (l.foldl f noS) q = pgOf a q) ∨ ((∀ a ∈ l, ¬ inA a (4096 * q)) ∧ nthP (l.foldl f noS) q = noPg) := by
    intro q hq
    by_cases h : ∃ a ∈ l, inA a (4096 * q)
    · obtain ⟨a, ha, hi⟩ := h
      exact .inl ⟨a, ha, hi, paint_yes hf hq l noS hl noS_len a ha hi⟩
    · have hn : ∀ a ∈ l, ¬ inA a (4096 * q) := fun a ha hi => h ⟨a, ha, hi⟩
      exact .inr ⟨hn, by rw [(paint_not hf hq l noS hl.1 noS_len hn).1, noS_get]⟩
  refine ⟨fun x t hx => ⟨?_, ?_⟩, fun q hq hi => ?_⟩
  · rintro ⟨q, rfl, h0, hq, h1, h2⟩
    rcases two q hq with ⟨a, ha, hi, e⟩ | ⟨_, e⟩
    · rw [e] at h2
      exact ⟨a, ha, hi, h2⟩
    · rw [e] at h1
      cases h1
  · rintro ⟨a, ha, hi, h⟩
    have fa := fo.1 (hl.1 a ha)
    have := fa.lo; have := fa.hi; have := hi.1; have := hi.2
    have hxq : x = 4096 * ((x / 4096).toNat : Int) := by omega
    refine ⟨(x / 4096).toNat, hxq, by omega, by omega, ?_⟩
    rcases two (x / 4096).toNat (by omega) with ⟨b, hb, hi', e⟩ | ⟨hn, _⟩
    · rw [e]
      refine ⟨rfl, ?_⟩
      show ext b (4096 * ((x / 4096).toNat : Int)) = t
      rw [← hxq] at hi' ⊢
      exact has_fun hl ⟨b, hb, hi', rfl⟩ ⟨a, ha, hi, h⟩
    · exact (hn a ha (by rw [← hxq]; exact hi)).elim
  · rcases two q hq with ⟨a, ha, _, e⟩ | ⟨_, e⟩
    · rw [e] at hi
      cases hi
    · exact e
theorem of_spec {l : List Ar} (hl : Ok l) : (∀ x t, x % 4096 = 0 → (PHas (ofL l) x t ↔ Has l x t)) ∧ ∀ q : Nat, q < 512 → (nthP (ofL l) q).is = false → nthP (ofL l) q = noPg := painted of_paints hl
/-! ### Made -/
/-! ### How many areas -/
end Go.Proofs.YtbcicjmepojlnaaGreat.Eng
/- Contracts of functions (printed by genx.py of this work): what each hands back; condition: as its 'hside' says. -/
namespace Go.Proofs.YtbcicjmepojlnaaGreat.Eng
open Go Go.RowKit
set_option linter.unusedVariables false
set_option linter.unusedSimpArgs false
theorem b_set : Bodied Tryz.prog 38 := bodied Tryz.func38 rfl (by decide)
def F_set : FunX := fun κ avs => match avs with
  | [.lst l xl, .val (.c (.v (.int .i64 lo))), .val (.c (.v (.int .i64 hi))), .val (.c (.v (.int .i64 p)))] => some (κ _ (l.length ≤ 300000), (.row 49 6 ((κ _ ((setL l lo hi p).length))) ((κ _ (encL (setL l lo hi p)))) (fun x => .c x)))
  | _ => none
set_option maxRecDepth 100000 in
set_option maxHeartbeats 4000000 in
theorem k_set (l : List Ar) (lo : Int) (hi : Int) (p : Int) (Al : Option Addr) (cl : Nat) (hside : l.length ≤ 300000) (w : World) (hl : (Ent.rd Al 6 l.length (encL l)).holds w) :
    Calls Tryz.prog 38 #[.slice Al l.length cl, (SV.c (.v (.int .i64 lo))).den, (SV.c (.v (.int .i64 hi))).den, (SV.c (.v (.int .i64 p))).den] w fun e w' => ∃ v H', e = .returned v.den ∧ IsX (.row 49 6 (((setL l lo hi p).length)) ((encL (setL l lo hi p))) (fun x => .c x)) v H' ∧ HSat w (fun _ => False) H' w' := by
  obtain ⟨κ, hκ⟩ : ∃ κ : Kp, κ = kid := ⟨_, rfl⟩
  have hH : HSat w (fun _ => False) (heapOf [(nilId, .rd none 1 0 []), (200000, .rd Al 6 (κ _ l.length) (κ _ (encL l)))]) w := by
    subst hκ
    refine HSat.reads fun p hp => ?_
    simp only [List.mem_cons, List.not_mem_nil, or_false] at hp
    rcases hp with rfl | rfl
    · exact ⟨_, _, _, _, rfl, nil_holds w⟩
    · exact ⟨_, _, _, _, rfl, hl⟩
  refine (callsP (n := 55) FTok [e_right hκ, e_around hκ, e_within hκ, e_concat hκ, e_joined hκ] mixed [] Tryz.func38 rfl (by kernel_rfl) #[.slice Al l.length cl, (SV.c (.v (.int .i64 lo))).den, (SV.c (.v (.int .i64 hi))).den, (SV.c (.v (.int .i64 p))).den] [(0, .c (.sl 200000 Al (κ _ l.length) cl)), (1, .c (.v (.int .i64 lo))), (2, .c (.v (.int .i64 hi))), (3, .c (.v (.int .i64 p)))] _ w rfl [.tmp 8] rfl (by simp) (by subst hκ; simp [SV.den, C.den, kid]) hH (fun v H' => IsX (.row 49 6 ((κ _ ((setL l lo hi p).length))) ((κ _ (encL (setL l lo hi p)))) (fun x => .c x)) v H') hκ ?_).mono ?_
  rotate_left
  · subst hκ; intro e w' h; exact h
  intro P' hP'
  cbv
  repeat' (first | refine And.intro ?_ ?_ | (intro _; cbv) | (refine tst_mk (fun h => ?_) (fun h => ?_) <;> cbv) | (refine LookX.nil ?_; cbv) | (refine LookX.auto hκ ?_; cbv))
  all_goals (try (exact (lt_geT (lo := lo) (hi := hi) hκ (by assumption) (by assumption)).elim))
  all_goals (try (exact (lt_geF (lo := lo) (hi := hi) hκ (by assumption) (by assumption)).elim))
  all_goals (try (show Side _; refine ⟨?_⟩; subst hκ; delta kid at *; first | exact rfl | ((try dsimp only at *); have q1 := ahead_le l (floorA lo); have q2 := behind_le l (toI hi); have q3 := within_le l lo hi; (try simp only [setTo_len, List.length_append, List.length_cons, List.length_nil, List.length_map, and_self, true_or, or_true, eq_self, true_and, and_true, Nat.zero_add, Nat.add_zero]); (first | done | omega); done)))
  all_goals (try (show IsX _ _ _; subst hκ; delta kid at *; first | exact IsX.nil_ (set_no (by with_reducible assumption)) rfl | exact IsX.nil_ (set_no2 (by with_reducible assumption)) rfl | exact IsX.nil_ (set_no3 (by with_reducible assumption)) rfl))
  · refine loopP hP' FTok [e_concat hκ, e_joined hκ] mixed [9, 10, 11, 39] (σ := Unit) (fun _ => [(40, .c (.v (.int .i64 0)))]) (fun _ => [(nilId, .rd none 1 0 []), (200000, .rd Al 6 (κ _ l.length) (κ _ (encL l)))]) (fun _ => 0) () [nilId, 200000] ?_ (by decide) ?_ hκ ?_
    · cbv
    · cbv
    intro _
    cbv
    refine tst_mk (fun h => ?_) (fun h => ?_)
    · subst hκ; exact absurd h (by decide)
    cbv
    repeat' (first | refine And.intro ?_ ?_ | (intro _; cbv) | (refine tst_mk (fun h => ?_) (fun h => ?_) <;> cbv) | (refine LookX.nil ?_; cbv) | (refine LookX.auto hκ ?_; cbv))
    all_goals (try (show Side _; refine ⟨?_⟩; subst hκ; delta kid at *; first | exact rfl | ((try dsimp only at *); have q1 := ahead_le l (floorA lo); have q2 := behind_le l (toI hi); have q3 := within_le l lo hi; (try simp only [setTo_len, List.length_append, List.length_cons, List.length_nil, List.length_map, and_self, true_or, or_true, eq_self, true_and, and_true, Nat.zero_add, Nat.add_zero]); (first | done | omega); done)))
    subst hκ
    delta kid at *
    refine IsX.row_ (set_all (l := l) (lo := lo) (hi := hi) (p := p) (by with_reducible assumption) (by with_reducible assumption) (by with_reducible assumption) (by with_reducible assumption)) rfl rfl
  · rename_i A1 c1 A2 c2 A3 c3
    refine loopP hP' FTok [e_concat hκ, e_joined hκ] mixed [3, 9, 10, 11, 39] (σ := Nat) (fun i => [(40, .c (.v (.int .i64 (κ _ ((i : Nat) : Int)))))]) (fun i => [(nilId, .rd none 1 0 []), (28, .row A1 c1 49 6 (κ _ (aheadL (κ _ l) (floorA lo)).length) (κ _ (encL (aheadL (κ _ l) (floorA lo))))), (100028, .row A2 c2 49 6 (κ _ (behindL (κ _ l) (toI hi)).length) (κ _ (encL (behindL (κ _ l) (toI hi))))), (37, .row A3 c3 49 6 (κ _ (κ _ (withinL (κ _ l) lo hi)).length) (κ _ (encL (setTo p (withinL l lo hi) i))))]) (fun i => (withinL l lo hi).length - i) 0 [nilId, 28, 100028, 37] ?_ (by decide) ?_ hκ ?_
    · cbv
      subst hκ
      delta kid
      all_goals repeat' (first | exact rfl | exact trivial | refine And.intro ?_ ?_)
    · cbv
      subst hκ
      delta kid
      all_goals repeat' (first | exact rfl | exact trivial | refine And.intro ?_ ?_ | exact congrArg encL (setTo_zero p _).symm)
    intro i
    cbv
    refine tst_mk (fun h => ?_) (fun h => ?_)
    · have hx : i < (withinL l lo hi).length := by subst hκ; delta kid at h; have h2 : (i : Int) < ((withinL l lo hi).length : Int) := of_decide_eq_true h; omega
      cbv
      repeat' (first | refine And.intro ?_ ?_ | (intro _; cbv) | (refine tst_mk (fun h => ?_) (fun h => ?_) <;> cbv) | (refine LookX.nil ?_; cbv) | (refine LookX.auto hκ ?_; cbv))
      all_goals (clear hH; subst hκ; delta kid at *; (try dsimp only at *))
      · exact ⟨la_ix hx⟩
      · exact ⟨rfl⟩
      · exact ⟨Nat.zero_lt_one, setTo_in hx⟩
      · refine ⟨⟨i + 1, [nilId, 28, 100028, 37], (by show (withinL l lo hi).length - (i + 1) < (withinL l lo hi).length - i; omega), by decide, ?_, ?_⟩⟩
        all_goals repeat' (first | exact rfl | exact trivial | refine And.intro ?_ ?_ | exact congrArg (Value.int .i64) (nat_succ (by have := within_le l lo hi; omega)) | exact setTo_put hx)
    · have hx : ¬ i < (withinL l lo hi).length := by subst hκ; delta kid at h; have h2 : ¬ (i : Int) < ((withinL l lo hi).length : Int) := of_decide_eq_false h; omega
      cbv
      repeat' (first | refine And.intro ?_ ?_ | (intro _; cbv) | (refine tst_mk (fun h => ?_) (fun h => ?_) <;> cbv) | (refine LookX.nil ?_; cbv) | (refine LookX.auto hκ ?_; cbv))
      all_goals (try (show Side _; refine ⟨?_⟩; subst hκ; delta kid at *; first | exact rfl | ((try dsimp only at *); have q1 := ahead_le l (floorA lo); have q2 := behind_le l (toI hi); have q3 := within_le l lo hi; (try simp only [setTo_len, List.length_append, List.length_cons, List.length_nil, List.length_map, and_self, true_or, or_true, eq_self, true_and, and_true, Nat.zero_add, Nat.add_zero]); (first | done | omega); done)))
      subst hκ
      delta kid at *
      refine IsX.row_ (r' := joinedL (aheadL l (floorA lo) ++ setTo p (withinL l lo hi) i ++ behindL l (toI hi))) ?_ rfl rfl
      rw [setTo_all hx]
      exact set_some (l := l) (lo := lo) (hi := hi) (p := p) (by with_reducible assumption) (by with_reducible assumption) (by with_reducible assumption) (by with_reducible assumption)
def e_set {κ : Kp} (hκ : κ = kid) : ESpec Tryz.prog := fnES [.list, .flat, .flat, .flat] b_set F_set hκ fun avs p r hF hp => by
  unfold F_set at hF
  split at hF
  case h_2 => cases hF
  rename_i l xl lo hi p
  simp only [kid, Option.some.injEq, Prod.mk.injEq] at hF
  obtain ⟨rfl, rfl⟩ := hF
  refine ⟨fun x y h => by simp [SV.den, SV.den0, h], fun vs w hR => ?_⟩
  obtain ⟨il, Al, cl, vs0, rfl, rfl, hl, hR⟩ := hR
  obtain ⟨vs1, rfl, hR⟩ := hR
  obtain ⟨vs2, rfl, hR⟩ := hR
  obtain ⟨vs3, rfl, hR⟩ := hR
  have hR' : vs3 = [] := hR
  subst hR'
  exact k_set l lo hi p Al cl hp w hl
end Go.Proofs.YtbcicjmepojlnaaGreat.Eng
/- What lists that are not right tell; no condition. -/
namespace Go.Proofs.YtbcicjmepojlnaaGreat.Eng
open Go Go.RowKit
set_option autoImplicit false
set_option linter.unusedSimpArgs false
set_option linter.unusedVariables false
end Go.Proofs.YtbcicjmepojlnaaGreat.Eng
/- Contracts of functions (printed by genx.py of this work): what each hands back; condition: as its 'hside' says. -/
namespace Go.Proofs.YtbcicjmepojlnaaGreat.Eng
open Go Go.RowKit
set_option linter.unusedVariables false
set_option linter.unusedSimpArgs false
end Go.Proofs.YtbcicjmepojlnaaGreat.Eng
/- What the laws of layer 7 come to, in plain words; no condition but those typed. -/
namespace Go.Proofs.YtbcicjmepojlnaaGreat.Eng
open Go Go.RowKit
set_option autoImplicit false
set_option linter.unusedSimpArgs false
set_option linter.unusedVariables false
theorem rt_len {l : List Ar} (h : Rt l) : l.length ≤ 496 := by
  have hs : GoodS (ofL l) := ⟨ofL_len l, fun q hq hi => by
    by_cases he : ∃ a ∈ l, inA a (4096 * q)
    · obtain ⟨a, ha, hin⟩ := he
      have fa := fo.1 (h.1 a ha)
      have e : nthP (ofL l) q = pgOf a q := paint_yes of_paints hq l noS h.ok noS_len a ha hin
      rw [e]
      have := fa.lo; have := hin.1
      exact ⟨by omega, ext_good fa hin (by omega)⟩
    · have e : nthP (ofL l) q = nthP noS q := (paint_not of_paints hq l noS h.1 noS_len fun a ha hin => he ⟨a, ha, hin⟩).1
      rw [e, noS_get] at hi
      cases hi⟩
  obtain ⟨h1, h2⟩ := listS_spec hs
  have : listS (ofL l) = l := rt_ext h1 h fun x t hx => (h2 x t hx).trans ((of_spec h.ok).1 x t hx)
  rw [← this]
  exact listS_le _
theorem around_bd (l : List Ar) (hl : l.length ≤ 496) (lo hi : Int) : (aroundA l lo hi).length ≤ 496 ∧ (aroundB l lo hi).length ≤ 496 := by
  unfold aroundA aroundB
  have := ahead_le l (floorA lo)
  have := behind_le l (toI hi)
  split
  · exact ⟨hl, Nat.zero_le _⟩
  · omega
theorem cut_bd (l : List Ar) (lo hi : Int) : (cutL l lo hi).length ≤ 2000 := by
  unfold cutL
  split
  · rename_i h
    have := around_bd l (rt_len (rt_iff.1 h)) lo hi
    rw [List.length_append]
    omega
  · exact Nat.zero_le _
theorem put_bd (l : List Ar) (a : Ar) : (putL l a).length ≤ 2000 := by
  unfold putL
  split
  · rename_i h
    rw [Bool.and_eq_true] at h
    have := around_bd l (rt_len (rt_iff.1 h.1)) a.s a.e
    have := joined_le (aroundA l a.s a.e ++ [a] ++ aroundB l a.s a.e)
    rw [List.length_append, List.length_append] at this
    have e : [a].length = 1 := rfl
    omega
  · exact Nat.zero_le _
theorem set_bd (l : List Ar) (lo hi p : Int) : (setL l lo hi p).length ≤ 2000 := by
  unfold setL
  split
  · exact Nat.zero_le _
  · rename_i h
    have hr : rightL l = true := by
      cases hh : rightL l with
      | true => rfl
      | false => rw [hh] at h; exact (h rfl).elim
    have hl := rt_len (rt_iff.1 hr)
    have := around_bd l hl lo hi
    have := joined_le (aroundA l lo hi ++ midL l lo hi p ++ aroundB l lo hi)
    have hm : (midL l lo hi p).length ≤ 496 := by
      unfold midL
      split
      · rw [List.length_map]
        have := within_le l lo hi
        omega
      · exact Nat.zero_le _
    rw [List.length_append, List.length_append] at this
    omega
theorem bd {n m : Nat} (h : n ≤ 2000) (hm : 2000 ≤ m) : n ≤ m := Nat.le_trans h hm
end Go.Proofs.YtbcicjmepojlnaaGreat.Eng
