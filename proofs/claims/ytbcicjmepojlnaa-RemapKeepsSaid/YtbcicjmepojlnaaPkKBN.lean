/- Texts of this work, laid together: symbolic execution over the model, contracts of the program's functions, what they come to; conditions: as each says. -/
import Derived.Test.YtbcicjmepojlnaaPkKAL
import Derived.Test.YtbcicjmepojlnaaPkKBC
import Derived.Test.YtbcicjmepojlnaaPkKBJ
/- The break: moved twice, back, step by step; no condition but those typed. -/
namespace Go.Proofs.Ytbcicjmepojlnaa.Eng
open Go Go.RowKit
set_option autoImplicit false
set_option linter.unusedSimpArgs false
set_option linter.unusedVariables false
set_option linter.unusedSectionVars false
theorem kept_er0 {now : List Ar} {v : Int} (h : (keptN now v).er = 0) : now.length ≤ 24 ∧ keptN now v = okA v ∧ ∀ l, keptL l now = now := by
  cases hd : decide ((24 : Int) < (now.length : Int)) with
  | true => rw [(kept_no (was := []) hd).2] at h; cases h
  | false =>
    have := of_decide_eq_false hd
    exact ⟨by omega, (kept_yes (was := []) hd).2, fun l => (kept_yes (v := 0) (was := l) hd).1⟩
structure BrkOk (l : List Ar) (m w : Int) : Prop where
  may : mayS l = true
  br : BrOk m
  c : (w = 0 ∧ brkN l m w = okA m ∧ brkL l m w = l ∧ brkV l m w = m) ∨ (w ≠ 0 ∧ BrOk w ∧ (upG m < upG w → fitsL l (upG m) (w64 (upG w - upG m)) = true) ∧ (brkK l m w).length ≤ 24 ∧ brkN l m w = okA w ∧ brkL l m w = brkK l m w ∧ brkV l m w = w)
/-! ### Step by step -/
def stepP (m : Int) : List Ar := if endB m = 16 then [] else [⟨65536, 4096 * endB m, 3, false, 0, 0⟩]
theorem step_fo {m : Int} (hm : BrOk m) (h : endB m ≠ 16) : Fo (⟨65536, 4096 * endB m, 3, false, 0, 0⟩ : Ar) := by
  obtain ⟨u1, u2, u3⟩ := up_end hm
  exact brk_fo (a := 16) (by omega) (by omega) (by omega)
theorem step_rt {m : Int} (hm : BrOk m) : Rt (stepP m) ∧ (stepP m).length ≤ 1 := by
  unfold stepP
  split
  · exact ⟨rt_nil, by decide⟩
  · rename_i h
    exact ⟨⟨fm_one (fo.2 (step_fo hm h)), List.pairwise_singleton _ _⟩, Nat.le_refl _⟩
theorem step_has {m : Int} (hm : BrOk m) (x : Int) (t : At) : Has (stepP m) x t ↔ 65536 ≤ x ∧ x < 4096 * endB m ∧ t = ⟨3, false, 0, 0⟩ := by
  obtain ⟨u1, u2, u3⟩ := up_end hm
  unfold stepP
  split
  · rename_i h
    exact ⟨fun h => (Has.nil h).elim, fun h => by omega⟩
  · rename_i h
    rw [has_one]
    unfold inA ext offP
    rw [if_pos rfl]
    exact ⟨fun ⟨⟨h1, h2⟩, h3⟩ => ⟨h1, h2, h3.symm⟩, fun ⟨h1, h2, h3⟩ => ⟨⟨h1, h2⟩, h3.symm⟩⟩
theorem step_move {m w : Int} (hm : BrOk m) (hw : BrOk w) : brkE (stepP m) m w = 0 ∧ brkK (stepP m) m w = stepP w := by
  obtain ⟨u1, u2, u3⟩ := up_end hm
  obtain ⟨v1, v2, v3⟩ := up_end hw
  obtain ⟨s1, s2⟩ := step_rt hm
  have hmay : mayS (stepP m) = true := rt_mayS s1 (by omega)
  have h1 := hw.lo
  constructor
  · unfold brkE
    rw [hmay, (br_iff m).2 hm, (br_iff w).2 hw, show (w == 0) = false by rw [beq_eq_false_iff_ne]; omega]
    by_cases hc : upG m < upG w
    · have e2 : w64 (upG w - upG m) = upG w - upG m := w64_id (by unfold In64; omega)
      have hf : fitsL (stepP m) (upG m) (upG w - upG m) = true := by
        refine (fits_iff s1 (by unfold In64; omega) (by unfold In64; omega)).2 ⟨(sizeG_iff (by unfold In64; omega)).2 (by omega), by omega, by omega, by omega, ?_⟩
        intro x hx g1 g2 t ht
        have := (step_has hm x t).1 ht
        omega
      rw [e2, hf, Bool.not_true, Bool.and_false]
      rfl
    · rw [decide_eq_false hc]
      rfl
  · unfold brkK brkMv
    rw [u1, v1]
    split
    · rename_i h
      have h := of_decide_eq_true h
      have hfo := brk_fo (a := endB m) (b := endB w) u2 (by omega) (by omega)
      obtain ⟨p1, p2⟩ := put_spec s1 hfo
      refine rt_ext p1 (step_rt hw).1 fun x t hx => ?_
      rw [p2 x t hx, step_has hm, step_has hw]
      unfold inA ext offP
      rw [if_pos rfl]
      show ((4096 * endB m ≤ x ∧ x < 4096 * endB w) ∧ (⟨3, false, 0, 0⟩ : At) = t) ∨ ((65536 ≤ x ∧ x < 4096 * endB m ∧ t = ⟨3, false, 0, 0⟩) ∧ ¬ (4096 * endB m ≤ x ∧ x < 4096 * endB w)) ↔ _
      constructor
      · rintro (⟨g1, g2⟩ | ⟨⟨g1, g2, g3⟩, g4⟩)
        · exact ⟨by omega, by omega, g2.symm⟩
        · exact ⟨g1, by omega, g3⟩
      · rintro ⟨g1, g2, g3⟩
        by_cases hc : x < 4096 * endB m
        · exact .inr ⟨⟨g1, hc, g3⟩, by omega⟩
        · exact .inl ⟨by omega, g3.symm⟩
    · split
      · rename_i h0 h
        have h := of_decide_eq_true h
        obtain ⟨p1, p2⟩ := cut_spec s1 (lo := 4096 * endB w) (hi := 4096 * endB m) (by unfold In64; omega) (by unfold In64; omega)
        refine rt_ext p1 (step_rt hw).1 fun x t hx => ?_
        rw [p2 x t hx, step_has hm, step_has hw]
        unfold Touch
        constructor
        · rintro ⟨⟨g1, g2, g3⟩, g4⟩
          exact ⟨g1, by omega, g3⟩
        · rintro ⟨g1, g2, g3⟩
          exact ⟨⟨g1, by omega, g3⟩, by omega⟩
      · rename_i h0 h
        rw [decide_eq_true_eq] at h0 h
        unfold stepP
        rw [show endB m = endB w by omega]
end Go.Proofs.Ytbcicjmepojlnaa.Eng
/- Remap: what came about, page by page; no condition but those typed. -/
namespace Go.Proofs.Ytbcicjmepojlnaa.Eng
open Go Go.RowKit
set_option autoImplicit false
set_option linter.unusedSimpArgs false
set_option linter.unusedVariables false
set_option linter.unusedSectionVars false
section
variable {l : List Ar} {lo hi : Int} (k : FoundOk l lo hi)
include k
theorem old_se : (oldA l lo hi).s = lo ∧ (oldA l lo hi).e = hi := by unfold oldA; rw [fd_part k]; exact ⟨rfl, rfl⟩
theorem old_ext (x : Int) : ext (oldA l lo hi) x = ext (findL l lo) x := by
  obtain ⟨h1, h2, h3, h4⟩ := fd_mem k
  have r1 := k.rg.lo; have r2 := k.rg.hi; have r3 := k.rg.lt
  unfold oldA
  rw [fd_part k]
  unfold ext offP
  show (⟨(findL l lo).p, (findL l lo).sh, (findL l lo).b, if (findL l lo).b = 0 then 0 else offA (findL l lo) lo + x - lo⟩ : At) = _
  rw [offP_eq h4 (by omega) (by omega)]
  unfold offP
  congr 1
  split
  · rfl
  · omega
theorem has_old {x : Int} (h1 : lo ≤ x) (h2 : x < hi) : Has l x (ext (oldA l lo hi) x) := by
  obtain ⟨g1, g2, g3, g4⟩ := fd_mem k
  have := k.en
  exact ⟨_, g1, ⟨by omega, by omega⟩, (old_ext k x).symm⟩
end
theorem mv_ext (o : Ar) (p n x : Int) : ext (mvA o p n) x = ext o (x - p + o.s) := by
  unfold ext offP mvA
  show (⟨o.p, o.sh, o.b, if o.b = 0 then 0 else o.o + x - p⟩ : At) = ⟨o.p, o.sh, o.b, if o.b = 0 then 0 else o.o + (x - p + o.s) - o.s⟩
  congr 1
  split
  · rfl
  · omega
structure MvCase (l : List Ar) (c : Cl) (L : List Ar) (N : An) (p : Int) (st : Bool) : Prop where
  ok : MvOk l (rmLo c) (rmHi c) p (sizeV c.w)
  n : N = okA p
  l : L = mvS l st (rmLo c) (rmHi c) (rmO l c) p (sizeV c.w)
  le : L.length ≤ 24
structure ShCase (l : List Ar) (c : Cl) (L : List Ar) (N : An) : Prop where
  sz : sizeV c.w ≤ rmHi c - rmLo c
  n : N = okA (rmLo c)
  l : L = cutL l (rmLo c + sizeV c.w) (rmHi c)
  le : L.length ≤ 24
structure GrCase (l : List Ar) (c : Cl) (L : List Ar) (N : An) : Prop where
  sz : rmHi c - rmLo c < sizeV c.w
  rg : RgOk (rmLo c) (rmLo c + sizeV c.w)
  fo : Fo (growA (rmO l c) (rmLo c) (sizeV c.w))
  fr : FreeR l (rmHi c) (rmLo c + sizeV c.w)
  n : N = okA (rmLo c)
  l : L = putL l (growA (rmO l c) (rmLo c) (sizeV c.w))
  le : L.length ≤ 24
theorem ka_case {l : List Ar} {c : Cl} (h0 : rmE l c = 0) (hl : longK (rmO l c).b (rmO l c).o (sizeV c.w) = false) (h : (kaN l c.f (rmLo c) (rmHi c) (sizeV c.w) (rmO l c)).er = 0) :
    ∃ p st, MvCase l c (kaL l c.f (rmLo c) (rmHi c) (sizeV c.w) (rmO l c)) (kaN l c.f (rmLo c) (rmHi c) (sizeV c.w) (rmO l c)) p st := by
  have hs := rm_sz h0
  obtain ⟨p1, p2⟩ := place0 (rm_ok0 h0).1 hs
  unfold kaN at h ⊢
  unfold kaL
  by_cases hp : (placeE l 0 (sizeV c.w) 0 != 0) = true
  · rw [if_pos hp] at h
    have h : placeE l 0 (sizeV c.w) 0 = 0 := h
    rw [h] at hp
    cases hp
  · rw [if_neg hp] at h ⊢
    rw [if_neg hp]
    have hd : decide (chooseL l 65536 2097152 (sizeV c.w) true < 0) = false := by
      cases hb : decide (chooseL l 65536 2097152 (sizeV c.w) true < 0) with
      | false => rfl
      | true => rw [p1 hb] at hp; exact absurd rfl hp
    obtain ⟨_, _, hrg⟩ := p2 hd
    obtain ⟨q1, q2, q3⟩ := kept_er0 h
    exact ⟨_, bitB c.f 32, mv_fo h0 hrg hl, q2, q3 l, by rw [q3 l]; exact q1⟩
theorem grow_fo {l : List Ar} {c : Cl} (h0 : rmE l c = 0) (hr : RgOk (rmLo c) (rmLo c + sizeV c.w)) (hl : longK (rmO l c).b (rmO l c).o (sizeV c.w) = false) : Fo (growA (rmO l c) (rmLo c) (sizeV c.w)) ∧ growA (rmO l c) (rmLo c) (sizeV c.w) = mvA (rmO l c) (rmLo c) (sizeV c.w) := by
  have k := rm_found h0
  have e : (rmO l c).s = rmLo c := (old_se k).1
  have e2 : growA (rmO l c) (rmLo c) (sizeV c.w) = mvA (rmO l c) (rmLo c) (sizeV c.w) := by unfold growA mvA; rw [e]
  rw [e2]
  exact ⟨(mv_fo h0 hr hl).fo, rfl⟩
theorem grow_case {l : List Ar} {c : Cl} (h0 : rmE l c = 0) (hgt : ¬ sizeV c.w ≤ rmHi c - rmLo c) (hg : growB l (rmLo c) (rmHi c) (sizeV c.w) (rmW l c).e = true) : RgOk (rmLo c) (rmLo c + sizeV c.w) ∧ FreeR l (rmHi c) (rmLo c + sizeV c.w) := by
  have k := rm_rg h0
  have h1 := k.lo; have h2 := k.hi; have h3 := k.lt; have h4 := k.z; have h5 := k.z2
  have hs := rm_sz h0
  have s1 := hs.lo; have s2 := hs.hi; have s3 := hs.z
  unfold growB at hg
  rw [Bool.and_eq_true, (grow_is h0 hgt).2] at hg
  have f := (fits_iff (rm_found h0).rt (by unfold In64; omega) (by unfold In64; omega)).1 hg.2
  have fr := f.2.2.2.2
  rw [show rmHi c + (sizeV c.w - (rmHi c - rmLo c)) = rmLo c + sizeV c.w by omega] at fr
  exact ⟨⟨h1, by omega, by omega, h4, by omega⟩, fr⟩
theorem rem_cases {l : List Ar} {c : Cl} (h : (remN l c).er = 0) : rmE l c = 0 ∧ ((∃ p st, MvCase l c (remL l c) (remN l c) p st) ∨ ShCase l c (remL l c) (remN l c) ∨ GrCase l c (remL l c) (remN l c)) := by
  have h0 : rmE l c = 0 := by
    unfold remN at h
    by_cases hb : (rmE l c != 0) = true
    · rw [if_pos hb] at h; exact h
    · simpa using hb
  refine ⟨h0, ?_⟩
  obtain ⟨g1, g2⟩ := rm_go h0
  rw [g1] at h ⊢
  rw [g2]
  have hs := rm_sz h0
  unfold remM at h ⊢
  unfold remK
  by_cases b1 : bitB c.f 1 = true
  · rw [if_pos b1] at h ⊢
    rw [if_pos b1]
    left
    unfold kfN at h ⊢
    unfold kfL
    by_cases he : (kfE c (rmLo c) (rmHi c) (sizeV c.w) (rmO l c) != 0) = true
    · rw [if_pos he] at h
      have h : kfE c (rmLo c) (rmHi c) (sizeV c.w) (rmO l c) = 0 := h
      rw [h] at he
      cases he
    · rw [if_neg he] at h ⊢
      rw [if_neg he]
      have he : kfE c (rmLo c) (rmHi c) (sizeV c.w) (rmO l c) = 0 := by simpa using he
      have hk : rangeE c.to c.w = 0 ∧ longK (rmO l c).b (rmO l c).o (sizeV c.w) = false := by
        unfold kfE at he
        by_cases k1 : rangeE c.to c.w = 0
        · refine ⟨k1, ?_⟩
          rw [k1, if_neg (by simp)] at he
          by_cases k2 : (decide (rangeLo c.to c.w < rmHi c) && decide (rangeHi c.to c.w > rmLo c)) = true
          · rw [if_pos k2] at he; cases he
          · rw [if_neg k2] at he
            cases hl : longK (rmO l c).b (rmO l c).o (sizeV c.w) with
            | false => rfl
            | true => rw [hl] at he; cases he
        · rw [if_pos (by simpa using k1)] at he; exact absurd he k1
      obtain ⟨r1, r2, r3, r4⟩ := range_ok hk.1
      obtain ⟨q1, q2, q3⟩ := kept_er0 h
      have rg : RgOk (rangeLo c.to c.w) (rangeLo c.to c.w + sizeV c.w) := by rw [r3] at r1; rw [r2] at r1 ⊢; exact r1
      exact ⟨rangeLo c.to c.w, bitB c.f 32, mv_fo h0 rg hk.2, q2, q3 l, by rw [q3 l]; exact q1⟩
  · rw [if_neg b1] at h ⊢
    rw [if_neg b1]
    by_cases b2 : bitB c.f 32 = true
    · rw [if_pos b2] at h ⊢
      rw [if_pos b2]
      left
      exact ka_case h0 (long_dont h0 b2) h
    · rw [if_neg b2] at h ⊢
      rw [if_neg b2]
      rw [rm_diff h0] at h ⊢
      by_cases b3 : sizeV c.w ≤ rmHi c - rmLo c
      · rw [if_pos (decide_eq_true b3)] at h ⊢
        rw [if_pos (decide_eq_true b3)]
        right; left
        obtain ⟨q1, q2, q3⟩ := kept_er0 h
        have k := rm_rg h0
        have h1 := k.lo; have h2 := k.hi; have h3 := k.lt
        have s1 := hs.lo
        have e : w64 (rmLo c + sizeV c.w) = rmLo c + sizeV c.w := w64_id (by unfold In64; omega)
        rw [e] at q1 q2 ⊢
        exact ⟨b3, q2, by have := q3 l; rw [e] at this; exact this, by have := q3 l; rw [e] at this; rw [this]; exact q1⟩
      · rw [if_neg (by simpa using b3)] at h ⊢
        rw [if_neg (by simpa using b3)]
        unfold kgN at h ⊢
        unfold kgL
        cases hl : longK (rmO l c).b (rmO l c).o (sizeV c.w) with
        | true => rw [hl, if_pos rfl] at h; cases h
        | false =>
          simp only [hl, Bool.false_eq_true, if_false] at h ⊢
          by_cases hg : growB l (rmLo c) (rmHi c) (sizeV c.w) (rmW l c).e = true
          · rw [if_pos hg] at h ⊢
            rw [if_pos hg]
            right; right
            obtain ⟨q1, q2, q3⟩ := kept_er0 h
            obtain ⟨rg, fr⟩ := grow_case h0 b3 hg
            exact ⟨by omega, rg, (grow_fo h0 rg hl).1, fr, q2, q3 l, by rw [q3 l]; exact q1⟩
          · rw [if_neg hg] at h ⊢
            rw [if_neg hg]
            by_cases b4 : bitB c.f 16 = true
            · rw [if_pos b4] at h ⊢
              rw [if_pos b4]
              left
              exact ka_case h0 hl h
            · rw [if_neg b4] at h
              cases h
theorem rem_pages {l : List Ar} {c : Cl} (h : (remN l c).er = 0) : rmE l c = 0 ∧ RgOk (remN l c).v ((remN l c).v + sizeV c.w) ∧ mayS (remL l c) = true ∧
    (∀ x, x % 4096 = 0 → (remN l c).v ≤ x → x < (remN l c).v + sizeV c.w → ∃ t, Has (remL l c) x t ∧ (x - (remN l c).v < rmHi c - rmLo c → Has l (x - (remN l c).v + rmLo c) t)) ∧
    ∀ x t, x % 4096 = 0 → ¬ ((remN l c).v ≤ x ∧ x < (remN l c).v + sizeV c.w) → ¬ (rmLo c ≤ x ∧ x < rmHi c) → (Has (remL l c) x t ↔ Has l x t) := by
  obtain ⟨h0, hc⟩ := rem_cases h
  have k := rm_found h0
  have kr : RgOk (rmLo c) (rmHi c) := k.rg
  have h1 := kr.lo; have h2 := kr.hi; have h3 := kr.lt; have h4 := kr.z; have h5 := kr.z2
  have hs := rm_sz h0
  have s1 := hs.lo; have s2 := hs.hi; have s3 := hs.z
  refine ⟨h0, ?_⟩
  rcases hc with ⟨p, st, ok, en, el, le⟩ | ⟨sz, en, el, le⟩ | ⟨sz, rg, gf, fr, en, el, le⟩
  · have hl' : Rt (if st = true then l else cutL l (rmLo c) (rmHi c)) ∧ ∀ x t, x % 4096 = 0 → (Has (if st = true then l else cutL l (rmLo c) (rmHi c)) x t ↔ Has l x t ∧ (st = false → ¬ Touch x (rmLo c) (rmHi c))) := by
      cases st with
      | true =>
        rw [if_pos rfl]
        exact ⟨k.rt, fun x t hx => ⟨fun h => ⟨h, fun hh => by cases hh⟩, fun h => h.1⟩⟩
      | false =>
        rw [if_neg (by simp)]
        obtain ⟨c1, c2⟩ := cut_spec k.rt (lo := rmLo c) (hi := rmHi c) (by unfold In64; omega) (by unfold In64; omega)
        exact ⟨c1, fun x t hx => (c2 x t hx).trans ⟨fun h => ⟨h.1, fun _ => h.2⟩, fun h => ⟨h.1, h.2 rfl⟩⟩⟩
    obtain ⟨p1, p2⟩ := put_spec hl'.1 ok.fo
    have ev : (remN l c).v = p := by rw [en]; rfl
    have eL : remL l c = putL (if st = true then l else cutL l (rmLo c) (rmHi c)) (mvA (rmO l c) p (sizeV c.w)) := el
    have we : w64 (p + sizeV c.w) = p + sizeV c.w := mv_w ok
    have hin : ∀ x, inA (mvA (rmO l c) p (sizeV c.w)) x ↔ p ≤ x ∧ x < p + sizeV c.w := fun x => by
      unfold inA mvA
      show p ≤ x ∧ x < w64 (p + sizeV c.w) ↔ _
      rw [we]
    rw [ev, eL]
    refine ⟨ok.rg, rt_mayS p1 (by rw [← eL]; exact le), fun x hx g1 g2 => ⟨ext (mvA (rmO l c) p (sizeV c.w)) x, (p2 x _ hx).2 (.inl ⟨(hin x).2 ⟨g1, g2⟩, rfl⟩), fun hlt => ?_⟩, fun x t hx g1 g2 => ?_⟩
    · rw [mv_ext, show (rmO l c).s = rmLo c from (old_se k).1]
      exact has_old k (by omega) (by omega)
    · rw [p2 x t hx, hin, hl'.2 x t hx]
      have hnt : ¬ Touch x (rmLo c) (rmHi c) := fun ht => g2 ⟨by have := ht.2.1; omega, ht.2.2⟩
      exact ⟨fun hh => hh.elim (fun h => absurd h.1 g1) fun h => h.1.1, fun hh => .inr ⟨⟨hh, fun _ => hnt⟩, g1⟩⟩
  · have ev : (remN l c).v = rmLo c := by rw [en]; rfl
    obtain ⟨c1, c2⟩ := cut_spec k.rt (lo := rmLo c + sizeV c.w) (hi := rmHi c) (by unfold In64; omega) (by unfold In64; omega)
    rw [ev]
    refine ⟨⟨h1, by omega, by omega, h4, by omega⟩, ?_, fun x hx g1 g2 => ⟨ext (rmO l c) x, ?_, fun hlt => ?_⟩, fun x t hx g1 g2 => ?_⟩
    · rw [el]; exact rt_mayS c1 (by rw [← el]; exact le)
    · rw [el, c2 x _ hx]
      exact ⟨has_old k g1 (by omega), fun ht => by have := ht.2.1; omega⟩
    · rw [show x - rmLo c + rmLo c = x by omega]
      exact has_old k g1 (by omega)
    · rw [el, c2 x t hx]
      exact ⟨fun hh => hh.1, fun hh => ⟨hh, fun ht => g2 ⟨by have := ht.2.1; omega, ht.2.2⟩⟩⟩
  · have ev : (remN l c).v = rmLo c := by rw [en]; rfl
    obtain ⟨p1, p2⟩ := put_spec k.rt gf
    have eo : (rmO l c).s = rmLo c := (old_se k).1
    have eg : growA (rmO l c) (rmLo c) (sizeV c.w) = mvA (rmO l c) (rmLo c) (sizeV c.w) := by unfold growA mvA; rw [eo]
    have we : w64 (rmLo c + sizeV c.w) = rmLo c + sizeV c.w := w64_id (by unfold In64; omega)
    have hin : ∀ x, inA (growA (rmO l c) (rmLo c) (sizeV c.w)) x ↔ rmLo c ≤ x ∧ x < rmLo c + sizeV c.w := fun x => by
      rw [eg]
      unfold inA mvA
      show rmLo c ≤ x ∧ x < w64 (rmLo c + sizeV c.w) ↔ _
      rw [we]
    rw [ev]
    refine ⟨rg, ?_, fun x hx g1 g2 => ⟨ext (growA (rmO l c) (rmLo c) (sizeV c.w)) x, ?_, fun hlt => ?_⟩, fun x t hx g1 g2 => ?_⟩
    · rw [el]; exact rt_mayS p1 (by rw [← el]; exact le)
    · rw [el]; exact (p2 x _ hx).2 (.inl ⟨(hin x).2 ⟨g1, g2⟩, rfl⟩)
    · rw [eg, mv_ext, eo]
      exact has_old k (by omega) (by omega)
    · rw [el, p2 x t hx, hin]
      exact ⟨fun hh => hh.elim (fun h => absurd h.1 g1) fun h => h.1, fun hh => .inr ⟨hh, g1⟩⟩
end Go.Proofs.Ytbcicjmepojlnaa.Eng
/- Remap: a range that stays; an area there and back; no condition but those typed. -/
namespace Go.Proofs.Ytbcicjmepojlnaa.Eng
open Go Go.RowKit
set_option autoImplicit false
set_option linter.unusedSimpArgs false
set_option linter.unusedVariables false
set_option linter.unusedSectionVars false
theorem found_mem {l : List Ar} (hl : Rt l) {a : Ar} (ha : a ∈ l) {x : Int} (hx : inA a x) : foundL l x = true ∧ findL l x = a := by
  obtain ⟨h1, h2⟩ := found_spec hl x
  have hf := h1.2 ⟨a, ha, hx⟩
  obtain ⟨h3, h4⟩ := h2 hf
  exact ⟨hf, rt_disj hl.ok h3 ha h4 hx⟩
theorem ar_rg {a : Ar} (h : Fo a) : RgOk a.s a.e := ⟨h.lo, h.hi, h.lt, h.s0, h.e0⟩
theorem rg_sz {lo hi : Int} (h : RgOk lo hi) : SzOk (hi - lo) := by
  have h1 := h.lo; have h2 := h.hi; have h3 := h.lt; have h4 := h.z; have h5 := h.z2
  exact ⟨by omega, by omega, by omega⟩
theorem off_self {a : Ar} (h : Fo a) : offA a a.s = a.o := by
  have h1 := h.lo; have h2 := h.hi; have h3 := h.lt
  rw [offP_eq h (by omega) (by omega), offP_s h]
theorem old_self {l : List Ar} {a : Ar} (k : FoundOk l a.s a.e) (hf : findL l a.s = a) (h : Fo a) : partA (findL l a.s) a.s a.e = a := by
  rw [fd_part k, hf, off_self h]
theorem rm_whole {l : List Ar} (hm : mayS l = true) {lo hi : Int} (k : FoundOk l lo hi) {c : Cl} (h1 : c.a = lo) (h2 : c.n = hi - lo) (h3 : c.w = hi - lo) (h4 : rmFl c.f = 0) : rmE l c = 0 ∧ rmLo c = lo ∧ rmHi c = hi ∧ sizeV c.w = hi - lo := by
  obtain ⟨r1, r2, r3⟩ := range_self k.rg
  obtain ⟨s1, s2⟩ := size_self (rg_sz k.rg)
  have g1 := k.rg.lo; have g2 := k.rg.hi; have g3 := k.rg.lt
  have e1 : rangeE c.a c.n = 0 := by rw [h1, h2]; exact r1
  have e2 : rangeLo c.a c.n = lo := by rw [h1, h2]; exact r2
  have e3 : rangeHi c.a c.n = hi := by rw [h1, h2]; exact r3
  have e4 : sizeE c.w = 0 := by rw [h3]; exact s1
  have e5 : sizeV c.w = hi - lo := by rw [h3]; exact s2
  have e6 : IntKind.i64.wrap (hi - lo) = hi - lo := w64_id (by unfold In64; omega)
  refine ⟨?_, e2, e3, e5⟩
  refine rmE_ok hm (rmE0_ok hm h4 (by rw [e1]; rfl) (by rw [e4]; rfl) (.inr (by rw [e2, e3, e5, e6]; simp))) ?_
  unfold oneB
  rw [e2, e3, k.fd, Bool.true_and, decide_eq_true_eq]
  exact k.en
theorem stays_law {l : List Ar} (hm : mayS l = true) {a : Ar} (ha : a ∈ l) {c : Cl} (h1 : c.a = a.s) (h2 : c.n = a.e - a.s) (h3 : c.w = a.e - a.s) (h4 : c.f = 0) : remN l c = okA a.s ∧ remL l c = l := by
  obtain ⟨hrt, h24⟩ := mayS_rt hm
  have fa := fo.1 (hrt.1 a ha)
  have g1 := fa.lo; have g2 := fa.hi; have g3 := fa.lt
  obtain ⟨f1, f2⟩ := found_mem hrt ha (x := a.s) ⟨Int.le_refl _, fa.lt⟩
  have k : FoundOk l a.s a.e := ⟨hrt, ar_rg fa, f1, by rw [f2]; omega⟩
  obtain ⟨e0, e1, e2, e3⟩ := rm_whole hm k h1 h2 h3 (by rw [h4]; decide +kernel)
  obtain ⟨q1, q2⟩ := rm_go e0
  have b1 : bitB c.f 1 = false := by rw [h4]; decide +kernel
  have b2 : bitB c.f 32 = false := by rw [h4]; decide +kernel
  have w1 : w64 (a.e - a.s) = a.e - a.s := w64_id (by unfold In64; omega)
  have w2 : w64 (a.s + (a.e - a.s)) = a.e := (w64_id (by unfold In64; omega)).trans (by omega)
  have hc : cutL l a.e a.e = l := by rw [← cut_all (of_rt hrt) (by rw [decide_eq_true_eq]; omega), List.append_nil]
  have hd : decide ((24 : Int) < (l.length : Int)) = false := by rw [decide_eq_false_iff_not]; omega
  rw [q1, q2]
  unfold remM remK
  rw [b1, b2, e1, e2, e3, w1, w2, hc]
  simp only [Bool.false_eq_true, if_false]
  rw [if_pos (by rw [decide_eq_true_eq]; omega), if_pos (by rw [decide_eq_true_eq]; omega), (kept_yes (was := l) hd).2, (kept_yes (v := 0) (was := l) hd).1]
  exact ⟨rfl, rfl⟩
/-! ### There and back -/
theorem filt_len {α : Type} (p : α → Bool) : ∀ l : List α, (l.filter p).length + (l.filter fun x => !p x).length = l.length
  | [] => rfl
  | x :: r => by
    have := filt_len p r
    rw [List.filter_cons, List.filter_cons]
    cases p x <;> simp <;> omega
theorem swap_len {l : List Ar} (hl : Rt l) {a b : Ar} (ha : a ∈ l) (hb : Fo b) (hf : ∀ d ∈ l, ¬ (b.s < d.e ∧ d.s < b.e)) : (putL (cutL l a.s a.e) b).length ≤ l.length := by
  have fa := fo.1 (hl.1 a ha)
  obtain ⟨i1, i2⟩ := fo_in fa
  obtain ⟨c1, c2⟩ := cut_spec hl i1 i2
  obtain ⟨p1, p2⟩ := put_spec c1 hb
  have hx : ∀ d ∈ l.filter (fun d => d.s != a.s), d ∈ l ∧ d.s ≠ a.s := fun d hd => by
    obtain ⟨h1, h2⟩ := List.mem_filter.1 hd
    exact ⟨h1, bne_yes h2⟩
  have hlt : (l.filter (fun d => d.s != a.s)).length < l.length := List.length_filter_lt_length_iff_exists.2 ⟨a, ha, by simp⟩
  have hok := hl.ok
  have ox : (l.filter (fun d => d.s != a.s)).Pairwise (fun a b => a.e ≤ b.s) := hok.2.sublist List.filter_sublist
  have sp := filt_len (fun d : Ar => decide (d.e ≤ b.s)) (l.filter (fun d => d.s != a.s))
  have hbl := hb.lt
  have m1 : ∀ d ∈ (l.filter (fun d => d.s != a.s)).filter (fun d : Ar => decide (d.e ≤ b.s)), d ∈ l.filter (fun d => d.s != a.s) ∧ d.e ≤ b.s := fun d hd => by
    obtain ⟨h1, h2⟩ := List.mem_filter.1 hd
    exact ⟨h1, of_decide_eq_true h2⟩
  have m2 : ∀ d ∈ (l.filter (fun d => d.s != a.s)).filter (fun d : Ar => !decide (d.e ≤ b.s)), d ∈ l.filter (fun d => d.s != a.s) ∧ b.e ≤ d.s := fun d hd => by
    obtain ⟨h1, h2⟩ := List.mem_filter.1 hd
    rw [Bool.not_eq_true', decide_eq_false_iff_not] at h2
    refine ⟨h1, ?_⟩
    have := hf d (hx d h1).1
    omega
  have hM : Ok ((l.filter (fun d => d.s != a.s)).filter (fun d : Ar => decide (d.e ≤ b.s)) ++ ([b] ++ (l.filter (fun d => d.s != a.s)).filter (fun d : Ar => !decide (d.e ≤ b.s)))) := by
    refine ⟨fun d hd => ?_, ?_⟩
    · rcases List.mem_append.1 hd with h | h
      · exact hl.1 d (hx d (m1 d h).1).1
      · rcases List.mem_append.1 h with h | h
        · rw [List.mem_singleton.1 h]; exact fo.2 hb
        · exact hl.1 d (hx d (m2 d h).1).1
    · rw [List.pairwise_append]
      refine ⟨ox.sublist List.filter_sublist, ?_, fun d hd e he => ?_⟩
      · rw [List.pairwise_append]
        refine ⟨List.pairwise_singleton _ _, ox.sublist List.filter_sublist, fun d hd e he => ?_⟩
        rw [List.mem_singleton.1 hd]
        exact (m2 e he).2
      · have h1 := (m1 d hd).2
        rcases List.mem_append.1 he with h | h
        · rw [List.mem_singleton.1 h]; exact h1
        · have := (m2 e h).2
          omega
  have hlen : ((l.filter (fun d => d.s != a.s)).filter (fun d : Ar => decide (d.e ≤ b.s)) ++ ([b] ++ (l.filter (fun d => d.s != a.s)).filter (fun d : Ar => !decide (d.e ≤ b.s)))).length ≤ l.length := by
    rw [List.length_append, List.length_append]
    have : [b].length = 1 := rfl
    omega
  refine Nat.le_trans (rt_short p1 hM fun x t hx' => ?_) hlen
  rw [p2 x t hx', c2 x t hx', touch_ar fa hx', has_app, has_app, has_one]
  have key : (Has ((l.filter (fun d => d.s != a.s)).filter (fun d : Ar => decide (d.e ≤ b.s))) x t ∨ Has ((l.filter (fun d => d.s != a.s)).filter (fun d : Ar => !decide (d.e ≤ b.s))) x t) ↔ Has l x t ∧ ¬ inA a x := by
    constructor
    · intro h
      have h2 : ∃ d ∈ l.filter (fun d => d.s != a.s), inA d x ∧ ext d x = t := by
        rcases h with ⟨d, hd, h⟩ | ⟨d, hd, h⟩
        · exact ⟨d, (m1 d hd).1, h⟩
        · exact ⟨d, (m2 d hd).1, h⟩
      obtain ⟨d, hd, h3, h4⟩ := h2
      refine ⟨⟨d, (hx d hd).1, h3, h4⟩, fun h5 => (hx d hd).2 ?_⟩
      rw [rt_disj hok (hx d hd).1 ha h3 h5]
    · rintro ⟨⟨d, hd, h3, h4⟩, h5⟩
      have hne : d.s ≠ a.s := fun he => by
        have fd := fo.1 (hl.1 d hd)
        have : d = a := rt_disj hok hd ha (x := d.s) ⟨Int.le_refl _, fd.lt⟩ ⟨by omega, by have := fa.lt; omega⟩
        subst this
        exact h5 h3
      have hd2 : d ∈ l.filter (fun d => d.s != a.s) := List.mem_filter.2 ⟨hd, by simpa using hne⟩
      by_cases hc : d.e ≤ b.s
      · exact .inl ⟨d, List.mem_filter.2 ⟨hd2, decide_eq_true hc⟩, h3, h4⟩
      · exact .inr ⟨d, List.mem_filter.2 ⟨hd2, by rw [decide_eq_false hc]; rfl⟩, h3, h4⟩
  have hdis : ∀ t', Has l x t' → ¬ inA b x := fun t' ⟨d, hd, h1, _⟩ h2 => hf d hd ⟨by have := h1.2; have := h2.1; omega, by have := h1.1; have := h2.2; omega⟩
  constructor
  · rintro (h | ⟨h, h2⟩)
    · exact .inr (.inl h)
    · rcases key.2 h with h3 | h3
      · exact .inl h3
      · exact .inr (.inr h3)
  · rintro (h | h | h)
    · have := key.1 (.inl h)
      exact .inr ⟨this, hdis t this.1⟩
    · exact .inl h
    · have := key.1 (.inr h)
      exact .inr ⟨this, hdis t this.1⟩
theorem one_area {l : List Ar} (hl : Rt l) {a : Ar} (ha : Fo a) (h : ∀ x, x % 4096 = 0 → inA a x → Has l x (ext a x)) : ∃ d ∈ l, d.s ≤ a.s ∧ a.e ≤ d.e ∧ ∀ y, ext d y = ext a y := by
  have a1 := ha.s0; have a2 := ha.e0; have a3 := ha.lt
  obtain ⟨d, hd, h1, h2⟩ := h a.s a1 ⟨Int.le_refl _, a3⟩
  have hall : ∀ y, ext d y = ext a y := fun y => ext_all h2
  refine ⟨d, hd, h1.1, ?_, hall⟩
  by_cases hc : a.e ≤ d.e
  · exact hc
  · exfalso
    have fd := fo.1 (hl.1 d hd)
    have d0 := fd.e0; have d1 := h1.2
    obtain ⟨e, he, g1, g2⟩ := h d.e d0 ⟨by omega, by omega⟩
    have fe := fo.1 (hl.1 e he)
    have e0 := fe.s0
    have hs : e.s = d.e := by
      by_cases hlt : e.s < d.e
      · have dz := fd.s0
        have : d = e := rt_disj hl.ok hd he (x := d.e - 4096) ⟨by have := fd.lt; omega, by omega⟩ ⟨by omega, by have := g1.2; omega⟩
        subst this
        have := g1.2
        omega
      · have := g1.1
        omega
    have hg : goesA d e = true := goes_ext.2 ⟨fd, fe, hs.symm, by rw [hs, hall, g2]⟩
    have hpw := hl.2
    have hne : d ≠ e := fun hh => by subst hh; have := g1.2; omega
    have key : ∀ {L : List Ar}, L.Pairwise (fun a b => a.e ≤ b.s ∧ goesA a b = false) → d ∈ L → e ∈ L → False := by
      intro L
      induction L with
      | nil => intro _ h _; cases h
      | cons z r ih =>
        intro hp m1 m2
        rw [List.pairwise_cons] at hp
        rcases List.mem_cons.1 m1 with m1 | m1
        · rcases List.mem_cons.1 m2 with m2 | m2
          · exact hne (m1.trans m2.symm)
          · have := (hp.1 e m2).2
            rw [← m1, hg] at this
            cases this
        · rcases List.mem_cons.1 m2 with m2 | m2
          · have := (hp.1 d m1).1
            rw [← m2] at this
            have := fe.lt; have := fd.lt
            omega
          · exact ih hp.2 m1 m2
    exact key hpw hd he
theorem rm_fixed {l : List Ar} (hm : mayS l = true) {lo hi p : Int} (k : FoundOk l lo hi) (hp : RgOk p (p + (hi - lo))) (hov : ¬ (p < hi ∧ lo < p + (hi - lo))) {c : Cl} (h1 : c.a = lo) (h2 : c.n = hi - lo) (h3 : c.w = hi - lo) (h4 : c.to = p) (h5 : c.f = 17) (hle : (putL (cutL l lo hi) (mvA (oldA l lo hi) p (hi - lo))).length ≤ 24) :
    remN l c = okA p ∧ remL l c = putL (cutL l lo hi) (mvA (oldA l lo hi) p (hi - lo)) := by
  obtain ⟨e0, e1, e2, e3⟩ := rm_whole hm k h1 h2 h3 (by rw [h5]; decide +kernel)
  obtain ⟨q1, q2⟩ := rm_go e0
  have b1 : bitB c.f 1 = true := by rw [h5]; decide +kernel
  have b2 : bitB c.f 32 = false := by rw [h5]; decide +kernel
  have g1 := k.rg.lo; have g2 := k.rg.hi; have g3 := k.rg.lt
  obtain ⟨r1, r2, r3⟩ := range_self hp
  have ed : p + (hi - lo) - p = hi - lo := by omega
  rw [ed] at r1 r2 r3
  have eo : rmO l c = oldA l lo hi := by
    show partA (findL l (rmLo c)) (rmLo c) (rmHi c) = _
    rw [e1, e2]
  have fO := fd_fo k
  have hl : longK (oldA l lo hi).b (oldA l lo hi).o (hi - lo) = false := by
    unfold longK
    by_cases hb : (oldA l lo hi).b = 0
    · rw [hb]; rfl
    · have ho := fO.om hb
      obtain ⟨o1, o2⟩ := old_se k
      have ho2 : (oldA l lo hi).o ≤ 1099511627776 - ((oldA l lo hi).e - (oldA l lo hi).s) := ho.2.2
      rw [o1, o2] at ho2
      rw [w64_id (show In64 (1099511627776 - (hi - lo)) by unfold In64; omega), show decide ((oldA l lo hi).o > 1099511627776 - (hi - lo)) = false by rw [decide_eq_false_iff_not]; omega, Bool.and_false]
  have ek : kfE c lo hi (hi - lo) (oldA l lo hi) = 0 := by
    unfold kfE
    rw [h4, h3, r1, r2, r3, if_neg (by simp), if_neg (by rw [Bool.and_eq_true, decide_eq_true_eq, decide_eq_true_eq]; omega), hl]
    rfl
  have hd : decide ((24 : Int) < ((putL (cutL l lo hi) (mvA (oldA l lo hi) p (hi - lo))).length : Int)) = false := by rw [decide_eq_false_iff_not]; omega
  have em : mvL l c.f lo hi (oldA l lo hi) p (hi - lo) = putL (cutL l lo hi) (mvA (oldA l lo hi) p (hi - lo)) := by unfold mvL; rw [b2, if_neg (by simp)]
  rw [q1, q2]
  unfold remM remK
  rw [b1, if_pos rfl, if_pos rfl, eo, e1, e2, e3]
  unfold kfN kfL
  rw [ek, if_neg (by simp), if_neg (by simp), h4, h3, r2, em, (kept_yes (was := l) hd).2, (kept_yes (v := 0) (was := l) hd).1]
  exact ⟨rfl, rfl⟩
theorem there_law {l : List Ar} (hm : mayS l = true) {a : Ar} (ha : a ∈ l) {p : Int} (p0 : p % 4096 = 0) (p1 : 65536 ≤ p) (hf : ∀ d ∈ l, ¬ (p < d.e ∧ d.s < p + (a.e - a.s))) {c d : Cl} (h1 : c.a = a.s ∧ c.n = a.e - a.s ∧ c.w = a.e - a.s ∧ c.to = p ∧ c.f = 17) (h2 : d.a = p ∧ d.n = a.e - a.s ∧ d.w = a.e - a.s ∧ d.to = a.s ∧ d.f = 17) :
    ((remN l c).er ≠ 0 → 2097152 < p + (a.e - a.s)) ∧ ((remN l c).er = 0 → remN l c = okA p ∧ remN (remL l c) d = okA a.s ∧ remL (remL l c) d = l) := by
  obtain ⟨hrt, h24⟩ := mayS_rt hm
  have fa := fo.1 (hrt.1 a ha)
  have g1 := fa.lo; have g2 := fa.hi; have g3 := fa.lt; have g4 := fa.s0; have g5 := fa.e0
  obtain ⟨f1, f2⟩ := found_mem hrt ha (x := a.s) ⟨Int.le_refl _, fa.lt⟩
  have k : FoundOk l a.s a.e := ⟨hrt, ar_rg fa, f1, by rw [f2]; omega⟩
  obtain ⟨c1, c2, c3, c4, c5⟩ := h1
  obtain ⟨d1, d2, d3, d4, d5⟩ := h2
  by_cases hle : p + (a.e - a.s) ≤ 2097152
  · have rp : RgOk p (p + (a.e - a.s)) := ⟨p1, hle, by omega, p0, by omega⟩
    have eo : oldA l a.s a.e = a := old_self k f2 fa
    have wb : w64 (p + (a.e - a.s)) = p + (a.e - a.s) := w64_id (by unfold In64; omega)
    have fb : Fo (mvA a p (a.e - a.s)) := by
      refine fo.1 ((formed_iff _).2 ?_)
      show p % 4096 = 0 ∧ w64 (p + (a.e - a.s)) % 4096 = 0 ∧ 65536 ≤ p ∧ w64 (p + (a.e - a.s)) ≤ 2097152 ∧ p < w64 (p + (a.e - a.s)) ∧ 0 ≤ a.p ∧ a.p ≤ 7 ∧ 0 ≤ a.b ∧ a.b ≤ 9 ∧ _
      rw [wb]
      refine ⟨p0, by omega, p1, hle, by omega, fa.p0, fa.p7, fa.b0, fa.b9, fa.oz, fun hne => ?_⟩
      have ho := fa.om hne
      refine ⟨ho.1, ho.2.1, ?_⟩
      show a.o ≤ 1099511627776 - (w64 (p + (a.e - a.s)) - p)
      rw [wb]
      omega
    have bs : (mvA a p (a.e - a.s)).s = p := rfl
    have be : (mvA a p (a.e - a.s)).e = p + (a.e - a.s) := wb
    have hlen := swap_len hrt ha fb (fun d hd => by rw [bs, be]; exact hf d hd)
    have hov : ¬ (p < a.e ∧ a.s < p + (a.e - a.s)) := hf a ha
    obtain ⟨q1, q2⟩ := rm_fixed hm k rp hov c1 c2 c3 c4 c5 (by rw [eo]; omega)
    rw [eo] at q2
    refine ⟨fun h => absurd (by rw [q1]; rfl) h, fun _ => ⟨q1, ?_⟩⟩
    -- the list behind the first move
    obtain ⟨i1, i2⟩ := fo_in fa
    obtain ⟨k1, k2⟩ := cut_spec hrt i1 i2
    obtain ⟨m1, m2⟩ := put_spec k1 fb
    have hm2 : mayS (remL l c) = true := by rw [q2]; exact rt_mayS m1 (by omega)
    have hrt2 : Rt (remL l c) := (mayS_rt hm2).1
    have has2 : ∀ x t, x % 4096 = 0 → (Has (remL l c) x t ↔ (inA (mvA a p (a.e - a.s)) x ∧ ext (mvA a p (a.e - a.s)) x = t) ∨ ((Has l x t ∧ ¬ inA a x) ∧ ¬ inA (mvA a p (a.e - a.s)) x)) := fun x t hx => by
      rw [q2, m2 x t hx, k2 x t hx, touch_ar fa hx]
    obtain ⟨D, hD, D1, D2, D3⟩ := one_area hrt2 fb fun x hx hin => (has2 x _ hx).2 (.inl ⟨hin, rfl⟩)
    rw [bs] at D1
    rw [be] at D2
    obtain ⟨n1, n2⟩ := found_mem hrt2 hD (x := p) ⟨D1, by omega⟩
    have k' : FoundOk (remL l c) p (p + (a.e - a.s)) := ⟨hrt2, rp, n1, by rw [n2]; exact D2⟩
    have ed : p + (a.e - a.s) - p = a.e - a.s := by omega
    have hback : a.s + (p + (a.e - a.s) - p) = a.e := by omega
    have ea : RgOk a.s (a.s + (p + (a.e - a.s) - p)) := by rw [hback]; exact ar_rg fa
    -- what is put back is the area
    have eb : ∀ x, ext (mvA (oldA (remL l c) p (p + (a.e - a.s))) a.s (p + (a.e - a.s) - p)) x = ext a x := fun x => by
      rw [mv_ext, (old_se k').1, old_ext k', n2, D3, mv_ext]
      congr 1
      omega
    have inb : ∀ x, inA (mvA (oldA (remL l c) p (p + (a.e - a.s))) a.s (p + (a.e - a.s) - p)) x ↔ inA a x := fun x => by
      unfold inA mvA
      show a.s ≤ x ∧ x < w64 (a.s + (p + (a.e - a.s) - p)) ↔ _
      rw [hback, w64_id (show In64 a.e by unfold In64; omega)]
    have fo2 : Fo (mvA (oldA (remL l c) p (p + (a.e - a.s))) a.s (p + (a.e - a.s) - p)) := by
      have hO := fd_fo k'
      have w2 : w64 (a.s + (p + (a.e - a.s) - p)) = a.e := by rw [hback]; exact w64_id (by unfold In64; omega)
      refine fo.1 ((formed_iff _).2 ?_)
      show a.s % 4096 = 0 ∧ w64 (a.s + (p + (a.e - a.s) - p)) % 4096 = 0 ∧ 65536 ≤ a.s ∧ w64 (a.s + (p + (a.e - a.s) - p)) ≤ 2097152 ∧ a.s < w64 (a.s + (p + (a.e - a.s) - p)) ∧ 0 ≤ (oldA (remL l c) p (p + (a.e - a.s))).p ∧ (oldA (remL l c) p (p + (a.e - a.s))).p ≤ 7 ∧ 0 ≤ (oldA (remL l c) p (p + (a.e - a.s))).b ∧ (oldA (remL l c) p (p + (a.e - a.s))).b ≤ 9 ∧ _
      rw [w2]
      refine ⟨g4, g5, g1, g2, g3, hO.p0, hO.p7, hO.b0, hO.b9, hO.oz, fun hne => ?_⟩
      have hne : (oldA (remL l c) p (p + (a.e - a.s))).b ≠ 0 := hne
      have ho := hO.om hne
      obtain ⟨o1, o2⟩ := old_se k'
      refine ⟨ho.1, ho.2.1, ?_⟩
      show (oldA (remL l c) p (p + (a.e - a.s))).o ≤ 1099511627776 - (w64 (a.s + (p + (a.e - a.s) - p)) - a.s)
      rw [w2]
      have ho2 : (oldA (remL l c) p (p + (a.e - a.s))).o ≤ 1099511627776 - ((oldA (remL l c) p (p + (a.e - a.s))).e - (oldA (remL l c) p (p + (a.e - a.s))).s) := ho.2.2
      rw [o1, o2] at ho2
      omega
    obtain ⟨u1, u2⟩ := cut_spec hrt2 (lo := p) (hi := p + (a.e - a.s)) (by unfold In64; omega) (by unfold In64; omega)
    obtain ⟨v1, v2⟩ := put_spec u1 fo2
    have eL : putL (cutL (remL l c) p (p + (a.e - a.s))) (mvA (oldA (remL l c) p (p + (a.e - a.s))) a.s (p + (a.e - a.s) - p)) = l := by
      refine rt_ext v1 hrt fun x t hx => ?_
      rw [v2 x t hx, u2 x t hx, has2 x t hx, inb, eb]
      have tp : Touch x p (p + (a.e - a.s)) ↔ inA (mvA a p (a.e - a.s)) x := by
        rw [← touch_ar fb hx, bs, be]
      rw [tp]
      have own : ∀ t', inA a x → (Has l x t' ↔ ext a x = t') := fun t' hin => ⟨fun h => (has_fun hrt.ok ⟨a, ha, hin, rfl⟩ h), fun h => ⟨a, ha, hin, h⟩⟩
      have dis : ∀ t', Has l x t' → ¬ inA (mvA a p (a.e - a.s)) x := fun t' ⟨z, hz, y1, _⟩ y2 => by
        have y3 : p ≤ x := y2.1
        have y4 : x < p + (a.e - a.s) := by have := y2.2; rw [be] at this; exact this
        exact hf z hz ⟨by have := y1.2; omega, by have := y1.1; omega⟩
      constructor
      · rintro (⟨y1, y2⟩ | ⟨⟨y1, y2⟩, y3⟩)
        · exact (own t y1).2 y2
        · rcases y1 with y1 | y1
          · exact absurd y1.1 y2
          · exact y1.1.1
      · intro y
        by_cases hin : inA a x
        · exact .inl ⟨hin, (own t hin).1 y⟩
        · exact .inr ⟨⟨.inr ⟨⟨y, hin⟩, dis t y⟩, dis t y⟩, hin⟩
    obtain ⟨z1, z2⟩ := rm_fixed (c := d) hm2 k' ea (by omega) d1 (by rw [d2]; omega) (by rw [d3]; omega) d4 d5 (by rw [eL]; exact h24)
    rw [eL] at z2
    exact ⟨z1, z2⟩
  · refine ⟨fun _ => by omega, fun h => ?_⟩
    exfalso
    obtain ⟨e0, e1, e2, e3⟩ := rm_whole hm k c1 c2 c3 (by rw [c5]; decide +kernel)
    obtain ⟨q1, q2⟩ := rm_go e0
    have b1 : bitB c.f 1 = true := by rw [c5]; decide +kernel
    have hr : rangeE c.to c.w ≠ 0 := fun hr => by
      obtain ⟨r1, r2, r3, r4⟩ := range_ok hr
      have := r1.hi
      rw [r3, e3, c4] at this
      omega
    have hk : kfE c (rmLo c) (rmHi c) (sizeV c.w) (rmO l c) = rangeE c.to c.w := by
      unfold kfE
      rw [if_pos (by simpa using hr)]
    rw [q1] at h
    unfold remM at h
    rw [b1, if_pos rfl] at h
    unfold kfN at h
    rw [hk, if_pos (by simpa using hr)] at h
    exact hr h
end Go.Proofs.Ytbcicjmepojlnaa.Eng
/- Remap: what its laws ask; no condition but those typed. -/
namespace Go.Proofs.Ytbcicjmepojlnaa.Eng
open Go Go.RowKit
set_option autoImplicit false
set_option linter.unusedSimpArgs false
set_option linter.unusedVariables false
theorem ka_bd (l : List Ar) (f lo hi n : Int) (o : Ar) : (kaL l f lo hi n o).length ≤ l.length + 24 := by
  unfold kaL
  split
  · omega
  · exact kept_len _ _
theorem rem_bd (l : List Ar) (c : Cl) : (remL l c).length ≤ l.length + 24 := by
  unfold remL
  split
  · omega
  · unfold remK
    split
    · unfold kfL
      split
      · omega
      · exact kept_len _ _
    · split
      · exact ka_bd _ _ _ _ _ _
      · split
        · exact kept_len _ _
        · unfold kgL
          split
          · omega
          · split
            · exact kept_len _ _
            · split
              · exact ka_bd _ _ _ _ _ _
              · omega
theorem ka_self {l : List Ar} {f lo hi n : Int} {o : Ar} (h : ((kaN l f lo hi n o).er != 0) = true) : kaL l f lo hi n o = l := by
  unfold kaN at h
  unfold kaL
  by_cases hp : (placeE l 0 n 0 != 0) = true
  · rw [if_pos hp]
  · rw [if_neg hp] at h ⊢
    exact keptN_er h
theorem rem_self {l : List Ar} {c : Cl} (h : ((remN l c).er != 0) = true) : remL l c = l := by
  unfold remN at h
  unfold remL
  by_cases h0 : (rmE l c != 0) = true
  · rw [if_pos h0]
  · rw [if_neg h0] at h ⊢
    unfold remM at h
    unfold remK
    by_cases b1 : bitB c.f 1 = true
    · rw [if_pos b1] at h ⊢
      unfold kfN at h
      unfold kfL
      by_cases hk : (kfE c (rmLo c) (rmHi c) (sizeV c.w) (rmO l c) != 0) = true
      · rw [if_pos hk]
      · rw [if_neg hk] at h ⊢
        exact keptN_er h
    · rw [if_neg b1] at h ⊢
      by_cases b2 : bitB c.f 32 = true
      · rw [if_pos b2] at h ⊢
        exact ka_self h
      · rw [if_neg b2] at h ⊢
        by_cases b3 : decide (sizeV c.w ≤ w64 (rmHi c - rmLo c)) = true
        · rw [if_pos b3] at h ⊢
          exact keptN_er h
        · rw [if_neg b3] at h ⊢
          unfold kgN at h
          unfold kgL
          by_cases hl : longK (rmO l c).b (rmO l c).o (sizeV c.w) = true
          · rw [if_pos hl]
          · rw [if_neg hl] at h ⊢
            by_cases hg : growB l (rmLo c) (rmHi c) (sizeV c.w) (rmW l c).e = true
            · rw [if_pos hg] at h ⊢
              exact keptN_er h
            · rw [if_neg hg] at h ⊢
              by_cases b4 : bitB c.f 16 = true
              · rw [if_pos b4] at h ⊢
                exact ka_self h
              · rw [if_neg b4]
theorem rem_no {l : List Ar} (h : mayS l = false) (c : Cl) : remN l c = errA 1 ∧ remL l c = l := by
  have he : rmE l c = 1 := by unfold rmE; rw [h]; rfl
  unfold remN remL
  rw [he]
  exact ⟨rfl, rfl⟩
theorem rem_l1 (l : List Ar) (c : Cl) : (remL (someL l) c).length ≤ 300000 := by have := rem_bd (someL l) c; have := someL_le l; omega
theorem rem_l2 (l : List Ar) (c : Cl) : (remL (someL l) c).length ≤ 1000000 := by have := rem_bd (someL l) c; have := someL_le l; omega
theorem rem_l3 (l : List Ar) (c d : Cl) : (remL (remL (someL l) c) d).length ≤ 1000000 := by have := rem_bd (remL (someL l) c) d; have := rem_bd (someL l) c; have := someL_le l; omega
theorem rem_l4 {l : List Ar} (c : Cl) (h : decide ((40 : Int) < (l.length : Int)) = false) : (remL l c).length ≤ 1000000 := by have := rem_bd l c; have := of_decide_eq_false h; omega
end Go.Proofs.Ytbcicjmepojlnaa.Eng
