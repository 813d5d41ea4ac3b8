/- Texts of this work, laid together: symbolic execution over the model, contracts of the program's functions, what they come to; conditions: as each says. -/
import Derived.Test.YtbcicjmepojlnaaPkHAAAA
/- What a map comes to, where it comes about: free places, what is mapped again; no condition but those typed. -/
namespace Go.Proofs.Ytbcicjmepojlnaa.Eng
open Go Go.RowKit
set_option autoImplicit false
set_option linter.unusedSimpArgs false
set_option linter.unusedVariables false
set_option linter.unusedSectionVars false

/-- What is asked rightly. -/
structure AskOk (c : Cl) : Prop where
  sz : sizeE c.n = 0
  p0 : 0 ≤ c.p
  p7 : c.p ≤ 7
  f0 : 0 ≤ c.f
  f15 : c.f ≤ 15
  f2 : (bits .and .i64 c.f 3 == 2) = false
  b : backE c.b c.o (sizeV c.n) = 0
theorem ask_ok {c : Cl} (hf : In64 c.f) (h : askE c = 0) : AskOk c := by
  have h2 : sizeE c.n = 0 ∧ protE c.p = 0 ∧ flagsE c.f 15 = 0 ∧ (bits .and .i64 c.f 3 == 2) = false ∧ backE c.b c.o (sizeV c.n) = 0 := by
    unfold askE at h
    by_cases b1 : sizeE c.n = 0
    · rw [b1, if_neg (by simp)] at h
      by_cases b2 : protE c.p = 0
      · rw [b2, if_neg (by simp)] at h
        by_cases b3 : flagsE c.f 15 = 0
        · rw [b3, if_neg (by simp)] at h
          cases b4 : (bits .and .i64 c.f 3 == 2) with
          | true => rw [b4, if_pos rfl] at h; cases h
          | false => rw [b4, if_neg (by simp)] at h; exact ⟨b1, b2, b3, rfl, h⟩
        · rw [if_pos (by simpa using b3)] at h; exact absurd h b3
      · rw [if_pos (by simpa using b2)] at h; exact absurd h b2
    · rw [if_pos (by simpa using b1)] at h; exact absurd h b1
  obtain ⟨k1, k2, k3, k4, k5⟩ := h2
  have hp : 0 ≤ c.p ∧ c.p ≤ 7 := by
    by_cases hc : c.p < 0
    · rw [prot_no (.inl (decide_eq_true hc))] at k2; cases k2
    · by_cases hc2 : 7 < c.p
      · rw [prot_no (.inr (decide_eq_true hc2))] at k2; cases k2
      · omega
  have hff : 0 ≤ c.f ∧ c.f ≤ 15 := by
    by_cases hc : c.f < 0
    · rw [fl15_no hf (.inl (decide_eq_true hc))] at k3; cases k3
    · by_cases hc2 : 15 < c.f
      · rw [fl15_no hf (.inr (decide_eq_true hc2))] at k3; cases k3
      · omega
  exact ⟨k1, hp.1, hp.2, hff.1, hff.2, k4, k5⟩
theorem ok_ask {c : Cl} (h : AskOk c) : askE c = 0 := by
  have hp : protE c.p = 0 := prot_ok (by rw [decide_eq_false_iff_not]; have := h.p0; omega) (by rw [decide_eq_false_iff_not]; have := h.p7; omega)
  have hf : flagsE c.f 15 = 0 := (fl15 (by rw [decide_eq_false_iff_not]; have := h.f0; omega) (by rw [decide_eq_false_iff_not]; have := h.f15; omega)).1
  unfold askE
  rw [h.sz, hp, hf, h.f2]
  exact h.b
/-- A map that came about. -/
structure MapOk (l : List Ar) (c : Cl) : Prop where
  ask : AskOk c
  pl : placeE l c.a (sizeV c.n) c.f = 0
  fo : Fo (mapA l c)
  e : (mapA l c).e = mapV l c + sizeV c.n
  eq : mapL l c = putL l (mapA l c)
  n : mapN l c = okA (mapV l c)
  le : (putL l (mapA l c)).length ≤ 24
theorem map_yes {l : List Ar} {c : Cl} (hm : mayS l = true) (ha : In64 c.a) (hf : In64 c.f) (h : (mapN l c).er = 0) : MapOk l c := by
  have he : mapE l c = 0 := by
    unfold mapN at h
    by_cases hb : (mapE l c != 0) = true
    · rw [if_pos hb] at h
      exact h
    · simpa using hb
  have h1 : askE c = 0 ∧ placeE l c.a (sizeV c.n) c.f = 0 := by
    unfold mapE at he
    rw [hm, if_neg (by simp)] at he
    by_cases hb : askE c = 0
    · rw [hb, if_neg (by simp)] at he
      exact ⟨hb, he⟩
    · rw [if_pos (by simpa using hb)] at he
      exact absurd he hb
  obtain ⟨k1, k2⟩ := h1
  have k := ask_ok hf k1
  obtain ⟨hfo, hen⟩ := map_fo hm (by rw [k.sz]; rfl) ha (by rw [decide_eq_false_iff_not]; have := k.p0; omega) (by rw [decide_eq_false_iff_not]; have := k.p7; omega) k.b (by rw [k2]; rfl)
  obtain ⟨g1, g2⟩ := mp_ok hm k1 (by rw [k2]; rfl)
  cases hd : decide ((24 : Int) < ((putL l (mapA l c)).length : Int)) with
  | true =>
    rw [g1, (kept_no (was := l) hd).2] at h
    cases h
  | false =>
    rw [(kept_yes (was := l) hd).2] at g1
    rw [(kept_yes (v := 0) (was := l) hd).1] at g2
    have := of_decide_eq_false hd
    exact ⟨k, k2, hfo, hen, g2, g1, by omega⟩
/-- A place that is not told is free. -/
theorem map_free {l : List Ar} {c : Cl} (hm : mayS l = true) (ha : In64 c.a) (k : MapOk l c) (hb : bitB c.f 1 = false) : FreeR l (mapV l c) (mapV l c + sizeV c.n) := by
  have hrt := (mayS_rt hm).1
  have hn := (size_ok k.ask.sz).1
  have n1 := hn.lo
  have n2 := hn.hi
  have h64 : In64 (sizeV c.n) := by unfold In64; omega
  have hp := k.pl
  unfold mapV placeV
  unfold placeE at hp
  rw [hm, hb, if_neg (by simp), if_neg (by simp)] at hp ⊢
  by_cases b2 : (c.a != 0 && fitsL l c.a (sizeV c.n)) = true
  · rw [if_pos b2]
    rw [Bool.and_eq_true] at b2
    exact ((fits_iff hrt ha h64).1 b2.2).2.2.2.2
  · rw [if_neg b2] at hp ⊢
    by_cases b3 : pickB l (sizeV c.n) c.f = true
    · rw [if_pos b3]
      have hs : sizeG (sizeV c.n) = true := (sizeG_iff h64).2 ⟨n1, n2, hn.z⟩
      unfold pickB at b3
      unfold pickV
      split
      · rename_i b4
        rw [if_pos b4] at b3
        exact ((low_spec hrt hs h64).1 b3).1.free
      · rename_i b4
        rw [if_neg b4] at b3
        exact ((high_spec hrt hs h64).1 b3).1.free
    · rw [if_neg b3] at hp
      cases hp
theorem map_rng {l : List Ar} {c : Cl} (hm : mayS l = true) (ha : In64 c.a) (k : MapOk l c) : RgOk (mapV l c) (mapV l c + sizeV c.n) ∧ rangeE (mapV l c) c.n = 0 ∧ rangeLo (mapV l c) c.n = mapV l c ∧ rangeHi (mapV l c) c.n = mapV l c + sizeV c.n := by
  have hn := (size_ok k.ask.sz).1
  have n1 := hn.lo
  have n3 := hn.z
  obtain ⟨r1, r2, r3⟩ := place_rng hm hn ha k.pl
  have r1 : 65536 ≤ mapV l c := r1
  have r2 : mapV l c + sizeV c.n ≤ 2097152 := r2
  have r3 : mapV l c % 4096 = 0 := r3
  have hr : rangeE (mapV l c) c.n = 0 := (rangeE_iff _ _).2 ⟨r3, k.ask.sz, r1, r2⟩
  obtain ⟨q1, q2, q3, q4⟩ := range_ok hr
  exact ⟨⟨r1, r2, by omega, r3, by omega⟩, hr, q2, q3⟩
theorem map_may {l : List Ar} {c : Cl} (hm : mayS l = true) (k : MapOk l c) : mayS (mapL l c) = true := by
  rw [k.eq]
  exact rt_mayS (put_spec (mayS_rt hm).1 k.fo).1 k.le
/-- What is put where nothing was, and cut, leaves all as it was. -/
theorem put_cut {l : List Ar} (hl : Rt l) {a : Ar} (ha : Fo a) (hf : FreeR l a.s a.e) : cutL (putL l a) a.s a.e = l := by
  obtain ⟨s1, s2⟩ := put_spec hl ha
  obtain ⟨i1, i2⟩ := fo_in ha
  obtain ⟨c1, c2⟩ := cut_spec s1 i1 i2
  refine rt_ext c1 hl fun x t hx => ?_
  rw [c2 x t hx, s2 x t hx, touch_ar ha hx]
  constructor
  · rintro ⟨⟨h1, _⟩ | ⟨h1, _⟩, h3⟩
    · exact absurd h1 h3
    · exact h1
  · intro h
    have h3 : ¬ inA a x := fun hc => hf x hx hc.1 hc.2 t h
    exact ⟨.inr ⟨h, h3⟩, h3⟩
theorem put_twice {l : List Ar} (hl : Rt l) {a : Ar} (ha : Fo a) : putL (putL l a) a = putL l a := by
  obtain ⟨s1, s2⟩ := put_spec hl ha
  obtain ⟨c1, c2⟩ := put_spec s1 ha
  refine rt_ext c1 s1 fun x t hx => ?_
  rw [c2 x t hx, s2 x t hx]
  constructor
  · rintro (h | ⟨h | h, h3⟩)
    · exact .inl h
    · exact .inl h
    · exact .inr ⟨h.1, h3⟩
  · rintro (h | h)
    · exact .inl h
    · exact .inr ⟨.inr h, h.2⟩
theorem free_law {l : List Ar} {c d : Cl} (hm : mayS l = true) (ha : In64 c.a) (hf : In64 c.f) (h : (mapN l c).er = 0) (hb : bitB c.f 1 = false) (d1 : d.a = (mapN l c).v) (d2 : d.n = c.n) :
    someP (ofL l) (mapN l c).v ((mapN l c).v + sizeV c.n) = false ∧ (unN (mapL l c) d).er = 0 ∧ unL (mapL l c) d = l := by
  have k := map_yes hm ha hf h
  have hfr := map_free hm ha k hb
  obtain ⟨g1, g2, g3, g4⟩ := map_rng hm ha k
  have hv : (mapN l c).v = mapV l c := by rw [k.n]; rfl
  rw [hv] at d1 ⊢
  obtain ⟨hrt, h24⟩ := mayS_rt hm
  refine ⟨?_, ?_⟩
  · cases hs : someP (ofL l) (mapV l c) (mapV l c + sizeV c.n) with
    | false => rfl
    | true =>
      exfalso
      obtain ⟨q, hq, h2⟩ := List.any_eq_true.1 hs
      have hq := List.mem_range.1 hq
      rw [Bool.and_eq_true] at h2
      have hlo := g1.lo
      have ht := h2.2
      unfold touB at ht
      rw [Bool.and_eq_true, Bool.and_eq_true, decide_eq_true_eq, decide_eq_true_eq, decide_eq_true_eq] at ht
      have z1 := g1.z
      have h16 : 16 ≤ q := by omega
      exact hfr (4096 * (q : Int)) (by omega) (by omega) (by omega) _ (of_has hrt.ok h16 hq h2.1)
  · have hc : cutL (mapL l c) (mapV l c) (mapV l c + sizeV c.n) = l := by
      have e := put_cut hrt k.fo (by rw [k.e]; exact hfr)
      rw [k.e] at e
      rw [k.eq]
      exact e
    have hu : unE (mapL l c) d = 0 := by
      unfold unE
      rw [map_may hm k, d1, d2, g2]
      rfl
    have hS : unS (mapL l c) d = l := by
      unfold unS
      rw [d1, d2, g3, g4]
      exact hc
    have hd : decide ((24 : Int) < (l.length : Int)) = false := by rw [decide_eq_false_iff_not]; omega
    unfold unN unL
    rw [hu, if_neg (by simp), if_neg (by simp), hS, (kept_yes (v := 0) (was := mapL l c) hd).1, (kept_yes (was := mapL l c) hd).2]
    exact ⟨rfl, rfl⟩
theorem map_at {l : List Ar} {c : Cl} (hm : mayS l = true) (ha : In64 c.a) (h0 : askE c = 0) (h1 : placeE l c.a (sizeV c.n) c.f = 0) (hle : (putL l (mapA l c)).length ≤ 24) : mapN l c = okA (mapV l c) ∧ mapL l c = putL l (mapA l c) := by
  obtain ⟨g1, g2⟩ := mp_ok hm h0 (by rw [h1]; rfl)
  have hd : decide ((24 : Int) < ((putL l (mapA l c)).length : Int)) = false := by rw [decide_eq_false_iff_not]; omega
  rw [(kept_yes (was := l) hd).2] at g1
  rw [(kept_yes (v := 0) (was := l) hd).1] at g2
  exact ⟨g1, g2⟩
/-- Fixed, without NOREPLACE: the place is what was told. -/
theorem fix_plain {l : List Ar} (hm : mayS l = true) {a n f : Int} (b1 : bitB f 1 = true) (b2 : bitB f 2 = false) : placeE l a n f = rangeE a n ∧ (rangeE a n = 0 → placeV l a n f = a) := by
  have e : fixE l a n f = rangeE a n := by
    unfold fixE
    rw [b2, Bool.false_and]
    by_cases hb : rangeE a n = 0
    · rw [hb]; rfl
    · rw [if_pos (by simpa using hb)]
  refine ⟨?_, fun hr => ?_⟩
  · unfold placeE
    rw [hm, if_neg (by simp), if_pos b1, e]
  · unfold placeV fixV
    rw [hm, if_neg (by simp), if_pos b1, e, hr]
    rfl
theorem again_law {l : List Ar} {c d : Cl} (hm : mayS l = true) (ha : In64 c.a) (hf : c.f = 1 ∨ c.f = 5) (h : (mapN l c).er = 0) (hd : d = { c with f := c.f + 2 }) :
    mapN (mapL l c) c = mapN l c ∧ mapL (mapL l c) c = mapL l c ∧ mapN (mapL l c) d = errA 6 ∧ mapL (mapL l c) d = mapL l c := by
  have hb : bitB c.f 1 = true ∧ bitB c.f 2 = false ∧ bitB (c.f + 2) 1 = true ∧ bitB (c.f + 2) 2 = true ∧ (bits .and .i64 (c.f + 2) 3 == 2) = false := by rcases hf with hf | hf <;> rw [hf] <;> decide +kernel
  obtain ⟨b1, b2, b3, b4, b5⟩ := hb
  have k := map_yes hm ha (by unfold In64; omega) h
  have hm2 := map_may hm k
  obtain ⟨hrt, h24⟩ := mayS_rt hm
  obtain ⟨p1, p2⟩ := fix_plain (n := sizeV c.n) (a := c.a) hm b1 b2
  obtain ⟨q1, q2⟩ := fix_plain (n := sizeV c.n) (a := c.a) hm2 b1 b2
  have hr : rangeE c.a (sizeV c.n) = 0 := by rw [← p1]; exact k.pl
  have v1 : mapV l c = c.a := p2 hr
  have v2 : mapV (mapL l c) c = c.a := q2 hr
  have eA : mapA (mapL l c) c = mapA l c := by unfold mapA; rw [v1, v2]
  have e2 : putL (mapL l c) (mapA (mapL l c) c) = mapL l c := by rw [eA, k.eq]; exact put_twice hrt k.fo
  obtain ⟨m1, m2⟩ := map_at (l := mapL l c) (c := c) hm2 ha (ok_ask k.ask) (by rw [q1]; exact hr) (by rw [e2]; exact (mayS_rt hm2).2)
  refine ⟨by rw [m1, k.n, v1, v2], by rw [m2, e2], ?_⟩
  have hk : AskOk d := by
    subst hd
    exact ⟨k.ask.sz, k.ask.p0, k.ask.p7, by show 0 ≤ c.f + 2; omega, by show c.f + 2 ≤ 15; omega, b5, k.ask.b⟩
  have hpl : placeE (mapL l c) d.a (sizeV d.n) d.f = 6 := by
    subst hd
    show placeE (mapL l c) c.a (sizeV c.n) (c.f + 2) = 6
    unfold placeE
    rw [hm2, if_neg (by simp), if_pos b3]
    unfold fixE
    rw [hr, if_neg (by simp), b4, Bool.true_and, if_pos]
    obtain ⟨rg, r2, r3, r4⟩ := range_ok hr
    obtain ⟨s1, s2⟩ := put_spec hrt k.fo
    rw [← some_within (mayS_rt hm2).1 rg]
    have rlo := rg.lo; have rhi := rg.hi; have rz := rg.z; have rlt := rg.lt
    refine some_one (k := (rangeLo c.a (sizeV c.n) / 4096).toNat) (by omega) ?_ ?_
    · have hx : (4096 * ((rangeLo c.a (sizeV c.n) / 4096).toNat : Int)) = c.a := by omega
      have hh : Has (mapL l c) (4096 * ((rangeLo c.a (sizeV c.n) / 4096).toNat : Int)) (ext (mapA l c) c.a) := by
        rw [hx, k.eq]
        have hs : (mapA l c).s = c.a := v1
        have := k.fo.lt
        exact (s2 c.a _ (by omega)).2 (.inl ⟨⟨by omega, by omega⟩, rfl⟩)
      exact (has_of (mayS_rt hm2).1.ok hh).1
    · unfold touB
      rw [Bool.and_eq_true, Bool.and_eq_true, decide_eq_true_eq, decide_eq_true_eq, decide_eq_true_eq]
      omega
  obtain ⟨n1, n2, _⟩ := mp_place (l := mapL l c) (c := d) hm2 (ok_ask hk) (by rw [hpl]; rfl)
  rw [hpl] at n1
  exact ⟨n1, n2⟩
theorem map_bd2 (l : List Ar) (c d : Cl) : (mapL (mapL l c) d).length ≤ l.length + 48 := by
  have h1 := map_bd l c
  have h2 := map_bd (mapL l c) d
  omega
theorem map_l1 (l : List Ar) (c : Cl) : (mapL (someL l) c).length ≤ 300000 := by have := map_bd (someL l) c; have := someL_le l; omega
theorem map_l2 (l : List Ar) (c : Cl) : (mapL (someL l) c).length ≤ 1000000 := by have := map_bd (someL l) c; have := someL_le l; omega
theorem map_l3 (l : List Ar) (c d : Cl) : (mapL (mapL (someL l) c) d).length ≤ 1000000 := by have := map_bd2 (someL l) c d; have := someL_le l; omega
abbrev agF (f : Int) : Int := IntKind.i64.wrap (1 + IntKind.i64.wrap (Int.tmod (IntKind.i64.wrap (Int.tdiv f 4)) 2 * 4))
theorem again_fl {f : Int} (h : decide (f < 0) = false) (h64 : In64 f) : (agF f = 1 ∨ agF f = 5) ∧ IntKind.i64.wrap (agF f + 2) = agF f + 2 := by
  have h0 := of_decide_eq_false h
  have e1 : IntKind.i64.wrap (Int.tdiv f 4) = f / 4 := by rw [Int.tdiv_eq_ediv_of_nonneg (by omega)]; exact w64_id (by unfold In64 at *; omega)
  have e2 : Int.tmod (f / 4) 2 = f / 4 % 2 := Int.tmod_eq_emod_of_nonneg (by omega)
  have e3 : IntKind.i64.wrap (f / 4 % 2 * 4) = f / 4 % 2 * 4 := w64_id (by unfold In64; omega)
  have e4 : IntKind.i64.wrap (1 + f / 4 % 2 * 4) = 1 + f / 4 % 2 * 4 := w64_id (by unfold In64; omega)
  have e5 : agF f = 1 + f / 4 % 2 * 4 := by unfold agF; rw [e1, e2, e3, e4]
  rw [e5]
  exact ⟨by omega, w64_id (by unfold In64; omega)⟩
theorem no_may {l : List Ar} (h : mayS l = false) (a n f : Int) (c d : Cl) : placeV l a n f = 0 ∧ placeE l a n f = 1 ∧ mapN l c = errA 1 ∧ mapL l c = l ∧ unN l d = errA 1 ∧ unL l d = l := by
  have h1 : mapE l c = 1 := by unfold mapE; rw [h]; rfl
  have h2 : unE l d = 1 := by unfold unE; rw [h]; rfl
  unfold placeV placeE mapN mapL unN unL
  rw [h, h1, h2]
  exact ⟨rfl, rfl, rfl, rfl, rfl, rfl⟩
theorem u8_w {f : Int} (h : 0 ≤ f ∧ f ≤ 255) : 0 ≤ IntKind.i64.wrap f ∧ IntKind.i64.wrap f ≤ 255 := by
  rw [show IntKind.i64.wrap f = f from w64_id (by unfold In64; omega)]
  exact h
/-- The pages that a size has, as the law counts them. -/
abbrev fsN (n : Int) : Int := IntKind.i64.wrap (4096 * IntKind.i64.wrap (Int.tdiv (IntKind.i64.wrap (n + 4095)) 4096))
theorem free_go {l : List Ar} {c d : Cl} (hm : mayS l = true) (ha : In64 c.a) (hf : In64 c.f) (h : (mapN l c).er = 0) (ht : (Int.tmod c.f 2 == 1) = false) (d1 : d.a = (mapN l c).v) (d2 : d.n = c.n) :
    someP (ofL l) (mapN l c).v (IntKind.i64.wrap ((mapN l c).v + fsN c.n)) = false ∧ (unN (mapL l c) d).er = 0 ∧ unL (mapL l c) d = l := by
  have k := map_yes hm ha hf h
  have hb : bitB c.f 1 = false := by
    have := k.ask.f0
    have := k.ask.f15
    rw [← (flag_is (f := c.f) (by omega)).1]
    exact ht
  obtain ⟨g1, g2, g3⟩ := free_law hm ha hf h hb d1 d2
  have hsz := (sizeE_iff c.n).1 k.ask.sz
  have e0 : IntKind.i64.wrap (c.n + 4095) = c.n + 4095 := w64_id (by unfold In64; omega)
  have e1 : IntKind.i64.wrap (Int.tdiv (c.n + 4095) 4096) = (c.n + 4095) / 4096 := by rw [Int.tdiv_eq_ediv_of_nonneg (by omega)]; exact w64_id (by unfold In64; omega)
  have e2 : fsN c.n = sizeV c.n := by
    unfold fsN
    rw [e0, e1, sizeV_eq hsz, show 4096 * ((c.n + 4095) / 4096) = (c.n + 4095) / 4096 * 4096 by omega]
    exact w64_id (by unfold In64; omega)
  have r := (map_rng hm ha k).1
  have r1 := r.lo; have r2 := r.hi; have r3 := r.lt
  have hv : (mapN l c).v = mapV l c := by rw [k.n]; rfl
  refine ⟨?_, g2, g3⟩
  rw [e2, show IntKind.i64.wrap ((mapN l c).v + sizeV c.n) = (mapN l c).v + sizeV c.n from w64_id (by rw [hv]; unfold In64; omega)]
  exact g1
/-- A place that was told, and is not taken, is as none. -/
theorem hint_law {l : List Ar} {c d : Cl} (hm : mayS l = true) (ha : In64 c.a) (hf : c.f = 0) (h : (mapN l c).er = 0) (hv : (mapN l c).v ≠ c.a) (hd : d = { c with a := 0 }) : mapN l d = mapN l c ∧ mapL l d = mapL l c := by
  have b1 : bitB c.f 1 = false := by rw [hf]; decide +kernel
  have k := map_yes hm ha (by unfold In64; omega) h
  have hv2 : mapV l c ≠ c.a := by
    rw [k.n] at hv
    exact hv
  have hno : (c.a != 0 && fitsL l c.a (sizeV c.n)) = false := by
    cases hb : (c.a != 0 && fitsL l c.a (sizeV c.n)) with
    | false => rfl
    | true =>
      refine absurd ?_ hv2
      unfold mapV placeV
      rw [hm, b1, hb, if_neg (by simp), if_neg (by simp), if_pos rfl]
  have eV : mapV l d = mapV l c := by
    subst hd
    unfold mapV placeV
    rw [hm, b1, hno]
    rfl
  have eP : placeE l d.a (sizeV d.n) d.f = placeE l c.a (sizeV c.n) c.f := by
    subst hd
    unfold placeE
    rw [hm, b1, hno]
    rfl
  have eA : mapA l d = mapA l c := by
    unfold mapA
    rw [eV]
    subst hd
    rfl
  have eE : mapE l d = mapE l c := by
    unfold mapE
    rw [eP]
    subst hd
    rfl
  unfold mapN mapL
  rw [eE, eV, eA]
  exact ⟨rfl, rfl⟩
end Go.Proofs.Ytbcicjmepojlnaa.Eng
/- Contracts of functions (printed by genx.py of this work): what each hands back; condition: as its 'hside' says. -/
namespace Go.Proofs.Ytbcicjmepojlnaa.Eng
open Go Go.RowKit
set_option linter.unusedVariables false
set_option linter.unusedSimpArgs false

theorem b_mappingPlaces : Bodied Try.prog 31 := bodied Try.func31 rfl (by decide)
def F_mappingPlaces : FunX := fun κ avs => match avs with
  | [.lstc l xl, .val (.agg [.v (.int .i64 t1), .v (.int .i64 t2)]), .val (.c (.v (.int .u8 f)))] => some (κ _ (In64 (⟨t1, t2⟩ : Int × Int).1 ∧ In64 (⟨t1, t2⟩ : Int × Int).2 ∧ U8 f), (.val (.c (.v (.bool true)))))
  | _ => none
set_option maxRecDepth 100000 in
set_option maxHeartbeats 4000000 in
theorem k_mappingPlaces (l : List Ar) (t1 : Int) (t2 : Int) (f : Int) (Al : Option Addr) (cl : Nat) (kl : l.length ≤ cl) (hside : In64 (⟨t1, t2⟩ : Int × Int).1 ∧ In64 (⟨t1, t2⟩ : Int × Int).2 ∧ U8 f) (w : World) (hl : (Ent.rd Al 6 l.length (encL l)).holds w) :
    Calls Try.prog 31 #[.slice Al l.length cl, (SV.agg [.v (.int .i64 t1), .v (.int .i64 t2)]).den, (SV.c (.v (.int .u8 f))).den] w fun e w' => ∃ v H', e = .returned v.den ∧ IsX (.val (.c (.v (.bool true)))) v H' ∧ HSat w (fun _ => False) H' w' := by
  obtain ⟨κ, hκ⟩ : ∃ κ : Kp, κ = kid := ⟨_, rfl⟩
  have hH : HSat w (fun _ => False) (heapOf [(nilId, .rd none 1 0 []), (200000, .rd Al 6 (κ _ l.length) (κ _ (encL l)))]) w := by
    subst hκ
    refine HSat.reads fun p hp => ?_
    simp only [List.mem_cons, List.not_mem_nil, or_false] at hp
    rcases hp with rfl | rfl
    · exact ⟨_, _, _, _, rfl, nil_holds w⟩
    · exact ⟨_, _, _, _, rfl, hl⟩
  refine (callsP (n := 94) FTok [e_awake10 hκ, e_place hκ, e_rmay hκ, e_map hκ, e_unmap hκ, e_rsame hκ, e_rplace hκ] mixed [] Try.func31 rfl (by kernel_rfl) #[.slice Al l.length cl, (SV.agg [.v (.int .i64 t1), .v (.int .i64 t2)]).den, (SV.c (.v (.int .u8 f))).den] [(0, .c (.sl 200000 Al (κ _ l.length) cl)), (1, .agg [.v (.int .i64 t1), .v (.int .i64 t2)]), (2, .c (.v (.int .u8 f)))] _ w rfl [.tmp 6] rfl (by simp) (by subst hκ; simp [SV.den, C.den, kid]) hH (fun v H' => IsX (.val (.c (.v (.bool true)))) v H') hκ ?_).mono ?_
  rotate_left
  · subst hκ; intro e w' h; exact h
  intro P' hP'
  cbv
  repeat' (first | refine And.intro ?_ ?_ | (intro _; cbv) | (refine tst_mk (fun h => ?_) (fun h => ?_) <;> cbv) | (refine LookX.nil ?_; cbv) | (refine LookX.auto hκ ?_; cbv))
  all_goals (try (show Side _; refine ⟨?_⟩; subst hκ; delta kid at *; first | exact rfl | exact trivial | exact ⟨rfl, rfl, .inl rfl⟩ | exact ⟨rfl, rfl, .inl rfl, kl⟩ | exact ⟨rfl, rfl, .inl rfl, encL_ok _⟩ | exact bd (put_bd _ _) (by omega) | ((try dsimp only at *); have z1 := madeL_le l; have z2 := someL_le l; (try simp only [maxLen]); have q0 : ¬ (30 : Int) < (l.length : Int) := of_decide_eq_false (by assumption); (try simp only [setTo_len, noS_len, List.length_append, List.length_cons, List.length_nil, List.length_map, and_self, true_or, or_true, eq_self, true_and, and_true, Nat.zero_add, Nat.add_zero]); (first | done | omega); done)))
  all_goals (clear hH; subst hκ; delta kid at *; (try dsimp only at *))
  all_goals (try (exact ⟨trivial⟩))
  all_goals (try (show IsX _ _ _; exact IsX.val_ rfl))
  all_goals (try (exact ⟨by decide⟩))
  all_goals (try (show Side _; refine ⟨?_⟩; have q9 : ¬ (30 : Int) < (l.length : Int) := of_decide_eq_false (by assumption); first | exact Nat.le_trans (map_bd _ _) (by omega) | exact Nat.le_trans (un_bd _ _) (by omega) | exact Nat.le_trans (map_bd _ _) (by have z3 := map_bd l (⟨0, 0, 1, 0, 0, 0, 0, 0, 0⟩ : Cl); omega) | exact Nat.le_trans (un_bd _ _) (by have z3 := map_bd l (⟨0, 0, 1, 0, 0, 0, 0, 0, 0⟩ : Cl); omega) | omega))
  all_goals (try (show Side _; exact ⟨(by with_reducible assumption), hside.1, hside.2.1, u8_w hside.2.2⟩))
  all_goals (show IsX _ _ _; refine IsX.bool_ ?_)
  all_goals (try (simp_all; done))
  all_goals (obtain ⟨e1, e2, e3, e4, e5, e6⟩ := no_may (by with_reducible assumption) t1 t2 (IntKind.i64.wrap f) (⟨0, 0, 1, 0, 0, 0, 0, 0, 0⟩ : Cl) (⟨0, 65536, 1, 0, 0, 0, 0, 0, 0⟩ : Cl))
  all_goals (simp only [e1, e2, e3, e4, e5, e6, errA, okA, noAt] at *) <;> (first | done | rfl | exact sameL_self _ | (exfalso; rw [sameL_self] at h; cases h; done) | (exfalso; revert h; decide) | (simp_all; done) | skip)
def e_mappingPlaces {κ : Kp} (hκ : κ = kid) : ESpec Try.prog := fnES [.listc, .flat, .flat] b_mappingPlaces F_mappingPlaces hκ fun avs p r hF hp => by
  unfold F_mappingPlaces at hF
  split at hF
  case h_2 => cases hF
  rename_i l xl t1 t2 f
  simp only [kid, Option.some.injEq, Prod.mk.injEq] at hF
  obtain ⟨rfl, rfl⟩ := hF
  refine ⟨trivial, fun vs w hR => ?_⟩
  obtain ⟨il, Al, cl, vs0, rfl, rfl, kl, hl, hR⟩ := hR
  obtain ⟨vs1, rfl, hR⟩ := hR
  obtain ⟨vs2, rfl, hR⟩ := hR
  have hR' : vs2 = [] := hR
  subst hR'
  exact k_mappingPlaces l t1 t2 f Al cl kl hp w hl

theorem b_mappingAgain : Bodied Try.prog 27 := bodied Try.func27 rfl (by decide)
def F_mappingAgain : FunX := fun κ avs => match avs with
  | [.lstc l xl, .val (.agg [.v (.int .i64 c1), .v (.int .i64 c2), .v (.int .i64 c3), .v (.int .i64 c4), .v (.int .i64 c5), .v (.int .i64 c6), .v (.int .i64 c7), .v (.int .i64 c8), .v (.int .i64 c9)])] => some (κ _ (In64 (⟨c1, c2, c3, c4, c5, c6, c7, c8, c9⟩ : Cl).a ∧ In64 (⟨c1, c2, c3, c4, c5, c6, c7, c8, c9⟩ : Cl).o ∧ In64 (⟨c1, c2, c3, c4, c5, c6, c7, c8, c9⟩ : Cl).f), (.val (.c (.v (.bool true)))))
  | _ => none
set_option maxRecDepth 100000 in
set_option maxHeartbeats 4000000 in
theorem k_mappingAgain (l : List Ar) (c1 : Int) (c2 : Int) (c3 : Int) (c4 : Int) (c5 : Int) (c6 : Int) (c7 : Int) (c8 : Int) (c9 : Int) (Al : Option Addr) (cl : Nat) (kl : l.length ≤ cl) (hside : In64 (⟨c1, c2, c3, c4, c5, c6, c7, c8, c9⟩ : Cl).a ∧ In64 (⟨c1, c2, c3, c4, c5, c6, c7, c8, c9⟩ : Cl).o ∧ In64 (⟨c1, c2, c3, c4, c5, c6, c7, c8, c9⟩ : Cl).f) (w : World) (hl : (Ent.rd Al 6 l.length (encL l)).holds w) :
    Calls Try.prog 27 #[.slice Al l.length cl, (SV.agg [.v (.int .i64 c1), .v (.int .i64 c2), .v (.int .i64 c3), .v (.int .i64 c4), .v (.int .i64 c5), .v (.int .i64 c6), .v (.int .i64 c7), .v (.int .i64 c8), .v (.int .i64 c9)]).den] w fun e w' => ∃ v H', e = .returned v.den ∧ IsX (.val (.c (.v (.bool true)))) v H' ∧ HSat w (fun _ => False) H' w' := by
  obtain ⟨κ, hκ⟩ : ∃ κ : Kp, κ = kid := ⟨_, rfl⟩
  have hH : HSat w (fun _ => False) (heapOf [(nilId, .rd none 1 0 []), (200000, .rd Al 6 (κ _ l.length) (κ _ (encL l)))]) w := by
    subst hκ
    refine HSat.reads fun p hp => ?_
    simp only [List.mem_cons, List.not_mem_nil, or_false] at hp
    rcases hp with rfl | rfl
    · exact ⟨_, _, _, _, rfl, nil_holds w⟩
    · exact ⟨_, _, _, _, rfl, hl⟩
  refine (callsP (n := 80) FTok [e_awake10 hκ, e_some hκ, e_map hκ, e_rsame hκ] mixed [] Try.func27 rfl (by kernel_rfl) #[.slice Al l.length cl, (SV.agg [.v (.int .i64 c1), .v (.int .i64 c2), .v (.int .i64 c3), .v (.int .i64 c4), .v (.int .i64 c5), .v (.int .i64 c6), .v (.int .i64 c7), .v (.int .i64 c8), .v (.int .i64 c9)]).den] [(0, .c (.sl 200000 Al (κ _ l.length) cl)), (1, .agg [.v (.int .i64 c1), .v (.int .i64 c2), .v (.int .i64 c3), .v (.int .i64 c4), .v (.int .i64 c5), .v (.int .i64 c6), .v (.int .i64 c7), .v (.int .i64 c8), .v (.int .i64 c9)])] _ w rfl [.tmp 4] rfl (by simp) (by subst hκ; simp [SV.den, C.den, kid]) hH (fun v H' => IsX (.val (.c (.v (.bool true)))) v H') hκ ?_).mono ?_
  rotate_left
  · subst hκ; intro e w' h; exact h
  intro P' hP'
  cbv
  repeat' (first | refine And.intro ?_ ?_ | (intro _; cbv) | (refine tst_mk (fun h => ?_) (fun h => ?_) <;> cbv) | (refine LookX.nil ?_; cbv) | (refine LookX.auto hκ ?_; cbv))
  all_goals (try (show Side _; refine ⟨?_⟩; subst hκ; delta kid at *; first | exact rfl | exact trivial | exact ⟨rfl, rfl, .inl rfl⟩ | exact ⟨rfl, rfl, .inl rfl, kl⟩ | exact ⟨rfl, rfl, .inl rfl, encL_ok _⟩ | exact bd (put_bd _ _) (by omega) | ((try dsimp only at *); have z1 := madeL_le l; have z2 := someL_le l; (try simp only [maxLen]); have q0 : ¬ (30 : Int) < (l.length : Int) := of_decide_eq_false (by assumption); (try simp only [setTo_len, noS_len, List.length_append, List.length_cons, List.length_nil, List.length_map, and_self, true_or, or_true, eq_self, true_and, and_true, Nat.zero_add, Nat.add_zero]); (first | done | omega); done)))
  all_goals (clear hH; subst hκ; delta kid at *; (try dsimp only at *))
  all_goals (try (exact ⟨trivial⟩))
  all_goals (try (show IsX _ _ _; exact IsX.val_ rfl))
  all_goals (try (exact ⟨by decide⟩))
  all_goals (try (show Side _; refine ⟨?_⟩; simp only [map_l1, map_l2, map_l3]; done))
  all_goals (show IsX _ _ _; refine IsX.bool_ ?_)
  all_goals (try (have e := map_self (by with_reducible assumption : ((mapN (someL l) (⟨c1, c2, c3, c4, c5, c6, agF c7, c8, c9⟩ : Cl)).er != 0) = true); rw [e]; exact sameL_self _))
  all_goals (have g1 := again_fl (by with_reducible assumption) hside.2.2)
  all_goals (have he := bne_no (by with_reducible assumption : ((mapN (someL l) (⟨c1, c2, c3, c4, c5, c6, agF c7, c8, c9⟩ : Cl)).er != 0) = false))
  all_goals (obtain ⟨a1, a2, a3, a4⟩ := again_law (c := (⟨c1, c2, c3, c4, c5, c6, agF c7, c8, c9⟩ : Cl)) (d := (⟨c1, c2, c3, c4, c5, c6, IntKind.i64.wrap (agF c7 + 2), c8, c9⟩ : Cl)) (some_may l) hside.1 g1.1 he (by rw [g1.2]))
  all_goals (simp only [a1, a2, a3, a4, eqN_cells] at *)
  all_goals (first | done | exact sameL_self _ | (exfalso; rw [sameL_self] at h; cases h; done) | (exfalso; revert h; decide) | (simp_all; done) | skip)
def e_mappingAgain {κ : Kp} (hκ : κ = kid) : ESpec Try.prog := fnES [.listc, .flat] b_mappingAgain F_mappingAgain hκ fun avs p r hF hp => by
  unfold F_mappingAgain at hF
  split at hF
  case h_2 => cases hF
  rename_i l xl c1 c2 c3 c4 c5 c6 c7 c8 c9
  simp only [kid, Option.some.injEq, Prod.mk.injEq] at hF
  obtain ⟨rfl, rfl⟩ := hF
  refine ⟨trivial, fun vs w hR => ?_⟩
  obtain ⟨il, Al, cl, vs0, rfl, rfl, kl, hl, hR⟩ := hR
  obtain ⟨vs1, rfl, hR⟩ := hR
  have hR' : vs1 = [] := hR
  subst hR'
  exact k_mappingAgain l c1 c2 c3 c4 c5 c6 c7 c8 c9 Al cl kl hp w hl

theorem b_mappingHint : Bodied Try.prog 28 := bodied Try.func28 rfl (by decide)
def F_mappingHint : FunX := fun κ avs => match avs with
  | [.lstc l xl, .val (.agg [.v (.int .i64 c1), .v (.int .i64 c2), .v (.int .i64 c3), .v (.int .i64 c4), .v (.int .i64 c5), .v (.int .i64 c6), .v (.int .i64 c7), .v (.int .i64 c8), .v (.int .i64 c9)])] => some (κ _ (In64 (⟨c1, c2, c3, c4, c5, c6, c7, c8, c9⟩ : Cl).a ∧ In64 (⟨c1, c2, c3, c4, c5, c6, c7, c8, c9⟩ : Cl).o ∧ In64 (⟨c1, c2, c3, c4, c5, c6, c7, c8, c9⟩ : Cl).f), (.val (.c (.v (.bool true)))))
  | _ => none
set_option maxRecDepth 100000 in
set_option maxHeartbeats 4000000 in
theorem k_mappingHint (l : List Ar) (c1 : Int) (c2 : Int) (c3 : Int) (c4 : Int) (c5 : Int) (c6 : Int) (c7 : Int) (c8 : Int) (c9 : Int) (Al : Option Addr) (cl : Nat) (kl : l.length ≤ cl) (hside : In64 (⟨c1, c2, c3, c4, c5, c6, c7, c8, c9⟩ : Cl).a ∧ In64 (⟨c1, c2, c3, c4, c5, c6, c7, c8, c9⟩ : Cl).o ∧ In64 (⟨c1, c2, c3, c4, c5, c6, c7, c8, c9⟩ : Cl).f) (w : World) (hl : (Ent.rd Al 6 l.length (encL l)).holds w) :
    Calls Try.prog 28 #[.slice Al l.length cl, (SV.agg [.v (.int .i64 c1), .v (.int .i64 c2), .v (.int .i64 c3), .v (.int .i64 c4), .v (.int .i64 c5), .v (.int .i64 c6), .v (.int .i64 c7), .v (.int .i64 c8), .v (.int .i64 c9)]).den] w fun e w' => ∃ v H', e = .returned v.den ∧ IsX (.val (.c (.v (.bool true)))) v H' ∧ HSat w (fun _ => False) H' w' := by
  obtain ⟨κ, hκ⟩ : ∃ κ : Kp, κ = kid := ⟨_, rfl⟩
  have hH : HSat w (fun _ => False) (heapOf [(nilId, .rd none 1 0 []), (200000, .rd Al 6 (κ _ l.length) (κ _ (encL l)))]) w := by
    subst hκ
    refine HSat.reads fun p hp => ?_
    simp only [List.mem_cons, List.not_mem_nil, or_false] at hp
    rcases hp with rfl | rfl
    · exact ⟨_, _, _, _, rfl, nil_holds w⟩
    · exact ⟨_, _, _, _, rfl, hl⟩
  refine (callsP (n := 52) FTok [e_awake10 hκ, e_some hκ, e_map hκ, e_rsame hκ] mixed [] Try.func28 rfl (by kernel_rfl) #[.slice Al l.length cl, (SV.agg [.v (.int .i64 c1), .v (.int .i64 c2), .v (.int .i64 c3), .v (.int .i64 c4), .v (.int .i64 c5), .v (.int .i64 c6), .v (.int .i64 c7), .v (.int .i64 c8), .v (.int .i64 c9)]).den] [(0, .c (.sl 200000 Al (κ _ l.length) cl)), (1, .agg [.v (.int .i64 c1), .v (.int .i64 c2), .v (.int .i64 c3), .v (.int .i64 c4), .v (.int .i64 c5), .v (.int .i64 c6), .v (.int .i64 c7), .v (.int .i64 c8), .v (.int .i64 c9)])] _ w rfl [.tmp 4] rfl (by simp) (by subst hκ; simp [SV.den, C.den, kid]) hH (fun v H' => IsX (.val (.c (.v (.bool true)))) v H') hκ ?_).mono ?_
  rotate_left
  · subst hκ; intro e w' h; exact h
  intro P' hP'
  cbv
  repeat' (first | refine And.intro ?_ ?_ | (intro _; cbv) | (refine tst_mk (fun h => ?_) (fun h => ?_) <;> cbv) | (refine LookX.nil ?_; cbv) | (refine LookX.auto hκ ?_; cbv))
  all_goals (try (show Side _; refine ⟨?_⟩; subst hκ; delta kid at *; first | exact rfl | exact trivial | exact ⟨rfl, rfl, .inl rfl⟩ | exact ⟨rfl, rfl, .inl rfl, kl⟩ | exact ⟨rfl, rfl, .inl rfl, encL_ok _⟩ | exact bd (put_bd _ _) (by omega) | ((try dsimp only at *); have z1 := madeL_le l; have z2 := someL_le l; (try simp only [maxLen]); have q0 : ¬ (30 : Int) < (l.length : Int) := of_decide_eq_false (by assumption); (try simp only [setTo_len, noS_len, List.length_append, List.length_cons, List.length_nil, List.length_map, and_self, true_or, or_true, eq_self, true_and, and_true, Nat.zero_add, Nat.add_zero]); (first | done | omega); done)))
  all_goals (clear hH; subst hκ; delta kid at *; (try dsimp only at *))
  all_goals (try (exact ⟨trivial⟩))
  all_goals (try (show IsX _ _ _; exact IsX.val_ rfl))
  all_goals (try (exact ⟨by decide⟩))
  all_goals (try (exact ⟨Nat.le_trans (map_bd _ _) (by have z2 := someL_le l; omega)⟩))
  all_goals (show IsX _ _ _; refine IsX.bool_ ?_)
  all_goals (have he := bne_no (by with_reducible assumption : ((mapN (someL l) (⟨c1, c2, c3, c4, c5, c6, 0, c8, c9⟩ : Cl)).er != 0) = false))
  all_goals (have hv := beq_no (by with_reducible assumption : ((mapN (someL l) (⟨c1, c2, c3, c4, c5, c6, 0, c8, c9⟩ : Cl)).v == c2) = false))
  all_goals (obtain ⟨a1, a2⟩ := hint_law (c := (⟨c1, c2, c3, c4, c5, c6, 0, c8, c9⟩ : Cl)) (d := (⟨c1, 0, c3, c4, c5, c6, 0, c8, c9⟩ : Cl)) (some_may l) hside.1 rfl he hv rfl)
  all_goals (simp only [a1, a2, eqN_cells] at *)
  all_goals (first | done | exact sameL_self _ | (exfalso; rw [sameL_self] at h; cases h; done) | (exfalso; revert h; decide) | (simp_all; done) | skip)
def e_mappingHint {κ : Kp} (hκ : κ = kid) : ESpec Try.prog := fnES [.listc, .flat] b_mappingHint F_mappingHint hκ fun avs p r hF hp => by
  unfold F_mappingHint at hF
  split at hF
  case h_2 => cases hF
  rename_i l xl c1 c2 c3 c4 c5 c6 c7 c8 c9
  simp only [kid, Option.some.injEq, Prod.mk.injEq] at hF
  obtain ⟨rfl, rfl⟩ := hF
  refine ⟨trivial, fun vs w hR => ?_⟩
  obtain ⟨il, Al, cl, vs0, rfl, rfl, kl, hl, hR⟩ := hR
  obtain ⟨vs1, rfl, hR⟩ := hR
  have hR' : vs1 = [] := hR
  subst hR'
  exact k_mappingHint l c1 c2 c3 c4 c5 c6 c7 c8 c9 Al cl kl hp w hl

theorem b_mappingFree : Bodied Try.prog 32 := bodied Try.func32 rfl (by decide)
def F_mappingFree : FunX := fun κ avs => match avs with
  | [.lstc l xl, .val (.agg [.v (.int .i64 c1), .v (.int .i64 c2), .v (.int .i64 c3), .v (.int .i64 c4), .v (.int .i64 c5), .v (.int .i64 c6), .v (.int .i64 c7), .v (.int .i64 c8), .v (.int .i64 c9)])] => some (κ _ (In64 (⟨c1, c2, c3, c4, c5, c6, c7, c8, c9⟩ : Cl).a ∧ In64 (⟨c1, c2, c3, c4, c5, c6, c7, c8, c9⟩ : Cl).o ∧ In64 (⟨c1, c2, c3, c4, c5, c6, c7, c8, c9⟩ : Cl).f), (.val (.c (.v (.bool true)))))
  | _ => none
set_option maxRecDepth 100000 in
set_option maxHeartbeats 4000000 in
theorem k_mappingFree (l : List Ar) (c1 : Int) (c2 : Int) (c3 : Int) (c4 : Int) (c5 : Int) (c6 : Int) (c7 : Int) (c8 : Int) (c9 : Int) (Al : Option Addr) (cl : Nat) (kl : l.length ≤ cl) (hside : In64 (⟨c1, c2, c3, c4, c5, c6, c7, c8, c9⟩ : Cl).a ∧ In64 (⟨c1, c2, c3, c4, c5, c6, c7, c8, c9⟩ : Cl).o ∧ In64 (⟨c1, c2, c3, c4, c5, c6, c7, c8, c9⟩ : Cl).f) (w : World) (hl : (Ent.rd Al 6 l.length (encL l)).holds w) :
    Calls Try.prog 32 #[.slice Al l.length cl, (SV.agg [.v (.int .i64 c1), .v (.int .i64 c2), .v (.int .i64 c3), .v (.int .i64 c4), .v (.int .i64 c5), .v (.int .i64 c6), .v (.int .i64 c7), .v (.int .i64 c8), .v (.int .i64 c9)]).den] w fun e w' => ∃ v H', e = .returned v.den ∧ IsX (.val (.c (.v (.bool true)))) v H' ∧ HSat w (fun _ => False) H' w' := by
  obtain ⟨κ, hκ⟩ : ∃ κ : Kp, κ = kid := ⟨_, rfl⟩
  have hH : HSat w (fun _ => False) (heapOf [(nilId, .rd none 1 0 []), (200000, .rd Al 6 (κ _ l.length) (κ _ (encL l)))]) w := by
    subst hκ
    refine HSat.reads fun p hp => ?_
    simp only [List.mem_cons, List.not_mem_nil, or_false] at hp
    rcases hp with rfl | rfl
    · exact ⟨_, _, _, _, rfl, nil_holds w⟩
    · exact ⟨_, _, _, _, rfl, hl⟩
  refine (callsP (n := 70) FTok [e_awake10 hκ, e_some hκ, e_map hκ, e_of hκ, e_rsomeP hκ, e_unmap hκ, e_rsame hκ] mixed [] Try.func32 rfl (by kernel_rfl) #[.slice Al l.length cl, (SV.agg [.v (.int .i64 c1), .v (.int .i64 c2), .v (.int .i64 c3), .v (.int .i64 c4), .v (.int .i64 c5), .v (.int .i64 c6), .v (.int .i64 c7), .v (.int .i64 c8), .v (.int .i64 c9)]).den] [(0, .c (.sl 200000 Al (κ _ l.length) cl)), (1, .agg [.v (.int .i64 c1), .v (.int .i64 c2), .v (.int .i64 c3), .v (.int .i64 c4), .v (.int .i64 c5), .v (.int .i64 c6), .v (.int .i64 c7), .v (.int .i64 c8), .v (.int .i64 c9)])] _ w rfl [.tmp 4] rfl (by simp) (by subst hκ; simp [SV.den, C.den, kid]) hH (fun v H' => IsX (.val (.c (.v (.bool true)))) v H') hκ ?_).mono ?_
  rotate_left
  · subst hκ; intro e w' h; exact h
  intro P' hP'
  cbv
  repeat' (first | refine And.intro ?_ ?_ | (intro _; cbv) | (refine tst_mk (fun h => ?_) (fun h => ?_) <;> cbv) | (refine LookX.nil ?_; cbv) | (refine LookX.auto hκ ?_; cbv) | (refine LookN.mk' (x := κ _ (encS (ofL (someL l)))) (by subst hκ; delta kid at *; exact (by rw [zero_put (ofL_len _)]; exact whole_take (ofL_len _))) ?_; cbv))
  all_goals (try (show Side _; refine ⟨?_⟩; subst hκ; delta kid at *; first | exact rfl | exact trivial | exact ⟨rfl, rfl, .inl rfl⟩ | exact ⟨rfl, rfl, .inl rfl, kl⟩ | exact ⟨rfl, rfl, .inl rfl, encL_ok _⟩ | exact bd (put_bd _ _) (by omega) | ((try dsimp only at *); have z1 := madeL_le l; have z2 := someL_le l; (try simp only [maxLen]); have q0 : ¬ (30 : Int) < (l.length : Int) := of_decide_eq_false (by assumption); (try simp only [setTo_len, noS_len, List.length_append, List.length_cons, List.length_nil, List.length_map, and_self, true_or, or_true, eq_self, true_and, and_true, Nat.zero_add, Nat.add_zero]); (first | done | omega); done)))
  all_goals (clear hH; subst hκ; delta kid at *; (try dsimp only at *))
  all_goals (try (exact ⟨trivial⟩))
  all_goals (try (show IsX _ _ _; exact IsX.val_ rfl))
  all_goals (try (exact ⟨by decide⟩))
  all_goals (try (show Side _; exact ⟨(some_rt l).1, Nat.le_trans (someL_le l) (by decide)⟩))
  all_goals (try (show Side _; refine ⟨?_⟩; rw [encS_noS, encS_len, encS_len, ofL_len, noS_len]; omega))
  all_goals (try (show Side _; exact ⟨ofL_len _⟩))
  all_goals (try (exact ⟨Nat.le_trans (un_bd _ _) (by have z2 := someL_le l; have z3 := map_bd (someL l) (⟨c1, c2, c3, c4, c5, c6, c7, c8, c9⟩ : Cl); omega)⟩))
  all_goals (try (exact ⟨Nat.le_trans (map_bd _ _) (by have z2 := someL_le l; omega)⟩))
  all_goals (try (show _ = true; (have ho := encS_ok (ofL (someL l)); generalize encS (ofL (someL l)) = xs at ho ⊢; cases xs <;> exact ho)))
  all_goals (try (show 2560 = _; (have ho := encS_len2 (s := ofL (someL l)) (ofL_len _); generalize encS (ofL (someL l)) = xs at ho ⊢; cases xs <;> exact ho.symm)))
  all_goals (show IsX _ _ _; refine IsX.bool_ ?_)
  all_goals (have he := bne_no (by with_reducible assumption : ((mapN (someL l) (⟨c1, c2, c3, c4, c5, c6, c7, c8, c9⟩ : Cl)).er != 0) = false))
  all_goals (obtain ⟨a1, a2, a3⟩ := free_go (c := (⟨c1, c2, c3, c4, c5, c6, c7, c8, c9⟩ : Cl)) (d := (⟨0, (mapN (someL l) (⟨c1, c2, c3, c4, c5, c6, c7, c8, c9⟩ : Cl)).v, c3, 0, 0, 0, 0, 0, 0⟩ : Cl)) (some_may l) hside.1 hside.2.2 he (by with_reducible assumption) rfl rfl)
  all_goals (simp only [a1, a2, a3] at *)
  all_goals (first | done | exact sameL_self _ | (exfalso; rw [sameL_self] at h; cases h; done) | (exfalso; revert h; decide) | (simp_all; done) | skip)
def e_mappingFree {κ : Kp} (hκ : κ = kid) : ESpec Try.prog := fnES [.listc, .flat] b_mappingFree F_mappingFree hκ fun avs p r hF hp => by
  unfold F_mappingFree at hF
  split at hF
  case h_2 => cases hF
  rename_i l xl c1 c2 c3 c4 c5 c6 c7 c8 c9
  simp only [kid, Option.some.injEq, Prod.mk.injEq] at hF
  obtain ⟨rfl, rfl⟩ := hF
  refine ⟨trivial, fun vs w hR => ?_⟩
  obtain ⟨il, Al, cl, vs0, rfl, rfl, kl, hl, hR⟩ := hR
  obtain ⟨vs1, rfl, hR⟩ := hR
  have hR' : vs1 = [] := hR
  subst hR'
  exact k_mappingFree l c1 c2 c3 c4 c5 c6 c7 c8 c9 Al cl kl hp w hl

end Go.Proofs.Ytbcicjmepojlnaa.Eng
