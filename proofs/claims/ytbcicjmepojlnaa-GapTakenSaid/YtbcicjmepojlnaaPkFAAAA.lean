/- Texts of this work, laid together: symbolic execution over the model, contracts of the program's functions, what they come to; conditions: as each says. -/
import Derived.Test.YtbcicjmepojlnaaPkEAAAC
/- Pages and gaps, counted; no condition but those typed. -/
namespace Go.Proofs.Ytbcicjmepojlnaa.Eng
open Go Go.RowKit
set_option autoImplicit false
set_option linter.unusedSimpArgs false
set_option linter.unusedVariables false

theorem cnt_iv (lo hi : Nat) : ∀ N : Nat, lo ≤ hi → ((List.range N).countP fun q => decide (lo ≤ q) && decide (q < hi)) = min hi N - min lo N
  | 0, h => by simp
  | N + 1, h => by
    rw [List.range_succ, List.countP_append, cnt_iv lo hi N h, List.countP_singleton]
    by_cases h1 : lo ≤ N <;> by_cases h2 : N < hi <;> simp [h1, h2] <;> omega
theorem cnt_or {P Q : Nat → Bool} : ∀ (L : List Nat), (∀ q ∈ L, ¬ (P q = true ∧ Q q = true)) → (L.countP fun q => P q || Q q) = L.countP P + L.countP Q
  | [], _ => rfl
  | q :: L, h => by
    have hq := h q (List.mem_cons_self ..)
    have hi := cnt_or L fun x hx => h x (List.mem_cons_of_mem _ hx)
    rw [List.countP_cons, List.countP_cons, List.countP_cons, hi]
    cases hp : P q <;> cases hk : Q q
    · simp
    · simp; omega
    · simp; omega
    · exact absurd ⟨hp, hk⟩ hq
theorem cnt_ext {P Q : Nat → Bool} (L : List Nat) (h : ∀ q ∈ L, P q = Q q) : L.countP P = L.countP Q := by
  induction L with
  | nil => rfl
  | cons q L ih =>
    rw [List.countP_cons, List.countP_cons, h q (List.mem_cons_self ..), ih fun x hx => h x (List.mem_cons_of_mem _ hx)]
def inI (L : List (Int × Int)) (x : Int) : Bool := L.any fun p => decide (p.1 ≤ x) && decide (x < p.2)
theorem inI_iff (L : List (Int × Int)) (x : Int) : inI L x = true ↔ ∃ p ∈ L, p.1 ≤ x ∧ x < p.2 := by
  unfold inI
  rw [List.any_eq_true]
  simp only [Bool.and_eq_true, decide_eq_true_eq]
def IvOk (p : Int × Int) : Prop := p.1 % 4096 = 0 ∧ p.2 % 4096 = 0 ∧ 0 ≤ p.1 ∧ p.1 < p.2 ∧ p.2 ≤ 2097152
def cntI (L : List (Int × Int)) : Nat := (List.range 512).countP fun q : Nat => inI L (4096 * (q : Int))
theorem cntI_def (L : List (Int × Int)) : cntI L = (List.range 512).countP fun q : Nat => inI L (4096 * (q : Int)) := rfl
theorem iv_count : ∀ (L : List (Int × Int)), (∀ p ∈ L, IvOk p) → L.Pairwise (fun p q => p.2 ≤ q.1) → (L.map fun p => (p.2 - p.1) / 4096).sum = (cntI L : Int)
  | [], _, _ => by
    show (0 : Int) = _
    have : cntI [] = 0 := by
      unfold cntI inI
      rw [List.countP_eq_zero]
      intro q _
      simp
    rw [this]
    rfl
  | p :: L, h, hp => by
    obtain ⟨a1, a2, a3, a4, a5⟩ := h p (List.mem_cons_self ..)
    have hi := iv_count L (fun x hx => h x (List.mem_cons_of_mem _ hx)) (List.pairwise_cons.1 hp).2
    have hd := (List.pairwise_cons.1 hp).1
    rw [List.map_cons, List.sum_cons, hi]
    have e : cntI (p :: L) = (List.range 512).countP (fun q : Nat => (decide ((p.1 / 4096).toNat ≤ q) && decide (q < (p.2 / 4096).toNat)) || inI L (4096 * (q : Int))) := by
      unfold cntI
      refine cnt_ext _ fun q hq => ?_
      show (decide (p.1 ≤ 4096 * (q : Int)) && decide (4096 * (q : Int) < p.2) || inI L _) = _
      congr 1
      congr 1
      · exact decide_eq_decide.2 (by omega)
      · exact decide_eq_decide.2 (by omega)
    rw [e, cnt_or]
    · rw [cnt_iv _ _ 512 (by omega), ← cntI_def]
      omega
    · rintro q hq ⟨h1, h2⟩
      rw [Bool.and_eq_true, decide_eq_true_eq, decide_eq_true_eq] at h1
      obtain ⟨r, hr, h3, h4⟩ := (inI_iff _ _).1 h2
      have := hd r hr
      omega
theorem fold_sum {α : Type} (f : α → Int) : ∀ (L : List α) (n : Int), 0 ≤ n → (∀ x ∈ L, 0 ≤ f x) → n + (L.map f).sum ≤ 1000000000 → L.foldl (fun n x => w64 (n + f x)) n = n + (L.map f).sum ∧ 0 ≤ (L.map f).sum
  | [], n, h0, _, _ => by simp
  | x :: L, n, h0, h, hs => by
    have hx := h x (List.mem_cons_self ..)
    rw [List.map_cons, List.sum_cons] at hs ⊢
    have hnn : ∀ M : List Int, (∀ y ∈ M, 0 ≤ y) → 0 ≤ M.sum := fun M => by
      induction M with
      | nil => intro _; simp
      | cons y M ih =>
        intro hM
        rw [List.sum_cons]
        have := hM y (List.mem_cons_self ..)
        have := ih fun z hz => hM z (List.mem_cons_of_mem _ hz)
        omega
    have h1 : 0 ≤ (L.map f).sum := hnn _ fun y hy => by
      obtain ⟨z, hz, rfl⟩ := List.mem_map.1 hy
      exact h z (List.mem_cons_of_mem _ hz)
    have e : w64 (n + f x) = n + f x := w64_id (by unfold In64; omega)
    show L.foldl _ (w64 (n + f x)) = _ ∧ _
    rw [e]
    have hi := fold_sum f L (n + f x) (by omega) (fun y hy => h y (List.mem_cons_of_mem _ hy)) (by omega)
    exact ⟨by rw [hi.1]; omega, by omega⟩
def ivs (l : List Ar) : List (Int × Int) := l.map fun a => (a.s, a.e)
def ivG (G : List Gp) : List (Int × Int) := G.map fun g => (g.s, g.e)
theorem ivs_ok {l : List Ar} (hl : Ok l) : (∀ p ∈ ivs l, IvOk p) ∧ (ivs l).Pairwise (fun p q => p.2 ≤ q.1) := by
  constructor
  · intro p hp
    obtain ⟨a, ha, rfl⟩ := List.mem_map.1 hp
    have hf := fo.1 (hl.1 a ha)
    exact ⟨hf.s0, hf.e0, by have := hf.lo; show 0 ≤ a.s; omega, hf.lt, hf.hi⟩
  · exact List.pairwise_map.2 hl.2
theorem ivG_ok {l : List Ar} (hl : Ok l) : (∀ p ∈ ivG (gapsE l), IvOk p) ∧ (ivG (gapsE l)).Pairwise (fun p q => p.2 ≤ q.1) := by
  obtain ⟨g1, g2, _⟩ := gaps_spec hl
  constructor
  · intro p hp
    obtain ⟨g, hg, rfl⟩ := List.mem_map.1 hp
    have hk := g1 g hg
    exact ⟨hk.z, hk.z2, by have := hk.lo; show 0 ≤ g.s; omega, hk.lt, hk.hi⟩
  · exact List.pairwise_map.2 (g2.imp fun h => by show _ ≤ _; omega)
theorem cnt_le (L : List (Int × Int)) : cntI L ≤ 512 := by
  have := List.countP_le_length (p := fun q : Nat => inI L (4096 * (q : Int))) (l := List.range 512)
  rw [List.length_range] at this
  exact this
theorem sum_map_eq {α : Type} {f g : α → Int} {L : List α} (h : ∀ x ∈ L, f x = g x) : (L.map f).sum = (L.map g).sum := by
  rw [List.map_congr_left h]
/-- The pages of a right list. -/
theorem pages_cnt {l : List Ar} (hl : Rt l) : pagesL l = (cntI (ivs l) : Int) := by
  obtain ⟨i1, i2⟩ := ivs_ok hl.ok
  have hc := iv_count _ i1 i2
  have h512 := cnt_le (ivs l)
  have e : ∀ a ∈ l, pageN a = (a.e - a.s) / 4096 := fun a ha => by
    have hf := fo.1 (hl.1 a ha)
    have := hf.lo
    have := hf.lt
    have := hf.hi
    unfold pageN
    rw [w64_id (show In64 (a.e - a.s) by unfold In64; omega), tdiv_pos (by omega), w64_id (by unfold In64; omega)]
  have e2 : (l.map pageN).sum = (cntI (ivs l) : Int) := by
    rw [sum_map_eq e, ← hc]
    unfold ivs
    rw [List.map_map]
    rfl
  unfold pagesL pagesF
  rw [if_pos (of_rt hl), (fold_sum pageN l 0 (by omega) (fun a ha => ?_) (by omega)).1, e2]
  · omega
  · have hf := fo.1 (hl.1 a ha)
    have := hf.lt
    rw [e a ha]
    omega
theorem has_iv {l : List Ar} {x : Int} : inI (ivs l) x = true ↔ ∃ t, Has l x t := by
  rw [inI_iff]
  constructor
  · rintro ⟨p, hp, h⟩
    obtain ⟨a, ha, rfl⟩ := List.mem_map.1 hp
    exact ⟨_, a, ha, h, rfl⟩
  · rintro ⟨t, a, ha, h, _⟩
    exact ⟨_, List.mem_map.2 ⟨a, ha, rfl⟩, h⟩
def gapN (g : Gp) : Int := w64 (Int.tdiv (w64 (g.e - g.s)) 4096)
theorem gap_cnt {l : List Ar} (hl : Ok l) : ((gapsE l).map gapN).sum = (cntI (ivG (gapsE l)) : Int) := by
  obtain ⟨i1, i2⟩ := ivG_ok hl
  rw [← iv_count _ i1 i2]
  have e : ∀ g ∈ gapsE l, gapN g = (g.e - g.s) / 4096 := fun g hg => by
    have hk := (gaps_spec hl).1 g hg
    have := hk.lo
    have := hk.lt
    have := hk.hi
    unfold gapN
    rw [w64_id (show In64 (g.e - g.s) by unfold In64; omega), tdiv_pos (by omega), w64_id (by unfold In64; omega)]
  rw [sum_map_eq e]
  unfold ivG
  rw [List.map_map]
  rfl
theorem cnt_all {l : List Ar} (hl : Ok l) : cntI (ivs l) + cntI (ivG (gapsE l)) = 496 := by
  obtain ⟨g1, g2, g3⟩ := gaps_spec hl
  unfold cntI
  have hin : ∀ x, inI (ivG (gapsE l)) x = true → ∃ g ∈ gapsE l, g.s ≤ x ∧ x < g.e := fun x hx => by
    obtain ⟨p, hp, h⟩ := (inI_iff _ _).1 hx
    obtain ⟨g, hg, rfl⟩ := List.mem_map.1 hp
    exact ⟨g, hg, h⟩
  rw [← cnt_or]
  · have e := cnt_iv 16 512 512 (by omega)
    rw [show (496 : Nat) = min 512 512 - min 16 512 by decide, ← e]
    refine cnt_ext _ fun q hq => ?_
    have hq2 := List.mem_range.1 hq
    rw [Bool.eq_iff_iff, Bool.or_eq_true, Bool.and_eq_true, decide_eq_true_eq, decide_eq_true_eq]
    constructor
    · rintro (h | h)
      · obtain ⟨t, a, ha, h, _⟩ := has_iv.1 h
        have hf := fo.1 (hl.1 a ha)
        have := hf.lo
        have := h.1
        omega
      · obtain ⟨g, hg, h1, h2⟩ := hin _ h
        have := (g1 g hg).lo
        omega
    · intro h
      by_cases hb : inI (ivs l) (4096 * (q : Int)) = true
      · exact .inl hb
      · obtain ⟨g, hg, h1, h2⟩ := g3 (4096 * (q : Int)) (by omega) (by omega) (by omega) fun t ht => hb (has_iv.2 ⟨t, ht⟩)
        exact .inr ((inI_iff _ _).2 ⟨_, List.mem_map.2 ⟨g, hg, rfl⟩, h1, h2⟩)
  · rintro q hq ⟨h1, h2⟩
    obtain ⟨t, ht⟩ := has_iv.1 h1
    obtain ⟨g, hg, c1, c2⟩ := hin _ h2
    exact (g1 g hg).free _ t c1 c2 ht

/-! ### GapSums -/
def sumTo (l : List Ar) (G : List Gp) : Int := G.foldl (fun n g => w64 (n + gapN g)) (pagesL l)
theorem sum_next {l : List Ar} {G : List Gp} {i : Nat} (h : i < G.length) : w64 (sumTo l (G.take i) + gapN (nthG G i)) = sumTo l (G.take (i + 1)) := by
  unfold sumTo
  rw [g_next h, List.foldl_append]
  rfl
theorem sum_all {l : List Ar} (hl : Rt l) {i : Nat} (h : ¬ i < (gapsL l).length) : sumTo l ((gapsL l).take i) = 496 := by
  rw [List.take_of_length_le (by omega), gaps_yes (of_rt hl)]
  have h1 := pages_cnt hl
  have h2 := gap_cnt hl.ok
  have h3 := cnt_all hl.ok
  unfold sumTo
  rw [(fold_sum gapN (gapsE l) (pagesL l) (by omega) (fun g hg => ?_) (by omega)).1]
  · omega
  · have hk := (gaps_spec hl.ok).1 g hg
    have := hk.lo
    have := hk.lt
    have := hk.hi
    unfold gapN
    rw [w64_id (show In64 (g.e - g.s) by unfold In64; omega), tdiv_pos (by omega), w64_id (by unfold In64; omega)]
    omega
theorem nthG_gap {l : List Ar} (hl : Rt l) {i : Nat} (h : i < (gapsL l).length) : GapOk l 65536 (nthG (gapsL l) i) := by
  have h2 := nthG_mem h
  rw [gaps_yes (of_rt hl)] at h2 ⊢
  exact (gaps_spec hl.ok).1 _ h2
theorem gap_lt {l : List Ar} (hl : Rt l) {i : Nat} (h : i < (gapsL l).length) : decide ((nthG (gapsL l) i).e ≤ (nthG (gapsL l) i).s) = false := by
  have := (nthG_gap hl h).lt
  rw [decide_eq_false_iff_not]
  omega
theorem gap_rise {l : List Ar} (hl : Rt l) {i : Nat} (h : i < (gapsL l).length) {j : Nat} (hj : j < i) : (nthG (gapsL l) j).e < (nthG (gapsL l) i).s := by
  have h2 := (gaps_spec hl.ok).2.1
  rw [← gaps_yes (of_rt hl)] at h2
  have := (List.pairwise_iff_getElem.1 h2) j i (by omega) h hj
  have e1 := nthG_get h
  have e2 := nthG_get (show j < (gapsL l).length by omega)
  rw [List.getElem?_eq_getElem h] at e1
  rw [List.getElem?_eq_getElem (show j < (gapsL l).length by omega)] at e2
  injection e1 with e1
  injection e2 with e2
  rw [e1, e2] at this
  exact this

/-! ### GapTaken -/
theorem taken {l : List Ar} (hl : Rt l) {a n : Int} (hn : 4096 ≤ n ∧ n ≤ 2031616 ∧ n % 4096 = 0) (hg : GoodA l 0 2097152 n a) :
    fitsL (putL l ⟨a, a + n, 1, false, 0, 0⟩) a n = false ∧ fitsL (putL l ⟨a, a + n, 1, false, 0, 0⟩) a 4096 = false ∧ pagesL (putL l ⟨a, a + n, 1, false, 0, 0⟩) = pagesL l + n / 4096 := by
  obtain ⟨b1, b2, b3, b4, b5, b6⟩ := hg
  have hf : Fo (⟨a, a + n, 1, false, 0, 0⟩ : Ar) := fo.1 ((formed_iff _).2 ⟨b1, (by show (a + n) % 4096 = 0; omega), b2, b3, (by show a < a + n; omega), (show (0:Int) ≤ 1 by decide), (show (1:Int) ≤ 7 by decide), (show (0:Int) ≤ 0 by decide), (show (0:Int) ≤ 9 by decide), fun _ => rfl, fun h => absurd rfl h⟩)
  obtain ⟨s1, s2⟩ := put_spec hl hf
  have nofit : ∀ m, 4096 ≤ m → m ≤ 2031616 → fitsL (putL l ⟨a, a + n, 1, false, 0, 0⟩) a m = false := fun m hm hm2 => by
    cases hb : fitsL (putL l ⟨a, a + n, 1, false, 0, 0⟩) a m with
    | false => rfl
    | true =>
      have h5 := ((fits_iff s1 (by unfold In64; omega) (by unfold In64; omega)).1 hb).2.2.2.2
      exact absurd ((s2 a _ b1).2 (.inl ⟨⟨Int.le_refl _, (by show a < a + n; omega)⟩, rfl⟩)) (h5 a b1 (Int.le_refl _) (by omega) _)
  refine ⟨nofit n hn.1 hn.2.1, nofit 4096 (by omega) (by omega), ?_⟩
  rw [pages_cnt s1, pages_cnt hl]
  have e : cntI (ivs (putL l ⟨a, a + n, 1, false, 0, 0⟩)) = (List.range 512).countP (fun q : Nat => (decide ((a / 4096).toNat ≤ q) && decide (q < ((a + n) / 4096).toNat)) || inI (ivs l) (4096 * (q : Int))) := by
    unfold cntI
    refine cnt_ext _ fun q hq => ?_
    rw [Bool.eq_iff_iff, Bool.or_eq_true, Bool.and_eq_true, decide_eq_true_eq, decide_eq_true_eq, has_iv, has_iv]
    constructor
    · rintro ⟨t, ht⟩
      rcases (s2 _ t (by omega)).1 ht with ⟨⟨h1, h2⟩, _⟩ | ⟨h, _⟩
      · refine .inl ?_
        have h1 : a ≤ 4096 * (q : Int) := h1
        have h2 : 4096 * (q : Int) < a + n := h2
        omega
      · exact .inr ⟨t, h⟩
    · rintro (h | ⟨t, ht⟩)
      · exact ⟨_, (s2 _ _ (by omega)).2 (.inl ⟨⟨(by show a ≤ _; omega), (by show _ < a + n; omega)⟩, rfl⟩)⟩
      · refine ⟨t, (s2 _ t (by omega)).2 (.inr ⟨ht, fun ⟨h1, h2⟩ => ?_⟩)⟩
        exact b6 _ (by omega) h1 h2 t ht
  rw [e, cnt_or]
  · rw [cnt_iv _ _ 512 (by omega), ← cntI_def]
    omega
  · rintro q hq ⟨h1, h2⟩
    rw [Bool.and_eq_true, decide_eq_true_eq, decide_eq_true_eq] at h1
    obtain ⟨t, ht⟩ := has_iv.1 h2
    exact b6 _ (by omega) (by omega) (by omega) t ht

/-! ### GapAll -/
/-- So many gaps begin ahead of a page. -/
def Ahead (G : List Gp) (p n : Nat) : Prop := n ≤ G.length ∧ (∀ j, j < n → (nthG G j).s < 4096 * (p : Int)) ∧ ∀ j, n ≤ j → j < G.length → 4096 * (p : Int) ≤ (nthG G j).s
section
variable {l : List Ar} (hl : Rt l) {p n : Nat}
include hl
theorem ahead_0 : Ahead (gapsL l) 16 0 := ⟨Nat.zero_le _, fun j hj => absurd hj (Nat.not_lt_zero j), fun j _ hj => (nthG_gap hl hj).lo⟩
theorem ahead_all (h : Ahead (gapsL l) 512 n) : n = (gapsL l).length := by
  obtain ⟨h1, _, h3⟩ := h
  by_cases hn : n < (gapsL l).length
  · have a := h3 n (Nat.le_refl _) hn
    have b := nthG_gap hl hn
    have := b.lt
    have := b.hi
    omega
  · omega
theorem free_is {q : Nat} (hq : q < 512) : (nthP (ofL l) q).is = false ↔ ∀ t, ¬ Has l (4096 * (q : Int)) t := by
  constructor
  · intro h t ht
    rw [(has_of hl.ok ht).1] at h
    cases h
  · intro h
    cases hb : (nthP (ofL l) q).is with
    | false => rfl
    | true =>
      by_cases h16 : 16 ≤ q
      · exact absurd (of_has hl.ok h16 hq hb) (h _)
      · exact (of_low hl.1 hq (by omega) hb).elim
theorem gap_at {q : Nat} (h16 : 16 ≤ q) (hq : q < 512) (h : (nthP (ofL l) q).is = false) : ∃ j, j < (gapsL l).length ∧ (nthG (gapsL l) j).s ≤ 4096 * (q : Int) ∧ 4096 * (q : Int) < (nthG (gapsL l) j).e := by
  obtain ⟨g, hg, h1, h2⟩ := (gaps_spec hl.ok).2.2 (4096 * (q : Int)) (by omega) (by omega) (by omega) ((free_is hl hq).1 h)
  rw [← gaps_yes (of_rt hl)] at hg
  obtain ⟨j, hj, rfl⟩ := List.getElem_of_mem hg
  have e := nthG_get hj
  rw [List.getElem?_eq_getElem hj] at e
  injection e with e
  rw [e] at h1 h2
  exact ⟨j, hj, h1, h2⟩
theorem gap_free_pg {j : Nat} (hj : j < (gapsL l).length) {q : Nat} (h1 : (nthG (gapsL l) j).s ≤ 4096 * (q : Int)) (h2 : 4096 * (q : Int) < (nthG (gapsL l) j).e) : (nthP (ofL l) q).is = false := by
  have hk := nthG_gap hl hj
  have := hk.hi
  exact (free_is hl (by omega)).2 fun t ht => hk.free _ t h1 h2 ht
/-- A page at which no gap begins. -/
theorem ahead_skip (h : Ahead (gapsL l) p n) (h16 : 16 ≤ p) (hp : p < 512) (hs : (nthP (ofL l) p).is = true ∨ (16 < p ∧ (nthP (ofL l) (p - 1)).is = false)) : Ahead (gapsL l) (p + 1) n := by
  obtain ⟨h1, h2, h3⟩ := h
  refine ⟨h1, fun j hj => by have := h2 j hj; omega, fun j hj hj2 => ?_⟩
  have a := h3 j hj hj2
  have hk := nthG_gap hl hj2
  have z := hk.z
  by_cases he : (nthG (gapsL l) j).s = 4096 * (p : Int)
  · exfalso
    have lt := hk.lt
    rcases hs with h | ⟨hp16, h⟩
    · rw [gap_free_pg hl hj2 (by omega) (by omega)] at h
      cases h
    · rcases hk.start with h5 | ⟨t, ht⟩
      · omega
      · exact (free_is hl (by omega)).1 h t (by rw [show 4096 * ((p - 1 : Nat) : Int) = (nthG (gapsL l) j).s - 4096 by omega]; exact ht)
  · omega
/-- A page at which a gap begins: it is the next one. -/
theorem ahead_hit (h : Ahead (gapsL l) p n) (h16 : 16 ≤ p) (hp : p < 512) (hs : (nthP (ofL l) p).is = false) (hs2 : p = 16 ∨ (nthP (ofL l) (p - 1)).is = true) : n < (gapsL l).length ∧ (nthG (gapsL l) n).s = 4096 * (p : Int) ∧ Ahead (gapsL l) (p + 1) (n + 1) := by
  obtain ⟨h1, h2, h3⟩ := h
  obtain ⟨j, hj, c1, c2⟩ := gap_at hl h16 hp hs
  have hk := nthG_gap hl hj
  have z := hk.z
  have lo := hk.lo
  have es : (nthG (gapsL l) j).s = 4096 * (p : Int) := by
    by_cases he : (nthG (gapsL l) j).s = 4096 * (p : Int)
    · exact he
    · exfalso
      rcases hs2 with h | h
      · omega
      · rw [gap_free_pg hl hj (q := p - 1) (by omega) (by omega)] at h
        cases h
  have ej : j = n := by
    by_cases hjn : j < n
    · have := h2 j hjn; omega
    · by_cases hnj : n < j
      · have := h3 n (Nat.le_refl _) (by omega)
        have r := gap_rise hl hj hnj
        have := (nthG_gap hl (show n < (gapsL l).length by omega)).lt
        omega
      · omega
  subst ej
  refine ⟨hj, es, hj, fun k hk => ?_, fun k hk hk2 => ?_⟩
  · by_cases hkj : k = j
    · subst hkj; omega
    · have := h2 k (by omega); omega
  · have r := gap_rise hl hk2 (show j < k by omega)
    have lt := (nthG_gap hl hj).lt
    have z2 := (nthG_gap hl hj).z2
    omega
/-- Where the gap ends. -/
theorem gap_end {j : Nat} (hj : j < (gapsL l).length) {q : Nat} (h1 : (nthG (gapsL l) j).s ≤ 4096 * (q : Int)) (h2 : 4096 * (q : Int) ≤ (nthG (gapsL l) j).e) (hs : q = 512 ∨ (q < 512 ∧ (nthP (ofL l) q).is = true)) : (nthG (gapsL l) j).e = 4096 * (q : Int) := by
  have hk := nthG_gap hl hj
  have := hk.hi
  rcases hs with rfl | ⟨hq, h⟩
  · omega
  · by_cases he : 4096 * (q : Int) < (nthG (gapsL l) j).e
    · rw [gap_free_pg hl hj h1 he] at h
      cases h
    · omega
theorem gap_more {j : Nat} (hj : j < (gapsL l).length) {q : Nat} (hq : q < 512) (h2 : 4096 * (q : Int) ≤ (nthG (gapsL l) j).e) (hs : (nthP (ofL l) q).is = false) : 4096 * ((q + 1 : Nat) : Int) ≤ (nthG (gapsL l) j).e := by
  have hk := nthG_gap hl hj
  have z := hk.z2
  by_cases he : (nthG (gapsL l) j).e = 4096 * (q : Int)
  · exfalso
    rcases hk.stop with h | ⟨t, ht⟩
    · omega
    · exact (free_is hl hq).1 hs t (by rw [← he]; exact ht)
  · omega
end
end Go.Proofs.Ytbcicjmepojlnaa.Eng
/- A gap's fields; no condition but those typed. -/
namespace Go.Proofs.Ytbcicjmepojlnaa.Eng
open Go Go.RowKit
set_option autoImplicit false
set_option linter.unusedSimpArgs false
set_option linter.unusedVariables false
theorem g_s {l : List Gp} {i : Nat} (h : i < l.length) : (encG l)[((i : Nat) : Int).toNat * 2]? = some (.v (.int .i64 (nthG l i).s)) := by
  rw [Int.toNat_natCast]
  exact enc_get encGp_len l i _ 0 (nthG_get h) (by decide)
theorem g_e {l : List Gp} {i : Nat} (h : i < l.length) : (encG l)[((i : Nat) : Int).toNat * 2 + 1]? = some (.v (.int .i64 (nthG l i).e)) := by
  rw [Int.toNat_natCast]
  exact enc_get encGp_len l i _ 1 (nthG_get h) (by decide)
theorem pre_eq {i : Nat} (h : decide ((0 : Int) < ((i : Nat) : Int)) = true) (hb : i ≤ 300001) : IntKind.i64.wrap (((i : Nat) : Int) - 1) = ((i - 1 : Nat) : Int) := by
  have h2 := of_decide_eq_true h
  exact (w64_id (by unfold In64; omega)).trans (by omega)
theorem g_pe {l : List Gp} {i : Nat} (hl : l.length ≤ 300001) (h : i < l.length) (h0 : decide ((0 : Int) < ((i : Nat) : Int)) = true) : (encG l)[(IntKind.i64.wrap (((i : Nat) : Int) - 1)).toNat * 2 + 1]? = some (.v (.int .i64 (nthG l (i - 1)).e)) := by
  rw [pre_eq h0 (by omega)]
  exact g_e (by omega)
theorem g_pix {l : List Gp} {i : Nat} (hl : l.length ≤ 300001) (h : i < l.length) (h0 : decide ((0 : Int) < ((i : Nat) : Int)) = true) : 0 < 2 ∧ 0 ≤ IntKind.i64.wrap (((i : Nat) : Int) - 1) ∧ IntKind.i64.wrap (((i : Nat) : Int) - 1) < (l.length : Int) := by
  rw [pre_eq h0 (by omega)]
  have h2 := of_decide_eq_true h0
  omega
theorem gap_rise' {l : List Ar} (hl : Rt l) {i : Nat} (h : i < (gapsL l).length) (h0 : decide ((0 : Int) < ((i : Nat) : Int)) = true) : decide ((nthG (gapsL l) i).s ≤ (nthG (gapsL l) (i - 1)).e) = false := by
  have h2 := of_decide_eq_true h0
  have := gap_rise hl h (show i - 1 < i by omega)
  rw [decide_eq_false_iff_not]
  omega
theorem gap_len (l : List Ar) : (gapsL (madeL l)).length ≤ 300001 := gapsL_len (by have := madeL_le l; omega)
theorem page_pis {s : List Pg} (hs : s.length = 512) {m : Nat} (h : 16 ≤ m) (h' : m < 512) : (encS s)[0 + (IntKind.i64.wrap (((m : Nat) : Int) - 1)).toNat * 5]? = some (.v (.bool (nthP s (m - 1)).is)) := by
  rw [pre_page h h']
  exact page_is' hs (by omega)
theorem all_next {l : List Ar} (hl : Rt l) {k n q : Nat} (hn : n < (gapsL l).length) (hs : (nthG (gapsL l) n).s = 4096 * ((16 + k : Nat) : Int)) (he : (nthG (gapsL l) n).e = 4096 * (q : Int)) (hk : k < 496) (hq : q ≤ 512) : maxI (largeF ((gapsL l).take n)) (IntKind.i64.wrap (4096 * IntKind.i64.wrap ((q : Int) - ((16 + k : Nat) : Int)))) = largeF ((gapsL l).take (n + 1)) := by
  rw [← large_next hn]
  unfold largeStep
  have e1 : IntKind.i64.wrap ((q : Int) - ((16 + k : Nat) : Int)) = (q : Int) - ((16 + k : Nat) : Int) := w64_id (by unfold In64; omega)
  have e2 : IntKind.i64.wrap (4096 * ((q : Int) - ((16 + k : Nat) : Int))) = 4096 * ((q : Int) - ((16 + k : Nat) : Int)) := w64_id (by unfold In64; omega)
  have e3 : w64 ((nthG (gapsL l) n).e - (nthG (gapsL l) n).s) = (nthG (gapsL l) n).e - (nthG (gapsL l) n).s := w64_id (by unfold In64; omega)
  rw [e1, e2, e3, hs, he]
  congr 1
  omega
theorem mul_q {q : Nat} (hq : q ≤ 512) : IntKind.i64.wrap (4096 * (q : Int)) = 4096 * (q : Int) := w64_id (by unfold In64; omega)
theorem all_end {l : List Ar} : (largestL l == largeF ((gapsL l).take (gapsL l).length)) = true := by
  rw [List.take_length, ← largest_eq]
  exact beq_self_eq_true _
theorem lt_page {k : Nat} (h : decide ((16 : Int) < ((16 + k : Nat) : Int)) = true) : 16 < 16 + k := by
  have := of_decide_eq_true h
  omega
theorem ge_page {k : Nat} (h : decide ((16 : Int) < ((16 + k : Nat) : Int)) = false) : 16 + k = 16 := by
  have := of_decide_eq_false h
  omega
theorem len_no {n m : Nat} (h : n < m) (h2 : decide (((m : Nat) : Int) ≤ ((n : Nat) : Int)) = true) : False := by
  have := of_decide_eq_true h2
  omega
theorem bne_eq {a b : Int} (h : a = b) (h2 : (a != b) = true) : False := by
  subst h
  simp at h2
theorem lt_512 {q : Nat} (h : decide (((q : Nat) : Int) < 512) = true) : q < 512 := by
  have := of_decide_eq_true h
  omega
theorem ge_512 {q : Nat} (h : decide (((q : Nat) : Int) < 512) = false) (h2 : q ≤ 512) : q = 512 := by
  have := of_decide_eq_false h
  omega
theorem of_beq_t {a b : Int} (h : (a == b) = true) : a = b := by simpa using h

/-! ### GapTaken -/
theorem tk_n {pg : Int} (h : 0 ≤ pg ∧ pg ≤ 255) : IntKind.i64.wrap (4096 * IntKind.i64.wrap (1 + IntKind.i64.wrap pg)) = 4096 * (1 + pg) ∧ IntKind.i64.wrap pg = pg := by
  have e0 : IntKind.i64.wrap pg = pg := w64_id (by unfold In64; omega)
  have e1 : IntKind.i64.wrap (1 + pg) = 1 + pg := w64_id (by unfold In64; omega)
  have e2 : IntKind.i64.wrap (4096 * (1 + pg)) = 4096 * (1 + pg) := w64_id (by unfold In64; omega)
  rw [e0, e1, e2]
  exact ⟨rfl, rfl⟩
theorem tk_n1 {pg : Int} (h : 0 ≤ pg ∧ pg ≤ 255) : IntKind.i64.wrap (4096 * IntKind.i64.wrap (1 + pg)) = 4096 * (1 + pg) := by
  have := (tk_n h).1
  rw [(tk_n h).2] at this
  exact this
theorem tk_good {l : List Ar} (hl : Rt l) {pg a : Int} (h : 0 ≤ pg ∧ pg ≤ 255) (hg : GoodA l 0 2097152 (4096 * (1 + pg)) a) :
    fitsL (putL l ⟨a, IntKind.i64.wrap (a + 4096 * (1 + pg)), 1, false, 0, 0⟩) a (4096 * (1 + pg)) = false ∧ fitsL (putL l ⟨a, IntKind.i64.wrap (a + 4096 * (1 + pg)), 1, false, 0, 0⟩) a 4096 = false ∧
    (pagesL (putL l ⟨a, IntKind.i64.wrap (a + 4096 * (1 + pg)), 1, false, 0, 0⟩) == IntKind.i64.wrap (IntKind.i64.wrap (pagesL l + 1) + pg)) = true := by
  have b2 := hg.l1
  have b3 := hg.h1
  have e1 : IntKind.i64.wrap (a + 4096 * (1 + pg)) = a + 4096 * (1 + pg) := w64_id (by unfold In64; omega)
  rw [e1]
  obtain ⟨h1, h2, h3⟩ := taken hl (by omega) hg
  refine ⟨h1, h2, ?_⟩
  have h4 := pages_cnt hl
  have h5 := cnt_le (ivs l)
  have e2 : IntKind.i64.wrap (pagesL l + 1) = pagesL l + 1 := w64_id (by unfold In64; omega)
  have e3 : IntKind.i64.wrap (pagesL l + 1 + pg) = pagesL l + 1 + pg := w64_id (by unfold In64; omega)
  rw [e2, e3, h3]
  simp
  omega
theorem tk_low {l : List Ar} (hl : Rt l) {pg : Int} (h : 0 ≤ pg ∧ pg ≤ 255) : ((lowN l 0 2097152 (4096 * (1 + pg))).2 = true → GoodA l 0 2097152 (4096 * (1 + pg)) (lowN l 0 2097152 (4096 * (1 + pg))).1) ∧ ((highN l 0 2097152 (4096 * (1 + pg))).2 = true → GoodA l 0 2097152 (4096 * (1 + pg)) (highN l 0 2097152 (4096 * (1 + pg))).1) ∧
    ((lowN l 0 2097152 (4096 * (1 + pg))).2 = false ∨ (highN l 0 2097152 (4096 * (1 + pg))).2 = false → decide (largestL l < 4096 * (1 + pg)) = true) := by
  have h64 : In64 (4096 * (1 + pg)) := by unfold In64; omega
  have hs : sizeG (4096 * (1 + pg)) = true := (sizeG_iff h64).2 (by omega)
  obtain ⟨s1, s2⟩ := low_spec hl (lo := 0) (hi := 2097152) hs h64
  obtain ⟨t1, t2⟩ := high_spec hl (lo := 0) (hi := 2097152) hs h64
  refine ⟨fun hb => (s1 hb).1, fun hb => (t1 hb).1, fun hb => ?_⟩
  have hno : ∀ a, ¬ GoodA l 0 2097152 (4096 * (1 + pg)) a := by
    rcases hb with hb | hb
    · exact (s2 hb).2
    · exact (t2 hb).2
  rw [decide_eq_true_eq]
  by_cases hlt : largestL l < 4096 * (1 + pg)
  · exact hlt
  · exfalso
    rcases (large_spec hl).2.2 with h0 | ⟨g, hg, hgl⟩
    · omega
    · have hk := (gaps_spec hl.ok).1 g hg
      have q1 := hk.lo
      have q2 := hk.hi
      exact hno g.s ⟨hk.z, by omega, by omega, by omega, by omega, gap_free hl.ok hg (by omega) (by omega)⟩
end Go.Proofs.Ytbcicjmepojlnaa.Eng
/- Contracts of functions (printed by genx.py of this work): what each hands back; condition: as its 'hside' says. -/
namespace Go.Proofs.Ytbcicjmepojlnaa.Eng
open Go Go.RowKit
set_option linter.unusedVariables false
set_option linter.unusedSimpArgs false

theorem b_gapSums : Bodied Try.prog 5 := bodied Try.func5 rfl (by decide)
def F_gapSums : FunX := fun κ avs => match avs with
  | [.lstc l xl] => some (κ _ (True), (.val (.c (.v (.bool true)))))
  | _ => none
set_option maxRecDepth 100000 in
set_option maxHeartbeats 4000000 in
theorem k_gapSums (l : List Ar) (Al : Option Addr) (cl : Nat) (kl : l.length ≤ cl) (hside : True) (w : World) (hl : (Ent.rd Al 6 l.length (encL l)).holds w) :
    Calls Try.prog 5 #[.slice Al l.length cl] w fun e w' => ∃ v H', e = .returned v.den ∧ IsX (.val (.c (.v (.bool true)))) v H' ∧ HSat w (fun _ => False) H' w' := by
  obtain ⟨κ, hκ⟩ : ∃ κ : Kp, κ = kid := ⟨_, rfl⟩
  have hH : HSat w (fun _ => False) (heapOf [(nilId, .rd none 1 0 []), (200000, .rd Al 6 (κ _ l.length) (κ _ (encL l)))]) w := by
    subst hκ
    refine HSat.reads fun p hp => ?_
    simp only [List.mem_cons, List.not_mem_nil, or_false] at hp
    rcases hp with rfl | rfl
    · exact ⟨_, _, _, _, rfl, nil_holds w⟩
    · exact ⟨_, _, _, _, rfl, hl⟩
  refine (callsP (n := 72) FTok [e_awake08 hκ, e_made hκ, e_pages hκ, e_gaps hκ] mixed [(9, [[], [0], [0, 1], [0], [0], [0], [0, 1, 2, 3, 4, 5], [0, 1, 2, 3, 4, 5, 6], [0, 1, 2, 3, 4, 5], [0, 1, 2, 3, 4, 5], [0, 1, 2, 3, 4, 5], [0], [0], [], []]), (10, [[], [0], [], [], [], [0, 1, 2, 3, 4], [0, 1, 2, 3, 4, 5], [0, 1, 2, 3, 4], [0, 1, 2, 3, 4], [0, 1, 2, 3, 4], [], [], [], [], [], [], [15], [15], [], [], [], [15, 16, 17, 18, 19, 20], [15, 16, 17, 18, 19, 20, 21], [15, 16, 17, 18, 19, 20], [15, 16, 17, 18, 19, 20], [15, 16, 17, 18, 19, 20], [], [], []])] Try.func5 rfl (by kernel_rfl) #[.slice Al l.length cl] [(0, .c (.sl 200000 Al (κ _ l.length) cl))] _ w rfl [.tmp 2] rfl (by simp) (by subst hκ; simp [SV.den, C.den, kid]) hH (fun v H' => IsX (.val (.c (.v (.bool true)))) v H') hκ ?_).mono ?_
  rotate_left
  · subst hκ; intro e w' h; exact h
  intro P' hP'
  cbv
  repeat' (first | refine And.intro ?_ ?_ | (intro _; cbv) | (refine tst_mk (fun h => ?_) (fun h => ?_) <;> cbv) | (refine LookX.nil ?_; cbv) | (refine LookX.auto hκ ?_; cbv))
  all_goals (try (show Side _; refine ⟨?_⟩; subst hκ; delta kid at *; first | exact rfl | exact trivial | exact ⟨rfl, rfl, .inl rfl⟩ | exact ⟨rfl, rfl, .inl rfl, kl⟩ | exact ⟨rfl, rfl, .inl rfl, encL_ok _⟩ | ((try dsimp only at *); have z1 := madeL_le l; (try simp only [maxLen]); have q0 : ¬ (20 : Int) < (l.length : Int) := of_decide_eq_false (by assumption); (try simp only [setTo_len, noS_len, List.length_append, List.length_cons, List.length_nil, List.length_map, and_self, true_or, or_true, eq_self, true_and, and_true, Nat.zero_add, Nat.add_zero]); (first | done | omega); done)))
  all_goals (try (show IsX _ _ _; (clear hH; subst hκ; delta kid at *; (try dsimp only at *)); exact IsX.val_ rfl))
  rename_i A1 c1 A2 c2
  refine loopP hP' FTok [] mixed [5, 20] (σ := Nat) (fun i => [(4, .c (.v (.int .i64 (κ _ (sumTo (madeL l) ((gapsL (madeL l)).take i)))))), (6, .c (.v (.int .i64 (κ _ ((i : Nat) : Int)))))]) (fun _ => [(20, .row A2 c2 42 2 (κ _ (gapsL (madeL l)).length) (κ _ (encG (gapsL (madeL l)))))]) (fun i => (gapsL (madeL l)).length - i) 0 [20] ?_ (by decide) ?_ hκ ?_
  · cbv
    all_goals (subst hκ; delta kid; repeat' (first | exact rfl | exact trivial | refine And.intro ?_ ?_))
  · cbv
    all_goals (subst hκ; delta kid; repeat' (first | exact rfl | exact trivial | refine And.intro ?_ ?_))
  intro i
  cbv
  refine tst_mk (fun h => ?_) (fun h => ?_)
  · have hx : i < (gapsL (madeL l)).length := by subst hκ; delta kid at h; have h2 : (i : Int) < ((gapsL (madeL l)).length : Int) := of_decide_eq_true h; omega
    cbv
    repeat' (first | refine And.intro ?_ ?_ | (intro _; cbv) | (refine tst_mk (fun h => ?_) (fun h => ?_) <;> cbv) | (refine LookX.nil ?_; cbv) | (refine LookX.auto hκ ?_; cbv) | (refine LookR.mk' (x := .v (.int .i64 (κ _ (nthG (gapsL (madeL l)) i).e))) (by subst hκ; delta kid at *; exact g_e hx) ?_; cbv) | (refine LookR.mk' (x := .v (.int .i64 (κ _ (nthG (gapsL (madeL l)) i).s))) (by subst hκ; delta kid at *; exact g_s hx) ?_; cbv) | (refine LookR.mk' (x := .v (.int .i64 (κ _ (nthG (gapsL (madeL l)) (i - 1)).e))) (by subst hκ; delta kid at *; exact g_pe (gap_len l) hx (by with_reducible assumption)) ?_; cbv))
    all_goals (try (show Side _; refine ⟨?_⟩; subst hκ; delta kid at *; first | exact rfl | exact trivial | exact ⟨rfl, rfl, .inl rfl⟩ | exact ⟨rfl, rfl, .inl rfl, kl⟩ | exact ⟨rfl, rfl, .inl rfl, encL_ok _⟩ | ((try dsimp only at *); have z1 := madeL_le l; (try simp only [maxLen]); have q0 : ¬ (20 : Int) < (l.length : Int) := of_decide_eq_false (by assumption); (try simp only [setTo_len, noS_len, List.length_append, List.length_cons, List.length_nil, List.length_map, and_self, true_or, or_true, eq_self, true_and, and_true, Nat.zero_add, Nat.add_zero]); (first | done | omega); done)))
    all_goals (clear hH; subst hκ; delta kid at *; (try dsimp only at *))
    all_goals (try (exact ⟨g_ix hx⟩))
    all_goals (try (exact ⟨g_pix (gap_len l) hx (by with_reducible assumption)⟩))
    · exact absurd (gap_lt (made_rt l) hx) (by rw [h]; decide)
    · exact absurd (gap_rise' (made_rt l) hx (by with_reducible assumption)) (by rw [h]; decide)
    · refine ⟨⟨i + 1, [20], (by show (gapsL (madeL l)).length - (i + 1) < (gapsL (madeL l)).length - i; omega), by decide, ?_, ?_⟩⟩
      all_goals repeat' (first | exact rfl | exact trivial | refine And.intro ?_ ?_ | exact congrArg (Value.int .i64) (nat_succ (by have := gap_len l; omega)) | exact congrArg (Value.int .i64) (sum_next hx))
    · refine ⟨⟨i + 1, [20], (by show (gapsL (madeL l)).length - (i + 1) < (gapsL (madeL l)).length - i; omega), by decide, ?_, ?_⟩⟩
      all_goals repeat' (first | exact rfl | exact trivial | refine And.intro ?_ ?_ | exact congrArg (Value.int .i64) (nat_succ (by have := gap_len l; omega)) | exact congrArg (Value.int .i64) (sum_next hx))
  · have hx : ¬ i < (gapsL (madeL l)).length := by subst hκ; delta kid at h; have h2 : ¬ (i : Int) < ((gapsL (madeL l)).length : Int) := of_decide_eq_false h; omega
    cbv
    (clear hH; subst hκ; delta kid at *; (try dsimp only at *))
    refine IsX.bool_ ?_
    rw [sum_all (made_rt l) hx]
    rfl
def e_gapSums {κ : Kp} (hκ : κ = kid) : ESpec Try.prog := fnES [.listc] b_gapSums F_gapSums hκ fun avs p r hF hp => by
  unfold F_gapSums at hF
  split at hF
  case h_2 => cases hF
  rename_i l xl
  simp only [kid, Option.some.injEq, Prod.mk.injEq] at hF
  obtain ⟨rfl, rfl⟩ := hF
  refine ⟨trivial, fun vs w hR => ?_⟩
  obtain ⟨il, Al, cl, vs0, rfl, rfl, kl, hl, hR⟩ := hR
  have hR' : vs0 = [] := hR
  subst hR'
  exact k_gapSums l Al cl kl hp w hl

theorem b_gapTaken : Bodied Try.prog 15 := bodied Try.func15 rfl (by decide)
def F_gapTaken : FunX := fun κ avs => match avs with
  | [.lstc l xl, .val (.c (.v (.int .u8 pg))), .val (.c (.v (.bool bo)))] => some (κ _ (0 ≤ pg ∧ pg ≤ 255), (.val (.c (.v (.bool true)))))
  | _ => none
set_option maxRecDepth 100000 in
set_option maxHeartbeats 4000000 in
theorem k_gapTaken (l : List Ar) (pg : Int) (bo : Bool) (Al : Option Addr) (cl : Nat) (kl : l.length ≤ cl) (hside : 0 ≤ pg ∧ pg ≤ 255) (w : World) (hl : (Ent.rd Al 6 l.length (encL l)).holds w) :
    Calls Try.prog 15 #[.slice Al l.length cl, (SV.c (.v (.int .u8 pg))).den, (SV.c (.v (.bool bo))).den] w fun e w' => ∃ v H', e = .returned v.den ∧ IsX (.val (.c (.v (.bool true)))) v H' ∧ HSat w (fun _ => False) H' w' := by
  obtain ⟨κ, hκ⟩ : ∃ κ : Kp, κ = kid := ⟨_, rfl⟩
  have hH : HSat w (fun _ => False) (heapOf [(nilId, .rd none 1 0 []), (200000, .rd Al 6 (κ _ l.length) (κ _ (encL l)))]) w := by
    subst hκ
    refine HSat.reads fun p hp => ?_
    simp only [List.mem_cons, List.not_mem_nil, or_false] at hp
    rcases hp with rfl | rfl
    · exact ⟨_, _, _, _, rfl, nil_holds w⟩
    · exact ⟨_, _, _, _, rfl, hl⟩
  refine (callsP (n := 74) FTok [e_awake08 hκ, e_made hκ, e_lowest hκ, e_highest hκ, e_largest hκ, e_put hκ, e_fits hκ, e_pages hκ] mixed [] Try.func15 rfl (by kernel_rfl) #[.slice Al l.length cl, (SV.c (.v (.int .u8 pg))).den, (SV.c (.v (.bool bo))).den] [(0, .c (.sl 200000 Al (κ _ l.length) cl)), (1, .c (.v (.int .u8 pg))), (2, .c (.v (.bool bo)))] _ w rfl [.tmp 6] rfl (by simp) (by subst hκ; simp [SV.den, C.den, kid]) hH (fun v H' => IsX (.val (.c (.v (.bool true)))) v H') hκ ?_).mono ?_
  rotate_left
  · subst hκ; intro e w' h; exact h
  intro P' hP'
  cbv
  repeat' (first | refine And.intro ?_ ?_ | (intro _; cbv) | (refine tst_mk (fun h => ?_) (fun h => ?_) <;> cbv) | (refine LookX.nil ?_; cbv) | (refine LookX.auto hκ ?_; cbv))
  all_goals (try (show Side _; refine ⟨?_⟩; subst hκ; delta kid at *; first | exact rfl | exact trivial | exact ⟨rfl, rfl, .inl rfl⟩ | exact ⟨rfl, rfl, .inl rfl, kl⟩ | exact ⟨rfl, rfl, .inl rfl, encL_ok _⟩ | ((try dsimp only at *); have z1 := madeL_le l; (try simp only [maxLen]); have q0 : ¬ (20 : Int) < (l.length : Int) := of_decide_eq_false (by assumption); (try simp only [setTo_len, noS_len, List.length_append, List.length_cons, List.length_nil, List.length_map, and_self, true_or, or_true, eq_self, true_and, and_true, Nat.zero_add, Nat.add_zero]); (first | done | omega); done)))
  all_goals (try (show IsX _ _ _; (clear hH; subst hκ; delta kid at *; (try dsimp only at *)); exact IsX.val_ rfl))
  all_goals (try (show Side _; refine ⟨?_⟩; subst hκ; delta kid at *; have z1 := madeL_le l; (try dsimp only); exact bd (put_bd _ _) (by omega)))
  all_goals (clear hH; subst hκ; delta kid at *; (try dsimp only at *))
  all_goals (simp only [tk_n1 hside, (tk_n hside).2] at *)
  all_goals (obtain ⟨k1, k2, k3⟩ := tk_low (made_rt l) hside)
  all_goals (show IsX _ _ _; refine IsX.bool_ ?_)
  all_goals (first | exact k3 (.inl (by with_reducible assumption)) | exact k3 (.inr (by with_reducible assumption)) | exact (tk_good (made_rt l) hside (k1 (by with_reducible assumption))).2.2 | exact (tk_good (made_rt l) hside (k2 (by with_reducible assumption))).2.2 | (have t := tk_good (made_rt l) hside (k1 (by with_reducible assumption)); rw [t.1] at h; cases h; done) | (have t := tk_good (made_rt l) hside (k1 (by with_reducible assumption)); rw [t.2.1] at h; cases h; done) | (have t := tk_good (made_rt l) hside (k2 (by with_reducible assumption)); rw [t.1] at h; cases h; done) | (have t := tk_good (made_rt l) hside (k2 (by with_reducible assumption)); rw [t.2.1] at h; cases h; done))
def e_gapTaken {κ : Kp} (hκ : κ = kid) : ESpec Try.prog := fnES [.listc, .flat, .flat] b_gapTaken F_gapTaken hκ fun avs p r hF hp => by
  unfold F_gapTaken at hF
  split at hF
  case h_2 => cases hF
  rename_i l xl pg bo
  simp only [kid, Option.some.injEq, Prod.mk.injEq] at hF
  obtain ⟨rfl, rfl⟩ := hF
  refine ⟨trivial, fun vs w hR => ?_⟩
  obtain ⟨il, Al, cl, vs0, rfl, rfl, kl, hl, hR⟩ := hR
  obtain ⟨vs1, rfl, hR⟩ := hR
  obtain ⟨vs2, rfl, hR⟩ := hR
  have hR' : vs2 = [] := hR
  subst hR'
  exact k_gapTaken l pg bo Al cl kl hp w hl

end Go.Proofs.Ytbcicjmepojlnaa.Eng
