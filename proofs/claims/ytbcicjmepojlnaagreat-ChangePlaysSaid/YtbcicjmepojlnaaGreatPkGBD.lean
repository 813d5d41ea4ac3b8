/- Texts of this work, laid together: symbolic execution over the model, contracts of the program's functions, what they come to; conditions: as each says. -/
import Derived.Test.YtbcicjmepojlnaaGreatPkGAM
import Derived.Test.YtbcicjmepojlnaaGreatPkGBC
/- A range over gap.each, met round by round; condition: at most a million areas. -/
namespace Go.Proofs.YtbcicjmepojlnaaGreat.Eng
open Go Go.RowKit
set_option autoImplicit false
set_option linter.unusedSimpArgs false
set_option linter.unusedVariables false
structure RNext {σ : Type} (I : List Gp → σ → Prop) (E : List Gp → σ → List (Nat × Ent)) (xs : List Gp) (H : Heap) : Prop where
  h : ∃ s ρ, I xs s ∧ ρ.Nodup ∧ FitsG H ρ (E xs s)
def RoundQ {σ τ : Type} (I : List Gp → σ → Prop) (E : List Gp → σ → List (Nat × Ent)) (IR : List Gp → τ → Prop) (ER : List Gp → τ → List (Nat × Ent)) (xs : List Gp) : QT
  | .normal, _, H => RNext I E xs H
  | .ret, _, H => RNext IR ER xs H
  | .exit _, _, _ => False
def onlyN (K : Env → Heap → Prop) : QT
  | .normal, env, H => K env H
  | .ret, _, _ => False
  | .exit _, _, _ => False
theorem rangeM_each {P' : Program} (hP : P' = Tryz.prog) {n : Nat} {F : TT} (hF : TTok Tryz.prog F) (l : List (ESpec Tryz.prog)) (hm : Tryz.prog.follows .mixedOrders = true) {tabs : Tabs} {t pT : Nat} {ca b : Code} {Q : QT} {env : Env} {H : Heap} {id Bs tb lid cap : Nat} {A : Option Addr} {zs : List Ar}
    (hf : env t = .c (.fn 108 id Bs 0)) (hB : H id = some (.blk Bs tb [.sl lid A zs.length cap])) (hlen : zs.length ≤ 1000000) (hpT : pT < n) {σ τ : Type} (I : List Gp → σ → Prop) (IR : List Gp → τ → Prop) (E : List Gp → σ → List (Nat × Ent)) (ER : List Gp → τ → List (Nat × Ent)) (s0 : σ) (hI0 : I [] s0) (ρ0 : List Nat)
    (hn : ρ0.Nodup) (h1 : FitsG H ρ0 (E [] s0)) (hEl : ∀ pre s, heapOf (E pre s) lid = some (.rd A 6 zs.length (encL zs))) (ks : List Nat) (L : List (Nat × SV)) (h0 : FitsE env (keepE env ks L)) {κ : Kp} (hκ : κ = kid)
    (round : ∀ pre x s, I pre s → (pre ++ [x]) <+: gapsE zs → vcE κ P' F (lookT l) (lookE l) n tabs ca (onlyN fun env1 H1 => vcE κ P' F (lookT l) (lookE l) n tabs b (RoundQ I E IR ER (κ _ (pre ++ [x]))) env1 H1) (upd (envOf (keepE env ks L)) pT (.agg [.v (.int .i64 (κ _ x.s)), .v (.int .i64 (κ _ x.e))])) (heapOf (E pre s)))
    (done : ∀ s, I (gapsE zs) s → Q .normal (envOf (keepE env ks L)) (heapOf (E (gapsE zs) s))) (stop : ∀ pre r, IR pre r → pre <+: gapsE zs → Q .ret (envOf (keepE env ks L)) (heapOf (ER pre r))) :
    RangeM P' n tabs (.tmp t) #[pT] ca b Q env H := by
  subst hκ hP
  refine ⟨fun hsa hsb w0 a w hE hH => wpIn_rangeFunc ?_⟩
  intro fn hfn
  have hEk := hE.fits h0
  have hI0' : HSat w0 (fun _ => False) (heapOf (E [] s0)) w := hH.fitsG hn h1
  have hev : a.eval (.tmp t) = .func (.func 108) #[] #[.pointer (some ⟨Bs, 0, none⟩)] := eval_c (c := .fn 108 id Bs 0) hE hf (by simp)
  have hbx : w.heap[Bs]? = some (.cells #[.slice A zs.length cap] tb (0, 0)) := hH.holds id _ hB
  have hw0 := hH.fr.size
  have hdf : a.defers = [] := hE.defers
  rw [show (fen none).round = none from rfl]
  obtain ⟨rec, hrec⟩ : ∃ rec : LoopState → Option Code → Loop, rec = fun st pe => { state := st, pending := pe, fn, tmps := a.tmps, params := #[pT], assign := ca, body := b, defers := w.heap.size } := ⟨_, rfl⟩
  obtain ⟨W1, hW1⟩ : ∃ W1, (w.alloc (.deferred (some []))).alloc (.loop (rec .ready none)) = W1 := ⟨_, rfl⟩
  have hL1 : W1.heap[w.heap.size + 1]? = some (.loop (rec .ready none)) := by
    rw [← hW1]; have := World.alloc_heap_new (w.alloc (.deferred (some []))) (.loop (rec .ready none)); rwa [World.size_alloc] at this
  have hK1 : W1.heap[w.heap.size]? = some (.deferred (some [])) := by
    rw [← hW1]; exact (Below.heap_alloc _ _ _ (by simp)).trans (World.alloc_heap_new w _)
  have hI1 : HSat w0 (fun _ => False) (heapOf (E [] s0)) W1 := by rw [← hW1]; exact (hI0'.alloc_ _).alloc_ _
  have hbx1 : W1.heap[Bs]? = w.heap[Bs]? := by
    have hlt : Bs < w.heap.size := (Array.getElem?_eq_some_iff.1 hbx).1
    rw [← hW1]; exact (Below.heap_alloc _ _ _ (by simp; omega)).trans (Below.heap_alloc _ _ _ hlt)
  have hcell : W1.cell? ⟨Bs, 0, none⟩ = some (.slice A zs.length cap) := by
    unfold World.cell?
    simp only
    rw [hbx1, hbx]
    rfl
  have hsz1 : W1.heap.size = w.heap.size + 2 := by rw [← hW1]; simp
  refine ⟨w.heap.size + 1, [{ target := .collected w.heap.size, args := #[] }], W1, { target := .fn (.func 108) #[.pointer (some ⟨Bs, 0, none⟩)], args := #[.func (.yield (w.heap.size + 1)) #[] #[]] }, W1, 108,
    #[.func (.yield (w.heap.size + 1)) #[] #[], .pointer (some ⟨Bs, 0, none⟩)], W1, ?_, ?_, ?_, ?_, fun h => (by cases h), ?_⟩
  · rw [← hW1, hrec]; exact run_enterLoop_outer _ _ _ _ _
  · simp only [resolve, hev]
    simp [go_sem]
  · intro f' hf'; trivial
  · simp only [invoke]
    exact callFunc_run 108 Tryz.f108 _ Tryz.func108 rfl (by decide) _ W1
  · have hnc : ∀ {X : World} {row : Option Nat}, (∀ r, row = some r → W1.heap.size ≤ r ∧ ∃ o : Obj, X.heap[r]? = some o ∧ o.isWalk = true) → ∀ r, row = some r → W1.heap.size ≤ r ∧ ∃ o : Obj, X.heap[r]? = some o ∧ o.isCells = false :=
      fun hr r e => by obtain ⟨h1, o, h2, h3⟩ := hr r e; exact ⟨h1, o, h2, Obj.not_cells_of_walk h3⟩
    refine (each_in (fen none) 2 trivial rfl (by decide) (w.heap.size + 1) Bs cap A zs hlen
      (fun pre W => (∃ s, I pre s ∧ HSat w0 (fun _ => False) (heapOf (E pre s)) W) ∧ W.heap[w.heap.size + 1]? = some (.loop (rec .ready none)) ∧ W.heap[w.heap.size]? = some (.deferred (some [])))
      (fun pre W => (∃ r, IR pre r ∧ HSat w0 (fun _ => False) (heapOf (ER pre r)) W) ∧ W.heap[w.heap.size + 1]? = some (.loop (rec .done (some .ret))) ∧ W.heap[w.heap.size]? = some (.deferred (some [])))
      ?_ W1 hcell (hI1.holds lid _ (hEl [] s0)) (fun pre X Y row hs hg hr => ?_) ⟨⟨s0, hI0, hI1⟩, hL1, hK1⟩).mono ?_
    rotate_left
    · obtain ⟨⟨s, hv, hi⟩, hl, hk⟩ := hs
      exact ⟨⟨s, hv, hi.turn hg (hnc hr) (by omega)⟩, (grownBy_keeps hg (fun r e => (hr r e).2) hl rfl).trans hl, (grownBy_keeps hg (fun r e => (hr r e).2) hk rfl).trans hk⟩
    · -- behind the iterator
      have hEd : ∀ ds, EnvOk n (envOf (keepE env ks L)) (setD { a with defers := ds } []) := fun ds => ⟨hEk.size, hEk.slot, rfl⟩
      rintro e W2 ⟨⟨v, rfl⟩, (⟨⟨s, hv, hi⟩, hl, hk⟩ | ⟨pre, hpre, ⟨r, hv, hi⟩, hl, hk⟩)⟩
      · refine ⟨none, _, by have := run_endLoop (P := Tryz.prog) hl (by rw [hrec]; simp); rw [hrec] at this; exact this, ?_⟩
        exact ⟨⟨_, _, done s hv, hEd _, hi.put_ _ hl rfl (by omega)⟩, .inr ⟨w.heap.size, by show _ ++ a.defers = _; rw [hdf]; rfl, hw0, (World.putObj_heap_other (by omega)).trans hk⟩, fun h => by cases h⟩
      · refine ⟨some .ret, _, by have := run_endLoop (P := Tryz.prog) hl (by rw [hrec]; simp); rw [hrec] at this; exact this, ?_⟩
        exact wpIn_ret ⟨⟨_, _, stop pre r hv hpre, hEd _, hi.put_ _ hl rfl (by omega)⟩, .inr ⟨w.heap.size, by show _ ++ a.defers = _; rw [hdf]; rfl, hw0, (World.putObj_heap_other (by omega)).trans hk⟩, fun h => by cases h⟩
    · -- one round
      rintro pre x Wa Wb ⟨⟨s, hv, hia⟩, hla, hka⟩ hpre hWb
      have hlta : w.heap.size + 1 < Wa.heap.size := (Array.getElem?_eq_some_iff.1 hla).1
      have hstep : ∀ k, k < Wa.heap.size → Wb.heap[k]? = Wa.heap[k]? := fun k hk => by
        rcases hWb with rfl | ⟨o, rfl⟩
        · rfl
        · exact Below.heap_alloc _ _ _ hk
      have hszb : Wa.heap.size ≤ Wb.heap.size := by
        rcases hWb with rfl | ⟨o, rfl⟩
        · exact Nat.le_refl _
        · simp
      have hi : HSat w0 (fun _ => False) (heapOf (E pre s)) Wb := by
        rcases hWb with rfl | ⟨o, rfl⟩
        · exact hia
        · exact hia.alloc_ o
      have hl := (hstep _ hlta).trans hla
      have hk := (hstep _ (by omega)).trans hka
      have hlt : w.heap.size + 1 < Wb.heap.size := by omega
      have hy := run_yield (P := Tryz.prog) (args := #[valG x]) hl (by rw [hrec]; rfl)
      rw [hrec] at hy
      refine ⟨fn, _, ca, b, hy, roundIn_of_wpIn hfn ?_⟩
      clear hy
      have hEr : EnvOk n (upd (envOf (keepE env ks L)) pT (.agg [.v (.int .i64 x.s), .v (.int .i64 x.e)])) (a.put (some pT) (valG x)) := hEk.put (some pT) (fun d e => by injection e with e; omega) _ _ (fun _ => rfl)
      have w1 := vcE_in hF l hm (some (w.heap.size + 1)) (2 - 1) [] tabs ca hsa _ _ _ (round pre x s hv hpre) Wb (mutH (heapOf (E pre s))) _ Wb hEr hi.self
      have hact : setD (a.put (some pT) (valG x)) [] = { tmps := (#[pT].zip #[valG x]).foldl (fun tmps (p, v) => tmps.setIfInBounds p v) a.tmps, defers := [] } := by simp [setD, Act.put]
      rw [hact] at w1
      refine wpIn_mono (F := fen (some (w.heap.size + 1))) w1 ?_
      rintro e a1 Wc ⟨hq, hd1⟩
      cases e with
      | normal =>
        obtain ⟨env1, H1, hv1, hE1, hH1⟩ := hq
        have hlc := hi.other hH1 hl rfl
        have hkc := hi.other hH1 hk rfl
        have hi1 := hi.over hH1
        have hszc : Wb.heap.size ≤ Wc.heap.size := hH1.fr.size
        refine ⟨_, run_beginRound hlc (by rw [hrec]), ?_⟩
        obtain ⟨w2, hw2⟩ : ∃ w2, Wc.putObj (w.heap.size + 1) (.loop { rec .ready none with state := .busy }) = w2 := ⟨_, rfl⟩
        rw [hw2]
        have hi2 : HSat w0 (fun _ => False) H1 w2 := by rw [← hw2]; exact hi1.put_ _ hlc rfl (by omega)
        have hl2 : w2.heap[w.heap.size + 1]? = some (.loop { rec .ready none with state := .busy }) := by rw [← hw2]; exact World.putObj_heap_same (by omega)
        have hk2 : w2.heap[w.heap.size]? = some (.deferred (some [])) := by rw [← hw2]; exact (World.putObj_heap_other (by omega)).trans hkc
        have hsz2 : w2.heap.size = Wc.heap.size := by rw [← hw2]; simp
        have w3 := vcE_in hF l hm (some (w.heap.size + 1)) (2 - 1) [] tabs b hsb _ _ _ hv1 w2 (mutH H1) (setD a1 []) w2 hE1 hi2.self
        rw [show setD (setD a1 []) [] = a1 from setD_self (a := a1) hd1] at w3
        refine wpIn_mono (F := fen (some (w.heap.size + 1))) w3 ?_
        rintro e3 a3 W3 ⟨hq3, hd3⟩
        -- what neither part has turned
        have keep : ∀ (H3 : Heap), HSat w2 (mutH H1) H3 W3 → ∀ (o' : Obj) (k : Nat), k < Wb.heap.size → ¬ mutH (heapOf (E pre s)) k → k ≠ w.heap.size + 1 → (W3.putObj (w.heap.size + 1) o').heap[k]? = Wb.heap[k]? := fun H3 hH3 o' k hk' hnm hne => by
          rw [World.putObj_heap_other hne, hH3.fr.block k (by omega) (fun hmm => by
            obtain ⟨i, e, hi', hme, hbe⟩ := hmm
            rcases hH1.own i e hi' hme k hbe with h3 | h3
            · omega
            · exact hnm h3), ← hw2, World.putObj_heap_other hne]
          exact hH1.fr.block k hk' hnm
        cases e3 with
        | normal =>
          obtain ⟨env3, H3, ⟨⟨s', ρ, hv3, hρ, hf3⟩⟩, hE3, hH3⟩ := hq3
          have hl3 := hi2.other hH3 hl2 rfl
          have hk3 := hi2.other hH3 hk2 rfl
          have hi3 := (hi2.over hH3).fitsG hρ hf3
          have hend := run_endRound (P := Tryz.prog) none hl3
          have hszw : w2.heap.size ≤ W3.heap.size := hH3.fr.size
          have hlr : (W3.putObj (w.heap.size + 1) (.loop (rec .ready none))).heap[w.heap.size + 1]? = some (.loop (rec .ready none)) := World.putObj_heap_same (by omega)
          refine ⟨_, _, hend, .inl ⟨rfl, ⟨⟨s', hv3, hi3.put_ _ hl3 rfl (by omega)⟩, ?_, (World.putObj_heap_other (by omega)).trans hk3⟩, by simp; omega, fun g hg => ?_, fun o ho => ?_⟩⟩
          · rw [hrec] at hlr ⊢
            exact hlr
          · have hrd := hEl pre s
            refine keep H3 hH3 _ g (hi.lt lid _ hrd g hg) (fun ⟨i, e, hi', hme, hbe⟩ => ?_) (fun e => ?_)
            · refine hi.sep i lid e _ (fun e' => ?_) hi' hrd hme g hbe hg
              subst e'
              rw [hrd] at hi'
              injection hi' with hi'
              subst hi'
              cases hme
            · obtain ⟨cs, t', x', hc⟩ := ent_cells (hi.holds lid _ hrd) hg
              rw [e, hl] at hc
              injection hc with hc
              cases hc
          · refine (keep H3 hH3 _ Wa.heap.size (by rw [ho]; simp) (fun hmm => ?_) (by omega)).trans (by rw [ho]; exact World.alloc_heap_new Wa o)
            have := mut_lt hia hmm
            omega
        | ret =>
          obtain ⟨env3, H3, ⟨⟨r, ρ, hv3, hρ, hf3⟩⟩, hE3, hH3⟩ := hq3
          have hl3 := hi2.other hH3 hl2 rfl
          have hk3 := hi2.other hH3 hk2 rfl
          have hi3 := (hi2.over hH3).fitsG hρ hf3
          have hend := run_endRound (P := Tryz.prog) (some .ret) hl3
          have hszw : w2.heap.size ≤ W3.heap.size := hH3.fr.size
          have hlr : (W3.putObj (w.heap.size + 1) (.loop (rec .done (some .ret)))).heap[w.heap.size + 1]? = some (.loop (rec .done (some .ret))) := World.putObj_heap_same (by omega)
          refine ⟨_, _, hend, .inr ⟨rfl, ⟨r, hv3, hi3.put_ _ hl3 rfl (by omega)⟩, ?_, (World.putObj_heap_other (by omega)).trans hk3⟩⟩
          rw [hrec] at hlr ⊢
          exact hlr
        | exit id' => obtain ⟨_, _, hf', _⟩ := hq3; exact hf'.elim
        | goto _ => exact hq3.elim
        | panic _ => exact hq3.elim
        | outgrown => exact hq3.elim
      | ret => obtain ⟨_, _, hf', _⟩ := hq; exact hf'.elim
      | exit id' => obtain ⟨_, _, hf', _⟩ := hq; exact hf'.elim
      | goto _ => exact hq.elim
      | panic _ => exact hq.elim
      | outgrown => exact hq.elim
end Go.Proofs.YtbcicjmepojlnaaGreat.Eng
/- Gaps, in plain words; gap.each's contract; no condition but those typed. -/
namespace Go.Proofs.YtbcicjmepojlnaaGreat.Eng
open Go Go.RowKit
set_option autoImplicit false
set_option linter.unusedSimpArgs false
set_option linter.unusedVariables false
def encGp (g : Gp) : List C := [.v (.int .i64 g.s), .v (.int .i64 g.e)]
def encG (l : List Gp) : List C := l.flatMap encGp
theorem encGp_len (g : Gp) : (encGp g).length = 2 := rfl
theorem encG_app (l k : List Gp) : encG (l ++ k) = encG l ++ encG k := List.flatMap_append
def noGp : Gp := ⟨0, 0⟩
def nthG (l : List Gp) (i : Nat) : Gp := l.getD i noGp
theorem nthG_get {l : List Gp} {i : Nat} (h : i < l.length) : l[i]? = some (nthG l i) := by
  unfold nthG
  rw [List.getD_eq_getElem?_getD, List.getElem?_eq_getElem h]
  rfl
def gapsL (l : List Ar) : List Gp := if rightL l = true then gapsE l else []
def sizeG (n : Int) : Bool := decide (n ≥ 1) && whole n && decide (n ≤ 2031616)
def upG (n : Int) : Int := w64 (w64 (Int.tdiv (w64 (w64 (n + 4096) - 1)) 4096) * 4096)
def downG (n : Int) : Int := w64 (w64 (Int.tdiv n 4096) * 4096)
def clampG (n : Int) : Int := minI (maxI n 65536) 2097152
def inG (g : Gp) (lo hi : Int) : Gp := ⟨maxI g.s (upG (clampG lo)), minI g.e (downG (clampG hi))⟩
def roomG (lo hi n : Int) (g : Gp) : Bool := decide (w64 ((inG g lo hi).e - (inG g lo hi).s) ≥ n)
def lowN (l : List Ar) (lo hi n : Int) : Int × Bool := if (!sizeG n || !rightL l) = true then (0, false) else match (gapsE l).find? (roomG lo hi n) with
  | some g => ((inG g lo hi).s, true)
  | none => (0, false)
def highN (l : List Ar) (lo hi n : Int) : Int × Bool := if (!sizeG n || !rightL l) = true then (0, false) else (gapsE l).foldl (fun r g => if roomG lo hi n g = true then (w64 ((inG g lo hi).e - n), true) else r) (0, false)
def fitsL (l : List Ar) (a n : Int) : Bool := if (!sizeG n || Int.tmod a 4096 != 0 || decide (a < 65536) || decide (a > w64 (2097152 - n))) = true then false else (gapsL l).any fun g => decide (a ≥ g.s) && decide (w64 (a + n) ≤ g.e)
theorem snoc_len {α : Type} (l : List α) (x : α) : l.length + 1 = (l ++ [x]).length := by rw [List.length_append]; rfl
theorem encG_snoc (l : List Gp) (x : Gp) : encG l ++ [.v (.int .i64 x.s), .v (.int .i64 x.e)] = encG (l ++ [x]) := by rw [encG_app]; rfl
theorem pre_len {l : List Ar} {pre : List Gp} {x : Gp} (h : (pre ++ [x]) <+: gapsE l) : pre.length + 1 ≤ l.length + 1 := by
  have h1 := h.length_le
  have h2 := gapsE_len l
  rw [List.length_append] at h1
  simp at h1
  omega
theorem gaps_no {l : List Ar} (h : rightL l = false) : gapsL l = [] := by
  unfold gapsL
  rw [h]
  rfl
theorem gaps_yes {l : List Ar} (h : rightL l = true) : gapsL l = gapsE l := if_pos h
theorem IsX.rowG {mk : C → SV} {r r' : List Gp} {i c2 : Nat} {A2 : Option Addr} {v : SV} {H' : Heap} (h : r' = r) (hv : v = mk (.sl i A2 r'.length c2)) (hH : H' i = some (.row A2 c2 117 2 r'.length (encG r'))) : IsX (.row 117 2 r.length (encG r) mk) v H' := by
  subst h
  exact ⟨⟨i, A2, c2, hv, .inl hH⟩⟩
theorem IsX.nilG {mk : C → SV} {r : List Gp} {i : Nat} {v : SV} {H' : Heap} (h : r = []) (hv : v = mk (.sl i none 0 0)) : IsX (.row 117 2 r.length (encG r) mk) v H' := by
  subst h
  exact ⟨⟨i, none, 0, hv, .inr ⟨rfl, rfl, rfl, rfl⟩⟩⟩
def highStep (lo hi n : Int) (r : Int × Bool) (g : Gp) : Int × Bool := if roomG lo hi n g = true then (w64 ((inG g lo hi).e - n), true) else r
def highF (lo hi n : Int) (l : List Gp) : Int × Bool := l.foldl (highStep lo hi n) (0, false)
theorem highF_next (lo hi n : Int) (l : List Gp) (g : Gp) : highF lo hi n (l ++ [g]) = highStep lo hi n (highF lo hi n l) g := by
  unfold highF
  rw [List.foldl_append]
  rfl
section
variable {lo hi n : Int} {pre : List Gp} {x : Gp}
theorem high_y (h : roomG lo hi n x = true) : (w64 ((inG x lo hi).e - n), true) = highF lo hi n (pre ++ [x]) := by
  rw [highF_next]
  unfold highStep
  rw [if_pos h]
theorem high_n (h : roomG lo hi n x = false) : highF lo hi n pre = highF lo hi n (pre ++ [x]) := by
  rw [highF_next]
  unfold highStep
  rw [if_neg (by rw [h]; simp)]
end
theorem find_here {l pre : List Gp} {x : Gp} {p : Gp → Bool} (h : (pre ++ [x]) <+: l) (h1 : ∀ g ∈ pre, p g = false) (h2 : p x = true) : l.find? p = some x := by
  obtain ⟨r, rfl⟩ := h
  rw [List.append_assoc, List.find?_append, List.find?_eq_none.2 (fun g hg => by rw [h1 g hg]; simp)]
  simp [h2]
theorem find_none {l : List Gp} {p : Gp → Bool} (h : ∀ g ∈ l, p g = false) : l.find? p = none := List.find?_eq_none.2 fun g hg => by rw [h g hg]; simp
theorem low_no {l : List Ar} {lo hi n : Int} (h : sizeG n = false ∨ rightL l = false) : lowN l lo hi n = (0, false) := by
  unfold lowN
  rw [if_pos]
  rcases h with h | h <;> rw [h] <;> simp
theorem low_here {l : List Ar} {lo hi n : Int} (h1 : sizeG n = true) (h2 : rightL l = true) {g : Gp} (h : (gapsE l).find? (roomG lo hi n) = some g) : lowN l lo hi n = ((inG g lo hi).s, true) := by
  unfold lowN
  rw [if_neg (by rw [h1, h2]; simp), h]
theorem low_none {l : List Ar} {lo hi n : Int} (h1 : sizeG n = true) (h2 : rightL l = true) (h : ∀ g ∈ gapsE l, roomG lo hi n g = false) : lowN l lo hi n = (0, false) := by
  unfold lowN
  rw [if_neg (by rw [h1, h2]; simp), find_none h]
theorem high_no {l : List Ar} {lo hi n : Int} (h : sizeG n = false ∨ rightL l = false) : highN l lo hi n = (0, false) := by
  unfold highN
  rw [if_pos]
  rcases h with h | h <;> rw [h] <;> simp
theorem high_yes {l : List Ar} {lo hi n : Int} (h1 : sizeG n = true) (h2 : rightL l = true) : highN l lo hi n = highF lo hi n (gapsE l) := by
  unfold highN
  rw [if_neg (by rw [h1, h2]; simp)]
  rfl
theorem room_snoc {lo hi n : Int} {pre : List Gp} {x : Gp} (h : ∀ g ∈ pre, roomG lo hi n g = false) (hx : roomG lo hi n x = false) : ∀ g ∈ pre ++ [x], roomG lo hi n g = false := fun g hg => by
  rcases List.mem_append.1 hg with h1 | h1
  · exact h g h1
  · rw [List.mem_singleton.1 h1]; exact hx
theorem IsX.pair_ {x : Int × Bool} {H' : Heap} {a : Int} {b : Bool} (h : x = (a, b)) : IsX (.val (.tup [.c (.v (.int .i64 x.1)), .c (.v (.bool x.2))])) (.tup [.c (.v (.int .i64 a)), .c (.v (.bool b))]) H' := by
  subst h
  exact ⟨rfl⟩
/-! ### gap.each -/
theorem b_each : Bodied Tryz.prog 99 := bodied Tryz.func99 rfl (by decide)
def eachT (κ : Kp) : TSpec := fun args H d K => match args with
  | [.c (.sl i A m c)] => ∀ b : Nat, K (.c (.fn 108 d b 0)) [(d, some (.blk b 24 [.sl i A m c]))]
  | _ => False
set_option maxRecDepth 100000 in
theorem k_each (i : Nat) (A : Option Addr) (m c : Nat) (w : World) :
    Calls Tryz.prog 99 #[.slice A m c] w fun e w' => ∃ (v : SV) (H' : Heap), e = .returned v.den ∧ (∃ b, v = .c (.fn 108 1 b 0) ∧ H' 1 = some (.blk b 24 [.sl i A m c])) ∧ HSat w (fun _ => False) H' w' := by
  obtain ⟨κ, hκ⟩ : ∃ κ : Kp, κ = kid := ⟨_, rfl⟩
  refine callsP (n := 4) FTok [] mixed [] Tryz.func99 rfl (by kernel_rfl) #[.slice A m c] [(0, .c (.sl i A m c))] (heapOf [(nilId, .rd none 1 0 [])]) w rfl [.tmp 2] rfl (by simp) (by simp [SV.den, C.den]) (HSat.start w) (fun v H' => ∃ b, v = .c (.fn 108 1 b 0) ∧ H' 1 = some (.blk b 24 [.sl i A m c])) hκ ?_
  intro P' hP'
  cbv
  repeat' (first | refine And.intro ?_ ?_ | (intro _; cbv))
  all_goals (first | exact ⟨_, rfl, rfl⟩ | rfl | trivial)
def e_each {κ : Kp} (hκ : κ = kid) : ESpec Tryz.prog :=
  ES b_each false eachT hκ (fun args H d => by
    unfold eachT
    split
    · rename_i i A m c
      exact .all_ (fun b => .c (.fn 108 d b 0)) (fun b => [(d, some (.blk b 24 [.sl i A m c]))]) fun b p hp => by
        rw [List.mem_singleton.1 hp]
        exact .inl rfl
    · exact .false_) fun args H0 H d w0 M w hs hsub hH => by
    unfold eachT at hs
    split at hs
    · rename_i i A m c
      refine (k_each i A m c w).mono ?_
      rintro e w' ⟨v, H', rfl, ⟨b, rfl, hb⟩, hH'⟩
      exact ⟨.c (.fn 108 d b 0), [(d, some (.blk b 24 [.sl i A m c]))], _, rfl, fun K hK => hK b, fun _ => rfl, leaveR hH hb rfl hH' d⟩
    · exact hs.elim
end Go.Proofs.YtbcicjmepojlnaaGreat.Eng
/- Gaps page by page; no condition but those typed. -/
namespace Go.Proofs.YtbcicjmepojlnaaGreat.Eng
open Go Go.RowKit
set_option autoImplicit false
set_option linter.unusedSimpArgs false
set_option linter.unusedVariables false
def gapR : Int → List Ar → List Gp
  | at_, [] => if at_ < 2097152 then [⟨at_, 2097152⟩] else []
  | at_, a :: r => (if at_ < a.s then [⟨at_, a.s⟩] else []) ++ gapR a.e r
theorem gapsE_from (zs : List Ar) : ∀ (m k : Nat), k + m = zs.length → gapsE zs = gapsTo zs k ++ gapR (atW zs 65536 k) (zs.drop k)
  | 0, k, h => by
    have hk : k = zs.length := by omega
    subst hk
    rw [List.drop_length]
    rfl
  | m + 1, k, h => by
    rw [gapsE_from zs m (k + 1) (by omega), drop_cons (show k < zs.length by omega)]
    show (gapsTo zs k ++ _) ++ gapR (nthA zs k).e _ = gapsTo zs k ++ (_ ++ gapR (nthA zs k).e _)
    rw [List.append_assoc]
theorem gapsE_eq (zs : List Ar) : gapsE zs = gapR 65536 zs := gapsE_from zs zs.length 0 (by omega)
structure GapOk (l : List Ar) (at_ : Int) (g : Gp) : Prop where
  z : g.s % 4096 = 0
  z2 : g.e % 4096 = 0
  lo : at_ ≤ g.s
  lt : g.s < g.e
  hi : g.e ≤ 2097152
  free : ∀ x t, g.s ≤ x → x < g.e → ¬ Has l x t
  stop : g.e = 2097152 ∨ ∃ t, Has l g.e t
  start : g.s = at_ ∨ ∃ t, Has l (g.s - 4096) t
theorem gapR_spec : ∀ {l : List Ar} {at_ : Int}, Ok l → at_ % 4096 = 0 → 65536 ≤ at_ → at_ ≤ 2097152 → (∀ a ∈ l, at_ ≤ a.s) →
    (∀ g ∈ gapR at_ l, GapOk l at_ g) ∧ (gapR at_ l).Pairwise (fun g g' => g.e < g'.s) ∧ ∀ x, x % 4096 = 0 → at_ ≤ x → x < 2097152 → (∀ t, ¬ Has l x t) → ∃ g ∈ gapR at_ l, g.s ≤ x ∧ x < g.e
  | [], at_, _, h0, h1, h2, _ => by
    unfold gapR
    by_cases h : at_ < 2097152
    · rw [if_pos h]
      refine ⟨fun g hg => ?_, List.pairwise_singleton _ _, fun x hx b1 b2 _ => ⟨_, List.mem_singleton.2 rfl, b1, b2⟩⟩
      rw [List.mem_singleton.1 hg]
      exact ⟨h0, (by show (2097152 : Int) % 4096 = 0; decide), Int.le_refl _, h, Int.le_refl _, fun x t _ _ hx => Has.nil hx, .inl rfl, .inl rfl⟩
    · rw [if_neg h]
      exact ⟨fun g hg => (by cases hg), List.Pairwise.nil, fun x _ b1 b2 _ => by omega⟩
  | a :: r, at_, hl, h0, h1, h2, h3 => by
    have ha : Fo a := fo.1 (hl.1 a (List.mem_cons_self ..))
    have hr : Ok r := ⟨fun b hb => hl.1 b (List.mem_cons_of_mem _ hb), (List.pairwise_cons.1 hl.2).2⟩
    have hre : ∀ b ∈ r, a.e ≤ b.s := (List.pairwise_cons.1 hl.2).1
    have b1 := h3 a (List.mem_cons_self ..)
    have b2 := ha.lt
    obtain ⟨i1, i2, i3⟩ := gapR_spec (l := r) (at_ := a.e) hr ha.e0 (by have := ha.lo; omega) ha.hi hre
    have one : ∀ x t, Has (a :: r) x t → a.s ≤ x := fun x t hx => by
      rcases (has_cons a r x t).1 hx with ⟨⟨h, _⟩, _⟩ | ⟨b, hb, ⟨h, _⟩, _⟩
      · exact h
      · have := hre b hb; omega
    have up : ∀ g ∈ gapR a.e r, GapOk (a :: r) at_ g := fun g hg => by
      obtain ⟨z, z2, lo, lt, hi, free, stop, start⟩ := i1 g hg
      refine ⟨z, z2, by omega, lt, hi, fun x t c1 c2 hx => ?_, ?_, .inr ?_⟩
      · rcases (has_cons a r x t).1 hx with ⟨⟨_, h⟩, _⟩ | h
        · omega
        · exact free x t c1 c2 h
      · rcases stop with h | ⟨t, h⟩
        · exact .inl h
        · exact .inr ⟨t, (has_cons a r _ t).2 (.inr h)⟩
      · rcases start with h | ⟨t, h⟩
        · refine ⟨ext a (g.s - 4096), (has_cons a r _ _).2 (.inl ⟨⟨?_, by omega⟩, rfl⟩)⟩
          have := ha.s0
          have := ha.e0
          omega
        · exact ⟨t, (has_cons a r _ t).2 (.inr h)⟩
    unfold gapR
    refine ⟨fun g hg => ?_, ?_, fun x hx c1 c2 hn => ?_⟩
    · rcases List.mem_append.1 hg with h | h
      · split at h
        · rename_i hlt
          rw [List.mem_singleton.1 h]
          exact ⟨h0, ha.s0, Int.le_refl _, hlt, by have := ha.hi; show a.s ≤ _; omega, fun x t _ c2 hx => by have := one x t hx; simp only at c2; omega, .inr ⟨ext a a.s, (has_cons a r _ _).2 (.inl ⟨⟨Int.le_refl _, b2⟩, rfl⟩)⟩, .inl rfl⟩
        · cases h
      · exact up g h
    · split
      · refine List.pairwise_cons.2 ⟨fun g hg => ?_, i2⟩
        have := (i1 g hg).lo
        show a.s < g.s
        omega
      · exact i2
    · by_cases hxs : x < a.s
      · exact ⟨⟨at_, a.s⟩, List.mem_append.2 (.inl (by rw [if_pos (by omega)]; exact List.mem_singleton.2 rfl)), c1, hxs⟩
      · have hxe : a.e ≤ x := by
          by_cases h : a.e ≤ x
          · exact h
          · exact absurd ((has_cons a r x _).2 (.inl ⟨⟨by omega, by omega⟩, rfl⟩)) (hn (ext a x))
        obtain ⟨g, hg, h⟩ := i3 x hx hxe c2 fun t ht => hn t ((has_cons a r x t).2 (.inr ht))
        exact ⟨g, List.mem_append.2 (.inr hg), h⟩
theorem gaps_spec {l : List Ar} (hl : Ok l) : (∀ g ∈ gapsE l, GapOk l 65536 g) ∧ (gapsE l).Pairwise (fun g g' => g.e < g'.s) ∧ ∀ x, x % 4096 = 0 → 65536 ≤ x → x < 2097152 → (∀ t, ¬ Has l x t) → ∃ g ∈ gapsE l, g.s ≤ x ∧ x < g.e := by
  rw [gapsE_eq]
  exact gapR_spec hl (by decide) (by decide) (by decide) fun a ha => (fo.1 (hl.1 a ha)).lo
/-! ### Free ranges -/
def FreeR (l : List Ar) (a b : Int) : Prop := ∀ x, x % 4096 = 0 → a ≤ x → x < b → ∀ t, ¬ Has l x t
theorem free_gap {l : List Ar} (hl : Ok l) {a b : Int} (h0 : a % 4096 = 0) (h1 : 65536 ≤ a) (h2 : a < b) (h3 : b ≤ 2097152) (h : FreeR l a b) : ∃ g ∈ gapsE l, g.s ≤ a ∧ b ≤ g.e := by
  obtain ⟨g1, _, g3⟩ := gaps_spec hl
  obtain ⟨g, hg, c1, c2⟩ := g3 a h0 h1 (by omega) (h a h0 (Int.le_refl _) h2)
  refine ⟨g, hg, c1, ?_⟩
  have ho := g1 g hg
  by_cases hb : b ≤ g.e
  · exact hb
  · exfalso
    rcases ho.stop with he | ⟨t, ht⟩
    · omega
    · exact h g.e ho.z2 (by omega) (by omega) t ht
theorem gap_free {l : List Ar} (hl : Ok l) {g : Gp} (hg : g ∈ gapsE l) {a b : Int} (h1 : g.s ≤ a) (h2 : b ≤ g.e) : FreeR l a b := fun x hx c1 c2 t => ((gaps_spec hl).1 g hg).free x t (by omega) (by omega)
theorem free_iff {l : List Ar} (hl : Ok l) {a b : Int} (h0 : a % 4096 = 0) (h1 : 65536 ≤ a) (h2 : a < b) (h3 : b ≤ 2097152) : FreeR l a b ↔ ∃ g ∈ gapsE l, g.s ≤ a ∧ b ≤ g.e :=
  ⟨free_gap hl h0 h1 h2 h3, fun ⟨g, hg, c1, c2⟩ => gap_free hl hg c1 c2⟩
theorem sizeG_iff {n : Int} (h : In64 n) : sizeG n = true ↔ 4096 ≤ n ∧ n ≤ 2031616 ∧ n % 4096 = 0 := by
  unfold sizeG
  rw [Bool.and_eq_true, Bool.and_eq_true, decide_eq_true_eq, decide_eq_true_eq, whole_iff]
  omega
theorem fits_iff {l : List Ar} (hl : Rt l) {a n : Int} (ha : In64 a) (hn : In64 n) : fitsL l a n = true ↔ sizeG n = true ∧ a % 4096 = 0 ∧ 65536 ≤ a ∧ a + n ≤ 2097152 ∧ FreeR l a (a + n) := by
  unfold fitsL
  by_cases hs : sizeG n = true
  · have hs2 := (sizeG_iff hn).1 hs
    have e1 : w64 (2097152 - n) = 2097152 - n := w64_id (by unfold In64; omega)
    by_cases hc : a % 4096 = 0 ∧ 65536 ≤ a ∧ a + n ≤ 2097152
    · have e2 : w64 (a + n) = a + n := w64_id (by unfold In64; omega)
      rw [if_neg (by rw [hs, (tmod0 a).2 hc.1, e1]; simp; omega), gaps_yes (of_rt hl), List.any_eq_true, e2]
      rw [free_iff hl.ok hc.1 hc.2.1 (by omega) hc.2.2]
      constructor
      · rintro ⟨g, hg, h⟩
        rw [Bool.and_eq_true, decide_eq_true_eq, decide_eq_true_eq] at h
        exact ⟨hs, hc.1, hc.2.1, hc.2.2, g, hg, h.1, h.2⟩
      · rintro ⟨_, _, _, _, g, hg, h1, h2⟩
        refine ⟨g, hg, ?_⟩
        rw [Bool.and_eq_true, decide_eq_true_eq, decide_eq_true_eq]
        exact ⟨h1, h2⟩
    · rw [if_pos]
      · exact ⟨fun h => (by cases h), fun h => absurd ⟨h.2.1, h.2.2.1, h.2.2.2.1⟩ hc⟩
      · rw [e1]
        by_cases h0 : a % 4096 = 0
        · simp only [Bool.or_eq_true, decide_eq_true_eq]
          by_cases h1 : 65536 ≤ a
          · exact .inr (by omega)
          · exact .inl (.inr (by omega))
        · have : (Int.tmod a 4096 != 0) = true := by
            cases hb : (Int.tmod a 4096 != 0)
            · exact absurd ((tmod0 a).1 hb) h0
            · rfl
          rw [this]
          simp
  · have : sizeG n = false := by simpa using hs
    rw [if_pos (by rw [this]; simp)]
    exact ⟨fun h => (by cases h), fun h => absurd h.1 hs⟩
/-! ### Room within bounds -/
structure GoodA (l : List Ar) (lo hi n a : Int) : Prop where
  z : a % 4096 = 0
  l1 : 65536 ≤ a
  h1 : a + n ≤ 2097152
  lo : lo ≤ a
  hi : a + n ≤ hi
  free : FreeR l a (a + n)
theorem clamp_in (x : Int) : 65536 ≤ clampG x ∧ clampG x ≤ 2097152 := by
  unfold clampG minI maxI
  split <;> split <;> omega
theorem up_eq {x : Int} (h : 65536 ≤ x ∧ x ≤ 2097152) : upG x = (x + 4095) / 4096 * 4096 := by
  unfold upG
  have e1 : w64 (x + 4096) = x + 4096 := w64_id (by unfold In64; omega)
  have e2 : w64 (x + 4096 - 1) = x + 4095 := (w64_id (by unfold In64; omega)).trans (by omega)
  rw [e1, e2, tdiv_pos (by omega)]
  have e3 : w64 ((x + 4095) / 4096) = (x + 4095) / 4096 := w64_id (by unfold In64; omega)
  rw [e3]
  exact w64_id (by unfold In64; omega)
theorem down_eq {x : Int} (h : 65536 ≤ x ∧ x ≤ 2097152) : downG x = x / 4096 * 4096 := by
  unfold downG
  rw [tdiv_pos (by omega)]
  have e3 : w64 (x / 4096) = x / 4096 := w64_id (by unfold In64; omega)
  rw [e3]
  exact w64_id (by unfold In64; omega)
theorem in_eq (g : Gp) (lo hi : Int) : (inG g lo hi).s = maxI g.s ((clampG lo + 4095) / 4096 * 4096) ∧ (inG g lo hi).e = minI g.e (clampG hi / 4096 * 4096) := by
  unfold inG
  rw [up_eq (clamp_in lo), down_eq (clamp_in hi)]
  exact ⟨rfl, rfl⟩
theorem in_rng {l : List Ar} {g : Gp} (hg : GapOk l 65536 g) (lo hi : Int) : 65536 ≤ (inG g lo hi).s ∧ (inG g lo hi).s ≤ 2097152 ∧ 65536 ≤ (inG g lo hi).e ∧ (inG g lo hi).e ≤ 2097152 ∧ (inG g lo hi).s % 4096 = 0 ∧ (inG g lo hi).e % 4096 = 0 ∧ g.s ≤ (inG g lo hi).s ∧ (inG g lo hi).e ≤ g.e := by
  obtain ⟨e1, e2⟩ := in_eq g lo hi
  have c1 := clamp_in lo
  have c2 := clamp_in hi
  have := hg.z
  have := hg.z2
  have := hg.lo
  have := hg.lt
  have := hg.hi
  rw [e1, e2]
  unfold maxI minI
  split <;> split <;> omega
theorem room_iff {l : List Ar} {g : Gp} (hg : GapOk l 65536 g) (lo hi : Int) {n : Int} : roomG lo hi n g = true ↔ (inG g lo hi).s + n ≤ (inG g lo hi).e := by
  have := in_rng hg lo hi
  unfold roomG
  rw [w64_id (show In64 ((inG g lo hi).e - (inG g lo hi).s) by unfold In64; omega), decide_eq_true_eq]
  omega
theorem good_in {l : List Ar} (hl : Ok l) {lo hi n a : Int} (hn : 4096 ≤ n ∧ n % 4096 = 0) : GoodA l lo hi n a ↔ a % 4096 = 0 ∧ ∃ g ∈ gapsE l, (inG g lo hi).s ≤ a ∧ a + n ≤ (inG g lo hi).e := by
  have cl : ∀ x, clampG x = (if x < 65536 then 65536 else if 2097152 < x then 2097152 else x) := fun x => by
    unfold clampG minI maxI
    (repeat' split) <;> omega
  constructor
  · rintro ⟨z, l1, h1, hlo, hhi, hf⟩
    obtain ⟨g, hg, c1, c2⟩ := free_gap hl z l1 (by omega) h1 hf
    refine ⟨z, g, hg, ?_⟩
    obtain ⟨e1, e2⟩ := in_eq g lo hi
    rw [e1, e2, cl, cl]
    unfold maxI minI
    constructor
    · (repeat' split) <;> omega
    · (repeat' split) <;> omega
  · rintro ⟨z, g, hg, c1, c2⟩
    have hk := (gaps_spec hl).1 g hg
    have hr := in_rng hk lo hi
    obtain ⟨e1, e2⟩ := in_eq g lo hi
    refine ⟨z, by omega, by omega, ?_, ?_, gap_free hl hg (by omega) (by omega)⟩
    · rw [e1, cl] at c1
      unfold maxI at c1
      (repeat' split at c1) <;> omega
    · rw [e2, cl] at c2
      unfold minI at c2
      (repeat' split at c2) <;> omega
theorem low_spec {l : List Ar} (hl : Rt l) {lo hi n : Int} (hn : sizeG n = true) (hi64 : In64 n) : ((lowN l lo hi n).2 = true → GoodA l lo hi n (lowN l lo hi n).1 ∧ ∀ a, GoodA l lo hi n a → (lowN l lo hi n).1 ≤ a) ∧ ((lowN l lo hi n).2 = false → (lowN l lo hi n).1 = 0 ∧ ∀ a, ¬ GoodA l lo hi n a) := by
  obtain ⟨g1, g2, _⟩ := gaps_spec hl.ok
  have hs := (sizeG_iff hi64).1 hn
  cases hf : (gapsE l).find? (roomG lo hi n) with
  | some g =>
    rw [low_here hn (of_rt hl) hf]
    refine ⟨fun _ => ?_, fun h => by cases h⟩
    obtain ⟨hp, l1, l2, hl12, hno⟩ := List.find?_eq_some_iff_append.1 hf
    have hg : g ∈ gapsE l := by rw [hl12]; simp
    have hrm := (room_iff (g1 g hg) lo hi).1 hp
    have hr := in_rng (g1 g hg) lo hi
    refine ⟨(good_in hl.ok ⟨by omega, by omega⟩).2 ⟨hr.2.2.2.2.1, g, hg, Int.le_refl _, hrm⟩, fun a ha => ?_⟩
    obtain ⟨_, g', hg', c1, c2⟩ := (good_in hl.ok ⟨by omega, by omega⟩).1 ha
    rw [hl12] at hg' g2
    rcases List.mem_append.1 hg' with h | h
    · have := hno g' h
      have h2 := (room_iff (g1 g' (by rw [hl12]; exact List.mem_append.2 (.inl h))) lo hi (n := n)).2 (by omega)
      rw [h2] at this
      cases this
    · rcases List.mem_cons.1 h with rfl | h
      · exact c1
      · have h3 := (List.pairwise_append.1 g2).2.1
        have h4 := (List.pairwise_cons.1 h3).1 g' h
        have h5 := in_rng (g1 g' (by rw [hl12]; simp [h])) lo hi
        show (inG g lo hi).s ≤ a
        omega
  | none =>
    have hno : ∀ g ∈ gapsE l, roomG lo hi n g = false := fun g hg => by
      have := List.find?_eq_none.1 hf g hg
      simpa using this
    rw [low_none hn (of_rt hl) hno]
    refine ⟨fun h => (by cases h), fun _ => ⟨rfl, fun a ha => ?_⟩⟩
    obtain ⟨_, g', hg', c1, c2⟩ := (good_in hl.ok ⟨by omega, by omega⟩).1 ha
    have h2 := (room_iff (g1 g' hg') lo hi (n := n)).2 (by omega)
    rw [hno g' hg'] at h2
    cases h2
theorem high_fold (lo hi n : Int) : ∀ (m : Nat) (l : List Gp), l.length = m → (highF lo hi n l = (0, false) ∧ ∀ g ∈ l, roomG lo hi n g = false) ∨ ∃ l1 g l2, l = l1 ++ g :: l2 ∧ roomG lo hi n g = true ∧ (∀ g' ∈ l2, roomG lo hi n g' = false) ∧ highF lo hi n l = (w64 ((inG g lo hi).e - n), true)
  | 0, l, h => by
    obtain rfl := List.eq_nil_of_length_eq_zero h
    exact .inl ⟨rfl, fun g hg => by cases hg⟩
  | m + 1, l, h => by
    obtain ⟨pre, x, rfl⟩ : ∃ pre x, l = pre ++ [x] := by
      have hne : l ≠ [] := by intro e; subst e; cases h
      exact ⟨l.dropLast, l.getLast hne, (List.dropLast_concat_getLast hne).symm⟩
    have hm : pre.length = m := by simpa using h
    cases hx : roomG lo hi n x with
    | true => exact .inr ⟨pre, x, [], rfl, hx, fun g hg => (by cases hg), (high_y hx).symm⟩
    | false =>
      rw [← high_n hx]
      rcases high_fold lo hi n m pre hm with ⟨h1, h2⟩ | ⟨l1, g, l2, h1, h2, h3, h4⟩
      · exact .inl ⟨h1, room_snoc h2 hx⟩
      · refine .inr ⟨l1, g, l2 ++ [x], by rw [h1]; simp, h2, fun g' hg' => ?_, h4⟩
        rcases List.mem_append.1 hg' with h5 | h5
        · exact h3 g' h5
        · rw [List.mem_singleton.1 h5]; exact hx
theorem high_spec {l : List Ar} (hl : Rt l) {lo hi n : Int} (hn : sizeG n = true) (hi64 : In64 n) : ((highN l lo hi n).2 = true → GoodA l lo hi n (highN l lo hi n).1 ∧ ∀ a, GoodA l lo hi n a → a ≤ (highN l lo hi n).1) ∧ ((highN l lo hi n).2 = false → (highN l lo hi n).1 = 0 ∧ ∀ a, ¬ GoodA l lo hi n a) := by
  obtain ⟨g1, g2, _⟩ := gaps_spec hl.ok
  have hs := (sizeG_iff hi64).1 hn
  rw [high_yes hn (of_rt hl)]
  rcases high_fold lo hi n _ (gapsE l) rfl with ⟨h1, hno⟩ | ⟨l1, g, l2, hl12, hp, hno, h4⟩
  · rw [h1]
    refine ⟨fun h => (by cases h), fun _ => ⟨rfl, fun a ha => ?_⟩⟩
    obtain ⟨_, g', hg', c1, c2⟩ := (good_in hl.ok ⟨by omega, by omega⟩).1 ha
    have h2 := (room_iff (g1 g' hg') lo hi (n := n)).2 (by omega)
    rw [hno g' hg'] at h2
    cases h2
  · rw [h4]
    refine ⟨fun _ => ?_, fun h => by cases h⟩
    have hg : g ∈ gapsE l := by rw [hl12]; simp
    have hrm := (room_iff (g1 g hg) lo hi).1 hp
    have hr := in_rng (g1 g hg) lo hi
    have e : w64 ((inG g lo hi).e - n) = (inG g lo hi).e - n := w64_id (by unfold In64; omega)
    rw [e]
    refine ⟨(good_in hl.ok ⟨by omega, by omega⟩).2 ⟨by show ((inG g lo hi).e - n) % 4096 = 0; omega, g, hg, by show _ ≤ (inG g lo hi).e - n; omega, by show (inG g lo hi).e - n + n ≤ _; omega⟩, fun a ha => ?_⟩
    obtain ⟨_, g', hg', c1, c2⟩ := (good_in hl.ok ⟨by omega, by omega⟩).1 ha
    show a ≤ (inG g lo hi).e - n
    rw [hl12] at hg' g2
    rcases List.mem_append.1 hg' with h | h
    · have h3 := (List.pairwise_append.1 g2).2.2 g' h g (List.mem_cons_self ..)
      have h5 := in_rng (g1 g' (by rw [hl12]; exact List.mem_append.2 (.inl h))) lo hi
      omega
    · rcases List.mem_cons.1 h with rfl | h
      · omega
      · have := hno g' h
        have h2 := (room_iff (g1 g' (by rw [hl12]; simp [h])) lo hi (n := n)).2 (by omega)
        rw [h2] at this
        cases this
end Go.Proofs.YtbcicjmepojlnaaGreat.Eng
