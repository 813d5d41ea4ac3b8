/- Texts of this work, laid together: symbolic execution over the model, contracts of the program's functions, what they come to; conditions: as each says. -/
import Derived.Test.YtbcicjmepojlnaaPkKAJ
import Derived.Test.YtbcicjmepojlnaaPkKAL
import Derived.Test.YtbcicjmepojlnaaPkKAN
/- A range over gap.each, met round by round; condition: at most a million areas. -/
namespace Go.Proofs.Ytbcicjmepojlnaa.Eng
open Go Go.RowKit
set_option autoImplicit false
set_option linter.unusedSimpArgs false
set_option linter.unusedVariables false
structure RNext {σ : Type} (I : List Gp → σ → Prop) (E : List Gp → σ → List (Nat × Ent)) (xs : List Gp) (H : Heap) : Prop where
  h : ∃ s ρ, I xs s ∧ ρ.Nodup ∧ FitsG H ρ (E xs s)
def RoundQ {σ τ : Type} (I : List Gp → σ → Prop) (E : List Gp → σ → List (Nat × Ent)) (IR : List Gp → τ → Prop) (ER : List Gp → τ → List (Nat × Ent)) (xs : List Gp) : QT
  | .normal, _, H => RNext I E xs H
  | .ret, _, H => RNext IR ER xs H
  | .exit _, _, _ => False
def onlyN (K : Env → Heap → Prop) : QT
  | .normal, env, H => K env H
  | .ret, _, _ => False
  | .exit _, _, _ => False
theorem rangeM_each {P' : Program} (hP : P' = Try.prog) {n : Nat} {F : TT} (hF : TTok Try.prog F) (l : List (ESpec Try.prog)) (hm : Try.prog.follows .mixedOrders = true) {tabs : Tabs} {t pT : Nat} {ca b : Code} {Q : QT} {env : Env} {H : Heap} {id Bs tb lid cap : Nat} {A : Option Addr} {zs : List Ar}
    (hf : env t = .c (.fn 143 id Bs 0)) (hB : H id = some (.blk Bs tb [.sl lid A zs.length cap])) (hlen : zs.length ≤ 1000000) (hpT : pT < n) {σ τ : Type} (I : List Gp → σ → Prop) (IR : List Gp → τ → Prop) (E : List Gp → σ → List (Nat × Ent)) (ER : List Gp → τ → List (Nat × Ent)) (s0 : σ) (hI0 : I [] s0) (ρ0 : List Nat)
    (hn : ρ0.Nodup) (h1 : FitsG H ρ0 (E [] s0)) (hEl : ∀ pre s, heapOf (E pre s) lid = some (.rd A 6 zs.length (encL zs))) (ks : List Nat) (L : List (Nat × SV)) (h0 : FitsE env (keepE env ks L)) {κ : Kp} (hκ : κ = kid)
    (round : ∀ pre x s, I pre s → (pre ++ [x]) <+: gapsE zs → vcE κ P' F (lookT l) (lookE l) n tabs ca (onlyN fun env1 H1 => vcE κ P' F (lookT l) (lookE l) n tabs b (RoundQ I E IR ER (κ _ (pre ++ [x]))) env1 H1) (upd (envOf (keepE env ks L)) pT (.agg [.v (.int .i64 (κ _ x.s)), .v (.int .i64 (κ _ x.e))])) (heapOf (E pre s)))
    (done : ∀ s, I (gapsE zs) s → Q .normal (envOf (keepE env ks L)) (heapOf (E (gapsE zs) s))) (stop : ∀ pre r, IR pre r → pre <+: gapsE zs → Q .ret (envOf (keepE env ks L)) (heapOf (ER pre r))) :
    RangeM P' n tabs (.tmp t) #[pT] ca b Q env H := by
  subst hκ hP
  refine ⟨fun hsa hsb w0 a w hE hH => wpIn_rangeFunc ?_⟩
  intro fn hfn
  have hEk := hE.fits h0
  have hI0' : HSat w0 (fun _ => False) (heapOf (E [] s0)) w := hH.fitsG hn h1
  have hev : a.eval (.tmp t) = .func (.func 143) #[] #[.pointer (some ⟨Bs, 0, none⟩)] := eval_c (c := .fn 143 id Bs 0) hE hf (by simp)
  have hbx : w.heap[Bs]? = some (.cells #[.slice A zs.length cap] tb (0, 0)) := hH.holds id _ hB
  have hw0 := hH.fr.size
  have hdf : a.defers = [] := hE.defers
  rw [show (fen none).round = none from rfl]
  obtain ⟨rec, hrec⟩ : ∃ rec : LoopState → Option Code → Loop, rec = fun st pe => { state := st, pending := pe, fn, tmps := a.tmps, params := #[pT], assign := ca, body := b, defers := w.heap.size } := ⟨_, rfl⟩
  obtain ⟨W1, hW1⟩ : ∃ W1, (w.alloc (.deferred (some []))).alloc (.loop (rec .ready none)) = W1 := ⟨_, rfl⟩
  have hL1 : W1.heap[w.heap.size + 1]? = some (.loop (rec .ready none)) := by
    rw [← hW1]; have := World.alloc_heap_new (w.alloc (.deferred (some []))) (.loop (rec .ready none)); rwa [World.size_alloc] at this
  have hK1 : W1.heap[w.heap.size]? = some (.deferred (some [])) := by
    rw [← hW1]; exact (Below.heap_alloc _ _ _ (by simp)).trans (World.alloc_heap_new w _)
  have hI1 : HSat w0 (fun _ => False) (heapOf (E [] s0)) W1 := by rw [← hW1]; exact (hI0'.alloc_ _).alloc_ _
  have hbx1 : W1.heap[Bs]? = w.heap[Bs]? := by
    have hlt : Bs < w.heap.size := (Array.getElem?_eq_some_iff.1 hbx).1
    rw [← hW1]; exact (Below.heap_alloc _ _ _ (by simp; omega)).trans (Below.heap_alloc _ _ _ hlt)
  have hcell : W1.cell? ⟨Bs, 0, none⟩ = some (.slice A zs.length cap) := by
    unfold World.cell?
    simp only
    rw [hbx1, hbx]
    rfl
  have hsz1 : W1.heap.size = w.heap.size + 2 := by rw [← hW1]; simp
  refine ⟨w.heap.size + 1, [{ target := .collected w.heap.size, args := #[] }], W1, { target := .fn (.func 143) #[.pointer (some ⟨Bs, 0, none⟩)], args := #[.func (.yield (w.heap.size + 1)) #[] #[]] }, W1, 143,
    #[.func (.yield (w.heap.size + 1)) #[] #[], .pointer (some ⟨Bs, 0, none⟩)], W1, ?_, ?_, ?_, ?_, fun h => (by cases h), ?_⟩
  · rw [← hW1, hrec]; exact run_enterLoop_outer _ _ _ _ _
  · simp only [resolve, hev]
    simp [go_sem]
  · intro f' hf'; trivial
  · simp only [invoke]
    exact callFunc_run 143 Try.f143 _ Try.func143 rfl (by decide) _ W1
  · have hnc : ∀ {X : World} {row : Option Nat}, (∀ r, row = some r → W1.heap.size ≤ r ∧ ∃ o : Obj, X.heap[r]? = some o ∧ o.isWalk = true) → ∀ r, row = some r → W1.heap.size ≤ r ∧ ∃ o : Obj, X.heap[r]? = some o ∧ o.isCells = false :=
      fun hr r e => by obtain ⟨h1, o, h2, h3⟩ := hr r e; exact ⟨h1, o, h2, Obj.not_cells_of_walk h3⟩
    refine (each_in (fen none) 2 trivial rfl (by decide) (w.heap.size + 1) Bs cap A zs hlen
      (fun pre W => (∃ s, I pre s ∧ HSat w0 (fun _ => False) (heapOf (E pre s)) W) ∧ W.heap[w.heap.size + 1]? = some (.loop (rec .ready none)) ∧ W.heap[w.heap.size]? = some (.deferred (some [])))
      (fun pre W => (∃ r, IR pre r ∧ HSat w0 (fun _ => False) (heapOf (ER pre r)) W) ∧ W.heap[w.heap.size + 1]? = some (.loop (rec .done (some .ret))) ∧ W.heap[w.heap.size]? = some (.deferred (some [])))
      ?_ W1 hcell (hI1.holds lid _ (hEl [] s0)) (fun pre X Y row hs hg hr => ?_) ⟨⟨s0, hI0, hI1⟩, hL1, hK1⟩).mono ?_
    rotate_left
    · obtain ⟨⟨s, hv, hi⟩, hl, hk⟩ := hs
      exact ⟨⟨s, hv, hi.turn hg (hnc hr) (by omega)⟩, (grownBy_keeps hg (fun r e => (hr r e).2) hl rfl).trans hl, (grownBy_keeps hg (fun r e => (hr r e).2) hk rfl).trans hk⟩
    · -- behind the iterator
      have hEd : ∀ ds, EnvOk n (envOf (keepE env ks L)) (setD { a with defers := ds } []) := fun ds => ⟨hEk.size, hEk.slot, rfl⟩
      rintro e W2 ⟨⟨v, rfl⟩, (⟨⟨s, hv, hi⟩, hl, hk⟩ | ⟨pre, hpre, ⟨r, hv, hi⟩, hl, hk⟩)⟩
      · refine ⟨none, _, by have := run_endLoop (P := Try.prog) hl (by rw [hrec]; simp); rw [hrec] at this; exact this, ?_⟩
        exact ⟨⟨_, _, done s hv, hEd _, hi.put_ _ hl rfl (by omega)⟩, .inr ⟨w.heap.size, by show _ ++ a.defers = _; rw [hdf]; rfl, hw0, (World.putObj_heap_other (by omega)).trans hk⟩, fun h => by cases h⟩
      · refine ⟨some .ret, _, by have := run_endLoop (P := Try.prog) hl (by rw [hrec]; simp); rw [hrec] at this; exact this, ?_⟩
        exact wpIn_ret ⟨⟨_, _, stop pre r hv hpre, hEd _, hi.put_ _ hl rfl (by omega)⟩, .inr ⟨w.heap.size, by show _ ++ a.defers = _; rw [hdf]; rfl, hw0, (World.putObj_heap_other (by omega)).trans hk⟩, fun h => by cases h⟩
    · -- one round
      rintro pre x Wa Wb ⟨⟨s, hv, hia⟩, hla, hka⟩ hpre hWb
      have hlta : w.heap.size + 1 < Wa.heap.size := (Array.getElem?_eq_some_iff.1 hla).1
      have hstep : ∀ k, k < Wa.heap.size → Wb.heap[k]? = Wa.heap[k]? := fun k hk => by
        rcases hWb with rfl | ⟨o, rfl⟩
        · rfl
        · exact Below.heap_alloc _ _ _ hk
      have hszb : Wa.heap.size ≤ Wb.heap.size := by
        rcases hWb with rfl | ⟨o, rfl⟩
        · exact Nat.le_refl _
        · simp
      have hi : HSat w0 (fun _ => False) (heapOf (E pre s)) Wb := by
        rcases hWb with rfl | ⟨o, rfl⟩
        · exact hia
        · exact hia.alloc_ o
      have hl := (hstep _ hlta).trans hla
      have hk := (hstep _ (by omega)).trans hka
      have hlt : w.heap.size + 1 < Wb.heap.size := by omega
      have hy := run_yield (P := Try.prog) (args := #[valG x]) hl (by rw [hrec]; rfl)
      rw [hrec] at hy
      refine ⟨fn, _, ca, b, hy, roundIn_of_wpIn hfn ?_⟩
      clear hy
      have hEr : EnvOk n (upd (envOf (keepE env ks L)) pT (.agg [.v (.int .i64 x.s), .v (.int .i64 x.e)])) (a.put (some pT) (valG x)) := hEk.put (some pT) (fun d e => by injection e with e; omega) _ _ (fun _ => rfl)
      have w1 := vcE_in hF l hm (some (w.heap.size + 1)) (2 - 1) [] tabs ca hsa _ _ _ (round pre x s hv hpre) Wb (mutH (heapOf (E pre s))) _ Wb hEr hi.self
      have hact : setD (a.put (some pT) (valG x)) [] = { tmps := (#[pT].zip #[valG x]).foldl (fun tmps (p, v) => tmps.setIfInBounds p v) a.tmps, defers := [] } := by simp [setD, Act.put]
      rw [hact] at w1
      refine wpIn_mono (F := fen (some (w.heap.size + 1))) w1 ?_
      rintro e a1 Wc ⟨hq, hd1⟩
      cases e with
      | normal =>
        obtain ⟨env1, H1, hv1, hE1, hH1⟩ := hq
        have hlc := hi.other hH1 hl rfl
        have hkc := hi.other hH1 hk rfl
        have hi1 := hi.over hH1
        have hszc : Wb.heap.size ≤ Wc.heap.size := hH1.fr.size
        refine ⟨_, run_beginRound hlc (by rw [hrec]), ?_⟩
        obtain ⟨w2, hw2⟩ : ∃ w2, Wc.putObj (w.heap.size + 1) (.loop { rec .ready none with state := .busy }) = w2 := ⟨_, rfl⟩
        rw [hw2]
        have hi2 : HSat w0 (fun _ => False) H1 w2 := by rw [← hw2]; exact hi1.put_ _ hlc rfl (by omega)
        have hl2 : w2.heap[w.heap.size + 1]? = some (.loop { rec .ready none with state := .busy }) := by rw [← hw2]; exact World.putObj_heap_same (by omega)
        have hk2 : w2.heap[w.heap.size]? = some (.deferred (some [])) := by rw [← hw2]; exact (World.putObj_heap_other (by omega)).trans hkc
        have hsz2 : w2.heap.size = Wc.heap.size := by rw [← hw2]; simp
        have w3 := vcE_in hF l hm (some (w.heap.size + 1)) (2 - 1) [] tabs b hsb _ _ _ hv1 w2 (mutH H1) (setD a1 []) w2 hE1 hi2.self
        rw [show setD (setD a1 []) [] = a1 from setD_self (a := a1) hd1] at w3
        refine wpIn_mono (F := fen (some (w.heap.size + 1))) w3 ?_
        rintro e3 a3 W3 ⟨hq3, hd3⟩
        -- what neither part has turned
        have keep : ∀ (H3 : Heap), HSat w2 (mutH H1) H3 W3 → ∀ (o' : Obj) (k : Nat), k < Wb.heap.size → ¬ mutH (heapOf (E pre s)) k → k ≠ w.heap.size + 1 → (W3.putObj (w.heap.size + 1) o').heap[k]? = Wb.heap[k]? := fun H3 hH3 o' k hk' hnm hne => by
          rw [World.putObj_heap_other hne, hH3.fr.block k (by omega) (fun hmm => by
            obtain ⟨i, e, hi', hme, hbe⟩ := hmm
            rcases hH1.own i e hi' hme k hbe with h3 | h3
            · omega
            · exact hnm h3), ← hw2, World.putObj_heap_other hne]
          exact hH1.fr.block k hk' hnm
        cases e3 with
        | normal =>
          obtain ⟨env3, H3, ⟨⟨s', ρ, hv3, hρ, hf3⟩⟩, hE3, hH3⟩ := hq3
          have hl3 := hi2.other hH3 hl2 rfl
          have hk3 := hi2.other hH3 hk2 rfl
          have hi3 := (hi2.over hH3).fitsG hρ hf3
          have hend := run_endRound (P := Try.prog) none hl3
          have hszw : w2.heap.size ≤ W3.heap.size := hH3.fr.size
          have hlr : (W3.putObj (w.heap.size + 1) (.loop (rec .ready none))).heap[w.heap.size + 1]? = some (.loop (rec .ready none)) := World.putObj_heap_same (by omega)
          refine ⟨_, _, hend, .inl ⟨rfl, ⟨⟨s', hv3, hi3.put_ _ hl3 rfl (by omega)⟩, ?_, (World.putObj_heap_other (by omega)).trans hk3⟩, by simp; omega, fun g hg => ?_, fun o ho => ?_⟩⟩
          · rw [hrec] at hlr ⊢
            exact hlr
          · have hrd := hEl pre s
            refine keep H3 hH3 _ g (hi.lt lid _ hrd g hg) (fun ⟨i, e, hi', hme, hbe⟩ => ?_) (fun e => ?_)
            · refine hi.sep i lid e _ (fun e' => ?_) hi' hrd hme g hbe hg
              subst e'
              rw [hrd] at hi'
              injection hi' with hi'
              subst hi'
              cases hme
            · obtain ⟨cs, t', x', hc⟩ := ent_cells (hi.holds lid _ hrd) hg
              rw [e, hl] at hc
              injection hc with hc
              cases hc
          · refine (keep H3 hH3 _ Wa.heap.size (by rw [ho]; simp) (fun hmm => ?_) (by omega)).trans (by rw [ho]; exact World.alloc_heap_new Wa o)
            have := mut_lt hia hmm
            omega
        | ret =>
          obtain ⟨env3, H3, ⟨⟨r, ρ, hv3, hρ, hf3⟩⟩, hE3, hH3⟩ := hq3
          have hl3 := hi2.other hH3 hl2 rfl
          have hk3 := hi2.other hH3 hk2 rfl
          have hi3 := (hi2.over hH3).fitsG hρ hf3
          have hend := run_endRound (P := Try.prog) (some .ret) hl3
          have hszw : w2.heap.size ≤ W3.heap.size := hH3.fr.size
          have hlr : (W3.putObj (w.heap.size + 1) (.loop (rec .done (some .ret)))).heap[w.heap.size + 1]? = some (.loop (rec .done (some .ret))) := World.putObj_heap_same (by omega)
          refine ⟨_, _, hend, .inr ⟨rfl, ⟨r, hv3, hi3.put_ _ hl3 rfl (by omega)⟩, ?_, (World.putObj_heap_other (by omega)).trans hk3⟩⟩
          rw [hrec] at hlr ⊢
          exact hlr
        | exit id' => obtain ⟨_, _, hf', _⟩ := hq3; exact hf'.elim
        | goto _ => exact hq3.elim
        | panic _ => exact hq3.elim
        | outgrown => exact hq3.elim
      | ret => obtain ⟨_, _, hf', _⟩ := hq; exact hf'.elim
      | exit id' => obtain ⟨_, _, hf', _⟩ := hq; exact hf'.elim
      | goto _ => exact hq.elim
      | panic _ => exact hq.elim
      | outgrown => exact hq.elim
end Go.Proofs.Ytbcicjmepojlnaa.Eng
/- Gaps, in plain words; gap.each's contract; no condition but those typed. -/
namespace Go.Proofs.Ytbcicjmepojlnaa.Eng
open Go Go.RowKit
set_option autoImplicit false
set_option linter.unusedSimpArgs false
set_option linter.unusedVariables false
def encGp (g : Gp) : List C := [.v (.int .i64 g.s), .v (.int .i64 g.e)]
def encG (l : List Gp) : List C := l.flatMap encGp
theorem encGp_len (g : Gp) : (encGp g).length = 2 := rfl
theorem encG_app (l k : List Gp) : encG (l ++ k) = encG l ++ encG k := List.flatMap_append
def noGp : Gp := ⟨0, 0⟩
def nthG (l : List Gp) (i : Nat) : Gp := l.getD i noGp
theorem nthG_get {l : List Gp} {i : Nat} (h : i < l.length) : l[i]? = some (nthG l i) := by
  unfold nthG
  rw [List.getD_eq_getElem?_getD, List.getElem?_eq_getElem h]
  rfl
def gapsL (l : List Ar) : List Gp := if rightL l = true then gapsE l else []
def sizeG (n : Int) : Bool := decide (n ≥ 1) && whole n && decide (n ≤ 2031616)
def upG (n : Int) : Int := w64 (w64 (Int.tdiv (w64 (w64 (n + 4096) - 1)) 4096) * 4096)
def downG (n : Int) : Int := w64 (w64 (Int.tdiv n 4096) * 4096)
def clampG (n : Int) : Int := minI (maxI n 65536) 2097152
def inG (g : Gp) (lo hi : Int) : Gp := ⟨maxI g.s (upG (clampG lo)), minI g.e (downG (clampG hi))⟩
def roomG (lo hi n : Int) (g : Gp) : Bool := decide (w64 ((inG g lo hi).e - (inG g lo hi).s) ≥ n)
def lowN (l : List Ar) (lo hi n : Int) : Int × Bool := if (!sizeG n || !rightL l) = true then (0, false) else match (gapsE l).find? (roomG lo hi n) with
  | some g => ((inG g lo hi).s, true)
  | none => (0, false)
def highN (l : List Ar) (lo hi n : Int) : Int × Bool := if (!sizeG n || !rightL l) = true then (0, false) else (gapsE l).foldl (fun r g => if roomG lo hi n g = true then (w64 ((inG g lo hi).e - n), true) else r) (0, false)
def fitsL (l : List Ar) (a n : Int) : Bool := if (!sizeG n || Int.tmod a 4096 != 0 || decide (a < 65536) || decide (a > w64 (2097152 - n))) = true then false else (gapsL l).any fun g => decide (a ≥ g.s) && decide (w64 (a + n) ≤ g.e)
theorem snoc_len {α : Type} (l : List α) (x : α) : l.length + 1 = (l ++ [x]).length := by rw [List.length_append]; rfl
theorem encG_snoc (l : List Gp) (x : Gp) : encG l ++ [.v (.int .i64 x.s), .v (.int .i64 x.e)] = encG (l ++ [x]) := by rw [encG_app]; rfl
theorem pre_len {l : List Ar} {pre : List Gp} {x : Gp} (h : (pre ++ [x]) <+: gapsE l) : pre.length + 1 ≤ l.length + 1 := by
  have h1 := h.length_le
  have h2 := gapsE_len l
  rw [List.length_append] at h1
  simp at h1
  omega
theorem gaps_no {l : List Ar} (h : rightL l = false) : gapsL l = [] := by
  unfold gapsL
  rw [h]
  rfl
theorem gaps_yes {l : List Ar} (h : rightL l = true) : gapsL l = gapsE l := if_pos h
theorem IsX.rowG {mk : C → SV} {r r' : List Gp} {i c2 : Nat} {A2 : Option Addr} {v : SV} {H' : Heap} (h : r' = r) (hv : v = mk (.sl i A2 r'.length c2)) (hH : H' i = some (.row A2 c2 42 2 r'.length (encG r'))) : IsX (.row 42 2 r.length (encG r) mk) v H' := by
  subst h
  exact ⟨⟨i, A2, c2, hv, .inl hH⟩⟩
theorem IsX.nilG {mk : C → SV} {r : List Gp} {i : Nat} {v : SV} {H' : Heap} (h : r = []) (hv : v = mk (.sl i none 0 0)) : IsX (.row 42 2 r.length (encG r) mk) v H' := by
  subst h
  exact ⟨⟨i, none, 0, hv, .inr ⟨rfl, rfl, rfl, rfl⟩⟩⟩
def highStep (lo hi n : Int) (r : Int × Bool) (g : Gp) : Int × Bool := if roomG lo hi n g = true then (w64 ((inG g lo hi).e - n), true) else r
def highF (lo hi n : Int) (l : List Gp) : Int × Bool := l.foldl (highStep lo hi n) (0, false)
theorem highF_next (lo hi n : Int) (l : List Gp) (g : Gp) : highF lo hi n (l ++ [g]) = highStep lo hi n (highF lo hi n l) g := by
  unfold highF
  rw [List.foldl_append]
  rfl
section
variable {lo hi n : Int} {pre : List Gp} {x : Gp}
theorem high_y (h : roomG lo hi n x = true) : (w64 ((inG x lo hi).e - n), true) = highF lo hi n (pre ++ [x]) := by
  rw [highF_next]
  unfold highStep
  rw [if_pos h]
theorem high_n (h : roomG lo hi n x = false) : highF lo hi n pre = highF lo hi n (pre ++ [x]) := by
  rw [highF_next]
  unfold highStep
  rw [if_neg (by rw [h]; simp)]
end
theorem find_here {l pre : List Gp} {x : Gp} {p : Gp → Bool} (h : (pre ++ [x]) <+: l) (h1 : ∀ g ∈ pre, p g = false) (h2 : p x = true) : l.find? p = some x := by
  obtain ⟨r, rfl⟩ := h
  rw [List.append_assoc, List.find?_append, List.find?_eq_none.2 (fun g hg => by rw [h1 g hg]; simp)]
  simp [h2]
theorem find_none {l : List Gp} {p : Gp → Bool} (h : ∀ g ∈ l, p g = false) : l.find? p = none := List.find?_eq_none.2 fun g hg => by rw [h g hg]; simp
theorem low_no {l : List Ar} {lo hi n : Int} (h : sizeG n = false ∨ rightL l = false) : lowN l lo hi n = (0, false) := by
  unfold lowN
  rw [if_pos]
  rcases h with h | h <;> rw [h] <;> simp
theorem low_here {l : List Ar} {lo hi n : Int} (h1 : sizeG n = true) (h2 : rightL l = true) {g : Gp} (h : (gapsE l).find? (roomG lo hi n) = some g) : lowN l lo hi n = ((inG g lo hi).s, true) := by
  unfold lowN
  rw [if_neg (by rw [h1, h2]; simp), h]
theorem low_none {l : List Ar} {lo hi n : Int} (h1 : sizeG n = true) (h2 : rightL l = true) (h : ∀ g ∈ gapsE l, roomG lo hi n g = false) : lowN l lo hi n = (0, false) := by
  unfold lowN
  rw [if_neg (by rw [h1, h2]; simp), find_none h]
theorem high_no {l : List Ar} {lo hi n : Int} (h : sizeG n = false ∨ rightL l = false) : highN l lo hi n = (0, false) := by
  unfold highN
  rw [if_pos]
  rcases h with h | h <;> rw [h] <;> simp
theorem high_yes {l : List Ar} {lo hi n : Int} (h1 : sizeG n = true) (h2 : rightL l = true) : highN l lo hi n = highF lo hi n (gapsE l) := by
  unfold highN
  rw [if_neg (by rw [h1, h2]; simp)]
  rfl
theorem room_snoc {lo hi n : Int} {pre : List Gp} {x : Gp} (h : ∀ g ∈ pre, roomG lo hi n g = false) (hx : roomG lo hi n x = false) : ∀ g ∈ pre ++ [x], roomG lo hi n g = false := fun g hg => by
  rcases List.mem_append.1 hg with h1 | h1
  · exact h g h1
  · rw [List.mem_singleton.1 h1]; exact hx
theorem IsX.pair_ {x : Int × Bool} {H' : Heap} {a : Int} {b : Bool} (h : x = (a, b)) : IsX (.val (.tup [.c (.v (.int .i64 x.1)), .c (.v (.bool x.2))])) (.tup [.c (.v (.int .i64 a)), .c (.v (.bool b))]) H' := by
  subst h
  exact ⟨rfl⟩
/-! ### gap.each -/
theorem b_each : Bodied Try.prog 99 := bodied Try.func99 rfl (by decide)
def eachT (κ : Kp) : TSpec := fun args H d K => match args with
  | [.c (.sl i A m c)] => ∀ b : Nat, K (.c (.fn 143 d b 0)) [(d, some (.blk b 22 [.sl i A m c]))]
  | _ => False
set_option maxRecDepth 100000 in
theorem k_each (i : Nat) (A : Option Addr) (m c : Nat) (w : World) :
    Calls Try.prog 99 #[.slice A m c] w fun e w' => ∃ (v : SV) (H' : Heap), e = .returned v.den ∧ (∃ b, v = .c (.fn 143 1 b 0) ∧ H' 1 = some (.blk b 22 [.sl i A m c])) ∧ HSat w (fun _ => False) H' w' := by
  obtain ⟨κ, hκ⟩ : ∃ κ : Kp, κ = kid := ⟨_, rfl⟩
  refine callsP (n := 4) FTok [] mixed [] Try.func99 rfl (by kernel_rfl) #[.slice A m c] [(0, .c (.sl i A m c))] (heapOf [(nilId, .rd none 1 0 [])]) w rfl [.tmp 2] rfl (by simp) (by simp [SV.den, C.den]) (HSat.start w) (fun v H' => ∃ b, v = .c (.fn 143 1 b 0) ∧ H' 1 = some (.blk b 22 [.sl i A m c])) hκ ?_
  intro P' hP'
  cbv
  repeat' (first | refine And.intro ?_ ?_ | (intro _; cbv))
  all_goals (first | exact ⟨_, rfl, rfl⟩ | rfl | trivial)
def e_each {κ : Kp} (hκ : κ = kid) : ESpec Try.prog :=
  ES b_each false eachT hκ (fun args H d => by
    unfold eachT
    split
    · rename_i i A m c
      exact .all_ (fun b => .c (.fn 143 d b 0)) (fun b => [(d, some (.blk b 22 [.sl i A m c]))]) fun b p hp => by
        rw [List.mem_singleton.1 hp]
        exact .inl rfl
    · exact .false_) fun args H0 H d w0 M w hs hsub hH => by
    unfold eachT at hs
    split at hs
    · rename_i i A m c
      refine (k_each i A m c w).mono ?_
      rintro e w' ⟨v, H', rfl, ⟨b, rfl, hb⟩, hH'⟩
      exact ⟨.c (.fn 143 d b 0), [(d, some (.blk b 22 [.sl i A m c]))], _, rfl, fun K hK => hK b, fun _ => rfl, leaveR hH hb rfl hH' d⟩
    · exact hs.elim
end Go.Proofs.Ytbcicjmepojlnaa.Eng
/- Gaps page by page; no condition but those typed. -/
namespace Go.Proofs.Ytbcicjmepojlnaa.Eng
open Go Go.RowKit
set_option autoImplicit false
set_option linter.unusedSimpArgs false
set_option linter.unusedVariables false
def gapR : Int → List Ar → List Gp
  | at_, [] => if at_ < 2097152 then [⟨at_, 2097152⟩] else []
  | at_, a :: r => (if at_ < a.s then [⟨at_, a.s⟩] else []) ++ gapR a.e r
theorem gapsE_from (zs : List Ar) : ∀ (m k : Nat), k + m = zs.length → gapsE zs = gapsTo zs k ++ gapR (atW zs 65536 k) (zs.drop k)
  | 0, k, h => by
    have hk : k = zs.length := by omega
    subst hk
    rw [List.drop_length]
    rfl
  | m + 1, k, h => by
    rw [gapsE_from zs m (k + 1) (by omega), drop_cons (show k < zs.length by omega)]
    show (gapsTo zs k ++ _) ++ gapR (nthA zs k).e _ = gapsTo zs k ++ (_ ++ gapR (nthA zs k).e _)
    rw [List.append_assoc]
theorem gapsE_eq (zs : List Ar) : gapsE zs = gapR 65536 zs := gapsE_from zs zs.length 0 (by omega)
structure GapOk (l : List Ar) (at_ : Int) (g : Gp) : Prop where
  z : g.s % 4096 = 0
  z2 : g.e % 4096 = 0
  lo : at_ ≤ g.s
  lt : g.s < g.e
  hi : g.e ≤ 2097152
  free : ∀ x t, g.s ≤ x → x < g.e → ¬ Has l x t
  stop : g.e = 2097152 ∨ ∃ t, Has l g.e t
  start : g.s = at_ ∨ ∃ t, Has l (g.s - 4096) t
theorem gapR_spec : ∀ {l : List Ar} {at_ : Int}, Ok l → at_ % 4096 = 0 → 65536 ≤ at_ → at_ ≤ 2097152 → (∀ a ∈ l, at_ ≤ a.s) →
    (∀ g ∈ gapR at_ l, GapOk l at_ g) ∧ (gapR at_ l).Pairwise (fun g g' => g.e < g'.s) ∧ ∀ x, x % 4096 = 0 → at_ ≤ x → x < 2097152 → (∀ t, ¬ Has l x t) → ∃ g ∈ gapR at_ l, g.s ≤ x ∧ x < g.e
  | [], at_, _, h0, h1, h2, _ => by
    unfold gapR
    by_cases h : at_ < 2097152
    · rw [if_pos h]
      refine ⟨fun g hg => ?_, List.pairwise_singleton _ _, fun x hx b1 b2 _ => ⟨_, List.mem_singleton.2 rfl, b1, b2⟩⟩
      rw [List.mem_singleton.1 hg]
      exact ⟨h0, (by show (2097152 : Int) % 4096 = 0; decide), Int.le_refl _, h, Int.le_refl _, fun x t _ _ hx => Has.nil hx, .inl rfl, .inl rfl⟩
    · rw [if_neg h]
      exact ⟨fun g hg => (by cases hg), List.Pairwise.nil, fun x _ b1 b2 _ => by omega⟩
  | a :: r, at_, hl, h0, h1, h2, h3 => by
    have ha : Fo a := fo.1 (hl.1 a (List.mem_cons_self ..))
    have hr : Ok r := ⟨fun b hb => hl.1 b (List.mem_cons_of_mem _ hb), (List.pairwise_cons.1 hl.2).2⟩
    have hre : ∀ b ∈ r, a.e ≤ b.s := (List.pairwise_cons.1 hl.2).1
    have b1 := h3 a (List.mem_cons_self ..)
    have b2 := ha.lt
    obtain ⟨i1, i2, i3⟩ := gapR_spec (l := r) (at_ := a.e) hr ha.e0 (by have := ha.lo; omega) ha.hi hre
    have one : ∀ x t, Has (a :: r) x t → a.s ≤ x := fun x t hx => by
      rcases (has_cons a r x t).1 hx with ⟨⟨h, _⟩, _⟩ | ⟨b, hb, ⟨h, _⟩, _⟩
      · exact h
      · have := hre b hb; omega
    have up : ∀ g ∈ gapR a.e r, GapOk (a :: r) at_ g := fun g hg => by
      obtain ⟨z, z2, lo, lt, hi, free, stop, start⟩ := i1 g hg
      refine ⟨z, z2, by omega, lt, hi, fun x t c1 c2 hx => ?_, ?_, .inr ?_⟩
      · rcases (has_cons a r x t).1 hx with ⟨⟨_, h⟩, _⟩ | h
        · omega
        · exact free x t c1 c2 h
      · rcases stop with h | ⟨t, h⟩
        · exact .inl h
        · exact .inr ⟨t, (has_cons a r _ t).2 (.inr h)⟩
      · rcases start with h | ⟨t, h⟩
        · refine ⟨ext a (g.s - 4096), (has_cons a r _ _).2 (.inl ⟨⟨?_, by omega⟩, rfl⟩)⟩
          have := ha.s0
          have := ha.e0
          omega
        · exact ⟨t, (has_cons a r _ t).2 (.inr h)⟩
    unfold gapR
    refine ⟨fun g hg => ?_, ?_, fun x hx c1 c2 hn => ?_⟩
    · rcases List.mem_append.1 hg with h | h
      · split at h
        · rename_i hlt
          rw [List.mem_singleton.1 h]
          exact ⟨h0, ha.s0, Int.le_refl _, hlt, by have := ha.hi; show a.s ≤ _; omega, fun x t _ c2 hx => by have := one x t hx; simp only at c2; omega, .inr ⟨ext a a.s, (has_cons a r _ _).2 (.inl ⟨⟨Int.le_refl _, b2⟩, rfl⟩)⟩, .inl rfl⟩
        · cases h
      · exact up g h
    · split
      · refine List.pairwise_cons.2 ⟨fun g hg => ?_, i2⟩
        have := (i1 g hg).lo
        show a.s < g.s
        omega
      · exact i2
    · by_cases hxs : x < a.s
      · exact ⟨⟨at_, a.s⟩, List.mem_append.2 (.inl (by rw [if_pos (by omega)]; exact List.mem_singleton.2 rfl)), c1, hxs⟩
      · have hxe : a.e ≤ x := by
          by_cases h : a.e ≤ x
          · exact h
          · exact absurd ((has_cons a r x _).2 (.inl ⟨⟨by omega, by omega⟩, rfl⟩)) (hn (ext a x))
        obtain ⟨g, hg, h⟩ := i3 x hx hxe c2 fun t ht => hn t ((has_cons a r x t).2 (.inr ht))
        exact ⟨g, List.mem_append.2 (.inr hg), h⟩
theorem gaps_spec {l : List Ar} (hl : Ok l) : (∀ g ∈ gapsE l, GapOk l 65536 g) ∧ (gapsE l).Pairwise (fun g g' => g.e < g'.s) ∧ ∀ x, x % 4096 = 0 → 65536 ≤ x → x < 2097152 → (∀ t, ¬ Has l x t) → ∃ g ∈ gapsE l, g.s ≤ x ∧ x < g.e := by
  rw [gapsE_eq]
  exact gapR_spec hl (by decide) (by decide) (by decide) fun a ha => (fo.1 (hl.1 a ha)).lo
/-! ### Free ranges -/
def FreeR (l : List Ar) (a b : Int) : Prop := ∀ x, x % 4096 = 0 → a ≤ x → x < b → ∀ t, ¬ Has l x t
theorem free_gap {l : List Ar} (hl : Ok l) {a b : Int} (h0 : a % 4096 = 0) (h1 : 65536 ≤ a) (h2 : a < b) (h3 : b ≤ 2097152) (h : FreeR l a b) : ∃ g ∈ gapsE l, g.s ≤ a ∧ b ≤ g.e := by
  obtain ⟨g1, _, g3⟩ := gaps_spec hl
  obtain ⟨g, hg, c1, c2⟩ := g3 a h0 h1 (by omega) (h a h0 (Int.le_refl _) h2)
  refine ⟨g, hg, c1, ?_⟩
  have ho := g1 g hg
  by_cases hb : b ≤ g.e
  · exact hb
  · exfalso
    rcases ho.stop with he | ⟨t, ht⟩
    · omega
    · exact h g.e ho.z2 (by omega) (by omega) t ht
theorem gap_free {l : List Ar} (hl : Ok l) {g : Gp} (hg : g ∈ gapsE l) {a b : Int} (h1 : g.s ≤ a) (h2 : b ≤ g.e) : FreeR l a b := fun x hx c1 c2 t => ((gaps_spec hl).1 g hg).free x t (by omega) (by omega)
theorem free_iff {l : List Ar} (hl : Ok l) {a b : Int} (h0 : a % 4096 = 0) (h1 : 65536 ≤ a) (h2 : a < b) (h3 : b ≤ 2097152) : FreeR l a b ↔ ∃ g ∈ gapsE l, g.s ≤ a ∧ b ≤ g.e :=
  ⟨free_gap hl h0 h1 h2 h3, fun ⟨g, hg, c1, c2⟩ => gap_free hl hg c1 c2⟩
theorem sizeG_iff {n : Int} (h : In64 n) : sizeG n = true ↔ 4096 ≤ n ∧ n ≤ 2031616 ∧ n % 4096 = 0 := by
  unfold sizeG
  rw [Bool.and_eq_true, Bool.and_eq_true, decide_eq_true_eq, decide_eq_true_eq, whole_iff]
  omega
theorem fits_iff {l : List Ar} (hl : Rt l) {a n : Int} (ha : In64 a) (hn : In64 n) : fitsL l a n = true ↔ sizeG n = true ∧ a % 4096 = 0 ∧ 65536 ≤ a ∧ a + n ≤ 2097152 ∧ FreeR l a (a + n) := by
  unfold fitsL
  by_cases hs : sizeG n = true
  · have hs2 := (sizeG_iff hn).1 hs
    have e1 : w64 (2097152 - n) = 2097152 - n := w64_id (by unfold In64; omega)
    by_cases hc : a % 4096 = 0 ∧ 65536 ≤ a ∧ a + n ≤ 2097152
    · have e2 : w64 (a + n) = a + n := w64_id (by unfold In64; omega)
      rw [if_neg (by rw [hs, (tmod0 a).2 hc.1, e1]; simp; omega), gaps_yes (of_rt hl), List.any_eq_true, e2]
      rw [free_iff hl.ok hc.1 hc.2.1 (by omega) hc.2.2]
      constructor
      · rintro ⟨g, hg, h⟩
        rw [Bool.and_eq_true, decide_eq_true_eq, decide_eq_true_eq] at h
        exact ⟨hs, hc.1, hc.2.1, hc.2.2, g, hg, h.1, h.2⟩
      · rintro ⟨_, _, _, _, g, hg, h1, h2⟩
        refine ⟨g, hg, ?_⟩
        rw [Bool.and_eq_true, decide_eq_true_eq, decide_eq_true_eq]
        exact ⟨h1, h2⟩
    · rw [if_pos]
      · exact ⟨fun h => (by cases h), fun h => absurd ⟨h.2.1, h.2.2.1, h.2.2.2.1⟩ hc⟩
      · rw [e1]
        by_cases h0 : a % 4096 = 0
        · simp only [Bool.or_eq_true, decide_eq_true_eq]
          by_cases h1 : 65536 ≤ a
          · exact .inr (by omega)
          · exact .inl (.inr (by omega))
        · have : (Int.tmod a 4096 != 0) = true := by
            cases hb : (Int.tmod a 4096 != 0)
            · exact absurd ((tmod0 a).1 hb) h0
            · rfl
          rw [this]
          simp
  · have : sizeG n = false := by simpa using hs
    rw [if_pos (by rw [this]; simp)]
    exact ⟨fun h => (by cases h), fun h => absurd h.1 hs⟩
/-! ### Room within bounds -/
structure GoodA (l : List Ar) (lo hi n a : Int) : Prop where
  z : a % 4096 = 0
  l1 : 65536 ≤ a
  h1 : a + n ≤ 2097152
  lo : lo ≤ a
  hi : a + n ≤ hi
  free : FreeR l a (a + n)
theorem clamp_in (x : Int) : 65536 ≤ clampG x ∧ clampG x ≤ 2097152 := by
  unfold clampG minI maxI
  split <;> split <;> omega
theorem up_eq {x : Int} (h : 65536 ≤ x ∧ x ≤ 2097152) : upG x = (x + 4095) / 4096 * 4096 := by
  unfold upG
  have e1 : w64 (x + 4096) = x + 4096 := w64_id (by unfold In64; omega)
  have e2 : w64 (x + 4096 - 1) = x + 4095 := (w64_id (by unfold In64; omega)).trans (by omega)
  rw [e1, e2, tdiv_pos (by omega)]
  have e3 : w64 ((x + 4095) / 4096) = (x + 4095) / 4096 := w64_id (by unfold In64; omega)
  rw [e3]
  exact w64_id (by unfold In64; omega)
theorem down_eq {x : Int} (h : 65536 ≤ x ∧ x ≤ 2097152) : downG x = x / 4096 * 4096 := by
  unfold downG
  rw [tdiv_pos (by omega)]
  have e3 : w64 (x / 4096) = x / 4096 := w64_id (by unfold In64; omega)
  rw [e3]
  exact w64_id (by unfold In64; omega)
theorem in_eq (g : Gp) (lo hi : Int) : (inG g lo hi).s = maxI g.s ((clampG lo + 4095) / 4096 * 4096) ∧ (inG g lo hi).e = minI g.e (clampG hi / 4096 * 4096) := by
  unfold inG
  rw [up_eq (clamp_in lo), down_eq (clamp_in hi)]
  exact ⟨rfl, rfl⟩
theorem in_rng {l : List Ar} {g : Gp} (hg : GapOk l 65536 g) (lo hi : Int) : 65536 ≤ (inG g lo hi).s ∧ (inG g lo hi).s ≤ 2097152 ∧ 65536 ≤ (inG g lo hi).e ∧ (inG g lo hi).e ≤ 2097152 ∧ (inG g lo hi).s % 4096 = 0 ∧ (inG g lo hi).e % 4096 = 0 ∧ g.s ≤ (inG g lo hi).s ∧ (inG g lo hi).e ≤ g.e := by
  obtain ⟨e1, e2⟩ := in_eq g lo hi
  have c1 := clamp_in lo
  have c2 := clamp_in hi
  have := hg.z
  have := hg.z2
  have := hg.lo
  have := hg.lt
  have := hg.hi
  rw [e1, e2]
  unfold maxI minI
  split <;> split <;> omega
theorem room_iff {l : List Ar} {g : Gp} (hg : GapOk l 65536 g) (lo hi : Int) {n : Int} : roomG lo hi n g = true ↔ (inG g lo hi).s + n ≤ (inG g lo hi).e := by
  have := in_rng hg lo hi
  unfold roomG
  rw [w64_id (show In64 ((inG g lo hi).e - (inG g lo hi).s) by unfold In64; omega), decide_eq_true_eq]
  omega
theorem good_in {l : List Ar} (hl : Ok l) {lo hi n a : Int} (hn : 4096 ≤ n ∧ n % 4096 = 0) : GoodA l lo hi n a ↔ a % 4096 = 0 ∧ ∃ g ∈ gapsE l, (inG g lo hi).s ≤ a ∧ a + n ≤ (inG g lo hi).e := by
  have cl : ∀ x, clampG x = (if x < 65536 then 65536 else if 2097152 < x then 2097152 else x) := fun x => by
    unfold clampG minI maxI
    (repeat' split) <;> omega
  constructor
  · rintro ⟨z, l1, h1, hlo, hhi, hf⟩
    obtain ⟨g, hg, c1, c2⟩ := free_gap hl z l1 (by omega) h1 hf
    refine ⟨z, g, hg, ?_⟩
    obtain ⟨e1, e2⟩ := in_eq g lo hi
    rw [e1, e2, cl, cl]
    unfold maxI minI
    constructor
    · (repeat' split) <;> omega
    · (repeat' split) <;> omega
  · rintro ⟨z, g, hg, c1, c2⟩
    have hk := (gaps_spec hl).1 g hg
    have hr := in_rng hk lo hi
    obtain ⟨e1, e2⟩ := in_eq g lo hi
    refine ⟨z, by omega, by omega, ?_, ?_, gap_free hl hg (by omega) (by omega)⟩
    · rw [e1, cl] at c1
      unfold maxI at c1
      (repeat' split at c1) <;> omega
    · rw [e2, cl] at c2
      unfold minI at c2
      (repeat' split at c2) <;> omega
theorem low_spec {l : List Ar} (hl : Rt l) {lo hi n : Int} (hn : sizeG n = true) (hi64 : In64 n) : ((lowN l lo hi n).2 = true → GoodA l lo hi n (lowN l lo hi n).1 ∧ ∀ a, GoodA l lo hi n a → (lowN l lo hi n).1 ≤ a) ∧ ((lowN l lo hi n).2 = false → (lowN l lo hi n).1 = 0 ∧ ∀ a, ¬ GoodA l lo hi n a) := by
  obtain ⟨g1, g2, _⟩ := gaps_spec hl.ok
  have hs := (sizeG_iff hi64).1 hn
  cases hf : (gapsE l).find? (roomG lo hi n) with
  | some g =>
    rw [low_here hn (of_rt hl) hf]
    refine ⟨fun _ => ?_, fun h => by cases h⟩
    obtain ⟨hp, l1, l2, hl12, hno⟩ := List.find?_eq_some_iff_append.1 hf
    have hg : g ∈ gapsE l := by rw [hl12]; simp
    have hrm := (room_iff (g1 g hg) lo hi).1 hp
    have hr := in_rng (g1 g hg) lo hi
    refine ⟨(good_in hl.ok ⟨by omega, by omega⟩).2 ⟨hr.2.2.2.2.1, g, hg, Int.le_refl _, hrm⟩, fun a ha => ?_⟩
    obtain ⟨_, g', hg', c1, c2⟩ := (good_in hl.ok ⟨by omega, by omega⟩).1 ha
    rw [hl12] at hg' g2
    rcases List.mem_append.1 hg' with h | h
    · have := hno g' h
      have h2 := (room_iff (g1 g' (by rw [hl12]; exact List.mem_append.2 (.inl h))) lo hi (n := n)).2 (by omega)
      rw [h2] at this
      cases this
    · rcases List.mem_cons.1 h with rfl | h
      · exact c1
      · have h3 := (List.pairwise_append.1 g2).2.1
        have h4 := (List.pairwise_cons.1 h3).1 g' h
        have h5 := in_rng (g1 g' (by rw [hl12]; simp [h])) lo hi
        show (inG g lo hi).s ≤ a
        omega
  | none =>
    have hno : ∀ g ∈ gapsE l, roomG lo hi n g = false := fun g hg => by
      have := List.find?_eq_none.1 hf g hg
      simpa using this
    rw [low_none hn (of_rt hl) hno]
    refine ⟨fun h => (by cases h), fun _ => ⟨rfl, fun a ha => ?_⟩⟩
    obtain ⟨_, g', hg', c1, c2⟩ := (good_in hl.ok ⟨by omega, by omega⟩).1 ha
    have h2 := (room_iff (g1 g' hg') lo hi (n := n)).2 (by omega)
    rw [hno g' hg'] at h2
    cases h2
theorem high_fold (lo hi n : Int) : ∀ (m : Nat) (l : List Gp), l.length = m → (highF lo hi n l = (0, false) ∧ ∀ g ∈ l, roomG lo hi n g = false) ∨ ∃ l1 g l2, l = l1 ++ g :: l2 ∧ roomG lo hi n g = true ∧ (∀ g' ∈ l2, roomG lo hi n g' = false) ∧ highF lo hi n l = (w64 ((inG g lo hi).e - n), true)
  | 0, l, h => by
    obtain rfl := List.eq_nil_of_length_eq_zero h
    exact .inl ⟨rfl, fun g hg => by cases hg⟩
  | m + 1, l, h => by
    obtain ⟨pre, x, rfl⟩ : ∃ pre x, l = pre ++ [x] := by
      have hne : l ≠ [] := by intro e; subst e; cases h
      exact ⟨l.dropLast, l.getLast hne, (List.dropLast_concat_getLast hne).symm⟩
    have hm : pre.length = m := by simpa using h
    cases hx : roomG lo hi n x with
    | true => exact .inr ⟨pre, x, [], rfl, hx, fun g hg => (by cases hg), (high_y hx).symm⟩
    | false =>
      rw [← high_n hx]
      rcases high_fold lo hi n m pre hm with ⟨h1, h2⟩ | ⟨l1, g, l2, h1, h2, h3, h4⟩
      · exact .inl ⟨h1, room_snoc h2 hx⟩
      · refine .inr ⟨l1, g, l2 ++ [x], by rw [h1]; simp, h2, fun g' hg' => ?_, h4⟩
        rcases List.mem_append.1 hg' with h5 | h5
        · exact h3 g' h5
        · rw [List.mem_singleton.1 h5]; exact hx
theorem high_spec {l : List Ar} (hl : Rt l) {lo hi n : Int} (hn : sizeG n = true) (hi64 : In64 n) : ((highN l lo hi n).2 = true → GoodA l lo hi n (highN l lo hi n).1 ∧ ∀ a, GoodA l lo hi n a → a ≤ (highN l lo hi n).1) ∧ ((highN l lo hi n).2 = false → (highN l lo hi n).1 = 0 ∧ ∀ a, ¬ GoodA l lo hi n a) := by
  obtain ⟨g1, g2, _⟩ := gaps_spec hl.ok
  have hs := (sizeG_iff hi64).1 hn
  rw [high_yes hn (of_rt hl)]
  rcases high_fold lo hi n _ (gapsE l) rfl with ⟨h1, hno⟩ | ⟨l1, g, l2, hl12, hp, hno, h4⟩
  · rw [h1]
    refine ⟨fun h => (by cases h), fun _ => ⟨rfl, fun a ha => ?_⟩⟩
    obtain ⟨_, g', hg', c1, c2⟩ := (good_in hl.ok ⟨by omega, by omega⟩).1 ha
    have h2 := (room_iff (g1 g' hg') lo hi (n := n)).2 (by omega)
    rw [hno g' hg'] at h2
    cases h2
  · rw [h4]
    refine ⟨fun _ => ?_, fun h => by cases h⟩
    have hg : g ∈ gapsE l := by rw [hl12]; simp
    have hrm := (room_iff (g1 g hg) lo hi).1 hp
    have hr := in_rng (g1 g hg) lo hi
    have e : w64 ((inG g lo hi).e - n) = (inG g lo hi).e - n := w64_id (by unfold In64; omega)
    rw [e]
    refine ⟨(good_in hl.ok ⟨by omega, by omega⟩).2 ⟨by show ((inG g lo hi).e - n) % 4096 = 0; omega, g, hg, by show _ ≤ (inG g lo hi).e - n; omega, by show (inG g lo hi).e - n + n ≤ _; omega⟩, fun a ha => ?_⟩
    obtain ⟨_, g', hg', c1, c2⟩ := (good_in hl.ok ⟨by omega, by omega⟩).1 ha
    show a ≤ (inG g lo hi).e - n
    rw [hl12] at hg' g2
    rcases List.mem_append.1 hg' with h | h
    · have h3 := (List.pairwise_append.1 g2).2.2 g' h g (List.mem_cons_self ..)
      have h5 := in_rng (g1 g' (by rw [hl12]; exact List.mem_append.2 (.inl h))) lo hi
      omega
    · rcases List.mem_cons.1 h with rfl | h
      · omega
      · have := hno g' h
        have h2 := (room_iff (g1 g' (by rw [hl12]; simp [h])) lo hi (n := n)).2 (by omega)
        rw [h2] at this
        cases this
end Go.Proofs.Ytbcicjmepojlnaa.Eng
/- Contracts of functions (printed by genx.py of this work): what each hands back; condition: as its 'hside' says. -/
namespace Go.Proofs.Ytbcicjmepojlnaa.Eng
open Go Go.RowKit
set_option linter.unusedVariables false
set_option linter.unusedSimpArgs false
theorem b_gsize : Bodied Try.prog 100 := bodied Try.func100 rfl (by decide)
def F_gsize : FunX := fun κ avs => match avs with
  | [.val (.c (.v (.int .i64 n)))] => some (κ _ (True), (.val (.c (.v (.bool (κ _ (sizeG n)))))))
  | _ => none
set_option maxRecDepth 100000 in
set_option maxHeartbeats 4000000 in
theorem k_gsize (n : Int) (hside : True) (w : World) :
    Calls Try.prog 100 #[(SV.c (.v (.int .i64 n))).den] w fun e w' => ∃ v H', e = .returned v.den ∧ IsX (.val (.c (.v (.bool (sizeG n))))) v H' ∧ HSat w (fun _ => False) H' w' := by
  obtain ⟨κ, hκ⟩ : ∃ κ : Kp, κ = kid := ⟨_, rfl⟩
  have hH : HSat w (fun _ => False) (heapOf [(nilId, .rd none 1 0 [])]) w := by
    subst hκ
    refine HSat.reads fun p hp => ?_
    simp only [List.mem_cons, List.not_mem_nil, or_false] at hp
    rcases hp with rfl
    · exact ⟨_, _, _, _, rfl, nil_holds w⟩
  refine (callsP (n := 14) FTok [] mixed [] Try.func100 rfl (by kernel_rfl) #[(SV.c (.v (.int .i64 n))).den] [(0, .c (.v (.int .i64 n)))] _ w rfl [.tmp 2] rfl (by simp) (by subst hκ; simp [SV.den, C.den, kid]) hH (fun v H' => IsX (.val (.c (.v (.bool (κ _ (sizeG n)))))) v H') hκ ?_).mono ?_
  rotate_left
  · subst hκ; intro e w' h; exact h
  intro P' hP'
  cbv
  repeat' (first | refine And.intro ?_ ?_ | (intro _; cbv) | (refine tst_mk (fun h => ?_) (fun h => ?_) <;> cbv) | (refine LookX.nil ?_; cbv) | (refine LookX.auto hκ ?_; cbv))
  all_goals (clear hH; subst hκ; delta kid at *; (try dsimp only at *))
  all_goals (try (exact ⟨trivial⟩))
  all_goals (try (exact ⟨by decide⟩))
  all_goals (show IsX _ _ _; refine IsX.val_ ?_; simp only [SV.den, SV.den0, C.den, List.map_cons, List.map_nil, sizeG, whole, GT.gt, GE.ge]; (try simp only [*, Bool.or_true, Bool.true_or, Bool.or_false, Bool.false_or, Bool.and_true, Bool.true_and, Bool.and_false, Bool.false_and, Bool.not_true, Bool.not_false, if_true, if_false, Bool.false_eq_true]); (first | done | rfl | (exfalso; simp_all; done) | skip))
def e_gsize {κ : Kp} (hκ : κ = kid) : ESpec Try.prog := fnES [.flat] b_gsize F_gsize hκ fun avs p r hF hp => by
  unfold F_gsize at hF
  split at hF
  case h_2 => cases hF
  rename_i n
  simp only [kid, Option.some.injEq, Prod.mk.injEq] at hF
  obtain ⟨rfl, rfl⟩ := hF
  refine ⟨trivial, fun vs w hR => ?_⟩
  obtain ⟨vs0, rfl, hR⟩ := hR
  have hR' : vs0 = [] := hR
  subst hR'
  exact k_gsize n hp w
theorem b_gup : Bodied Try.prog 144 := bodied Try.func144 rfl (by decide)
def F_gup : FunX := fun κ avs => match avs with
  | [.val (.c (.v (.int .i64 n)))] => some (κ _ (True), (.val (.c (.v (.int .i64 (κ _ (upG n)))))))
  | _ => none
set_option maxRecDepth 100000 in
set_option maxHeartbeats 4000000 in
theorem k_gup (n : Int) (hside : True) (w : World) :
    Calls Try.prog 144 #[(SV.c (.v (.int .i64 n))).den] w fun e w' => ∃ v H', e = .returned v.den ∧ IsX (.val (.c (.v (.int .i64 (upG n))))) v H' ∧ HSat w (fun _ => False) H' w' := by
  obtain ⟨κ, hκ⟩ : ∃ κ : Kp, κ = kid := ⟨_, rfl⟩
  have hH : HSat w (fun _ => False) (heapOf [(nilId, .rd none 1 0 [])]) w := by
    subst hκ
    refine HSat.reads fun p hp => ?_
    simp only [List.mem_cons, List.not_mem_nil, or_false] at hp
    rcases hp with rfl
    · exact ⟨_, _, _, _, rfl, nil_holds w⟩
  refine (callsP (n := 8) FTok [] mixed [] Try.func144 rfl (by kernel_rfl) #[(SV.c (.v (.int .i64 n))).den] [(0, .c (.v (.int .i64 n)))] _ w rfl [.tmp 2] rfl (by simp) (by subst hκ; simp [SV.den, C.den, kid]) hH (fun v H' => IsX (.val (.c (.v (.int .i64 (κ _ (upG n)))))) v H') hκ ?_).mono ?_
  rotate_left
  · subst hκ; intro e w' h; exact h
  intro P' hP'
  cbv
  repeat' (first | refine And.intro ?_ ?_ | (intro _; cbv) | (refine tst_mk (fun h => ?_) (fun h => ?_) <;> cbv) | (refine LookX.nil ?_; cbv) | (refine LookX.auto hκ ?_; cbv))
  all_goals (clear hH; subst hκ; delta kid at *; (try dsimp only at *))
  all_goals (try (exact ⟨trivial⟩))
  all_goals (try (exact ⟨by decide⟩))
  all_goals (show IsX _ _ _; refine IsX.val_ ?_; simp only [SV.den, SV.den0, C.den, List.map_cons, List.map_nil, upG, GT.gt, GE.ge]; (try simp only [*, Bool.or_true, Bool.true_or, Bool.or_false, Bool.false_or, Bool.and_true, Bool.true_and, Bool.and_false, Bool.false_and, Bool.not_true, Bool.not_false, if_true, if_false, Bool.false_eq_true]); (first | done | rfl | (exfalso; simp_all; done) | skip))
def e_gup {κ : Kp} (hκ : κ = kid) : ESpec Try.prog := fnES [.flat] b_gup F_gup hκ fun avs p r hF hp => by
  unfold F_gup at hF
  split at hF
  case h_2 => cases hF
  rename_i n
  simp only [kid, Option.some.injEq, Prod.mk.injEq] at hF
  obtain ⟨rfl, rfl⟩ := hF
  refine ⟨trivial, fun vs w hR => ?_⟩
  obtain ⟨vs0, rfl, hR⟩ := hR
  have hR' : vs0 = [] := hR
  subst hR'
  exact k_gup n hp w
theorem b_gdown : Bodied Try.prog 145 := bodied Try.func145 rfl (by decide)
def F_gdown : FunX := fun κ avs => match avs with
  | [.val (.c (.v (.int .i64 n)))] => some (κ _ (True), (.val (.c (.v (.int .i64 (κ _ (downG n)))))))
  | _ => none
set_option maxRecDepth 100000 in
set_option maxHeartbeats 4000000 in
theorem k_gdown (n : Int) (hside : True) (w : World) :
    Calls Try.prog 145 #[(SV.c (.v (.int .i64 n))).den] w fun e w' => ∃ v H', e = .returned v.den ∧ IsX (.val (.c (.v (.int .i64 (downG n))))) v H' ∧ HSat w (fun _ => False) H' w' := by
  obtain ⟨κ, hκ⟩ : ∃ κ : Kp, κ = kid := ⟨_, rfl⟩
  have hH : HSat w (fun _ => False) (heapOf [(nilId, .rd none 1 0 [])]) w := by
    subst hκ
    refine HSat.reads fun p hp => ?_
    simp only [List.mem_cons, List.not_mem_nil, or_false] at hp
    rcases hp with rfl
    · exact ⟨_, _, _, _, rfl, nil_holds w⟩
  refine (callsP (n := 6) FTok [] mixed [] Try.func145 rfl (by kernel_rfl) #[(SV.c (.v (.int .i64 n))).den] [(0, .c (.v (.int .i64 n)))] _ w rfl [.tmp 2] rfl (by simp) (by subst hκ; simp [SV.den, C.den, kid]) hH (fun v H' => IsX (.val (.c (.v (.int .i64 (κ _ (downG n)))))) v H') hκ ?_).mono ?_
  rotate_left
  · subst hκ; intro e w' h; exact h
  intro P' hP'
  cbv
  repeat' (first | refine And.intro ?_ ?_ | (intro _; cbv) | (refine tst_mk (fun h => ?_) (fun h => ?_) <;> cbv) | (refine LookX.nil ?_; cbv) | (refine LookX.auto hκ ?_; cbv))
  all_goals (clear hH; subst hκ; delta kid at *; (try dsimp only at *))
  all_goals (try (exact ⟨trivial⟩))
  all_goals (try (exact ⟨by decide⟩))
  all_goals (show IsX _ _ _; refine IsX.val_ ?_; simp only [SV.den, SV.den0, C.den, List.map_cons, List.map_nil, downG, GT.gt, GE.ge]; (try simp only [*, Bool.or_true, Bool.true_or, Bool.or_false, Bool.false_or, Bool.and_true, Bool.true_and, Bool.and_false, Bool.false_and, Bool.not_true, Bool.not_false, if_true, if_false, Bool.false_eq_true]); (first | done | rfl | (exfalso; simp_all; done) | skip))
def e_gdown {κ : Kp} (hκ : κ = kid) : ESpec Try.prog := fnES [.flat] b_gdown F_gdown hκ fun avs p r hF hp => by
  unfold F_gdown at hF
  split at hF
  case h_2 => cases hF
  rename_i n
  simp only [kid, Option.some.injEq, Prod.mk.injEq] at hF
  obtain ⟨rfl, rfl⟩ := hF
  refine ⟨trivial, fun vs w hR => ?_⟩
  obtain ⟨vs0, rfl, hR⟩ := hR
  have hR' : vs0 = [] := hR
  subst hR'
  exact k_gdown n hp w
theorem b_gin : Bodied Try.prog 102 := bodied Try.func102 rfl (by decide)
def F_gin : FunX := fun κ avs => match avs with
  | [.val (.agg [.v (.int .i64 g1), .v (.int .i64 g2)]), .val (.c (.v (.int .i64 lo))), .val (.c (.v (.int .i64 hi)))] => some (κ _ (True), (.val (.agg [.v (.int .i64 (κ _ ((inG (⟨g1, g2⟩ : Gp) lo hi).s))), .v (.int .i64 (κ _ ((inG (⟨g1, g2⟩ : Gp) lo hi).e)))])))
  | _ => none
set_option maxRecDepth 100000 in
set_option maxHeartbeats 4000000 in
theorem k_gin (g1 : Int) (g2 : Int) (lo : Int) (hi : Int) (hside : True) (w : World) :
    Calls Try.prog 102 #[(SV.agg [.v (.int .i64 g1), .v (.int .i64 g2)]).den, (SV.c (.v (.int .i64 lo))).den, (SV.c (.v (.int .i64 hi))).den] w fun e w' => ∃ v H', e = .returned v.den ∧ IsX (.val (.agg [.v (.int .i64 ((inG (⟨g1, g2⟩ : Gp) lo hi).s)), .v (.int .i64 ((inG (⟨g1, g2⟩ : Gp) lo hi).e))])) v H' ∧ HSat w (fun _ => False) H' w' := by
  obtain ⟨κ, hκ⟩ : ∃ κ : Kp, κ = kid := ⟨_, rfl⟩
  have hH : HSat w (fun _ => False) (heapOf [(nilId, .rd none 1 0 [])]) w := by
    subst hκ
    refine HSat.reads fun p hp => ?_
    simp only [List.mem_cons, List.not_mem_nil, or_false] at hp
    rcases hp with rfl
    · exact ⟨_, _, _, _, rfl, nil_holds w⟩
  refine (callsP (n := 24) FTok [e_gup hκ, e_gdown hκ] mixed [(2, [[], [], [0, 1], [0, 1], [], [0, 1, 2, 3, 4], [0, 1, 2, 3, 4], [0, 1, 2, 3, 4, 5, 6], [0, 1, 4, 5, 6], [0, 1, 4], [], []])] Try.func102 rfl (by kernel_rfl) #[(SV.agg [.v (.int .i64 g1), .v (.int .i64 g2)]).den, (SV.c (.v (.int .i64 lo))).den, (SV.c (.v (.int .i64 hi))).den] [(0, .agg [.v (.int .i64 g1), .v (.int .i64 g2)]), (1, .c (.v (.int .i64 lo))), (2, .c (.v (.int .i64 hi)))] _ w rfl [.cell 6 42] rfl (by simp) (by subst hκ; simp [SV.den, C.den, kid]) hH (fun v H' => IsX (.val (.agg [.v (.int .i64 (κ _ ((inG (⟨g1, g2⟩ : Gp) lo hi).s))), .v (.int .i64 (κ _ ((inG (⟨g1, g2⟩ : Gp) lo hi).e)))])) v H') hκ ?_).mono ?_
  rotate_left
  · subst hκ; intro e w' h; exact h
  intro P' hP'
  cbv
  repeat' (first | refine And.intro ?_ ?_ | (intro _; cbv) | (refine tst_mk (fun h => ?_) (fun h => ?_) <;> cbv) | (refine LookX.nil ?_; cbv) | (refine LookX.auto hκ ?_; cbv))
  all_goals (clear hH; subst hκ; delta kid at *; (try dsimp only at *))
  all_goals (try (exact ⟨trivial⟩))
  all_goals (try (exact ⟨by decide⟩))
  all_goals (show IsX _ _ _; refine IsX.val_ ?_; simp only [SV.den, SV.den0, C.den, List.map_cons, List.map_nil, inG, clampG, maxI, minI, GT.gt, GE.ge]; (try simp only [*, Bool.or_true, Bool.true_or, Bool.or_false, Bool.false_or, Bool.and_true, Bool.true_and, Bool.and_false, Bool.false_and, Bool.not_true, Bool.not_false, if_true, if_false, Bool.false_eq_true]); (first | done | rfl | (exfalso; simp_all; done) | skip))
def e_gin {κ : Kp} (hκ : κ = kid) : ESpec Try.prog := fnES [.flat, .flat, .flat] b_gin F_gin hκ fun avs p r hF hp => by
  unfold F_gin at hF
  split at hF
  case h_2 => cases hF
  rename_i g1 g2 lo hi
  simp only [kid, Option.some.injEq, Prod.mk.injEq] at hF
  obtain ⟨rfl, rfl⟩ := hF
  refine ⟨trivial, fun vs w hR => ?_⟩
  obtain ⟨vs0, rfl, hR⟩ := hR
  obtain ⟨vs1, rfl, hR⟩ := hR
  obtain ⟨vs2, rfl, hR⟩ := hR
  have hR' : vs2 = [] := hR
  subst hR'
  exact k_gin g1 g2 lo hi hp w
theorem b_gaps : Bodied Try.prog 49 := bodied Try.func49 rfl (by decide)
def F_gaps : FunX := fun κ avs => match avs with
  | [.lst l xl] => some (κ _ (l.length ≤ 300000), (.row 42 2 ((κ _ ((gapsL l).length))) ((κ _ (encG (gapsL l)))) (fun x => .c x)))
  | _ => none
set_option maxRecDepth 100000 in
set_option maxHeartbeats 4000000 in
theorem k_gaps (l : List Ar) (Al : Option Addr) (cl : Nat) (hside : l.length ≤ 300000) (w : World) (hl : (Ent.rd Al 6 l.length (encL l)).holds w) :
    Calls Try.prog 49 #[.slice Al l.length cl] w fun e w' => ∃ v H', e = .returned v.den ∧ IsX (.row 42 2 (((gapsL l).length)) ((encG (gapsL l))) (fun x => .c x)) v H' ∧ HSat w (fun _ => False) H' w' := by
  obtain ⟨κ, hκ⟩ : ∃ κ : Kp, κ = kid := ⟨_, rfl⟩
  have hH : HSat w (fun _ => False) (heapOf [(nilId, .rd none 1 0 []), (200000, .rd Al 6 (κ _ l.length) (κ _ (encL l)))]) w := by
    subst hκ
    refine HSat.reads fun p hp => ?_
    simp only [List.mem_cons, List.not_mem_nil, or_false] at hp
    rcases hp with rfl | rfl
    · exact ⟨_, _, _, _, rfl, nil_holds w⟩
    · exact ⟨_, _, _, _, rfl, hl⟩
  refine (callsM (n := 16) FTok [e_right hκ, e_each hκ] mixed [] Try.func49 rfl (by kernel_rfl) #[.slice Al l.length cl] [(0, .c (.sl 200000 Al (κ _ l.length) cl))] _ w rfl [.tmp 2] rfl (by simp) (by subst hκ; simp [SV.den, C.den, kid]) hH (fun v H' => IsX (.row 42 2 ((κ _ ((gapsL l).length))) ((κ _ (encG (gapsL l)))) (fun x => .c x)) v H') hκ ?_).mono ?_
  rotate_left
  · subst hκ; intro e w' h; exact h
  intro P' hP'
  cbv
  repeat' (first | refine And.intro ?_ ?_ | (intro _; cbv) | (refine tst_mk (fun h => ?_) (fun h => ?_) <;> cbv) | (refine LookX.nil ?_; cbv) | (refine LookX.auto hκ ?_; cbv))
  all_goals (try (show Side _; refine ⟨?_⟩; subst hκ; delta kid at *; first | exact rfl | exact trivial | exact ⟨rfl, rfl, .inl rfl⟩ | ((try dsimp only at *); (try simp only [setTo_len, noS_len, List.length_append, List.length_cons, List.length_nil, List.length_map, and_self, true_or, or_true, eq_self, true_and, and_true, Nat.zero_add, Nat.add_zero]); (first | done | omega); done)))
  rotate_left
  · (clear hH; subst hκ; delta kid at *; (try dsimp only at *))
    exact IsX.nilG (gaps_no (by with_reducible assumption)) rfl
  rename_i b3 b9
  have hr : rightL l = true := by subst hκ; exact h
  refine rangeM_each hP' FTok [e_right hκ, e_each hκ] mixed (id := 9) (lid := 200000) (A := Al) (zs := l) rfl (by subst hκ; rfl) (by omega) (by decide) (σ := Option Addr × Nat) (τ := Empty) (fun _ _ => True) (fun _ _ => True) (fun pre s => [(200000, .rd Al 6 (κ _ l.length) (κ _ (encL l))), (3, .blk b3 39 [.sl 14 s.1 (κ _ pre.length) s.2]), (14, .row s.1 s.2 42 2 (κ _ pre.length) (κ _ (encG pre)))]) (fun _ r => nomatch r) (none, 0) trivial [200000, 3, 999999] (by decide) ?_ (fun pre s => by subst hκ; rfl) [3] [] ?_ hκ ?_ ?_ (fun pre r => nomatch r)
  · cbv
    all_goals (subst hκ; delta kid; repeat' (first | exact rfl | exact trivial | refine And.intro ?_ ?_))
  · cbv
    all_goals (subst hκ; delta kid; repeat' (first | exact rfl | exact trivial | refine And.intro ?_ ?_))
  · rintro pre x ⟨A2, c2⟩ - hpre
    have hpl := pre_len hpre
    cbv
    repeat' (first | refine And.intro ?_ ?_ | (intro _; cbv) | (refine tst_mk (fun h => ?_) (fun h => ?_) <;> cbv) | (refine LookX.nil ?_; cbv) | (refine LookX.auto hκ ?_; cbv))
    all_goals (clear hH; subst hκ; delta kid at *; (try dsimp only at *))
    · exact ⟨by omega, by simp only [maxLen]; omega⟩
    · exact ⟨rfl, rfl, .inl rfl, rfl⟩
    · exact ⟨rfl, rfl, rfl, rfl, rfl⟩
    · rename_i A3 c3
      refine ⟨⟨(A3, c3), [200000, 3, 14], trivial, by decide, ?_⟩⟩
      repeat' (first | exact rfl | exact trivial | refine And.intro ?_ ?_ | exact snoc_len pre x | exact encG_snoc pre x | exact congrArg (fun n => [Value.slice A3 n c3]) (snoc_len pre x))
  · rintro ⟨A2, c2⟩ -
    cbv
    (clear hH; subst hκ; delta kid at *; (try dsimp only at *))
    exact IsX.rowG (gaps_yes hr).symm rfl rfl
def e_gaps {κ : Kp} (hκ : κ = kid) : ESpec Try.prog := fnES [.list] b_gaps F_gaps hκ fun avs p r hF hp => by
  unfold F_gaps at hF
  split at hF
  case h_2 => cases hF
  rename_i l xl
  simp only [kid, Option.some.injEq, Prod.mk.injEq] at hF
  obtain ⟨rfl, rfl⟩ := hF
  refine ⟨fun x y h => by simp [SV.den, SV.den0, h], fun vs w hR => ?_⟩
  obtain ⟨il, Al, cl, vs0, rfl, rfl, hl, hR⟩ := hR
  have hR' : vs0 = [] := hR
  subst hR'
  exact k_gaps l Al cl hp w hl
theorem b_lowest : Bodied Try.prog 54 := bodied Try.func54 rfl (by decide)
def F_lowest : FunX := fun κ avs => match avs with
  | [.lst l xl, .val (.c (.v (.int .i64 lo))), .val (.c (.v (.int .i64 hi))), .val (.c (.v (.int .i64 n)))] => some (κ _ (l.length ≤ 300000), (.val (.tup [.c (.v (.int .i64 (κ _ ((lowN l lo hi n).1)))), .c (.v (.bool (κ _ ((lowN l lo hi n).2))))])))
  | _ => none
set_option maxRecDepth 100000 in
set_option maxHeartbeats 4000000 in
theorem k_lowest (l : List Ar) (lo : Int) (hi : Int) (n : Int) (Al : Option Addr) (cl : Nat) (hside : l.length ≤ 300000) (w : World) (hl : (Ent.rd Al 6 l.length (encL l)).holds w) :
    Calls Try.prog 54 #[.slice Al l.length cl, (SV.c (.v (.int .i64 lo))).den, (SV.c (.v (.int .i64 hi))).den, (SV.c (.v (.int .i64 n))).den] w fun e w' => ∃ v H', e = .returned v.den ∧ IsX (.val (.tup [.c (.v (.int .i64 ((lowN l lo hi n).1))), .c (.v (.bool ((lowN l lo hi n).2)))])) v H' ∧ HSat w (fun _ => False) H' w' := by
  obtain ⟨κ, hκ⟩ : ∃ κ : Kp, κ = kid := ⟨_, rfl⟩
  have hH : HSat w (fun _ => False) (heapOf [(nilId, .rd none 1 0 []), (200000, .rd Al 6 (κ _ l.length) (κ _ (encL l)))]) w := by
    subst hκ
    refine HSat.reads fun p hp => ?_
    simp only [List.mem_cons, List.not_mem_nil, or_false] at hp
    rcases hp with rfl | rfl
    · exact ⟨_, _, _, _, rfl, nil_holds w⟩
    · exact ⟨_, _, _, _, rfl, hl⟩
  refine (callsM (n := 35) FTok [e_right hκ, e_each hκ, e_gsize hκ, e_gin hκ] mixed [] Try.func54 rfl (by kernel_rfl) #[.slice Al l.length cl, (SV.c (.v (.int .i64 lo))).den, (SV.c (.v (.int .i64 hi))).den, (SV.c (.v (.int .i64 n))).den] [(0, .c (.sl 200000 Al (κ _ l.length) cl)), (1, .c (.v (.int .i64 lo))), (2, .c (.v (.int .i64 hi))), (3, .c (.v (.int .i64 n)))] _ w rfl [.cell 8 2, .cell 9 4] rfl (by simp) (by subst hκ; simp [SV.den, C.den, kid]) hH (fun v H' => IsX (.val (.tup [.c (.v (.int .i64 (κ _ ((lowN l lo hi n).1)))), .c (.v (.bool (κ _ ((lowN l lo hi n).2))))])) v H') hκ ?_).mono ?_
  rotate_left
  · subst hκ; intro e w' h; exact h
  intro P' hP'
  cbv
  repeat' (first | refine And.intro ?_ ?_ | (intro _; cbv) | (refine tst_mk (fun h => ?_) (fun h => ?_) <;> cbv) | (refine LookX.nil ?_; cbv) | (refine LookX.auto hκ ?_; cbv))
  all_goals (try (show Side _; refine ⟨?_⟩; subst hκ; delta kid at *; first | exact rfl | exact trivial | exact ⟨rfl, rfl, .inl rfl⟩ | ((try dsimp only at *); (try simp only [setTo_len, noS_len, List.length_append, List.length_cons, List.length_nil, List.length_map, and_self, true_or, or_true, eq_self, true_and, and_true, Nat.zero_add, Nat.add_zero]); (first | done | omega); done)))
  all_goals (try (show IsX _ _ _; (clear hH; subst hκ; delta kid at *; (try dsimp only at *)); first | exact IsX.pair_ (low_no (.inl (by with_reducible assumption))) | exact IsX.pair_ (low_no (.inr (by with_reducible assumption)))))
  rename_i b5 b6 b7 b8 b9 h1 bx
  have hs : sizeG n = true := by subst hκ; exact h1
  have hr : rightL l = true := by subst hκ; exact h
  refine rangeM_each hP' FTok [e_right hκ, e_each hκ, e_gsize hκ, e_gin hκ] mixed (id := 20) (lid := 200000) (A := Al) (zs := l) rfl (by subst hκ; rfl) (by omega) (by decide) (σ := Unit) (τ := Gp) (fun pre _ => ∀ g ∈ pre, roomG lo hi n g = false) (fun _ g => (gapsE l).find? (roomG lo hi n) = some g) (fun _ _ => [(200000, .rd Al 6 (κ _ l.length) (κ _ (encL l))), (5, .blk b5 2 [.v (.int .i64 lo)]), (6, .blk b6 2 [.v (.int .i64 hi)]), (7, .blk b7 2 [.v (.int .i64 n)]), (8, .blk b8 2 [.v (.int .i64 0)]), (9, .blk b9 4 [.v (.bool false)])]) (fun _ g => [(8, .blk b8 2 [.v (.int .i64 (κ _ (inG g lo hi).s))]), (9, .blk b9 4 [.v (.bool true)])]) () (fun g hg => by cases hg) [200000, 5, 6, 7, 8, 9] (by decide) ?_ (fun pre s => by subst hκ; rfl) [5, 6, 7, 8, 9] [] ?_ hκ ?_ ?_ ?_
  · cbv
    all_goals (subst hκ; delta kid; repeat' (first | exact rfl | exact trivial | refine And.intro ?_ ?_))
  · cbv
    all_goals (subst hκ; delta kid; repeat' (first | exact rfl | exact trivial | refine And.intro ?_ ?_))
  · rintro pre x - hiv hpre
    cbv
    repeat' (first | refine And.intro ?_ ?_ | (intro _; cbv) | (refine tst_mk (fun h => ?_) (fun h => ?_) <;> cbv) | (refine LookX.nil ?_; cbv) | (refine LookX.auto hκ ?_; cbv))
    all_goals (clear hH; subst hκ; delta kid at *; (try dsimp only at *))
    · exact ⟨trivial⟩
    · refine ⟨⟨x, [8, 9], find_here hpre hiv h, by decide, ?_⟩⟩
      repeat' (first | exact rfl | exact trivial | refine And.intro ?_ ?_)
    · refine ⟨⟨(), [200000, 5, 6, 7, 8, 9], room_snoc hiv h, by decide, ?_⟩⟩
      repeat' (first | exact rfl | exact trivial | refine And.intro ?_ ?_)
  · rintro - hiv
    cbv
    (clear hH; subst hκ; delta kid at *; (try dsimp only at *))
    exact IsX.pair_ (low_none hs hr hiv)
  · rintro pre g hiv -
    cbv
    (clear hH; subst hκ; delta kid at *; (try dsimp only at *))
    exact IsX.pair_ (low_here hs hr hiv)
def e_lowest {κ : Kp} (hκ : κ = kid) : ESpec Try.prog := fnES [.list, .flat, .flat, .flat] b_lowest F_lowest hκ fun avs p r hF hp => by
  unfold F_lowest at hF
  split at hF
  case h_2 => cases hF
  rename_i l xl lo hi n
  simp only [kid, Option.some.injEq, Prod.mk.injEq] at hF
  obtain ⟨rfl, rfl⟩ := hF
  refine ⟨trivial, fun vs w hR => ?_⟩
  obtain ⟨il, Al, cl, vs0, rfl, rfl, hl, hR⟩ := hR
  obtain ⟨vs1, rfl, hR⟩ := hR
  obtain ⟨vs2, rfl, hR⟩ := hR
  obtain ⟨vs3, rfl, hR⟩ := hR
  have hR' : vs3 = [] := hR
  subst hR'
  exact k_lowest l lo hi n Al cl hp w hl
theorem b_highest : Bodied Try.prog 55 := bodied Try.func55 rfl (by decide)
def F_highest : FunX := fun κ avs => match avs with
  | [.lst l xl, .val (.c (.v (.int .i64 lo))), .val (.c (.v (.int .i64 hi))), .val (.c (.v (.int .i64 n)))] => some (κ _ (l.length ≤ 300000), (.val (.tup [.c (.v (.int .i64 (κ _ ((highN l lo hi n).1)))), .c (.v (.bool (κ _ ((highN l lo hi n).2))))])))
  | _ => none
set_option maxRecDepth 100000 in
set_option maxHeartbeats 4000000 in
theorem k_highest (l : List Ar) (lo : Int) (hi : Int) (n : Int) (Al : Option Addr) (cl : Nat) (hside : l.length ≤ 300000) (w : World) (hl : (Ent.rd Al 6 l.length (encL l)).holds w) :
    Calls Try.prog 55 #[.slice Al l.length cl, (SV.c (.v (.int .i64 lo))).den, (SV.c (.v (.int .i64 hi))).den, (SV.c (.v (.int .i64 n))).den] w fun e w' => ∃ v H', e = .returned v.den ∧ IsX (.val (.tup [.c (.v (.int .i64 ((highN l lo hi n).1))), .c (.v (.bool ((highN l lo hi n).2)))])) v H' ∧ HSat w (fun _ => False) H' w' := by
  obtain ⟨κ, hκ⟩ : ∃ κ : Kp, κ = kid := ⟨_, rfl⟩
  have hH : HSat w (fun _ => False) (heapOf [(nilId, .rd none 1 0 []), (200000, .rd Al 6 (κ _ l.length) (κ _ (encL l)))]) w := by
    subst hκ
    refine HSat.reads fun p hp => ?_
    simp only [List.mem_cons, List.not_mem_nil, or_false] at hp
    rcases hp with rfl | rfl
    · exact ⟨_, _, _, _, rfl, nil_holds w⟩
    · exact ⟨_, _, _, _, rfl, hl⟩
  refine (callsM (n := 41) FTok [e_right hκ, e_each hκ, e_gsize hκ, e_gin hκ] mixed [(9, [[], [0], [1], []])] Try.func55 rfl (by kernel_rfl) #[.slice Al l.length cl, (SV.c (.v (.int .i64 lo))).den, (SV.c (.v (.int .i64 hi))).den, (SV.c (.v (.int .i64 n))).den] [(0, .c (.sl 200000 Al (κ _ l.length) cl)), (1, .c (.v (.int .i64 lo))), (2, .c (.v (.int .i64 hi))), (3, .c (.v (.int .i64 n)))] _ w rfl [.tmp 8, .tmp 9] rfl (by simp) (by subst hκ; simp [SV.den, C.den, kid]) hH (fun v H' => IsX (.val (.tup [.c (.v (.int .i64 (κ _ ((highN l lo hi n).1)))), .c (.v (.bool (κ _ ((highN l lo hi n).2))))])) v H') hκ ?_).mono ?_
  rotate_left
  · subst hκ; intro e w' h; exact h
  intro P' hP'
  cbv
  repeat' (first | refine And.intro ?_ ?_ | (intro _; cbv) | (refine tst_mk (fun h => ?_) (fun h => ?_) <;> cbv) | (refine LookX.nil ?_; cbv) | (refine LookX.auto hκ ?_; cbv))
  all_goals (try (show Side _; refine ⟨?_⟩; subst hκ; delta kid at *; first | exact rfl | exact trivial | exact ⟨rfl, rfl, .inl rfl⟩ | ((try dsimp only at *); (try simp only [setTo_len, noS_len, List.length_append, List.length_cons, List.length_nil, List.length_map, and_self, true_or, or_true, eq_self, true_and, and_true, Nat.zero_add, Nat.add_zero]); (first | done | omega); done)))
  all_goals (try (show IsX _ _ _; (clear hH; subst hκ; delta kid at *; (try dsimp only at *)); first | exact IsX.pair_ (high_no (.inl (by with_reducible assumption))) | exact IsX.pair_ (high_no (.inr (by with_reducible assumption)))))
  rename_i b5 b6 b7 h1 b8 b9 bx
  have hs : sizeG n = true := by subst hκ; exact h1
  have hr : rightL l = true := by subst hκ; exact h
  refine rangeM_each hP' FTok [e_right hκ, e_each hκ, e_gsize hκ, e_gin hκ] mixed (id := 22) (lid := 200000) (A := Al) (zs := l) rfl (by subst hκ; rfl) (by omega) (by decide) (σ := Unit) (τ := Empty) (fun _ _ => True) (fun _ _ => True) (fun pre _ => [(200000, .rd Al 6 (κ _ l.length) (κ _ (encL l))), (5, .blk b5 2 [.v (.int .i64 lo)]), (6, .blk b6 2 [.v (.int .i64 hi)]), (7, .blk b7 2 [.v (.int .i64 n)]), (10, .blk b8 2 [.v (.int .i64 (κ _ (highF lo hi n pre).1))]), (11, .blk b9 4 [.v (.bool (κ _ (highF lo hi n pre).2))])]) (fun _ r => nomatch r) () trivial [200000, 5, 6, 7, 10, 11] (by decide) ?_ (fun pre s => by subst hκ; rfl) [5, 6, 7, 10, 11] [] ?_ hκ ?_ ?_ (fun pre r => nomatch r)
  · cbv
    all_goals (subst hκ; delta kid; repeat' (first | exact rfl | exact trivial | refine And.intro ?_ ?_))
  · cbv
    all_goals (subst hκ; delta kid; repeat' (first | exact rfl | exact trivial | refine And.intro ?_ ?_))
  · rintro pre x - - hpre
    cbv
    repeat' (first | refine And.intro ?_ ?_ | (intro _; cbv) | (refine tst_mk (fun h => ?_) (fun h => ?_) <;> cbv) | (refine LookX.nil ?_; cbv) | (refine LookX.auto hκ ?_; cbv))
    all_goals (clear hH; subst hκ; delta kid at *; (try dsimp only at *))
    · exact ⟨trivial⟩
    · refine ⟨⟨(), [200000, 5, 6, 7, 10, 11], trivial, by decide, ?_⟩⟩
      repeat' (first | exact rfl | exact trivial | refine And.intro ?_ ?_ | exact congrArg (fun v => [Value.int .i64 v.1]) (high_y h) | exact congrArg (fun v => [Value.bool v.2]) (high_y h))
    · refine ⟨⟨(), [200000, 5, 6, 7, 10, 11], trivial, by decide, ?_⟩⟩
      repeat' (first | exact rfl | exact trivial | refine And.intro ?_ ?_ | exact congrArg (fun v => [Value.int .i64 v.1]) (high_n h) | exact congrArg (fun v => [Value.bool v.2]) (high_n h))
  · rintro - -
    cbv
    repeat' (first | refine And.intro ?_ ?_ | (intro _; cbv) | (refine tst_mk (fun h => ?_) (fun h => ?_) <;> cbv) | (refine LookX.nil ?_; cbv) | (refine LookX.auto hκ ?_; cbv))
    all_goals (clear hH; subst hκ; delta kid at *; (try dsimp only at *))
    exact IsX.pair_ (high_yes hs hr)
def e_highest {κ : Kp} (hκ : κ = kid) : ESpec Try.prog := fnES [.list, .flat, .flat, .flat] b_highest F_highest hκ fun avs p r hF hp => by
  unfold F_highest at hF
  split at hF
  case h_2 => cases hF
  rename_i l xl lo hi n
  simp only [kid, Option.some.injEq, Prod.mk.injEq] at hF
  obtain ⟨rfl, rfl⟩ := hF
  refine ⟨trivial, fun vs w hR => ?_⟩
  obtain ⟨il, Al, cl, vs0, rfl, rfl, hl, hR⟩ := hR
  obtain ⟨vs1, rfl, hR⟩ := hR
  obtain ⟨vs2, rfl, hR⟩ := hR
  obtain ⟨vs3, rfl, hR⟩ := hR
  have hR' : vs3 = [] := hR
  subst hR'
  exact k_highest l lo hi n Al cl hp w hl
end Go.Proofs.Ytbcicjmepojlnaa.Eng
/- Loops over gaps; the reference's free pages, choices; no condition but those typed. -/
namespace Go.Proofs.Ytbcicjmepojlnaa.Eng
open Go Go.RowKit
set_option autoImplicit false
set_option linter.unusedSimpArgs false
set_option linter.unusedVariables false
theorem g_take {l : List Gp} {i : Nat} (h : i < l.length) : takeN (encG l) (((i : Nat) : Int).toNat * 2) 2 = some [.v (.int .i64 (nthG l i).s), .v (.int .i64 (nthG l i).e)] := by
  rw [Int.toNat_natCast]
  exact enc_take encGp_len (by decide) l i _ (nthG_get h)
theorem g_ix {l : List Gp} {i : Nat} (h : i < l.length) : 0 < 2 ∧ 0 ≤ ((i : Nat) : Int) ∧ ((i : Nat) : Int) < (l.length : Int) := by omega
theorem g_next {l : List Gp} {i : Nat} (h : i < l.length) : l.take (i + 1) = l.take i ++ [nthG l i] := by
  have h2 := nthG_get h
  rw [List.take_add_one, h2]
  rfl
theorem nthG_mem {l : List Gp} {i : Nat} (h : i < l.length) : nthG l i ∈ l := List.mem_of_getElem? (nthG_get h)
def largeStep (n : Int) (g : Gp) : Int := maxI n (w64 (g.e - g.s))
def largeF (l : List Gp) : Int := l.foldl largeStep 0
theorem large_next {l : List Gp} {i : Nat} (h : i < l.length) : largeStep (largeF (l.take i)) (nthG l i) = largeF (l.take (i + 1)) := by
  unfold largeF
  rw [g_next h, List.foldl_append]
  rfl
def fitG (a n : Int) (g : Gp) : Bool := decide (a ≥ g.s) && decide (w64 (a + n) ≤ g.e)
section
variable {l : List Ar} {a n : Int}
theorem fits_a (h : sizeG n = false) : fitsL l a n = false := by unfold fitsL; rw [if_pos (by rw [h]; simp)]
theorem fits_b (h : (Int.tmod a 4096 != 0) = true) : fitsL l a n = false := by unfold fitsL; rw [if_pos (by rw [h]; simp)]
theorem fits_c (h : decide (a < 65536) = true) : fitsL l a n = false := by unfold fitsL; rw [if_pos (by rw [h]; simp)]
theorem fits_d (h : decide (IntKind.i64.wrap (2097152 - n) < a) = true) : fitsL l a n = false := by unfold fitsL; rw [if_pos (by rw [show decide (a > w64 (2097152 - n)) = true from h]; simp)]
theorem fits_e (h1 : sizeG n = true) (h2 : (Int.tmod a 4096 != 0) = false) (h3 : decide (a < 65536) = false) (h4 : decide (IntKind.i64.wrap (2097152 - n) < a) = false) : fitsL l a n = (gapsL l).any (fitG a n) := by
  unfold fitsL
  rw [if_neg (by rw [h1, h2, h3, show decide (a > w64 (2097152 - n)) = false from h4]; simp)]
  rfl
end
def NoneTo (p : Gp → Bool) (l : List Gp) (i : Nat) : Prop := ∀ j, j < i → p (nthG l j) = false
theorem none_next {p : Gp → Bool} {l : List Gp} {i : Nat} (h : NoneTo p l i) (hi : p (nthG l i) = false) : NoneTo p l (i + 1) := fun j hj => by
  by_cases hji : j = i
  · subst hji; exact hi
  · exact h j (by omega)
theorem any_here {p : Gp → Bool} {l : List Gp} {i : Nat} (hi : i < l.length) (h : p (nthG l i) = true) : l.any p = true := List.any_eq_true.2 ⟨_, nthG_mem hi, h⟩
theorem any_none {p : Gp → Bool} {l : List Gp} {i : Nat} (hi : ¬ i < l.length) (h : NoneTo p l i) : l.any p = false := by
  cases hb : l.any p with
  | false => rfl
  | true =>
    obtain ⟨g, hg, h2⟩ := List.any_eq_true.1 hb
    obtain ⟨j, hj, rfl⟩ := List.getElem_of_mem hg
    have h3 := nthG_get hj
    rw [List.getElem?_eq_getElem hj] at h3
    injection h3 with h3
    rw [h3, h j (by omega)] at h2
    cases h2
theorem fitG_y {a n : Int} {g : Gp} (h1 : decide (g.s ≤ a) = true) (h2 : decide (IntKind.i64.wrap (a + n) ≤ g.e) = true) : fitG a n g = true := by
  unfold fitG
  rw [show decide (a ≥ g.s) = true from h1, show decide (w64 (a + n) ≤ g.e) = true from h2]
  rfl
theorem fitG_n1 {a n : Int} {g : Gp} (h1 : decide (g.s ≤ a) = false) : fitG a n g = false := by
  unfold fitG
  rw [show decide (a ≥ g.s) = false from h1]
  rfl
theorem fitG_n2 {a n : Int} {g : Gp} (h2 : decide (IntKind.i64.wrap (a + n) ≤ g.e) = false) : fitG a n g = false := by
  unfold fitG
  rw [show decide (w64 (a + n) ≤ g.e) = false from h2, Bool.and_false]
theorem gapsL_len {l : List Ar} {m : Nat} (h : l.length ≤ m) : (gapsL l).length ≤ m + 1 := by
  unfold gapsL
  split
  · have := gapsE_len l; omega
  · simp
/-! ### The reference's -/
def freeK (s : List Pg) (q k : Nat) : Bool := (List.range k).all fun j => !(nthP s (q + j)).is
theorem freeK_iff (s : List Pg) (q k : Nat) : freeK s q k = true ↔ ∀ j, q ≤ j → j < q + k → (nthP s j).is = false := by
  unfold freeK
  rw [List.all_eq_true]
  constructor
  · intro h j h1 h2
    have := h (j - q) (List.mem_range.2 (by omega))
    rw [show q + (j - q) = j by omega] at this
    simpa using this
  · intro h j hj
    have := h (q + j) (by omega) (by have := List.mem_range.1 hj; omega)
    rw [this]
    rfl
def freeS (s : List Pg) (p n : Int) : Bool := if (decide (p < 16) || decide (n < 1) || decide (n > 496) || decide (p + n > 512)) = true then false else freeK s p.toNat n.toNat
def FreeTo (s : List Pg) (q k : Nat) : Prop := ∀ j, q ≤ j → j < q + k → (nthP s j).is = false
theorem freeTo_next {s : List Pg} {q k : Nat} (h : FreeTo s q k) (hi : (nthP s (q + k)).is = false) : FreeTo s q (k + 1) := fun j h1 h2 => by
  by_cases hj : j = q + k
  · subst hj; exact hi
  · exact h j h1 (by omega)
section
variable {s : List Pg} {p n : Int}
theorem free_a (h : decide (p < 16) = true) : freeS s p n = false := by unfold freeS; rw [if_pos (by rw [h]; simp)]
theorem free_b (h : decide (n < 1) = true) : freeS s p n = false := by unfold freeS; rw [if_pos (by rw [h]; simp)]
theorem free_c (h : decide (496 < n) = true) : freeS s p n = false := by unfold freeS; rw [if_pos (by rw [show decide (n > 496) = true from h]; simp)]
theorem free_d (hp : In64 p) (h1 : decide (p < 16) = false) (h2 : decide (n < 1) = false) (h3 : decide (496 < n) = false) (h : decide (512 < IntKind.i64.wrap (p + n)) = true) (hp2 : p ≤ 9223372036854775000) : freeS s p n = false := by
  have a1 := of_decide_eq_false h1
  have a2 := of_decide_eq_false h2
  have a3 := of_decide_eq_false h3
  have a4 := of_decide_eq_true h
  have e : w64 (p + n) = p + n := w64_id (by unfold In64; omega)
  rw [show IntKind.i64.wrap (p + n) = p + n from e] at a4
  unfold freeS
  rw [if_pos (by rw [show decide (p + n > 512) = true by rw [decide_eq_true_eq]; omega]; simp)]
theorem free_e (hp2 : p ≤ 9223372036854775000) (h1 : decide (p < 16) = false) (h2 : decide (n < 1) = false) (h3 : decide (496 < n) = false) (h : decide (512 < IntKind.i64.wrap (p + n)) = false) : IntKind.i64.wrap (p + n) = ((p.toNat + n.toNat : Nat) : Int) ∧ p = (p.toNat : Int) ∧ p.toNat + n.toNat ≤ 512 ∧ freeS s p n = freeK s p.toNat n.toNat := by
  have a1 := of_decide_eq_false h1
  have a2 := of_decide_eq_false h2
  have a3 := of_decide_eq_false h3
  have a4 := of_decide_eq_false h
  have e : w64 (p + n) = p + n := w64_id (by unfold In64; omega)
  rw [show IntKind.i64.wrap (p + n) = p + n from e] at a4 ⊢
  refine ⟨by omega, by omega, by omega, ?_⟩
  unfold freeS
  rw [if_neg (by simp; omega)]
theorem free_here {q m k : Nat} (hk : k < m) (h : (nthP s (q + k)).is = true) : freeK s q m = false := by
  cases hb : freeK s q m with
  | false => rfl
  | true =>
    have := (freeK_iff s q m).1 hb (q + k) (by omega) (by omega)
    rw [h] at this
    cases this
theorem free_all {q m : Nat} (h : FreeTo s q m) : freeK s q m = true := (freeK_iff s q m).2 h
end
theorem freeS_iff {l : List Ar} (hl : Ok l) {a n : Int} (ha : a % 4096 = 0) (h1 : 65536 ≤ a) (hn : 4096 ≤ n ∧ n ≤ 2031616 ∧ n % 4096 = 0) (h2 : a + n ≤ 2097152) : freeS (ofL l) (a / 4096) (n / 4096) = true ↔ FreeR l a (a + n) := by
  unfold freeS
  rw [if_neg (by simp; omega), freeK_iff]
  constructor
  · intro h x hx c1 c2 t ht
    have := h (x / 4096).toNat (by omega) (by omega)
    rw [(has_of hl (q := (x / 4096).toNat) (t := t) (by rw [show (4096 * ((x / 4096).toNat : Int)) = x by omega]; exact ht)).1] at this
    cases this
  · intro h j c1 c2
    cases hb : (nthP (ofL l) j).is with
    | false => rfl
    | true => exact absurd (of_has hl (q := j) (by omega) (by omega) hb) (h _ (by omega) (by omega) (by omega) _)
def okP (l : List Ar) (lo hi n : Int) (q : Nat) : Bool := decide (4096 * (q : Int) ≥ lo) && decide (hi ≥ 4096 * (q : Int) + n) && freeS (ofL l) q (n / 4096)
def chF (l : List Ar) (lo hi n : Int) (gr : Bool) : Nat → Int
  | 0 => -1
  | k + 1 => if (okP l lo hi n (16 + k) && (decide (chF l lo hi n gr k < 0) || gr)) = true then 4096 * ((16 + k : Nat) : Int) else chF l lo hi n gr k
def chooseL (l : List Ar) (lo hi n : Int) (gr : Bool) : Int := if gr = true then (if (highN l lo hi n).2 = true then (highN l lo hi n).1 else -1) else (if (lowN l lo hi n).2 = true then (lowN l lo hi n).1 else -1)
theorem okP_iff {l : List Ar} (hl : Ok l) {lo hi n : Int} (hn : 4096 ≤ n ∧ n ≤ 2031616 ∧ n % 4096 = 0) {q : Nat} (h0 : 16 ≤ q) (hq : q < 512) : okP l lo hi n q = true ↔ GoodA l lo hi n (4096 * q) := by
  unfold okP
  rw [Bool.and_eq_true, Bool.and_eq_true, decide_eq_true_eq, decide_eq_true_eq]
  by_cases h : 4096 * (q : Int) + n ≤ 2097152
  · have hf := freeS_iff hl (a := 4096 * (q : Int)) (n := n) (by omega) (by omega) hn h
    rw [show 4096 * (q : Int) / 4096 = (q : Int) by omega] at hf
    rw [hf]
    exact ⟨fun ⟨⟨c1, c2⟩, c3⟩ => ⟨by omega, by omega, h, c1, c2, c3⟩, fun ⟨_, _, _, c1, c2, c3⟩ => ⟨⟨c1, c2⟩, c3⟩⟩
  · constructor
    · rintro ⟨_, c3⟩
      unfold freeS at c3
      rw [if_pos (by simp; omega)] at c3
      cases c3
    · intro hg
      exact absurd hg.h1 h
theorem chF_low (l : List Ar) (lo hi n : Int) : ∀ k : Nat, (chF l lo hi n false k = -1 ∧ ∀ q, 16 ≤ q → q < 16 + k → okP l lo hi n q = false) ∨ ∃ q, 16 ≤ q ∧ q < 16 + k ∧ chF l lo hi n false k = 4096 * (q : Int) ∧ okP l lo hi n q = true ∧ ∀ q', 16 ≤ q' → q' < q → okP l lo hi n q' = false
  | 0 => .inl ⟨rfl, fun q h1 h2 => by omega⟩
  | k + 1 => by
    rcases chF_low l lo hi n k with ⟨h1, h2⟩ | ⟨q, h1, h2, h3, h4, h5⟩
    · cases ho : okP l lo hi n (16 + k) with
      | true =>
        refine .inr ⟨16 + k, by omega, by omega, ?_, ho, h2⟩
        show (if _ then _ else _) = _
        rw [ho, h1, if_pos (by rfl)]
      | false =>
        refine .inl ⟨?_, fun q c1 c2 => ?_⟩
        · show (if _ then _ else _) = _
          rw [ho, if_neg (by simp)]
          exact h1
        · by_cases hq : q = 16 + k
          · subst hq; exact ho
          · exact h2 q c1 (by omega)
    · refine .inr ⟨q, h1, by omega, ?_, h4, h5⟩
      show (if _ then _ else _) = _
      rw [h3, if_neg (by rw [show decide (4096 * (q : Int) < 0) = false by rw [decide_eq_false_iff_not]; omega]; simp)]
theorem chF_high (l : List Ar) (lo hi n : Int) : ∀ k : Nat, (chF l lo hi n true k = -1 ∧ ∀ q, 16 ≤ q → q < 16 + k → okP l lo hi n q = false) ∨ ∃ q, 16 ≤ q ∧ q < 16 + k ∧ chF l lo hi n true k = 4096 * (q : Int) ∧ okP l lo hi n q = true ∧ ∀ q', q < q' → q' < 16 + k → okP l lo hi n q' = false
  | 0 => .inl ⟨rfl, fun q h1 h2 => by omega⟩
  | k + 1 => by
    cases ho : okP l lo hi n (16 + k) with
    | true =>
      refine .inr ⟨16 + k, by omega, by omega, ?_, ho, fun q' c1 c2 => by omega⟩
      show (if _ then _ else _) = _
      rw [ho, Bool.or_true, if_pos (by rfl)]
    | false =>
      have e : chF l lo hi n true (k + 1) = chF l lo hi n true k := by
        show (if _ then _ else _) = _
        rw [ho, if_neg (by simp)]
      rw [e]
      rcases chF_high l lo hi n k with ⟨h1, h2⟩ | ⟨q, h1, h2, h3, h4, h5⟩
      · refine .inl ⟨h1, fun q c1 c2 => ?_⟩
        by_cases hq : q = 16 + k
        · subst hq; exact ho
        · exact h2 q c1 (by omega)
      · refine .inr ⟨q, h1, by omega, h3, h4, fun q' c1 c2 => ?_⟩
        by_cases hq : q' = 16 + k
        · subst hq; exact ho
        · exact h5 q' c1 (by omega)
theorem good_q {l : List Ar} {lo hi n a : Int} (h : GoodA l lo hi n a) (hn : 4096 ≤ n) : ∃ q : Nat, 16 ≤ q ∧ q < 512 ∧ a = 4096 * (q : Int) := by
  have := h.z
  have := h.l1
  have := h.h1
  exact ⟨(a / 4096).toNat, by omega, by omega, by omega⟩
theorem choose_yes {l : List Ar} (hl : Rt l) {lo hi n : Int} (hn : sizeG n = true) (h64 : In64 n) (gr : Bool) : chF l lo hi n gr 496 = chooseL l lo hi n gr := by
  have hs := (sizeG_iff h64).1 hn
  unfold chooseL
  cases gr with
  | false =>
    rw [if_neg (by simp)]
    obtain ⟨s1, s2⟩ := low_spec hl (lo := lo) (hi := hi) hn h64
    rcases chF_low l lo hi n 496 with ⟨h1, h2⟩ | ⟨q, h1, h2, h3, h4, h5⟩
    · cases hb : (lowN l lo hi n).2 with
      | false => rw [if_neg (by simp)]; exact h1
      | true =>
        obtain ⟨g1, _⟩ := s1 hb
        obtain ⟨q, c1, c2, c3⟩ := good_q g1 (by omega)
        rw [c3] at g1
        have := (okP_iff hl.ok hs c1 c2).2 g1
        rw [h2 q c1 (by omega)] at this
        cases this
    · have hg := (okP_iff hl.ok hs h1 (by omega)).1 h4
      cases hb : (lowN l lo hi n).2 with
      | false => exact absurd hg ((s2 hb).2 _)
      | true =>
        rw [if_pos rfl, h3]
        obtain ⟨g1, g2⟩ := s1 hb
        have := g2 _ hg
        obtain ⟨q', c1, c2, c3⟩ := good_q g1 (by omega)
        rw [c3] at g1 this ⊢
        by_cases hlt : q' < q
        · have h6 := (okP_iff hl.ok hs c1 c2).2 g1
          rw [h5 q' c1 hlt] at h6
          cases h6
        · omega
  | true =>
    rw [if_pos rfl]
    obtain ⟨s1, s2⟩ := high_spec hl (lo := lo) (hi := hi) hn h64
    rcases chF_high l lo hi n 496 with ⟨h1, h2⟩ | ⟨q, h1, h2, h3, h4, h5⟩
    · cases hb : (highN l lo hi n).2 with
      | false => rw [if_neg (by simp)]; exact h1
      | true =>
        obtain ⟨g1, _⟩ := s1 hb
        obtain ⟨q, c1, c2, c3⟩ := good_q g1 (by omega)
        rw [c3] at g1
        have := (okP_iff hl.ok hs c1 c2).2 g1
        rw [h2 q c1 (by omega)] at this
        cases this
    · have hg := (okP_iff hl.ok hs h1 (by omega)).1 h4
      cases hb : (highN l lo hi n).2 with
      | false => exact absurd hg ((s2 hb).2 _)
      | true =>
        rw [if_pos rfl, h3]
        obtain ⟨g1, g2⟩ := s1 hb
        have := g2 _ hg
        obtain ⟨q', c1, c2, c3⟩ := good_q g1 (by omega)
        rw [c3] at g1 this ⊢
        by_cases hlt : q < q'
        · have h6 := (okP_iff hl.ok hs c1 c2).2 g1
          rw [h5 q' hlt (by omega)] at h6
          cases h6
        · omega
theorem choose_no {l : List Ar} {lo hi n : Int} (hn : sizeG n = false) (gr : Bool) : chooseL l lo hi n gr = -1 := by
  unfold chooseL
  rw [low_no (.inl hn), high_no (.inl hn)]
  cases gr <;> rfl
end Go.Proofs.Ytbcicjmepojlnaa.Eng
/- The reference's Fits and Choose, and the program's; no condition but those typed. -/
namespace Go.Proofs.Ytbcicjmepojlnaa.Eng
open Go Go.RowKit
set_option autoImplicit false
set_option linter.unusedSimpArgs false
set_option linter.unusedVariables false
theorem sizeG_no {n : Int} (h64 : In64 n) (h : n < 1 ∨ 2031616 < n ∨ n % 4096 ≠ 0) : sizeG n = false := by
  cases hb : sizeG n with
  | false => rfl
  | true =>
    have := (sizeG_iff h64).1 hb
    omega
theorem sizeG_yes {n : Int} (h64 : In64 n) (h1 : decide (n < 1) = false) (h2 : decide (2031616 < n) = false) (h3 : (Int.tmod n 4096 != 0) = false) : sizeG n = true := by
  have a1 := of_decide_eq_false h1
  have a2 := of_decide_eq_false h2
  have a3 := (tmod0 n).1 h3
  exact (sizeG_iff h64).2 ⟨by omega, by omega, a3⟩
section
variable {l : List Ar} {a n : Int}
theorem tmod1 {n : Int} (h : (Int.tmod n 4096 != 0) = true) : n % 4096 ≠ 0 := fun hc => by
  rw [(tmod0 n).2 hc] at h
  cases h
theorem rf_q {x : Int} (h1 : 0 ≤ x) (h2 : x ≤ 2097152) : IntKind.i64.wrap (Int.tdiv x 4096) = x / 4096 := by
  rw [tdiv_pos h1]
  exact w64_id (by unfold In64; omega)
end
section
variable {l : List Ar} {lo hi n : Int} {gr : Bool} {k : Nat}
theorem ch_mul (hk : k < 496) : IntKind.i64.wrap (4096 * ((16 + k : Nat) : Int)) = 4096 * ((16 + k : Nat) : Int) := w64_id (by unfold In64; omega)
theorem ch_add (hk : k < 496) (h1 : ¬ n < 1) (h2 : ¬ 2031616 < n) : IntKind.i64.wrap (4096 * ((16 + k : Nat) : Int) + n) = 4096 * ((16 + k : Nat) : Int) + n := w64_id (by unfold In64; omega)
theorem ch_of (hk : k < 496) (h1 : decide (n < 1) = false) (h2 : decide (2031616 < n) = false) : IntKind.i64.wrap (IntKind.i64.wrap (4096 * ((16 + k : Nat) : Int)) + n) = 4096 * ((16 + k : Nat) : Int) + n ∧ IntKind.i64.wrap (Int.tdiv n 4096) = n / 4096 := by
  have a1 := of_decide_eq_false h1
  have a2 := of_decide_eq_false h2
  rw [ch_mul hk, ch_add hk a1 a2]
  exact ⟨rfl, rf_q (by omega) (by omega)⟩
theorem ch_yes (hk : k < 496) (h1 : decide (n < 1) = false) (h2 : decide (2031616 < n) = false) (c1 : decide (lo ≤ IntKind.i64.wrap (4096 * ((16 + k : Nat) : Int))) = true) (c2 : decide (IntKind.i64.wrap (IntKind.i64.wrap (4096 * ((16 + k : Nat) : Int)) + n) ≤ hi) = true) (c3 : freeS (ofL l) ((16 + k : Nat) : Int) (IntKind.i64.wrap (Int.tdiv n 4096)) = true) (c4 : decide (chF l lo hi n gr k < 0) = true ∨ gr = true) : IntKind.i64.wrap (4096 * ((16 + k : Nat) : Int)) = chF l lo hi n gr (k + 1) := by
  obtain ⟨e1, e2⟩ := ch_of (n := n) hk h1 h2
  rw [e1] at c2
  rw [e2] at c3
  rw [ch_mul hk] at c1 ⊢
  show _ = if _ then _ else _
  have hb : okP l lo hi n (16 + k) = true := by
    unfold okP
    rw [c3, show decide (4096 * ((16 + k : Nat) : Int) ≥ lo) = true from c1, show decide (hi ≥ 4096 * ((16 + k : Nat) : Int) + n) = true from c2]
    rfl
  rw [if_pos]
  rw [hb]
  rcases c4 with h | h
  · rw [h]; rfl
  · rw [h, Bool.or_true]; rfl
theorem ch_no (h : okP l lo hi n (16 + k) = false ∨ (decide (chF l lo hi n gr k < 0) = false ∧ gr = false)) : chF l lo hi n gr k = chF l lo hi n gr (k + 1) := by
  show _ = if _ then _ else _
  rw [if_neg]
  rcases h with h | ⟨h1, h2⟩
  · rw [h]; simp
  · rw [h1, h2]; simp
theorem ch_n1 (hk : k < 496) (c1 : decide (lo ≤ IntKind.i64.wrap (4096 * ((16 + k : Nat) : Int))) = false) : chF l lo hi n gr k = chF l lo hi n gr (k + 1) := by
  rw [ch_mul hk] at c1
  refine ch_no (.inl ?_)
  unfold okP
  rw [show decide (4096 * ((16 + k : Nat) : Int) ≥ lo) = false from c1]
  rfl
theorem ch_n2 (hk : k < 496) (h1 : decide (n < 1) = false) (h2 : decide (2031616 < n) = false) (c2 : decide (IntKind.i64.wrap (IntKind.i64.wrap (4096 * ((16 + k : Nat) : Int)) + n) ≤ hi) = false) : chF l lo hi n gr k = chF l lo hi n gr (k + 1) := by
  obtain ⟨e1, e2⟩ := ch_of (n := n) hk h1 h2
  rw [e1] at c2
  refine ch_no (.inl ?_)
  unfold okP
  rw [show decide (hi ≥ 4096 * ((16 + k : Nat) : Int) + n) = false from c2, Bool.and_false]
  rfl
theorem ch_n3 (hk : k < 496) (h1 : decide (n < 1) = false) (h2 : decide (2031616 < n) = false) (c3 : freeS (ofL l) ((16 + k : Nat) : Int) (IntKind.i64.wrap (Int.tdiv n 4096)) = false) : chF l lo hi n gr k = chF l lo hi n gr (k + 1) := by
  rw [(ch_of (n := n) hk h1 h2).2] at c3
  refine ch_no (.inl ?_)
  unfold okP
  rw [c3, Bool.and_false]
theorem ch_n4 (c4 : decide (chF l lo hi n gr k < 0) = false) (c5 : gr = false) : chF l lo hi n gr k = chF l lo hi n gr (k + 1) := ch_no (.inr ⟨c4, c5⟩)
theorem ch_end (hl : Rt l) (h64 : In64 n) (h1 : decide (n < 1) = false) (h2 : decide (2031616 < n) = false) (h3 : (Int.tmod n 4096 != 0) = false) : chF l lo hi n gr 496 = chooseL l lo hi n gr := choose_yes hl (sizeG_yes h64 h1 h2 h3) h64 gr
theorem ch_bad (h64 : In64 n) (h : decide (n < 1) = true ∨ decide (2031616 < n) = true ∨ (Int.tmod n 4096 != 0) = true) : chooseL l lo hi n gr = -1 :=
  choose_no (sizeG_no h64 (by
    rcases h with h | h | h
    · exact .inl (of_decide_eq_true h)
    · exact .inr (.inl (of_decide_eq_true h))
    · exact .inr (.inr (tmod1 h)))) gr
end
theorem free_d' {s : List Pg} {p n : Int} (hp2 : p ≤ 9223372036854775000) (h1 : decide (p < 16) = false) (h2 : decide (n < 1) = false) (h3 : decide (496 < n) = false) (h : decide (512 < IntKind.i64.wrap (p + n)) = true) : freeS s p n = false :=
  free_d (by have := of_decide_eq_false h1; unfold In64; omega) h1 h2 h3 h hp2
theorem good_fits {l : List Ar} (hl : Rt l) {lo hi n a : Int} (hn : sizeG n = true) (h64 : In64 n) (h : GoodA l lo hi n a) : fitsL l a n = true := by
  have hs := (sizeG_iff h64).1 hn
  exact (fits_iff hl (by have := h.l1; have := h.h1; unfold In64; omega) h64).2 ⟨hn, h.z, h.l1, h.h1, h.free⟩
theorem chooses {l : List Ar} (hl : Rt l) {lo hi n : Int} (h64 : In64 n) :
    ((lowN l lo hi n).2 = decide (0 ≤ chooseL l lo hi n false)) ∧ ((highN l lo hi n).2 = decide (0 ≤ chooseL l lo hi n true)) ∧ (lowN l lo hi n).2 = (highN l lo hi n).2 ∧
    ((lowN l lo hi n).2 = false → (lowN l lo hi n).1 = 0 ∧ (highN l lo hi n).1 = 0) ∧
    ((lowN l lo hi n).2 = true → (lowN l lo hi n).1 = chooseL l lo hi n false ∧ (highN l lo hi n).1 = chooseL l lo hi n true ∧ (lowN l lo hi n).1 ≤ (highN l lo hi n).1 ∧ fitsL l (lowN l lo hi n).1 n = true ∧ fitsL l (highN l lo hi n).1 n = true) := by
  cases hs : sizeG n with
  | false =>
    rw [choose_no hs, choose_no hs, low_no (.inl hs), high_no (.inl hs)]
    exact ⟨rfl, rfl, rfl, fun _ => ⟨rfl, rfl⟩, fun h => by cases h⟩
  | true =>
    obtain ⟨s1, s2⟩ := low_spec hl (lo := lo) (hi := hi) hs h64
    obtain ⟨t1, t2⟩ := high_spec hl (lo := lo) (hi := hi) hs h64
    unfold chooseL
    rw [if_neg (by simp), if_pos rfl]
    cases hb : (lowN l lo hi n).2 with
    | false =>
      cases hc : (highN l lo hi n).2 with
      | false =>
        rw [if_neg (by simp), if_neg (by simp)]
        exact ⟨rfl, rfl, rfl, fun _ => ⟨(s2 hb).1, (t2 hc).1⟩, fun h => by cases h⟩
      | true => exact absurd (t1 hc).1 ((s2 hb).2 _)
    | true =>
      cases hc : (highN l lo hi n).2 with
      | false => exact absurd (s1 hb).1 ((t2 hc).2 _)
      | true =>
        have g1 := (s1 hb).1
        have g2 := (t1 hc).1
        rw [if_pos rfl, if_pos rfl]
        have := g1.l1
        have := g2.l1
        exact ⟨(decide_eq_true (by omega)).symm, (decide_eq_true (by omega)).symm, rfl, (fun h => by cases h), fun _ => ⟨rfl, rfl, (s1 hb).2 _ g2, good_fits hl hs h64 g1, good_fits hl hs h64 g2⟩⟩
end Go.Proofs.Ytbcicjmepojlnaa.Eng
/- Contracts of functions (printed by genx.py of this work): what each hands back; condition: as its 'hside' says. -/
namespace Go.Proofs.Ytbcicjmepojlnaa.Eng
open Go Go.RowKit
set_option linter.unusedVariables false
set_option linter.unusedSimpArgs false
theorem b_fits : Bodied Try.prog 52 := bodied Try.func52 rfl (by decide)
def F_fits : FunX := fun κ avs => match avs with
  | [.lst l xl, .val (.c (.v (.int .i64 a))), .val (.c (.v (.int .i64 n)))] => some (κ _ (l.length ≤ 300000), (.val (.c (.v (.bool (κ _ (fitsL l a n)))))))
  | _ => none
set_option maxRecDepth 100000 in
set_option maxHeartbeats 4000000 in
theorem k_fits (l : List Ar) (a : Int) (n : Int) (Al : Option Addr) (cl : Nat) (hside : l.length ≤ 300000) (w : World) (hl : (Ent.rd Al 6 l.length (encL l)).holds w) :
    Calls Try.prog 52 #[.slice Al l.length cl, (SV.c (.v (.int .i64 a))).den, (SV.c (.v (.int .i64 n))).den] w fun e w' => ∃ v H', e = .returned v.den ∧ IsX (.val (.c (.v (.bool (fitsL l a n))))) v H' ∧ HSat w (fun _ => False) H' w' := by
  obtain ⟨κ, hκ⟩ : ∃ κ : Kp, κ = kid := ⟨_, rfl⟩
  have hH : HSat w (fun _ => False) (heapOf [(nilId, .rd none 1 0 []), (200000, .rd Al 6 (κ _ l.length) (κ _ (encL l)))]) w := by
    subst hκ
    refine HSat.reads fun p hp => ?_
    simp only [List.mem_cons, List.not_mem_nil, or_false] at hp
    rcases hp with rfl | rfl
    · exact ⟨_, _, _, _, rfl, nil_holds w⟩
    · exact ⟨_, _, _, _, rfl, hl⟩
  refine (callsP (n := 47) FTok [e_gsize hκ, e_gaps hκ] mixed [] Try.func52 rfl (by kernel_rfl) #[.slice Al l.length cl, (SV.c (.v (.int .i64 a))).den, (SV.c (.v (.int .i64 n))).den] [(0, .c (.sl 200000 Al (κ _ l.length) cl)), (1, .c (.v (.int .i64 a))), (2, .c (.v (.int .i64 n)))] _ w rfl [.tmp 6] rfl (by simp) (by subst hκ; simp [SV.den, C.den, kid]) hH (fun v H' => IsX (.val (.c (.v (.bool (κ _ (fitsL l a n)))))) v H') hκ ?_).mono ?_
  rotate_left
  · subst hκ; intro e w' h; exact h
  intro P' hP'
  cbv
  repeat' (first | refine And.intro ?_ ?_ | (intro _; cbv) | (refine tst_mk (fun h => ?_) (fun h => ?_) <;> cbv) | (refine LookX.nil ?_; cbv) | (refine LookX.auto hκ ?_; cbv))
  all_goals (try (show Side _; refine ⟨?_⟩; subst hκ; delta kid at *; first | exact rfl | exact trivial | exact ⟨rfl, rfl, .inl rfl⟩ | ((try dsimp only at *); (try simp only [setTo_len, noS_len, List.length_append, List.length_cons, List.length_nil, List.length_map, and_self, true_or, or_true, eq_self, true_and, and_true, Nat.zero_add, Nat.add_zero]); (first | done | omega); done)))
  all_goals (try (show IsX _ _ _; (clear hH; subst hκ; delta kid at *; (try dsimp only at *)); first | exact IsX.bool_ (fits_a (by with_reducible assumption)).symm | exact IsX.bool_ (fits_b (by with_reducible assumption)).symm | exact IsX.bool_ (fits_c (by with_reducible assumption)).symm | exact IsX.bool_ (fits_d (by with_reducible assumption)).symm))
  rename_i h1 h2 h3 A2 c2
  have hf : fitsL l a n = (gapsL l).any (fitG a n) := by subst hκ; exact fits_e h1 h2 h3 h
  clear h1 h2 h3 h
  refine loopP hP' FTok [] mixed [1, 2, 28, 29] (σ := {i : Nat // NoneTo (fitG a n) (gapsL l) i}) (fun q => [(30, .c (.v (.int .i64 (κ _ ((q.1 : Nat) : Int)))))]) (fun _ => [(28, .row A2 c2 42 2 (κ _ (gapsL l).length) (κ _ (encG (gapsL l))))]) (fun q => (gapsL l).length - q.1) ⟨0, fun j hj => absurd hj (Nat.not_lt_zero j)⟩ [28] ?_ (by decide) ?_ hκ ?_
  · cbv
    all_goals (subst hκ; delta kid; repeat' (first | exact rfl | exact trivial | refine And.intro ?_ ?_))
  · cbv
    all_goals (subst hκ; delta kid; repeat' (first | exact rfl | exact trivial | refine And.intro ?_ ?_))
  rintro ⟨i, hi⟩
  cbv
  refine tst_mk (fun h => ?_) (fun h => ?_)
  · have hx : i < (gapsL l).length := by subst hκ; delta kid at h; have h2 : (i : Int) < ((gapsL l).length : Int) := of_decide_eq_true h; omega
    have hgl := gapsL_len hside
    cbv
    repeat' (first | refine And.intro ?_ ?_ | (intro _; cbv) | (refine tst_mk (fun h => ?_) (fun h => ?_) <;> cbv) | (refine LookX.nil ?_; cbv) | (refine LookX.auto hκ ?_; cbv) | (refine LookN.mk' (x := [.v (.int .i64 (κ _ (nthG (gapsL l) i).s)), .v (.int .i64 (κ _ (nthG (gapsL l) i).e))]) (by subst hκ; delta kid at *; exact g_take hx) ?_; cbv))
    all_goals (try (show Side _; refine ⟨?_⟩; subst hκ; delta kid at *; first | exact rfl | exact trivial | exact ⟨rfl, rfl, .inl rfl⟩ | ((try dsimp only at *); (try simp only [setTo_len, noS_len, List.length_append, List.length_cons, List.length_nil, List.length_map, and_self, true_or, or_true, eq_self, true_and, and_true, Nat.zero_add, Nat.add_zero]); (first | done | omega); done)))
    all_goals (clear hH; subst hκ; delta kid at *; (try dsimp only at *))
    all_goals (try (exact ⟨g_ix hx⟩))
    · exact IsX.bool_ (hf.trans (any_here hx (fitG_y (by with_reducible assumption) (by with_reducible assumption)))).symm
    · refine ⟨⟨⟨i + 1, none_next hi (fitG_n2 (by with_reducible assumption))⟩, [28], (by show (gapsL l).length - (i + 1) < (gapsL l).length - i; omega), by decide, ?_, ?_⟩⟩
      all_goals repeat' (first | exact rfl | exact trivial | refine And.intro ?_ ?_ | exact congrArg (Value.int .i64) (nat_succ (by omega)) | exact congrArg (Value.int .i64) (large_next hx))
    · refine ⟨⟨⟨i + 1, none_next hi (fitG_n1 (by with_reducible assumption))⟩, [28], (by show (gapsL l).length - (i + 1) < (gapsL l).length - i; omega), by decide, ?_, ?_⟩⟩
      all_goals repeat' (first | exact rfl | exact trivial | refine And.intro ?_ ?_ | exact congrArg (Value.int .i64) (nat_succ (by omega)) | exact congrArg (Value.int .i64) (large_next hx))
  · have hx : ¬ i < (gapsL l).length := by subst hκ; delta kid at h; have h2 : ¬ (i : Int) < ((gapsL l).length : Int) := of_decide_eq_false h; omega
    cbv
    (clear hH; subst hκ; delta kid at *; (try dsimp only at *))
    exact IsX.bool_ (hf.trans (any_none hx hi)).symm
def e_fits {κ : Kp} (hκ : κ = kid) : ESpec Try.prog := fnES [.list, .flat, .flat] b_fits F_fits hκ fun avs p r hF hp => by
  unfold F_fits at hF
  split at hF
  case h_2 => cases hF
  rename_i l xl a n
  simp only [kid, Option.some.injEq, Prod.mk.injEq] at hF
  obtain ⟨rfl, rfl⟩ := hF
  refine ⟨trivial, fun vs w hR => ?_⟩
  obtain ⟨il, Al, cl, vs0, rfl, rfl, hl, hR⟩ := hR
  obtain ⟨vs1, rfl, hR⟩ := hR
  obtain ⟨vs2, rfl, hR⟩ := hR
  have hR' : vs2 = [] := hR
  subst hR'
  exact k_fits l a n Al cl hp w hl
theorem b_rfree : Bodied Try.prog 101 := bodied Try.func101 rfl (by decide)
def F_rfree : FunX := fun κ avs => match avs with
  | [.spc s, .val (.c (.v (.int .i64 p))), .val (.c (.v (.int .i64 n)))] => some (κ _ (p ≤ 9223372036854775000), (.val (.c (.v (.bool (κ _ (freeS s p n)))))))
  | _ => none
set_option maxRecDepth 100000 in
set_option maxHeartbeats 4000000 in
theorem k_rfree (s : List Pg) (p : Int) (n : Int) (hside : p ≤ 9223372036854775000) (ns : s.length = 512) (w : World) :
    Calls Try.prog 101 #[(SV.agg (encS s)).den, (SV.c (.v (.int .i64 p))).den, (SV.c (.v (.int .i64 n))).den] w fun e w' => ∃ v H', e = .returned v.den ∧ IsX (.val (.c (.v (.bool (freeS s p n))))) v H' ∧ HSat w (fun _ => False) H' w' := by
  obtain ⟨κ, hκ⟩ : ∃ κ : Kp, κ = kid := ⟨_, rfl⟩
  have hH : HSat w (fun _ => False) (heapOf [(nilId, .rd none 1 0 [])]) w := by
    subst hκ
    refine HSat.reads fun p hp => ?_
    simp only [List.mem_cons, List.not_mem_nil, or_false] at hp
    rcases hp with rfl
    · exact ⟨_, _, _, _, rfl, nil_holds w⟩
  refine (callsP (n := 36) FTok [] mixed [] Try.func101 rfl (by kernel_rfl) #[(SV.agg (encS s)).den, (SV.c (.v (.int .i64 p))).den, (SV.c (.v (.int .i64 n))).den] [(0, .agg (κ _ (encS s))), (1, .c (.v (.int .i64 p))), (2, .c (.v (.int .i64 n)))] _ w rfl [.tmp 6] rfl (by simp) (by subst hκ; simp [SV.den, C.den, kid]) hH (fun v H' => IsX (.val (.c (.v (.bool (κ _ (freeS s p n)))))) v H') hκ ?_).mono ?_
  rotate_left
  · subst hκ; intro e w' h; exact h
  intro P' hP'
  cbv
  repeat' (first | refine And.intro ?_ ?_ | (intro _; cbv) | (refine tst_mk (fun h => ?_) (fun h => ?_) <;> cbv) | (refine LookX.nil ?_; cbv) | (refine LookX.auto hκ ?_; cbv))
  all_goals (try (show _ = true; subst hκ; delta kid; (have ho := encS_ok (s); generalize encS (s) = xs at ho ⊢; cases xs <;> exact ho)))
  all_goals (try (show Side _; refine ⟨?_⟩; subst hκ; delta kid at *; first | exact rfl | exact trivial | exact ⟨rfl, rfl, .inl rfl⟩ | ((try dsimp only at *); (try simp only [setTo_len, noS_len, List.length_append, List.length_cons, List.length_nil, List.length_map, and_self, true_or, or_true, eq_self, true_and, and_true, Nat.zero_add, Nat.add_zero]); (first | done | omega); done)))
  all_goals (try (show IsX _ _ _; (clear hH; subst hκ; delta kid at *; (try dsimp only at *)); first | exact IsX.bool_ (free_a (by with_reducible assumption)).symm | exact IsX.bool_ (free_b (by with_reducible assumption)).symm | exact IsX.bool_ (free_c (by with_reducible assumption)).symm | exact IsX.bool_ (free_d' hside (by with_reducible assumption) (by with_reducible assumption) (by with_reducible assumption) (by with_reducible assumption)).symm))
  rename_i b3 h1 h2 h3
  obtain ⟨w0, w1, w2, w3⟩ : IntKind.i64.wrap (p + n) = ((p.toNat + n.toNat : Nat) : Int) ∧ p = (p.toNat : Int) ∧ p.toNat + n.toNat ≤ 512 ∧ freeS s p n = freeK s p.toNat n.toNat := by subst hκ; exact free_e hside h1 h2 h3 h
  clear h1 h2 h3 h
  refine loopP hP' FTok [] mixed [1, 2, 3] (σ := {k : Nat // k ≤ n.toNat ∧ FreeTo s p.toNat k}) (fun q => [(7, .c (.v (.int .i64 (κ _ ((p.toNat + q.1 : Nat) : Int)))))]) (fun q => [(3, .blk b3 37 (κ _ (encS s)))]) (fun q => n.toNat - q.1) ⟨0, Nat.zero_le _, fun j h1 h2 => absurd h1 (by omega)⟩ [3] ?_ (by decide) ?_ hκ ?_
  · cbv
    all_goals (subst hκ; delta kid; repeat' (first | exact rfl | exact trivial | refine And.intro ?_ ?_ | exact congrArg (Value.int .i64) w1))
  · cbv
    all_goals (subst hκ; delta kid; repeat' (first | exact rfl | exact trivial | refine And.intro ?_ ?_))
  rintro ⟨k, hk, hf⟩
  cbv
  refine tst_mk (fun h => ?_) (fun h => ?_)
  · have hx : k < n.toNat := by subst hκ; delta kid at h; rw [w0] at h; have h2 : ((p.toNat + k : Nat) : Int) < ((p.toNat + n.toNat : Nat) : Int) := of_decide_eq_true h; omega
    have hm : p.toNat + k < 512 := by omega
    cbv
    repeat' (first | refine And.intro ?_ ?_ | (intro _; cbv) | (refine tst_mk (fun h => ?_) (fun h => ?_) <;> cbv) | (refine LookX.nil ?_; cbv) | (refine LookX.auto hκ ?_; cbv) | (refine LookR.mk' (x := .v (.bool (κ _ (nthP s (p.toNat + k)).is))) (by subst hκ; delta kid at *; exact page_is' ns hm) ?_; cbv))
    all_goals (try (show Side _; refine ⟨?_⟩; subst hκ; delta kid at *; first | exact rfl | exact trivial | exact ⟨rfl, rfl, .inl rfl⟩ | ((try dsimp only at *); (try simp only [setTo_len, noS_len, List.length_append, List.length_cons, List.length_nil, List.length_map, and_self, true_or, or_true, eq_self, true_and, and_true, Nat.zero_add, Nat.add_zero]); (first | done | omega); done)))
    all_goals (clear hH; subst hκ; delta kid at *; (try dsimp only at *))
    all_goals (try (exact ⟨page_ix hm⟩))
    · exact IsX.bool_ (w3.trans (free_here hx (by with_reducible assumption))).symm
    · refine ⟨⟨⟨k + 1, (by omega), freeTo_next hf (by with_reducible assumption)⟩, [3], (by show n.toNat - (k + 1) < n.toNat - k; omega), by decide, ?_, ?_⟩⟩
      all_goals repeat' (first | exact rfl | exact trivial | refine And.intro ?_ ?_ | exact congrArg (Value.int .i64) (nat_succ (by omega)))
  · have hx : ¬ k < n.toNat := by subst hκ; delta kid at h; rw [w0] at h; have h2 : ¬ ((p.toNat + k : Nat) : Int) < ((p.toNat + n.toNat : Nat) : Int) := of_decide_eq_false h; omega
    cbv
    (clear hH; subst hκ; delta kid at *; (try dsimp only at *))
    obtain rfl : k = n.toNat := by omega
    exact IsX.bool_ (w3.trans (free_all hf)).symm
def e_rfree {κ : Kp} (hκ : κ = kid) : ESpec Try.prog := fnES [.space, .flat, .flat] b_rfree F_rfree hκ fun avs p r hF hp => by
  unfold F_rfree at hF
  split at hF
  case h_2 => cases hF
  rename_i s p n
  simp only [kid, Option.some.injEq, Prod.mk.injEq] at hF
  obtain ⟨rfl, rfl⟩ := hF
  refine ⟨trivial, fun vs w hR => ?_⟩
  obtain ⟨vs0, rfl, ns, hR⟩ := hR
  obtain ⟨vs1, rfl, hR⟩ := hR
  obtain ⟨vs2, rfl, hR⟩ := hR
  have hR' : vs2 = [] := hR
  subst hR'
  exact k_rfree s p n hp ns w
theorem b_rchoose : Bodied Try.prog 56 := bodied Try.func56 rfl (by decide)
def F_rchoose : FunX := fun κ avs => match avs with
  | [.lst l xl, .val (.c (.v (.int .i64 lo))), .val (.c (.v (.int .i64 hi))), .val (.c (.v (.int .i64 n))), .val (.c (.v (.bool gr)))] => some (κ _ (Rt l ∧ l.length ≤ 300000 ∧ In64 n), (.val (.c (.v (.int .i64 (κ _ (chooseL l lo hi n gr)))))))
  | _ => none
set_option maxRecDepth 100000 in
set_option maxHeartbeats 4000000 in
theorem k_rchoose (l : List Ar) (lo : Int) (hi : Int) (n : Int) (gr : Bool) (Al : Option Addr) (cl : Nat) (hside : Rt l ∧ l.length ≤ 300000 ∧ In64 n) (w : World) (hl : (Ent.rd Al 6 l.length (encL l)).holds w) :
    Calls Try.prog 56 #[.slice Al l.length cl, (SV.c (.v (.int .i64 lo))).den, (SV.c (.v (.int .i64 hi))).den, (SV.c (.v (.int .i64 n))).den, (SV.c (.v (.bool gr))).den] w fun e w' => ∃ v H', e = .returned v.den ∧ IsX (.val (.c (.v (.int .i64 (chooseL l lo hi n gr))))) v H' ∧ HSat w (fun _ => False) H' w' := by
  obtain ⟨κ, hκ⟩ : ∃ κ : Kp, κ = kid := ⟨_, rfl⟩
  have hH : HSat w (fun _ => False) (heapOf [(nilId, .rd none 1 0 []), (200000, .rd Al 6 (κ _ l.length) (κ _ (encL l)))]) w := by
    subst hκ
    refine HSat.reads fun p hp => ?_
    simp only [List.mem_cons, List.not_mem_nil, or_false] at hp
    rcases hp with rfl | rfl
    · exact ⟨_, _, _, _, rfl, nil_holds w⟩
    · exact ⟨_, _, _, _, rfl, hl⟩
  refine (callsP (n := 61) FTok [e_of hκ, e_rfree hκ] mixed [] Try.func56 rfl (by kernel_rfl) #[.slice Al l.length cl, (SV.c (.v (.int .i64 lo))).den, (SV.c (.v (.int .i64 hi))).den, (SV.c (.v (.int .i64 n))).den, (SV.c (.v (.bool gr))).den] [(0, .c (.sl 200000 Al (κ _ l.length) cl)), (1, .c (.v (.int .i64 lo))), (2, .c (.v (.int .i64 hi))), (3, .c (.v (.int .i64 n))), (4, .c (.v (.bool gr)))] _ w rfl [.tmp 10] rfl (by simp) (by subst hκ; simp [SV.den, C.den, kid]) hH (fun v H' => IsX (.val (.c (.v (.int .i64 (κ _ (chooseL l lo hi n gr)))))) v H') hκ ?_).mono ?_
  rotate_left
  · subst hκ; intro e w' h; exact h
  intro P' hP'
  cbv
  repeat' (first | refine And.intro ?_ ?_ | (intro _; cbv) | (refine tst_mk (fun h => ?_) (fun h => ?_) <;> cbv) | (refine LookX.nil ?_; cbv) | (refine LookX.auto hκ ?_; cbv))
  all_goals (try (show Side _; refine ⟨?_⟩; subst hκ; delta kid at *; first | exact rfl | exact trivial | exact ⟨rfl, rfl, .inl rfl⟩ | exact ⟨hside.1.1, by omega⟩ | exact ofL_len l | ((try dsimp only at *); (try simp only [setTo_len, noS_len, List.length_append, List.length_cons, List.length_nil, List.length_map, and_self, true_or, or_true, eq_self, true_and, and_true, Nat.zero_add, Nat.add_zero]); (first | done | omega); done)))
  all_goals (try (show _ = true; subst hκ; delta kid; (have ho := encS_ok (ofL l); generalize encS (ofL l) = xs at ho ⊢; cases xs <;> exact ho)))
  all_goals (try (show 2560 = _; subst hκ; delta kid; (have ho := encS_len2 (s := ofL l) (ofL_len l); generalize encS (ofL l) = xs at ho ⊢; cases xs <;> exact ho.symm)))
  all_goals (try (show Side _; subst hκ; delta kid; refine ⟨?_⟩; rw [encS_noS, encS_len, encS_len, ofL_len l, noS_len]; omega))
  all_goals (try (show IsX _ _ _; (clear hH; subst hκ; delta kid at *; (try dsimp only at *)); first | exact IsX.int_ (ch_bad hside.2.2 (.inl (by with_reducible assumption))).symm | exact IsX.int_ (ch_bad hside.2.2 (.inr (.inl (by with_reducible assumption)))).symm | exact IsX.int_ (ch_bad hside.2.2 (.inr (.inr (by with_reducible assumption)))).symm))
  rename_i b11 h1 h2
  have g1 : decide (n < 1) = false := by subst hκ; exact h1
  have g2 : decide (2031616 < n) = false := by subst hκ; exact h2
  have g3 : (Int.tmod n 4096 != 0) = false := by subst hκ; exact h
  clear h1 h2 h
  refine loopP hP' FTok [e_rfree hκ] mixed [1, 2, 3, 4, 11] (σ := {k : Nat // k ≤ 496}) (fun q => [(12, .c (.v (.int .i64 (κ _ (chF l lo hi n gr q.1))))), (13, .c (.v (.int .i64 (κ _ ((16 + q.1 : Nat) : Int)))))]) (fun q => [(11, .blk b11 37 (κ _ (encS (ofL l))))]) (fun q => 496 - q.1) ⟨0, Nat.zero_le _⟩ [11] ?_ (by decide) ?_ hκ ?_
  · cbv
    all_goals (subst hκ; delta kid; repeat' (first | exact rfl | exact trivial | refine And.intro ?_ ?_))
  · cbv
    all_goals (subst hκ; delta kid; repeat' (first | exact rfl | exact trivial | refine And.intro ?_ ?_ | (rw [zero_put (ofL_len l)])))
  rintro ⟨k, hk⟩
  cbv
  refine tst_mk (fun h => ?_) (fun h => ?_)
  · have hx : k < 496 := by subst hκ; delta kid at h; have h2 : ((16 + k : Nat) : Int) < 512 := of_decide_eq_true h; omega
    cbv
    repeat' (first | refine And.intro ?_ ?_ | (intro _; cbv) | (refine tst_mk (fun h => ?_) (fun h => ?_) <;> cbv) | (refine LookX.nil ?_; cbv) | (refine LookX.auto hκ ?_; cbv) | (refine LookN.mk' (x := κ _ (encS (ofL l))) (by subst hκ; delta kid at *; exact whole_take (ofL_len l)) ?_; cbv))
    all_goals (try (show Side _; refine ⟨?_⟩; subst hκ; delta kid at *; first | exact rfl | exact trivial | exact ⟨rfl, rfl, .inl rfl⟩ | exact ⟨hside.1.1, by omega⟩ | exact ofL_len l | ((try dsimp only at *); (try simp only [setTo_len, noS_len, List.length_append, List.length_cons, List.length_nil, List.length_map, and_self, true_or, or_true, eq_self, true_and, and_true, Nat.zero_add, Nat.add_zero]); (first | done | omega); done)))
    all_goals (clear hH; subst hκ; delta kid at *; (try dsimp only at *))
    all_goals (try (refine ⟨?_⟩; show ((16 + k : Nat) : Int) ≤ 9223372036854775000; omega; done))
    all_goals (refine ⟨⟨⟨k + 1, (by omega)⟩, [11], (by show 496 - (k + 1) < 496 - k; omega), by decide, ?_, ?_⟩⟩)
    all_goals repeat' (first | exact rfl | exact trivial | refine And.intro ?_ ?_ | exact congrArg (Value.int .i64) (nat_succ (by omega)) | exact congrArg (Value.int .i64) (ch_yes hx g1 g2 (by with_reducible assumption) (by with_reducible assumption) (by with_reducible assumption) (.inl (by with_reducible assumption))) | exact congrArg (Value.int .i64) (ch_yes hx g1 g2 (by with_reducible assumption) (by with_reducible assumption) (by with_reducible assumption) (.inr (by with_reducible assumption))) | exact congrArg (Value.int .i64) (ch_n1 hx (by with_reducible assumption)) | exact congrArg (Value.int .i64) (ch_n2 hx g1 g2 (by with_reducible assumption)) | exact congrArg (Value.int .i64) (ch_n3 hx g1 g2 (by with_reducible assumption)) | exact congrArg (Value.int .i64) (ch_n4 (by with_reducible assumption) (by with_reducible assumption)))
  · have hx : k = 496 := by subst hκ; delta kid at h; have h2 : ¬ ((16 + k : Nat) : Int) < 512 := of_decide_eq_false h; omega
    subst hx
    cbv
    (clear hH; subst hκ; delta kid at *; (try dsimp only at *))
    exact IsX.int_ (ch_end hside.1 hside.2.2 g1 g2 g3)
def e_rchoose {κ : Kp} (hκ : κ = kid) : ESpec Try.prog := fnES [.list, .flat, .flat, .flat, .flat] b_rchoose F_rchoose hκ fun avs p r hF hp => by
  unfold F_rchoose at hF
  split at hF
  case h_2 => cases hF
  rename_i l xl lo hi n gr
  simp only [kid, Option.some.injEq, Prod.mk.injEq] at hF
  obtain ⟨rfl, rfl⟩ := hF
  refine ⟨trivial, fun vs w hR => ?_⟩
  obtain ⟨il, Al, cl, vs0, rfl, rfl, hl, hR⟩ := hR
  obtain ⟨vs1, rfl, hR⟩ := hR
  obtain ⟨vs2, rfl, hR⟩ := hR
  obtain ⟨vs3, rfl, hR⟩ := hR
  obtain ⟨vs4, rfl, hR⟩ := hR
  have hR' : vs4 = [] := hR
  subst hR'
  exact k_rchoose l lo hi n gr Al cl hp w hl
end Go.Proofs.Ytbcicjmepojlnaa.Eng
/- The longest gap; no condition but those typed. -/
namespace Go.Proofs.Ytbcicjmepojlnaa.Eng
open Go Go.RowKit
set_option autoImplicit false
set_option linter.unusedSimpArgs false
set_option linter.unusedVariables false
end Go.Proofs.Ytbcicjmepojlnaa.Eng
