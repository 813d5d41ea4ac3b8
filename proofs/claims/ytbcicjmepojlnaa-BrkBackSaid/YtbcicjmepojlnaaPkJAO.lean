/- Texts of this work, laid together: symbolic execution over the model, contracts of the program's functions, what they come to; conditions: as each says. -/
import Derived.Test.YtbcicjmepojlnaaPkJAJ
import Derived.Test.YtbcicjmepojlnaaPkJAL
import Derived.Test.YtbcicjmepojlnaaPkJAN
/- A range over gap.each, met round by round; condition: at most a million areas. -/
namespace Go.Proofs.Ytbcicjmepojlnaa.Eng
open Go Go.RowKit
set_option autoImplicit false
set_option linter.unusedSimpArgs false
set_option linter.unusedVariables false
structure RNext {σ : Type} (I : List Gp → σ → Prop) (E : List Gp → σ → List (Nat × Ent)) (xs : List Gp) (H : Heap) : Prop where
  h : ∃ s ρ, I xs s ∧ ρ.Nodup ∧ FitsG H ρ (E xs s)
def RoundQ {σ τ : Type} (I : List Gp → σ → Prop) (E : List Gp → σ → List (Nat × Ent)) (IR : List Gp → τ → Prop) (ER : List Gp → τ → List (Nat × Ent)) (xs : List Gp) : QT
  | .normal, _, H => RNext I E xs H
  | .ret, _, H => RNext IR ER xs H
  | .exit _, _, _ => False
def onlyN (K : Env → Heap → Prop) : QT
  | .normal, env, H => K env H
  | .ret, _, _ => False
  | .exit _, _, _ => False
theorem rangeM_each {P' : Program} (hP : P' = Try.prog) {n : Nat} {F : TT} (hF : TTok Try.prog F) (l : List (ESpec Try.prog)) (hm : Try.prog.follows .mixedOrders = true) {tabs : Tabs} {t pT : Nat} {ca b : Code} {Q : QT} {env : Env} {H : Heap} {id Bs tb lid cap : Nat} {A : Option Addr} {zs : List Ar}
    (hf : env t = .c (.fn 143 id Bs 0)) (hB : H id = some (.blk Bs tb [.sl lid A zs.length cap])) (hlen : zs.length ≤ 1000000) (hpT : pT < n) {σ τ : Type} (I : List Gp → σ → Prop) (IR : List Gp → τ → Prop) (E : List Gp → σ → List (Nat × Ent)) (ER : List Gp → τ → List (Nat × Ent)) (s0 : σ) (hI0 : I [] s0) (ρ0 : List Nat)
    (hn : ρ0.Nodup) (h1 : FitsG H ρ0 (E [] s0)) (hEl : ∀ pre s, heapOf (E pre s) lid = some (.rd A 6 zs.length (encL zs))) (ks : List Nat) (L : List (Nat × SV)) (h0 : FitsE env (keepE env ks L)) {κ : Kp} (hκ : κ = kid)
    (round : ∀ pre x s, I pre s → (pre ++ [x]) <+: gapsE zs → vcE κ P' F (lookT l) (lookE l) n tabs ca (onlyN fun env1 H1 => vcE κ P' F (lookT l) (lookE l) n tabs b (RoundQ I E IR ER (κ _ (pre ++ [x]))) env1 H1) (upd (envOf (keepE env ks L)) pT (.agg [.v (.int .i64 (κ _ x.s)), .v (.int .i64 (κ _ x.e))])) (heapOf (E pre s)))
    (done : ∀ s, I (gapsE zs) s → Q .normal (envOf (keepE env ks L)) (heapOf (E (gapsE zs) s))) (stop : ∀ pre r, IR pre r → pre <+: gapsE zs → Q .ret (envOf (keepE env ks L)) (heapOf (ER pre r))) :
    RangeM P' n tabs (.tmp t) #[pT] ca b Q env H := by
  subst hκ hP
  refine ⟨fun hsa hsb w0 a w hE hH => wpIn_rangeFunc ?_⟩
  intro fn hfn
  have hEk := hE.fits h0
  have hI0' : HSat w0 (fun _ => False) (heapOf (E [] s0)) w := hH.fitsG hn h1
  have hev : a.eval (.tmp t) = .func (.func 143) #[] #[.pointer (some ⟨Bs, 0, none⟩)] := eval_c (c := .fn 143 id Bs 0) hE hf (by simp)
  have hbx : w.heap[Bs]? = some (.cells #[.slice A zs.length cap] tb (0, 0)) := hH.holds id _ hB
  have hw0 := hH.fr.size
  have hdf : a.defers = [] := hE.defers
  rw [show (fen none).round = none from rfl]
  obtain ⟨rec, hrec⟩ : ∃ rec : LoopState → Option Code → Loop, rec = fun st pe => { state := st, pending := pe, fn, tmps := a.tmps, params := #[pT], assign := ca, body := b, defers := w.heap.size } := ⟨_, rfl⟩
  obtain ⟨W1, hW1⟩ : ∃ W1, (w.alloc (.deferred (some []))).alloc (.loop (rec .ready none)) = W1 := ⟨_, rfl⟩
  have hL1 : W1.heap[w.heap.size + 1]? = some (.loop (rec .ready none)) := by
    rw [← hW1]; have := World.alloc_heap_new (w.alloc (.deferred (some []))) (.loop (rec .ready none)); rwa [World.size_alloc] at this
  have hK1 : W1.heap[w.heap.size]? = some (.deferred (some [])) := by
    rw [← hW1]; exact (Below.heap_alloc _ _ _ (by simp)).trans (World.alloc_heap_new w _)
  have hI1 : HSat w0 (fun _ => False) (heapOf (E [] s0)) W1 := by rw [← hW1]; exact (hI0'.alloc_ _).alloc_ _
  have hbx1 : W1.heap[Bs]? = w.heap[Bs]? := by
    have hlt : Bs < w.heap.size := (Array.getElem?_eq_some_iff.1 hbx).1
    rw [← hW1]; exact (Below.heap_alloc _ _ _ (by simp; omega)).trans (Below.heap_alloc _ _ _ hlt)
  have hcell : W1.cell? ⟨Bs, 0, none⟩ = some (.slice A zs.length cap) := by
    unfold World.cell?
    simp only
    rw [hbx1, hbx]
    rfl
  have hsz1 : W1.heap.size = w.heap.size + 2 := by rw [← hW1]; simp
  refine ⟨w.heap.size + 1, [{ target := .collected w.heap.size, args := #[] }], W1, { target := .fn (.func 143) #[.pointer (some ⟨Bs, 0, none⟩)], args := #[.func (.yield (w.heap.size + 1)) #[] #[]] }, W1, 143,
    #[.func (.yield (w.heap.size + 1)) #[] #[], .pointer (some ⟨Bs, 0, none⟩)], W1, ?_, ?_, ?_, ?_, fun h => (by cases h), ?_⟩
  · rw [← hW1, hrec]; exact run_enterLoop_outer _ _ _ _ _
  · simp only [resolve, hev]
    simp [go_sem]
  · intro f' hf'; trivial
  · simp only [invoke]
    exact callFunc_run 143 Try.f143 _ Try.func143 rfl (by decide) _ W1
  · have hnc : ∀ {X : World} {row : Option Nat}, (∀ r, row = some r → W1.heap.size ≤ r ∧ ∃ o : Obj, X.heap[r]? = some o ∧ o.isWalk = true) → ∀ r, row = some r → W1.heap.size ≤ r ∧ ∃ o : Obj, X.heap[r]? = some o ∧ o.isCells = false :=
      fun hr r e => by obtain ⟨h1, o, h2, h3⟩ := hr r e; exact ⟨h1, o, h2, Obj.not_cells_of_walk h3⟩
    refine (each_in (fen none) 2 trivial rfl (by decide) (w.heap.size + 1) Bs cap A zs hlen
      (fun pre W => (∃ s, I pre s ∧ HSat w0 (fun _ => False) (heapOf (E pre s)) W) ∧ W.heap[w.heap.size + 1]? = some (.loop (rec .ready none)) ∧ W.heap[w.heap.size]? = some (.deferred (some [])))
      (fun pre W => (∃ r, IR pre r ∧ HSat w0 (fun _ => False) (heapOf (ER pre r)) W) ∧ W.heap[w.heap.size + 1]? = some (.loop (rec .done (some .ret))) ∧ W.heap[w.heap.size]? = some (.deferred (some [])))
      ?_ W1 hcell (hI1.holds lid _ (hEl [] s0)) (fun pre X Y row hs hg hr => ?_) ⟨⟨s0, hI0, hI1⟩, hL1, hK1⟩).mono ?_
    rotate_left
    · obtain ⟨⟨s, hv, hi⟩, hl, hk⟩ := hs
      exact ⟨⟨s, hv, hi.turn hg (hnc hr) (by omega)⟩, (grownBy_keeps hg (fun r e => (hr r e).2) hl rfl).trans hl, (grownBy_keeps hg (fun r e => (hr r e).2) hk rfl).trans hk⟩
    · -- behind the iterator
      have hEd : ∀ ds, EnvOk n (envOf (keepE env ks L)) (setD { a with defers := ds } []) := fun ds => ⟨hEk.size, hEk.slot, rfl⟩
      rintro e W2 ⟨⟨v, rfl⟩, (⟨⟨s, hv, hi⟩, hl, hk⟩ | ⟨pre, hpre, ⟨r, hv, hi⟩, hl, hk⟩)⟩
      · refine ⟨none, _, by have := run_endLoop (P := Try.prog) hl (by rw [hrec]; simp); rw [hrec] at this; exact this, ?_⟩
        exact ⟨⟨_, _, done s hv, hEd _, hi.put_ _ hl rfl (by omega)⟩, .inr ⟨w.heap.size, by show _ ++ a.defers = _; rw [hdf]; rfl, hw0, (World.putObj_heap_other (by omega)).trans hk⟩, fun h => by cases h⟩
      · refine ⟨some .ret, _, by have := run_endLoop (P := Try.prog) hl (by rw [hrec]; simp); rw [hrec] at this; exact this, ?_⟩
        exact wpIn_ret ⟨⟨_, _, stop pre r hv hpre, hEd _, hi.put_ _ hl rfl (by omega)⟩, .inr ⟨w.heap.size, by show _ ++ a.defers = _; rw [hdf]; rfl, hw0, (World.putObj_heap_other (by omega)).trans hk⟩, fun h => by cases h⟩
    · -- one round
      rintro pre x Wa Wb ⟨⟨s, hv, hia⟩, hla, hka⟩ hpre hWb
      have hlta : w.heap.size + 1 < Wa.heap.size := (Array.getElem?_eq_some_iff.1 hla).1
      have hstep : ∀ k, k < Wa.heap.size → Wb.heap[k]? = Wa.heap[k]? := fun k hk => by
        rcases hWb with rfl | ⟨o, rfl⟩
        · rfl
        · exact Below.heap_alloc _ _ _ hk
      have hszb : Wa.heap.size ≤ Wb.heap.size := by
        rcases hWb with rfl | ⟨o, rfl⟩
        · exact Nat.le_refl _
        · simp
      have hi : HSat w0 (fun _ => False) (heapOf (E pre s)) Wb := by
        rcases hWb with rfl | ⟨o, rfl⟩
        · exact hia
        · exact hia.alloc_ o
      have hl := (hstep _ hlta).trans hla
      have hk := (hstep _ (by omega)).trans hka
      have hlt : w.heap.size + 1 < Wb.heap.size := by omega
      have hy := run_yield (P := Try.prog) (args := #[valG x]) hl (by rw [hrec]; rfl)
      rw [hrec] at hy
      refine ⟨fn, _, ca, b, hy, roundIn_of_wpIn hfn ?_⟩
      clear hy
      have hEr : EnvOk n (upd (envOf (keepE env ks L)) pT (.agg [.v (.int .i64 x.s), .v (.int .i64 x.e)])) (a.put (some pT) (valG x)) := hEk.put (some pT) (fun d e => by injection e with e; omega) _ _ (fun _ => rfl)
      have w1 := vcE_in hF l hm (some (w.heap.size + 1)) (2 - 1) [] tabs ca hsa _ _ _ (round pre x s hv hpre) Wb (mutH (heapOf (E pre s))) _ Wb hEr hi.self
      have hact : setD (a.put (some pT) (valG x)) [] = { tmps := (#[pT].zip #[valG x]).foldl (fun tmps (p, v) => tmps.setIfInBounds p v) a.tmps, defers := [] } := by simp [setD, Act.put]
      rw [hact] at w1
      refine wpIn_mono (F := fen (some (w.heap.size + 1))) w1 ?_
      rintro e a1 Wc ⟨hq, hd1⟩
      cases e with
      | normal =>
        obtain ⟨env1, H1, hv1, hE1, hH1⟩ := hq
        have hlc := hi.other hH1 hl rfl
        have hkc := hi.other hH1 hk rfl
        have hi1 := hi.over hH1
        have hszc : Wb.heap.size ≤ Wc.heap.size := hH1.fr.size
        refine ⟨_, run_beginRound hlc (by rw [hrec]), ?_⟩
        obtain ⟨w2, hw2⟩ : ∃ w2, Wc.putObj (w.heap.size + 1) (.loop { rec .ready none with state := .busy }) = w2 := ⟨_, rfl⟩
        rw [hw2]
        have hi2 : HSat w0 (fun _ => False) H1 w2 := by rw [← hw2]; exact hi1.put_ _ hlc rfl (by omega)
        have hl2 : w2.heap[w.heap.size + 1]? = some (.loop { rec .ready none with state := .busy }) := by rw [← hw2]; exact World.putObj_heap_same (by omega)
        have hk2 : w2.heap[w.heap.size]? = some (.deferred (some [])) := by rw [← hw2]; exact (World.putObj_heap_other (by omega)).trans hkc
        have hsz2 : w2.heap.size = Wc.heap.size := by rw [← hw2]; simp
        have w3 := vcE_in hF l hm (some (w.heap.size + 1)) (2 - 1) [] tabs b hsb _ _ _ hv1 w2 (mutH H1) (setD a1 []) w2 hE1 hi2.self
        rw [show setD (setD a1 []) [] = a1 from setD_self (a := a1) hd1] at w3
        refine wpIn_mono (F := fen (some (w.heap.size + 1))) w3 ?_
        rintro e3 a3 W3 ⟨hq3, hd3⟩
        -- what neither part has turned
        have keep : ∀ (H3 : Heap), HSat w2 (mutH H1) H3 W3 → ∀ (o' : Obj) (k : Nat), k < Wb.heap.size → ¬ mutH (heapOf (E pre s)) k → k ≠ w.heap.size + 1 → (W3.putObj (w.heap.size + 1) o').heap[k]? = Wb.heap[k]? := fun H3 hH3 o' k hk' hnm hne => by
          rw [World.putObj_heap_other hne, hH3.fr.block k (by omega) (fun hmm => by
            obtain ⟨i, e, hi', hme, hbe⟩ := hmm
            rcases hH1.own i e hi' hme k hbe with h3 | h3
            · omega
            · exact hnm h3), ← hw2, World.putObj_heap_other hne]
          exact hH1.fr.block k hk' hnm
        cases e3 with
        | normal =>
          obtain ⟨env3, H3, ⟨⟨s', ρ, hv3, hρ, hf3⟩⟩, hE3, hH3⟩ := hq3
          have hl3 := hi2.other hH3 hl2 rfl
          have hk3 := hi2.other hH3 hk2 rfl
          have hi3 := (hi2.over hH3).fitsG hρ hf3
          have hend := run_endRound (P := Try.prog) none hl3
          have hszw : w2.heap.size ≤ W3.heap.size := hH3.fr.size
          have hlr : (W3.putObj (w.heap.size + 1) (.loop (rec .ready none))).heap[w.heap.size + 1]? = some (.loop (rec .ready none)) := World.putObj_heap_same (by omega)
          refine ⟨_, _, hend, .inl ⟨rfl, ⟨⟨s', hv3, hi3.put_ _ hl3 rfl (by omega)⟩, ?_, (World.putObj_heap_other (by omega)).trans hk3⟩, by simp; omega, fun g hg => ?_, fun o ho => ?_⟩⟩
          · rw [hrec] at hlr ⊢
            exact hlr
          · have hrd := hEl pre s
            refine keep H3 hH3 _ g (hi.lt lid _ hrd g hg) (fun ⟨i, e, hi', hme, hbe⟩ => ?_) (fun e => ?_)
            · refine hi.sep i lid e _ (fun e' => ?_) hi' hrd hme g hbe hg
              subst e'
              rw [hrd] at hi'
              injection hi' with hi'
              subst hi'
              cases hme
            · obtain ⟨cs, t', x', hc⟩ := ent_cells (hi.holds lid _ hrd) hg
              rw [e, hl] at hc
              injection hc with hc
              cases hc
          · refine (keep H3 hH3 _ Wa.heap.size (by rw [ho]; simp) (fun hmm => ?_) (by omega)).trans (by rw [ho]; exact World.alloc_heap_new Wa o)
            have := mut_lt hia hmm
            omega
        | ret =>
          obtain ⟨env3, H3, ⟨⟨r, ρ, hv3, hρ, hf3⟩⟩, hE3, hH3⟩ := hq3
          have hl3 := hi2.other hH3 hl2 rfl
          have hk3 := hi2.other hH3 hk2 rfl
          have hi3 := (hi2.over hH3).fitsG hρ hf3
          have hend := run_endRound (P := Try.prog) (some .ret) hl3
          have hszw : w2.heap.size ≤ W3.heap.size := hH3.fr.size
          have hlr : (W3.putObj (w.heap.size + 1) (.loop (rec .done (some .ret)))).heap[w.heap.size + 1]? = some (.loop (rec .done (some .ret))) := World.putObj_heap_same (by omega)
          refine ⟨_, _, hend, .inr ⟨rfl, ⟨r, hv3, hi3.put_ _ hl3 rfl (by omega)⟩, ?_, (World.putObj_heap_other (by omega)).trans hk3⟩⟩
          rw [hrec] at hlr ⊢
          exact hlr
        | exit id' => obtain ⟨_, _, hf', _⟩ := hq3; exact hf'.elim
        | goto _ => exact hq3.elim
        | panic _ => exact hq3.elim
        | outgrown => exact hq3.elim
      | ret => obtain ⟨_, _, hf', _⟩ := hq; exact hf'.elim
      | exit id' => obtain ⟨_, _, hf', _⟩ := hq; exact hf'.elim
      | goto _ => exact hq.elim
      | panic _ => exact hq.elim
      | outgrown => exact hq.elim
end Go.Proofs.Ytbcicjmepojlnaa.Eng
/- Gaps, in plain words; gap.each's contract; no condition but those typed. -/
namespace Go.Proofs.Ytbcicjmepojlnaa.Eng
open Go Go.RowKit
set_option autoImplicit false
set_option linter.unusedSimpArgs false
set_option linter.unusedVariables false
def encGp (g : Gp) : List C := [.v (.int .i64 g.s), .v (.int .i64 g.e)]
def encG (l : List Gp) : List C := l.flatMap encGp
theorem encGp_len (g : Gp) : (encGp g).length = 2 := rfl
theorem encG_app (l k : List Gp) : encG (l ++ k) = encG l ++ encG k := List.flatMap_append
def noGp : Gp := ⟨0, 0⟩
def nthG (l : List Gp) (i : Nat) : Gp := l.getD i noGp
theorem nthG_get {l : List Gp} {i : Nat} (h : i < l.length) : l[i]? = some (nthG l i) := by
  unfold nthG
  rw [List.getD_eq_getElem?_getD, List.getElem?_eq_getElem h]
  rfl
def gapsL (l : List Ar) : List Gp := if rightL l = true then gapsE l else []
def sizeG (n : Int) : Bool := decide (n ≥ 1) && whole n && decide (n ≤ 2031616)
def upG (n : Int) : Int := w64 (w64 (Int.tdiv (w64 (w64 (n + 4096) - 1)) 4096) * 4096)
def downG (n : Int) : Int := w64 (w64 (Int.tdiv n 4096) * 4096)
def clampG (n : Int) : Int := minI (maxI n 65536) 2097152
def inG (g : Gp) (lo hi : Int) : Gp := ⟨maxI g.s (upG (clampG lo)), minI g.e (downG (clampG hi))⟩
def roomG (lo hi n : Int) (g : Gp) : Bool := decide (w64 ((inG g lo hi).e - (inG g lo hi).s) ≥ n)
def lowN (l : List Ar) (lo hi n : Int) : Int × Bool := if (!sizeG n || !rightL l) = true then (0, false) else match (gapsE l).find? (roomG lo hi n) with
  | some g => ((inG g lo hi).s, true)
  | none => (0, false)
def highN (l : List Ar) (lo hi n : Int) : Int × Bool := if (!sizeG n || !rightL l) = true then (0, false) else (gapsE l).foldl (fun r g => if roomG lo hi n g = true then (w64 ((inG g lo hi).e - n), true) else r) (0, false)
def fitsL (l : List Ar) (a n : Int) : Bool := if (!sizeG n || Int.tmod a 4096 != 0 || decide (a < 65536) || decide (a > w64 (2097152 - n))) = true then false else (gapsL l).any fun g => decide (a ≥ g.s) && decide (w64 (a + n) ≤ g.e)
theorem snoc_len {α : Type} (l : List α) (x : α) : l.length + 1 = (l ++ [x]).length := by rw [List.length_append]; rfl
theorem encG_snoc (l : List Gp) (x : Gp) : encG l ++ [.v (.int .i64 x.s), .v (.int .i64 x.e)] = encG (l ++ [x]) := by rw [encG_app]; rfl
theorem pre_len {l : List Ar} {pre : List Gp} {x : Gp} (h : (pre ++ [x]) <+: gapsE l) : pre.length + 1 ≤ l.length + 1 := by
  have h1 := h.length_le
  have h2 := gapsE_len l
  rw [List.length_append] at h1
  simp at h1
  omega
theorem gaps_no {l : List Ar} (h : rightL l = false) : gapsL l = [] := by
  unfold gapsL
  rw [h]
  rfl
theorem gaps_yes {l : List Ar} (h : rightL l = true) : gapsL l = gapsE l := if_pos h
theorem IsX.rowG {mk : C → SV} {r r' : List Gp} {i c2 : Nat} {A2 : Option Addr} {v : SV} {H' : Heap} (h : r' = r) (hv : v = mk (.sl i A2 r'.length c2)) (hH : H' i = some (.row A2 c2 42 2 r'.length (encG r'))) : IsX (.row 42 2 r.length (encG r) mk) v H' := by
  subst h
  exact ⟨⟨i, A2, c2, hv, .inl hH⟩⟩
theorem IsX.nilG {mk : C → SV} {r : List Gp} {i : Nat} {v : SV} {H' : Heap} (h : r = []) (hv : v = mk (.sl i none 0 0)) : IsX (.row 42 2 r.length (encG r) mk) v H' := by
  subst h
  exact ⟨⟨i, none, 0, hv, .inr ⟨rfl, rfl, rfl, rfl⟩⟩⟩
section
variable {lo hi n : Int} {pre : List Gp} {x : Gp}
end
/-! ### gap.each -/
theorem b_each : Bodied Try.prog 99 := bodied Try.func99 rfl (by decide)
def eachT (κ : Kp) : TSpec := fun args H d K => match args with
  | [.c (.sl i A m c)] => ∀ b : Nat, K (.c (.fn 143 d b 0)) [(d, some (.blk b 22 [.sl i A m c]))]
  | _ => False
set_option maxRecDepth 100000 in
theorem k_each (i : Nat) (A : Option Addr) (m c : Nat) (w : World) :
    Calls Try.prog 99 #[.slice A m c] w fun e w' => ∃ (v : SV) (H' : Heap), e = .returned v.den ∧ (∃ b, v = .c (.fn 143 1 b 0) ∧ H' 1 = some (.blk b 22 [.sl i A m c])) ∧ HSat w (fun _ => False) H' w' := by
  obtain ⟨κ, hκ⟩ : ∃ κ : Kp, κ = kid := ⟨_, rfl⟩
  refine callsP (n := 4) FTok [] mixed [] Try.func99 rfl (by kernel_rfl) #[.slice A m c] [(0, .c (.sl i A m c))] (heapOf [(nilId, .rd none 1 0 [])]) w rfl [.tmp 2] rfl (by simp) (by simp [SV.den, C.den]) (HSat.start w) (fun v H' => ∃ b, v = .c (.fn 143 1 b 0) ∧ H' 1 = some (.blk b 22 [.sl i A m c])) hκ ?_
  intro P' hP'
  cbv
  repeat' (first | refine And.intro ?_ ?_ | (intro _; cbv))
  all_goals (first | exact ⟨_, rfl, rfl⟩ | rfl | trivial)
def e_each {κ : Kp} (hκ : κ = kid) : ESpec Try.prog :=
  ES b_each false eachT hκ (fun args H d => by
    unfold eachT
    split
    · rename_i i A m c
      exact .all_ (fun b => .c (.fn 143 d b 0)) (fun b => [(d, some (.blk b 22 [.sl i A m c]))]) fun b p hp => by
        rw [List.mem_singleton.1 hp]
        exact .inl rfl
    · exact .false_) fun args H0 H d w0 M w hs hsub hH => by
    unfold eachT at hs
    split at hs
    · rename_i i A m c
      refine (k_each i A m c w).mono ?_
      rintro e w' ⟨v, H', rfl, ⟨b, rfl, hb⟩, hH'⟩
      exact ⟨.c (.fn 143 d b 0), [(d, some (.blk b 22 [.sl i A m c]))], _, rfl, fun K hK => hK b, fun _ => rfl, leaveR hH hb rfl hH' d⟩
    · exact hs.elim
end Go.Proofs.Ytbcicjmepojlnaa.Eng
/- Gaps page by page; no condition but those typed. -/
namespace Go.Proofs.Ytbcicjmepojlnaa.Eng
open Go Go.RowKit
set_option autoImplicit false
set_option linter.unusedSimpArgs false
set_option linter.unusedVariables false
def gapR : Int → List Ar → List Gp
  | at_, [] => if at_ < 2097152 then [⟨at_, 2097152⟩] else []
  | at_, a :: r => (if at_ < a.s then [⟨at_, a.s⟩] else []) ++ gapR a.e r
theorem gapsE_from (zs : List Ar) : ∀ (m k : Nat), k + m = zs.length → gapsE zs = gapsTo zs k ++ gapR (atW zs 65536 k) (zs.drop k)
  | 0, k, h => by
    have hk : k = zs.length := by omega
    subst hk
    rw [List.drop_length]
    rfl
  | m + 1, k, h => by
    rw [gapsE_from zs m (k + 1) (by omega), drop_cons (show k < zs.length by omega)]
    show (gapsTo zs k ++ _) ++ gapR (nthA zs k).e _ = gapsTo zs k ++ (_ ++ gapR (nthA zs k).e _)
    rw [List.append_assoc]
theorem gapsE_eq (zs : List Ar) : gapsE zs = gapR 65536 zs := gapsE_from zs zs.length 0 (by omega)
structure GapOk (l : List Ar) (at_ : Int) (g : Gp) : Prop where
  z : g.s % 4096 = 0
  z2 : g.e % 4096 = 0
  lo : at_ ≤ g.s
  lt : g.s < g.e
  hi : g.e ≤ 2097152
  free : ∀ x t, g.s ≤ x → x < g.e → ¬ Has l x t
  stop : g.e = 2097152 ∨ ∃ t, Has l g.e t
  start : g.s = at_ ∨ ∃ t, Has l (g.s - 4096) t
theorem gapR_spec : ∀ {l : List Ar} {at_ : Int}, Ok l → at_ % 4096 = 0 → 65536 ≤ at_ → at_ ≤ 2097152 → (∀ a ∈ l, at_ ≤ a.s) →
    (∀ g ∈ gapR at_ l, GapOk l at_ g) ∧ (gapR at_ l).Pairwise (fun g g' => g.e < g'.s) ∧ ∀ x, x % 4096 = 0 → at_ ≤ x → x < 2097152 → (∀ t, ¬ Has l x t) → ∃ g ∈ gapR at_ l, g.s ≤ x ∧ x < g.e
  | [], at_, _, h0, h1, h2, _ => by
    unfold gapR
    by_cases h : at_ < 2097152
    · rw [if_pos h]
      refine ⟨fun g hg => ?_, List.pairwise_singleton _ _, fun x hx b1 b2 _ => ⟨_, List.mem_singleton.2 rfl, b1, b2⟩⟩
      rw [List.mem_singleton.1 hg]
      exact ⟨h0, (by show (2097152 : Int) % 4096 = 0; decide), Int.le_refl _, h, Int.le_refl _, fun x t _ _ hx => Has.nil hx, .inl rfl, .inl rfl⟩
    · rw [if_neg h]
      exact ⟨fun g hg => (by cases hg), List.Pairwise.nil, fun x _ b1 b2 _ => by omega⟩
  | a :: r, at_, hl, h0, h1, h2, h3 => by
    have ha : Fo a := fo.1 (hl.1 a (List.mem_cons_self ..))
    have hr : Ok r := ⟨fun b hb => hl.1 b (List.mem_cons_of_mem _ hb), (List.pairwise_cons.1 hl.2).2⟩
    have hre : ∀ b ∈ r, a.e ≤ b.s := (List.pairwise_cons.1 hl.2).1
    have b1 := h3 a (List.mem_cons_self ..)
    have b2 := ha.lt
    obtain ⟨i1, i2, i3⟩ := gapR_spec (l := r) (at_ := a.e) hr ha.e0 (by have := ha.lo; omega) ha.hi hre
    have one : ∀ x t, Has (a :: r) x t → a.s ≤ x := fun x t hx => by
      rcases (has_cons a r x t).1 hx with ⟨⟨h, _⟩, _⟩ | ⟨b, hb, ⟨h, _⟩, _⟩
      · exact h
      · have := hre b hb; omega
    have up : ∀ g ∈ gapR a.e r, GapOk (a :: r) at_ g := fun g hg => by
      obtain ⟨z, z2, lo, lt, hi, free, stop, start⟩ := i1 g hg
      refine ⟨z, z2, by omega, lt, hi, fun x t c1 c2 hx => ?_, ?_, .inr ?_⟩
      · rcases (has_cons a r x t).1 hx with ⟨⟨_, h⟩, _⟩ | h
        · omega
        · exact free x t c1 c2 h
      · rcases stop with h | ⟨t, h⟩
        · exact .inl h
        · exact .inr ⟨t, (has_cons a r _ t).2 (.inr h)⟩
      · rcases start with h | ⟨t, h⟩
        · refine ⟨ext a (g.s - 4096), (has_cons a r _ _).2 (.inl ⟨⟨?_, by omega⟩, rfl⟩)⟩
          have := ha.s0
          have := ha.e0
          omega
        · exact ⟨t, (has_cons a r _ t).2 (.inr h)⟩
    unfold gapR
    refine ⟨fun g hg => ?_, ?_, fun x hx c1 c2 hn => ?_⟩
    · rcases List.mem_append.1 hg with h | h
      · split at h
        · rename_i hlt
          rw [List.mem_singleton.1 h]
          exact ⟨h0, ha.s0, Int.le_refl _, hlt, by have := ha.hi; show a.s ≤ _; omega, fun x t _ c2 hx => by have := one x t hx; simp only at c2; omega, .inr ⟨ext a a.s, (has_cons a r _ _).2 (.inl ⟨⟨Int.le_refl _, b2⟩, rfl⟩)⟩, .inl rfl⟩
        · cases h
      · exact up g h
    · split
      · refine List.pairwise_cons.2 ⟨fun g hg => ?_, i2⟩
        have := (i1 g hg).lo
        show a.s < g.s
        omega
      · exact i2
    · by_cases hxs : x < a.s
      · exact ⟨⟨at_, a.s⟩, List.mem_append.2 (.inl (by rw [if_pos (by omega)]; exact List.mem_singleton.2 rfl)), c1, hxs⟩
      · have hxe : a.e ≤ x := by
          by_cases h : a.e ≤ x
          · exact h
          · exact absurd ((has_cons a r x _).2 (.inl ⟨⟨by omega, by omega⟩, rfl⟩)) (hn (ext a x))
        obtain ⟨g, hg, h⟩ := i3 x hx hxe c2 fun t ht => hn t ((has_cons a r x t).2 (.inr ht))
        exact ⟨g, List.mem_append.2 (.inr hg), h⟩
theorem gaps_spec {l : List Ar} (hl : Ok l) : (∀ g ∈ gapsE l, GapOk l 65536 g) ∧ (gapsE l).Pairwise (fun g g' => g.e < g'.s) ∧ ∀ x, x % 4096 = 0 → 65536 ≤ x → x < 2097152 → (∀ t, ¬ Has l x t) → ∃ g ∈ gapsE l, g.s ≤ x ∧ x < g.e := by
  rw [gapsE_eq]
  exact gapR_spec hl (by decide) (by decide) (by decide) fun a ha => (fo.1 (hl.1 a ha)).lo
/-! ### Free ranges -/
def FreeR (l : List Ar) (a b : Int) : Prop := ∀ x, x % 4096 = 0 → a ≤ x → x < b → ∀ t, ¬ Has l x t
theorem free_gap {l : List Ar} (hl : Ok l) {a b : Int} (h0 : a % 4096 = 0) (h1 : 65536 ≤ a) (h2 : a < b) (h3 : b ≤ 2097152) (h : FreeR l a b) : ∃ g ∈ gapsE l, g.s ≤ a ∧ b ≤ g.e := by
  obtain ⟨g1, _, g3⟩ := gaps_spec hl
  obtain ⟨g, hg, c1, c2⟩ := g3 a h0 h1 (by omega) (h a h0 (Int.le_refl _) h2)
  refine ⟨g, hg, c1, ?_⟩
  have ho := g1 g hg
  by_cases hb : b ≤ g.e
  · exact hb
  · exfalso
    rcases ho.stop with he | ⟨t, ht⟩
    · omega
    · exact h g.e ho.z2 (by omega) (by omega) t ht
theorem gap_free {l : List Ar} (hl : Ok l) {g : Gp} (hg : g ∈ gapsE l) {a b : Int} (h1 : g.s ≤ a) (h2 : b ≤ g.e) : FreeR l a b := fun x hx c1 c2 t => ((gaps_spec hl).1 g hg).free x t (by omega) (by omega)
theorem free_iff {l : List Ar} (hl : Ok l) {a b : Int} (h0 : a % 4096 = 0) (h1 : 65536 ≤ a) (h2 : a < b) (h3 : b ≤ 2097152) : FreeR l a b ↔ ∃ g ∈ gapsE l, g.s ≤ a ∧ b ≤ g.e :=
  ⟨free_gap hl h0 h1 h2 h3, fun ⟨g, hg, c1, c2⟩ => gap_free hl hg c1 c2⟩
theorem sizeG_iff {n : Int} (h : In64 n) : sizeG n = true ↔ 4096 ≤ n ∧ n ≤ 2031616 ∧ n % 4096 = 0 := by
  unfold sizeG
  rw [Bool.and_eq_true, Bool.and_eq_true, decide_eq_true_eq, decide_eq_true_eq, whole_iff]
  omega
theorem fits_iff {l : List Ar} (hl : Rt l) {a n : Int} (ha : In64 a) (hn : In64 n) : fitsL l a n = true ↔ sizeG n = true ∧ a % 4096 = 0 ∧ 65536 ≤ a ∧ a + n ≤ 2097152 ∧ FreeR l a (a + n) := by
  unfold fitsL
  by_cases hs : sizeG n = true
  · have hs2 := (sizeG_iff hn).1 hs
    have e1 : w64 (2097152 - n) = 2097152 - n := w64_id (by unfold In64; omega)
    by_cases hc : a % 4096 = 0 ∧ 65536 ≤ a ∧ a + n ≤ 2097152
    · have e2 : w64 (a + n) = a + n := w64_id (by unfold In64; omega)
      rw [if_neg (by rw [hs, (tmod0 a).2 hc.1, e1]; simp; omega), gaps_yes (of_rt hl), List.any_eq_true, e2]
      rw [free_iff hl.ok hc.1 hc.2.1 (by omega) hc.2.2]
      constructor
      · rintro ⟨g, hg, h⟩
        rw [Bool.and_eq_true, decide_eq_true_eq, decide_eq_true_eq] at h
        exact ⟨hs, hc.1, hc.2.1, hc.2.2, g, hg, h.1, h.2⟩
      · rintro ⟨_, _, _, _, g, hg, h1, h2⟩
        refine ⟨g, hg, ?_⟩
        rw [Bool.and_eq_true, decide_eq_true_eq, decide_eq_true_eq]
        exact ⟨h1, h2⟩
    · rw [if_pos]
      · exact ⟨fun h => (by cases h), fun h => absurd ⟨h.2.1, h.2.2.1, h.2.2.2.1⟩ hc⟩
      · rw [e1]
        by_cases h0 : a % 4096 = 0
        · simp only [Bool.or_eq_true, decide_eq_true_eq]
          by_cases h1 : 65536 ≤ a
          · exact .inr (by omega)
          · exact .inl (.inr (by omega))
        · have : (Int.tmod a 4096 != 0) = true := by
            cases hb : (Int.tmod a 4096 != 0)
            · exact absurd ((tmod0 a).1 hb) h0
            · rfl
          rw [this]
          simp
  · have : sizeG n = false := by simpa using hs
    rw [if_pos (by rw [this]; simp)]
    exact ⟨fun h => (by cases h), fun h => absurd h.1 hs⟩
/-! ### Room within bounds -/
structure GoodA (l : List Ar) (lo hi n a : Int) : Prop where
  z : a % 4096 = 0
  l1 : 65536 ≤ a
  h1 : a + n ≤ 2097152
  lo : lo ≤ a
  hi : a + n ≤ hi
  free : FreeR l a (a + n)
theorem up_eq {x : Int} (h : 65536 ≤ x ∧ x ≤ 2097152) : upG x = (x + 4095) / 4096 * 4096 := by
  unfold upG
  have e1 : w64 (x + 4096) = x + 4096 := w64_id (by unfold In64; omega)
  have e2 : w64 (x + 4096 - 1) = x + 4095 := (w64_id (by unfold In64; omega)).trans (by omega)
  rw [e1, e2, tdiv_pos (by omega)]
  have e3 : w64 ((x + 4095) / 4096) = (x + 4095) / 4096 := w64_id (by unfold In64; omega)
  rw [e3]
  exact w64_id (by unfold In64; omega)
end Go.Proofs.Ytbcicjmepojlnaa.Eng
/- Contracts of functions (printed by genx.py of this work): what each hands back; condition: as its 'hside' says. -/
namespace Go.Proofs.Ytbcicjmepojlnaa.Eng
open Go Go.RowKit
set_option linter.unusedVariables false
set_option linter.unusedSimpArgs false
theorem b_gsize : Bodied Try.prog 100 := bodied Try.func100 rfl (by decide)
def F_gsize : FunX := fun κ avs => match avs with
  | [.val (.c (.v (.int .i64 n)))] => some (κ _ (True), (.val (.c (.v (.bool (κ _ (sizeG n)))))))
  | _ => none
set_option maxRecDepth 100000 in
set_option maxHeartbeats 4000000 in
theorem k_gsize (n : Int) (hside : True) (w : World) :
    Calls Try.prog 100 #[(SV.c (.v (.int .i64 n))).den] w fun e w' => ∃ v H', e = .returned v.den ∧ IsX (.val (.c (.v (.bool (sizeG n))))) v H' ∧ HSat w (fun _ => False) H' w' := by
  obtain ⟨κ, hκ⟩ : ∃ κ : Kp, κ = kid := ⟨_, rfl⟩
  have hH : HSat w (fun _ => False) (heapOf [(nilId, .rd none 1 0 [])]) w := by
    subst hκ
    refine HSat.reads fun p hp => ?_
    simp only [List.mem_cons, List.not_mem_nil, or_false] at hp
    rcases hp with rfl
    · exact ⟨_, _, _, _, rfl, nil_holds w⟩
  refine (callsP (n := 14) FTok [] mixed [] Try.func100 rfl (by kernel_rfl) #[(SV.c (.v (.int .i64 n))).den] [(0, .c (.v (.int .i64 n)))] _ w rfl [.tmp 2] rfl (by simp) (by subst hκ; simp [SV.den, C.den, kid]) hH (fun v H' => IsX (.val (.c (.v (.bool (κ _ (sizeG n)))))) v H') hκ ?_).mono ?_
  rotate_left
  · subst hκ; intro e w' h; exact h
  intro P' hP'
  cbv
  repeat' (first | refine And.intro ?_ ?_ | (intro _; cbv) | (refine tst_mk (fun h => ?_) (fun h => ?_) <;> cbv) | (refine LookX.nil ?_; cbv) | (refine LookX.auto hκ ?_; cbv))
  all_goals (clear hH; subst hκ; delta kid at *; (try dsimp only at *))
  all_goals (try (exact ⟨trivial⟩))
  all_goals (try (exact ⟨by decide⟩))
  all_goals (show IsX _ _ _; refine IsX.val_ ?_; simp only [SV.den, SV.den0, C.den, List.map_cons, List.map_nil, sizeG, whole, GT.gt, GE.ge]; (try simp only [*, Bool.or_true, Bool.true_or, Bool.or_false, Bool.false_or, Bool.and_true, Bool.true_and, Bool.and_false, Bool.false_and, Bool.not_true, Bool.not_false, if_true, if_false, Bool.false_eq_true]); (first | done | rfl | (exfalso; simp_all; done) | skip))
def e_gsize {κ : Kp} (hκ : κ = kid) : ESpec Try.prog := fnES [.flat] b_gsize F_gsize hκ fun avs p r hF hp => by
  unfold F_gsize at hF
  split at hF
  case h_2 => cases hF
  rename_i n
  simp only [kid, Option.some.injEq, Prod.mk.injEq] at hF
  obtain ⟨rfl, rfl⟩ := hF
  refine ⟨trivial, fun vs w hR => ?_⟩
  obtain ⟨vs0, rfl, hR⟩ := hR
  have hR' : vs0 = [] := hR
  subst hR'
  exact k_gsize n hp w
theorem b_gaps : Bodied Try.prog 49 := bodied Try.func49 rfl (by decide)
def F_gaps : FunX := fun κ avs => match avs with
  | [.lst l xl] => some (κ _ (l.length ≤ 300000), (.row 42 2 ((κ _ ((gapsL l).length))) ((κ _ (encG (gapsL l)))) (fun x => .c x)))
  | _ => none
set_option maxRecDepth 100000 in
set_option maxHeartbeats 4000000 in
theorem k_gaps (l : List Ar) (Al : Option Addr) (cl : Nat) (hside : l.length ≤ 300000) (w : World) (hl : (Ent.rd Al 6 l.length (encL l)).holds w) :
    Calls Try.prog 49 #[.slice Al l.length cl] w fun e w' => ∃ v H', e = .returned v.den ∧ IsX (.row 42 2 (((gapsL l).length)) ((encG (gapsL l))) (fun x => .c x)) v H' ∧ HSat w (fun _ => False) H' w' := by
  obtain ⟨κ, hκ⟩ : ∃ κ : Kp, κ = kid := ⟨_, rfl⟩
  have hH : HSat w (fun _ => False) (heapOf [(nilId, .rd none 1 0 []), (200000, .rd Al 6 (κ _ l.length) (κ _ (encL l)))]) w := by
    subst hκ
    refine HSat.reads fun p hp => ?_
    simp only [List.mem_cons, List.not_mem_nil, or_false] at hp
    rcases hp with rfl | rfl
    · exact ⟨_, _, _, _, rfl, nil_holds w⟩
    · exact ⟨_, _, _, _, rfl, hl⟩
  refine (callsM (n := 16) FTok [e_right hκ, e_each hκ] mixed [] Try.func49 rfl (by kernel_rfl) #[.slice Al l.length cl] [(0, .c (.sl 200000 Al (κ _ l.length) cl))] _ w rfl [.tmp 2] rfl (by simp) (by subst hκ; simp [SV.den, C.den, kid]) hH (fun v H' => IsX (.row 42 2 ((κ _ ((gapsL l).length))) ((κ _ (encG (gapsL l)))) (fun x => .c x)) v H') hκ ?_).mono ?_
  rotate_left
  · subst hκ; intro e w' h; exact h
  intro P' hP'
  cbv
  repeat' (first | refine And.intro ?_ ?_ | (intro _; cbv) | (refine tst_mk (fun h => ?_) (fun h => ?_) <;> cbv) | (refine LookX.nil ?_; cbv) | (refine LookX.auto hκ ?_; cbv))
  all_goals (try (show Side _; refine ⟨?_⟩; subst hκ; delta kid at *; first | exact rfl | exact trivial | exact ⟨rfl, rfl, .inl rfl⟩ | ((try dsimp only at *); (try simp only [setTo_len, noS_len, List.length_append, List.length_cons, List.length_nil, List.length_map, and_self, true_or, or_true, eq_self, true_and, and_true, Nat.zero_add, Nat.add_zero]); (first | done | omega); done)))
  rotate_left
  · (clear hH; subst hκ; delta kid at *; (try dsimp only at *))
    exact IsX.nilG (gaps_no (by with_reducible assumption)) rfl
  rename_i b3 b9
  have hr : rightL l = true := by subst hκ; exact h
  refine rangeM_each hP' FTok [e_right hκ, e_each hκ] mixed (id := 9) (lid := 200000) (A := Al) (zs := l) rfl (by subst hκ; rfl) (by omega) (by decide) (σ := Option Addr × Nat) (τ := Empty) (fun _ _ => True) (fun _ _ => True) (fun pre s => [(200000, .rd Al 6 (κ _ l.length) (κ _ (encL l))), (3, .blk b3 39 [.sl 14 s.1 (κ _ pre.length) s.2]), (14, .row s.1 s.2 42 2 (κ _ pre.length) (κ _ (encG pre)))]) (fun _ r => nomatch r) (none, 0) trivial [200000, 3, 999999] (by decide) ?_ (fun pre s => by subst hκ; rfl) [3] [] ?_ hκ ?_ ?_ (fun pre r => nomatch r)
  · cbv
    all_goals (subst hκ; delta kid; repeat' (first | exact rfl | exact trivial | refine And.intro ?_ ?_))
  · cbv
    all_goals (subst hκ; delta kid; repeat' (first | exact rfl | exact trivial | refine And.intro ?_ ?_))
  · rintro pre x ⟨A2, c2⟩ - hpre
    have hpl := pre_len hpre
    cbv
    repeat' (first | refine And.intro ?_ ?_ | (intro _; cbv) | (refine tst_mk (fun h => ?_) (fun h => ?_) <;> cbv) | (refine LookX.nil ?_; cbv) | (refine LookX.auto hκ ?_; cbv))
    all_goals (clear hH; subst hκ; delta kid at *; (try dsimp only at *))
    · exact ⟨by omega, by simp only [maxLen]; omega⟩
    · exact ⟨rfl, rfl, .inl rfl, rfl⟩
    · exact ⟨rfl, rfl, rfl, rfl, rfl⟩
    · rename_i A3 c3
      refine ⟨⟨(A3, c3), [200000, 3, 14], trivial, by decide, ?_⟩⟩
      repeat' (first | exact rfl | exact trivial | refine And.intro ?_ ?_ | exact snoc_len pre x | exact encG_snoc pre x | exact congrArg (fun n => [Value.slice A3 n c3]) (snoc_len pre x))
  · rintro ⟨A2, c2⟩ -
    cbv
    (clear hH; subst hκ; delta kid at *; (try dsimp only at *))
    exact IsX.rowG (gaps_yes hr).symm rfl rfl
def e_gaps {κ : Kp} (hκ : κ = kid) : ESpec Try.prog := fnES [.list] b_gaps F_gaps hκ fun avs p r hF hp => by
  unfold F_gaps at hF
  split at hF
  case h_2 => cases hF
  rename_i l xl
  simp only [kid, Option.some.injEq, Prod.mk.injEq] at hF
  obtain ⟨rfl, rfl⟩ := hF
  refine ⟨fun x y h => by simp [SV.den, SV.den0, h], fun vs w hR => ?_⟩
  obtain ⟨il, Al, cl, vs0, rfl, rfl, hl, hR⟩ := hR
  have hR' : vs0 = [] := hR
  subst hR'
  exact k_gaps l Al cl hp w hl
end Go.Proofs.Ytbcicjmepojlnaa.Eng
/- Loops over gaps; the reference's free pages, choices; no condition but those typed. -/
namespace Go.Proofs.Ytbcicjmepojlnaa.Eng
open Go Go.RowKit
set_option autoImplicit false
set_option linter.unusedSimpArgs false
set_option linter.unusedVariables false
theorem g_take {l : List Gp} {i : Nat} (h : i < l.length) : takeN (encG l) (((i : Nat) : Int).toNat * 2) 2 = some [.v (.int .i64 (nthG l i).s), .v (.int .i64 (nthG l i).e)] := by
  rw [Int.toNat_natCast]
  exact enc_take encGp_len (by decide) l i _ (nthG_get h)
theorem g_ix {l : List Gp} {i : Nat} (h : i < l.length) : 0 < 2 ∧ 0 ≤ ((i : Nat) : Int) ∧ ((i : Nat) : Int) < (l.length : Int) := by omega
theorem g_next {l : List Gp} {i : Nat} (h : i < l.length) : l.take (i + 1) = l.take i ++ [nthG l i] := by
  have h2 := nthG_get h
  rw [List.take_add_one, h2]
  rfl
theorem nthG_mem {l : List Gp} {i : Nat} (h : i < l.length) : nthG l i ∈ l := List.mem_of_getElem? (nthG_get h)
def largeStep (n : Int) (g : Gp) : Int := maxI n (w64 (g.e - g.s))
def largeF (l : List Gp) : Int := l.foldl largeStep 0
theorem large_next {l : List Gp} {i : Nat} (h : i < l.length) : largeStep (largeF (l.take i)) (nthG l i) = largeF (l.take (i + 1)) := by
  unfold largeF
  rw [g_next h, List.foldl_append]
  rfl
def fitG (a n : Int) (g : Gp) : Bool := decide (a ≥ g.s) && decide (w64 (a + n) ≤ g.e)
section
variable {l : List Ar} {a n : Int}
theorem fits_a (h : sizeG n = false) : fitsL l a n = false := by unfold fitsL; rw [if_pos (by rw [h]; simp)]
theorem fits_b (h : (Int.tmod a 4096 != 0) = true) : fitsL l a n = false := by unfold fitsL; rw [if_pos (by rw [h]; simp)]
theorem fits_c (h : decide (a < 65536) = true) : fitsL l a n = false := by unfold fitsL; rw [if_pos (by rw [h]; simp)]
theorem fits_d (h : decide (IntKind.i64.wrap (2097152 - n) < a) = true) : fitsL l a n = false := by unfold fitsL; rw [if_pos (by rw [show decide (a > w64 (2097152 - n)) = true from h]; simp)]
theorem fits_e (h1 : sizeG n = true) (h2 : (Int.tmod a 4096 != 0) = false) (h3 : decide (a < 65536) = false) (h4 : decide (IntKind.i64.wrap (2097152 - n) < a) = false) : fitsL l a n = (gapsL l).any (fitG a n) := by
  unfold fitsL
  rw [if_neg (by rw [h1, h2, h3, show decide (a > w64 (2097152 - n)) = false from h4]; simp)]
  rfl
end
def NoneTo (p : Gp → Bool) (l : List Gp) (i : Nat) : Prop := ∀ j, j < i → p (nthG l j) = false
theorem none_next {p : Gp → Bool} {l : List Gp} {i : Nat} (h : NoneTo p l i) (hi : p (nthG l i) = false) : NoneTo p l (i + 1) := fun j hj => by
  by_cases hji : j = i
  · subst hji; exact hi
  · exact h j (by omega)
theorem any_here {p : Gp → Bool} {l : List Gp} {i : Nat} (hi : i < l.length) (h : p (nthG l i) = true) : l.any p = true := List.any_eq_true.2 ⟨_, nthG_mem hi, h⟩
theorem any_none {p : Gp → Bool} {l : List Gp} {i : Nat} (hi : ¬ i < l.length) (h : NoneTo p l i) : l.any p = false := by
  cases hb : l.any p with
  | false => rfl
  | true =>
    obtain ⟨g, hg, h2⟩ := List.any_eq_true.1 hb
    obtain ⟨j, hj, rfl⟩ := List.getElem_of_mem hg
    have h3 := nthG_get hj
    rw [List.getElem?_eq_getElem hj] at h3
    injection h3 with h3
    rw [h3, h j (by omega)] at h2
    cases h2
theorem fitG_y {a n : Int} {g : Gp} (h1 : decide (g.s ≤ a) = true) (h2 : decide (IntKind.i64.wrap (a + n) ≤ g.e) = true) : fitG a n g = true := by
  unfold fitG
  rw [show decide (a ≥ g.s) = true from h1, show decide (w64 (a + n) ≤ g.e) = true from h2]
  rfl
theorem fitG_n1 {a n : Int} {g : Gp} (h1 : decide (g.s ≤ a) = false) : fitG a n g = false := by
  unfold fitG
  rw [show decide (a ≥ g.s) = false from h1]
  rfl
theorem fitG_n2 {a n : Int} {g : Gp} (h2 : decide (IntKind.i64.wrap (a + n) ≤ g.e) = false) : fitG a n g = false := by
  unfold fitG
  rw [show decide (w64 (a + n) ≤ g.e) = false from h2, Bool.and_false]
theorem gapsL_len {l : List Ar} {m : Nat} (h : l.length ≤ m) : (gapsL l).length ≤ m + 1 := by
  unfold gapsL
  split
  · have := gapsE_len l; omega
  · simp
/-! ### The reference's -/
def freeK (s : List Pg) (q k : Nat) : Bool := (List.range k).all fun j => !(nthP s (q + j)).is
theorem freeK_iff (s : List Pg) (q k : Nat) : freeK s q k = true ↔ ∀ j, q ≤ j → j < q + k → (nthP s j).is = false := by
  unfold freeK
  rw [List.all_eq_true]
  constructor
  · intro h j h1 h2
    have := h (j - q) (List.mem_range.2 (by omega))
    rw [show q + (j - q) = j by omega] at this
    simpa using this
  · intro h j hj
    have := h (q + j) (by omega) (by have := List.mem_range.1 hj; omega)
    rw [this]
    rfl
def freeS (s : List Pg) (p n : Int) : Bool := if (decide (p < 16) || decide (n < 1) || decide (n > 496) || decide (p + n > 512)) = true then false else freeK s p.toNat n.toNat
def FreeTo (s : List Pg) (q k : Nat) : Prop := ∀ j, q ≤ j → j < q + k → (nthP s j).is = false
theorem freeTo_next {s : List Pg} {q k : Nat} (h : FreeTo s q k) (hi : (nthP s (q + k)).is = false) : FreeTo s q (k + 1) := fun j h1 h2 => by
  by_cases hj : j = q + k
  · subst hj; exact hi
  · exact h j h1 (by omega)
section
variable {s : List Pg} {p n : Int}
theorem free_a (h : decide (p < 16) = true) : freeS s p n = false := by unfold freeS; rw [if_pos (by rw [h]; simp)]
theorem free_b (h : decide (n < 1) = true) : freeS s p n = false := by unfold freeS; rw [if_pos (by rw [h]; simp)]
theorem free_c (h : decide (496 < n) = true) : freeS s p n = false := by unfold freeS; rw [if_pos (by rw [show decide (n > 496) = true from h]; simp)]
theorem free_d (hp : In64 p) (h1 : decide (p < 16) = false) (h2 : decide (n < 1) = false) (h3 : decide (496 < n) = false) (h : decide (512 < IntKind.i64.wrap (p + n)) = true) (hp2 : p ≤ 9223372036854775000) : freeS s p n = false := by
  have a1 := of_decide_eq_false h1
  have a2 := of_decide_eq_false h2
  have a3 := of_decide_eq_false h3
  have a4 := of_decide_eq_true h
  have e : w64 (p + n) = p + n := w64_id (by unfold In64; omega)
  rw [show IntKind.i64.wrap (p + n) = p + n from e] at a4
  unfold freeS
  rw [if_pos (by rw [show decide (p + n > 512) = true by rw [decide_eq_true_eq]; omega]; simp)]
theorem free_e (hp2 : p ≤ 9223372036854775000) (h1 : decide (p < 16) = false) (h2 : decide (n < 1) = false) (h3 : decide (496 < n) = false) (h : decide (512 < IntKind.i64.wrap (p + n)) = false) : IntKind.i64.wrap (p + n) = ((p.toNat + n.toNat : Nat) : Int) ∧ p = (p.toNat : Int) ∧ p.toNat + n.toNat ≤ 512 ∧ freeS s p n = freeK s p.toNat n.toNat := by
  have a1 := of_decide_eq_false h1
  have a2 := of_decide_eq_false h2
  have a3 := of_decide_eq_false h3
  have a4 := of_decide_eq_false h
  have e : w64 (p + n) = p + n := w64_id (by unfold In64; omega)
  rw [show IntKind.i64.wrap (p + n) = p + n from e] at a4 ⊢
  refine ⟨by omega, by omega, by omega, ?_⟩
  unfold freeS
  rw [if_neg (by simp; omega)]
theorem free_here {q m k : Nat} (hk : k < m) (h : (nthP s (q + k)).is = true) : freeK s q m = false := by
  cases hb : freeK s q m with
  | false => rfl
  | true =>
    have := (freeK_iff s q m).1 hb (q + k) (by omega) (by omega)
    rw [h] at this
    cases this
theorem free_all {q m : Nat} (h : FreeTo s q m) : freeK s q m = true := (freeK_iff s q m).2 h
end
theorem freeS_iff {l : List Ar} (hl : Ok l) {a n : Int} (ha : a % 4096 = 0) (h1 : 65536 ≤ a) (hn : 4096 ≤ n ∧ n ≤ 2031616 ∧ n % 4096 = 0) (h2 : a + n ≤ 2097152) : freeS (ofL l) (a / 4096) (n / 4096) = true ↔ FreeR l a (a + n) := by
  unfold freeS
  rw [if_neg (by simp; omega), freeK_iff]
  constructor
  · intro h x hx c1 c2 t ht
    have := h (x / 4096).toNat (by omega) (by omega)
    rw [(has_of hl (q := (x / 4096).toNat) (t := t) (by rw [show (4096 * ((x / 4096).toNat : Int)) = x by omega]; exact ht)).1] at this
    cases this
  · intro h j c1 c2
    cases hb : (nthP (ofL l) j).is with
    | false => rfl
    | true => exact absurd (of_has hl (q := j) (by omega) (by omega) hb) (h _ (by omega) (by omega) (by omega) _)
end Go.Proofs.Ytbcicjmepojlnaa.Eng
/- The reference's Fits and Choose, and the program's; no condition but those typed. -/
namespace Go.Proofs.Ytbcicjmepojlnaa.Eng
open Go Go.RowKit
set_option autoImplicit false
set_option linter.unusedSimpArgs false
set_option linter.unusedVariables false
section
variable {l : List Ar} {a n : Int}
end
section
variable {l : List Ar} {lo hi n : Int} {gr : Bool} {k : Nat}
end
theorem free_d' {s : List Pg} {p n : Int} (hp2 : p ≤ 9223372036854775000) (h1 : decide (p < 16) = false) (h2 : decide (n < 1) = false) (h3 : decide (496 < n) = false) (h : decide (512 < IntKind.i64.wrap (p + n)) = true) : freeS s p n = false :=
  free_d (by have := of_decide_eq_false h1; unfold In64; omega) h1 h2 h3 h hp2
end Go.Proofs.Ytbcicjmepojlnaa.Eng
/- Contracts of functions (printed by genx.py of this work): what each hands back; condition: as its 'hside' says. -/
namespace Go.Proofs.Ytbcicjmepojlnaa.Eng
open Go Go.RowKit
set_option linter.unusedVariables false
set_option linter.unusedSimpArgs false
theorem b_fits : Bodied Try.prog 52 := bodied Try.func52 rfl (by decide)
def F_fits : FunX := fun κ avs => match avs with
  | [.lst l xl, .val (.c (.v (.int .i64 a))), .val (.c (.v (.int .i64 n)))] => some (κ _ (l.length ≤ 300000), (.val (.c (.v (.bool (κ _ (fitsL l a n)))))))
  | _ => none
set_option maxRecDepth 100000 in
set_option maxHeartbeats 4000000 in
theorem k_fits (l : List Ar) (a : Int) (n : Int) (Al : Option Addr) (cl : Nat) (hside : l.length ≤ 300000) (w : World) (hl : (Ent.rd Al 6 l.length (encL l)).holds w) :
    Calls Try.prog 52 #[.slice Al l.length cl, (SV.c (.v (.int .i64 a))).den, (SV.c (.v (.int .i64 n))).den] w fun e w' => ∃ v H', e = .returned v.den ∧ IsX (.val (.c (.v (.bool (fitsL l a n))))) v H' ∧ HSat w (fun _ => False) H' w' := by
  obtain ⟨κ, hκ⟩ : ∃ κ : Kp, κ = kid := ⟨_, rfl⟩
  have hH : HSat w (fun _ => False) (heapOf [(nilId, .rd none 1 0 []), (200000, .rd Al 6 (κ _ l.length) (κ _ (encL l)))]) w := by
    subst hκ
    refine HSat.reads fun p hp => ?_
    simp only [List.mem_cons, List.not_mem_nil, or_false] at hp
    rcases hp with rfl | rfl
    · exact ⟨_, _, _, _, rfl, nil_holds w⟩
    · exact ⟨_, _, _, _, rfl, hl⟩
  refine (callsP (n := 47) FTok [e_gsize hκ, e_gaps hκ] mixed [] Try.func52 rfl (by kernel_rfl) #[.slice Al l.length cl, (SV.c (.v (.int .i64 a))).den, (SV.c (.v (.int .i64 n))).den] [(0, .c (.sl 200000 Al (κ _ l.length) cl)), (1, .c (.v (.int .i64 a))), (2, .c (.v (.int .i64 n)))] _ w rfl [.tmp 6] rfl (by simp) (by subst hκ; simp [SV.den, C.den, kid]) hH (fun v H' => IsX (.val (.c (.v (.bool (κ _ (fitsL l a n)))))) v H') hκ ?_).mono ?_
  rotate_left
  · subst hκ; intro e w' h; exact h
  intro P' hP'
  cbv
  repeat' (first | refine And.intro ?_ ?_ | (intro _; cbv) | (refine tst_mk (fun h => ?_) (fun h => ?_) <;> cbv) | (refine LookX.nil ?_; cbv) | (refine LookX.auto hκ ?_; cbv))
  all_goals (try (show Side _; refine ⟨?_⟩; subst hκ; delta kid at *; first | exact rfl | exact trivial | exact ⟨rfl, rfl, .inl rfl⟩ | ((try dsimp only at *); (try simp only [setTo_len, noS_len, List.length_append, List.length_cons, List.length_nil, List.length_map, and_self, true_or, or_true, eq_self, true_and, and_true, Nat.zero_add, Nat.add_zero]); (first | done | omega); done)))
  all_goals (try (show IsX _ _ _; (clear hH; subst hκ; delta kid at *; (try dsimp only at *)); first | exact IsX.bool_ (fits_a (by with_reducible assumption)).symm | exact IsX.bool_ (fits_b (by with_reducible assumption)).symm | exact IsX.bool_ (fits_c (by with_reducible assumption)).symm | exact IsX.bool_ (fits_d (by with_reducible assumption)).symm))
  rename_i h1 h2 h3 A2 c2
  have hf : fitsL l a n = (gapsL l).any (fitG a n) := by subst hκ; exact fits_e h1 h2 h3 h
  clear h1 h2 h3 h
  refine loopP hP' FTok [] mixed [1, 2, 28, 29] (σ := {i : Nat // NoneTo (fitG a n) (gapsL l) i}) (fun q => [(30, .c (.v (.int .i64 (κ _ ((q.1 : Nat) : Int)))))]) (fun _ => [(28, .row A2 c2 42 2 (κ _ (gapsL l).length) (κ _ (encG (gapsL l))))]) (fun q => (gapsL l).length - q.1) ⟨0, fun j hj => absurd hj (Nat.not_lt_zero j)⟩ [28] ?_ (by decide) ?_ hκ ?_
  · cbv
    all_goals (subst hκ; delta kid; repeat' (first | exact rfl | exact trivial | refine And.intro ?_ ?_))
  · cbv
    all_goals (subst hκ; delta kid; repeat' (first | exact rfl | exact trivial | refine And.intro ?_ ?_))
  rintro ⟨i, hi⟩
  cbv
  refine tst_mk (fun h => ?_) (fun h => ?_)
  · have hx : i < (gapsL l).length := by subst hκ; delta kid at h; have h2 : (i : Int) < ((gapsL l).length : Int) := of_decide_eq_true h; omega
    have hgl := gapsL_len hside
    cbv
    repeat' (first | refine And.intro ?_ ?_ | (intro _; cbv) | (refine tst_mk (fun h => ?_) (fun h => ?_) <;> cbv) | (refine LookX.nil ?_; cbv) | (refine LookX.auto hκ ?_; cbv) | (refine LookN.mk' (x := [.v (.int .i64 (κ _ (nthG (gapsL l) i).s)), .v (.int .i64 (κ _ (nthG (gapsL l) i).e))]) (by subst hκ; delta kid at *; exact g_take hx) ?_; cbv))
    all_goals (try (show Side _; refine ⟨?_⟩; subst hκ; delta kid at *; first | exact rfl | exact trivial | exact ⟨rfl, rfl, .inl rfl⟩ | ((try dsimp only at *); (try simp only [setTo_len, noS_len, List.length_append, List.length_cons, List.length_nil, List.length_map, and_self, true_or, or_true, eq_self, true_and, and_true, Nat.zero_add, Nat.add_zero]); (first | done | omega); done)))
    all_goals (clear hH; subst hκ; delta kid at *; (try dsimp only at *))
    all_goals (try (exact ⟨g_ix hx⟩))
    · exact IsX.bool_ (hf.trans (any_here hx (fitG_y (by with_reducible assumption) (by with_reducible assumption)))).symm
    · refine ⟨⟨⟨i + 1, none_next hi (fitG_n2 (by with_reducible assumption))⟩, [28], (by show (gapsL l).length - (i + 1) < (gapsL l).length - i; omega), by decide, ?_, ?_⟩⟩
      all_goals repeat' (first | exact rfl | exact trivial | refine And.intro ?_ ?_ | exact congrArg (Value.int .i64) (nat_succ (by omega)) | exact congrArg (Value.int .i64) (large_next hx))
    · refine ⟨⟨⟨i + 1, none_next hi (fitG_n1 (by with_reducible assumption))⟩, [28], (by show (gapsL l).length - (i + 1) < (gapsL l).length - i; omega), by decide, ?_, ?_⟩⟩
      all_goals repeat' (first | exact rfl | exact trivial | refine And.intro ?_ ?_ | exact congrArg (Value.int .i64) (nat_succ (by omega)) | exact congrArg (Value.int .i64) (large_next hx))
  · have hx : ¬ i < (gapsL l).length := by subst hκ; delta kid at h; have h2 : ¬ (i : Int) < ((gapsL l).length : Int) := of_decide_eq_false h; omega
    cbv
    (clear hH; subst hκ; delta kid at *; (try dsimp only at *))
    exact IsX.bool_ (hf.trans (any_none hx hi)).symm
def e_fits {κ : Kp} (hκ : κ = kid) : ESpec Try.prog := fnES [.list, .flat, .flat] b_fits F_fits hκ fun avs p r hF hp => by
  unfold F_fits at hF
  split at hF
  case h_2 => cases hF
  rename_i l xl a n
  simp only [kid, Option.some.injEq, Prod.mk.injEq] at hF
  obtain ⟨rfl, rfl⟩ := hF
  refine ⟨trivial, fun vs w hR => ?_⟩
  obtain ⟨il, Al, cl, vs0, rfl, rfl, hl, hR⟩ := hR
  obtain ⟨vs1, rfl, hR⟩ := hR
  obtain ⟨vs2, rfl, hR⟩ := hR
  have hR' : vs2 = [] := hR
  subst hR'
  exact k_fits l a n Al cl hp w hl
theorem b_rfree : Bodied Try.prog 101 := bodied Try.func101 rfl (by decide)
def F_rfree : FunX := fun κ avs => match avs with
  | [.spc s, .val (.c (.v (.int .i64 p))), .val (.c (.v (.int .i64 n)))] => some (κ _ (p ≤ 9223372036854775000), (.val (.c (.v (.bool (κ _ (freeS s p n)))))))
  | _ => none
set_option maxRecDepth 100000 in
set_option maxHeartbeats 4000000 in
theorem k_rfree (s : List Pg) (p : Int) (n : Int) (hside : p ≤ 9223372036854775000) (ns : s.length = 512) (w : World) :
    Calls Try.prog 101 #[(SV.agg (encS s)).den, (SV.c (.v (.int .i64 p))).den, (SV.c (.v (.int .i64 n))).den] w fun e w' => ∃ v H', e = .returned v.den ∧ IsX (.val (.c (.v (.bool (freeS s p n))))) v H' ∧ HSat w (fun _ => False) H' w' := by
  obtain ⟨κ, hκ⟩ : ∃ κ : Kp, κ = kid := ⟨_, rfl⟩
  have hH : HSat w (fun _ => False) (heapOf [(nilId, .rd none 1 0 [])]) w := by
    subst hκ
    refine HSat.reads fun p hp => ?_
    simp only [List.mem_cons, List.not_mem_nil, or_false] at hp
    rcases hp with rfl
    · exact ⟨_, _, _, _, rfl, nil_holds w⟩
  refine (callsP (n := 36) FTok [] mixed [] Try.func101 rfl (by kernel_rfl) #[(SV.agg (encS s)).den, (SV.c (.v (.int .i64 p))).den, (SV.c (.v (.int .i64 n))).den] [(0, .agg (κ _ (encS s))), (1, .c (.v (.int .i64 p))), (2, .c (.v (.int .i64 n)))] _ w rfl [.tmp 6] rfl (by simp) (by subst hκ; simp [SV.den, C.den, kid]) hH (fun v H' => IsX (.val (.c (.v (.bool (κ _ (freeS s p n)))))) v H') hκ ?_).mono ?_
  rotate_left
  · subst hκ; intro e w' h; exact h
  intro P' hP'
  cbv
  repeat' (first | refine And.intro ?_ ?_ | (intro _; cbv) | (refine tst_mk (fun h => ?_) (fun h => ?_) <;> cbv) | (refine LookX.nil ?_; cbv) | (refine LookX.auto hκ ?_; cbv))
  all_goals (try (show _ = true; subst hκ; delta kid; (have ho := encS_ok (s); generalize encS (s) = xs at ho ⊢; cases xs <;> exact ho)))
  all_goals (try (show Side _; refine ⟨?_⟩; subst hκ; delta kid at *; first | exact rfl | exact trivial | exact ⟨rfl, rfl, .inl rfl⟩ | ((try dsimp only at *); (try simp only [setTo_len, noS_len, List.length_append, List.length_cons, List.length_nil, List.length_map, and_self, true_or, or_true, eq_self, true_and, and_true, Nat.zero_add, Nat.add_zero]); (first | done | omega); done)))
  all_goals (try (show IsX _ _ _; (clear hH; subst hκ; delta kid at *; (try dsimp only at *)); first | exact IsX.bool_ (free_a (by with_reducible assumption)).symm | exact IsX.bool_ (free_b (by with_reducible assumption)).symm | exact IsX.bool_ (free_c (by with_reducible assumption)).symm | exact IsX.bool_ (free_d' hside (by with_reducible assumption) (by with_reducible assumption) (by with_reducible assumption) (by with_reducible assumption)).symm))
  rename_i b3 h1 h2 h3
  obtain ⟨w0, w1, w2, w3⟩ : IntKind.i64.wrap (p + n) = ((p.toNat + n.toNat : Nat) : Int) ∧ p = (p.toNat : Int) ∧ p.toNat + n.toNat ≤ 512 ∧ freeS s p n = freeK s p.toNat n.toNat := by subst hκ; exact free_e hside h1 h2 h3 h
  clear h1 h2 h3 h
  refine loopP hP' FTok [] mixed [1, 2, 3] (σ := {k : Nat // k ≤ n.toNat ∧ FreeTo s p.toNat k}) (fun q => [(7, .c (.v (.int .i64 (κ _ ((p.toNat + q.1 : Nat) : Int)))))]) (fun q => [(3, .blk b3 37 (κ _ (encS s)))]) (fun q => n.toNat - q.1) ⟨0, Nat.zero_le _, fun j h1 h2 => absurd h1 (by omega)⟩ [3] ?_ (by decide) ?_ hκ ?_
  · cbv
    all_goals (subst hκ; delta kid; repeat' (first | exact rfl | exact trivial | refine And.intro ?_ ?_ | exact congrArg (Value.int .i64) w1))
  · cbv
    all_goals (subst hκ; delta kid; repeat' (first | exact rfl | exact trivial | refine And.intro ?_ ?_))
  rintro ⟨k, hk, hf⟩
  cbv
  refine tst_mk (fun h => ?_) (fun h => ?_)
  · have hx : k < n.toNat := by subst hκ; delta kid at h; rw [w0] at h; have h2 : ((p.toNat + k : Nat) : Int) < ((p.toNat + n.toNat : Nat) : Int) := of_decide_eq_true h; omega
    have hm : p.toNat + k < 512 := by omega
    cbv
    repeat' (first | refine And.intro ?_ ?_ | (intro _; cbv) | (refine tst_mk (fun h => ?_) (fun h => ?_) <;> cbv) | (refine LookX.nil ?_; cbv) | (refine LookX.auto hκ ?_; cbv) | (refine LookR.mk' (x := .v (.bool (κ _ (nthP s (p.toNat + k)).is))) (by subst hκ; delta kid at *; exact page_is' ns hm) ?_; cbv))
    all_goals (try (show Side _; refine ⟨?_⟩; subst hκ; delta kid at *; first | exact rfl | exact trivial | exact ⟨rfl, rfl, .inl rfl⟩ | ((try dsimp only at *); (try simp only [setTo_len, noS_len, List.length_append, List.length_cons, List.length_nil, List.length_map, and_self, true_or, or_true, eq_self, true_and, and_true, Nat.zero_add, Nat.add_zero]); (first | done | omega); done)))
    all_goals (clear hH; subst hκ; delta kid at *; (try dsimp only at *))
    all_goals (try (exact ⟨page_ix hm⟩))
    · exact IsX.bool_ (w3.trans (free_here hx (by with_reducible assumption))).symm
    · refine ⟨⟨⟨k + 1, (by omega), freeTo_next hf (by with_reducible assumption)⟩, [3], (by show n.toNat - (k + 1) < n.toNat - k; omega), by decide, ?_, ?_⟩⟩
      all_goals repeat' (first | exact rfl | exact trivial | refine And.intro ?_ ?_ | exact congrArg (Value.int .i64) (nat_succ (by omega)))
  · have hx : ¬ k < n.toNat := by subst hκ; delta kid at h; rw [w0] at h; have h2 : ¬ ((p.toNat + k : Nat) : Int) < ((p.toNat + n.toNat : Nat) : Int) := of_decide_eq_false h; omega
    cbv
    (clear hH; subst hκ; delta kid at *; (try dsimp only at *))
    obtain rfl : k = n.toNat := by omega
    exact IsX.bool_ (w3.trans (free_all hf)).symm
def e_rfree {κ : Kp} (hκ : κ = kid) : ESpec Try.prog := fnES [.space, .flat, .flat] b_rfree F_rfree hκ fun avs p r hF hp => by
  unfold F_rfree at hF
  split at hF
  case h_2 => cases hF
  rename_i s p n
  simp only [kid, Option.some.injEq, Prod.mk.injEq] at hF
  obtain ⟨rfl, rfl⟩ := hF
  refine ⟨trivial, fun vs w hR => ?_⟩
  obtain ⟨vs0, rfl, ns, hR⟩ := hR
  obtain ⟨vs1, rfl, hR⟩ := hR
  obtain ⟨vs2, rfl, hR⟩ := hR
  have hR' : vs2 = [] := hR
  subst hR'
  exact k_rfree s p n hp ns w
end Go.Proofs.Ytbcicjmepojlnaa.Eng
/- The longest gap; no condition but those typed. -/
namespace Go.Proofs.Ytbcicjmepojlnaa.Eng
open Go Go.RowKit
set_option autoImplicit false
set_option linter.unusedSimpArgs false
set_option linter.unusedVariables false
end Go.Proofs.Ytbcicjmepojlnaa.Eng
/- mapping: the pure forms; no condition but those typed. -/
namespace Go.Proofs.Ytbcicjmepojlnaa.Eng
open Go Go.RowKit
set_option autoImplicit false
set_option linter.unusedSimpArgs false
set_option linter.unusedVariables false
def bitB (f m : Int) : Bool := bits .and .i64 f m != 0
def lenW (l : List Ar) (lo hi : Int) : Bool := decide ((0 : Int) < ((within2L l lo hi).length : Int))
def fixE (l : List Ar) (a n f : Int) : Int := if (rangeE a n != 0) = true then rangeE a n else if (bitB f 2 && lenW l (rangeLo a n) (rangeHi a n)) = true then 6 else 0
def fixV (l : List Ar) (a n f : Int) : Int := if (fixE l a n f != 0) = true then 0 else a
def pickB (l : List Ar) (n f : Int) : Bool := if bitB f 8 = true then (lowN l 65536 2097152 n).2 else (highN l 65536 2097152 n).2
def pickV (l : List Ar) (n f : Int) : Int := if bitB f 8 = true then (lowN l 65536 2097152 n).1 else (highN l 65536 2097152 n).1
def placeE (l : List Ar) (a n f : Int) : Int := if (!mayS l) = true then 1 else if bitB f 1 = true then fixE l a n f else if (a != 0 && fitsL l a n) = true then 0 else if pickB l n f = true then 0 else 5
def placeV (l : List Ar) (a n f : Int) : Int := if (!mayS l) = true then 0 else if bitB f 1 = true then fixV l a n f else if (a != 0 && fitsL l a n) = true then a else if pickB l n f = true then pickV l n f else 0
def askE (c : Cl) : Int := if (sizeE c.n != 0) = true then sizeE c.n else if (protE c.p != 0) = true then protE c.p else if (flagsE c.f 15 != 0) = true then flagsE c.f 15 else if (bits .and .i64 c.f 3 == 2) = true then 1 else backE c.b c.o (sizeV c.n)
def mapE (l : List Ar) (c : Cl) : Int := if (!mayS l) = true then 1 else if (askE c != 0) = true then askE c else placeE l c.a (sizeV c.n) c.f
def mapV (l : List Ar) (c : Cl) : Int := placeV l c.a (sizeV c.n) c.f
def mapA (l : List Ar) (c : Cl) : Ar := ⟨mapV l c, w64 (mapV l c + sizeV c.n), c.p, bitB c.f 4, c.b, c.o⟩
def mapL (l : List Ar) (c : Cl) : List Ar := if (mapE l c != 0) = true then l else keptL l (putL l (mapA l c))
def mapN (l : List Ar) (c : Cl) : An := if (mapE l c != 0) = true then errA (mapE l c) else keptN (putL l (mapA l c)) (mapV l c)
end Go.Proofs.Ytbcicjmepojlnaa.Eng
/- Contracts of functions (printed by genx.py of this work): what each hands back; condition: as its 'hside' says. -/
namespace Go.Proofs.Ytbcicjmepojlnaa.Eng
open Go Go.RowKit
set_option linter.unusedVariables false
set_option linter.unusedSimpArgs false
end Go.Proofs.Ytbcicjmepojlnaa.Eng
/- Pages put and cut, as lists; some of a range's pages; no condition but those typed. -/
namespace Go.Proofs.Ytbcicjmepojlnaa.Eng
open Go Go.RowKit
set_option autoImplicit false
set_option linter.unusedSimpArgs false
set_option linter.unusedVariables false
theorem put_pages {l : List Ar} (hl : Rt l) {a : Ar} (ha : Fo a) : listS (ofA a (ofL l) (lenA a)) = putL l a := by
  obtain ⟨p1, p2⟩ := of_paints (ofL l) a ha (ofL_len l)
  have hg := good_of hl
  have a1 := ha.s0; have a2 := ha.e0; have a3 := ha.lo; have a4 := ha.hi; have a5 := ha.lt
  have hg2 : GoodS (ofA a (ofL l) (lenA a)) := ⟨p1, fun q hq hi => by
    by_cases hin : inA a (4096 * (q : Int))
    · have e := (p2 q hq).1 hin
      rw [e]
      exact ⟨by have := hin.1; omega, ext_good ha hin (by omega)⟩
    · have e := (p2 q hq).2 hin
      rw [e] at hi ⊢
      exact hg.2 q hq hi⟩
  obtain ⟨l1, l2⟩ := listS_spec hg2
  obtain ⟨s1, s2⟩ := put_spec hl ha
  refine rt_ext l1 s1 fun x t hx => ?_
  rw [l2 x t hx, s2 x t hx]
  constructor
  · rintro ⟨q, rfl, g1, g2, g3, g4⟩
    by_cases hin : inA a (4096 * (q : Int))
    · have e := (p2 q g2).1 hin
      rw [e] at g4
      exact .inl ⟨hin, g4⟩
    · have e := (p2 q g2).2 hin
      rw [e] at g3 g4
      exact .inr ⟨g4 ▸ of_has hl.ok g1 g2 g3, hin⟩
  · rintro (⟨hin, rfl⟩ | ⟨hh, hin⟩)
    · have := hin.1
      have := hin.2
      have ex : 4096 * ((x / 4096).toNat : Int) = x := by omega
      have e := (p2 (x / 4096).toNat (by omega)).1 (by rw [ex]; exact hin)
      refine ⟨(x / 4096).toNat, ex.symm, by omega, by omega, by rw [e]; rfl, ?_⟩
      rw [e]
      show ext a (4096 * ((x / 4096).toNat : Int)) = _
      rw [ex]
    · have := has_range hl.1 hh
      have ex : 4096 * ((x / 4096).toNat : Int) = x := by omega
      have e := (p2 (x / 4096).toNat (by omega)).2 (by rw [ex]; exact hin)
      obtain ⟨e1, e2⟩ := has_of hl.ok (q := (x / 4096).toNat) (t := t) (by rw [ex]; exact hh)
      exact ⟨(x / 4096).toNat, ex.symm, by omega, by omega, by rw [e]; exact e1, by rw [e]; exact e2⟩
def woP (q0 : Nat) (s : List Pg) : Nat → List Pg
  | 0 => s
  | k + 1 => (woP q0 s k).set (q0 + k) noPg
theorem woP_len (q0 : Nat) (s : List Pg) : ∀ k, (woP q0 s k).length = s.length
  | 0 => rfl
  | k + 1 => List.length_set.trans (woP_len q0 s k)
theorem woP_get (q0 : Nat) {s : List Pg} (hs : s.length = 512) : ∀ (k : Nat), q0 + k ≤ 512 → ∀ q : Nat, nthP (woP q0 s k) q = if q0 ≤ q ∧ q < q0 + k then noPg else nthP s q
  | 0, _, q => by rw [if_neg (by omega)]; rfl
  | k + 1, hk, q => by
    have ih := woP_get q0 hs k (by omega)
    show nthP ((woP q0 s k).set (q0 + k) _) q = _
    rw [nthP_set _ (by rw [woP_len, hs]; omega), ih]
    by_cases h : q = q0 + k
    · subst h
      rw [if_pos rfl, if_pos (by omega)]
    · rw [if_neg h]
      by_cases h2 : q0 ≤ q ∧ q < q0 + k
      · rw [if_pos h2, if_pos (by omega)]
      · rw [if_neg h2, if_neg (by omega)]
theorem cut_pages {l : List Ar} (hl : Rt l) {lo hi : Int} (h : RgOk lo hi) : listS (woP (lo / 4096).toNat (ofL l) ((hi / 4096).toNat - (lo / 4096).toNat)) = cutL l lo hi := by
  obtain ⟨h1, h2, h3, h4, h5⟩ := h
  have hg := good_of hl
  have hq : (lo / 4096).toNat + ((hi / 4096).toNat - (lo / 4096).toNat) ≤ 512 := by omega
  have get := woP_get (lo / 4096).toNat hg.1 _ hq
  obtain ⟨s1, s2⟩ := cut_spec hl (lo := lo) (hi := hi) (by unfold In64; omega) (by unfold In64; omega)
  have hg2 : GoodS (woP (lo / 4096).toNat (ofL l) ((hi / 4096).toNat - (lo / 4096).toNat)) := ⟨by rw [woP_len, hg.1], fun q hq' hi' => by
    rw [get q] at hi' ⊢
    split at hi'
    · cases hi'
    · rename_i hc
      rw [if_neg hc]
      exact hg.2 q hq' hi'⟩
  obtain ⟨l1, l2⟩ := listS_spec hg2
  refine rt_ext l1 s1 fun x t hx => ?_
  rw [l2 x t hx, s2 x t hx]
  constructor
  · rintro ⟨q, rfl, g1, g2, g3, g4⟩
    rw [get q] at g3 g4
    split at g3
    · cases g3
    · rename_i hc
      rw [if_neg hc] at g4
      refine ⟨g4 ▸ of_has hl.ok g1 g2 g3, fun ht => hc ?_⟩
      have := ht.2.1
      have := ht.2.2
      omega
  · rintro ⟨g1, g2⟩
    have := has_range hl.1 g1
    have ex : 4096 * ((x / 4096).toNat : Int) = x := by omega
    obtain ⟨e1, e2⟩ := has_of hl.ok (q := (x / 4096).toNat) (t := t) (by rw [ex]; exact g1)
    have e : nthP (woP (lo / 4096).toNat (ofL l) ((hi / 4096).toNat - (lo / 4096).toNat)) (x / 4096).toNat = nthP (ofL l) (x / 4096).toNat := by
      rw [get, if_neg]
      intro hc
      exact g2 ⟨h3, by omega, by omega⟩
    exact ⟨(x / 4096).toNat, ex.symm, by omega, by omega, by rw [e]; exact e1, by rw [e]; exact e2⟩
end Go.Proofs.Ytbcicjmepojlnaa.Eng
/- The reference's With, Without, Some: pages put, cut, found; no condition but those typed. -/
namespace Go.Proofs.Ytbcicjmepojlnaa.Eng
open Go Go.RowKit
set_option autoImplicit false
set_option linter.unusedSimpArgs false
set_option linter.unusedVariables false
def offW (b o : Int) : Nat → Int
  | 0 => o
  | k + 1 => if decide (0 < b) = true then IntKind.i64.wrap (offW b o k + 4096) else offW b o k
theorem offW_y {b o : Int} {k : Nat} (h : decide (0 < b) = true) : IntKind.i64.wrap (offW b o k + 4096) = offW b o (k + 1) := (if_pos h).symm
theorem offW_n {b o : Int} {k : Nat} (h : decide (0 < b) = false) : offW b o k = offW b o (k + 1) := (if_neg (by rw [h]; simp)).symm
def pgW (t : At) (k : Nat) : Pg := ⟨true, ⟨t.p, t.sh, t.b, offW t.b t.o k⟩⟩
def withP (t : At) (q0 : Nat) (s : List Pg) : Nat → List Pg
  | 0 => s
  | k + 1 => (withP t q0 s k).set (q0 + k) (pgW t k)
theorem withP_len (t : At) (q0 : Nat) (s : List Pg) : ∀ k, (withP t q0 s k).length = s.length
  | 0 => rfl
  | k + 1 => List.length_set.trans (withP_len t q0 s k)
theorem withP_get (t : At) (q0 : Nat) {s : List Pg} (hs : s.length = 512) : ∀ (k : Nat), q0 + k ≤ 512 → ∀ q : Nat, nthP (withP t q0 s k) q = if q0 ≤ q ∧ q < q0 + k then pgW t (q - q0) else nthP s q
  | 0, _, q => by rw [if_neg (by omega)]; rfl
  | k + 1, hk, q => by
    have ih := withP_get t q0 hs k (by omega)
    show nthP ((withP t q0 s k).set (q0 + k) _) q = _
    rw [nthP_set _ (by rw [withP_len, hs]; omega), ih]
    by_cases h : q = q0 + k
    · subst h
      rw [if_pos rfl, if_pos (by omega), show q0 + k - q0 = k by omega]
    · rw [if_neg h]
      by_cases h2 : q0 ≤ q ∧ q < q0 + k
      · rw [if_pos h2, if_pos (by omega)]
      · rw [if_neg h2, if_neg (by omega)]
theorem offW_eq {b o : Int} (hb : 0 < b) (h0 : 0 ≤ o) : ∀ k : Nat, k ≤ 512 → o ≤ 1099511627776 → offW b o k = o + 4096 * (k : Int)
  | 0, _, _ => by show o = _; omega
  | k + 1, hk, ho => by
    have ih := offW_eq hb h0 k (by omega) ho
    show (if _ then _ else _) = _
    rw [if_pos (by rw [decide_eq_true_eq]; exact hb), ih]
    have e : IntKind.i64.wrap (o + 4096 * (k : Int) + 4096) = o + 4096 * (k : Int) + 4096 := w64_id (by unfold In64; omega)
    rw [e]
    omega
theorem offW_0 {b o : Int} (hb : ¬ 0 < b) : ∀ k : Nat, offW b o k = o
  | 0 => rfl
  | k + 1 => by
    show (if _ then _ else _) = _
    rw [if_neg (by rw [decide_eq_true_eq]; exact hb)]
    exact offW_0 hb k
theorem pg_ext {s t : List Pg} (h1 : s.length = 512) (h2 : t.length = 512) (h : ∀ q, q < 512 → nthP s q = nthP t q) : s = t := by
  refine List.ext_getElem (by rw [h1, h2]) fun q hq hq2 => ?_
  have e := h q (by omega)
  have e1 := nthP_get hq
  have e2 := nthP_get hq2
  rw [List.getElem?_eq_getElem hq] at e1
  rw [List.getElem?_eq_getElem hq2] at e2
  injection e1 with e1
  injection e2 with e2
  rw [e1, e2, e]
theorem with_of {a : Ar} (ha : Fo a) {s : List Pg} (hs : s.length = 512) : withP ⟨a.p, a.sh, a.b, a.o⟩ (a.s / 4096).toNat s (lenA a) = ofA a s (lenA a) := by
  have a1 := ha.s0; have a2 := ha.e0; have a3 := ha.lo; have a4 := ha.hi; have a5 := ha.lt; have a6 := ha.b0
  have hl : (lenA a : Int) = a.e / 4096 - a.s / 4096 := by unfold lenA; omega
  refine pg_ext (by rw [withP_len, hs]) (by rw [ofA_len, hs]) fun q hq => ?_
  rw [withP_get _ _ hs _ (by omega), ofA_get ha hs _ (Nat.le_refl _)]
  by_cases h : (a.s / 4096).toNat ≤ q ∧ q < (a.s / 4096).toNat + lenA a
  · rw [if_pos h, if_pos (by omega)]
    unfold pgW pgOf ext
    congr 2
    show offW a.b a.o _ = offP a _
    unfold offP
    by_cases hb : a.b = 0
    · rw [if_pos hb, offW_0 (by omega)]
      exact ha.oz hb
    · have hm := ha.om hb
      rw [if_neg hb, offW_eq (by omega) (by omega) _ (by omega) (by omega)]
      omega
  · rw [if_neg h, if_neg (by omega)]
theorem page_put5 {s : List Pg} (hs : s.length = 512) {m : Nat} (hm : m < 512) (p : Pg) : putCells (encS s) (0 + ((m : Nat) : Int).toNat * 5) [.v (.bool p.is), .v (.int .i64 p.t.p), .v (.bool p.t.sh), .v (.int .i64 p.t.b), .v (.int .i64 p.t.o)] = encS (s.set m p) := by
  rw [Int.toNat_natCast, Nat.zero_add]
  exact page_put p (by omega)
theorem page_fit5 {s : List Pg} (hs : s.length = 512) {m : Nat} (hm : m < 512) : 0 + ((m : Nat) : Int).toNat * 5 + 5 ≤ (encS s).length := by
  rw [encS_len, hs, Int.toNat_natCast]
  omega
end Go.Proofs.Ytbcicjmepojlnaa.Eng
/- Contracts of functions (printed by genx.py of this work): what each hands back; condition: as its 'hside' says. -/
namespace Go.Proofs.Ytbcicjmepojlnaa.Eng
open Go Go.RowKit
set_option linter.unusedVariables false
set_option linter.unusedSimpArgs false
theorem b_rwithout : Bodied Try.prog 122 := bodied Try.func122 rfl (by decide)
def F_rwithout : FunX := fun κ avs => match avs with
  | [.spc s, .val (.c (.v (.int .i64 lo))), .val (.c (.v (.int .i64 hi)))] => some (κ _ (0 ≤ lo ∧ lo ≤ hi ∧ hi ≤ 2097152), (.val (.agg (κ _ (encS (woP (lo / 4096).toNat s ((hi / 4096).toNat - (lo / 4096).toNat)))))))
  | _ => none
set_option maxRecDepth 100000 in
set_option maxHeartbeats 4000000 in
theorem k_rwithout (s : List Pg) (lo : Int) (hi : Int) (hside : 0 ≤ lo ∧ lo ≤ hi ∧ hi ≤ 2097152) (ns : s.length = 512) (w : World) :
    Calls Try.prog 122 #[(SV.agg (encS s)).den, (SV.c (.v (.int .i64 lo))).den, (SV.c (.v (.int .i64 hi))).den] w fun e w' => ∃ v H', e = .returned v.den ∧ IsX (.val (.agg (encS (woP (lo / 4096).toNat s ((hi / 4096).toNat - (lo / 4096).toNat))))) v H' ∧ HSat w (fun _ => False) H' w' := by
  obtain ⟨κ, hκ⟩ : ∃ κ : Kp, κ = kid := ⟨_, rfl⟩
  have hH : HSat w (fun _ => False) (heapOf [(nilId, .rd none 1 0 [])]) w := by
    subst hκ
    refine HSat.reads fun p hp => ?_
    simp only [List.mem_cons, List.not_mem_nil, or_false] at hp
    rcases hp with rfl
    · exact ⟨_, _, _, _, rfl, nil_holds w⟩
  refine (callsP (n := 20) FTok [] mixed [] Try.func122 rfl (by kernel_rfl) #[(SV.agg (encS s)).den, (SV.c (.v (.int .i64 lo))).den, (SV.c (.v (.int .i64 hi))).den] [(0, .agg (κ _ (encS s))), (1, .c (.v (.int .i64 lo))), (2, .c (.v (.int .i64 hi)))] _ w rfl [.cell 6 37] rfl (by simp) (by subst hκ; simp [SV.den, C.den, kid]) hH (fun v H' => IsX (.val (.agg (κ _ (encS (woP (lo / 4096).toNat s ((hi / 4096).toNat - (lo / 4096).toNat)))))) v H') hκ ?_).mono ?_
  rotate_left
  · subst hκ; intro e w' h; exact h
  intro P' hP'
  cbv
  repeat' (first | refine And.intro ?_ ?_ | (intro _; cbv) | (refine tst_mk (fun h => ?_) (fun h => ?_) <;> cbv) | (refine LookX.nil ?_; cbv) | (refine LookX.auto hκ ?_; cbv))
  all_goals (try (show _ = true; subst hκ; delta kid; (have ho := encS_ok (s); generalize encS (s) = xs at ho ⊢; cases xs <;> exact ho)))
  all_goals (try (show Side _; (clear hH; subst hκ; delta kid at *; (try dsimp only at *)); exact ⟨by decide⟩))
  rename_i b3 b6
  have hq0 := pro_q (a := lo) hside.1 (by omega)
  have hq1 := pro_q (a := hi) (by omega) hside.2.2
  obtain ⟨q0, e0⟩ : ∃ q, q = (lo / 4096).toNat := ⟨_, rfl⟩
  obtain ⟨q1, e1⟩ : ∃ q, q = (hi / 4096).toNat := ⟨_, rfl⟩
  have w0 : IntKind.i64.wrap (Int.tdiv lo 4096) = (q0 : Int) := by rw [e0]; exact hq0.1
  have w1 : IntKind.i64.wrap (Int.tdiv hi 4096) = (q1 : Int) := by rw [e1]; exact hq1.1
  have hq2 : q1 ≤ 512 := by omega
  have hq3 : q0 ≤ q1 := by omega
  refine loopP hP' FTok [] mixed [1, 2, 3, 6] (σ := {k : Nat // q0 + k ≤ q1}) (fun q => [(7, .c (.v (.int .i64 (κ _ ((q0 + q.1 : Nat) : Int)))))]) (fun q => [(3, .blk b3 37 (κ _ (encS (woP q0 s q.1)))), (6, .blk b6 37 (κ _ (encS noS)))]) (fun q => q1 - (q0 + q.1)) ⟨0, hq3⟩ [3, 6] ?_ (by decide) ?_ hκ ?_
  · cbv
    all_goals (subst hκ; delta kid; repeat' (first | exact rfl | exact trivial | refine And.intro ?_ ?_ | exact congrArg (Value.int .i64) w0))
  · cbv
    all_goals (subst hκ; delta kid; repeat' (first | exact rfl | exact trivial | refine And.intro ?_ ?_ | exact congrArg (List.map C.den) encS_noS))
  rintro ⟨k, hk⟩
  cbv
  refine ⟨⟨by subst hκ; delta kid; decide⟩, ?_⟩
  refine tst_mk (fun h => ?_) (fun h => ?_)
  · have hx : q0 + k < q1 := by subst hκ; delta kid at h; exact pro_lt w1 h
    have hm : q0 + k < 512 := by omega
    have hn : (woP q0 s k).length = 512 := by rw [woP_len, ns]
    cbv
    repeat' (first | refine And.intro ?_ ?_ | (intro _; cbv) | (refine tst_mk (fun h => ?_) (fun h => ?_) <;> cbv) | (refine LookX.nil ?_; cbv) | (refine LookX.auto hκ ?_; cbv))
    all_goals (clear hH; subst hκ; delta kid at *; (try dsimp only at *))
    all_goals (try (exact ⟨page_ix hm⟩))
    all_goals (try (exact ⟨page_fit5 hn hm⟩))
    refine ⟨⟨⟨k + 1, (by omega)⟩, [3, 6], (by show q1 - (q0 + (k + 1)) < q1 - (q0 + k); omega), by decide, ?_, ?_⟩⟩
    all_goals repeat' (first | exact rfl | exact trivial | refine And.intro ?_ ?_ | exact congrArg (Value.int .i64) (nat_succ (by omega)) | exact congrArg (List.map C.den) (page_put5 hn hm noPg))
  · have hx : q0 + k = q1 := by subst hκ; delta kid at h; exact Nat.le_antisymm hk (pro_ge w1 h)
    have hn : (woP q0 s k).length = 512 := by rw [woP_len, ns]
    cbv
    repeat' (first | refine And.intro ?_ ?_ | (intro _; cbv) | (refine tst_mk (fun h => ?_) (fun h => ?_) <;> cbv) | (refine LookX.nil ?_; cbv) | (refine LookX.auto hκ ?_; cbv) | (refine LookN.mk' (x := κ _ (encS (woP q0 s k))) (by subst hκ; delta kid at *; exact whole_take hn) ?_; cbv) | (refine LookN.mk' (x := κ _ (encS (woP q0 s k))) (by subst hκ; delta kid at *; exact whole_put hn noS_len) ?_; cbv))
    all_goals (try (show _ = true; subst hκ; delta kid; (have ho := encS_ok (woP q0 s k); generalize encS (woP q0 s k) = xs at ho ⊢; cases xs <;> exact ho)))
    all_goals (try (show 2560 = _; subst hκ; delta kid; (have ho := encS_len2 (s := woP q0 s k) (hn); generalize encS (woP q0 s k) = xs at ho ⊢; cases xs <;> exact ho.symm)))
    all_goals (clear hH; subst hκ; delta kid at *; (try dsimp only at *))
    all_goals (try (exact ⟨by rw [encS_len, encS_len, hn, noS_len]; omega⟩))
    obtain rfl : k = q1 - q0 := by omega
    subst e0 e1
    exact IsX.val_ rfl
def e_rwithout {κ : Kp} (hκ : κ = kid) : ESpec Try.prog := fnES [.space, .flat, .flat] b_rwithout F_rwithout hκ fun avs p r hF hp => by
  unfold F_rwithout at hF
  split at hF
  case h_2 => cases hF
  rename_i s lo hi
  simp only [kid, Option.some.injEq, Prod.mk.injEq] at hF
  obtain ⟨rfl, rfl⟩ := hF
  refine ⟨trivial, fun vs w hR => ?_⟩
  obtain ⟨vs0, rfl, ns, hR⟩ := hR
  obtain ⟨vs1, rfl, hR⟩ := hR
  obtain ⟨vs2, rfl, hR⟩ := hR
  have hR' : vs2 = [] := hR
  subst hR'
  exact k_rwithout s lo hi hp ns w
theorem b_rwith : Bodied Try.prog 121 := bodied Try.func121 rfl (by decide)
def F_rwith : FunX := fun κ avs => match avs with
  | [.spc s, .val (.c (.v (.int .i64 lo))), .val (.c (.v (.int .i64 hi))), .val (.agg [.v (.int .i64 t1), .v (.bool t2), .v (.int .i64 t3), .v (.int .i64 t4)])] => some (κ _ (0 ≤ lo ∧ lo ≤ hi ∧ hi ≤ 2097152), (.val (.agg (κ _ (encS (withP (⟨t1, t2, t3, t4⟩ : At) (lo / 4096).toNat s ((hi / 4096).toNat - (lo / 4096).toNat)))))))
  | _ => none
set_option maxRecDepth 100000 in
set_option maxHeartbeats 4000000 in
theorem k_rwith (s : List Pg) (lo : Int) (hi : Int) (t1 : Int) (t2 : Bool) (t3 : Int) (t4 : Int) (hside : 0 ≤ lo ∧ lo ≤ hi ∧ hi ≤ 2097152) (ns : s.length = 512) (w : World) :
    Calls Try.prog 121 #[(SV.agg (encS s)).den, (SV.c (.v (.int .i64 lo))).den, (SV.c (.v (.int .i64 hi))).den, (SV.agg [.v (.int .i64 t1), .v (.bool t2), .v (.int .i64 t3), .v (.int .i64 t4)]).den] w fun e w' => ∃ v H', e = .returned v.den ∧ IsX (.val (.agg (encS (withP (⟨t1, t2, t3, t4⟩ : At) (lo / 4096).toNat s ((hi / 4096).toNat - (lo / 4096).toNat))))) v H' ∧ HSat w (fun _ => False) H' w' := by
  obtain ⟨κ, hκ⟩ : ∃ κ : Kp, κ = kid := ⟨_, rfl⟩
  have hH : HSat w (fun _ => False) (heapOf [(nilId, .rd none 1 0 [])]) w := by
    subst hκ
    refine HSat.reads fun p hp => ?_
    simp only [List.mem_cons, List.not_mem_nil, or_false] at hp
    rcases hp with rfl
    · exact ⟨_, _, _, _, rfl, nil_holds w⟩
  refine (callsP (n := 30) FTok [] mixed [] Try.func121 rfl (by kernel_rfl) #[(SV.agg (encS s)).den, (SV.c (.v (.int .i64 lo))).den, (SV.c (.v (.int .i64 hi))).den, (SV.agg [.v (.int .i64 t1), .v (.bool t2), .v (.int .i64 t3), .v (.int .i64 t4)]).den] [(0, .agg (κ _ (encS s))), (1, .c (.v (.int .i64 lo))), (2, .c (.v (.int .i64 hi))), (3, .agg [.v (.int .i64 t1), .v (.bool t2), .v (.int .i64 t3), .v (.int .i64 t4)])] _ w rfl [.cell 8 37] rfl (by simp) (by subst hκ; simp [SV.den, C.den, kid]) hH (fun v H' => IsX (.val (.agg (κ _ (encS (withP (⟨t1, t2, t3, t4⟩ : At) (lo / 4096).toNat s ((hi / 4096).toNat - (lo / 4096).toNat)))))) v H') hκ ?_).mono ?_
  rotate_left
  · subst hκ; intro e w' h; exact h
  intro P' hP'
  cbv
  repeat' (first | refine And.intro ?_ ?_ | (intro _; cbv) | (refine tst_mk (fun h => ?_) (fun h => ?_) <;> cbv) | (refine LookX.nil ?_; cbv) | (refine LookX.auto hκ ?_; cbv))
  all_goals (try (show _ = true; subst hκ; delta kid; (have ho := encS_ok (s); generalize encS (s) = xs at ho ⊢; cases xs <;> exact ho)))
  all_goals (try (show Side _; (clear hH; subst hκ; delta kid at *; (try dsimp only at *)); exact ⟨by decide⟩))
  rename_i b4 b7 b8
  have hq0 := pro_q (a := lo) hside.1 (by omega)
  have hq1 := pro_q (a := hi) (by omega) hside.2.2
  obtain ⟨q0, e0⟩ : ∃ q, q = (lo / 4096).toNat := ⟨_, rfl⟩
  obtain ⟨q1, e1⟩ : ∃ q, q = (hi / 4096).toNat := ⟨_, rfl⟩
  have w0 : IntKind.i64.wrap (Int.tdiv lo 4096) = (q0 : Int) := by rw [e0]; exact hq0.1
  have w1 : IntKind.i64.wrap (Int.tdiv hi 4096) = (q1 : Int) := by rw [e1]; exact hq1.1
  have hq2 : q1 ≤ 512 := by omega
  have hq3 : q0 ≤ q1 := by omega
  refine loopP hP' FTok [] mixed [1, 2, 4, 7, 8] (σ := {k : Nat // q0 + k ≤ q1}) (fun q => [(9, .c (.v (.int .i64 (κ _ ((q0 + q.1 : Nat) : Int)))))]) (fun q => [(4, .blk b4 37 (κ _ (encS (withP (⟨t1, t2, t3, t4⟩ : At) q0 s q.1)))), (7, .blk b7 29 [.v (.int .i64 t1), .v (.bool t2), .v (.int .i64 t3), .v (.int .i64 (κ _ (offW t3 t4 q.1)))]), (8, .blk b8 37 (κ _ (encS noS)))]) (fun q => q1 - (q0 + q.1)) ⟨0, hq3⟩ [4, 7, 8] ?_ (by decide) ?_ hκ ?_
  · cbv
    all_goals (subst hκ; delta kid; repeat' (first | exact rfl | exact trivial | refine And.intro ?_ ?_ | exact congrArg (Value.int .i64) w0))
  · cbv
    all_goals (subst hκ; delta kid; repeat' (first | exact rfl | exact trivial | refine And.intro ?_ ?_ | exact congrArg (List.map C.den) encS_noS))
  rintro ⟨k, hk⟩
  cbv
  refine ⟨⟨by subst hκ; delta kid; decide⟩, ?_⟩
  refine tst_mk (fun h => ?_) (fun h => ?_)
  · have hx : q0 + k < q1 := by subst hκ; delta kid at h; exact pro_lt w1 h
    have hm : q0 + k < 512 := by omega
    have hn : (withP (⟨t1, t2, t3, t4⟩ : At) q0 s k).length = 512 := by rw [withP_len, ns]
    cbv
    repeat' (first | refine And.intro ?_ ?_ | (intro _; cbv) | (refine tst_mk (fun h => ?_) (fun h => ?_) <;> cbv) | (refine LookX.nil ?_; cbv) | (refine LookX.auto hκ ?_; cbv))
    all_goals (clear hH; subst hκ; delta kid at *; (try dsimp only at *))
    all_goals (try (exact ⟨page_ix hm⟩))
    all_goals (try (exact ⟨page_fit5 hn hm⟩))
    all_goals refine ⟨⟨⟨k + 1, (by omega)⟩, [4, 7, 8], (by show q1 - (q0 + (k + 1)) < q1 - (q0 + k); omega), by decide, ?_, ?_⟩⟩
    all_goals repeat' (first | exact rfl | exact trivial | refine And.intro ?_ ?_ | exact congrArg (Value.int .i64) (nat_succ (by omega)) | exact congrArg (fun v => List.map C.den [C.v (.int .i64 t1), .v (.bool t2), .v (.int .i64 t3), .v (.int .i64 v)]) (offW_y h) | exact congrArg (fun v => List.map C.den [C.v (.int .i64 t1), .v (.bool t2), .v (.int .i64 t3), .v (.int .i64 v)]) (offW_n h) | exact congrArg (List.map C.den) (page_put5 hn hm (pgW (⟨t1, t2, t3, t4⟩ : At) k)))
  · have hx : q0 + k = q1 := by subst hκ; delta kid at h; exact Nat.le_antisymm hk (pro_ge w1 h)
    have hn : (withP (⟨t1, t2, t3, t4⟩ : At) q0 s k).length = 512 := by rw [withP_len, ns]
    cbv
    repeat' (first | refine And.intro ?_ ?_ | (intro _; cbv) | (refine tst_mk (fun h => ?_) (fun h => ?_) <;> cbv) | (refine LookX.nil ?_; cbv) | (refine LookX.auto hκ ?_; cbv) | (refine LookN.mk' (x := κ _ (encS (withP (⟨t1, t2, t3, t4⟩ : At) q0 s k))) (by subst hκ; delta kid at *; exact whole_take hn) ?_; cbv) | (refine LookN.mk' (x := κ _ (encS (withP (⟨t1, t2, t3, t4⟩ : At) q0 s k))) (by subst hκ; delta kid at *; exact whole_put hn noS_len) ?_; cbv))
    all_goals (try (show _ = true; subst hκ; delta kid; (have ho := encS_ok (withP (⟨t1, t2, t3, t4⟩ : At) q0 s k); generalize encS (withP (⟨t1, t2, t3, t4⟩ : At) q0 s k) = xs at ho ⊢; cases xs <;> exact ho)))
    all_goals (try (show 2560 = _; subst hκ; delta kid; (have ho := encS_len2 (s := withP (⟨t1, t2, t3, t4⟩ : At) q0 s k) (hn); generalize encS (withP (⟨t1, t2, t3, t4⟩ : At) q0 s k) = xs at ho ⊢; cases xs <;> exact ho.symm)))
    all_goals (clear hH; subst hκ; delta kid at *; (try dsimp only at *))
    all_goals (try (exact ⟨by rw [encS_len, encS_len, hn, noS_len]; omega⟩))
    obtain rfl : k = q1 - q0 := by omega
    subst e0 e1
    exact IsX.val_ rfl
def e_rwith {κ : Kp} (hκ : κ = kid) : ESpec Try.prog := fnES [.space, .flat, .flat, .flat] b_rwith F_rwith hκ fun avs p r hF hp => by
  unfold F_rwith at hF
  split at hF
  case h_2 => cases hF
  rename_i s lo hi t1 t2 t3 t4
  simp only [kid, Option.some.injEq, Prod.mk.injEq] at hF
  obtain ⟨rfl, rfl⟩ := hF
  refine ⟨trivial, fun vs w hR => ?_⟩
  obtain ⟨vs0, rfl, ns, hR⟩ := hR
  obtain ⟨vs1, rfl, hR⟩ := hR
  obtain ⟨vs2, rfl, hR⟩ := hR
  obtain ⟨vs3, rfl, hR⟩ := hR
  have hR' : vs3 = [] := hR
  subst hR'
  exact k_rwith s lo hi t1 t2 t3 t4 hp ns w
end Go.Proofs.Ytbcicjmepojlnaa.Eng
/- The reference's Unmap, as the program's; no condition but those typed. -/
namespace Go.Proofs.Ytbcicjmepojlnaa.Eng
open Go Go.RowKit
set_option autoImplicit false
set_option linter.unusedSimpArgs false
set_option linter.unusedVariables false
section
variable {l : List Ar} {c : Cl}
end
theorem kept_len (l now : List Ar) : (keptL l now).length ≤ l.length + 24 := by
  unfold keptL
  split
  · omega
  · rename_i h
    have h2 : decide ((24 : Int) < (now.length : Int)) = false := by simpa using h
    have := of_decide_eq_false h2
    omega
theorem keptN_er {now l : List Ar} {v : Int} (h : ((keptN now v).er != 0) = true) : keptL l now = l := by
  unfold keptN at h
  unfold keptL
  split at h
  · rename_i h2
    rw [if_pos h2]
  · cases h
end Go.Proofs.Ytbcicjmepojlnaa.Eng
/- Contracts of functions (printed by genx.py of this work): what each hands back; condition: as its 'hside' says. -/
namespace Go.Proofs.Ytbcicjmepojlnaa.Eng
open Go Go.RowKit
set_option linter.unusedVariables false
set_option linter.unusedSimpArgs false
end Go.Proofs.Ytbcicjmepojlnaa.Eng
/- Flags; the reference's Place, as the program's; no condition but those typed. -/
namespace Go.Proofs.Ytbcicjmepojlnaa.Eng
open Go Go.RowKit
set_option autoImplicit false
set_option linter.unusedSimpArgs false
set_option linter.unusedVariables false
set_option linter.unusedSectionVars false
section
variable {l : List Ar} {a n f : Int} (hm : mayS l = true) (h64 : In64 n) (hf : 0 ≤ f ∧ f ≤ 255)
include hm hf
include h64
end
end Go.Proofs.Ytbcicjmepojlnaa.Eng
/- Contracts of functions (printed by genx.py of this work): what each hands back; condition: as its 'hside' says. -/
namespace Go.Proofs.Ytbcicjmepojlnaa.Eng
open Go Go.RowKit
set_option linter.unusedVariables false
set_option linter.unusedSimpArgs false
end Go.Proofs.Ytbcicjmepojlnaa.Eng
/- What is asked of a map; no condition but those typed. -/
namespace Go.Proofs.Ytbcicjmepojlnaa.Eng
open Go Go.RowKit
set_option autoImplicit false
set_option linter.unusedSimpArgs false
set_option linter.unusedVariables false
set_option linter.unusedSectionVars false
section
variable {l : List Ar} {c : Cl} (hm : mayS l = true)
include hm
end
section
variable {c : Cl} (hs : (sizeE c.n == 0) = true)
include hs
end
end Go.Proofs.Ytbcicjmepojlnaa.Eng
/- Contracts of functions (printed by genx.py of this work): what each hands back; condition: as its 'hside' says. -/
namespace Go.Proofs.Ytbcicjmepojlnaa.Eng
open Go Go.RowKit
set_option linter.unusedVariables false
set_option linter.unusedSimpArgs false
end Go.Proofs.Ytbcicjmepojlnaa.Eng
/- What a map comes to, where it comes about: free places, what is mapped again; no condition but those typed. -/
namespace Go.Proofs.Ytbcicjmepojlnaa.Eng
open Go Go.RowKit
set_option autoImplicit false
set_option linter.unusedSimpArgs false
set_option linter.unusedVariables false
set_option linter.unusedSectionVars false
structure AskOk (c : Cl) : Prop where
  sz : sizeE c.n = 0
  p0 : 0 ≤ c.p
  p7 : c.p ≤ 7
  f0 : 0 ≤ c.f
  f15 : c.f ≤ 15
  f2 : (bits .and .i64 c.f 3 == 2) = false
  b : backE c.b c.o (sizeV c.n) = 0
structure MapOk (l : List Ar) (c : Cl) : Prop where
  ask : AskOk c
  pl : placeE l c.a (sizeV c.n) c.f = 0
  fo : Fo (mapA l c)
  e : (mapA l c).e = mapV l c + sizeV c.n
  eq : mapL l c = putL l (mapA l c)
  n : mapN l c = okA (mapV l c)
  le : (putL l (mapA l c)).length ≤ 24
theorem put_cut {l : List Ar} (hl : Rt l) {a : Ar} (ha : Fo a) (hf : FreeR l a.s a.e) : cutL (putL l a) a.s a.e = l := by
  obtain ⟨s1, s2⟩ := put_spec hl ha
  obtain ⟨i1, i2⟩ := fo_in ha
  obtain ⟨c1, c2⟩ := cut_spec s1 i1 i2
  refine rt_ext c1 hl fun x t hx => ?_
  rw [c2 x t hx, s2 x t hx, touch_ar ha hx]
  constructor
  · rintro ⟨⟨h1, _⟩ | ⟨h1, _⟩, h3⟩
    · exact absurd h1 h3
    · exact h1
  · intro h
    have h3 : ¬ inA a x := fun hc => hf x hx hc.1 hc.2 t h
    exact ⟨.inr ⟨h, h3⟩, h3⟩
end Go.Proofs.Ytbcicjmepojlnaa.Eng
/- The break: the pure forms; what the reference's pages come to; no condition but those typed. -/
namespace Go.Proofs.Ytbcicjmepojlnaa.Eng
open Go Go.RowKit
set_option autoImplicit false
set_option linter.unusedSimpArgs false
set_option linter.unusedVariables false
set_option linter.unusedSectionVars false
theorem le24 (l : List Ar) : decide ((24 : Int) < (l.length : Int)) = !decide ((l.length : Int) ≤ 24) := by
  rw [Bool.eq_iff_iff, Bool.not_eq_true', decide_eq_true_eq, decide_eq_false_iff_not]
  omega
theorem IsX.row3 {mk : C → SV} {r r' : List Ar} {i c2 : Nat} {A2 : Option Addr} {v k k2 : SV} {H' : Heap} (hv : v = .tup [.c (.sl i A2 r'.length c2), k, k2]) (hH : H' i = some (.row A2 c2 53 6 r'.length (encL r'))) (hm : ∀ x, mk x = .tup [.c x, k, k2]) (h : r' = r) : IsX (.row 53 6 r.length (encL r) mk) v H' :=
  IsX.row_ h (hv.trans (hm _).symm) hH
theorem IsX.same3 {b : Bool} {x : C} {mk1 mk2 : C → SV} {r : List Ar} {v k k2 : SV} {H' : Heap} (hv : v = .tup [.c x, k, k2]) (hm : ∀ x, mk1 x = .tup [.c x, k, k2]) (hb : b = true) : IsX (.alt b x mk1 r mk2) v H' :=
  IsX.same_ hb (by rw [hv, hm])
theorem IsX.new3 {b : Bool} {x : C} {mk1 mk2 : C → SV} {r r' : List Ar} {i c2 : Nat} {A2 : Option Addr} {v k k2 : SV} {H' : Heap} (hv : v = .tup [.c (.sl i A2 r'.length c2), k, k2]) (hH : H' i = some (.row A2 c2 53 6 r'.length (encL r'))) (hm : ∀ x, mk2 x = .tup [.c x, k, k2]) (hb : b = false) (h : r' = r) : IsX (.alt b x mk1 r mk2) v H' :=
  IsX.new_ hb h (hv.trans (hm _).symm) hH
def brkR (n : Int) : Bool := decide (65536 ≤ n) && decide (n ≤ 327680)
def brkE (l : List Ar) (m w : Int) : Int := if (!mayS l || !brkR m) = true then 1 else if (w == 0) = true then 0 else if (!brkR w) = true then 4 else if (decide (upG m < upG w) && !fitsL l (upG m) (w64 (upG w - upG m))) = true then 5 else 0
def brkStay (a b : Int) : Bool := !decide (a < b) && !decide (b < a)
def brkMv (l : List Ar) (a b : Int) : List Ar := if decide (a < b) = true then putL l ⟨a, b, 3, false, 0, 0⟩ else if decide (b < a) = true then cutL l b a else l
theorem mv_1 {l : List Ar} {a b : Int} (h : decide (a < b) = true) : brkStay a b = false ∧ putL l ⟨a, b, 3, false, 0, 0⟩ = brkMv l a b := by
  unfold brkStay brkMv
  rw [h]
  exact ⟨rfl, rfl⟩
theorem mv_2 {l : List Ar} {a b : Int} (h : decide (a < b) = false) (h2 : decide (b < a) = true) : brkStay a b = false ∧ cutL l b a = brkMv l a b := by
  unfold brkStay brkMv
  rw [h, h2]
  exact ⟨rfl, rfl⟩
theorem mv_3 {a b : Int} (h : decide (a < b) = false) (h2 : decide (b < a) = false) : brkStay a b = true := by
  unfold brkStay
  rw [h, h2]
  rfl
theorem mv_4 {l : List Ar} {a b : Int} (h : brkStay a b = true) : l = brkMv l a b := by
  unfold brkStay at h
  rw [Bool.and_eq_true, Bool.not_eq_true', Bool.not_eq_true'] at h
  unfold brkMv
  rw [h.1, h.2]
  rfl
def brkK (l : List Ar) (m w : Int) : List Ar := brkMv l (upG m) (upG w)
def brkL (l : List Ar) (m w : Int) : List Ar := if (brkE l m w != 0) = true then l else if (w == 0) = true then l else keptL l (brkK l m w)
def brkN (l : List Ar) (m w : Int) : An := if (brkE l m w != 0) = true then errA (brkE l m w) else if (w == 0) = true then okA m else keptN (brkK l m w) w
def brkV (l : List Ar) (m w : Int) : Int := if (brkE l m w != 0) = true then m else if (w == 0) = true then m else if ((keptN (brkK l m w) w).er != 0) = true then m else w
def brkSame (l : List Ar) (m w : Int) : Bool := (w == 0) || ((brkN l m w).er != 0)
def endB (n : Int) : Int := (n + 4095) / 4096
structure BrOk (n : Int) : Prop where
  lo : 65536 ≤ n
  hi : n ≤ 327680
theorem br_iff (n : Int) : brkR n = true ↔ BrOk n := by
  unfold brkR
  rw [Bool.and_eq_true, decide_eq_true_eq, decide_eq_true_eq]
  exact ⟨fun h => ⟨h.1, h.2⟩, fun h => ⟨h.lo, h.hi⟩⟩
theorem up_end {n : Int} (h : BrOk n) : upG n = 4096 * endB n ∧ 16 ≤ endB n ∧ endB n ≤ 80 := by
  have h1 := h.lo
  have h2 := h.hi
  rw [up_eq (by omega)]
  unfold endB
  omega
theorem brk_fo {a b : Int} (h1 : 16 ≤ a) (h2 : a < b) (h3 : b ≤ 512) : Fo (⟨4096 * a, 4096 * b, 3, false, 0, 0⟩ : Ar) :=
  fo.1 ((formed_iff _).2 ⟨(by show 4096 * a % 4096 = 0; omega), (by show 4096 * b % 4096 = 0; omega), (by show 65536 ≤ 4096 * a; omega), (by show 4096 * b ≤ 2097152; omega), (by show 4096 * a < 4096 * b; omega), (show (0:Int) ≤ 3 by decide), (show (3:Int) ≤ 7 by decide), (show (0:Int) ≤ 0 by decide), (show (0:Int) ≤ 9 by decide), fun _ => rfl, fun h => absurd rfl h⟩)
theorem brk_put {l : List Ar} (hl : Rt l) {a b : Int} (h1 : 16 ≤ a) (h2 : a < b) (h3 : b ≤ 512) : listS (withP ⟨3, false, 0, 0⟩ (4096 * a / 4096).toNat (ofL l) ((4096 * b / 4096).toNat - (4096 * a / 4096).toNat)) = putL l ⟨4096 * a, 4096 * b, 3, false, 0, 0⟩ := by
  have hf := brk_fo h1 h2 h3
  have e1 := with_of hf (s := ofL l) (ofL_len l)
  have hl2 : lenA (⟨4096 * a, 4096 * b, 3, false, 0, 0⟩ : Ar) = (4096 * b / 4096).toNat - (4096 * a / 4096).toNat := by
    unfold lenA
    show (4096 * b / 4096 - 4096 * a / 4096).toNat = _
    omega
  rw [← put_pages hl hf, ← e1, hl2]
theorem brk_cut {l : List Ar} (hl : Rt l) {a b : Int} (h1 : 16 ≤ a) (h2 : a < b) (h3 : b ≤ 512) : listS (woP (4096 * a / 4096).toNat (ofL l) ((4096 * b / 4096).toNat - (4096 * a / 4096).toNat)) = cutL l (4096 * a) (4096 * b) :=
  cut_pages hl ⟨by omega, by omega, by omega, by omega, by omega⟩
theorem list_of {l : List Ar} (hl : Rt l) : listS (ofL l) = l := by
  obtain ⟨h1, h2⟩ := listS_spec (good_of hl)
  exact rt_ext h1 hl fun x t hx => (h2 x t hx).trans ((of_spec hl.ok).1 x t hx)
theorem free_fits {l : List Ar} (hl : Rt l) {a b : Int} (h1 : 16 ≤ a) (h2 : a < b) (h3 : b ≤ 512) : freeS (ofL l) a (b - a) = fitsL l (4096 * a) (4096 * b - 4096 * a) := by
  have k := freeS_iff hl.ok (a := 4096 * a) (n := 4096 * b - 4096 * a) (by omega) (by omega) (by omega) (by omega)
  have e1 : 4096 * a / 4096 = a := by omega
  have e2 : (4096 * b - 4096 * a) / 4096 = b - a := by omega
  rw [e1, e2] at k
  have h64 : In64 (4096 * b - 4096 * a) := by unfold In64; omega
  have k2 := fits_iff hl (a := 4096 * a) (n := 4096 * b - 4096 * a) (by unfold In64; omega) h64
  rw [Bool.eq_iff_iff, k, k2]
  exact ⟨fun h => ⟨(sizeG_iff h64).2 (by omega), by omega, by omega, by omega, h⟩, fun h => h.2.2.2.2⟩
theorem end_y {n : Int} (h : BrOk n) (h2 : decide (0 < Int.tmod n 4096) = true) : IntKind.i64.wrap (IntKind.i64.wrap (Int.tdiv n 4096) + 1) = endB n := by
  have a1 := h.lo
  have a2 := h.hi
  have h2 := of_decide_eq_true h2
  rw [Int.tmod_eq_emod_of_nonneg (by omega)] at h2
  have e1 : IntKind.i64.wrap (Int.tdiv n 4096) = n / 4096 := by rw [Int.tdiv_eq_ediv_of_nonneg (by omega)]; exact w64_id (by unfold In64; omega)
  have e2 : IntKind.i64.wrap (n / 4096 + 1) = n / 4096 + 1 := w64_id (by unfold In64; omega)
  rw [e1, e2]
  unfold endB
  omega
theorem end_n {n : Int} (h : BrOk n) (h2 : decide (0 < Int.tmod n 4096) = false) : IntKind.i64.wrap (Int.tdiv n 4096) = endB n := by
  have a1 := h.lo
  have a2 := h.hi
  have h2 := of_decide_eq_false h2
  rw [Int.tmod_eq_emod_of_nonneg (by omega)] at h2
  have e1 : IntKind.i64.wrap (Int.tdiv n 4096) = n / 4096 := by rw [Int.tdiv_eq_ediv_of_nonneg (by omega)]; exact w64_id (by unfold In64; omega)
  rw [e1]
  unfold endB
  omega
section
variable {l : List Ar} {m w : Int} (hm : mayS l = true) (hb : brkR m = true)
include hm hb
theorem bk_0 (h : (w == 0) = true) : brkE l m w = 0 ∧ brkN l m w = okA m ∧ brkL l m w = l ∧ brkV l m w = m ∧ brkSame l m w = true := by
  have he : brkE l m w = 0 := by unfold brkE; rw [hm, hb, h]; rfl
  refine ⟨he, ?_, ?_, ?_, ?_⟩
  · unfold brkN; rw [he, h]; rfl
  · unfold brkL; rw [he, h]; rfl
  · unfold brkV; rw [he, h]; rfl
  · unfold brkSame; rw [h]; rfl
theorem bk_bad {e : Int} (he : brkE l m w = e) (h : (e != 0) = true) : brkN l m w = errA e ∧ brkL l m w = l ∧ brkV l m w = m ∧ brkSame l m w = true := by
  have e1 : brkN l m w = errA e := by unfold brkN; rw [he, if_pos h]
  refine ⟨e1, ?_, ?_, ?_⟩
  · unfold brkL; rw [he, if_pos h]
  · unfold brkV; rw [he, if_pos h]
  · unfold brkSame; rw [e1]; show (_ || (e != 0)) = true; rw [h, Bool.or_true]
theorem bk_4 (h : (w == 0) = false) (h2 : brkR w = false) : brkE l m w = 4 := by unfold brkE; rw [hm, hb, h, h2]; rfl
theorem bk_5 (h : (w == 0) = false) (h2 : brkR w = true) (h3 : decide (endB m < endB w) = true) (h4 : freeS (ofL l) (endB m) (IntKind.i64.wrap (endB w - endB m)) = false) : brkE l m w = 5 := by
  obtain ⟨u1, u2, u3⟩ := up_end ((br_iff m).1 hb)
  obtain ⟨v1, v2, v3⟩ := up_end ((br_iff w).1 h2)
  have h3' := of_decide_eq_true h3
  have e : IntKind.i64.wrap (endB w - endB m) = endB w - endB m := w64_id (by unfold In64; omega)
  have e2 : w64 (4096 * endB w - 4096 * endB m) = 4096 * endB w - 4096 * endB m := w64_id (by unfold In64; omega)
  rw [e, free_fits (mayS_rt hm).1 u2 h3' (by omega)] at h4
  unfold brkE
  rw [hm, hb, h, h2, u1, v1, e2, h4, show decide (4096 * endB m < 4096 * endB w) = true by rw [decide_eq_true_eq]; omega]
  rfl
theorem bk_ok (h : (w == 0) = false) (h2 : brkR w = true) (h3 : decide (endB m < endB w) = false ∨ freeS (ofL l) (endB m) (IntKind.i64.wrap (endB w - endB m)) = true) : brkE l m w = 0 := by
  obtain ⟨u1, u2, u3⟩ := up_end ((br_iff m).1 hb)
  obtain ⟨v1, v2, v3⟩ := up_end ((br_iff w).1 h2)
  unfold brkE
  rw [hm, hb, h, h2, u1, v1]
  by_cases hlt : endB m < endB w
  · have h3 := h3.resolve_left (by rw [decide_eq_true hlt]; simp)
    have e : IntKind.i64.wrap (endB w - endB m) = endB w - endB m := w64_id (by unfold In64; omega)
    have e2 : w64 (4096 * endB w - 4096 * endB m) = 4096 * endB w - 4096 * endB m := w64_id (by unfold In64; omega)
    rw [e, free_fits (mayS_rt hm).1 u2 hlt (by omega)] at h3
    rw [e2, h3, Bool.not_true, Bool.and_false]
    rfl
  · rw [show decide (4096 * endB m < 4096 * endB w) = false by rw [decide_eq_false_iff_not]; omega]
    rfl
theorem bk_go (h : (w == 0) = false) (he : brkE l m w = 0) : brkN l m w = keptN (brkK l m w) w ∧ brkL l m w = keptL l (brkK l m w) ∧ brkV l m w = (if ((keptN (brkK l m w) w).er != 0) = true then m else w) := by
  refine ⟨?_, ?_, ?_⟩
  · unfold brkN; rw [he, h]; rfl
  · unfold brkL; rw [he, h]; rfl
  · unfold brkV; rw [he, h]; rfl
theorem bk_k1 (h2 : brkR w = true) (h3 : decide (endB m < endB w) = true) : listS (withP ⟨3, false, 0, 0⟩ (IntKind.i64.wrap (4096 * endB m) / 4096).toNat (ofL l) ((IntKind.i64.wrap (4096 * endB w) / 4096).toNat - (IntKind.i64.wrap (4096 * endB m) / 4096).toNat)) = brkK l m w := by
  obtain ⟨u1, u2, u3⟩ := up_end ((br_iff m).1 hb)
  obtain ⟨v1, v2, v3⟩ := up_end ((br_iff w).1 h2)
  have h3' := of_decide_eq_true h3
  have e : IntKind.i64.wrap (4096 * endB m) = 4096 * endB m := w64_id (by unfold In64; omega)
  have e2 : IntKind.i64.wrap (4096 * endB w) = 4096 * endB w := w64_id (by unfold In64; omega)
  rw [e, e2, brk_put (mayS_rt hm).1 u2 h3' (by omega)]
  unfold brkK brkMv
  rw [u1, v1, if_pos (by rw [decide_eq_true_eq]; omega)]
theorem bk_k2 (h2 : brkR w = true) (h3 : decide (endB m < endB w) = false) : listS (woP (IntKind.i64.wrap (4096 * endB w) / 4096).toNat (ofL l) ((IntKind.i64.wrap (4096 * endB m) / 4096).toNat - (IntKind.i64.wrap (4096 * endB w) / 4096).toNat)) = brkK l m w := by
  obtain ⟨u1, u2, u3⟩ := up_end ((br_iff m).1 hb)
  obtain ⟨v1, v2, v3⟩ := up_end ((br_iff w).1 h2)
  have h3' := of_decide_eq_false h3
  have e : IntKind.i64.wrap (4096 * endB m) = 4096 * endB m := w64_id (by unfold In64; omega)
  have e2 : IntKind.i64.wrap (4096 * endB w) = 4096 * endB w := w64_id (by unfold In64; omega)
  rw [e, e2]
  unfold brkK brkMv
  rw [u1, v1, if_neg (by rw [decide_eq_true_eq]; omega)]
  by_cases hlt : endB w < endB m
  · rw [if_pos (by rw [decide_eq_true_eq]; omega), brk_cut (mayS_rt hm).1 v2 hlt (by omega)]
  · rw [if_neg (by rw [decide_eq_true_eq]; omega)]
    have hq : (4096 * endB m / 4096).toNat - (4096 * endB w / 4096).toNat = 0 := by omega
    rw [hq]
    exact list_of (mayS_rt hm).1
theorem bk_same {X : List Ar} (h : (w == 0) = false) (he : brkE l m w = 0) (hx : X = brkK l m w) (hn : decide ((24 : Int) < (X.length : Int)) = true) : brkN l m w = errA 9 ∧ brkV l m w = m ∧ brkSame l m w = true := by
  subst hx
  obtain ⟨g1, g2, g3⟩ := bk_go hm hb h he
  rw [(kept_no (was := l) hn).2] at g1 g3
  exact ⟨g1, g3, by unfold brkSame; rw [g1, h]; rfl⟩
theorem bk_new {X : List Ar} (h : (w == 0) = false) (he : brkE l m w = 0) (hx : X = brkK l m w) (hn : decide ((24 : Int) < (X.length : Int)) = false) : brkN l m w = okA w ∧ brkV l m w = w ∧ brkSame l m w = false ∧ X = brkL l m w := by
  subst hx
  obtain ⟨g1, g2, g3⟩ := bk_go hm hb h he
  rw [(kept_yes (was := l) hn).2] at g1 g3
  rw [(kept_yes (v := 0) (was := l) hn).1] at g2
  exact ⟨g1, g3, by unfold brkSame; rw [g1, h]; rfl, g2.symm⟩
end
theorem br_s1 {m : Int} (h : brkR m = true) : endB m ≤ 9223372036854775000 := by
  have := (up_end ((br_iff m).1 h)).2.2
  omega
theorem br_s2 {m w : Int} (h1 : brkR m = true) (h2 : brkR w = true) (h3 : decide (endB m < endB w) = true) : 0 ≤ IntKind.i64.wrap (4096 * endB m) ∧ IntKind.i64.wrap (4096 * endB m) ≤ IntKind.i64.wrap (4096 * endB w) ∧ IntKind.i64.wrap (4096 * endB w) ≤ 2097152 := by
  obtain ⟨u1, u2, u3⟩ := up_end ((br_iff m).1 h1)
  obtain ⟨v1, v2, v3⟩ := up_end ((br_iff w).1 h2)
  have h3 := of_decide_eq_true h3
  have e : IntKind.i64.wrap (4096 * endB m) = 4096 * endB m := w64_id (by unfold In64; omega)
  have e2 : IntKind.i64.wrap (4096 * endB w) = 4096 * endB w := w64_id (by unfold In64; omega)
  rw [e, e2]
  omega
theorem br_s3 {m w : Int} (h1 : brkR m = true) (h2 : brkR w = true) (h3 : decide (endB m < endB w) = false) : 0 ≤ IntKind.i64.wrap (4096 * endB w) ∧ IntKind.i64.wrap (4096 * endB w) ≤ IntKind.i64.wrap (4096 * endB m) ∧ IntKind.i64.wrap (4096 * endB m) ≤ 2097152 := by
  obtain ⟨u1, u2, u3⟩ := up_end ((br_iff m).1 h1)
  obtain ⟨v1, v2, v3⟩ := up_end ((br_iff w).1 h2)
  have h3 := of_decide_eq_false h3
  have e : IntKind.i64.wrap (4096 * endB m) = 4096 * endB m := w64_id (by unfold In64; omega)
  have e2 : IntKind.i64.wrap (4096 * endB w) = 4096 * endB w := w64_id (by unfold In64; omega)
  rw [e, e2]
  omega
theorem put_fits {s t : List Pg} (hs : s.length = 512) (ht : t.length = 512) : 0 + (encS t).length ≤ (putCells (List.replicate 512 [C.v (.bool false), .v (.int .i64 0), .v (.bool false), .v (.int .i64 0), .v (.int .i64 0)]).flatten 0 (encS s)).length := by
  rw [zero_put hs, encS_len, encS_len, hs, ht]
  omega
theorem brkMv_bd (l : List Ar) (a b : Int) {n : Nat} (h : l.length ≤ n) (h2 : 2000 ≤ n) : (brkMv l a b).length ≤ n := by
  unfold brkMv
  split
  · exact bd (put_bd _ _) h2
  · split
    · exact bd (cut_bd _ _ _) h2
    · exact h
theorem brk_bd (l : List Ar) (m w : Int) : (brkL l m w).length ≤ l.length + 24 := by
  unfold brkL
  split
  · omega
  · split
    · omega
    · exact kept_len _ _
theorem brk_self {l : List Ar} {m w : Int} (h : ((brkN l m w).er != 0) = true) : brkL l m w = l ∧ brkV l m w = m := by
  unfold brkN at h
  unfold brkL brkV
  by_cases he : (brkE l m w != 0) = true
  · rw [if_pos he, if_pos he]
    exact ⟨rfl, rfl⟩
  · rw [if_neg he] at h ⊢
    rw [if_neg he]
    by_cases hw : (w == 0) = true
    · rw [if_pos hw, if_pos hw]
      exact ⟨rfl, rfl⟩
    · rw [if_neg hw] at h ⊢
      rw [if_neg hw, if_pos h]
      exact ⟨keptN_er h, rfl⟩
end Go.Proofs.Ytbcicjmepojlnaa.Eng
/- The break: moved twice, back, step by step; no condition but those typed. -/
namespace Go.Proofs.Ytbcicjmepojlnaa.Eng
open Go Go.RowKit
set_option autoImplicit false
set_option linter.unusedSimpArgs false
set_option linter.unusedVariables false
set_option linter.unusedSectionVars false
theorem brk_no {l : List Ar} {m w : Int} (h : mayS l = false ∨ brkR m = false) : brkN l m w = errA 1 ∧ brkL l m w = l ∧ brkV l m w = m := by
  have he : brkE l m w = 1 := by
    unfold brkE
    rcases h with h | h <;> rw [h] <;> simp
  unfold brkN brkL brkV
  rw [he]
  exact ⟨rfl, rfl, rfl⟩
theorem kept_er0 {now : List Ar} {v : Int} (h : (keptN now v).er = 0) : now.length ≤ 24 ∧ keptN now v = okA v ∧ ∀ l, keptL l now = now := by
  cases hd : decide ((24 : Int) < (now.length : Int)) with
  | true => rw [(kept_no (was := []) hd).2] at h; cases h
  | false =>
    have := of_decide_eq_false hd
    exact ⟨by omega, (kept_yes (was := []) hd).2, fun l => (kept_yes (v := 0) (was := l) hd).1⟩
theorem brk_same_l {l : List Ar} {m w : Int} (h : brkSame l m w = true) : brkL l m w = l := by
  unfold brkSame at h
  rw [Bool.or_eq_true] at h
  rcases h with h | h
  · unfold brkL
    split
    · rfl
    · rfl
  · exact (brk_self h).1
theorem brk_l1 (l : List Ar) (m w : Int) : (brkL (someL l) m w).length ≤ 300000 := by have := brk_bd (someL l) m w; have := someL_le l; omega
theorem brk_l2 (l : List Ar) (m w : Int) : (brkL (someL l) m w).length ≤ 1000000 := by have := brk_bd (someL l) m w; have := someL_le l; omega
theorem brk_l3 (l : List Ar) (m w m' w' : Int) : (brkL (brkL (someL l) m w) m' w').length ≤ 1000000 := by have := brk_bd (brkL (someL l) m w) m' w'; have := brk_bd (someL l) m w; have := someL_le l; omega
theorem brk_l4 {l : List Ar} (m w : Int) (h : decide ((40 : Int) < (l.length : Int)) = false) : (brkL l m w).length ≤ 1000000 := by have := brk_bd l m w; have := of_decide_eq_false h; omega
structure BrkOk (l : List Ar) (m w : Int) : Prop where
  may : mayS l = true
  br : BrOk m
  c : (w = 0 ∧ brkN l m w = okA m ∧ brkL l m w = l ∧ brkV l m w = m) ∨ (w ≠ 0 ∧ BrOk w ∧ (upG m < upG w → fitsL l (upG m) (w64 (upG w - upG m)) = true) ∧ (brkK l m w).length ≤ 24 ∧ brkN l m w = okA w ∧ brkL l m w = brkK l m w ∧ brkV l m w = w)
theorem brk_yes {l : List Ar} {m w : Int} (h : (brkN l m w).er = 0) : BrkOk l m w := by
  have he : brkE l m w = 0 := by
    unfold brkN at h
    by_cases hb : (brkE l m w != 0) = true
    · rw [if_pos hb] at h; exact h
    · simpa using hb
  have h0 : mayS l = true ∧ brkR m = true := by
    unfold brkE at he
    cases h1 : mayS l with
    | false => rw [h1] at he; cases he
    | true =>
      cases h2 : brkR m with
      | false => rw [h1, h2] at he; cases he
      | true => exact ⟨rfl, rfl⟩
  obtain ⟨hm, hb⟩ := h0
  refine ⟨hm, (br_iff m).1 hb, ?_⟩
  cases hw : (w == 0) with
  | true =>
    obtain ⟨_, k1, k2, k3, _⟩ := bk_0 hm hb hw
    exact .inl ⟨beq_yes hw, k1, k2, k3⟩
  | false =>
    have h1 : brkR w = true ∧ (upG m < upG w → fitsL l (upG m) (w64 (upG w - upG m)) = true) := by
      unfold brkE at he
      rw [hm, hb, hw] at he
      cases h2 : brkR w with
      | false => rw [h2] at he; cases he
      | true =>
        refine ⟨rfl, fun hlt => ?_⟩
        rw [h2, decide_eq_true hlt] at he
        cases h3 : fitsL l (upG m) (w64 (upG w - upG m)) with
        | true => rfl
        | false => rw [h3] at he; cases he
    obtain ⟨g1, g2, g3⟩ := bk_go hm hb hw he
    rw [g1] at h
    obtain ⟨q1, q2, q3⟩ := kept_er0 h
    rw [q2] at g1 g3
    rw [q3] at g2
    exact .inr ⟨beq_no hw, (br_iff w).1 h1.1, h1.2, q1, g1, g2, g3⟩
theorem mv_rt {l : List Ar} (hl : Rt l) {m w : Int} (hm : BrOk m) (hw : BrOk w) : Rt (brkK l m w) := by
  obtain ⟨u1, u2, u3⟩ := up_end hm
  obtain ⟨v1, v2, v3⟩ := up_end hw
  unfold brkK brkMv
  rw [u1, v1]
  split
  · rename_i h
    have h := of_decide_eq_true h
    exact (put_spec hl (brk_fo u2 (by omega) (by omega))).1
  · split
    · exact (cut_spec hl (by unfold In64; omega) (by unfold In64; omega)).1
    · exact hl
theorem brk_may {l : List Ar} {m w : Int} (h : (brkN l m w).er = 0) : mayS (brkL l m w) = true ∧ BrOk (brkV l m w) := by
  have k := brk_yes h
  obtain ⟨hrt, h24⟩ := mayS_rt k.may
  rcases k.c with ⟨h1, h2, h3, h4⟩ | ⟨h1, h2, h3, h4, h5, h6, h7⟩
  · rw [h3, h4]
    exact ⟨k.may, k.br⟩
  · rw [h6, h7]
    exact ⟨rt_mayS (mv_rt hrt k.br h2) h4, h2⟩
theorem brk_idem {l : List Ar} {m : Int} (hm : mayS l = true) (hb : BrOk m) : brkN l m m = okA m ∧ brkL l m m = l ∧ brkV l m m = m := by
  have hbr := (br_iff m).2 hb
  have hw : (m == 0) = false := by
    have := hb.lo
    rw [beq_eq_false_iff_ne]
    omega
  have he : brkE l m m = 0 := by
    unfold brkE
    rw [hm, hbr, hw, show decide (upG m < upG m) = false by rw [decide_eq_false_iff_not]; omega]
    rfl
  obtain ⟨g1, g2, g3⟩ := bk_go hm hbr hw he
  have hk : brkK l m m = l := by
    unfold brkK brkMv
    rw [if_neg (by rw [decide_eq_true_eq]; omega), if_neg (by rw [decide_eq_true_eq]; omega)]
  have hd : decide ((24 : Int) < (l.length : Int)) = false := by
    have := (mayS_rt hm).2
    rw [decide_eq_false_iff_not]
    omega
  rw [hk, (kept_yes (was := l) hd).2] at g1 g3
  rw [hk, (kept_yes (v := 0) (was := l) hd).1] at g2
  exact ⟨g1, g2, g3⟩
theorem brk_zero {l : List Ar} {m : Int} (hm : mayS l = true) (hb : BrOk m) : brkN l m 0 = okA m ∧ brkL l m 0 = l ∧ brkV l m 0 = m := by
  obtain ⟨_, k1, k2, k3, _⟩ := bk_0 (w := 0) hm ((br_iff m).2 hb) rfl
  exact ⟨k1, k2, k3⟩
theorem brk_twice {l : List Ar} {m w : Int} (h : (brkN l m w).er = 0) :
    brkN (brkL l m w) (brkV l m w) (brkV l m w) = okA (brkV l m w) ∧ brkL (brkL l m w) (brkV l m w) (brkV l m w) = brkL l m w ∧ brkV (brkL l m w) (brkV l m w) (brkV l m w) = brkV l m w ∧
    brkN (brkL l m w) (brkV l m w) 0 = okA (brkV l m w) ∧ brkL (brkL l m w) (brkV l m w) 0 = brkL l m w ∧ brkV (brkL l m w) (brkV l m w) 0 = brkV l m w := by
  obtain ⟨h1, h2⟩ := brk_may h
  obtain ⟨a1, a2, a3⟩ := brk_idem h1 h2
  obtain ⟨b1, b2, b3⟩ := brk_zero h1 h2
  exact ⟨a1, a2, a3, b1, b2, b3⟩
theorem brk_back {l : List Ar} {m w : Int} (h : (brkN l m w).er = 0) (hlt : m < w) : brkV l m w = w ∧ (brkN (brkL l m w) w m).er = 0 ∧ brkL (brkL l m w) w m = l ∧ brkV (brkL l m w) w m = m := by
  have k := brk_yes h
  obtain ⟨hrt, h24⟩ := mayS_rt k.may
  obtain ⟨hmay, hbv⟩ := brk_may h
  have hm0 := k.br.lo
  rcases k.c with ⟨h1, _⟩ | ⟨h1, h2, h3, h4, h5, h6, h7⟩
  · omega
  · rw [h6] at hmay ⊢
    rw [h7]
    obtain ⟨u1, u2, u3⟩ := up_end k.br
    obtain ⟨v1, v2, v3⟩ := up_end h2
    have hle : endB m ≤ endB w := by unfold endB; omega
    have hbw := (br_iff w).2 h2
    have hbm := (br_iff m).2 k.br
    have hw : (m == 0) = false := by rw [beq_eq_false_iff_ne]; omega
    have he : brkE (brkK l m w) w m = 0 := by
      unfold brkE
      rw [hmay, hbw, hbm, hw, show decide (upG w < upG m) = false by rw [decide_eq_false_iff_not]; omega]
      rfl
    obtain ⟨g1, g2, g3⟩ := bk_go hmay hbw hw he
    have hk : brkK (brkK l m w) w m = l := by
      by_cases hc : endB m < endB w
      · have e1 : brkK l m w = putL l ⟨4096 * endB m, 4096 * endB w, 3, false, 0, 0⟩ := by
          unfold brkK brkMv
          rw [u1, v1, if_pos (by rw [decide_eq_true_eq]; omega)]
        have hfo := brk_fo u2 hc (by omega)
        have e3 := h3 (by omega)
        have e2 : w64 (upG w - upG m) = upG w - upG m := w64_id (by unfold In64; omega)
        rw [e2] at e3
        have hfree := ((fits_iff hrt (by unfold In64; omega) (by unfold In64; omega)).1 e3).2.2.2.2
        rw [u1, v1, show 4096 * endB m + (4096 * endB w - 4096 * endB m) = 4096 * endB w by omega] at hfree
        have e4 := put_cut hrt hfo hfree
        rw [e1]
        unfold brkK brkMv
        rw [u1, v1, if_neg (by rw [decide_eq_true_eq]; omega), if_pos (by rw [decide_eq_true_eq]; omega)]
        exact e4
      · have e1 : brkK l m w = l := by
          unfold brkK brkMv
          rw [if_neg (by rw [decide_eq_true_eq]; omega), if_neg (by rw [decide_eq_true_eq]; omega)]
        rw [e1]
        unfold brkK brkMv
        rw [if_neg (by rw [decide_eq_true_eq]; omega), if_neg (by rw [decide_eq_true_eq]; omega)]
    have hd : decide ((24 : Int) < (l.length : Int)) = false := by rw [decide_eq_false_iff_not]; omega
    rw [hk, (kept_yes (was := brkK l m w) hd).2] at g1 g3
    rw [hk, (kept_yes (v := 0) (was := brkK l m w) hd).1] at g2
    exact ⟨rfl, by rw [g1]; rfl, g2, g3⟩
/-! ### Step by step -/
end Go.Proofs.Ytbcicjmepojlnaa.Eng
/- Contracts of functions (printed by genx.py of this work): what each hands back; condition: as its 'hside' says. -/
namespace Go.Proofs.Ytbcicjmepojlnaa.Eng
open Go Go.RowKit
set_option linter.unusedVariables false
set_option linter.unusedSimpArgs false
theorem b_bright : Bodied Try.prog 72 := bodied Try.func72 rfl (by decide)
def F_bright : FunX := fun κ avs => match avs with
  | [.val (.c (.v (.int .i64 n)))] => some (κ _ (True), (.val (.c (.v (.bool (κ _ (brkR n)))))))
  | _ => none
set_option maxRecDepth 100000 in
set_option maxHeartbeats 4000000 in
theorem k_bright (n : Int) (hside : True) (w : World) :
    Calls Try.prog 72 #[(SV.c (.v (.int .i64 n))).den] w fun e w' => ∃ v H', e = .returned v.den ∧ IsX (.val (.c (.v (.bool (brkR n))))) v H' ∧ HSat w (fun _ => False) H' w' := by
  obtain ⟨κ, hκ⟩ : ∃ κ : Kp, κ = kid := ⟨_, rfl⟩
  have hH : HSat w (fun _ => False) (heapOf [(nilId, .rd none 1 0 [])]) w := by
    subst hκ
    refine HSat.reads fun p hp => ?_
    simp only [List.mem_cons, List.not_mem_nil, or_false] at hp
    rcases hp with rfl
    · exact ⟨_, _, _, _, rfl, nil_holds w⟩
  refine (callsP (n := 9) FTok [] mixed [] Try.func72 rfl (by kernel_rfl) #[(SV.c (.v (.int .i64 n))).den] [(0, .c (.v (.int .i64 n)))] _ w rfl [.tmp 2] rfl (by simp) (by subst hκ; simp [SV.den, C.den, kid]) hH (fun v H' => IsX (.val (.c (.v (.bool (κ _ (brkR n)))))) v H') hκ ?_).mono ?_
  rotate_left
  · subst hκ; intro e w' h; exact h
  intro P' hP'
  cbv
  repeat' (first | refine And.intro ?_ ?_ | (intro _; cbv) | (refine tst_mk (fun h => ?_) (fun h => ?_) <;> cbv) | (refine LookX.nil ?_; cbv) | (refine LookX.auto hκ ?_; cbv))
  all_goals (try (show Side _; refine ⟨?_⟩; subst hκ; delta kid at *; first | exact rfl | exact trivial | exact ⟨rfl, rfl, .inl rfl⟩ | ((try dsimp only at *); (try simp only [setTo_len, noS_len, List.length_append, List.length_cons, List.length_nil, List.length_map, and_self, true_or, or_true, eq_self, true_and, and_true, Nat.zero_add, Nat.add_zero]); (first | done | omega); done)))
  all_goals (clear hH; subst hκ; delta kid at *; (try dsimp only at *))
  all_goals (try (exact ⟨trivial⟩))
  all_goals (try (exact ⟨by decide⟩))
  all_goals (show IsX _ _ _; refine IsX.val_ ?_; simp only [SV.den, SV.den0, C.den, List.map_cons, List.map_nil, brkR, GT.gt, GE.ge]; (try simp only [*, Bool.or_true, Bool.true_or, Bool.or_false, Bool.false_or, Bool.and_true, Bool.true_and, Bool.and_false, Bool.false_and, Bool.not_true, Bool.not_false, if_true, if_false, Bool.false_eq_true]); (first | done | rfl | (exfalso; simp_all; done) | skip))
def e_bright {κ : Kp} (hκ : κ = kid) : ESpec Try.prog := fnES [.flat] b_bright F_bright hκ fun avs p r hF hp => by
  unfold F_bright at hF
  split at hF
  case h_2 => cases hF
  rename_i n
  simp only [kid, Option.some.injEq, Prod.mk.injEq] at hF
  obtain ⟨rfl, rfl⟩ := hF
  refine ⟨trivial, fun vs w hR => ?_⟩
  obtain ⟨vs0, rfl, hR⟩ := hR
  have hR' : vs0 = [] := hR
  subst hR'
  exact k_bright n hp w
theorem b_bup : Bodied Try.prog 119 := bodied Try.func119 rfl (by decide)
def F_bup : FunX := fun κ avs => match avs with
  | [.val (.c (.v (.int .i64 n)))] => some (κ _ (True), (.val (.c (.v (.int .i64 (κ _ (upG n)))))))
  | _ => none
set_option maxRecDepth 100000 in
set_option maxHeartbeats 4000000 in
theorem k_bup (n : Int) (hside : True) (w : World) :
    Calls Try.prog 119 #[(SV.c (.v (.int .i64 n))).den] w fun e w' => ∃ v H', e = .returned v.den ∧ IsX (.val (.c (.v (.int .i64 (upG n))))) v H' ∧ HSat w (fun _ => False) H' w' := by
  obtain ⟨κ, hκ⟩ : ∃ κ : Kp, κ = kid := ⟨_, rfl⟩
  have hH : HSat w (fun _ => False) (heapOf [(nilId, .rd none 1 0 [])]) w := by
    subst hκ
    refine HSat.reads fun p hp => ?_
    simp only [List.mem_cons, List.not_mem_nil, or_false] at hp
    rcases hp with rfl
    · exact ⟨_, _, _, _, rfl, nil_holds w⟩
  refine (callsP (n := 8) FTok [] mixed [] Try.func119 rfl (by kernel_rfl) #[(SV.c (.v (.int .i64 n))).den] [(0, .c (.v (.int .i64 n)))] _ w rfl [.tmp 2] rfl (by simp) (by subst hκ; simp [SV.den, C.den, kid]) hH (fun v H' => IsX (.val (.c (.v (.int .i64 (κ _ (upG n)))))) v H') hκ ?_).mono ?_
  rotate_left
  · subst hκ; intro e w' h; exact h
  intro P' hP'
  cbv
  repeat' (first | refine And.intro ?_ ?_ | (intro _; cbv) | (refine tst_mk (fun h => ?_) (fun h => ?_) <;> cbv) | (refine LookX.nil ?_; cbv) | (refine LookX.auto hκ ?_; cbv))
  all_goals (try (show Side _; refine ⟨?_⟩; subst hκ; delta kid at *; first | exact rfl | exact trivial | exact ⟨rfl, rfl, .inl rfl⟩ | ((try dsimp only at *); (try simp only [setTo_len, noS_len, List.length_append, List.length_cons, List.length_nil, List.length_map, and_self, true_or, or_true, eq_self, true_and, and_true, Nat.zero_add, Nat.add_zero]); (first | done | omega); done)))
  all_goals (clear hH; subst hκ; delta kid at *; (try dsimp only at *))
  all_goals (try (exact ⟨trivial⟩))
  all_goals (try (exact ⟨by decide⟩))
  all_goals (show IsX _ _ _; refine IsX.val_ ?_; simp only [SV.den, SV.den0, C.den, List.map_cons, List.map_nil, upG, GT.gt, GE.ge]; (try simp only [*, Bool.or_true, Bool.true_or, Bool.or_false, Bool.false_or, Bool.and_true, Bool.true_and, Bool.and_false, Bool.false_and, Bool.not_true, Bool.not_false, if_true, if_false, Bool.false_eq_true]); (first | done | rfl | (exfalso; simp_all; done) | skip))
def e_bup {κ : Kp} (hκ : κ = kid) : ESpec Try.prog := fnES [.flat] b_bup F_bup hκ fun avs p r hF hp => by
  unfold F_bup at hF
  split at hF
  case h_2 => cases hF
  rename_i n
  simp only [kid, Option.some.injEq, Prod.mk.injEq] at hF
  obtain ⟨rfl, rfl⟩ := hF
  refine ⟨trivial, fun vs w hR => ?_⟩
  obtain ⟨vs0, rfl, hR⟩ := hR
  have hR' : vs0 = [] := hR
  subst hR'
  exact k_bup n hp w
theorem b_bwrong : Bodied Try.prog 115 := bodied Try.func115 rfl (by decide)
def F_bwrong : FunX := fun κ avs => match avs with
  | [.lst l xl, .val (.c (.v (.int .i64 m))), .val (.c (.v (.int .i64 q)))] => some (κ _ (l.length ≤ 300000), (.val (.c (.v (.int .i64 (κ _ (brkE l m q)))))))
  | _ => none
set_option maxRecDepth 100000 in
set_option maxHeartbeats 4000000 in
theorem k_bwrong (l : List Ar) (m : Int) (q : Int) (Al : Option Addr) (cl : Nat) (hside : l.length ≤ 300000) (w : World) (hl : (Ent.rd Al 6 l.length (encL l)).holds w) :
    Calls Try.prog 115 #[.slice Al l.length cl, (SV.c (.v (.int .i64 m))).den, (SV.c (.v (.int .i64 q))).den] w fun e w' => ∃ v H', e = .returned v.den ∧ IsX (.val (.c (.v (.int .i64 (brkE l m q))))) v H' ∧ HSat w (fun _ => False) H' w' := by
  obtain ⟨κ, hκ⟩ : ∃ κ : Kp, κ = kid := ⟨_, rfl⟩
  have hH : HSat w (fun _ => False) (heapOf [(nilId, .rd none 1 0 []), (200000, .rd Al 6 (κ _ l.length) (κ _ (encL l)))]) w := by
    subst hκ
    refine HSat.reads fun p hp => ?_
    simp only [List.mem_cons, List.not_mem_nil, or_false] at hp
    rcases hp with rfl | rfl
    · exact ⟨_, _, _, _, rfl, nil_holds w⟩
    · exact ⟨_, _, _, _, rfl, hl⟩
  refine (callsP (n := 46) FTok [e_right hκ, e_bright hκ, e_bup hκ, e_fits hκ] mixed [] Try.func115 rfl (by kernel_rfl) #[.slice Al l.length cl, (SV.c (.v (.int .i64 m))).den, (SV.c (.v (.int .i64 q))).den] [(0, .c (.sl 200000 Al (κ _ l.length) cl)), (1, .c (.v (.int .i64 m))), (2, .c (.v (.int .i64 q)))] _ w rfl [.tmp 6] rfl (by simp) (by subst hκ; simp [SV.den, C.den, kid]) hH (fun v H' => IsX (.val (.c (.v (.int .i64 (κ _ (brkE l m q)))))) v H') hκ ?_).mono ?_
  rotate_left
  · subst hκ; intro e w' h; exact h
  intro P' hP'
  cbv
  repeat' (first | refine And.intro ?_ ?_ | (intro _; cbv) | (refine tst_mk (fun h => ?_) (fun h => ?_) <;> cbv) | (refine LookX.nil ?_; cbv) | (refine LookX.auto hκ ?_; cbv))
  all_goals (try (show Side _; refine ⟨?_⟩; subst hκ; delta kid at *; first | exact rfl | exact trivial | exact ⟨rfl, rfl, .inl rfl⟩ | ((try dsimp only at *); (try simp only [setTo_len, noS_len, List.length_append, List.length_cons, List.length_nil, List.length_map, and_self, true_or, or_true, eq_self, true_and, and_true, Nat.zero_add, Nat.add_zero]); (first | done | omega); done)))
  all_goals (clear hH; subst hκ; delta kid at *; (try dsimp only at *))
  all_goals (try (exact ⟨trivial⟩))
  all_goals (try (exact ⟨by decide⟩))
  all_goals (try simp only [le24] at *)
  all_goals (show IsX _ _ _; refine IsX.val_ ?_; simp only [SV.den, SV.den0, C.den, List.map_cons, List.map_nil, brkE, mayS, GT.gt, GE.ge]; (try simp only [*, Bool.or_true, Bool.true_or, Bool.or_false, Bool.false_or, Bool.and_true, Bool.true_and, Bool.and_false, Bool.false_and, Bool.not_true, Bool.not_false, if_true, if_false, Bool.false_eq_true]); (first | done | rfl | (exfalso; simp_all; done) | skip))
def e_bwrong {κ : Kp} (hκ : κ = kid) : ESpec Try.prog := fnES [.list, .flat, .flat] b_bwrong F_bwrong hκ fun avs p r hF hp => by
  unfold F_bwrong at hF
  split at hF
  case h_2 => cases hF
  rename_i l xl m q
  simp only [kid, Option.some.injEq, Prod.mk.injEq] at hF
  obtain ⟨rfl, rfl⟩ := hF
  refine ⟨trivial, fun vs w hR => ?_⟩
  obtain ⟨il, Al, cl, vs0, rfl, rfl, hl, hR⟩ := hR
  obtain ⟨vs1, rfl, hR⟩ := hR
  obtain ⟨vs2, rfl, hR⟩ := hR
  have hR' : vs2 = [] := hR
  subst hR'
  exact k_bwrong l m q Al cl hp w hl
theorem b_bmoved : Bodied Try.prog 118 := bodied Try.func118 rfl (by decide)
def F_bmoved : FunX := fun κ avs => match avs with
  | [.lst l xl, .val (.c (.v (.int .i64 a))), .val (.c (.v (.int .i64 b)))] => some (κ _ (l.length ≤ 300000), (.alt ((κ _ (brkStay a b))) (xl) (fun x => .c x) ((κ _ (brkMv l a b))) (fun x => .c x)))
  | _ => none
set_option maxRecDepth 100000 in
set_option maxHeartbeats 4000000 in
theorem k_bmoved (l : List Ar) (a : Int) (b : Int) (Al : Option Addr) (cl : Nat) (hside : l.length ≤ 300000) (w : World) (hl : (Ent.rd Al 6 l.length (encL l)).holds w) :
    Calls Try.prog 118 #[.slice Al l.length cl, (SV.c (.v (.int .i64 a))).den, (SV.c (.v (.int .i64 b))).den] w fun e w' => ∃ v H', e = .returned v.den ∧ IsX (.alt ((brkStay a b)) (.sl 200000 Al l.length cl) (fun x => .c x) ((brkMv l a b)) (fun x => .c x)) v H' ∧ HSat w (fun _ => False) H' w' := by
  obtain ⟨κ, hκ⟩ : ∃ κ : Kp, κ = kid := ⟨_, rfl⟩
  have hH : HSat w (fun _ => False) (heapOf [(nilId, .rd none 1 0 []), (200000, .rd Al 6 (κ _ l.length) (κ _ (encL l)))]) w := by
    subst hκ
    refine HSat.reads fun p hp => ?_
    simp only [List.mem_cons, List.not_mem_nil, or_false] at hp
    rcases hp with rfl | rfl
    · exact ⟨_, _, _, _, rfl, nil_holds w⟩
    · exact ⟨_, _, _, _, rfl, hl⟩
  refine (callsP (n := 25) FTok [e_put hκ, e_cut hκ] mixed [] Try.func118 rfl (by kernel_rfl) #[.slice Al l.length cl, (SV.c (.v (.int .i64 a))).den, (SV.c (.v (.int .i64 b))).den] [(0, .c (.sl 200000 Al (κ _ l.length) cl)), (1, .c (.v (.int .i64 a))), (2, .c (.v (.int .i64 b)))] _ w rfl [.tmp 6] rfl (by simp) (by subst hκ; simp [SV.den, C.den, kid]) hH (fun v H' => IsX (.alt ((κ _ (brkStay a b))) (.sl 200000 Al (κ _ l.length) cl) (fun x => .c x) ((κ _ (brkMv l a b))) (fun x => .c x)) v H') hκ ?_).mono ?_
  rotate_left
  · subst hκ; intro e w' h; exact h
  intro P' hP'
  cbv
  repeat' (first | refine And.intro ?_ ?_ | (intro _; cbv) | (refine tst_mk (fun h => ?_) (fun h => ?_) <;> cbv) | (refine LookX.nil ?_; cbv) | (refine LookX.auto hκ ?_; cbv))
  all_goals (try (show Side _; refine ⟨?_⟩; subst hκ; delta kid at *; first | exact rfl | exact trivial | exact ⟨rfl, rfl, .inl rfl⟩ | ((try dsimp only at *); (try simp only [setTo_len, noS_len, List.length_append, List.length_cons, List.length_nil, List.length_map, and_self, true_or, or_true, eq_self, true_and, and_true, Nat.zero_add, Nat.add_zero]); (first | done | omega); done)))
  all_goals (clear hH; subst hκ; delta kid at *; (try dsimp only at *))
  · exact IsX.new_ (mv_1 (l := l) (by with_reducible assumption)).1 (mv_1 (by with_reducible assumption)).2 rfl rfl
  · exact IsX.new_ (mv_2 (l := l) (by with_reducible assumption) (by with_reducible assumption)).1 (mv_2 (by with_reducible assumption) (by with_reducible assumption)).2 rfl rfl
  · exact IsX.same_ (mv_3 (by with_reducible assumption) (by with_reducible assumption)) rfl
def e_bmoved {κ : Kp} (hκ : κ = kid) : ESpec Try.prog := fnES [.list, .flat, .flat] b_bmoved F_bmoved hκ fun avs p r hF hp => by
  unfold F_bmoved at hF
  split at hF
  case h_2 => cases hF
  rename_i l xl a b
  simp only [kid, Option.some.injEq, Prod.mk.injEq] at hF
  obtain ⟨rfl, rfl⟩ := hF
  refine ⟨fun x y h => by simp [SV.den, SV.den0, h], fun vs w hR => ?_⟩
  obtain ⟨il, Al, cl, vs0, rfl, rfl, hl, hR⟩ := hR
  obtain ⟨vs1, rfl, hR⟩ := hR
  obtain ⟨vs2, rfl, hR⟩ := hR
  have hR' : vs2 = [] := hR
  subst hR'
  exact (k_bmoved l a b Al cl hp w hl).mono fun e w' ⟨v, H', h1, h2, h3⟩ => ⟨v, H', h1, h2.swap rfl, h3⟩
theorem b_bmove : Bodied Try.prog 70 := bodied Try.func70 rfl (by decide)
def F_bmove : FunX := fun κ avs => match avs with
  | [.lst l xl, .val (.c (.v (.int .i64 m))), .val (.agg [.v (.int .i64 c1), .v (.int .i64 c2), .v (.int .i64 c3), .v (.int .i64 c4), .v (.int .i64 c5), .v (.int .i64 c6), .v (.int .i64 c7), .v (.int .i64 c8), .v (.int .i64 c9)])] => some (κ _ (l.length ≤ 300000), (.row 53 6 ((κ _ ((brkL l m (⟨c1, c2, c3, c4, c5, c6, c7, c8, c9⟩ : Cl).a).length))) ((κ _ (encL (brkL l m (⟨c1, c2, c3, c4, c5, c6, c7, c8, c9⟩ : Cl).a)))) (fun x => .tup [.c x, .c (.v (.int .i64 (κ _ (brkV l m (⟨c1, c2, c3, c4, c5, c6, c7, c8, c9⟩ : Cl).a)))), .agg [.v (.int .i64 (κ _ ((brkN l m (⟨c1, c2, c3, c4, c5, c6, c7, c8, c9⟩ : Cl).a).er))), .v (.int .i64 (κ _ ((brkN l m (⟨c1, c2, c3, c4, c5, c6, c7, c8, c9⟩ : Cl).a).v))), .v (.int .i64 (κ _ ((brkN l m (⟨c1, c2, c3, c4, c5, c6, c7, c8, c9⟩ : Cl).a).t.p))), .v (.bool (κ _ ((brkN l m (⟨c1, c2, c3, c4, c5, c6, c7, c8, c9⟩ : Cl).a).t.sh))), .v (.int .i64 (κ _ ((brkN l m (⟨c1, c2, c3, c4, c5, c6, c7, c8, c9⟩ : Cl).a).t.b))), .v (.int .i64 (κ _ ((brkN l m (⟨c1, c2, c3, c4, c5, c6, c7, c8, c9⟩ : Cl).a).t.o)))]])))
  | _ => none
set_option maxRecDepth 100000 in
set_option maxHeartbeats 4000000 in
theorem k_bmove (l : List Ar) (m : Int) (c1 : Int) (c2 : Int) (c3 : Int) (c4 : Int) (c5 : Int) (c6 : Int) (c7 : Int) (c8 : Int) (c9 : Int) (Al : Option Addr) (cl : Nat) (hside : l.length ≤ 300000) (w : World) (hl : (Ent.rd Al 6 l.length (encL l)).holds w) :
    Calls Try.prog 70 #[.slice Al l.length cl, (SV.c (.v (.int .i64 m))).den, (SV.agg [.v (.int .i64 c1), .v (.int .i64 c2), .v (.int .i64 c3), .v (.int .i64 c4), .v (.int .i64 c5), .v (.int .i64 c6), .v (.int .i64 c7), .v (.int .i64 c8), .v (.int .i64 c9)]).den] w fun e w' => ∃ v H', e = .returned v.den ∧ IsX (.row 53 6 (((brkL l m (⟨c1, c2, c3, c4, c5, c6, c7, c8, c9⟩ : Cl).a).length)) ((encL (brkL l m (⟨c1, c2, c3, c4, c5, c6, c7, c8, c9⟩ : Cl).a))) (fun x => .tup [.c x, .c (.v (.int .i64 (brkV l m (⟨c1, c2, c3, c4, c5, c6, c7, c8, c9⟩ : Cl).a))), .agg [.v (.int .i64 ((brkN l m (⟨c1, c2, c3, c4, c5, c6, c7, c8, c9⟩ : Cl).a).er)), .v (.int .i64 ((brkN l m (⟨c1, c2, c3, c4, c5, c6, c7, c8, c9⟩ : Cl).a).v)), .v (.int .i64 ((brkN l m (⟨c1, c2, c3, c4, c5, c6, c7, c8, c9⟩ : Cl).a).t.p)), .v (.bool ((brkN l m (⟨c1, c2, c3, c4, c5, c6, c7, c8, c9⟩ : Cl).a).t.sh)), .v (.int .i64 ((brkN l m (⟨c1, c2, c3, c4, c5, c6, c7, c8, c9⟩ : Cl).a).t.b)), .v (.int .i64 ((brkN l m (⟨c1, c2, c3, c4, c5, c6, c7, c8, c9⟩ : Cl).a).t.o))]])) v H' ∧ HSat w (fun _ => False) H' w' := by
  obtain ⟨κ, hκ⟩ : ∃ κ : Kp, κ = kid := ⟨_, rfl⟩
  have hH : HSat w (fun _ => False) (heapOf [(nilId, .rd none 1 0 []), (200000, .rd Al 6 (κ _ l.length) (κ _ (encL l)))]) w := by
    subst hκ
    refine HSat.reads fun p hp => ?_
    simp only [List.mem_cons, List.not_mem_nil, or_false] at hp
    rcases hp with rfl | rfl
    · exact ⟨_, _, _, _, rfl, nil_holds w⟩
    · exact ⟨_, _, _, _, rfl, hl⟩
  refine (callsP (n := 56) FTok [e_bwrong hκ, e_clone hκ, e_bup hκ, e_bmoved hκ, e_kept hκ] mixed [(6, [[], [0], [0, 1], [0, 1], [0, 1, 2, 3], [0, 1, 2, 3], [0, 1], [0], [0, 1, 2, 3, 4, 5, 6, 7], [0, 1, 2, 3, 4, 5, 6, 7], [], [], [], [12], [0, 1, 2, 3, 4, 5, 6, 7, 8, 9, 10, 11, 12, 13], [13], []]), (8, [[], [0], [0, 1], [1, 2], [2], []]), (9, [[], [0], [0], [0, 1, 2], [1, 2, 3], [3], []])] Try.func70 rfl (by kernel_rfl) #[.slice Al l.length cl, (SV.c (.v (.int .i64 m))).den, (SV.agg [.v (.int .i64 c1), .v (.int .i64 c2), .v (.int .i64 c3), .v (.int .i64 c4), .v (.int .i64 c5), .v (.int .i64 c6), .v (.int .i64 c7), .v (.int .i64 c8), .v (.int .i64 c9)]).den] [(0, .c (.sl 200000 Al (κ _ l.length) cl)), (1, .c (.v (.int .i64 m))), (2, .agg [.v (.int .i64 c1), .v (.int .i64 c2), .v (.int .i64 c3), .v (.int .i64 c4), .v (.int .i64 c5), .v (.int .i64 c6), .v (.int .i64 c7), .v (.int .i64 c8), .v (.int .i64 c9)])] _ w rfl [.tmp 6, .tmp 7, .cell 8 31] rfl (by simp) (by subst hκ; simp [SV.den, C.den, kid]) hH (fun v H' => IsX (.row 53 6 ((κ _ ((brkL l m (⟨c1, c2, c3, c4, c5, c6, c7, c8, c9⟩ : Cl).a).length))) ((κ _ (encL (brkL l m (⟨c1, c2, c3, c4, c5, c6, c7, c8, c9⟩ : Cl).a)))) (fun x => .tup [.c x, .c (.v (.int .i64 (κ _ (brkV l m (⟨c1, c2, c3, c4, c5, c6, c7, c8, c9⟩ : Cl).a)))), .agg [.v (.int .i64 (κ _ ((brkN l m (⟨c1, c2, c3, c4, c5, c6, c7, c8, c9⟩ : Cl).a).er))), .v (.int .i64 (κ _ ((brkN l m (⟨c1, c2, c3, c4, c5, c6, c7, c8, c9⟩ : Cl).a).v))), .v (.int .i64 (κ _ ((brkN l m (⟨c1, c2, c3, c4, c5, c6, c7, c8, c9⟩ : Cl).a).t.p))), .v (.bool (κ _ ((brkN l m (⟨c1, c2, c3, c4, c5, c6, c7, c8, c9⟩ : Cl).a).t.sh))), .v (.int .i64 (κ _ ((brkN l m (⟨c1, c2, c3, c4, c5, c6, c7, c8, c9⟩ : Cl).a).t.b))), .v (.int .i64 (κ _ ((brkN l m (⟨c1, c2, c3, c4, c5, c6, c7, c8, c9⟩ : Cl).a).t.o)))]])) v H') hκ ?_).mono ?_
  rotate_left
  · subst hκ; intro e w' h; exact h
  intro P' hP'
  cbv
  repeat' (first | refine And.intro ?_ ?_ | (intro _; cbv) | (refine tst_mk (fun h => ?_) (fun h => ?_) <;> cbv) | (refine LookX.nil ?_; cbv) | (refine LookX.auto hκ ?_; cbv))
  all_goals (try (show Side _; refine ⟨?_⟩; subst hκ; delta kid at *; first | exact rfl | exact trivial | exact ⟨rfl, rfl, .inl rfl⟩ | exact ⟨hside, hside⟩ | exact ⟨hside, brkMv_bd _ _ _ hside (by omega)⟩ | ((try dsimp only at *); (try simp only [setTo_len, noS_len, List.length_append, List.length_cons, List.length_nil, List.length_map, and_self, true_or, or_true, eq_self, true_and, and_true, Nat.zero_add, Nat.add_zero]); (first | done | omega); done)))
  all_goals (clear hH; subst hκ; delta kid at *; (try dsimp only at *))
  all_goals (try have hst := (mv_4 (l := l) (by with_reducible assumption : brkStay (upG m) (upG c2) = true)).symm)
  all_goals (show IsX _ _ _; refine IsX.row3 rfl rfl (fun x => ?_) ?_ <;> (try simp only [brkL, brkN, brkV, brkK, errA, okA, noAt, *, Bool.or_true, Bool.true_or, Bool.or_false, Bool.false_or, Bool.and_true, Bool.true_and, Bool.and_false, Bool.false_and, Bool.not_true, Bool.not_false, if_true, if_false, Bool.false_eq_true]) <;> (try rfl))
def e_bmove {κ : Kp} (hκ : κ = kid) : ESpec Try.prog := fnES [.list, .flat, .flat] b_bmove F_bmove hκ fun avs p r hF hp => by
  unfold F_bmove at hF
  split at hF
  case h_2 => cases hF
  rename_i l xl m c1 c2 c3 c4 c5 c6 c7 c8 c9
  simp only [kid, Option.some.injEq, Prod.mk.injEq] at hF
  obtain ⟨rfl, rfl⟩ := hF
  refine ⟨fun x y h => by simp [SV.den, SV.den0, h], fun vs w hR => ?_⟩
  obtain ⟨il, Al, cl, vs0, rfl, rfl, hl, hR⟩ := hR
  obtain ⟨vs1, rfl, hR⟩ := hR
  obtain ⟨vs2, rfl, hR⟩ := hR
  have hR' : vs2 = [] := hR
  subst hR'
  exact k_bmove l m c1 c2 c3 c4 c5 c6 c7 c8 c9 Al cl hp w hl
end Go.Proofs.Ytbcicjmepojlnaa.Eng
/- Contracts of functions (printed by genx.py of this work): what each hands back; condition: as its 'hside' says. -/
namespace Go.Proofs.Ytbcicjmepojlnaa.Eng
open Go Go.RowKit
set_option linter.unusedVariables false
set_option linter.unusedSimpArgs false
theorem b_rbright : Bodied Try.prog 71 := bodied Try.func71 rfl (by decide)
def F_rbright : FunX := fun κ avs => match avs with
  | [.val (.c (.v (.int .i64 n)))] => some (κ _ (True), (.val (.c (.v (.bool (κ _ (brkR n)))))))
  | _ => none
set_option maxRecDepth 100000 in
set_option maxHeartbeats 4000000 in
theorem k_rbright (n : Int) (hside : True) (w : World) :
    Calls Try.prog 71 #[(SV.c (.v (.int .i64 n))).den] w fun e w' => ∃ v H', e = .returned v.den ∧ IsX (.val (.c (.v (.bool (brkR n))))) v H' ∧ HSat w (fun _ => False) H' w' := by
  obtain ⟨κ, hκ⟩ : ∃ κ : Kp, κ = kid := ⟨_, rfl⟩
  have hH : HSat w (fun _ => False) (heapOf [(nilId, .rd none 1 0 [])]) w := by
    subst hκ
    refine HSat.reads fun p hp => ?_
    simp only [List.mem_cons, List.not_mem_nil, or_false] at hp
    rcases hp with rfl
    · exact ⟨_, _, _, _, rfl, nil_holds w⟩
  refine (callsP (n := 9) FTok [] mixed [] Try.func71 rfl (by kernel_rfl) #[(SV.c (.v (.int .i64 n))).den] [(0, .c (.v (.int .i64 n)))] _ w rfl [.tmp 2] rfl (by simp) (by subst hκ; simp [SV.den, C.den, kid]) hH (fun v H' => IsX (.val (.c (.v (.bool (κ _ (brkR n)))))) v H') hκ ?_).mono ?_
  rotate_left
  · subst hκ; intro e w' h; exact h
  intro P' hP'
  cbv
  repeat' (first | refine And.intro ?_ ?_ | (intro _; cbv) | (refine tst_mk (fun h => ?_) (fun h => ?_) <;> cbv) | (refine LookX.nil ?_; cbv) | (refine LookX.auto hκ ?_; cbv))
  all_goals (try (show Side _; refine ⟨?_⟩; subst hκ; delta kid at *; first | exact rfl | exact trivial | exact ⟨rfl, rfl, .inl rfl⟩ | ((try dsimp only at *); (try simp only [setTo_len, noS_len, List.length_append, List.length_cons, List.length_nil, List.length_map, and_self, true_or, or_true, eq_self, true_and, and_true, Nat.zero_add, Nat.add_zero]); (first | done | omega); done)))
  all_goals (clear hH; subst hκ; delta kid at *; (try dsimp only at *))
  all_goals (try (exact ⟨trivial⟩))
  all_goals (try (exact ⟨by decide⟩))
  all_goals (show IsX _ _ _; refine IsX.val_ ?_; simp only [SV.den, SV.den0, C.den, List.map_cons, List.map_nil, brkR, GT.gt, GE.ge]; (try simp only [*, Bool.or_true, Bool.true_or, Bool.or_false, Bool.false_or, Bool.and_true, Bool.true_and, Bool.and_false, Bool.false_and, Bool.not_true, Bool.not_false, if_true, if_false, Bool.false_eq_true]); (first | done | rfl | (exfalso; simp_all; done) | skip))
def e_rbright {κ : Kp} (hκ : κ = kid) : ESpec Try.prog := fnES [.flat] b_rbright F_rbright hκ fun avs p r hF hp => by
  unfold F_rbright at hF
  split at hF
  case h_2 => cases hF
  rename_i n
  simp only [kid, Option.some.injEq, Prod.mk.injEq] at hF
  obtain ⟨rfl, rfl⟩ := hF
  refine ⟨trivial, fun vs w hR => ?_⟩
  obtain ⟨vs0, rfl, hR⟩ := hR
  have hR' : vs0 = [] := hR
  subst hR'
  exact k_rbright n hp w
theorem b_rend : Bodied Try.prog 120 := bodied Try.func120 rfl (by decide)
def F_rend : FunX := fun κ avs => match avs with
  | [.val (.c (.v (.int .i64 n)))] => some (κ _ (BrOk n), (.val (.c (.v (.int .i64 (κ _ (endB n)))))))
  | _ => none
set_option maxRecDepth 100000 in
set_option maxHeartbeats 4000000 in
theorem k_rend (n : Int) (hside : BrOk n) (w : World) :
    Calls Try.prog 120 #[(SV.c (.v (.int .i64 n))).den] w fun e w' => ∃ v H', e = .returned v.den ∧ IsX (.val (.c (.v (.int .i64 (endB n))))) v H' ∧ HSat w (fun _ => False) H' w' := by
  obtain ⟨κ, hκ⟩ : ∃ κ : Kp, κ = kid := ⟨_, rfl⟩
  have hH : HSat w (fun _ => False) (heapOf [(nilId, .rd none 1 0 [])]) w := by
    subst hκ
    refine HSat.reads fun p hp => ?_
    simp only [List.mem_cons, List.not_mem_nil, or_false] at hp
    rcases hp with rfl
    · exact ⟨_, _, _, _, rfl, nil_holds w⟩
  refine (callsP (n := 12) FTok [] mixed [] Try.func120 rfl (by kernel_rfl) #[(SV.c (.v (.int .i64 n))).den] [(0, .c (.v (.int .i64 n)))] _ w rfl [.tmp 2] rfl (by simp) (by subst hκ; simp [SV.den, C.den, kid]) hH (fun v H' => IsX (.val (.c (.v (.int .i64 (κ _ (endB n)))))) v H') hκ ?_).mono ?_
  rotate_left
  · subst hκ; intro e w' h; exact h
  intro P' hP'
  cbv
  repeat' (first | refine And.intro ?_ ?_ | (intro _; cbv) | (refine tst_mk (fun h => ?_) (fun h => ?_) <;> cbv) | (refine LookX.nil ?_; cbv) | (refine LookX.auto hκ ?_; cbv))
  all_goals (try (show Side _; refine ⟨?_⟩; subst hκ; delta kid at *; first | exact rfl | exact trivial | exact ⟨rfl, rfl, .inl rfl⟩ | ((try dsimp only at *); (try simp only [setTo_len, noS_len, List.length_append, List.length_cons, List.length_nil, List.length_map, and_self, true_or, or_true, eq_self, true_and, and_true, Nat.zero_add, Nat.add_zero]); (first | done | omega); done)))
  all_goals (clear hH; subst hκ; delta kid at *; (try dsimp only at *))
  all_goals (show IsX _ _ _; first | exact IsX.int_ (end_y hside (by with_reducible assumption)) | exact IsX.int_ (end_n hside (by with_reducible assumption)))
def e_rend {κ : Kp} (hκ : κ = kid) : ESpec Try.prog := fnES [.flat] b_rend F_rend hκ fun avs p r hF hp => by
  unfold F_rend at hF
  split at hF
  case h_2 => cases hF
  rename_i n
  simp only [kid, Option.some.injEq, Prod.mk.injEq] at hF
  obtain ⟨rfl, rfl⟩ := hF
  refine ⟨trivial, fun vs w hR => ?_⟩
  obtain ⟨vs0, rfl, hR⟩ := hR
  have hR' : vs0 = [] := hR
  subst hR'
  exact k_rend n hp w
theorem b_rbmove : Bodied Try.prog 73 := bodied Try.func73 rfl (by decide)
def F_rbmove : FunX := fun κ avs => match avs with
  | [.lst l xl, .val (.c (.v (.int .i64 m))), .val (.c (.v (.int .i64 q)))] => some (κ _ (mayS l = true ∧ brkR m = true), (.alt ((κ _ (brkSame l m q))) (xl) (fun x => .tup [.c x, .c (.v (.int .i64 (κ _ (brkV l m q)))), .agg [.v (.int .i64 (κ _ ((brkN l m q).er))), .v (.int .i64 (κ _ ((brkN l m q).v))), .v (.int .i64 (κ _ ((brkN l m q).t.p))), .v (.bool (κ _ ((brkN l m q).t.sh))), .v (.int .i64 (κ _ ((brkN l m q).t.b))), .v (.int .i64 (κ _ ((brkN l m q).t.o)))]]) ((κ _ (brkL l m q))) (fun x => .tup [.c x, .c (.v (.int .i64 (κ _ (brkV l m q)))), .agg [.v (.int .i64 (κ _ ((brkN l m q).er))), .v (.int .i64 (κ _ ((brkN l m q).v))), .v (.int .i64 (κ _ ((brkN l m q).t.p))), .v (.bool (κ _ ((brkN l m q).t.sh))), .v (.int .i64 (κ _ ((brkN l m q).t.b))), .v (.int .i64 (κ _ ((brkN l m q).t.o)))]])))
  | _ => none
set_option maxRecDepth 100000 in
set_option maxHeartbeats 4000000 in
theorem k_rbmove (l : List Ar) (m : Int) (q : Int) (Al : Option Addr) (cl : Nat) (hside : mayS l = true ∧ brkR m = true) (w : World) (hl : (Ent.rd Al 6 l.length (encL l)).holds w) :
    Calls Try.prog 73 #[.slice Al l.length cl, (SV.c (.v (.int .i64 m))).den, (SV.c (.v (.int .i64 q))).den] w fun e w' => ∃ v H', e = .returned v.den ∧ IsX (.alt ((brkSame l m q)) (.sl 200000 Al l.length cl) (fun x => .tup [.c x, .c (.v (.int .i64 (brkV l m q))), .agg [.v (.int .i64 ((brkN l m q).er)), .v (.int .i64 ((brkN l m q).v)), .v (.int .i64 ((brkN l m q).t.p)), .v (.bool ((brkN l m q).t.sh)), .v (.int .i64 ((brkN l m q).t.b)), .v (.int .i64 ((brkN l m q).t.o))]]) ((brkL l m q)) (fun x => .tup [.c x, .c (.v (.int .i64 (brkV l m q))), .agg [.v (.int .i64 ((brkN l m q).er)), .v (.int .i64 ((brkN l m q).v)), .v (.int .i64 ((brkN l m q).t.p)), .v (.bool ((brkN l m q).t.sh)), .v (.int .i64 ((brkN l m q).t.b)), .v (.int .i64 ((brkN l m q).t.o))]])) v H' ∧ HSat w (fun _ => False) H' w' := by
  obtain ⟨κ, hκ⟩ : ∃ κ : Kp, κ = kid := ⟨_, rfl⟩
  have hH : HSat w (fun _ => False) (heapOf [(nilId, .rd none 1 0 []), (200000, .rd Al 6 (κ _ l.length) (κ _ (encL l)))]) w := by
    subst hκ
    refine HSat.reads fun p hp => ?_
    simp only [List.mem_cons, List.not_mem_nil, or_false] at hp
    rcases hp with rfl | rfl
    · exact ⟨_, _, _, _, rfl, nil_holds w⟩
    · exact ⟨_, _, _, _, rfl, hl⟩
  refine (callsP (n := 79) FTok [e_rbright hκ, e_rend hκ, e_of hκ, e_rfree hκ, e_rwith hκ, e_rwithout hκ, e_rkept hκ] mixed [(14, [[], [0], [0, 1], [1, 2], [2], []]), (15, [[], [0], [0, 1], [1, 2], [2], []])] Try.func73 rfl (by kernel_rfl) #[.slice Al l.length cl, (SV.c (.v (.int .i64 m))).den, (SV.c (.v (.int .i64 q))).den] [(0, .c (.sl 200000 Al (κ _ l.length) cl)), (1, .c (.v (.int .i64 m))), (2, .c (.v (.int .i64 q)))] _ w rfl [.tmp 6, .tmp 7, .cell 8 31] rfl (by simp) (by subst hκ; simp [SV.den, C.den, kid]) hH (fun v H' => IsX (.alt ((κ _ (brkSame l m q))) (.sl 200000 Al (κ _ l.length) cl) (fun x => .tup [.c x, .c (.v (.int .i64 (κ _ (brkV l m q)))), .agg [.v (.int .i64 (κ _ ((brkN l m q).er))), .v (.int .i64 (κ _ ((brkN l m q).v))), .v (.int .i64 (κ _ ((brkN l m q).t.p))), .v (.bool (κ _ ((brkN l m q).t.sh))), .v (.int .i64 (κ _ ((brkN l m q).t.b))), .v (.int .i64 (κ _ ((brkN l m q).t.o)))]]) ((κ _ (brkL l m q))) (fun x => .tup [.c x, .c (.v (.int .i64 (κ _ (brkV l m q)))), .agg [.v (.int .i64 (κ _ ((brkN l m q).er))), .v (.int .i64 (κ _ ((brkN l m q).v))), .v (.int .i64 (κ _ ((brkN l m q).t.p))), .v (.bool (κ _ ((brkN l m q).t.sh))), .v (.int .i64 (κ _ ((brkN l m q).t.b))), .v (.int .i64 (κ _ ((brkN l m q).t.o)))]])) v H') hκ ?_).mono ?_
  rotate_left
  · subst hκ; intro e w' h; exact h
  intro P' hP'
  cbv
  have hrt := mayS_rt hside.1
  repeat' (first | refine And.intro ?_ ?_ | (intro _; cbv) | (refine tst_mk (fun h => ?_) (fun h => ?_) <;> first | (exfalso; subst hκ; delta kid at h; exact absurd h (by decide)) | (exfalso; subst hκ; delta kid at *; cases (h.symm.trans (by with_reducible assumption : _ = false)); done) | (exfalso; subst hκ; delta kid at *; cases (h.symm.trans (by with_reducible assumption : _ = true)); done) | (exfalso; subst hκ; delta kid at *; exact (beq_no (by with_reducible assumption)) (bne_no h)) | (exfalso; subst hκ; delta kid at *; exact (beq_no h) (beq_yes (by with_reducible assumption))) | (exfalso; subst hκ; delta kid at *; exact (beq_no (by with_reducible assumption)) (beq_yes h)) | cbv) | (refine LookX.nil ?_; cbv) | (refine LookX.auto hκ ?_; cbv) | (refine LookN.mk' (x := κ _ (encS (ofL l))) (by subst hκ; delta kid at *; exact (by rw [zero_put (ofL_len _)]; exact whole_take (ofL_len _))) ?_; cbv) | (refine LookN.mk' (x := κ _ (encS (withP (⟨3, false, 0, 0⟩ : At) (IntKind.i64.wrap (4096 * endB m) / 4096).toNat (ofL l) ((IntKind.i64.wrap (4096 * endB q) / 4096).toNat - (IntKind.i64.wrap (4096 * endB m) / 4096).toNat)))) (by subst hκ; delta kid at *; exact (by rw [zero_put (ofL_len _)]; exact whole_put ((withP_len _ _ _ _).trans (ofL_len l)) (ofL_len l))) ?_; cbv) | (refine LookN.mk' (x := κ _ (encS (woP (IntKind.i64.wrap (4096 * endB q) / 4096).toNat (ofL l) ((IntKind.i64.wrap (4096 * endB m) / 4096).toNat - (IntKind.i64.wrap (4096 * endB q) / 4096).toNat)))) (by subst hκ; delta kid at *; exact (by rw [zero_put (ofL_len _)]; exact whole_put ((woP_len _ _ _).trans (ofL_len l)) (ofL_len l))) ?_; cbv))
  all_goals (try (show Side _; refine ⟨?_⟩; subst hκ; delta kid at *; first | exact rfl | exact trivial | exact ⟨rfl, rfl, .inl rfl⟩ | exact (br_iff _).1 hside.2 | exact (br_iff _).1 (by with_reducible assumption) | exact ⟨hrt.1.1, by omega⟩ | exact ofL_len l | exact (withP_len _ _ _ _).trans (ofL_len l) | exact (woP_len _ _ _).trans (ofL_len l) | ((try dsimp only at *); (try simp only [setTo_len, noS_len, List.length_append, List.length_cons, List.length_nil, List.length_map, and_self, true_or, or_true, eq_self, true_and, and_true, Nat.zero_add, Nat.add_zero]); (first | done | omega); done)))
  all_goals (try (show _ = true; subst hκ; delta kid; (have ho := encS_ok (ofL l); generalize encS (ofL l) = xs at ho ⊢; cases xs <;> exact ho)))
  all_goals (try (show 2560 = _; subst hκ; delta kid; (have ho := encS_len2 (s := ofL l) (ofL_len l); generalize encS (ofL l) = xs at ho ⊢; cases xs <;> exact ho.symm)))
  all_goals (try (show Side _; subst hκ; delta kid; refine ⟨?_⟩; rw [encS_noS, encS_len, encS_len, ofL_len l, noS_len]; omega))
  all_goals (try (show _ = true; subst hκ; delta kid; (have ho := encS_ok ((withP (⟨3, false, 0, 0⟩ : At) (IntKind.i64.wrap (4096 * endB m) / 4096).toNat (ofL l) ((IntKind.i64.wrap (4096 * endB q) / 4096).toNat - (IntKind.i64.wrap (4096 * endB m) / 4096).toNat))); generalize encS ((withP (⟨3, false, 0, 0⟩ : At) (IntKind.i64.wrap (4096 * endB m) / 4096).toNat (ofL l) ((IntKind.i64.wrap (4096 * endB q) / 4096).toNat - (IntKind.i64.wrap (4096 * endB m) / 4096).toNat))) = xs at ho ⊢; cases xs <;> exact ho)))
  all_goals (try (show 2560 = _; subst hκ; delta kid; (have ho := encS_len2 (s := (withP (⟨3, false, 0, 0⟩ : At) (IntKind.i64.wrap (4096 * endB m) / 4096).toNat (ofL l) ((IntKind.i64.wrap (4096 * endB q) / 4096).toNat - (IntKind.i64.wrap (4096 * endB m) / 4096).toNat))) (((withP_len _ _ _ _).trans (ofL_len l))); generalize encS ((withP (⟨3, false, 0, 0⟩ : At) (IntKind.i64.wrap (4096 * endB m) / 4096).toNat (ofL l) ((IntKind.i64.wrap (4096 * endB q) / 4096).toNat - (IntKind.i64.wrap (4096 * endB m) / 4096).toNat))) = xs at ho ⊢; cases xs <;> exact ho.symm)))
  all_goals (try (show Side _; subst hκ; delta kid; refine ⟨?_⟩; rw [encS_noS, encS_len, encS_len, ((withP_len _ _ _ _).trans (ofL_len l)), noS_len]; omega))
  all_goals (try (show _ = true; subst hκ; delta kid; (have ho := encS_ok ((woP (IntKind.i64.wrap (4096 * endB q) / 4096).toNat (ofL l) ((IntKind.i64.wrap (4096 * endB m) / 4096).toNat - (IntKind.i64.wrap (4096 * endB q) / 4096).toNat))); generalize encS ((woP (IntKind.i64.wrap (4096 * endB q) / 4096).toNat (ofL l) ((IntKind.i64.wrap (4096 * endB m) / 4096).toNat - (IntKind.i64.wrap (4096 * endB q) / 4096).toNat))) = xs at ho ⊢; cases xs <;> exact ho)))
  all_goals (try (show 2560 = _; subst hκ; delta kid; (have ho := encS_len2 (s := (woP (IntKind.i64.wrap (4096 * endB q) / 4096).toNat (ofL l) ((IntKind.i64.wrap (4096 * endB m) / 4096).toNat - (IntKind.i64.wrap (4096 * endB q) / 4096).toNat))) (((woP_len _ _ _).trans (ofL_len l))); generalize encS ((woP (IntKind.i64.wrap (4096 * endB q) / 4096).toNat (ofL l) ((IntKind.i64.wrap (4096 * endB m) / 4096).toNat - (IntKind.i64.wrap (4096 * endB q) / 4096).toNat))) = xs at ho ⊢; cases xs <;> exact ho.symm)))
  all_goals (try (show Side _; subst hκ; delta kid; refine ⟨?_⟩; rw [encS_noS, encS_len, encS_len, ((woP_len _ _ _).trans (ofL_len l)), noS_len]; omega))
  all_goals (clear hH; subst hκ; delta kid at *; (try dsimp only at *))
  all_goals (try (show Side _; refine ⟨?_⟩; first | exact br_s1 hside.2 | exact br_s2 hside.2 (by with_reducible assumption) (by with_reducible assumption) | exact br_s3 hside.2 (by with_reducible assumption) (by with_reducible assumption) | exact put_fits (ofL_len l) ((withP_len _ _ _ _).trans (ofL_len l)) | exact put_fits (ofL_len l) ((woP_len _ _ _).trans (ofL_len l))))
  · have hb := bk_0 (l := l) (m := m) hside.1 hside.2 (by with_reducible assumption)
    refine IsX.same3 rfl (fun x => ?_) hb.2.2.2.2
    simp only [hb.2.1, hb.2.2.2.1, okA, noAt]
  · have he := bk_ok (l := l) (m := m) hside.1 hside.2 (w := q) (by with_reducible assumption) (by with_reducible assumption) (.inr (by with_reducible assumption))
    have hx := bk_k1 (l := l) (m := m) hside.1 hside.2 (w := q) (by with_reducible assumption) (by with_reducible assumption)
    have hb := bk_same (l := l) (m := m) hside.1 hside.2 (by with_reducible assumption) he hx (by with_reducible assumption)
    refine IsX.same3 rfl (fun x => ?_) hb.2.2
    simp only [hb.1, hb.2.1, errA, noAt]
  · have he := bk_ok (l := l) (m := m) hside.1 hside.2 (w := q) (by with_reducible assumption) (by with_reducible assumption) (.inr (by with_reducible assumption))
    have hx := bk_k1 (l := l) (m := m) hside.1 hside.2 (w := q) (by with_reducible assumption) (by with_reducible assumption)
    have hb := bk_new (l := l) (m := m) hside.1 hside.2 (by with_reducible assumption) he hx (by with_reducible assumption)
    refine IsX.new3 rfl rfl (fun x => ?_) hb.2.2.1 hb.2.2.2
    simp only [hb.1, hb.2.1, okA, noAt]
  · have he := bk_5 (l := l) (m := m) hside.1 hside.2 (w := q) (by with_reducible assumption) (by with_reducible assumption) (by with_reducible assumption) (by with_reducible assumption)
    have hb := bk_bad (l := l) (m := m) hside.1 hside.2 he (by decide)
    refine IsX.same3 rfl (fun x => ?_) hb.2.2.2
    simp only [hb.1, hb.2.2.1, errA, noAt]
  · have he := bk_ok (l := l) (m := m) hside.1 hside.2 (w := q) (by with_reducible assumption) (by with_reducible assumption) (.inl (by with_reducible assumption))
    have hx := bk_k2 (l := l) (m := m) hside.1 hside.2 (w := q) (by with_reducible assumption) (by with_reducible assumption)
    have hb := bk_same (l := l) (m := m) hside.1 hside.2 (by with_reducible assumption) he hx (by with_reducible assumption)
    refine IsX.same3 rfl (fun x => ?_) hb.2.2
    simp only [hb.1, hb.2.1, errA, noAt]
  · have he := bk_ok (l := l) (m := m) hside.1 hside.2 (w := q) (by with_reducible assumption) (by with_reducible assumption) (.inl (by with_reducible assumption))
    have hx := bk_k2 (l := l) (m := m) hside.1 hside.2 (w := q) (by with_reducible assumption) (by with_reducible assumption)
    have hb := bk_new (l := l) (m := m) hside.1 hside.2 (by with_reducible assumption) he hx (by with_reducible assumption)
    refine IsX.new3 rfl rfl (fun x => ?_) hb.2.2.1 hb.2.2.2
    simp only [hb.1, hb.2.1, okA, noAt]
  · have he := bk_4 (l := l) (m := m) hside.1 hside.2 (w := q) (by with_reducible assumption) (by with_reducible assumption)
    have hb := bk_bad (l := l) (m := m) hside.1 hside.2 he (by decide)
    refine IsX.same3 rfl (fun x => ?_) hb.2.2.2
    simp only [hb.1, hb.2.2.1, errA, noAt]
def e_rbmove {κ : Kp} (hκ : κ = kid) : ESpec Try.prog := fnES [.list, .flat, .flat] b_rbmove F_rbmove hκ fun avs p r hF hp => by
  unfold F_rbmove at hF
  split at hF
  case h_2 => cases hF
  rename_i l xl m q
  simp only [kid, Option.some.injEq, Prod.mk.injEq] at hF
  obtain ⟨rfl, rfl⟩ := hF
  refine ⟨fun x y h => by simp [SV.den, SV.den0, h], fun vs w hR => ?_⟩
  obtain ⟨il, Al, cl, vs0, rfl, rfl, hl, hR⟩ := hR
  obtain ⟨vs1, rfl, hR⟩ := hR
  obtain ⟨vs2, rfl, hR⟩ := hR
  have hR' : vs2 = [] := hR
  subst hR'
  exact (k_rbmove l m q Al cl hp w hl).mono fun e w' ⟨v, H', h1, h2, h3⟩ => ⟨v, H', h1, h2.swap rfl, h3⟩
end Go.Proofs.Ytbcicjmepojlnaa.Eng
/- Contracts of functions (printed by genx.py of this work): what each hands back; condition: as its 'hside' says. -/
namespace Go.Proofs.Ytbcicjmepojlnaa.Eng
open Go Go.RowKit
set_option linter.unusedVariables false
set_option linter.unusedSimpArgs false
end Go.Proofs.Ytbcicjmepojlnaa.Eng
/- Contracts of functions (printed by genx.py of this work): what each hands back; condition: as its 'hside' says. -/
namespace Go.Proofs.Ytbcicjmepojlnaa.Eng
open Go Go.RowKit
set_option linter.unusedVariables false
set_option linter.unusedSimpArgs false
theorem b_awake13 : Bodied Try.prog 69 := bodied Try.func69 rfl (by decide)
def F_awake13 : FunX := fun κ avs => match avs with
  | [] => some (κ _ (True), (.val (.c (.v (.bool true)))))
  | _ => none
set_option maxRecDepth 100000 in
set_option maxHeartbeats 4000000 in
theorem k_awake13 (hside : True) (w : World) :
    Calls Try.prog 69 #[] w fun e w' => ∃ v H', e = .returned v.den ∧ IsX (.val (.c (.v (.bool true)))) v H' ∧ HSat w (fun _ => False) H' w' := by
  obtain ⟨κ, hκ⟩ : ∃ κ : Kp, κ = kid := ⟨_, rfl⟩
  have hH : HSat w (fun _ => False) (heapOf [(nilId, .rd none 1 0 [])]) w := by
    subst hκ
    refine HSat.reads fun p hp => ?_
    simp only [List.mem_cons, List.not_mem_nil, or_false] at hp
    rcases hp with rfl
    · exact ⟨_, _, _, _, rfl, nil_holds w⟩
  refine (callsP (n := 27) FTok [e_bmove hκ] mixed [] Try.func69 rfl (by kernel_rfl) #[] [] _ w rfl [.tmp 0] rfl (by simp) (by subst hκ; simp [SV.den, C.den, kid]) hH (fun v H' => IsX (.val (.c (.v (.bool true)))) v H') hκ ?_).mono ?_
  rotate_left
  · subst hκ; intro e w' h; exact h
  intro P' hP'
  cbv
  repeat' (first | refine And.intro ?_ ?_ | (intro _; cbv) | (refine tst_mk (fun h => ?_) (fun h => ?_) <;> cbv) | (refine LookX.nil ?_; cbv) | (refine LookX.auto hκ ?_; cbv))
  all_goals (subst hκ; delta kid at *)
  all_goals (try (show Side _; exact ⟨⟨rfl, rfl, .inl rfl⟩⟩))
  all_goals (try (show Side _; refine ⟨?_⟩; decide +kernel))
  all_goals (try (show IsX _ _ _; refine IsX.bool_ ?_; decide +kernel))
  all_goals (first | exact absurd h (by decide +kernel) | trace_state)
def e_awake13 {κ : Kp} (hκ : κ = kid) : ESpec Try.prog := fnES [] b_awake13 F_awake13 hκ fun avs p r hF hp => by
  unfold F_awake13 at hF
  split at hF
  case h_2 => cases hF
  simp only [kid, Option.some.injEq, Prod.mk.injEq] at hF
  obtain ⟨rfl, rfl⟩ := hF
  refine ⟨trivial, fun vs w hR => ?_⟩
  have hR' : vs = [] := hR
  subst hR'
  exact k_awake13 hp w
set_option maxRecDepth 100000 in
set_option maxHeartbeats 4000000 in
theorem k_brkMoves (l : List Ar) (m : Int) (c1 : Int) (c2 : Int) (c3 : Int) (c4 : Int) (c5 : Int) (c6 : Int) (c7 : Int) (c8 : Int) (c9 : Int) (Al : Option Addr) (cl : Nat) (kl : l.length ≤ cl) (hside : True) (w : World) (hl : (Ent.rd Al 6 l.length (encL l)).holds w) :
    Calls Try.prog 18 #[.slice Al l.length cl, (SV.c (.v (.int .i64 m))).den, (SV.agg [.v (.int .i64 c1), .v (.int .i64 c2), .v (.int .i64 c3), .v (.int .i64 c4), .v (.int .i64 c5), .v (.int .i64 c6), .v (.int .i64 c7), .v (.int .i64 c8), .v (.int .i64 c9)]).den] w fun e w' => ∃ v H', e = .returned v.den ∧ IsX (.val (.c (.v (.bool true)))) v H' ∧ HSat w (fun _ => False) H' w' := by
  obtain ⟨κ, hκ⟩ : ∃ κ : Kp, κ = kid := ⟨_, rfl⟩
  have hH : HSat w (fun _ => False) (heapOf [(nilId, .rd none 1 0 []), (200000, .rd Al 6 (κ _ l.length) (κ _ (encL l)))]) w := by
    subst hκ
    refine HSat.reads fun p hp => ?_
    simp only [List.mem_cons, List.not_mem_nil, or_false] at hp
    rcases hp with rfl | rfl
    · exact ⟨_, _, _, _, rfl, nil_holds w⟩
    · exact ⟨_, _, _, _, rfl, hl⟩
  refine (callsP (n := 79) FTok [e_awake13 hκ, e_some hκ, e_bmove hκ, e_rbright hκ, e_bright hκ, e_rsame hκ, e_rbmove hκ] mixed [] Try.func18 rfl (by kernel_rfl) #[.slice Al l.length cl, (SV.c (.v (.int .i64 m))).den, (SV.agg [.v (.int .i64 c1), .v (.int .i64 c2), .v (.int .i64 c3), .v (.int .i64 c4), .v (.int .i64 c5), .v (.int .i64 c6), .v (.int .i64 c7), .v (.int .i64 c8), .v (.int .i64 c9)]).den] [(0, .c (.sl 200000 Al (κ _ l.length) cl)), (1, .c (.v (.int .i64 m))), (2, .agg [.v (.int .i64 c1), .v (.int .i64 c2), .v (.int .i64 c3), .v (.int .i64 c4), .v (.int .i64 c5), .v (.int .i64 c6), .v (.int .i64 c7), .v (.int .i64 c8), .v (.int .i64 c9)])] _ w rfl [.tmp 6] rfl (by simp) (by subst hκ; simp [SV.den, C.den, kid]) hH (fun v H' => IsX (.val (.c (.v (.bool true)))) v H') hκ ?_).mono ?_
  rotate_left
  · subst hκ; intro e w' h; exact h
  intro P' hP'
  cbv
  repeat' (first | refine And.intro ?_ ?_ | (intro _; cbv) | (refine tst_mk (fun h => ?_) (fun h => ?_) <;> cbv) | (refine LookX.nil ?_; cbv) | (refine LookX.auto hκ ?_; cbv))
  all_goals (try (show Side _; refine ⟨?_⟩; subst hκ; delta kid at *; first | exact rfl | exact trivial | exact ⟨rfl, rfl, .inl rfl⟩ | exact ⟨rfl, rfl, .inl rfl, kl⟩ | exact ⟨rfl, rfl, .inl rfl, encL_ok _⟩ | exact Nat.le_trans (brk_bd _ _ _) (by omega) | exact Nat.le_trans (brk_bd _ _ _) (by have := brk_bd (someL l) m q; omega) | ((try dsimp only at *); have z1 := madeL_le l; have z2 := someL_le l; (try simp only [maxLen]); have q0 : ¬ (30 : Int) < (l.length : Int) := of_decide_eq_false (by assumption); (try simp only [setTo_len, noS_len, List.length_append, List.length_cons, List.length_nil, List.length_map, and_self, true_or, or_true, eq_self, true_and, and_true, Nat.zero_add, Nat.add_zero]); (first | done | omega); done)))
  all_goals (clear hH; subst hκ; delta kid at *; (try dsimp only at *))
  all_goals (try (exact ⟨trivial⟩))
  all_goals (try (show IsX _ _ _; exact IsX.val_ rfl))
  all_goals (try (exact ⟨by decide⟩))
  all_goals (try (show Side _; exact ⟨some_may l, (by with_reducible assumption)⟩))
  all_goals (try (show Side _; refine ⟨?_⟩; first | (simp only [brk_l1, brk_l2, brk_l3]; done) | exact brk_l4 _ _ (by with_reducible assumption)))
  all_goals (show IsX _ _ _; refine IsX.bool_ ?_)
  all_goals (first | (have e := brk_same_l (l := someL l) (by with_reducible assumption); rw [e]; exact sameL_self _) | exact sameL_self _ | (exfalso; rw [eqN_cells] at h; cases h; done) | (exfalso; rw [beq_self_eq_true] at h; cases h; done) | (obtain ⟨e1, e2, e3⟩ := brk_no (l := someL l) (w := c2) (.inr (by with_reducible assumption)); (simp only [e1, e2, e3, errA, noAt] at *) <;> (first | done | rfl | exact sameL_self _ | (exfalso; rw [sameL_self] at h; cases h; done) | (exfalso; revert h; decide) | (exfalso; simp_all; done) | (simp_all; done))) | (exfalso; simp_all; done))
set_option maxRecDepth 100000 in
set_option maxHeartbeats 4000000 in
theorem k_brkWrong (l : List Ar) (m : Int) (c1 : Int) (c2 : Int) (c3 : Int) (c4 : Int) (c5 : Int) (c6 : Int) (c7 : Int) (c8 : Int) (c9 : Int) (Al : Option Addr) (cl : Nat) (kl : l.length ≤ cl) (hside : True) (w : World) (hl : (Ent.rd Al 6 l.length (encL l)).holds w) :
    Calls Try.prog 19 #[.slice Al l.length cl, (SV.c (.v (.int .i64 m))).den, (SV.agg [.v (.int .i64 c1), .v (.int .i64 c2), .v (.int .i64 c3), .v (.int .i64 c4), .v (.int .i64 c5), .v (.int .i64 c6), .v (.int .i64 c7), .v (.int .i64 c8), .v (.int .i64 c9)]).den] w fun e w' => ∃ v H', e = .returned v.den ∧ IsX (.val (.c (.v (.bool true)))) v H' ∧ HSat w (fun _ => False) H' w' := by
  obtain ⟨κ, hκ⟩ : ∃ κ : Kp, κ = kid := ⟨_, rfl⟩
  have hH : HSat w (fun _ => False) (heapOf [(nilId, .rd none 1 0 []), (200000, .rd Al 6 (κ _ l.length) (κ _ (encL l)))]) w := by
    subst hκ
    refine HSat.reads fun p hp => ?_
    simp only [List.mem_cons, List.not_mem_nil, or_false] at hp
    rcases hp with rfl | rfl
    · exact ⟨_, _, _, _, rfl, nil_holds w⟩
    · exact ⟨_, _, _, _, rfl, hl⟩
  refine (callsP (n := 43) FTok [e_awake13 hκ, e_rmay hκ, e_bmove hκ, e_rsame hκ] mixed [] Try.func19 rfl (by kernel_rfl) #[.slice Al l.length cl, (SV.c (.v (.int .i64 m))).den, (SV.agg [.v (.int .i64 c1), .v (.int .i64 c2), .v (.int .i64 c3), .v (.int .i64 c4), .v (.int .i64 c5), .v (.int .i64 c6), .v (.int .i64 c7), .v (.int .i64 c8), .v (.int .i64 c9)]).den] [(0, .c (.sl 200000 Al (κ _ l.length) cl)), (1, .c (.v (.int .i64 m))), (2, .agg [.v (.int .i64 c1), .v (.int .i64 c2), .v (.int .i64 c3), .v (.int .i64 c4), .v (.int .i64 c5), .v (.int .i64 c6), .v (.int .i64 c7), .v (.int .i64 c8), .v (.int .i64 c9)])] _ w rfl [.tmp 6] rfl (by simp) (by subst hκ; simp [SV.den, C.den, kid]) hH (fun v H' => IsX (.val (.c (.v (.bool true)))) v H') hκ ?_).mono ?_
  rotate_left
  · subst hκ; intro e w' h; exact h
  intro P' hP'
  cbv
  repeat' (first | refine And.intro ?_ ?_ | (intro _; cbv) | (refine tst_mk (fun h => ?_) (fun h => ?_) <;> cbv) | (refine LookX.nil ?_; cbv) | (refine LookX.auto hκ ?_; cbv))
  all_goals (try (show Side _; refine ⟨?_⟩; subst hκ; delta kid at *; first | exact rfl | exact trivial | exact ⟨rfl, rfl, .inl rfl⟩ | exact ⟨rfl, rfl, .inl rfl, kl⟩ | exact ⟨rfl, rfl, .inl rfl, encL_ok _⟩ | exact Nat.le_trans (brk_bd _ _ _) (by omega) | exact Nat.le_trans (brk_bd _ _ _) (by have := brk_bd (someL l) m q; omega) | ((try dsimp only at *); have z1 := madeL_le l; have z2 := someL_le l; (try simp only [maxLen]); have q0 : ¬ (40 : Int) < (l.length : Int) := of_decide_eq_false (by assumption); (try simp only [setTo_len, noS_len, List.length_append, List.length_cons, List.length_nil, List.length_map, and_self, true_or, or_true, eq_self, true_and, and_true, Nat.zero_add, Nat.add_zero]); (first | done | omega); done)))
  all_goals (clear hH; subst hκ; delta kid at *; (try dsimp only at *))
  all_goals (try (exact ⟨trivial⟩))
  all_goals (try (show IsX _ _ _; exact IsX.val_ rfl))
  all_goals (try (exact ⟨by decide⟩))
  all_goals (try (show Side _; refine ⟨?_⟩; first | (simp only [brk_l1, brk_l2, brk_l3]; done) | exact brk_l4 _ _ (by with_reducible assumption)))
  all_goals (show IsX _ _ _; refine IsX.bool_ ?_)
  all_goals (obtain ⟨e1, e2, e3⟩ := brk_no (l := l) (m := m) (w := c2) (.inl (by with_reducible assumption)))
  all_goals ((simp only [e1, e2, e3, errA, noAt] at *) <;> (first | done | rfl | exact sameL_self _ | (exfalso; rw [sameL_self] at h; cases h; done) | (exfalso; revert h; decide) | (exfalso; simp_all; done) | (simp_all; done)))
set_option maxRecDepth 100000 in
set_option maxHeartbeats 4000000 in
theorem k_brkTwice (l : List Ar) (m : Int) (q : Int) (Al : Option Addr) (cl : Nat) (kl : l.length ≤ cl) (hside : True) (w : World) (hl : (Ent.rd Al 6 l.length (encL l)).holds w) :
    Calls Try.prog 17 #[.slice Al l.length cl, (SV.c (.v (.int .i64 m))).den, (SV.c (.v (.int .i64 q))).den] w fun e w' => ∃ v H', e = .returned v.den ∧ IsX (.val (.c (.v (.bool true)))) v H' ∧ HSat w (fun _ => False) H' w' := by
  obtain ⟨κ, hκ⟩ : ∃ κ : Kp, κ = kid := ⟨_, rfl⟩
  have hH : HSat w (fun _ => False) (heapOf [(nilId, .rd none 1 0 []), (200000, .rd Al 6 (κ _ l.length) (κ _ (encL l)))]) w := by
    subst hκ
    refine HSat.reads fun p hp => ?_
    simp only [List.mem_cons, List.not_mem_nil, or_false] at hp
    rcases hp with rfl | rfl
    · exact ⟨_, _, _, _, rfl, nil_holds w⟩
    · exact ⟨_, _, _, _, rfl, hl⟩
  refine (callsP (n := 86) FTok [e_awake13 hκ, e_some hκ, e_bmove hκ, e_rsame hκ] mixed [] Try.func17 rfl (by kernel_rfl) #[.slice Al l.length cl, (SV.c (.v (.int .i64 m))).den, (SV.c (.v (.int .i64 q))).den] [(0, .c (.sl 200000 Al (κ _ l.length) cl)), (1, .c (.v (.int .i64 m))), (2, .c (.v (.int .i64 q)))] _ w rfl [.tmp 6] rfl (by simp) (by subst hκ; simp [SV.den, C.den, kid]) hH (fun v H' => IsX (.val (.c (.v (.bool true)))) v H') hκ ?_).mono ?_
  rotate_left
  · subst hκ; intro e w' h; exact h
  intro P' hP'
  cbv
  repeat' (first | refine And.intro ?_ ?_ | (intro _; cbv) | (refine tst_mk (fun h => ?_) (fun h => ?_) <;> cbv) | (refine LookX.nil ?_; cbv) | (refine LookX.auto hκ ?_; cbv))
  all_goals (try (show Side _; refine ⟨?_⟩; subst hκ; delta kid at *; first | exact rfl | exact trivial | exact ⟨rfl, rfl, .inl rfl⟩ | exact ⟨rfl, rfl, .inl rfl, kl⟩ | exact ⟨rfl, rfl, .inl rfl, encL_ok _⟩ | exact Nat.le_trans (brk_bd _ _ _) (by omega) | exact Nat.le_trans (brk_bd _ _ _) (by have := brk_bd (someL l) m q; omega) | ((try dsimp only at *); have z1 := madeL_le l; have z2 := someL_le l; (try simp only [maxLen]); have q0 : ¬ (30 : Int) < (l.length : Int) := of_decide_eq_false (by assumption); (try simp only [setTo_len, noS_len, List.length_append, List.length_cons, List.length_nil, List.length_map, and_self, true_or, or_true, eq_self, true_and, and_true, Nat.zero_add, Nat.add_zero]); (first | done | omega); done)))
  all_goals (clear hH; subst hκ; delta kid at *; (try dsimp only at *))
  all_goals (try (exact ⟨trivial⟩))
  all_goals (try (show IsX _ _ _; exact IsX.val_ rfl))
  all_goals (try (exact ⟨by decide⟩))
  all_goals (try (show Side _; refine ⟨?_⟩; first | (simp only [brk_l1, brk_l2, brk_l3]; done) | exact brk_l4 _ _ (by with_reducible assumption)))
  all_goals (show IsX _ _ _; refine IsX.bool_ ?_)
  all_goals (try (have e := brk_self (by with_reducible assumption : ((brkN (someL l) m q).er != 0) = true); rw [e.2]; simp; done))
  all_goals (have he := bne_no (by with_reducible assumption : ((brkN (someL l) m q).er != 0) = false))
  all_goals (obtain ⟨e1, e2, e3, e4, e5, e6⟩ := brk_twice he)
  all_goals (clear he; (simp only [e1, e2, e3, e4, e5, e6, okA, noAt] at *) <;> (first | done | rfl | exact sameL_self _ | (exfalso; rw [sameL_self] at h; cases h; done) | (exfalso; revert h; decide) | (exfalso; simp_all; done) | (simp_all; done)))
set_option maxRecDepth 100000 in
set_option maxHeartbeats 4000000 in
theorem k_brkBack (l : List Ar) (m : Int) (q : Int) (Al : Option Addr) (cl : Nat) (kl : l.length ≤ cl) (hside : True) (w : World) (hl : (Ent.rd Al 6 l.length (encL l)).holds w) :
    Calls Try.prog 20 #[.slice Al l.length cl, (SV.c (.v (.int .i64 m))).den, (SV.c (.v (.int .i64 q))).den] w fun e w' => ∃ v H', e = .returned v.den ∧ IsX (.val (.c (.v (.bool true)))) v H' ∧ HSat w (fun _ => False) H' w' := by
  obtain ⟨κ, hκ⟩ : ∃ κ : Kp, κ = kid := ⟨_, rfl⟩
  have hH : HSat w (fun _ => False) (heapOf [(nilId, .rd none 1 0 []), (200000, .rd Al 6 (κ _ l.length) (κ _ (encL l)))]) w := by
    subst hκ
    refine HSat.reads fun p hp => ?_
    simp only [List.mem_cons, List.not_mem_nil, or_false] at hp
    rcases hp with rfl | rfl
    · exact ⟨_, _, _, _, rfl, nil_holds w⟩
    · exact ⟨_, _, _, _, rfl, hl⟩
  refine (callsP (n := 63) FTok [e_awake13 hκ, e_some hκ, e_bmove hκ, e_rsame hκ] mixed [] Try.func20 rfl (by kernel_rfl) #[.slice Al l.length cl, (SV.c (.v (.int .i64 m))).den, (SV.c (.v (.int .i64 q))).den] [(0, .c (.sl 200000 Al (κ _ l.length) cl)), (1, .c (.v (.int .i64 m))), (2, .c (.v (.int .i64 q)))] _ w rfl [.tmp 6] rfl (by simp) (by subst hκ; simp [SV.den, C.den, kid]) hH (fun v H' => IsX (.val (.c (.v (.bool true)))) v H') hκ ?_).mono ?_
  rotate_left
  · subst hκ; intro e w' h; exact h
  intro P' hP'
  cbv
  repeat' (first | refine And.intro ?_ ?_ | (intro _; cbv) | (refine tst_mk (fun h => ?_) (fun h => ?_) <;> cbv) | (refine LookX.nil ?_; cbv) | (refine LookX.auto hκ ?_; cbv))
  all_goals (try (show Side _; refine ⟨?_⟩; subst hκ; delta kid at *; first | exact rfl | exact trivial | exact ⟨rfl, rfl, .inl rfl⟩ | exact ⟨rfl, rfl, .inl rfl, kl⟩ | exact ⟨rfl, rfl, .inl rfl, encL_ok _⟩ | exact Nat.le_trans (brk_bd _ _ _) (by omega) | exact Nat.le_trans (brk_bd _ _ _) (by have := brk_bd (someL l) m q; omega) | ((try dsimp only at *); have z1 := madeL_le l; have z2 := someL_le l; (try simp only [maxLen]); have q0 : ¬ (30 : Int) < (l.length : Int) := of_decide_eq_false (by assumption); (try simp only [setTo_len, noS_len, List.length_append, List.length_cons, List.length_nil, List.length_map, and_self, true_or, or_true, eq_self, true_and, and_true, Nat.zero_add, Nat.add_zero]); (first | done | omega); done)))
  all_goals (clear hH; subst hκ; delta kid at *; (try dsimp only at *))
  all_goals (try (exact ⟨trivial⟩))
  all_goals (try (show IsX _ _ _; exact IsX.val_ rfl))
  all_goals (try (exact ⟨by decide⟩))
  all_goals (try (show Side _; refine ⟨?_⟩; first | (simp only [brk_l1, brk_l2, brk_l3]; done) | exact brk_l4 _ _ (by with_reducible assumption)))
  all_goals (show IsX _ _ _; refine IsX.bool_ ?_)
  all_goals (have he := bne_no (by with_reducible assumption : ((brkN (someL l) m q).er != 0) = false))
  all_goals (have hlt := of_decide_eq_false (by with_reducible assumption : decide (q ≤ m) = false))
  all_goals (obtain ⟨e0, e1, e2, e3⟩ := brk_back he (by omega))
  all_goals (clear he hlt; (simp only [e0, e1, e2, e3] at *) <;> (first | done | rfl | exact sameL_self _ | (exfalso; rw [sameL_self] at h; cases h; done) | (exfalso; revert h; decide) | (exfalso; simp_all; done) | (simp_all; done)))
end Go.Proofs.Ytbcicjmepojlnaa.Eng
