/- Each operation does what its predicate says; no condition. -/
import Derived.Test.YtjlgeoaomegbmaaEng3
namespace Go.Proofs.Ytjlgeoaomegbmaa.Eng
open Go Go.RowKit
set_option autoImplicit false
set_option linter.unusedSimpArgs false
set_option linter.unusedVariables false

variable {P : Program} {F : TT} {n : Nat} {env : Env} {a : Act} {w w0 : World} {M : Nat → Prop} {H : Heap} {K : KT} {d : Nat}

theorem eval_ev (hE : EnvOk n env a) (x : Operand) (hk : (ev env x).known = true) : a.eval x = (ev env x).den := by
  cases x with
  | tmp t => 
    have := hE.slot t hk
    simp only [Act.eval, ev]
    rw [Array.getD_eq_getD_getElem?, this]; rfl
  | const v => exact (den_svOf v).symm
  | global g => rfl
  | func f => rfl

theorem eval_c {x : Operand} {c : C} (hE : EnvOk n env a) (hx : ev env x = .c c) (hc : c ≠ .any) : a.eval x = c.den := by
  have hk : (ev env x).known = true := by rw [hx]; cases c <;> first | rfl | exact absurd rfl hc
  rw [eval_ev hE x hk, hx]
  rfl
theorem eval_v {x : Operand} {v : Value} (hE : EnvOk n env a) (hx : ev env x = .c (.v v)) : a.eval x = v := eval_c hE hx (by simp)
theorem eval_agg {x : Operand} {l : List C} (hE : EnvOk n env a) (hx : ev env x = .agg l) : a.eval x = .agg (l.map C.den).toArray := by
  rw [eval_ev hE x (by rw [hx]; rfl), hx]
  rfl

/-- What an operation's end is held to. -/
def Post (dst : Option Nat) (a : Act) (w0 : World) (M : Nat → Prop) (H : Heap) (K : KT) (a' : Act) (w' : World) : Prop :=
  ∃ v u x, K v u ∧ a' = a.put dst x ∧ (v.known = true → x = v.den) ∧ HSat w0 M (upds H u) w'

theorem wp_pure {o : Oper} {Q : Exit → Act → World → Prop} (hH : HSat w0 M H w) (v : SV) (x : Value) (hK : K v []) (hx : v.known = true → x = v.den) (hrun : (execOp a.eval o).run P w = .ok (.value x) w) :
    o.wp P a w (Post o.dst a w0 M H K) Q := by
  unfold Oper.wp
  rw [hrun]
  exact ⟨v, [], x, hK, rfl, hx, hH⟩

theorem restrict_some {ids : List Nat} {i : Nat} {e : Ent} (h : restrict H ids i = some e) : H i = some e := by
  unfold restrict at h
  split at h
  · exact h
  · cases h

theorem szT_true {t m : Nat} (h : szT P t = some (true, m)) : (∃ fs, P.underlying t = some (.struct fs)) ∨ (∃ k e, P.underlying t = some (.array k e)) := by
  unfold szT at h
  split at h <;> simp_all
theorem szT_size {t m : Nat} {g : Bool} (h : szT P t = some (g, m)) : ∃ i, P.info? t = some i ∧ i.size = m := by
  unfold szT at h
  split at h <;> simp_all
theorem szT_agg {t m : Nat} {g : Bool} (h : szT P t = some (g, m)) (w : World) : (isAgg t).run P w = .ok g w := by
  unfold szT at h
  unfold isAgg
  split at h <;> simp_all [underlying]

theorem loadVar_agg {t m : Nat} (h : szT P t = some (true, m)) (p : Addr) (l : List Value) (hl : l.length = m) (hc : ∀ j u, l[j]? = some u → w.cell? (p.add j) = some u) :
    (loadVar t p).run P w = .ok (.agg l.toArray) w := by
  obtain ⟨i, hi, hs⟩ := szT_size h
  simp only [loadVar, Sem.run_bind, szT_agg h, Result.andThen_ok, if_true, sizeOf, typeInfo, run_program, hi, hs, Sem.run_pure]
  rw [← hl, run_loadCells_list w p l hc]
  rfl
theorem loadVar_one {t m : Nat} (h : szT P t = some (false, m)) (p : Addr) (u : Value) (hc : w.cell? p = some u) :
    (loadVar t p).run P w = .ok u w := by
  simp only [loadVar, Sem.run_bind, szT_agg h, Result.andThen_ok, Bool.false_eq_true, if_false, run_load, hc]

theorem cell_blk {b t : Nat} {cs : List C} (h : (Ent.blk b t cs).holds w) (j : Nat) : w.cell? ⟨b, j, none⟩ = (cs.map C.den)[j]? := by
  have : w.heap[b]? = some (.cells (cs.map C.den).toArray t (0, 0)) := h
  rw [cell_of_row w b j _ t (0, 0) this]
  simp
theorem add_loc (b o j : Nat) : (⟨b, o, none⟩ : Addr).add j = ⟨b, o + j, none⟩ := by unfold Addr.add; split <;> simp_all

/-- A row of whatever kind reads. -/
theorem cells_rd {A : Option Addr} {sz m : Nat} {xs : List C} (h : (Ent.rd A sz m xs).holds w) (hx : xs ≠ []) : ∀ j u, (xs.map C.den)[j]? = some u → w.cell? ((A.getD ⟨0, 0, none⟩).add j) = some u := by
  obtain ⟨p, rfl, _, hc⟩ := h.2 hx
  exact hc
theorem cells_row {A : Option Addr} {c t sz m : Nat} {xs : List C} (h : (Ent.row A c t sz m xs).holds w) (hx : xs ≠ []) : ∀ j u, (xs.map C.den)[j]? = some u → w.cell? ((A.getD ⟨0, 0, none⟩).add j) = some u := by
  have hl : 0 < xs.length := List.length_pos_iff.2 hx
  have hc : 0 < c := by
    rcases Nat.eq_zero_or_pos c with h0 | h0
    · have := h.2.1; have h1 := h.1; rw [show m = 0 by omega] at h1; omega
    · exact h0
  obtain ⟨g, cur, rfl, hg, _, _, ht⟩ := h.2.2 hc
  intro j u hu
  show w.cell? ((⟨g, 0, none⟩ : Addr).add j) = some u
  rw [add_loc, Nat.zero_add, cell_of_row w g j cur t (0, 0) hg]
  rw [← ht, List.getElem?_take] at hu
  split at hu
  · simpa using hu
  · cases hu

theorem getElem?_drop_take {α : Type} (l : List α) (k m j : Nat) : ((l.drop k).take m)[j]? = if j < m then l[k + j]? else none := by
  rw [List.getElem?_take]
  split
  · rw [List.getElem?_drop]
  · rfl

theorem load_sound (hF : TTok P F) {o : Oper} {Q : Exit → Act → World → Prop} (hE : EnvOk n env a) (hH : HSat w0 M H w) (t : TypeId) (x : Operand) (ho : o.op = .load t x) (ids : List Nat)
    (h : loadT F t (ev env x) (restrict H ids) K) : o.wp P a w (Post o.dst a w0 M H K) Q := by
  unfold loadT at h
  split at h
  · rename_i id b off hx
    have hev := eval_c hE hx (by simp)
    split at h
    · rename_i b' t' cs hHid
      obtain ⟨rfl, h⟩ := h
      have hent := hH.holds _ _ (restrict_some hHid)
      split at h
      · rename_i m hsz
        have hsz := hF.sz_ hsz
        obtain ⟨hlen, hK⟩ := h
        refine wp_pure hH _ _ hK (fun _ => rfl) ?_
        unfold execOp
        simp only [ho, hev, C.den, Sem.run_bind, Instr.loadAt, Instr.sureAddr, Sem.run_pure, Result.andThen_ok]
        rw [loadVar_agg hsz ⟨b, off, none⟩ (((cs.drop off).take m).map C.den) (by simp; omega) ?_]
        · rfl
        · intro j u hu
          rw [add_loc, cell_blk hent]
          rw [List.getElem?_map, getElem?_drop_take] at hu
          split at hu
          · rw [List.getElem?_map]; exact hu
          · cases hu
      · rename_i m hsz
        have hsz := hF.sz_ hsz
        split at h
        · rename_i c hc
          refine wp_pure hH _ c.den h (fun hk => by cases c <;> first | rfl | cases hk) ?_
          unfold execOp
          simp only [ho, hev, C.den, Sem.run_bind, Instr.loadAt, Instr.sureAddr, Sem.run_pure, Result.andThen_ok]
          rw [loadVar_one hsz ⟨b, off, none⟩ c.den (by rw [cell_blk hent, List.getElem?_map, hc]; rfl)]
          rfl
        · exact h.elim
      · exact h.elim
    · exact h.elim
  · rename_i id A k hx
    have hev := eval_c hE hx (by simp)
    have main : ∀ xs : List C, (xs ≠ [] → ∀ j u, (xs.map C.den)[j]? = some u → w.cell? ((A.getD ⟨0, 0, none⟩).add j) = some u) →
        (match look F.sz t with
        | some (true, m) => 0 < m ∧ k + m ≤ xs.length ∧ K (.agg ((xs.drop k).take m)) []
        | some (false, _) => match xs[k]? with
          | some x => K (.c x) []
          | none => False
        | none => False) → o.wp P a w (Post o.dst a w0 M H K) Q := by
      intro xs hcells h
      split at h
      · rename_i m hsz
        have hsz := hF.sz_ hsz
        obtain ⟨hm, hlen, hK⟩ := h
        refine wp_pure hH _ _ hK (fun _ => rfl) ?_
        unfold execOp
        simp only [ho, hev, C.den, Sem.run_bind, Instr.loadAt, Instr.sureAddr, Sem.run_pure, Result.andThen_ok]
        rw [loadVar_agg hsz _ (((xs.drop k).take m).map C.den) (by simp; omega) ?_]
        · rfl
        · intro j u hu
          rw [add_add]
          refine hcells (fun e => by subst e; simp at hlen; omega) (k + j) u ?_
          rw [List.getElem?_map, getElem?_drop_take] at hu
          split at hu
          · rw [List.getElem?_map]; exact hu
          · cases hu
      · rename_i m hsz
        have hsz := hF.sz_ hsz
        split at h
        case h_2 => exact h.elim
        rename_i c hc
        refine wp_pure hH _ c.den h (fun hk => by cases c <;> first | rfl | cases hk) ?_
        unfold execOp
        simp only [ho, hev, C.den, Sem.run_bind, Instr.loadAt, Instr.sureAddr, Sem.run_pure, Result.andThen_ok]
        rw [loadVar_one hsz _ c.den (hcells (fun e => by subst e; cases hc) k _ (by rw [List.getElem?_map, hc]; rfl))]
        rfl
      · exact h.elim
    split at h
    · rename_i A' sz' m xs hHid
      obtain ⟨rfl, h⟩ := h
      exact main xs (fun hx => cells_rd (hH.holds _ _ (restrict_some hHid)) hx) h
    · rename_i A' c' t' sz' m xs hHid
      obtain ⟨rfl, h⟩ := h
      exact main xs (fun hx => cells_row (hH.holds _ _ (restrict_some hHid)) hx) h
    · exact h.elim
  · exact h.elim

end Go.Proofs.Ytjlgeoaomegbmaa.Eng
