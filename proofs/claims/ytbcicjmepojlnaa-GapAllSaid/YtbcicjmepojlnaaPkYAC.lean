/- Texts of this work, laid together: symbolic execution over the model, contracts of the program's functions, what they come to; conditions: as each says. -/
import Derived.Test.YtbcicjmepojlnaaPkYAB
/- Each operation does what its predicate says: stores, new blocks; no condition. -/
namespace Go.Proofs.Ytbcicjmepojlnaa.Eng
open Go Go.RowKit
set_option autoImplicit false
set_option linter.unusedSimpArgs false
set_option linter.unusedVariables false
variable {P : Program} {F : TT} {n : Nat} {env : Env} {a : Act} {w w0 : World} {M : Nat → Prop} {H : Heap} {K : KT} {d : Nat}
theorem wp_skipped {o : Oper} {Q : Exit → Act → World → Prop} {w' : World} (v : SV) (u : Upd) (hv : v.known = false) (hK : K v u) (hH : HSat w0 M (upds H u) w') (hrun : (execOp a.eval o).run P w = .ok .skip w') :
    o.wp P a w (Post o.dst a w0 M H K) Q := by
  unfold Oper.wp
  rw [hrun]
  exact ⟨v, u, undef, hK, rfl, (fun h => by rw [hv] at h; cases h), hH⟩
theorem wp_made {o : Oper} {Q : Exit → Act → World → Prop} {w' : World} (v : SV) (u : Upd) (x : Value) (hx : v.known = true → x = v.den) (hK : K v u) (hH : HSat w0 M (upds H u) w') (hrun : (execOp a.eval o).run P w = .ok (.value x) w') :
    o.wp P a w (Post o.dst a w0 M H K) Q := by
  unfold Oper.wp
  rw [hrun]
  exact ⟨v, u, x, hK, rfl, hx, hH⟩
theorem HSat.block {i : Nat} {b t : Nat} {cs : List C} (hH : HSat w0 M H w) (h : H i = some (.blk b t cs)) : w.heap[b]? = some (.cells (cs.map C.den).toArray t (0, 0)) := hH.holds i _ h
theorem HSat.setRow {i j : Nat} {g t : Nat} {old new : Array Value} {e e' : Ent} (hH : HSat w0 M H w) (hi : H i = some e) (hm : e.mut = true) (hb : e.block = some g)
    (hg : w.heap[g]? = some (.cells old t (0, 0))) (hh : e'.holds (w.setRow g new)) (hb' : ∀ k, e'.block = some k → k = g) : HSat w0 M (upd (upd H i none) j (some e')) (w.setRow g new) := by
  have h1 := hH.step (w' := w.setRow g new) (some i) (fun k => k = g) rfl rfl rfl (by simp) (fun k _ hk => setRow_other w g k new hk) (fun k hk _ => ⟨i, e, rfl, hi, hm, by rw [hk]; exact hb⟩) j e' hh
    (fun k hk => ⟨by rw [hb' k hk, setRow_size]; exact hH.lt i e hi g hb, .inl (hb' k hk)⟩)
  exact h1
theorem upd_upd_none (H : Heap) (i : Nat) (e : Option Ent) : upd (upd H i none) i e = upd H i e := by
  funext t
  simp only [upd_apply]
  split <;> rfl
theorem splice_get {α : Type} (l r : List α) (o : Nat) (h : o + r.length ≤ l.length) (j : Nat) : (l.take o ++ r ++ l.drop (o + r.length))[j]? = if j < o then l[j]? else if j < o + r.length then r[j - o]? else l[j]? := by
  have e1 : (l.take o).length = o := by rw [List.length_take]; omega
  by_cases hj : j < o
  · rw [if_pos hj, List.append_assoc, List.getElem?_append_left (by omega), List.getElem?_take, if_pos hj]
  · rw [if_neg hj, List.append_assoc, List.getElem?_append_right (by omega), e1]
    by_cases hj2 : j < o + r.length
    · rw [if_pos hj2, List.getElem?_append_left (by omega)]
    · rw [if_neg hj2, List.getElem?_append_right (by omega), List.getElem?_drop]
      congr 1
      omega
theorem putCells_eq (cs : List C) (o : Nat) (l : List C) (h : o + l.length ≤ cs.length) : (putCells cs o l).map C.den = (cs.map C.den).take o ++ l.map C.den ++ (cs.map C.den).drop (o + l.length) := by
  unfold putCells
  split
  · rename_i x
    apply List.ext_getElem?
    intro j
    have hs := splice_get (cs.map C.den) ([x].map C.den) o (by simpa using h) j
    simp only [List.length_map] at hs
    rw [hs, List.map_set, List.getElem?_set]
    simp only [List.length_map, List.length_singleton] at h ⊢
    by_cases hj : j < o
    · rw [if_neg (by omega), if_pos hj]
    · rw [if_neg hj]
      by_cases hj2 : o = j
      · subst hj2; rw [if_pos rfl, if_pos (by omega), if_pos (by omega)]; simp
      · rw [if_neg hj2, if_neg (by omega)]
  · simp
theorem store_sound (hF : TTok P F) {o : Oper} {Q : Exit → Act → World → Prop} (hE : EnvOk n env a) (hH : HSat w0 M H w) (t : TypeId) (x y : Operand) (ho : o.op = .store t x y) (ids : List Nat)
    (h : storeT F t (ev env x) (ev env y) (restrict H ids) K) : o.wp P a w (Post o.dst a w0 M H K) Q := by
  unfold storeT at h
  split at h
  · exact h.elim
  · rename_i l hl
    obtain ⟨h1, hsz0, h⟩ := h
    obtain ⟨g0, hsz⟩ : ∃ g, szT P t = some (g, l.length) := by
      split at hsz0
      · rename_i g m hl
        subst hsz0
        exact ⟨g, hF.sz_ hl⟩
      · exact hsz0.elim
    obtain ⟨inf, hinf, hsize⟩ := szT_size hsz
    have hcells : (a.eval y).cells = (l.map C.den).toArray := by
      cases hy : ev env y with
      | c c =>
        rw [hy] at hl
        cases c with
        | any => cases hl
        | v x =>
          injection hl with hl; subst hl
          rw [eval_c hE hy (by simp)]
          have : x.oneCell' = true := by simpa [ok1, C.den] using h1
          cases x <;> first | rfl | (simp [Value.oneCell'] at this)
        | loc i b o => injection hl with hl; subst hl; rw [eval_c hE hy (by simp)]; rfl
        | sl i A m c => injection hl with hl; subst hl; rw [eval_c hE hy (by simp)]; rfl
        | el i A k => injection hl with hl; subst hl; rw [eval_c hE hy (by simp)]; rfl
        | fn f i b o => injection hl with hl; subst hl; rw [eval_c hE hy (by simp)]; rfl
      | agg l' => rw [hy] at hl; injection hl with hl; subst hl; rw [eval_agg hE hy]; rfl
      | tup l' => rw [hy] at hl; cases hl
    have hone : ∀ v ∈ l.map C.den, v.oneCell' = true := by
      intro v hv
      obtain ⟨c, hc, rfl⟩ := List.mem_map.1 hv
      exact List.all_eq_true.1 h1 c hc
    have hstore : ∀ (p : Addr) (w' : World), (storeCells p (l.map C.den)).run P w = .ok () w' → a.eval x = .pointer (some p) → (execOp a.eval o).run P w = .ok .skip w' := by
      intro p w' hrun hx
      unfold execOp
      simp only [ho, hx, Sem.run_bind, Instr.storeAt, Instr.sureAddr, Sem.run_pure, Result.andThen_ok, storeVar, sizeOf, typeInfo, run_program, hinf, hsize, hcells]
      simp [hrun]
    split at h
    · rename_i id b off hx
      have hev := eval_c hE hx (by simp)
      split at h
      · rename_i b' t' cs hHid
        obtain ⟨rfl, hlen, hK⟩ := h
        have hHid' := restrict_some hHid
        have hg := hH.block hHid'
        have hst := run_storeCells_at P b off t' (l.map C.den) 0 (cs.map C.den).toArray w hg (by simpa using hlen) hone
        refine wp_skipped _ _ rfl hK ?_ (hstore _ _ hst hev)
        have := hH.setRow (j := id) (new := ((cs.map C.den).toArray.toList.take (off + 0) ++ l.map C.den ++ (cs.map C.den).toArray.toList.drop (off + 0 + (l.map C.den).length)).toArray) (e' := .blk b t' (putCells cs off l)) hHid' rfl rfl hg ?_ (fun k hk => by injection hk with hk; exact hk.symm)
        · rw [upd_upd_none] at this
          exact this
        · show (w.setRow b _).heap[b]? = _
          rw [setRow_heap w b _ _ t' (0, 0) hg, putCells_eq cs off l hlen]
          simp
      · exact h.elim
    · rename_i id A k hx
      have hev := eval_c hE hx (by simp)
      split at h
      · rename_i A' c t' sz m xs hHid
        obtain ⟨rfl, hpos, hlen, hK⟩ := h
        have hHid' := restrict_some hHid
        obtain ⟨hxl, hmc, hrow⟩ := hH.holds _ _ hHid'
        have hc : 0 < c := by
          rcases Nat.eq_zero_or_pos c with h0 | h0
          · rw [show m = 0 by omega] at hxl; omega
          · exact h0
        obtain ⟨g, cur, rfl, hg, hcm, hcs, htake⟩ := hrow hc
        have hev' : a.eval x = .pointer (some ⟨g, k, none⟩) := by rw [hev]; show Value.pointer (some ((⟨g, 0, none⟩ : Addr).add k)) = _; rw [add_loc, Nat.zero_add]
        have hle : m * sz ≤ c * sz := Nat.mul_le_mul_right _ hmc
        have hst := run_storeCells_at P g k t' (l.map C.den) 0 cur w hg (by simp; omega) hone
        refine wp_skipped _ _ rfl hK ?_ (hstore _ _ hst hev')
        have := hH.setRow (j := id) (new := (cur.toList.take (k + 0) ++ l.map C.den ++ cur.toList.drop (k + 0 + (l.map C.den).length)).toArray) (e' := .row (some ⟨g, 0, none⟩) c t' sz m (putCells xs k l)) hHid' rfl (by simp [Ent.block]; omega) hg ?_ (fun k hk => by simp [Ent.block] at hk; exact hk.2.symm)
        · rw [upd_upd_none] at this
          exact this
        · have hpl : (putCells xs k l).length = xs.length := by
            have := congrArg List.length (putCells_eq xs k l hlen)
            simp at this
            omega
          refine ⟨by rw [hpl]; exact hxl, hmc, fun _ => ⟨g, _, rfl, setRow_heap w g _ _ t' (0, 0) hg, hcm, ?_, ?_⟩⟩
          · simp; omega
          · rw [putCells_eq xs k l hlen, ← htake]
            simp only [Nat.add_zero]
            apply List.ext_getElem?
            intro j
            have hs1 := splice_get cur.toList (l.map C.den) k (by simp; omega) j
            have hs2 := splice_get (cur.toList.take (m * sz)) (l.map C.den) k (by simp; omega) j
            simp only [List.length_map] at hs1 hs2 ⊢
            rw [hs2, List.getElem?_take, hs1, List.getElem?_take]
            by_cases hj : j < m * sz
            · rw [if_pos hj, if_pos hj]
            · rw [if_neg hj, if_neg (by omega), if_neg (by omega), if_neg hj]
      · exact h.elim
    · exact h.elim
theorem HSat.newBlk (hH : HSat w0 M H w) (d t : Nat) (cs : List C) : HSat w0 M (upd H d (some (.blk w.heap.size t cs))) (w.alloc (.cells (cs.map C.den).toArray t)) := by
  have h1 : (Ent.blk w.heap.size t cs).holds (w.alloc (.cells (cs.map C.den).toArray t)) := heap_alloc_new w _
  refine hH.step (w' := w.alloc (.cells (cs.map C.den).toArray t)) none (fun _ => False) rfl rfl rfl (by simp) (fun k hk _ => heap_alloc_old w _ k hk) (fun _ h => h.elim) d _ h1 ?_
  intro g hg
  have hg' : w.heap.size = g := by injection hg
  subst hg'
  exact ⟨by simp, .inr (Nat.le_refl _)⟩
theorem alloc_sound (hF : TTok P F) {o : Oper} {Q : Exit → Act → World → Prop} (hE : EnvOk n env a) (hH : HSat w0 M H w) (t : TypeId) (ho : o.op = .alloc t)
    (h : match zeroF F t with
      | some cs => ∀ b, K (.c (.loc d b 0)) [(d, some (.blk b t cs))]
      | none => False) : o.wp P a w (Post o.dst a w0 M H K) Q := by
  split at h
  · rename_i cs hz
    have hz := hF.zeroF_ hz
    unfold zeroT at hz
    obtain ⟨z, hz0, rfl⟩ := Option.map_eq_some_iff.1 hz
    obtain ⟨i, hi, hz1⟩ := Option.bind_eq_some_iff.1 hz0
    refine wp_made (w' := w.alloc (.cells z.cells t)) _ _ (.pointer (some ⟨w.heap.size, 0, none⟩)) (fun _ => rfl) (h w.heap.size) ?_ ?_
    · have := hH.newBlk d t (z.cells.toList.map cOf)
      rw [map_den_cOf] at this
      simpa [upds] using this
    · unfold execOp
      simp [ho, Instr.alloc, zeroValue, typeInfo, hi, hz1, newVar, newRow]
  · exact h.elim
theorem box_sound {o : Oper} {Q : Exit → Act → World → Prop} (hE : EnvOk n env a) (hH : HSat w0 M H w) (t : TypeId) (x : Operand) (ho : o.op = .box t x)
    (h : match (ev env x).cells? with
      | some cs => ok1 cs = true ∧ ∀ b, K (.c (.loc d b 0)) [(d, some (.blk b t cs))]
      | none => False) : o.wp P a w (Post o.dst a w0 M H K) Q := by
  split at h
  · rename_i cs hz
    obtain ⟨h1, h⟩ := h
    have hcells : (a.eval x).cells = (cs.map C.den).toArray := by
      cases hy : ev env x with
      | c c =>
        rw [hy] at hz
        cases c with
        | any => cases hz
        | v x =>
          injection hz with hz; subst hz
          rw [eval_c hE hy (by simp)]
          have : x.oneCell' = true := by simpa [ok1, C.den] using h1
          cases x <;> first | rfl | (simp [Value.oneCell'] at this)
        | loc i b o => injection hz with hz; subst hz; rw [eval_c hE hy (by simp)]; rfl
        | sl i A m c => injection hz with hz; subst hz; rw [eval_c hE hy (by simp)]; rfl
        | el i A k => injection hz with hz; subst hz; rw [eval_c hE hy (by simp)]; rfl
        | fn f i b o => injection hz with hz; subst hz; rw [eval_c hE hy (by simp)]; rfl
      | agg l' => rw [hy] at hz; injection hz with hz; subst hz; rw [eval_agg hE hy]; rfl
      | tup l' => rw [hy] at hz; cases hz
    refine wp_made (w' := w.alloc (.cells (cs.map C.den).toArray t)) _ _ (.pointer (some ⟨w.heap.size, 0, none⟩)) (fun _ => rfl) (h w.heap.size) (by simpa [upds] using hH.newBlk d t cs) ?_
    unfold execOp
    simp [ho, Instr.box, newVar, newRow, hcells]
  · exact h.elim
end Go.Proofs.Ytbcicjmepojlnaa.Eng
