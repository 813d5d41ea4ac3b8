/- Each operation does what its predicate says: struct and slice literals, append, slicing; no condition. -/
import Derived.Test.YtjlgeoaomegbmaaEng6
import Derived.Great.BuildSlice
namespace Go.Proofs.Ytjlgeoaomegbmaa.Eng
open Go Go.RowKit
set_option autoImplicit false
set_option linter.unusedSimpArgs false
set_option linter.unusedVariables false

variable {P : Program} {F : TT} {n : Nat} {env : Env} {a : Act} {w w0 : World} {M : Nat → Prop} {H : Heap} {K : KT} {d : Nat}

theorem cells_eval (hE : EnvOk n env a) {x : Operand} {l : List C} (h : (ev env x).cells? = some l) (h1 : ok1 l = true) : (a.eval x).cells = (l.map C.den).toArray := by
  obtain ⟨y, hk, hd, hc⟩ := part_cells h
  rw [eval_ev hE x hk, hd]
  exact hc h1

theorem fold_splice (off : Nat) (v cs : Array Value) (h : off + v.size ≤ cs.size) :
    v.zipIdx.foldl (fun cs (x : Value × Nat) => cs.setIfInBounds (off + x.2) x.1) cs = (cs.toList.take off ++ v.toList ++ cs.toList.drop (off + v.toList.length)).toArray := by
  obtain ⟨h1, h2⟩ := Great.foldl_set off v.toList 0 cs
  have e : v.zipIdx.foldl (fun cs (x : Value × Nat) => cs.setIfInBounds (off + x.2) x.1) cs = (v.toList.zipIdx 0).foldl (fun cs (x : Value × Nat) => cs.setIfInBounds (off + x.2) x.1) cs := by
    rw [← Array.foldl_toList, Array.toList_zipIdx]
  rw [e]
  apply Array.ext_getElem?
  intro k
  have hs := splice_get cs.toList v.toList off (by simpa using h) k
  rw [h2 k]
  simp only [List.getElem?_toArray]
  rw [hs]
  simp only [Nat.add_zero, Array.length_toList, Array.getElem?_toList]
  by_cases hk : k < off
  · rw [if_neg (by omega), if_pos hk]
  · rw [if_neg hk]
    by_cases hk2 : k < off + v.size
    · rw [if_pos ⟨by omega, hk2, by omega⟩, if_pos hk2]
    · rw [if_neg (by omega), if_neg hk2]

theorem fill_sound (hE : EnvOk n env a) (pl : List (Nat × Nat)) (F : Nat → Option (Nat × Nat)) (hF : ∀ i, F i = pl[i]?) : ∀ (ps : List (Nat × Operand)) (cs out : List C),
    fillC pl cs (ps.map fun p => (p.1, ev env p.2)) = some out → (∀ p ∈ ps, ∀ l, (ev env p.2).cells? = some l → ok1 l = true) →
    Instr.fill F (cs.map C.den).toArray (ps.map fun p => (p.1, a.eval p.2)) = some (out.map C.den).toArray
  | [], cs, out, h, _ => by
    simp only [List.map_nil, fillC, Option.some.injEq] at h
    subst h
    rfl
  | (i, x) :: r, cs, out, h, h1 => by
    simp only [List.map_cons, fillC] at h
    split at h
    · rename_i off size l hp hl
      split at h
      · rename_i hc
        obtain ⟨hsz, hle⟩ := hc
        have hcell := cells_eval hE hl (h1 (i, x) (by simp) l hl)
        have ih := fill_sound hE pl F hF r _ out h (fun p hp' => h1 p (by simp [hp']))
        simp only [List.map_cons]
        unfold Instr.fill
        simp only [hF, hp, hcell]
        rw [if_neg (by simp; omega), fold_splice off _ _ (by simp; omega)]
        rw [putCells_eq cs off l (by omega)] at ih
        simpa using ih
      · cases h
    · cases h

theorem build_sound (hF : TTok P F) {o : Oper} {Q : Exit → Act → World → Prop} (hE : EnvOk n env a) (hH : HSat w0 M H w) (t : TypeId) (ps : Array (Nat × Operand)) (ho : o.op = .build t ps)
    (h : match look F.pl t, look F.ze t with
    | some pl, some z => partsOk (ev env) ps = true ∧ match fillC pl z (ps.toList.map fun p => (p.1, ev env p.2)) with
      | some l => K (.agg l) []
      | none => False
    | _, _ => False) : o.wp P a w (Post o.dst a w0 M H K) Q := by
  split at h
  · rename_i pl z hpl hz
    obtain ⟨h1, h⟩ := h
    split at h
    case h_2 => exact h.elim
    rename_i l hl
    have hK := h
    have hpl := hF.pl_ hpl
    have hz := hF.ze_ hz
    unfold zeroT at hz
    obtain ⟨zz, hz0, rfl⟩ := Option.map_eq_some_iff.1 hz
    obtain ⟨i, hi, hz1⟩ := Option.bind_eq_some_iff.1 hz0
    unfold placesT at hpl
    split at hpl
    · rename_i fs hu
      have hf := fill_sound (a := a) hE pl (pl.toArray[·]?) (fun i => by simp) ps.toList _ l hl (fun p hp q hq => by
        have := List.all_eq_true.1 h1 p hp
        rw [hq] at this
        exact this)
      rw [map_den_cOf] at hf
      have hb : P.built t (ps.map fun (i, x) => (i, a.eval x)).toList = some (l.map C.den).toArray := by
        unfold Program.built
        simp only [hi, hu, hz1, hpl]
        rw [Array.toList_map]
        exact hf
      refine wp_pure hH _ _ hK (fun _ => rfl) ?_
      unfold execOp
      simp only [ho, Sem.run_bind, run_build w t _ _ hb, Result.andThen_ok, Sem.run_pure]
      rfl
    · cases hpl
  · exact h.elim

theorem HSat.newRow (hH : HSat w0 M H w) (src : Option Nat) (hsrc : ∀ i, src = some i → True) (w' : World) (cur : Array Value) (hw' : w'.heap = (w.alloc (.cells cur d)).heap) (hos : w'.os = w.os) (htape : w'.tape = w.tape) (hout : w'.output = w.output)
    (id c t size m : Nat) (xs : List C) (ht : t = d) (hx : xs.length = m * size) (hmc : m ≤ c) (hcm : c ≤ maxLen) (hcs : cur.size = c * size) (htake : cur.toList.take (m * size) = xs.map C.den) :
    HSat w0 M (upd (erase H src) id (some (.row (some ⟨w.heap.size, 0, none⟩) c t size m xs))) w' := by
  subst ht
  have hs : w'.heap.size = w.heap.size + 1 := by rw [hw']; simp
  refine hH.step (w' := w') src (fun _ => False) hos htape hout (by omega) (fun k hk _ => by rw [hw']; exact heap_alloc_old w _ k hk) (fun _ h => h.elim) id _ ?_ ?_
  · exact ⟨hx, hmc, fun _ => ⟨w.heap.size, cur, rfl, by rw [hw']; exact heap_alloc_new w _, hcm, hcs, htake⟩⟩
  · intro g hg
    have hg' : w.heap.size = g := by
      simp only [Ent.block] at hg
      split at hg
      · cases hg
      · simpa using hg
    exact ⟨by omega, .inr (by omega)⟩

theorem cat_cells (hE : EnvOk n env a) (sz : Nat) : ∀ (ps : List (Nat × Operand)) (k : Nat) (out : List C), catC sz (ps.map fun p => (p.1, ev env p.2)) k = some out → (∀ p ∈ ps, ∀ l, (ev env p.2).cells? = some l → ok1 l = true) →
    (ps.map fun p => (p.1, a.eval p.2)) = (((ps.map fun p => a.eval p.2).zipIdx k).map fun x => (x.2, x.1)) ∧ ((ps.map fun p => a.eval p.2).flatMap fun v => v.cells.toList) = out.map C.den ∧ ∀ v ∈ ps.map fun p => a.eval p.2, v.cells.size = sz
  | [], k, out, h, _ => by
    simp only [List.map_nil, catC, Option.some.injEq] at h
    subst h
    exact ⟨rfl, rfl, by simp⟩
  | (i, x) :: r, k, out, h, h1 => by
    simp only [List.map_cons, catC] at h
    split at h
    · rename_i l hl
      split at h
      · rename_i hc
        obtain ⟨rfl, hsz⟩ := hc
        obtain ⟨rest, hr, rfl⟩ := Option.map_eq_some_iff.1 h
        have hcell := cells_eval hE hl (h1 (i, x) (by simp) l hl)
        obtain ⟨g1, g2, g3⟩ := cat_cells hE sz r (i + 1) rest hr (fun p hp' => h1 p (by simp [hp']))
        refine ⟨by simp only [List.map_cons, List.zipIdx_cons]; rw [g1], by simp only [List.map_cons, List.flatMap_cons, g2, hcell, List.map_append], ?_⟩
        intro v hv
        simp only [List.map_cons, List.mem_cons] at hv
        rcases hv with rfl | hv
        · rw [hcell]; simpa using hsz
        · exact g3 v hv
      · cases h
    · cases h

theorem flat_len (z : Nat) : ∀ (l : List Value), (∀ v ∈ l, v.cells.size = z) → (l.flatMap fun v => v.cells.toList).length = l.length * z
  | [], _ => by simp
  | v :: r, h => by
    rw [List.flatMap_cons, List.length_append, flat_len z r (fun u hu => h u (by simp [hu])), List.length_cons, Nat.add_mul, Array.length_toList, h v (by simp)]
    omega

theorem buildSlice_sound (hF : TTok P F) {o : Oper} {Q : Exit → Act → World → Prop} (hE : EnvOk n env a) (hH : HSat w0 M H w) (t : TypeId) (m : Nat) (ps : Array (Nat × Operand)) (ho : o.op = .buildSlice t m ps)
    (h : match look F.sl t with
    | some (el, sz, _, zs) => m * sz ≤ 65536 ∧ zs = sz ∧ 0 < sz ∧ partsOk (ev env) ps = true ∧ match catC sz (ps.toList.map fun p => (p.1, ev env p.2)) 0 with
      | some l => l.length = m * sz ∧ ∀ A, K (.c (.sl d A m m)) [(d, some (.row A m el sz m l))]
      | none => False
    | none => False) : o.wp P a w (Post o.dst a w0 M H K) Q := by
  split at h
  · rename_i el sz bytes zs hu
    obtain ⟨hsmall, hzs, hpos, h1, h⟩ := h
    split at h
    case h_2 => exact h.elim
    rename_i l hl
    obtain ⟨hlen, hK⟩ := h
    have hu := hF.sl_ hu
    subst hzs
    unfold slT at hu
    split at hu
    · rename_i e' hd
      split at hu
      · rename_i inf hi
        obtain ⟨z, hz, hms⟩ := Option.map_eq_some_iff.1 hu
        injection hms with he hms
        injection hms with hs hms
        injection hms with hb hz'
        subst he
        obtain ⟨g1, g2, g3⟩ := cat_cells (a := a) hE zs ps.toList 0 l hl (fun p hp q hq => by
          have := List.all_eq_true.1 h1 p hp
          rw [hq] at this
          exact this)
        have hsize : inf.size = zs := hs
        have hml : m ≤ maxLen := by
          have : m * 1 ≤ m * zs := Nat.mul_le_mul_left _ hpos
          simp only [maxLen]; omega
        refine wp_made (w' := w.alloc (.cells (l.map C.den).toArray e')) _ _ (.slice (some ⟨w.heap.size, 0, none⟩) m m) (fun _ => rfl) (hK (some ⟨w.heap.size, 0, none⟩)) ?_ ?_
        · have := hH.newRow (d := e') none (fun _ _ => trivial) (w.alloc (.cells (l.map C.den).toArray e')) (l.map C.den).toArray rfl rfl rfl rfl d m e' zs m l rfl hlen (Nat.le_refl _) hml (by simpa using hlen) (List.take_of_length_le (by simp; omega))
          simpa [upds, erase] using this
        · unfold execOp
          simp only [ho, Sem.run_bind]
          have hparts : (ps.map fun (i, x) => (i, a.eval x)).toList = ps.toList.map fun p => (p.1, a.eval p.2) := by rw [Array.toList_map]
          by_cases h0 : m = 0
          · subst h0
            have hl0 : l = [] := List.eq_nil_of_length_eq_zero (by simpa using hlen)
            subst hl0
            have hps : ps.toList = [] := by
              cases hp : ps.toList with
              | nil => rfl
              | cons p r =>
                have h3 := g3 (a.eval p.2) (by rw [hp]; simp)
                rw [hp] at g2
                have h4 := congrArg List.length g2
                simp only [List.map_cons, List.flatMap_cons, List.length_append, Array.length_toList, h3, List.map_nil, List.length_nil] at h4
                omega
            have hpe : ps = #[] := by simpa using hps
            subst hpe
            have hr0 : Array.map (fun _ : Nat => (default : Value)) (Array.range 0) = #[] := by apply Array.ext'; simp
            simp [Instr.buildSlice, run_underlying hd, sizeOf, typeInfo, hi, Instr.fill, newRow, hr0]
          · have hf := Great.fill_whole hpos (ps.toList.map fun p => a.eval p.2) ((Array.range (m * zs)).map (z.cells[· % z.cells.size]!)) g3 (by
              have e1 := congrArg List.length g2
              rw [List.length_map, hlen] at e1
              have e2 := flat_len zs (ps.toList.map fun p => a.eval p.2) g3
              rw [← e2, e1]; simp)
            rw [← g1, g2] at hf
            have := run_buildSlice (P := P) w t e' m (ps.map fun (i, x) => (i, a.eval x)) (l.map C.den).toArray inf z hd hi hz (by rw [hsize]; omega) (by rw [hsize]; have := Nat.mul_pos (Nat.pos_of_ne_zero h0) hpos; omega) (by rw [hsize, hparts]; exact hf)
            rw [this]
            rfl
      · cases hu
    · cases hu
  · exact h.elim

end Go.Proofs.Ytjlgeoaomegbmaa.Eng
