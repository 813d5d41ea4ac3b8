/- Texts of this work, laid together: symbolic execution over the model, contracts of the program's functions, what they come to; conditions: as each says. -/
import Derived.Great.BuildSlice
import Derived.Test.YtbcicjmepojlnaaPkYAD
/- Each operation does what its predicate says: struct and slice literals, append, slicing; no condition. -/
namespace Go.Proofs.Ytbcicjmepojlnaa.Eng
open Go Go.RowKit
set_option autoImplicit false
set_option linter.unusedSimpArgs false
set_option linter.unusedVariables false
variable {P : Program} {F : TT} {n : Nat} {env : Env} {a : Act} {w w0 : World} {M : Nat → Prop} {H : Heap} {K : KT} {d : Nat}
theorem cells_eval (hE : EnvOk n env a) {x : Operand} {l : List C} (h : (ev env x).cells? = some l) (h1 : ok1 l = true) : (a.eval x).cells = (l.map C.den).toArray := by
  obtain ⟨y, hk, hd, hc⟩ := part_cells h
  rw [eval_ev hE x hk, hd]
  exact hc h1
theorem fold_splice (off : Nat) (v cs : Array Value) (h : off + v.size ≤ cs.size) :
    v.zipIdx.foldl (fun cs (x : Value × Nat) => cs.setIfInBounds (off + x.2) x.1) cs = (cs.toList.take off ++ v.toList ++ cs.toList.drop (off + v.toList.length)).toArray := by
  obtain ⟨h1, h2⟩ := Great.foldl_set off v.toList 0 cs
  have e : v.zipIdx.foldl (fun cs (x : Value × Nat) => cs.setIfInBounds (off + x.2) x.1) cs = (v.toList.zipIdx 0).foldl (fun cs (x : Value × Nat) => cs.setIfInBounds (off + x.2) x.1) cs := by
    rw [← Array.foldl_toList, Array.toList_zipIdx]
  rw [e]
  apply Array.ext_getElem?
  intro k
  have hs := splice_get cs.toList v.toList off (by simpa using h) k
  rw [h2 k]
  simp only [List.getElem?_toArray]
  rw [hs]
  simp only [Nat.add_zero, Array.length_toList, Array.getElem?_toList]
  by_cases hk : k < off
  · rw [if_neg (by omega), if_pos hk]
  · rw [if_neg hk]
    by_cases hk2 : k < off + v.size
    · rw [if_pos ⟨by omega, hk2, by omega⟩, if_pos hk2]
    · rw [if_neg (by omega), if_neg hk2]
theorem fill_sound (hE : EnvOk n env a) (pl : List (Nat × Nat)) (F : Nat → Option (Nat × Nat)) (hF : ∀ i, F i = pl[i]?) : ∀ (ps : List (Nat × Operand)) (cs out : List C),
    fillC pl cs (ps.map fun p => (p.1, ev env p.2)) = some out → (∀ p ∈ ps, ∀ l, (ev env p.2).cells? = some l → ok1 l = true) →
    Instr.fill F (cs.map C.den).toArray (ps.map fun p => (p.1, a.eval p.2)) = some (out.map C.den).toArray
  | [], cs, out, h, _ => by
    simp only [List.map_nil, fillC, Option.some.injEq] at h
    subst h
    rfl
  | (i, x) :: r, cs, out, h, h1 => by
    simp only [List.map_cons, fillC] at h
    split at h
    · rename_i off size l hp hl
      split at h
      · rename_i hc
        obtain ⟨hsz, hle⟩ := hc
        have hcell := cells_eval hE hl (h1 (i, x) (by simp) l hl)
        have ih := fill_sound hE pl F hF r _ out h (fun p hp' => h1 p (by simp [hp']))
        simp only [List.map_cons]
        unfold Instr.fill
        simp only [hF, hp, hcell]
        rw [if_neg (by simp; omega), fold_splice off _ _ (by simp; omega)]
        rw [putCells_eq cs off l (by omega)] at ih
        simpa using ih
      · cases h
    · cases h
theorem build_sound (hF : TTok P F) {o : Oper} {Q : Exit → Act → World → Prop} (hE : EnvOk n env a) (hH : HSat w0 M H w) (t : TypeId) (ps : Array (Nat × Operand)) (ho : o.op = .build t ps)
    (h : match look F.pl t, look F.ze t with
    | some pl, some z => partsOk (ev env) ps = true ∧ match fillC pl z (ps.toList.map fun p => (p.1, ev env p.2)) with
      | some l => K (.agg l) []
      | none => False
    | _, _ => False) : o.wp P a w (Post o.dst a w0 M H K) Q := by
  split at h
  · rename_i pl z hpl hz
    obtain ⟨h1, h⟩ := h
    split at h
    case h_2 => exact h.elim
    rename_i l hl
    have hK := h
    have hpl := hF.pl_ hpl
    have hz := hF.ze_ hz
    unfold zeroT at hz
    obtain ⟨zz, hz0, rfl⟩ := Option.map_eq_some_iff.1 hz
    obtain ⟨i, hi, hz1⟩ := Option.bind_eq_some_iff.1 hz0
    unfold placesT at hpl
    split at hpl
    · rename_i fs hu
      have hf := fill_sound (a := a) hE pl (pl.toArray[·]?) (fun i => by simp) ps.toList _ l hl (fun p hp q hq => by
        have := List.all_eq_true.1 h1 p hp
        rw [hq] at this
        exact this)
      rw [map_den_cOf] at hf
      have hb : P.built t (ps.map fun (i, x) => (i, a.eval x)).toList = some (l.map C.den).toArray := by
        unfold Program.built
        simp only [hi, hu, hz1, hpl]
        rw [Array.toList_map]
        exact hf
      refine wp_pure hH _ _ hK (fun _ => rfl) ?_
      unfold execOp
      simp only [ho, Sem.run_bind, run_build w t _ _ hb, Result.andThen_ok, Sem.run_pure]
      rfl
    · cases hpl
  · exact h.elim
theorem HSat.newRow (hH : HSat w0 M H w) (src : Option Nat) (hsrc : ∀ i, src = some i → True) (w' : World) (cur : Array Value) (hw' : w'.heap = (w.alloc (.cells cur d)).heap) (hos : w'.os = w.os) (htape : w'.tape = w.tape) (hout : w'.output = w.output)
    (id c t size m : Nat) (xs : List C) (ht : t = d) (hx : xs.length = m * size) (hmc : m ≤ c) (hcm : c ≤ maxLen) (hcs : cur.size = c * size) (htake : cur.toList.take (m * size) = xs.map C.den) :
    HSat w0 M (upd (erase H src) id (some (.row (some ⟨w.heap.size, 0, none⟩) c t size m xs))) w' := by
  subst ht
  have hs : w'.heap.size = w.heap.size + 1 := by rw [hw']; simp
  refine hH.step (w' := w') src (fun _ => False) hos htape hout (by omega) (fun k hk _ => by rw [hw']; exact heap_alloc_old w _ k hk) (fun _ h => h.elim) id _ ?_ ?_
  · exact ⟨hx, hmc, fun _ => ⟨w.heap.size, cur, rfl, by rw [hw']; exact heap_alloc_new w _, hcm, hcs, htake⟩⟩
  · intro g hg
    have hg' : w.heap.size = g := by
      simp only [Ent.block] at hg
      split at hg
      · cases hg
      · simpa using hg
    exact ⟨by omega, .inr (by omega)⟩
theorem cat_cells (hE : EnvOk n env a) (sz : Nat) : ∀ (ps : List (Nat × Operand)) (k : Nat) (out : List C), catC sz (ps.map fun p => (p.1, ev env p.2)) k = some out → (∀ p ∈ ps, ∀ l, (ev env p.2).cells? = some l → ok1 l = true) →
    (ps.map fun p => (p.1, a.eval p.2)) = (((ps.map fun p => a.eval p.2).zipIdx k).map fun x => (x.2, x.1)) ∧ ((ps.map fun p => a.eval p.2).flatMap fun v => v.cells.toList) = out.map C.den ∧ ∀ v ∈ ps.map fun p => a.eval p.2, v.cells.size = sz
  | [], k, out, h, _ => by
    simp only [List.map_nil, catC, Option.some.injEq] at h
    subst h
    exact ⟨rfl, rfl, by simp⟩
  | (i, x) :: r, k, out, h, h1 => by
    simp only [List.map_cons, catC] at h
    split at h
    · rename_i l hl
      split at h
      · rename_i hc
        obtain ⟨rfl, hsz⟩ := hc
        obtain ⟨rest, hr, rfl⟩ := Option.map_eq_some_iff.1 h
        have hcell := cells_eval hE hl (h1 (i, x) (by simp) l hl)
        obtain ⟨g1, g2, g3⟩ := cat_cells hE sz r (i + 1) rest hr (fun p hp' => h1 p (by simp [hp']))
        refine ⟨by simp only [List.map_cons, List.zipIdx_cons]; rw [g1], by simp only [List.map_cons, List.flatMap_cons, g2, hcell, List.map_append], ?_⟩
        intro v hv
        simp only [List.map_cons, List.mem_cons] at hv
        rcases hv with rfl | hv
        · rw [hcell]; simpa using hsz
        · exact g3 v hv
      · cases h
    · cases h
theorem flat_len (z : Nat) : ∀ (l : List Value), (∀ v ∈ l, v.cells.size = z) → (l.flatMap fun v => v.cells.toList).length = l.length * z
  | [], _ => by simp
  | v :: r, h => by
    rw [List.flatMap_cons, List.length_append, flat_len z r (fun u hu => h u (by simp [hu])), List.length_cons, Nat.add_mul, Array.length_toList, h v (by simp)]
    omega
theorem buildSlice_sound (hF : TTok P F) {o : Oper} {Q : Exit → Act → World → Prop} (hE : EnvOk n env a) (hH : HSat w0 M H w) (t : TypeId) (m : Nat) (ps : Array (Nat × Operand)) (ho : o.op = .buildSlice t m ps)
    (h : match look F.sl t with
    | some (el, sz, _, zs) => m * sz ≤ 65536 ∧ zs = sz ∧ 0 < sz ∧ partsOk (ev env) ps = true ∧ match catC sz (ps.toList.map fun p => (p.1, ev env p.2)) 0 with
      | some l => l.length = m * sz ∧ ∀ A, K (.c (.sl d A m m)) [(d, some (.row A m el sz m l))]
      | none => False
    | none => False) : o.wp P a w (Post o.dst a w0 M H K) Q := by
  split at h
  · rename_i el sz bytes zs hu
    obtain ⟨hsmall, hzs, hpos, h1, h⟩ := h
    split at h
    case h_2 => exact h.elim
    rename_i l hl
    obtain ⟨hlen, hK⟩ := h
    have hu := hF.sl_ hu
    subst hzs
    unfold slT at hu
    split at hu
    · rename_i e' hd
      split at hu
      · rename_i inf hi
        obtain ⟨z, hz, hms⟩ := Option.map_eq_some_iff.1 hu
        injection hms with he hms
        injection hms with hs hms
        injection hms with hb hz'
        subst he
        obtain ⟨g1, g2, g3⟩ := cat_cells (a := a) hE zs ps.toList 0 l hl (fun p hp q hq => by
          have := List.all_eq_true.1 h1 p hp
          rw [hq] at this
          exact this)
        have hsize : inf.size = zs := hs
        have hml : m ≤ maxLen := by
          have : m * 1 ≤ m * zs := Nat.mul_le_mul_left _ hpos
          simp only [maxLen]; omega
        refine wp_made (w' := w.alloc (.cells (l.map C.den).toArray e')) _ _ (.slice (some ⟨w.heap.size, 0, none⟩) m m) (fun _ => rfl) (hK (some ⟨w.heap.size, 0, none⟩)) ?_ ?_
        · have := hH.newRow (d := e') none (fun _ _ => trivial) (w.alloc (.cells (l.map C.den).toArray e')) (l.map C.den).toArray rfl rfl rfl rfl d m e' zs m l rfl hlen (Nat.le_refl _) hml (by simpa using hlen) (List.take_of_length_le (by simp; omega))
          simpa [upds, erase] using this
        · unfold execOp
          simp only [ho, Sem.run_bind]
          have hparts : (ps.map fun (i, x) => (i, a.eval x)).toList = ps.toList.map fun p => (p.1, a.eval p.2) := by rw [Array.toList_map]
          by_cases h0 : m = 0
          · subst h0
            have hl0 : l = [] := List.eq_nil_of_length_eq_zero (by simpa using hlen)
            subst hl0
            have hps : ps.toList = [] := by
              cases hp : ps.toList with
              | nil => rfl
              | cons p r =>
                have h3 := g3 (a.eval p.2) (by rw [hp]; simp)
                rw [hp] at g2
                have h4 := congrArg List.length g2
                simp only [List.map_cons, List.flatMap_cons, List.length_append, Array.length_toList, h3, List.map_nil, List.length_nil] at h4
                omega
            have hpe : ps = #[] := by simpa using hps
            subst hpe
            have hr0 : Array.map (fun _ : Nat => (default : Value)) (Array.range 0) = #[] := by apply Array.ext'; simp
            simp [Instr.buildSlice, run_underlying hd, sizeOf, typeInfo, hi, Instr.fill, newRow, hr0]
          · have hf := Great.fill_whole hpos (ps.toList.map fun p => a.eval p.2) ((Array.range (m * zs)).map (z.cells[· % z.cells.size]!)) g3 (by
              have e1 := congrArg List.length g2
              rw [List.length_map, hlen] at e1
              have e2 := flat_len zs (ps.toList.map fun p => a.eval p.2) g3
              rw [← e2, e1]; simp)
            rw [← g1, g2] at hf
            have := run_buildSlice (P := P) w t e' m (ps.map fun (i, x) => (i, a.eval x)) (l.map C.den).toArray inf z hd hi hz (by rw [hsize]; omega) (by rw [hsize]; have := Nat.mul_pos (Nat.pos_of_ne_zero h0) hpos; omega) (by rw [hsize, hparts]; exact hf)
            rw [this]
            rfl
      · cases hu
    · cases hu
  · exact h.elim
end Go.Proofs.Ytbcicjmepojlnaa.Eng
/- Each operation does what its predicate says: append, slicing, calls; then all together; no condition. -/
namespace Go.Proofs.Ytbcicjmepojlnaa.Eng
open Go Go.RowKit
set_option autoImplicit false
set_option linter.unusedSimpArgs false
set_option linter.unusedVariables false
variable {P : Program} {F : TT} {n : Nat} {env : Env} {a : Act} {w w0 : World} {M : Nat → Prop} {H : Heap} {K : KT} {d : Nat}
theorem row_owns {A : Option Addr} {c t size m : Nat} {xs : List C} (h : (Ent.row A c t size m xs).holds w) (hc : 0 < c) : ∃ g, A = some ⟨g, 0, none⟩ ∧ w.ownsRow 0 t size (.slice A m c) m (xs.map C.den) := by
  obtain ⟨g, cur, rfl, hg, hcm, hcs, ht⟩ := h.2.2 hc
  exact ⟨g, rfl, by simpa using h.1, .inr ⟨g, c, cur, rfl, Nat.zero_le _, hg, h.2.1, hcm, hcs, ht⟩⟩
theorem run_append_zero (w : World) (t ty e : TypeId) (i : TypeInfo) (z : Value) (ht : P.underlying t = some (.slice e)) (hi : P.info? e = some i) (hz : i.zero = some z) (A : Option Addr)
    (p : Addr) (m c : Nat) (news : List Value) (hl : news.length = m * i.size) (hnews : ∀ j u, news[j]? = some u → w.cell? (p.add j) = some u) (h0 : 0 < m) (h63 : (m : Int) ≤ 9223372036854775807) (h48 : m * i.bytes ≤ 281474976710656) :
    (Builtin.append_ #[t, t] ty #[.slice A 0 0, .slice (some p) m c]).run P w =
      .ok (.slice (some ⟨w.heap.size, 0, none⟩) m (grownCap w m 0 e)) (w.drew.alloc (.cells (news.toArray ++ Builtin.zeroCells z.cells (grownCap w m 0 e - m)) e)) := by
  cases A with
  | none => exact run_append_nil (P := P) w t ty e i z ht hi hz p m c news hl hnews h0 h63 h48
  | some b =>
    have := run_append_grow (P := P) w t ty e i z ht hi hz b 0 0 [] (by simp) (by simp) p m c news hl hnews (by omega) (by omega) (by rw [Nat.zero_add, nextslicecap_zero h0]; exact h48)
    simpa using this
theorem run_append_none (w : World) (t ty e : TypeId) (i : TypeInfo) (ht : P.underlying t = some (.slice e)) (hi : P.info? e = some i) (A : Option Addr) (k cap : Nat) (hk : k ≤ cap) (B : Option Addr) (c : Nat) :
    (Builtin.append_ #[t, t] ty #[.slice A k cap, .slice B 0 c]).run P w = .ok (.slice A k cap) w := by
  cases A <;> cases B <;> simp [Builtin.append_, run_underlying ht, sizeOf, typeInfo, hi, Builtin.lenOf, Builtin.firstCells, loadCells, loadCellsFrom, storeCells, hk]
theorem append_sound (hF : TTok P F) {o : Oper} {Q : Exit → Act → World → Prop} (hE : EnvOk n env a) (hH : HSat w0 M H w) (x y : Operand) (ts : Array TypeId) (hts : ts.size = 2) (ho : o.op = .call { callee := .builtin .append, args := #[x, y], argTypes := ts }) (ids : List Nat)
    (h : appendT F (ts.getD 0 0) (ts.getD 1 0) (ev env x) (ev env y) (restrict H ids) d K) : o.wp P a w (Post o.dst a w0 M H K) Q := by
  obtain ⟨t, t', rfl⟩ : ∃ t t', ts = #[t, t'] := by
    obtain ⟨l⟩ := ts
    match l, hts with
    | [t, t'], _ => exact ⟨t, t', rfl⟩
  have hg0 : (#[t, t'] : Array TypeId).getD 0 0 = t := rfl
  have hg1 : (#[t, t'] : Array TypeId).getD 1 0 = t' := rfl
  rw [hg0, hg1] at h
  unfold appendT at h
  split at h
  · rename_i e sz bytes zs id A k cap id' B m cap' hu hx hy
    obtain ⟨rfl, rfl, hsz, hne, hbytes, hmax, h⟩ := h
    split at h
    case h_2 => exact h.elim
    rename_i B' sz'' m' ys hrow
    obtain ⟨rfl, rfl, hszm, hy1, h⟩ := h
    have hys : (∃ sz', restrict H ids id' = some (.rd B sz' m ys) ∧ (sz' = zs ∨ m = 0)) ∨ (∃ c' e' sz', restrict H ids id' = some (.row B c' e' sz' m ys) ∧ (sz' = zs ∨ m = 0)) := by
      unfold rowOf at hrow
      split at hrow
      · rename_i h1
        injection hrow with hrow
        injection hrow with e1 hrow
        injection hrow with e2 hrow
        injection hrow with e3 e4
        subst e1 e2 e3 e4
        exact .inl ⟨_, h1, hszm⟩
      · rename_i h1
        injection hrow with hrow
        injection hrow with e1 hrow
        injection hrow with e2 hrow
        injection hrow with e3 e4
        subst e1 e2 e3 e4
        exact .inr ⟨_, _, _, h1, hszm⟩
      · cases hrow
    have hu := hF.sl_ hu
    unfold slT at hu
    split at hu
    · rename_i e' hd
      split at hu
      · rename_i inf hi
        obtain ⟨z, hz, hms⟩ := Option.map_eq_some_iff.1 hu
        injection hms with he hms
        injection hms with hs hms
        injection hms with hb hz'
        subst he
        have ex := eval_c hE hx (by simp)
        have ey := eval_c hE hy (by simp)
        simp only [C.den] at ex ey
        have hnews : (ys.map C.den).length = m * zs ∧ (0 < m → ∃ p, B = some p ∧ ∀ j u, (ys.map C.den)[j]? = some u → w.cell? (p.add j) = some u) := by
          rcases hys with ⟨sz', hHid, hs'⟩ | ⟨c', e'', sz', hHid, hs'⟩
          · obtain ⟨hl, hcell⟩ := hH.holds _ _ (restrict_some hHid)
            refine ⟨?_, fun hm => ?_⟩
            · rcases hs' with rfl | rfl
              · simpa using hl
              · simp at hl ⊢; exact hl
            · have hs'' : sz' = zs := by rcases hs' with h | h <;> omega
              subst hs''
              have : 0 < m * sz' := Nat.mul_pos hm hsz
              obtain ⟨p, hp, _, hc⟩ := hcell (by intro e; subst e; simp at hl; omega)
              exact ⟨p, hp, hc⟩
          · have hold := hH.holds _ _ (restrict_some hHid)
            refine ⟨?_, fun hm => ?_⟩
            · rcases hs' with rfl | rfl
              · simpa using hold.1
              · have := hold.1; simp at this ⊢; exact this
            · have hs'' : sz' = zs := by rcases hs' with h | h <;> omega
              subst hs''
              have : 0 < m * sz' := Nat.mul_pos hm hsz
              have hne' : ys ≠ [] := by intro e; have := hold.1; subst e; simp at this; omega
              obtain ⟨g, cur, hp, _⟩ := hold.2.2 (by have := hold.2.1; omega)
              refine ⟨⟨g, 0, none⟩, hp, ?_⟩
              have := cells_row hold hne'
              rw [hp] at this
              exact this
        have hone : ∀ v ∈ ys.map C.den, v.oneCell' = true := by
          intro v hv
          obtain ⟨c, hc, rfl⟩ := List.mem_map.1 hv
          exact List.all_eq_true.1 hy1 c hc
        have hexec : ∀ v w', (Builtin.append_ #[t, t] o.type #[.slice A k cap, .slice B m cap']).run P w = .ok v w' → (execOp a.eval o).run P w = .ok (.value v) w' := by
          intro v w' hr
          unfold execOp
          simp only [ho, resolve, invoke, builtin, Sem.run_bind, Sem.run_pure, Result.andThen_ok, List.map_toArray, List.map_cons, List.map_nil, ex, ey, hr]
        -- a new array: what holds of it
        have grown : ∀ (src : Option Nat) (olds : List C), k = olds.length / zs → olds.length = k * zs → k + m ≤ grownCap w (k + m) cap e' →
            HSat w0 M (upd (erase H src) d (some (.row (some ⟨w.heap.size, 0, none⟩) (grownCap w (k + m) cap e') e' zs (k + m) (olds ++ ys))))
              (w.drew.alloc (.cells ((olds.map C.den).toArray ++ (ys.map C.den).toArray ++ Builtin.zeroCells z.cells (grownCap w (k + m) cap e' - (k + m))) e')) := by
          intro src olds _ hol hge
          refine hH.newRow (d := e') src (fun _ _ => trivial) (w.drew.alloc (.cells ((olds.map C.den).toArray ++ (ys.map C.den).toArray ++ Builtin.zeroCells z.cells (grownCap w (k + m) cap e' - (k + m))) e')) ((olds.map C.den).toArray ++ (ys.map C.den).toArray ++ Builtin.zeroCells z.cells (grownCap w (k + m) cap e' - (k + m))) rfl rfl rfl rfl d _ e' zs (k + m) (olds ++ ys) rfl ?_ hge (grownCap_le_maxLen w (k + m) cap e' hmax) ?_ ?_
          · have := hnews.1; rw [List.length_append, hol, Nat.add_mul]; simp at this; omega
          · simp only [Array.size_append, List.size_toArray, size_zeroCells, hz', hnews.1, List.length_map, hol, ← Nat.add_mul]
            congr 1
            omega
          · have e1 : ((k + m) * zs) = (olds.map C.den ++ ys.map C.den).length := by rw [List.length_append, hnews.1, List.length_map, hol, Nat.add_mul]
            simp only [Array.toList_append, List.map_append]
            rw [e1]
            exact List.take_left
        have hfit : Builtin.nextslicecap (k + m) cap * inf.bytes ≤ 281474976710656 ∨ k + m ≤ cap := by
          by_cases hk : k + m ≤ cap
          · exact .inr hk
          · exact .inl (growslice_fits (by omega) (by rw [hb]; exact hbytes))
        have h63 : ((k + m : Nat) : Int) ≤ 9223372036854775807 := by simp only [maxLen] at hmax; omega
        split at h
        · -- onto a row
          rename_i A' c' e'' sz' n' xs hHid
          obtain ⟨rfl, rfl, rfl, rfl, rfl, hK⟩ := h
          have hHid' := restrict_some hHid
          have hold := hH.holds _ _ hHid'
          rcases Nat.eq_zero_or_pos m with hm0 | hm
          · subst hm0
            have hys0 : ys = [] := List.eq_nil_of_length_eq_zero (by simpa using hnews.1)
            subst hys0
            have hr := run_append_none (P := P) w t o.type e' inf hd hi A k cap hold.2.1 B cap'
            refine wp_made (w' := w) _ _ (.slice A k cap) (fun _ => rfl) (hK A cap) ?_ (hexec _ _ hr)
            have := hH.retell id d _ (.row A cap e' zs k xs) hHid' hold (fun h => h) (fun g h => h)
            simpa [upds] using this
          · obtain ⟨p, rfl, hcell⟩ := hnews.2 hm
            rcases Nat.eq_zero_or_pos cap with hc0 | hc
            · subst hc0
              have hk0 : k = 0 := by have := hold.2.1; omega
              subst hk0
              have hxs : xs = [] := List.eq_nil_of_length_eq_zero (by simpa using hold.1)
              subst hxs
              have hr := run_append_zero (P := P) w t o.type e' inf z hd hi hz A p m cap' (ys.map C.den) (by rw [hs]; exact hnews.1) hcell hm (by omega) (by rw [Nat.zero_add] at hbytes; rw [hb]; omega)
              refine wp_made _ _ _ (fun _ => by rw [Nat.zero_add]; rfl) (hK (some ⟨w.heap.size, 0, none⟩) (grownCap w m 0 e')) ?_ (hexec _ _ hr)
              have := grown (some id) [] (by simp) (by simp) (by rw [Nat.zero_add]; exact grownCap_ge w m 0 e')
              simpa [upds, erase] using this
            · obtain ⟨g, hA, hown⟩ := row_owns hold hc
              subst hA
              by_cases hroom : k + m ≤ cap
              · obtain ⟨_, cur, hgA, hg, hcm, hcs, htake⟩ := hold.2.2 hc
                injection hgA with hgA
                injection hgA with hgA
                subst hgA
                have hfitc : k * inf.size + (ys.map C.den).length ≤ cur.size := by rw [hnews.1, hcs, hs, ← Nat.add_mul]; exact Nat.mul_le_mul_right _ hroom
                have hr := run_append_room (P := P) w t o.type e' inf hd hi g k cap cur hg p m cap' (ys.map C.den) (by rw [hs]; exact hnews.1) hcell hone hroom hfitc
                refine wp_made _ _ _ (fun _ => rfl) (hK (some ⟨g, 0, none⟩) cap) ?_ (hexec _ _ hr)
                have := hH.setRow (j := d) (new := (cur.toList.take (k * inf.size) ++ ys.map C.den ++ cur.toList.drop (k * inf.size + (ys.map C.den).length)).toArray) (e' := .row (some ⟨g, 0, none⟩) cap e' zs (k + m) (xs ++ ys)) hHid' rfl (by simp [Ent.block]; omega) hg ?_ (fun q hq => by simp [Ent.block] at hq; exact hq.2.symm)
                · simpa [upds] using this
                · have hlx : (xs ++ ys).length = (k + m) * zs := by have := hnews.1; have h2 := hold.1; rw [List.length_append, h2, Nat.add_mul]; simp at this; omega
                  refine ⟨hlx, hroom, fun _ => ⟨g, _, rfl, setRow_heap w g cur _ e' _ hg, hcm, ?_, ?_⟩⟩
                  · simp only [List.size_toArray, List.length_append, List.length_take, List.length_drop, Array.length_toList]
                    omega
                  · have htk : (cur.toList.take (k * inf.size)).length = k * zs := by rw [List.length_take, hs]; rw [Array.length_toList, hcs]; exact Nat.min_eq_left (Nat.mul_le_mul_right _ hold.2.1)
                    rw [List.map_append, hs, htake]
                    have : (k + m) * zs = (xs.map C.den ++ ys.map C.den).length := by rw [← List.map_append, List.length_map, hlx]
                    rw [this]
                    exact List.take_left
              · have hx2 : ∀ j u, (xs.map C.den)[j]? = some u → w.cell? ((⟨g, 0, none⟩ : Addr).add j) = some u := hown.cells (g := g) rfl
                have hr := run_append_grow (P := P) w t o.type e' inf z hd hi hz ⟨g, 0, none⟩ k cap (xs.map C.den) (by rw [hs]; simpa using hold.1) hx2 p m cap' (ys.map C.den) (by rw [hs]; exact hnews.1) hcell (by omega) h63 (hfit.resolve_right hroom)
                refine wp_made _ _ _ (fun _ => rfl) (hK (some ⟨w.heap.size, 0, none⟩) (grownCap w (k + m) cap e')) ?_ (hexec _ _ hr)
                have := grown (some id) xs (by rw [hold.1, Nat.mul_div_cancel _ hsz]) hold.1 (grownCap_ge w (k + m) cap e')
                simpa [upds, erase] using this
        · -- onto nothing
          rename_i A' sz' n' xs hHid
          obtain ⟨rfl, rfl, rfl, hK⟩ := h
          rcases Nat.eq_zero_or_pos m with hm0 | hm
          · subst hm0
            have hys0 : ys = [] := List.eq_nil_of_length_eq_zero (by simpa using hnews.1)
            subst hys0
            have hr := run_append_none (P := P) w t o.type e' inf hd hi A 0 0 (Nat.le_refl _) B cap'
            refine wp_made (w' := w) _ _ (.slice A 0 0) (fun _ => rfl) (hK A 0) ?_ (hexec _ _ hr)
            have := hH.step (w' := w) none (fun _ => False) rfl rfl rfl (Nat.le_refl _) (fun _ _ _ => rfl) (fun _ h => h.elim) d (.row A 0 e' zs 0 []) ⟨by simp, Nat.le_refl _, fun h => absurd h (by omega)⟩ (fun g hg => by simp [Ent.block] at hg)
            simpa [upds, erase] using this
          · obtain ⟨p, rfl, hcell⟩ := hnews.2 hm
            have hr := run_append_zero (P := P) w t o.type e' inf z hd hi hz A p m cap' (ys.map C.den) (by rw [hs]; exact hnews.1) hcell hm (by omega) (by rw [Nat.zero_add] at hbytes; rw [hb]; omega)
            refine wp_made _ _ _ (fun _ => rfl) (hK (some ⟨w.heap.size, 0, none⟩) (grownCap w m 0 e')) ?_ (hexec _ _ hr)
            have := grown none [] (by simp) (by simp) (by rw [Nat.zero_add]; exact grownCap_ge w m 0 e')
            simpa [upds, erase] using this
        · exact h.elim
      · cases hu
    · cases hu
  · exact h.elim
end Go.Proofs.Ytbcicjmepojlnaa.Eng
