/- Texts of this work, laid together: symbolic execution over the model, contracts of the program's functions, what they come to; conditions: as each says. -/
import Derived.Great.BuildSlice
import Derived.Laws.MakeOwn
import Derived.Test.YtbcicjmepojlnaaGreatPkGAC
/- Each operation does what its predicate says: struct and slice literals, append, slicing; no condition. -/
namespace Go.Proofs.YtbcicjmepojlnaaGreat.Eng
open Go Go.RowKit
set_option autoImplicit false
set_option linter.unusedSimpArgs false
set_option linter.unusedVariables false
variable {P : Program} {F : TT} {n : Nat} {env : Env} {a : Act} {w w0 : World} {M : Nat → Prop} {H : Heap} {K : KT} {d : Nat}
theorem cells_eval (hE : EnvOk n env a) {x : Operand} {l : List C} (h : (ev env x).cells? = some l) (h1 : ok1 l = true) : (a.eval x).cells = (l.map C.den).toArray := by
  obtain ⟨y, hk, hd, hc⟩ := part_cells h
  rw [eval_ev hE x hk, hd]
  exact hc h1
theorem fold_splice (off : Nat) (v cs : Array Value) (h : off + v.size ≤ cs.size) :
    v.zipIdx.foldl (fun cs (x : Value × Nat) => cs.setIfInBounds (off + x.2) x.1) cs = (cs.toList.take off ++ v.toList ++ cs.toList.drop (off + v.toList.length)).toArray := by
  obtain ⟨h1, h2⟩ := Great.foldl_set off v.toList 0 cs
  have e : v.zipIdx.foldl (fun cs (x : Value × Nat) => cs.setIfInBounds (off + x.2) x.1) cs = (v.toList.zipIdx 0).foldl (fun cs (x : Value × Nat) => cs.setIfInBounds (off + x.2) x.1) cs := by
    rw [← Array.foldl_toList, Array.toList_zipIdx]
  rw [e]
  apply Array.ext_getElem?
  intro k
  have hs := splice_get cs.toList v.toList off (by simpa using h) k
  rw [h2 k]
  simp only [List.getElem?_toArray]
  rw [hs]
  simp only [Nat.add_zero, Array.length_toList, Array.getElem?_toList]
  by_cases hk : k < off
  · rw [if_neg (by omega), if_pos hk]
  · rw [if_neg hk]
    by_cases hk2 : k < off + v.size
    · rw [if_pos ⟨by omega, hk2, by omega⟩, if_pos hk2]
    · rw [if_neg (by omega), if_neg hk2]
theorem fill_sound (hE : EnvOk n env a) (pl : List (Nat × Nat)) (F : Nat → Option (Nat × Nat)) (hF : ∀ i, F i = pl[i]?) : ∀ (ps : List (Nat × Operand)) (cs out : List C),
    fillC pl cs (ps.map fun p => (p.1, ev env p.2)) = some out → (∀ p ∈ ps, ∀ l, (ev env p.2).cells? = some l → ok1 l = true) →
    Instr.fill F (cs.map C.den).toArray (ps.map fun p => (p.1, a.eval p.2)) = some (out.map C.den).toArray
  | [], cs, out, h, _ => by
    simp only [List.map_nil, fillC, Option.some.injEq] at h
    subst h
    rfl
  | (i, x) :: r, cs, out, h, h1 => by
    simp only [List.map_cons, fillC] at h
    split at h
    · rename_i off size l hp hl
      split at h
      · rename_i hc
        obtain ⟨hsz, hle⟩ := hc
        have hcell := cells_eval hE hl (h1 (i, x) (by simp) l hl)
        have ih := fill_sound hE pl F hF r _ out h (fun p hp' => h1 p (by simp [hp']))
        simp only [List.map_cons]
        unfold Instr.fill
        simp only [hF, hp, hcell]
        rw [if_neg (by simp; omega), fold_splice off _ _ (by simp; omega)]
        rw [putCells_eq cs off l (by omega)] at ih
        simpa using ih
      · cases h
    · cases h
theorem build_sound (hF : TTok P F) {o : Oper} {Q : Exit → Act → World → Prop} (hE : EnvOk n env a) (hH : HSat w0 M H w) (t : TypeId) (ps : Array (Nat × Operand)) (ho : o.op = .build t ps)
    (h : match look F.pl t, look F.ze t with
    | some pl, some z => partsOk (ev env) ps = true ∧ match fillC pl z (ps.toList.map fun p => (p.1, ev env p.2)) with
      | some l => K (.agg l) []
      | none => False
    | _, _ => False) : o.wp P a w (Post o.dst a w0 M H K) Q := by
  split at h
  · rename_i pl z hpl hz
    obtain ⟨h1, h⟩ := h
    split at h
    case h_2 => exact h.elim
    rename_i l hl
    have hK := h
    have hpl := hF.pl_ hpl
    have hz := hF.ze_ hz
    unfold zeroT at hz
    obtain ⟨zz, hz0, rfl⟩ := Option.map_eq_some_iff.1 hz
    obtain ⟨i, hi, hz1⟩ := Option.bind_eq_some_iff.1 hz0
    unfold placesT at hpl
    split at hpl
    · rename_i fs hu
      have hf := fill_sound (a := a) hE pl (pl.toArray[·]?) (fun i => by simp) ps.toList _ l hl (fun p hp q hq => by
        have := List.all_eq_true.1 h1 p hp
        rw [hq] at this
        exact this)
      rw [map_den_cOf] at hf
      have hb : P.built t (ps.map fun (i, x) => (i, a.eval x)).toList = some (l.map C.den).toArray := by
        unfold Program.built
        simp only [hi, hu, hz1, hpl]
        rw [Array.toList_map]
        exact hf
      refine wp_pure hH _ _ hK (fun _ => rfl) ?_
      unfold execOp
      simp only [ho, Sem.run_bind, run_build w t _ _ hb, Result.andThen_ok, Sem.run_pure]
      rfl
    · cases hpl
  · exact h.elim
theorem HSat.newRow (hH : HSat w0 M H w) (src : Option Nat) (hsrc : ∀ i, src = some i → True) (w' : World) (cur : Array Value) (hw' : w'.heap = (w.alloc (.cells cur d)).heap) (hos : w'.os = w.os) (htape : w'.tape = w.tape) (hout : w'.output = w.output)
    (id c t size m : Nat) (xs : List C) (ht : t = d) (hx : xs.length = m * size) (hmc : m ≤ c) (hcm : c ≤ maxLen) (hcs : cur.size = c * size) (htake : cur.toList.take (m * size) = xs.map C.den) :
    HSat w0 M (upd (erase H src) id (some (.row (some ⟨w.heap.size, 0, none⟩) c t size m xs))) w' := by
  subst ht
  have hs : w'.heap.size = w.heap.size + 1 := by rw [hw']; simp
  refine hH.step (w' := w') src (fun _ => False) hos htape hout (by omega) (fun k hk _ => by rw [hw']; exact heap_alloc_old w _ k hk) (fun _ h => h.elim) id _ ?_ ?_
  · exact ⟨hx, hmc, fun _ => ⟨w.heap.size, cur, rfl, by rw [hw']; exact heap_alloc_new w _, hcm, hcs, htake⟩⟩
  · intro g hg
    have hg' : w.heap.size = g := by
      simp only [Ent.block] at hg
      split at hg
      · cases hg
      · simpa using hg
    exact ⟨by omega, .inr (by omega)⟩
theorem cat_cells (hE : EnvOk n env a) (sz : Nat) : ∀ (ps : List (Nat × Operand)) (k : Nat) (out : List C), catC sz (ps.map fun p => (p.1, ev env p.2)) k = some out → (∀ p ∈ ps, ∀ l, (ev env p.2).cells? = some l → ok1 l = true) →
    (ps.map fun p => (p.1, a.eval p.2)) = (((ps.map fun p => a.eval p.2).zipIdx k).map fun x => (x.2, x.1)) ∧ ((ps.map fun p => a.eval p.2).flatMap fun v => v.cells.toList) = out.map C.den ∧ ∀ v ∈ ps.map fun p => a.eval p.2, v.cells.size = sz
  | [], k, out, h, _ => by
    simp only [List.map_nil, catC, Option.some.injEq] at h
    subst h
    exact ⟨rfl, rfl, by simp⟩
  | (i, x) :: r, k, out, h, h1 => by
    simp only [List.map_cons, catC] at h
    split at h
    · rename_i l hl
      split at h
      · rename_i hc
        obtain ⟨rfl, hsz⟩ := hc
        obtain ⟨rest, hr, rfl⟩ := Option.map_eq_some_iff.1 h
        have hcell := cells_eval hE hl (h1 (i, x) (by simp) l hl)
        obtain ⟨g1, g2, g3⟩ := cat_cells hE sz r (i + 1) rest hr (fun p hp' => h1 p (by simp [hp']))
        refine ⟨by simp only [List.map_cons, List.zipIdx_cons]; rw [g1], by simp only [List.map_cons, List.flatMap_cons, g2, hcell, List.map_append], ?_⟩
        intro v hv
        simp only [List.map_cons, List.mem_cons] at hv
        rcases hv with rfl | hv
        · rw [hcell]; simpa using hsz
        · exact g3 v hv
      · cases h
    · cases h
theorem flat_len (z : Nat) : ∀ (l : List Value), (∀ v ∈ l, v.cells.size = z) → (l.flatMap fun v => v.cells.toList).length = l.length * z
  | [], _ => by simp
  | v :: r, h => by
    rw [List.flatMap_cons, List.length_append, flat_len z r (fun u hu => h u (by simp [hu])), List.length_cons, Nat.add_mul, Array.length_toList, h v (by simp)]
    omega
theorem buildSlice_sound (hF : TTok P F) {o : Oper} {Q : Exit → Act → World → Prop} (hE : EnvOk n env a) (hH : HSat w0 M H w) (t : TypeId) (m : Nat) (ps : Array (Nat × Operand)) (ho : o.op = .buildSlice t m ps)
    (h : match look F.sl t with
    | some (el, sz, _, zs) => m * sz ≤ 65536 ∧ zs = sz ∧ 0 < sz ∧ partsOk (ev env) ps = true ∧ match catC sz (ps.toList.map fun p => (p.1, ev env p.2)) 0 with
      | some l => l.length = m * sz ∧ ∀ A, K (.c (.sl d A m m)) [(d, some (.row A m el sz m l))]
      | none => False
    | none => False) : o.wp P a w (Post o.dst a w0 M H K) Q := by
  split at h
  · rename_i el sz bytes zs hu
    obtain ⟨hsmall, hzs, hpos, h1, h⟩ := h
    split at h
    case h_2 => exact h.elim
    rename_i l hl
    obtain ⟨hlen, hK⟩ := h
    have hu := hF.sl_ hu
    subst hzs
    unfold slT at hu
    split at hu
    · rename_i e' hd
      split at hu
      · rename_i inf hi
        obtain ⟨z, hz, hms⟩ := Option.map_eq_some_iff.1 hu
        injection hms with he hms
        injection hms with hs hms
        injection hms with hb hz'
        subst he
        obtain ⟨g1, g2, g3⟩ := cat_cells (a := a) hE zs ps.toList 0 l hl (fun p hp q hq => by
          have := List.all_eq_true.1 h1 p hp
          rw [hq] at this
          exact this)
        have hsize : inf.size = zs := hs
        have hml : m ≤ maxLen := by
          have : m * 1 ≤ m * zs := Nat.mul_le_mul_left _ hpos
          simp only [maxLen]; omega
        refine wp_made (w' := w.alloc (.cells (l.map C.den).toArray e')) _ _ (.slice (some ⟨w.heap.size, 0, none⟩) m m) (fun _ => rfl) (hK (some ⟨w.heap.size, 0, none⟩)) ?_ ?_
        · have := hH.newRow (d := e') none (fun _ _ => trivial) (w.alloc (.cells (l.map C.den).toArray e')) (l.map C.den).toArray rfl rfl rfl rfl d m e' zs m l rfl hlen (Nat.le_refl _) hml (by simpa using hlen) (List.take_of_length_le (by simp; omega))
          simpa [upds, erase] using this
        · unfold execOp
          simp only [ho, Sem.run_bind]
          have hparts : (ps.map fun (i, x) => (i, a.eval x)).toList = ps.toList.map fun p => (p.1, a.eval p.2) := by rw [Array.toList_map]
          by_cases h0 : m = 0
          · subst h0
            have hl0 : l = [] := List.eq_nil_of_length_eq_zero (by simpa using hlen)
            subst hl0
            have hps : ps.toList = [] := by
              cases hp : ps.toList with
              | nil => rfl
              | cons p r =>
                have h3 := g3 (a.eval p.2) (by rw [hp]; simp)
                rw [hp] at g2
                have h4 := congrArg List.length g2
                simp only [List.map_cons, List.flatMap_cons, List.length_append, Array.length_toList, h3, List.map_nil, List.length_nil] at h4
                omega
            have hpe : ps = #[] := by simpa using hps
            subst hpe
            have hr0 : Array.map (fun _ : Nat => (default : Value)) (Array.range 0) = #[] := by apply Array.ext'; simp
            simp [Instr.buildSlice, run_underlying hd, sizeOf, typeInfo, hi, Instr.fill, newRow, hr0]
          · have hf := Great.fill_whole hpos (ps.toList.map fun p => a.eval p.2) ((Array.range (m * zs)).map (z.cells[· % z.cells.size]!)) g3 (by
              have e1 := congrArg List.length g2
              rw [List.length_map, hlen] at e1
              have e2 := flat_len zs (ps.toList.map fun p => a.eval p.2) g3
              rw [← e2, e1]; simp)
            rw [← g1, g2] at hf
            have := run_buildSlice (P := P) w t e' m (ps.map fun (i, x) => (i, a.eval x)) (l.map C.den).toArray inf z hd hi hz (by rw [hsize]; omega) (by rw [hsize]; have := Nat.mul_pos (Nat.pos_of_ne_zero h0) hpos; omega) (by rw [hsize, hparts]; exact hf)
            rw [this]
            rfl
      · cases hu
    · cases hu
  · exact h.elim
end Go.Proofs.YtbcicjmepojlnaaGreat.Eng
/- Each operation does what its predicate says: append, slicing, calls; then all together; no condition. -/
namespace Go.Proofs.YtbcicjmepojlnaaGreat.Eng
open Go Go.RowKit
set_option autoImplicit false
set_option linter.unusedSimpArgs false
set_option linter.unusedVariables false
variable {P : Program} {F : TT} {n : Nat} {env : Env} {a : Act} {w w0 : World} {M : Nat → Prop} {H : Heap} {K : KT} {d : Nat}
theorem row_owns {A : Option Addr} {c t size m : Nat} {xs : List C} (h : (Ent.row A c t size m xs).holds w) (hc : 0 < c) : ∃ g, A = some ⟨g, 0, none⟩ ∧ w.ownsRow 0 t size (.slice A m c) m (xs.map C.den) := by
  obtain ⟨g, cur, rfl, hg, hcm, hcs, ht⟩ := h.2.2 hc
  exact ⟨g, rfl, by simpa using h.1, .inr ⟨g, c, cur, rfl, Nat.zero_le _, hg, h.2.1, hcm, hcs, ht⟩⟩
theorem run_append_zero (w : World) (t ty e : TypeId) (i : TypeInfo) (z : Value) (ht : P.underlying t = some (.slice e)) (hi : P.info? e = some i) (hz : i.zero = some z) (A : Option Addr)
    (p : Addr) (m c : Nat) (news : List Value) (hl : news.length = m * i.size) (hnews : ∀ j u, news[j]? = some u → w.cell? (p.add j) = some u) (h0 : 0 < m) (h63 : (m : Int) ≤ 9223372036854775807) (h48 : m * i.bytes ≤ 281474976710656) :
    (Builtin.append_ #[t, t] ty #[.slice A 0 0, .slice (some p) m c]).run P w =
      .ok (.slice (some ⟨w.heap.size, 0, none⟩) m (grownCap w m 0 e)) (w.drew.alloc (.cells (news.toArray ++ Builtin.zeroCells z.cells (grownCap w m 0 e - m)) e)) := by
  cases A with
  | none => exact run_append_nil (P := P) w t ty e i z ht hi hz p m c news hl hnews h0 h63 h48
  | some b =>
    have := run_append_grow (P := P) w t ty e i z ht hi hz b 0 0 [] (by simp) (by simp) p m c news hl hnews (by omega) (by omega) (by rw [Nat.zero_add, nextslicecap_zero h0]; exact h48)
    simpa using this
theorem run_append_none (w : World) (t ty e : TypeId) (i : TypeInfo) (ht : P.underlying t = some (.slice e)) (hi : P.info? e = some i) (A : Option Addr) (k cap : Nat) (hk : k ≤ cap) (B : Option Addr) (c : Nat) :
    (Builtin.append_ #[t, t] ty #[.slice A k cap, .slice B 0 c]).run P w = .ok (.slice A k cap) w := by
  cases A <;> cases B <;> simp [Builtin.append_, run_underlying ht, sizeOf, typeInfo, hi, Builtin.lenOf, Builtin.firstCells, loadCells, loadCellsFrom, storeCells, hk]
theorem append_sound (hF : TTok P F) {o : Oper} {Q : Exit → Act → World → Prop} (hE : EnvOk n env a) (hH : HSat w0 M H w) (x y : Operand) (ts : Array TypeId) (hts : ts.size = 2) (ho : o.op = .call { callee := .builtin .append, args := #[x, y], argTypes := ts }) (ids : List Nat)
    (h : appendT F (ts.getD 0 0) (ts.getD 1 0) (ev env x) (ev env y) (restrict H ids) d K) : o.wp P a w (Post o.dst a w0 M H K) Q := by
  obtain ⟨t, t', rfl⟩ : ∃ t t', ts = #[t, t'] := by
    obtain ⟨l⟩ := ts
    match l, hts with
    | [t, t'], _ => exact ⟨t, t', rfl⟩
  have hg0 : (#[t, t'] : Array TypeId).getD 0 0 = t := rfl
  have hg1 : (#[t, t'] : Array TypeId).getD 1 0 = t' := rfl
  rw [hg0, hg1] at h
  unfold appendT at h
  split at h
  · rename_i e sz bytes zs id A k cap id' B m cap' hu hx hy
    obtain ⟨rfl, rfl, hsz, hne, hbytes, hmax, h⟩ := h
    split at h
    case h_2 => exact h.elim
    rename_i B' sz'' m' ys hrow
    obtain ⟨rfl, rfl, hszm, hy1, h⟩ := h
    have hys : (∃ sz', restrict H ids id' = some (.rd B sz' m ys) ∧ (sz' = zs ∨ m = 0)) ∨ (∃ c' e' sz', restrict H ids id' = some (.row B c' e' sz' m ys) ∧ (sz' = zs ∨ m = 0)) := by
      unfold rowOf at hrow
      split at hrow
      · rename_i h1
        injection hrow with hrow
        injection hrow with e1 hrow
        injection hrow with e2 hrow
        injection hrow with e3 e4
        subst e1 e2 e3 e4
        exact .inl ⟨_, h1, hszm⟩
      · rename_i h1
        injection hrow with hrow
        injection hrow with e1 hrow
        injection hrow with e2 hrow
        injection hrow with e3 e4
        subst e1 e2 e3 e4
        exact .inr ⟨_, _, _, h1, hszm⟩
      · cases hrow
    have hu := hF.sl_ hu
    unfold slT at hu
    split at hu
    · rename_i e' hd
      split at hu
      · rename_i inf hi
        obtain ⟨z, hz, hms⟩ := Option.map_eq_some_iff.1 hu
        injection hms with he hms
        injection hms with hs hms
        injection hms with hb hz'
        subst he
        have ex := eval_c hE hx (by simp)
        have ey := eval_c hE hy (by simp)
        simp only [C.den] at ex ey
        have hnews : (ys.map C.den).length = m * zs ∧ (0 < m → ∃ p, B = some p ∧ ∀ j u, (ys.map C.den)[j]? = some u → w.cell? (p.add j) = some u) := by
          rcases hys with ⟨sz', hHid, hs'⟩ | ⟨c', e'', sz', hHid, hs'⟩
          · obtain ⟨hl, hcell⟩ := hH.holds _ _ (restrict_some hHid)
            refine ⟨?_, fun hm => ?_⟩
            · rcases hs' with rfl | rfl
              · simpa using hl
              · simp at hl ⊢; exact hl
            · have hs'' : sz' = zs := by rcases hs' with h | h <;> omega
              subst hs''
              have : 0 < m * sz' := Nat.mul_pos hm hsz
              obtain ⟨p, hp, _, hc⟩ := hcell (by intro e; subst e; simp at hl; omega)
              exact ⟨p, hp, hc⟩
          · have hold := hH.holds _ _ (restrict_some hHid)
            refine ⟨?_, fun hm => ?_⟩
            · rcases hs' with rfl | rfl
              · simpa using hold.1
              · have := hold.1; simp at this ⊢; exact this
            · have hs'' : sz' = zs := by rcases hs' with h | h <;> omega
              subst hs''
              have : 0 < m * sz' := Nat.mul_pos hm hsz
              have hne' : ys ≠ [] := by intro e; have := hold.1; subst e; simp at this; omega
              obtain ⟨g, cur, hp, _⟩ := hold.2.2 (by have := hold.2.1; omega)
              refine ⟨⟨g, 0, none⟩, hp, ?_⟩
              have := cells_row hold hne'
              rw [hp] at this
              exact this
        have hone : ∀ v ∈ ys.map C.den, v.oneCell' = true := by
          intro v hv
          obtain ⟨c, hc, rfl⟩ := List.mem_map.1 hv
          exact List.all_eq_true.1 hy1 c hc
        have hexec : ∀ v w', (Builtin.append_ #[t, t] o.type #[.slice A k cap, .slice B m cap']).run P w = .ok v w' → (execOp a.eval o).run P w = .ok (.value v) w' := by
          intro v w' hr
          unfold execOp
          simp only [ho, resolve, invoke, builtin, Sem.run_bind, Sem.run_pure, Result.andThen_ok, List.map_toArray, List.map_cons, List.map_nil, ex, ey, hr]
        -- a new array: what holds of it
        have grown : ∀ (src : Option Nat) (olds : List C), k = olds.length / zs → olds.length = k * zs → k + m ≤ grownCap w (k + m) cap e' →
            HSat w0 M (upd (erase H src) d (some (.row (some ⟨w.heap.size, 0, none⟩) (grownCap w (k + m) cap e') e' zs (k + m) (olds ++ ys))))
              (w.drew.alloc (.cells ((olds.map C.den).toArray ++ (ys.map C.den).toArray ++ Builtin.zeroCells z.cells (grownCap w (k + m) cap e' - (k + m))) e')) := by
          intro src olds _ hol hge
          refine hH.newRow (d := e') src (fun _ _ => trivial) (w.drew.alloc (.cells ((olds.map C.den).toArray ++ (ys.map C.den).toArray ++ Builtin.zeroCells z.cells (grownCap w (k + m) cap e' - (k + m))) e')) ((olds.map C.den).toArray ++ (ys.map C.den).toArray ++ Builtin.zeroCells z.cells (grownCap w (k + m) cap e' - (k + m))) rfl rfl rfl rfl d _ e' zs (k + m) (olds ++ ys) rfl ?_ hge (grownCap_le_maxLen w (k + m) cap e' hmax) ?_ ?_
          · have := hnews.1; rw [List.length_append, hol, Nat.add_mul]; simp at this; omega
          · simp only [Array.size_append, List.size_toArray, size_zeroCells, hz', hnews.1, List.length_map, hol, ← Nat.add_mul]
            congr 1
            omega
          · have e1 : ((k + m) * zs) = (olds.map C.den ++ ys.map C.den).length := by rw [List.length_append, hnews.1, List.length_map, hol, Nat.add_mul]
            simp only [Array.toList_append, List.map_append]
            rw [e1]
            exact List.take_left
        have hfit : Builtin.nextslicecap (k + m) cap * inf.bytes ≤ 281474976710656 ∨ k + m ≤ cap := by
          by_cases hk : k + m ≤ cap
          · exact .inr hk
          · exact .inl (growslice_fits (by omega) (by rw [hb]; exact hbytes))
        have h63 : ((k + m : Nat) : Int) ≤ 9223372036854775807 := by simp only [maxLen] at hmax; omega
        split at h
        · -- onto a row
          rename_i A' c' e'' sz' n' xs hHid
          obtain ⟨rfl, rfl, rfl, rfl, rfl, hK⟩ := h
          have hHid' := restrict_some hHid
          have hold := hH.holds _ _ hHid'
          rcases Nat.eq_zero_or_pos m with hm0 | hm
          · subst hm0
            have hys0 : ys = [] := List.eq_nil_of_length_eq_zero (by simpa using hnews.1)
            subst hys0
            have hr := run_append_none (P := P) w t o.type e' inf hd hi A k cap hold.2.1 B cap'
            refine wp_made (w' := w) _ _ (.slice A k cap) (fun _ => rfl) (hK A cap) ?_ (hexec _ _ hr)
            have := hH.retell id d _ (.row A cap e' zs k xs) hHid' hold (fun h => h) (fun g h => h)
            simpa [upds] using this
          · obtain ⟨p, rfl, hcell⟩ := hnews.2 hm
            rcases Nat.eq_zero_or_pos cap with hc0 | hc
            · subst hc0
              have hk0 : k = 0 := by have := hold.2.1; omega
              subst hk0
              have hxs : xs = [] := List.eq_nil_of_length_eq_zero (by simpa using hold.1)
              subst hxs
              have hr := run_append_zero (P := P) w t o.type e' inf z hd hi hz A p m cap' (ys.map C.den) (by rw [hs]; exact hnews.1) hcell hm (by omega) (by rw [Nat.zero_add] at hbytes; rw [hb]; omega)
              refine wp_made _ _ _ (fun _ => by rw [Nat.zero_add]; rfl) (hK (some ⟨w.heap.size, 0, none⟩) (grownCap w m 0 e')) ?_ (hexec _ _ hr)
              have := grown (some id) [] (by simp) (by simp) (by rw [Nat.zero_add]; exact grownCap_ge w m 0 e')
              simpa [upds, erase] using this
            · obtain ⟨g, hA, hown⟩ := row_owns hold hc
              subst hA
              by_cases hroom : k + m ≤ cap
              · obtain ⟨_, cur, hgA, hg, hcm, hcs, htake⟩ := hold.2.2 hc
                injection hgA with hgA
                injection hgA with hgA
                subst hgA
                have hfitc : k * inf.size + (ys.map C.den).length ≤ cur.size := by rw [hnews.1, hcs, hs, ← Nat.add_mul]; exact Nat.mul_le_mul_right _ hroom
                have hr := run_append_room (P := P) w t o.type e' inf hd hi g k cap cur hg p m cap' (ys.map C.den) (by rw [hs]; exact hnews.1) hcell hone hroom hfitc
                refine wp_made _ _ _ (fun _ => rfl) (hK (some ⟨g, 0, none⟩) cap) ?_ (hexec _ _ hr)
                have := hH.setRow (j := d) (new := (cur.toList.take (k * inf.size) ++ ys.map C.den ++ cur.toList.drop (k * inf.size + (ys.map C.den).length)).toArray) (e' := .row (some ⟨g, 0, none⟩) cap e' zs (k + m) (xs ++ ys)) hHid' rfl (by simp [Ent.block]; omega) hg ?_ (fun q hq => by simp [Ent.block] at hq; exact hq.2.symm)
                · simpa [upds] using this
                · have hlx : (xs ++ ys).length = (k + m) * zs := by have := hnews.1; have h2 := hold.1; rw [List.length_append, h2, Nat.add_mul]; simp at this; omega
                  refine ⟨hlx, hroom, fun _ => ⟨g, _, rfl, setRow_heap w g cur _ e' _ hg, hcm, ?_, ?_⟩⟩
                  · simp only [List.size_toArray, List.length_append, List.length_take, List.length_drop, Array.length_toList]
                    omega
                  · have htk : (cur.toList.take (k * inf.size)).length = k * zs := by rw [List.length_take, hs]; rw [Array.length_toList, hcs]; exact Nat.min_eq_left (Nat.mul_le_mul_right _ hold.2.1)
                    rw [List.map_append, hs, htake]
                    have : (k + m) * zs = (xs.map C.den ++ ys.map C.den).length := by rw [← List.map_append, List.length_map, hlx]
                    rw [this]
                    exact List.take_left
              · have hx2 : ∀ j u, (xs.map C.den)[j]? = some u → w.cell? ((⟨g, 0, none⟩ : Addr).add j) = some u := hown.cells (g := g) rfl
                have hr := run_append_grow (P := P) w t o.type e' inf z hd hi hz ⟨g, 0, none⟩ k cap (xs.map C.den) (by rw [hs]; simpa using hold.1) hx2 p m cap' (ys.map C.den) (by rw [hs]; exact hnews.1) hcell (by omega) h63 (hfit.resolve_right hroom)
                refine wp_made _ _ _ (fun _ => rfl) (hK (some ⟨w.heap.size, 0, none⟩) (grownCap w (k + m) cap e')) ?_ (hexec _ _ hr)
                have := grown (some id) xs (by rw [hold.1, Nat.mul_div_cancel _ hsz]) hold.1 (grownCap_ge w (k + m) cap e')
                simpa [upds, erase] using this
        · -- onto nothing
          rename_i A' sz' n' xs hHid
          obtain ⟨rfl, rfl, rfl, hK⟩ := h
          rcases Nat.eq_zero_or_pos m with hm0 | hm
          · subst hm0
            have hys0 : ys = [] := List.eq_nil_of_length_eq_zero (by simpa using hnews.1)
            subst hys0
            have hr := run_append_none (P := P) w t o.type e' inf hd hi A 0 0 (Nat.le_refl _) B cap'
            refine wp_made (w' := w) _ _ (.slice A 0 0) (fun _ => rfl) (hK A 0) ?_ (hexec _ _ hr)
            have := hH.step (w' := w) none (fun _ => False) rfl rfl rfl (Nat.le_refl _) (fun _ _ _ => rfl) (fun _ h => h.elim) d (.row A 0 e' zs 0 []) ⟨by simp, Nat.le_refl _, fun h => absurd h (by omega)⟩ (fun g hg => by simp [Ent.block] at hg)
            simpa [upds, erase] using this
          · obtain ⟨p, rfl, hcell⟩ := hnews.2 hm
            have hr := run_append_zero (P := P) w t o.type e' inf z hd hi hz A p m cap' (ys.map C.den) (by rw [hs]; exact hnews.1) hcell hm (by omega) (by rw [Nat.zero_add] at hbytes; rw [hb]; omega)
            refine wp_made _ _ _ (fun _ => rfl) (hK (some ⟨w.heap.size, 0, none⟩) (grownCap w m 0 e')) ?_ (hexec _ _ hr)
            have := grown none [] (by simp) (by simp) (by rw [Nat.zero_add]; exact grownCap_ge w m 0 e')
            simpa [upds, erase] using this
        · exact h.elim
      · cases hu
    · cases hu
  · exact h.elim
end Go.Proofs.YtbcicjmepojlnaaGreat.Eng
/- Slicing, calls, and all operations together; no condition. -/
namespace Go.Proofs.YtbcicjmepojlnaaGreat.Eng
open Go Go.RowKit
set_option autoImplicit false
set_option linter.unusedSimpArgs false
set_option linter.unusedVariables false
variable {P : Program} {F : TT} {n : Nat} {env : Env} {a : Act} {w w0 : World} {M : Nat → Prop} {H : Heap} {K : KT} {d : Nat}
theorem bound_some (hE : EnvOk n env a) (def_ : Nat) (x : Option Operand) (l : Int) (h : boundT def_ (x.map (ev env)) = some l) :
    (x = none ∧ l = def_) ∨ ∃ y k, x = some y ∧ a.eval y = .int k l := by
  cases x with
  | none => simp only [Option.map_none, boundT, Option.some.injEq] at h; exact .inl ⟨rfl, h.symm⟩
  | some y =>
    simp only [Option.map_some, boundT] at h
    split at h
    · rename_i hh; cases hh
    · rename_i k i hx
      injection h with h
      subst h
      injection hx with hx
      exact .inr ⟨y, k, rfl, eval_v hE hx⟩
    · cases h
theorem slice_bounds (w : World) (m cap : Nat) (lo hi : Option Operand) (l h : Int) (hl : (lo = none ∧ l = 0) ∨ ∃ y k, lo = some y ∧ a.eval y = .int k l) (hh : (hi = none ∧ h = m) ∨ ∃ y k, hi = some y ∧ a.eval y = .int k h)
    (h0 : 0 ≤ l) (h1 : l ≤ h) (h2 : h ≤ m) (h3 : m ≤ cap) : (Instr.sliceBounds true m cap (lo.map a.eval) (hi.map a.eval) none).run P w = .ok (l.toNat, h.toNat, cap) w := by
  have c1 : h ≤ (cap : Int) := by omega
  have c2 : 0 ≤ h := by omega
  have c3 : l ≤ (h.toNat : Int) := by omega
  rcases hl with ⟨rfl, rfl⟩ | ⟨y, k, rfl, hy⟩ <;> rcases hh with ⟨rfl, rfl⟩ | ⟨y', k', rfl, hy'⟩
  · simp [Instr.sliceBounds]
  · simp [Instr.sliceBounds, Instr.sliceBound, hy', asIntOf, c1, c2]
  · have c4 : l ≤ (m : Int) := by omega
    simp [Instr.sliceBounds, Instr.sliceBound, hy, asIntOf, h0, c4]
  · have c5 : ¬ (max h 0 < l) := by omega
    simp [Instr.sliceBounds, Instr.sliceBound, hy, hy', asIntOf, h0, c1, c2]
    intro hlt; exact absurd hlt c5
theorem slice_sound (hF : TTok P F) {o : Oper} {Q : Exit → Act → World → Prop} (hE : EnvOk n env a) (hH : HSat w0 M H w) (t : TypeId) (x : Operand) (lo hi mx : Option Operand) (ho : o.op = .slice t x lo hi mx) (ids : List Nat)
    (h : sliceT F t (ev env x) (lo.map (ev env)) (hi.map (ev env)) (mx.map (ev env)) (restrict H ids) d K) : o.wp P a w (Post o.dst a w0 M H K) Q := by
  unfold sliceT at h
  split at h
  · rename_i e sz bytes zs id A m c l hu hx hl
    have hl' := bound_some (a := a) hE 0 lo l hl
    split at h
    · rename_i hh' hb hmx
      obtain rfl : mx = none := by cases mx <;> first | rfl | cases hmx
      have hh'' := bound_some (a := a) hE m hi hh' hb
      obtain ⟨h0, h1, h2, h⟩ := h
      have ex := eval_c hE hx (by simp)
      simp only [C.den] at ex
      have hu := hF.sl_ hu
      unfold slT at hu
      split at hu
      · rename_i e' hd
        split at hu
        · rename_i inf hi'
          obtain ⟨z, hz, hms⟩ := Option.map_eq_some_iff.1 hu
          injection hms with he hms
          injection hms with hs hms
          subst he hs
          have hrun : m ≤ c → (execOp a.eval o).run P w = .ok (.value (.slice (if c = l.toNat then A else A.map (·.add (l.toNat * inf.size))) (hh'.toNat - l.toNat) (c - l.toNat))) w := by
            intro hmc
            have hsb := slice_bounds (P := P) (a := a) w m c lo hi l hh' (by simpa using hl') hh'' h0 h1 h2 hmc
            unfold execOp
            simp only [ho, ex, Instr.sliceAt, Sem.run_bind, run_underlying hd, Result.andThen_ok, Instr.slice, Option.map_none, hsb, sizeOf, typeInfo, run_program, hi', Sem.run_pure]
          split at h
          · rename_i A' sz' n' xs hHid
            obtain ⟨rfl, rfl, rfl, hmc, hK⟩ := h
            have hold := hH.holds _ _ (restrict_some hHid)
            refine wp_made (w' := w) _ _ _ (fun _ => rfl) hK ?_ (hrun hmc)
            have hle : (hh'.toNat - l.toNat) * inf.size ≤ (m - l.toNat) * inf.size := Nat.mul_le_mul_right _ (by omega)
            have hlen : ((xs.drop (l.toNat * inf.size)).take ((hh'.toNat - l.toNat) * inf.size)).length = (hh'.toNat - l.toNat) * inf.size := by
              have := hold.1
              rw [List.length_take, List.length_drop, this, ← Nat.sub_mul]
              exact Nat.min_eq_left hle
            have hnone : ∀ p q : Addr, A = some q → (if c = l.toNat then A else A.map (·.add (l.toNat * inf.size))) = some p → p.block = q.block := by
              intro p q hq hp
              subst hq
              split at hp
              · injection hp with hp; rw [hp]
              · simp only [Option.map_some, Option.some.injEq] at hp; rw [← hp, add_block]
            have := hH.part id d _ (.rd (if c = l.toNat then A else A.map (·.add (l.toNat * inf.size))) inf.size (hh'.toNat - l.toNat) ((xs.drop (l.toNat * inf.size)).take ((hh'.toNat - l.toNat) * inf.size))) (restrict_some hHid) rfl ?_ rfl ?_
            · simpa [upds] using this
            · refine ⟨hlen, fun hne => ?_⟩
              have hxs : xs ≠ [] := by intro e; subst e; simp at hne
              obtain ⟨p, rfl, hpl, hc⟩ := hold.2 hxs
              have hpos : 0 < (hh'.toNat - l.toNat) * inf.size := by rw [← hlen]; exact List.length_pos_iff.2 hne
              have hcl : c ≠ l.toNat := by
                intro e
                have : hh'.toNat - l.toNat = 0 := by omega
                rw [this] at hpos; omega
              refine ⟨p.add (l.toNat * inf.size), by rw [if_neg hcl]; rfl, by rw [add_block]; exact hpl, fun j u hu => ?_⟩
              rw [add_add]
              refine hc _ u ?_
              rw [List.getElem?_map, getElem?_drop_take] at hu
              split at hu
              · rw [List.getElem?_map]; exact hu
              · cases hu
            · intro g hg
              simp only [Ent.block] at hg ⊢
              split at hg
              · cases hg
              · rename_i hne
                have hxs : xs ≠ [] := by intro e; subst e; simp at hne
                rw [if_neg hxs]
                obtain ⟨p, hp, _⟩ := hold.2 hxs
                obtain ⟨q, hq, rfl⟩ := Option.map_eq_some_iff.1 hg
                rw [hp, Option.map_some, hnone q p hp hq]
          · rename_i A' c' e'' sz' n' xs hHid
            obtain ⟨rfl, rfl, rfl, rfl, rfl, hK⟩ := h
            have hold := hH.holds _ _ (restrict_some hHid)
            have hr := hrun hold.2.1
            have e0 : (0 : Int).toNat = 0 := rfl
            rw [e0, Nat.zero_mul, Nat.sub_zero, Nat.sub_zero] at hr
            have hA : A.map (·.add 0) = A := by cases A <;> simp [Addr.add]
            rw [hA, ite_self] at hr
            refine wp_made (w' := w) _ _ _ (fun _ => rfl) hK ?_ hr
            have hle : hh'.toNat * inf.size ≤ m * inf.size := Nat.mul_le_mul_right _ (by omega)
            have := hH.retell id d _ (.row A c e'' inf.size hh'.toNat (xs.take (hh'.toNat * inf.size))) (restrict_some hHid) ?_ (fun _ => rfl) (fun g hg => hg)
            · simpa [upds] using this
            · refine ⟨by rw [List.length_take, hold.1]; exact Nat.min_eq_left hle, by have := hold.2.1; omega, fun hc => ?_⟩
              obtain ⟨g, cur, hA', hg, hcm, hcs, ht⟩ := hold.2.2 hc
              refine ⟨g, cur, hA', hg, hcm, hcs, ?_⟩
              rw [List.map_take, ← ht, List.take_take, Nat.min_eq_left hle]
          · exact h.elim
        · cases hu
      · cases hu
    · exact h.elim
  · exact h.elim
def Bodied (P : Program) (f : FuncId) : Prop := ∃ fn c, P.funcs[f]? = some fn ∧ fn.body = some c ∧ (fn.name == "runtime.NumGoroutine") = false
structure SpecOk (P : Program) (f : FuncId) (wr : Bool) (S : Spec) : Prop where
  run : ∀ (args : List SV) (H0 H : Heap) (d : Nat) (w0 : World) (M : Nat → Prop) (w : World), (S args H0 d).side → (∀ i e, H0 i = some e → H i = some e) → HSat w0 M H w →
    Calls P f (args.map SV.den).toArray w fun e w' => ∃ v u x, e = .returned x ∧ (S args H0 d).R v u ∧ (v.known = true → x = v.den) ∧ HSat w0 M (upds H u) w'
  some_ : ∀ args H d, (S args H d).side → ∃ v u, (S args H d).R v u
  keys : ∀ args H d v u, (S args H d).R v u → ∀ p ∈ u, p.1 = d ∨ p.1 = d + 100000 ∨ p.1 = d + 200000 ∨ (wr = true ∧ (H p.1).isSome = true)
  body : ∀ args H d, (S args H d).side → Bodied P f
structure Ctx (P : Program) where
  F : TT
  Fok : TTok P F
  Γ : FuncId → Spec
  wr : FuncId → Bool
  ok : ∀ f, SpecOk P f (wr f) (Γ f)
theorem callFunc_run (f : FuncId) (fn : Func) (c : Code) (hf : P.funcs[f]? = some fn) (hb : fn.body = some c) (hn : (fn.name == "runtime.NumGoroutine") = false) (args : Array Value) (w : World) :
    (callFunc f args).run P w = .ok (.enter f args) w := by
  simp only [callFunc, Sem.run_bind, run_program, Result.andThen_ok, hf, hn, hb, Bool.false_eq_true, if_false]
  rfl
theorem args_eval (hE : EnvOk n env a) : ∀ (l : List Operand), (l.map (ev env)).all SV.known = true → l.map a.eval = (l.map (ev env)).map SV.den
  | [], _ => rfl
  | x :: r, h => by
    simp only [List.map_cons, List.all_cons, Bool.and_eq_true] at h ⊢
    rw [eval_ev hE x h.1, args_eval hE r h.2]
theorem fold_sound (f : Int → Int → Int) (l : List SV) (k : IntKind) (i : Int) (h : foldT f l = some (k, i)) :
    (l = [.c (.v (.int k i))]) ∨ ∃ x y, l = [.c (.v (.int k x)), .c (.v (.int k y))] ∧ i = f x y := by
  unfold foldT at h
  split at h
  · injection h with h; injection h with h1 h2; subst h1 h2; exact .inl rfl
  · split at h
    · rename_i k1 a1 k2 b1 hk
      subst hk
      injection h with h; injection h with h1 h2; subst h1 h2; exact .inr ⟨_, _, rfl, rfl⟩
    · cases h
  · cases h
theorem map_one {α β : Type} {f : α → β} {l : List α} {s : β} (h : l.map f = [s]) : ∃ x, l = [x] ∧ f x = s := by
  cases l with
  | nil => cases h
  | cons x r =>
    cases r with
    | nil => exact ⟨x, rfl, by simpa using h⟩
    | cons _ _ => simp at h
theorem map_two {α β : Type} {f : α → β} {l : List α} {s t : β} (h : l.map f = [s, t]) : ∃ x y, l = [x, y] ∧ f x = s ∧ f y = t := by
  cases l with
  | nil => cases h
  | cons x r =>
    simp only [List.map_cons, List.cons.injEq] at h
    obtain ⟨y, rfl, hy⟩ := map_one h.2
    exact ⟨x, y, rfl, h.1, hy⟩
theorem len_sound (hF : TTok P F) {o : Oper} {Q : Exit → Act → World → Prop} (hE : EnvOk n env a) (hH : HSat w0 M H w) (args : List Operand) (ts : Array TypeId) (ho : o.op = .call { callee := .builtin .len, args := args.toArray, argTypes := ts })
    (h : match args.map (ev env) with
    | [.c (.sl _ _ n _)] => ((ts[0]?).bind (look F.sl)).isSome = true ∧ K (.c (.v (.int .i64 n))) []
    | _ => False) : o.wp P a w (Post o.dst a w0 M H K) Q := by
  split at h
  · rename_i id A m c hx
    obtain ⟨hl, hK⟩ := h
    obtain ⟨r0, hr0⟩ := Option.isSome_iff_exists.1 hl
    obtain ⟨t, hts, ht⟩ := Option.bind_eq_some_iff.1 hr0
    have hu := slT_under (hF.sl_ ht)
    generalize r0.1 = e at hu
    · obtain ⟨x, rfl, hx1⟩ := map_one hx
      have ex := eval_c hE hx1 (by simp)
      refine wp_pure hH _ _ hK (fun _ => rfl) ?_
      unfold execOp
      simp [ho, resolve, invoke, builtin, ex, C.den, SV.den, Builtin.len_, hts, run_underlying hu, goInt]
  · exact h.elim
theorem cap_sound (hF : TTok P F) {o : Oper} {Q : Exit → Act → World → Prop} (hE : EnvOk n env a) (hH : HSat w0 M H w) (args : List Operand) (ts : Array TypeId) (ho : o.op = .call { callee := .builtin .cap, args := args.toArray, argTypes := ts })
    (h : match args.map (ev env) with
    | [.c (.sl _ _ _ c)] => ((ts[0]?).bind (look F.sl)).isSome = true ∧ K (.c (.v (.int .i64 c))) []
    | _ => False) : o.wp P a w (Post o.dst a w0 M H K) Q := by
  split at h
  · rename_i id A m c hx
    obtain ⟨hl, hK⟩ := h
    obtain ⟨r0, hr0⟩ := Option.isSome_iff_exists.1 hl
    obtain ⟨t, hts, ht⟩ := Option.bind_eq_some_iff.1 hr0
    have hu := slT_under (hF.sl_ ht)
    generalize r0.1 = e at hu
    · obtain ⟨x, rfl, hx1⟩ := map_one hx
      have ex := eval_c hE hx1 (by simp)
      refine wp_pure hH _ _ hK (fun _ => rfl) ?_
      unfold execOp
      simp [ho, resolve, invoke, builtin, ex, C.den, SV.den, Builtin.cap_, hts, run_underlying hu, goInt]
  · exact h.elim
theorem max_sound {o : Oper} {Q : Exit → Act → World → Prop} (hE : EnvOk n env a) (hH : HSat w0 M H w) (args : List Operand) (ts : Array TypeId) (ho : o.op = .call { callee := .builtin .max, args := args.toArray, argTypes := ts })
    (h : match foldT (fun a b => if b > a then b else a) (args.map (ev env)) with
    | some (k, a) => K (.c (.v (.int k a))) []
    | none => False) : o.wp P a w (Post o.dst a w0 M H K) Q := by
  split at h
  · rename_i k i hf
    rcases fold_sound _ _ _ _ hf with hx | ⟨x, y, hx, rfl⟩
    · obtain ⟨x, rfl, hx1⟩ := map_one hx
      · have ex := eval_v hE hx1
        refine wp_pure hH _ _ h (fun _ => rfl) ?_
        unfold execOp
        simp [ho, resolve, invoke, builtin, ex, C.den, SV.den, Builtin.max_]
    · obtain ⟨x1, y1, rfl, hx1, hy1⟩ := map_two hx
      · have ex := eval_v hE hx1
        have ey := eval_v hE hy1
        refine wp_pure hH _ _ h (fun _ => rfl) ?_
        unfold execOp
        simp [ho, resolve, invoke, builtin, ex, ey, C.den, SV.den, Builtin.max_, Builtin.max2]
  · exact h.elim
theorem min_sound {o : Oper} {Q : Exit → Act → World → Prop} (hE : EnvOk n env a) (hH : HSat w0 M H w) (args : List Operand) (ts : Array TypeId) (ho : o.op = .call { callee := .builtin .min, args := args.toArray, argTypes := ts })
    (h : match foldT (fun a b => if b < a then b else a) (args.map (ev env)) with
    | some (k, a) => K (.c (.v (.int k a))) []
    | none => False) : o.wp P a w (Post o.dst a w0 M H K) Q := by
  split at h
  · rename_i k i hf
    rcases fold_sound _ _ _ _ hf with hx | ⟨x, y, hx, rfl⟩
    · obtain ⟨x, rfl, hx1⟩ := map_one hx
      · have ex := eval_v hE hx1
        refine wp_pure hH _ _ h (fun _ => rfl) ?_
        unfold execOp
        simp [ho, resolve, invoke, builtin, ex, C.den, SV.den, Builtin.min_]
    · obtain ⟨x1, y1, rfl, hx1, hy1⟩ := map_two hx
      · have ex := eval_v hE hx1
        have ey := eval_v hE hy1
        refine wp_pure hH _ _ h (fun _ => rfl) ?_
        unfold execOp
        simp [ho, resolve, invoke, builtin, ex, ey, C.den, SV.den, Builtin.min_, Builtin.min2]
  · exact h.elim
theorem func_sound (X : Ctx P) {o : Oper} {Q : Exit → Act → World → Prop} (hE : EnvOk n env a) (hH : HSat w0 M H w) (f : FuncId) (args : List Operand) (ts : Array TypeId)
    (ho : o.op = .call { callee := .value (.func f), args := args.toArray, argTypes := ts }) (ids : List Nat) (hk : (args.map (ev env)).all SV.known = true)
    (hS : (X.Γ f (args.map (ev env)) (restrict H ids) d).side ∧ ∀ v u, (X.Γ f (args.map (ev env)) (restrict H ids) d).R v u → K v u) : o.wp P a w (Post o.dst a w0 M H K) Q := by
  obtain ⟨fn, c, hf, hb, hn⟩ := (X.ok f).body _ _ _ hS.1
  have hc := (X.ok f).run _ _ H d w0 M w hS.1 (fun i e => restrict_some) hH
  unfold Oper.wp
  have hrun : (execOp a.eval o).run P w = .ok (.enter f ((args.map (ev env)).map SV.den).toArray) w := by
    unfold execOp
    have := args_eval (a := a) hE args hk
    simp only [ho, resolve, Act.eval, Deferred.ofValue, Sem.run_bind, Sem.run_pure, Result.andThen_ok, invoke, Array.append_empty]
    rw [show (#[] ++ args.toArray.map a.eval : Array Value) = ((args.map (ev env)).map SV.den).toArray from by
      rw [List.map_toArray, this]; simp]
    exact callFunc_run f fn c hf hb hn _ w
  rw [hrun, Oper.upon_enter]
  refine hc.mono ?_
  rintro e w' ⟨v, u, x, rfl, hR, hx, hH'⟩
  exact ⟨v, u, x, hS.2 v u hR, rfl, hx, hH'⟩
theorem value_sound (X : Ctx P) {o : Oper} {Q : Exit → Act → World → Prop} (hE : EnvOk n env a) (hH : HSat w0 M H w) (t : Nat) (g : FuncId) (i b off : Nat) (ht : ev env (.tmp t) = .c (.fn g i b off)) (args : List Operand) (ts : Array TypeId)
    (ho : o.op = .call { callee := .value (.tmp t), args := args.toArray, argTypes := ts }) (ids : List Nat) (hk : (args.map (ev env)).all SV.known = true)
    (hS : (X.Γ g (args.map (ev env) ++ [.c (.loc i b off)]) (restrict H ids) d).side ∧ ∀ v u, (X.Γ g (args.map (ev env) ++ [.c (.loc i b off)]) (restrict H ids) d).R v u → K v u) : o.wp P a w (Post o.dst a w0 M H K) Q := by
  obtain ⟨fn, c, hf, hb, hn⟩ := (X.ok g).body _ _ _ hS.1
  have hc := (X.ok g).run _ _ H d w0 M w hS.1 (fun i e => restrict_some) hH
  unfold Oper.wp
  have hrun : (execOp a.eval o).run P w = .ok (.enter g ((args.map (ev env) ++ [SV.c (.loc i b off)]).map SV.den).toArray) w := by
    unfold execOp
    have := args_eval (a := a) hE args hk
    have hev := eval_c hE ht (by simp)
    simp only [ho, resolve, hev, C.den, Deferred.ofValue, Sem.run_bind, Sem.run_pure, Result.andThen_ok, invoke]
    rw [show ((#[] ++ args.toArray.map a.eval) ++ #[Value.pointer (some ⟨b, off, none⟩)] : Array Value) = ((args.map (ev env) ++ [SV.c (.loc i b off)]).map SV.den).toArray from by
      rw [List.map_toArray, this]; simp [SV.den, C.den]]
    exact callFunc_run g fn c hf hb hn _ w
  rw [hrun, Oper.upon_enter]
  refine hc.mono ?_
  rintro e w' ⟨v, u, x, rfl, hR, hx, hH'⟩
  exact ⟨v, u, x, hS.2 v u hR, rfl, hx, hH'⟩
theorem call_sound (X : Ctx P) {o : Oper} {Q : Exit → Act → World → Prop} (hE : EnvOk n env a) (hH : HSat w0 M H w) (c : Call) (ho : o.op = .call c) (ids : List Nat)
    (h : callT X.F X.Γ c.callee (calleeV c.callee (ev env)) (c.args.toList.map (ev env)) c.argTypes (restrict H ids) d K) : o.wp P a w (Post o.dst a w0 M H K) Q := by
  obtain ⟨callee, ⟨args⟩, ts⟩ := c
  cases callee with
  | invoke r m => exact h.elim
  | value f =>
    cases f with
    | func f => exact func_sound X hE hH f args ts ho ids h.1 h.2
    | tmp t =>
      simp only [callT, calleeV] at h
      split at h
      · rename_i g i b off hx
        exact value_sound X hE hH t g i b off hx args ts ho ids h.1 h.2
      · exact h.elim
    | const _ => exact h.elim
    | global _ => exact h.elim
  | builtin b =>
    cases b with
    | len => exact len_sound X.Fok hE hH args ts ho h
    | cap => exact cap_sound X.Fok hE hH args ts ho h
    | max => exact max_sound hE hH args ts ho h
    | min => exact min_sound hE hH args ts ho h
    | append =>
      simp only [callT] at h
      split at h
      · rename_i x y hx
        · obtain ⟨x1, y1, rfl, rfl, rfl⟩ := map_two hx
          exact append_sound X.Fok hE hH x1 y1 ts h.1 ho ids h.2
      · exact h.elim
    | _ => exact h.elim
theorem flat_rep (z : List C) : ∀ n : Nat, (List.replicate n z).flatten.length = n * z.length ∧ ∀ k, k < n * z.length → (List.replicate n z).flatten[k]? = z[k % z.length]?
  | 0 => ⟨by simp, fun k h => by omega⟩
  | n + 1 => by
    obtain ⟨h1, h2⟩ := flat_rep z n
    rw [List.replicate_succ, List.flatten_cons]
    refine ⟨by rw [List.length_append, h1, Nat.add_mul]; omega, fun k hk => ?_⟩
    by_cases hz : k < z.length
    · rw [List.getElem?_append_left hz, Nat.mod_eq_of_lt hz]
    · rw [List.getElem?_append_right (by omega), h2 _ (by rw [Nat.add_mul] at hk; omega), ← Nat.mod_eq_sub_mod (by omega)]
theorem make_sound (hF : TTok P F) {o : Oper} {Q : Exit → Act → World → Prop} (hE : EnvOk n env a) (hH : HSat w0 M H w) (t : TypeId) (x y : Operand) (ho : o.op = .makeSlice t x y)
    (h : makeT F t (ev env x) (ev env y) d K) : o.wp P a w (Post o.dst a w0 M H K) Q := by
  unfold makeT at h
  split at h
  · rename_i e sz bytes zs k1 m k2 m' hu hx hy
    split at h
    case h_2 => exact h.elim
    rename_i z hz
    obtain ⟨hzl, hpos, rfl, ⟨h0, hb, hm⟩, hK⟩ := h
    have hz := hF.ze_ hz
    have hu := hF.sl_ hu
    unfold slT at hu
    split at hu
    · rename_i e' hd
      split at hu
      · rename_i inf hi
        obtain ⟨z0, hz0, hms⟩ := Option.map_eq_some_iff.1 hu
        injection hms with he hms
        injection hms with hs hms
        injection hms with hb' hz'
        subst he
        unfold zeroT at hz
        obtain ⟨z1, hz1, hz2⟩ := Option.map_eq_some_iff.1 hz
        obtain ⟨i1, hi1, hz3⟩ := Option.bind_eq_some_iff.1 hz1
        rw [hi] at hi1
        injection hi1 with hi1
        subst hi1
        rw [hz0] at hz3
        injection hz3 with hz3
        subst hz3
        have ex := eval_v hE hx
        have ey := eval_v hE hy
        have hr := run_make (P := P) w t e' inf z0 hd hi hz0 k1 k2 m m h0 (Int.le_refl _) (by rw [hb']; rw [Int.mul_comm]; exact hb) (by have := hm; simp only [maxLen] at this; omega)
        have hsz : z0.cells.size = sz := by rw [← hzl, ← hz2]; simp
        refine wp_made (w' := w.alloc (.cells (madeCells z0.cells (m.toNat * inf.size)) e')) _ _ (.slice (some ⟨w.heap.size, 0, none⟩) m.toNat m.toNat) (fun _ => rfl) (hK (some ⟨w.heap.size, 0, none⟩)) ?_ ?_
        · obtain ⟨f1, f2⟩ := flat_rep z m.toNat
          have hcells : (madeCells z0.cells (m.toNat * inf.size)).toList = ((List.replicate m.toNat z).flatten).map C.den := by
            apply List.ext_getElem?
            intro j
            rw [List.getElem?_map]
            by_cases hj : j < m.toNat * sz
            · rw [f2 j (by rw [hzl]; exact hj), hzl]
              have hlt : j % sz < z.length := by rw [hzl]; exact Nat.mod_lt _ hpos
              rw [List.getElem?_eq_getElem hlt]
              simp only [Array.getElem?_toList, madeCells, hs]
              rw [Array.getElem?_map]
              have : (Array.range (m.toNat * sz))[j]? = some j := by simp [hj]
              rw [this]
              simp only [Option.map_some, hsz]
              congr 1
              have e1 : (z.map C.den)[j % sz]? = z0.cells[j % sz]? := by rw [← hz2, map_den_cOf]; simp
              have hlt2 : j % sz < z0.cells.size := by rw [hsz]; exact Nat.mod_lt _ hpos
              rw [List.getElem?_map, List.getElem?_eq_getElem hlt, Array.getElem?_eq_getElem hlt2] at e1
              simp only [Option.map_some, Option.some.injEq] at e1
              rw [e1]
              simp [hlt2]
            · rw [List.getElem?_eq_none (l := (List.replicate m.toNat z).flatten) (by rw [f1, hzl]; omega), Array.getElem?_toList, Array.getElem?_eq_none (by rw [size_madeCells, hs]; omega)]
              rfl
          have := hH.newRow (d := e') none (fun _ _ => trivial) (w.alloc (.cells (madeCells z0.cells (m.toNat * inf.size)) e')) (madeCells z0.cells (m.toNat * inf.size)) rfl rfl rfl rfl d m.toNat e' sz m.toNat (List.replicate m.toNat z).flatten rfl (by rw [f1, hzl]) (Nat.le_refl _) (by omega) (by rw [size_madeCells, hs]) (by rw [hcells]; exact List.take_of_length_le (by rw [List.length_map, f1, hzl]; exact Nat.le_refl _))
          simpa [upds, erase] using this
        · unfold execOp
          simp [ho, ex, ey, hr]
      · cases hu
    · cases hu
  · exact h.elim
theorem op_sound (X : Ctx P) (o : Oper) {Q : Exit → Act → World → Prop} (hE : EnvOk n env a) (hH : HSat w0 M H w) (ids : List Nat)
    (h : opT X.F X.Γ o.op (ev env) (restrict H ids) d K) : o.wp P a w (Post o.dst a w0 M H K) Q := by
  have hmove : ∀ x, K (ev env x) [] → (execOp a.eval o).run P w = .ok (.value (a.eval x)) w → o.wp P a w (Post o.dst a w0 M H K) Q := fun x hK hr =>
    wp_pure hH _ _ hK (fun hk => eval_ev hE x hk) hr
  cases ho : o.op with
  | move x => rw [ho] at h; exact hmove x h (by unfold execOp; rw [ho]; rfl)
  | assign x => rw [ho] at h; exact hmove x h (by unfold execOp; rw [ho]; rfl)
  | pick c x y =>
    rw [ho] at h
    simp only [opT] at h
    split at h
    · rename_i t hc
      have ec := eval_v hE hc
      cases t with
      | true => exact hmove x (h.1 rfl) (by unfold execOp; simp [ho, ec, asBool])
      | false => exact hmove y (h.2 rfl) (by unfold execOp; simp [ho, ec, asBool])
    · exact h.elim
  | alloc t => rw [ho] at h; exact alloc_sound X.Fok hE hH t ho h
  | box t x => rw [ho] at h; exact box_sound hE hH t x ho h
  | build t ps => rw [ho] at h; exact build_sound X.Fok hE hH t ps ho h
  | buildSlice t m ps => rw [ho] at h; exact buildSlice_sound X.Fok hE hH t m ps ho h
  | load t x => rw [ho] at h; exact load_sound X.Fok hE hH t x ho ids h
  | store t x y => rw [ho] at h; exact store_sound X.Fok hE hH t x y ho ids h
  | nilCheck x =>
    rw [ho] at h
    simp only [opT] at h
    split at h
    · rename_i i b off hx
      have ex := eval_c hE hx (by simp)
      exact wp_pure hH _ _ h (fun _ => rfl) (by unfold execOp; simp [ho, ex, C.den, SV.den])
    · rename_i i A k hx
      have ex := eval_c hE hx (by simp)
      exact wp_pure hH _ _ h (fun _ => rfl) (by unfold execOp; simp [ho, ex, C.den, SV.den])
    · exact h.elim
  | binOp op t x y t' => rw [ho] at h; exact bin_sound X.Fok hE hH op t t' x y ho h
  | unOp op t x =>
    rw [ho] at h
    cases op with
    | not =>
      simp only [opT] at h
      split at h
      · rename_i b hx
        have ex := eval_v hE hx
        exact wp_pure hH _ _ h (fun _ => rfl) (by unfold execOp; simp [ho, ex, C.den, SV.den, Op.unary])
      · exact h.elim
    | neg =>
      simp only [opT] at h
      split at h
      · rename_i k m hx
        have ex := eval_v hE hx
        exact wp_pure hH _ _ h (fun _ => rfl) (by unfold execOp; simp [ho, ex, C.den, SV.den, Op.unary, Op.intArith])
      · exact h.elim
    | _ => exact h.elim
  | convert s t x =>
    rw [ho] at h
    simp only [opT] at h
    split at h
    · rename_i k1 m k k2 hx hk hs
      have ex := eval_v hE hx
      have hk := X.Fok.int_ hk
      have hs := X.Fok.int_ hs
      have h1 : P.underlying t = some (.int k) := by unfold intT at hk; split at hk <;> simp_all
      have h2 : P.underlying s = some (.int k2) := by unfold intT at hs; split at hs <;> simp_all
      exact wp_pure hH _ _ h (fun _ => rfl) (by unfold execOp; simp [ho, ex, C.den, SV.den, convert, run_underlying h1, run_underlying h2, Conv.intToInt])
    · exact h.elim
  | fieldAddr t x f => rw [ho] at h; exact field_sound X.Fok hE hH t x f ho h
  | indexAddr t x y => rw [ho] at h; exact index_sound X.Fok hE hH t x y ho ids h
  | slice t x lo hi mx => rw [ho] at h; exact slice_sound X.Fok hE hH t x lo hi mx ho ids h
  | makeFunc fn fst caps =>
    rw [ho] at h
    simp only [opT] at h
    split at h
    · rename_i g x hf hc
      split at h
      · rename_i i b off hx
        have ex := eval_c hE hx (by simp)
        obtain ⟨fl⟩ := fst
        obtain ⟨cl⟩ := caps
        simp only at hf hc
        subst hf hc
        refine wp_pure hH _ _ h (fun _ => rfl) ?_
        unfold execOp
        simp [ho, Instr.makeFunc, ex, C.den, SV.den]
      · exact h.elim
    · exact h.elim
  | makeSlice t x y => rw [ho] at h; exact make_sound X.Fok hE hH t x y ho h
  | extract x i =>
    rw [ho] at h
    simp only [opT] at h
    split at h
    · rename_i l hx
      have ex : a.eval x = .tuple (l.map SV.den0).toArray := by
        rw [eval_ev hE x (by rw [hx]; rfl), hx]; rfl
      split at h
      · exact h.elim
      · rename_i s hs hl
        refine wp_pure hH _ s.den0 h (fun _ => by cases s <;> first | rfl | exact absurd rfl (hs _)) ?_
        unfold execOp
        have : (l.map SV.den0).toArray[i]? = some s.den0 := by simp [hl]
        simp only [ho, ex, Instr.extract, this]
        rfl
      · exact h.elim
    · exact h.elim
  | call c => rw [ho] at h; exact call_sound X hE hH c ho ids h
  | _ => rw [ho] at h; exact h.elim
end Go.Proofs.YtbcicjmepojlnaaGreat.Eng
