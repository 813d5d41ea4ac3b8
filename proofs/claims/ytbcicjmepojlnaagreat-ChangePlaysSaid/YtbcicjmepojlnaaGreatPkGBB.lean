/- Texts of this work, laid together: symbolic execution over the model, contracts of the program's functions, what they come to; conditions: as each says. -/
import Derived.Deep.Slices
import Derived.Deep.Fields
import Derived.ChangeSame
import Derived.Test.YtbcicjmepojlnaaGreatPkGAL
import Derived.Test.YtbcicjmepojlnaaGreatPkGAP
/- What an argument that is a slice of areas, of calls, of numbers tells: its things, one by one, as they lie; no condition. -/
namespace Go.Proofs.YtbcicjmepojlnaaGreat.Eng
open Go Go.RowKit Go.ChangeShapes Go.WideShapes Go.Deep
set_option autoImplicit false
set_option linter.unusedVariables false
section
variable {H : Type} {enc : TypeId × Value → H} {P : Program} {w : World} {base : Nat} {spare : Nat → Bool} {held : Bool} {fuel : Nat}
theorem cell_lt {a : Addr} {u : Value} (h : w.cell? a = some u) : a.block < w.heap.size := by
  unfold World.cell? at h
  cases hb : w.heap[a.block]? with
  | none => rw [hb] at h; simp at h
  | some o => exact (Array.getElem?_eq_some_iff.1 hb).1
theorem rd_of {X : Type} {f : X → List C} {z : Nat} (hz : ∀ x, (f x).length = z) (h0 : 0 < z) (a : Addr) (l : List X)
    (hc : ∀ (i : Nat) (x : X), l[i]? = some x → ∀ (o : Nat) (c : C), (f x)[o]? = some c → w.cell? (a.add (i * z + o)) = some c.den) : (Ent.rd (some a) z l.length (l.flatMap f)).holds w := by
  have hl := enc_len (f := f) hz l
  have key : ∀ (j : Nat) (u : Value), ((l.flatMap f).map C.den)[j]? = some u → w.cell? (a.add j) = some u := by
    intro j u hu
    rw [List.getElem?_map] at hu
    obtain ⟨c, hcj, rfl⟩ := Option.map_eq_some_iff.1 hu
    have hj : j < (l.flatMap f).length := (List.getElem?_eq_some_iff.1 hcj).1
    rw [hl] at hj
    have hi : j / z < l.length := Nat.div_lt_of_lt_mul (by rw [Nat.mul_comm]; exact hj)
    have hx : l[j / z]? = some l[j / z] := List.getElem?_eq_getElem hi
    have hjz : j / z * z + j % z = j := by rw [Nat.mul_comm]; exact Nat.div_add_mod j z
    have := enc_get hz l (j / z) _ (j % z) hx (Nat.mod_lt _ h0)
    rw [hjz, hcj] at this
    have h2 := hc (j / z) _ hx (j % z) c this.symm
    rw [hjz] at h2
    exact h2
  refine ⟨hl, fun hne => ⟨a, rfl, ?_, key⟩⟩
  have hpos : 0 < (l.flatMap f).length := List.length_pos_iff.2 hne
  have h1 := key 0 _ (by rw [List.getElem?_map, List.getElem?_eq_getElem hpos]; rfl)
  have := cell_lt h1
  rw [add_block] at this
  exact this
theorem trod_at {e : TypeId} {fs : Array Field} {cs : List Value} {x : DataW H × List MemPlace} (he : P.underlying e = some (.struct fs)) (hone : oneCellFields P fs = true) (hC : P.cellsOf e = fs.size)
    (h : DataW.trod enc P w base spare held fuel e cs = some x) : cs.length = fs.size ∧ ∀ (j : Nat) (f : Field), fs[j]? = some f → ∃ (v : Value) (n : Nat) (y : DataW H × List MemPlace), cs[j]? = some v ∧ DataW.trod enc P w base spare held n f.type [v] = some y := by
  obtain ⟨xs, n, _, _, hlen, hx, hf⟩ := DataW.trod_struct he h
  rw [hC] at hlen
  refine ⟨hlen, fun j f hj => ?_⟩
  obtain ⟨ho, hk⟩ := hone_of hone j f hj
  have hjl : j < fs.size := (Array.getElem?_eq_some_iff.1 hj).1
  have h1 := hf j f hj
  rw [ho, hk] at h1
  have h2 : (cs.drop j).take 1 = [cs[j]'(by omega)] := by
    rw [List.drop_eq_getElem_cons (by omega)]
    rfl
  rw [h2, List.getElem?_eq_getElem (by omega)] at h1
  exact ⟨_, n, _, List.getElem?_eq_getElem (by omega), h1⟩
theorem trod_i {t : TypeId} {k : IntKind} {v : Value} {n : Nat} {y : DataW H × List MemPlace} (ht : P.underlying t = some (.int k)) (h : DataW.trod enc P w base spare held n t [v] = some y) : ∃ m, v = .int k m ∧ (Lit.int k m).wf = true := by
  obtain ⟨m, h1, _, h3⟩ := DataW.trod_int ht h
  injection h1 with h1
  exact ⟨m, h1, h3⟩
theorem wf_in {m : Int} (h : (Lit.int .i64 m).wf = true) : In64 m := by
  simpa [Lit.wf, IntKind.min, IntKind.max, IntKind.signed, IntKind.bits, In64] using h
theorem trod_sl {X : Type} {f : X → List C} {z : Nat} (hz : ∀ x, (f x).length = z) (h0 : 0 < z) {good : X → Prop} {t e : TypeId} {r : Reach} {b0 : Nat} {v : Value} {d : DataW H} {p : List MemPlace} (ht : P.underlying t = some (.slice e)) (hC : P.cellsOf e = z)
    (hv : Value.okWide P w r b0 t v) (hx : ∀ (n : Nat) (cs : List Value) (y : DataW H × List MemPlace), DataW.trod enc P w base spare held n e cs = some y → ∃ x : X, cs = (f x).map C.den ∧ good x)
    (h : DataW.Trod enc P w base spare held t v d p) : ∃ (A : Option Addr) (c : Nat) (l : List X), v = .slice A l.length c ∧ (∀ x ∈ l, good x) ∧ (Ent.rd A z l.length (l.flatMap f)).holds w ∧ l.length ≤ c := by
  have hsl : (v = .slice none 0 0) ∨ ∃ a n c, v = .slice (some a) n c := by
    simp only [Value.okWide, ht, Cell.okWide] at hv
    cases v <;> simp_all [Cell.ok]
    rename_i A n c
    cases A with
    | none => 
      left
      match n, c, hv with
      | 0, 0, _ => simp
      | 0, c + 1, h => simp at h
      | n + 1, c, h => simp at h
    | some a => exact .inr ⟨a, rfl⟩
  obtain ⟨fuel, hf⟩ := h
  rcases hsl with rfl | ⟨a, n, c, rfl⟩
  · exact ⟨none, 0, [], rfl, by simp, ⟨by simp, fun h => absurd rfl h⟩, by simp⟩
  · rcases open_slice ht hf with ⟨h1, _⟩ | ⟨a', len, cap, m, n', D, Pl, hcs, _, hle, _, hm, _, hi⟩
    · simp [Value.cells] at h1
    · have : a = a' ∧ n = len ∧ c = cap := by simpa [Value.cells] using hcs
      obtain ⟨rfl, rfl, rfl⟩ := this
      have hnm : n ≤ m := by rw [hm]; split <;> omega
      have ex : ∀ i, i < n → ∃ x : X, good x ∧ ∀ (o : Nat) (q : C), (f x)[o]? = some q → w.cell? (a.add (i * z + o)) = some q.den := by
        intro i hin
        obtain ⟨cs', hc, ht'⟩ := hi i (by omega)
        obtain ⟨x, hx1, hg⟩ := hx _ _ _ ht'
        obtain ⟨_, hcl, hat⟩ := World.cells?_some hc
        refine ⟨x, hg, fun o q ho => ?_⟩
        have hol : o < z := by rw [← hz x]; exact (List.getElem?_eq_some_iff.1 ho).1
        have h2 := hat o (by rw [hC]; exact hol)
        rw [hC, Go.Proofs.YtbcicjmepojlnaaGreat.Eng.add_add, hx1, List.getElem?_map, ho] at h2
        exact h2
      have nonempty : n = 0 ∨ Nonempty X := by
        rcases Nat.eq_zero_or_pos n with h | h
        · exact .inl h
        · obtain ⟨x, _⟩ := ex 0 h
          exact .inr ⟨x⟩
      rcases nonempty with rfl | ⟨⟨x0⟩⟩
      · exact ⟨some a, c, [], rfl, by simp, ⟨by simp, fun h => absurd rfl h⟩, by simp⟩
      · have ex' : ∀ i, ∃ x : X, i < n → good x ∧ ∀ (o : Nat) (q : C), (f x)[o]? = some q → w.cell? (a.add (i * z + o)) = some q.den := by
          intro i
          by_cases hin : i < n
          · obtain ⟨x, hx⟩ := ex i hin
            exact ⟨x, fun _ => hx⟩
          · exact ⟨x0, fun h => absurd h hin⟩
        let g : Nat → X := fun i => Classical.choose (ex' i)
        have hg : ∀ i, i < n → good (g i) ∧ ∀ (o : Nat) (q : C), (f (g i))[o]? = some q → w.cell? (a.add (i * z + o)) = some q.den := fun i => Classical.choose_spec (ex' i)
        have hlen : ((List.range n).map g).length = n := by simp
        refine ⟨some a, c, (List.range n).map g, by rw [hlen], ?_, rd_of hz h0 a _ ?_, by rw [hlen]; exact hle⟩
        · intro x hx
          obtain ⟨i, hi, rfl⟩ := List.mem_map.1 hx
          exact (hg i (List.mem_range.1 hi)).1
        · intro i x hx o q ho
          have hin : i < n := by rw [← hlen]; exact (List.getElem?_eq_some_iff.1 hx).1
          rw [List.getElem?_map, List.getElem?_range hin] at hx
          injection hx with hx
          subst hx
          exact (hg i hin).2 o q ho
end
variable {P : Program} {w : World} {r : Reach} {base : Nat}
theorem true_of {P : Program} {f : FuncId} {vs : Array Value} {w : World} (h : Calls P f vs w fun e w' => ∃ v H', e = .returned v.den ∧ IsX (.val (.c (.v (.bool true)))) v H' ∧ HSat w (fun _ => False) H' w') : Calls P f vs w fun e w' => e = .returned (.bool true) ∧ Below w.heap.size w w' :=
  h.mono fun e w' ⟨v, H', h1, h2, h3⟩ => ⟨by rw [h1, h2.h]; rfl, h3.isBelow⟩
end Go.Proofs.YtbcicjmepojlnaaGreat.Eng
