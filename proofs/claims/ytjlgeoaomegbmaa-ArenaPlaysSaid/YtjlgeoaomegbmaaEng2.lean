/- Tracked blocks over the world's steps; no condition. -/
import Derived.Test.YtjlgeoaomegbmaaEng1
namespace Go.Proofs.Ytjlgeoaomegbmaa.Eng
open Go Go.RowKit
set_option autoImplicit false

theorem cell_of_heap {w w' : World} {a : Addr} (h : w'.heap[a.block]? = w.heap[a.block]?) : w'.cell? a = w.cell? a := by
  unfold World.cell?
  rw [h]

theorem add_block (a : Addr) (n : Nat) : (a.add n).block = a.block := by unfold Addr.add; split <;> rfl
theorem add_add (a : Addr) (i j : Nat) : (a.add i).add j = a.add (i + j) := by
  unfold Addr.add
  by_cases hi : i = 0 <;> by_cases hj : j = 0 <;> simp [hi, hj, Nat.add_assoc]

theorem Ent.holds_keep {e : Ent} {w w' : World} (h : e.holds w) (hs : w.heap.size ≤ w'.heap.size) (hb : ∀ g, e.block = some g → w'.heap[g]? = w.heap[g]?) : e.holds w' := by
  cases e with
  | blk b t cs => exact (hb b rfl).trans h
  | row A c t size n xs =>
    refine ⟨h.1, h.2.1, fun hc => ?_⟩
    obtain ⟨g, cur, rfl, hg, rest⟩ := h.2.2 hc
    refine ⟨g, cur, rfl, ?_, rest⟩
    rw [hb g (by simp [Ent.block]; omega)]
    exact hg
  | rd A size n xs =>
    refine ⟨h.1, fun hx => ?_⟩
    obtain ⟨a, rfl, hlt, hc⟩ := h.2 hx
    refine ⟨a, rfl, by omega, fun j u hu => ?_⟩
    rw [cell_of_heap (w := w) (by rw [add_block]; exact hb a.block (by simp [Ent.block, hx]))]
    exact hc j u hu

def erase (H : Heap) (src : Option Nat) : Heap := match src with
  | some i => upd H i none
  | none => H

theorem Fr.refl (w : World) (M : Nat → Prop) : Fr w M w := ⟨rfl, rfl, rfl, Nat.le_refl _, fun _ _ _ => rfl⟩

theorem Fr.below {w0 w : World} {M : Nat → Prop} (h : Fr w0 M w) (hM : ∀ k, ¬ M k) : Below w0.heap.size w0 w := ⟨h.os, h.tape, h.output, h.size, fun k hk => h.block k hk (hM k)⟩

/-- One step of the world: the blocks of D (the block of the thing at src, if any) have changed, others not; at dst stands what is new. -/
theorem HSat.step {w0 w w' : World} {M : Nat → Prop} {H : Heap} (h : HSat w0 M H w) (src : Option Nat) (D : Nat → Prop)
    (hos : w'.os = w.os) (htape : w'.tape = w.tape) (hout : w'.output = w.output) (hsz : w.heap.size ≤ w'.heap.size)
    (hblk : ∀ k, k < w.heap.size → ¬ D k → w'.heap[k]? = w.heap[k]?)
    (hD : ∀ k, D k → k < w.heap.size → ∃ i e, src = some i ∧ H i = some e ∧ e.mut = true ∧ e.block = some k)
    (dst : Nat) (e' : Ent) (hh : e'.holds w') (hlt : ∀ g, e'.block = some g → g < w'.heap.size ∧ (D g ∨ w.heap.size ≤ g)) :
    HSat w0 M (upd (erase H src) dst (some e')) w' := by
  have hold : ∀ j e, (erase H src) j = some e → H j = some e ∧ src ≠ some j := by
    intro j e hj
    cases src with
    | none => exact ⟨hj, by simp⟩
    | some i =>
      simp only [erase, upd_apply] at hj
      split at hj
      · cases hj
      · rename_i hne
        exact ⟨hj, fun h => hne (by injection h with h; exact h.symm)⟩
  have hfar : ∀ j e, H j = some e → src ≠ some j → ∀ g, e.block = some g → ¬ D g := by
    intro j e hj hne g hg hDg
    obtain ⟨i, ei, hi, hHi, hm, hb⟩ := hD g hDg (h.lt j e hj g hg)
    exact h.sep i j ei e (fun e => hne (by rw [hi, e])) hHi hj hm g hb hg
  refine ⟨⟨hos.trans h.fr.os, htape.trans h.fr.tape, hout.trans h.fr.output, Nat.le_trans h.fr.size hsz, fun k hk hM => ?_⟩, ?_, ?_, ?_, ?_⟩
  · have hlt := Nat.lt_of_lt_of_le hk h.fr.size
    rw [hblk k hlt (fun hDk => ?_)]
    · exact h.fr.block k hk hM
    · obtain ⟨i, e, _, hHi, hm, hb⟩ := hD k hDk hlt
      rcases h.own i e hHi hm k hb with h1 | h1
      · omega
      · exact hM h1
  · intro j e hj
    simp only [upd_apply] at hj
    split at hj
    · injection hj with hj; subst hj; exact hh
    · obtain ⟨hj, hne⟩ := hold j e hj
      exact Ent.holds_keep (h.holds j e hj) hsz fun g hg => hblk g (h.lt j e hj g hg) (hfar j e hj hne g hg)
  · intro j e hj g hg
    simp only [upd_apply] at hj
    split at hj
    · injection hj with hj; subst hj; exact (hlt g hg).1
    · obtain ⟨hj, hne⟩ := hold j e hj
      exact Nat.lt_of_lt_of_le (h.lt j e hj g hg) hsz
  · intro j e hj hm g hg
    simp only [upd_apply] at hj
    split at hj
    · injection hj with hj; subst hj
      rcases (hlt g hg).2 with h1 | h1
      · by_cases hg' : g < w.heap.size
        · obtain ⟨i, ei, _, hHi, hmi, hb⟩ := hD g h1 hg'
          exact h.own i ei hHi hmi g hb
        · exact .inl (Nat.le_trans h.fr.size (Nat.le_of_not_lt hg'))
      · exact .inl (Nat.le_trans h.fr.size h1)
    · obtain ⟨hj, hne⟩ := hold j e hj
      exact h.own j e hj hm g hg
  · intro i j ei ej hij hi hj hm g hgi hgj
    simp only [upd_apply] at hi hj
    split at hi
    · rename_i hid
      injection hi with hi; subst hi
      split at hj
      · rename_i hjd; exact hij (hid.trans hjd.symm)
      · obtain ⟨hj, hne⟩ := hold j ej hj
        rcases (hlt g hgi).2 with h1 | h1
        · exact hfar j ej hj hne g hgj h1
        · exact absurd (h.lt j ej hj g hgj) (by omega)
    · obtain ⟨hi, hne⟩ := hold i ei hi
      split at hj
      · injection hj with hj; subst hj
        rcases (hlt g hgj).2 with h1 | h1
        · exact hfar i ei hi hne g hgi h1
        · exact absurd (h.lt i ei hi g hgi) (by omega)
      · obtain ⟨hj, hnej⟩ := hold j ej hj
        exact h.sep i j ei ej hij hi hj hm g hgi hgj

/-- A step that changes no old block. -/
theorem HSat.grow {w0 w w' : World} {M : Nat → Prop} {H : Heap} (h : HSat w0 M H w)
    (hos : w'.os = w.os) (htape : w'.tape = w.tape) (hout : w'.output = w.output) (hsz : w.heap.size ≤ w'.heap.size)
    (hblk : ∀ k, k < w.heap.size → w'.heap[k]? = w.heap[k]?) : HSat w0 M H w' :=
  ⟨⟨hos.trans h.fr.os, htape.trans h.fr.tape, hout.trans h.fr.output, Nat.le_trans h.fr.size hsz, fun k hk hM => (hblk k (Nat.lt_of_lt_of_le hk h.fr.size)).trans (h.fr.block k hk hM)⟩,
   fun i e hi => Ent.holds_keep (h.holds i e hi) hsz fun g hg => hblk g (h.lt i e hi g hg),
   fun i e hi g hg => Nat.lt_of_lt_of_le (h.lt i e hi g hg) hsz, h.own, h.sep⟩

theorem HSat.below {w0 w w' : World} {M : Nat → Prop} {H : Heap} (h : HSat w0 M H w) (hb : Below w.heap.size w w') : HSat w0 M H w' :=
  h.grow hb.os hb.tape hb.output hb.size fun k hk => hb.block k hk

theorem HSat.drew {w0 w : World} {M : Nat → Prop} {H : Heap} (h : HSat w0 M H w) : HSat w0 M H w.drew := h.grow rfl rfl rfl (Nat.le_refl _) fun _ _ => rfl

/-- Fewer things are tracked. -/
theorem HSat.drop {w0 w : World} {M : Nat → Prop} {H H' : Heap} (h : HSat w0 M H w) (hs : ∀ i e, H' i = some e → H i = some e) : HSat w0 M H' w :=
  ⟨h.fr, fun i e hi => h.holds i e (hs i e hi), fun i e hi => h.lt i e (hs i e hi), fun i e hi => h.own i e (hs i e hi),
   fun i j ei ej hij hi hj => h.sep i j ei ej hij (hs i ei hi) (hs j ej hj)⟩

theorem HSat.forget {w0 w : World} {M : Nat → Prop} {H : Heap} (h : HSat w0 M H w) (i : Nat) : HSat w0 M (upd H i none) w :=
  h.drop fun j e hj => by
    simp only [upd_apply] at hj
    split at hj
    · cases hj
    · exact hj

/-- What is only read may be told anew, out of a thing that is tracked (which is then only read, too). -/
theorem HSat.part {w0 w : World} {M : Nat → Prop} {H : Heap} (h : HSat w0 M H w) (src dst : Nat) (es e' : Ent) (hs : H src = some es) (hm : es.mut = false)
    (hh : e'.holds w) (hme : e'.mut = false) (hb : ∀ g, e'.block = some g → es.block = some g) : HSat w0 M (upd H dst (some e')) w := by
  refine ⟨h.fr, ?_, ?_, ?_, ?_⟩
  · intro j e hj
    simp only [upd_apply] at hj
    split at hj
    · injection hj with hj; subst hj; exact hh
    · exact h.holds j e hj
  · intro j e hj g hg
    simp only [upd_apply] at hj
    split at hj
    · injection hj with hj; subst hj; exact h.lt src es hs g (hb g hg)
    · exact h.lt j e hj g hg
  · intro j e hj hmj g hg
    simp only [upd_apply] at hj
    split at hj
    · injection hj with hj; subst hj; rw [hme] at hmj; cases hmj
    · exact h.own j e hj hmj g hg
  · intro i j ei ej hij hi hj hmi g hgi hgj
    simp only [upd_apply] at hi hj
    split at hi
    · injection hi with hi; subst hi; rw [hme] at hmi; cases hmi
    · split at hj
      · injection hj with hj; subst hj
        by_cases his : i = src
        · subst his
          rw [hs] at hi; injection hi with hi; subst hi
          rw [hm] at hmi; cases hmi
        · exact h.sep i src ei es his hi hs hmi g hgi (hb g hgj)
      · exact h.sep i j ei ej hij hi hj hmi g hgi hgj

/-- A thing is told anew at its own place: it holds, lies where the old one lay, and is no more than it. -/
theorem HSat.retell {w0 w : World} {M : Nat → Prop} {H : Heap} (h : HSat w0 M H w) (src dst : Nat) (es e' : Ent) (hs : H src = some es)
    (hh : e'.holds w) (hme : e'.mut = true → es.mut = true) (hb : ∀ g, e'.block = some g → es.block = some g) : HSat w0 M (upd (upd H src none) dst (some e')) w := by
  have hold : ∀ j e, upd H src none j = some e → H j = some e ∧ j ≠ src := by
    intro j e hj
    simp only [upd_apply] at hj
    split at hj
    · cases hj
    · rename_i hne; exact ⟨hj, hne⟩
  refine ⟨h.fr, ?_, ?_, ?_, ?_⟩
  · intro j e hj
    rw [upd_apply] at hj
    split at hj
    · injection hj with hj; subst hj; exact hh
    · exact h.holds j e (hold j e hj).1
  · intro j e hj g hg
    rw [upd_apply] at hj
    split at hj
    · injection hj with hj; subst hj; exact h.lt src es hs g (hb g hg)
    · exact h.lt j e (hold j e hj).1 g hg
  · intro j e hj hmj g hg
    rw [upd_apply] at hj
    split at hj
    · injection hj with hj; subst hj; exact h.own src es hs (hme hmj) g (hb g hg)
    · exact h.own j e (hold j e hj).1 hmj g hg
  · intro i j ei ej hij hi hj hmi g hgi hgj
    rw [upd_apply] at hi hj
    split at hi
    · injection hi with hi; subst hi
      split at hj
      · rename_i h1 h2; exact hij (h1.trans h2.symm)
      · obtain ⟨hj, hne⟩ := hold j ej hj
        exact h.sep src j es ej (Ne.symm hne) hs hj (hme hmi) g (hb g hgi) hgj
    · obtain ⟨hi, hnei⟩ := hold i ei hi
      split at hj
      · injection hj with hj; subst hj
        exact h.sep i src ei es hnei hi hs hmi g hgi (hb g hgj)
      · exact h.sep i j ei ej hij hi (hold j ej hj).1 hmi g hgi hgj

end Go.Proofs.Ytjlgeoaomegbmaa.Eng
