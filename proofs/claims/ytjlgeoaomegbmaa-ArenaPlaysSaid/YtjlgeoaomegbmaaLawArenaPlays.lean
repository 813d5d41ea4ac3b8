/- The law ArenaPlays returns true for every input, and its arguments read as before: no condition. -/
import Derived.Test.YtjlgeoaomegbmaaRows
import Derived.Test.YtjlgeoaomegbmaaPlays2
import Derived.Test.YtjlgeoaomegbmaaRowSl
import Derived.WalkKit
import Derived.ProofKit
import Derived.OpenShut
import Derived.ShutString
import Derived.ChangeOld
import Derived.Below
import Derived.SizedLaws
import Derived.Carry
namespace Go.Proofs.Ytjlgeoaomegbmaa.arenaPlays
open Go Go.ChangeShapes Go.WideShapes Go.ChangeAt Go.RowKit Go.Proofs.Ytjlgeoaomegbmaa.Eng
set_option linter.unusedVariables false
theorem own : ownKnob Try.prog.godebug = none := by kernel_rfl
theorem laid : laidOutB Try.prog = true := by kernel_rfl
set_option maxRecDepth 100000 in
theorem lifted (os : Os) (started : os.Started) (H : Type) (enc : TypeId × Value → H) :
    ReturnsInHanded {} Try.checked os 16 .any (Rows.arenaPlaysSpec.pre6 enc Try.prog Try.f16 Rows.arenaPlaysRow.domain false) (Rows.arenaPlaysSpec.post enc Try.prog Try.f16 false true false false) := by
  refine returnsInHanded_of_change_sized (C := Try.checked) own started (by kernel_rfl) Try.func16
    (ChangeSpec.witness6 (enc := enc) (C := Try.checked) false ⟨#[], #[.int .u8 0, .slice none 0 0], []⟩ 8 (by kernel_rfl) (by kernel_rfl) (by kernel_rfl) (by kernel_rfl)) ?_
  intro W base args ds gs before hval0 hW hcnd hsz0 _
  have hlt := hW.lt
  have hval : ∀ (j : Nat) t v, Try.f16.params[j]? = some t → args[j]? = some v → Value.okWide Try.prog W .any base t v := hval0
  have hW' := hW
  obtain ⟨p, q, hA0, hV, rfl, hfz, hnd⟩ := hW
  have hA : DataW.TrodAll enc Try.prog W 0 (fun _ => true) true Try.f16.params.toList args.toList ds p := hA0
  rw [Try.params16] at hA hval
  obtain ⟨v0, vs0, d0, ds0, p0, q0, hargs, rfl, rfl, h0, r0⟩ := trodAll_cons hA
  obtain ⟨v1, vs1, d1, ds1, p1, q1, rfl, rfl, rfl, h1, r1⟩ := trodAll_cons r0
  obtain ⟨rfl, rfl, rfl⟩ := trodAll_nil r1
  obtain rfl : args = #[v0, v1] := by cases args; simp_all
  obtain ⟨rfl, rfl⟩ := trodVars_none hV
  obtain ⟨n0, rfl, g0⟩ := val_u8 Try.underlying5 (hval 0 5 v0 rfl rfl)
  obtain ⟨A1, c1, l1, rfl, g1, m1⟩ := trod_sl (f := encOp) (z := 4) (good := fun o => 0 ≤ o.fr ∧ o.fr ≤ 255) (fun _ => rfl) (by decide) Try.underlying71 (by kernel_rfl) (hval 1 71 v1 rfl rfl) (fun n cs y ht => trod_op Try.underlying73 (by kernel_rfl) (by kernel_rfl) Try.underlying5 Try.underlying3 Try.underlying2 Try.underlying5 ht) h1
  have hl0 : ∀ x ∈ p0, x.block < W.heap.size := fun x hx => hlt x (by simp [hx])
  have hl1 : ∀ x ∈ p1, x.block < W.heap.size := fun x hx => hlt x (by simp [hx])
  refine (k_plays n0 l1 A1 c1 W g1 m1).mono fun e W' ⟨he, bel⟩ => ?_
  subst he
  exact ⟨_, rfl, _, _, _, [], _, [], hW', trodAll_mk1 (shut_bool Try.underlying4 _), (trodAll_cons_mk (Below.trod laid (by kernel_rfl) (of_decide_eq_true (by kernel_rfl)) h0 bel hl0) (trodAll_cons_mk (Below.trod laid (by kernel_rfl) (of_decide_eq_true (by kernel_rfl)) h1 bel hl1) trodAll_mk0)), rfl, bel.frame _, fun h => by cases h⟩
theorem over : Rows.arenaPlaysRow.holds Try.pinned (OpenSpec.ofChange Rows.arenaPlaysSpec) :=
  OpenClaim.holds_of_wide 16 Try.f16 rfl rfl rfl rfl rfl rfl rfl ⟨rfl, rfl, rfl, rfl, rfl⟩ rfl rfl rfl rfl rfl (by kernel_rfl) Try.func16 (by kernel_rfl)
    (of_decide_eq_true (by kernel_rfl)) (by unfold Func.isWrapper; first | (rw [if_pos (by decide +kernel)]; kernel_rfl) | (rw [if_neg (by decide +kernel)]; exact ⟨rfl, rfl⟩))
    (fun os started H enc _ => lifted os started H enc)
theorem proved : Rows.ArenaPlaysSaid := over
end Go.Proofs.Ytjlgeoaomegbmaa.arenaPlays
namespace Go.Proofs.Ytjlgeoaomegbmaa
/-- The row, under a short name, for the claim. -/
theorem arenaPlays_holds : Rows.ArenaPlaysSaid := arenaPlays.proved
end Go.Proofs.Ytjlgeoaomegbmaa
