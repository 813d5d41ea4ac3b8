/- The law GapAll returns true for every input, and its arguments read as before: no condition. -/
import Derived.Test.YtbcicjmepojlnaaRows
import Derived.WalkKit
import Derived.ProofKit
import Derived.OpenShut
import Derived.ShutString
import Derived.ChangeOld
import Derived.Below
import Derived.SizedLaws
import Derived.Carry
import Derived.Test.YtbcicjmepojlnaaPkYAA
import Derived.Test.YtbcicjmepojlnaaPkYAU
import Derived.Test.YtbcicjmepojlnaaPkYAY
/- The law GapAll returns true for every input, and its arguments read as before: no condition. -/
namespace Go.Proofs.Ytbcicjmepojlnaa.gapAll
open Go Go.ChangeShapes Go.WideShapes Go.ChangeAt Go.RowKit Go.Proofs.Ytbcicjmepojlnaa.Eng
set_option linter.unusedVariables false
set_option maxRecDepth 100000
theorem own : ownKnob Try.prog.godebug = none := by kernel_rfl
theorem laid : laidOutB Try.prog = true := by kernel_rfl
set_option maxRecDepth 100000 in
theorem lifted (os : Os) (started : os.Started) (H : Type) (enc : TypeId × Value → H) :
    ReturnsInHanded {} Try.checked os 4 .any (Rows.gapAllSpec.pre6 enc Try.prog Try.f4 Rows.gapAllRow.domain false) (Rows.gapAllSpec.post enc Try.prog Try.f4 false true false false) := by
  refine returnsInHanded_of_change_sized (C := Try.checked) own started (by kernel_rfl) Try.func4
    (ChangeSpec.witness6 (enc := enc) (C := Try.checked) false ⟨#[], #[.slice none 0 0], []⟩ 8 (by kernel_rfl) (by kernel_rfl) (by kernel_rfl) (by kernel_rfl)) ?_
  intro W base args ds gs before hval0 hW hcnd hsz0 _
  have hlt := hW.lt
  have hval : ∀ (j : Nat) t v, Try.f4.params[j]? = some t → args[j]? = some v → Value.okWide Try.prog W .any base t v := hval0
  have hW' := hW
  obtain ⟨p, q, hA0, hV, rfl, hfz, hnd⟩ := hW
  have hA : DataW.TrodAll enc Try.prog W 0 (fun _ => true) true Try.f4.params.toList args.toList ds p := hA0
  rw [Try.params4] at hA hval
  obtain ⟨v0, vs0, d0, ds0, p0, q0, hargs, rfl, rfl, h0, r0⟩ := trodAll_cons hA
  obtain ⟨rfl, rfl, rfl⟩ := trodAll_nil r0
  obtain rfl : args = #[v0] := by cases args; simp_all
  obtain ⟨rfl, rfl⟩ := trodVars_none hV
  obtain ⟨A0, c0, l0, rfl, g0, m0, r0c⟩ := trod_sl (f := encA) (z := 6) (good := InAr) (fun _ => rfl) (by decide) Try.underlying22 (by kernel_rfl) (hval 0 22 v0 rfl rfl) (fun n cs y ht => trod_ar Try.underlying53 (by kernel_rfl) (by kernel_rfl) Try.underlying2 Try.underlying2 Try.underlying3 Try.underlying4 Try.underlying3 Try.underlying2 ht) h0
  have hl0 : ∀ x ∈ p0, x.block < W.heap.size := fun x hx => hlt x (by simp [hx])
  refine (true_of (k_gapAll l0 A0 c0 r0c trivial W m0)).mono fun e W' ⟨he, bel⟩ => ?_
  subst he
  exact ⟨_, rfl, _, _, _, [], _, [], hW', trodAll_mk1 (shut_bool Try.underlying4 _), (trodAll_cons_mk (Below.trod laid (by kernel_rfl) (of_decide_eq_true (by kernel_rfl)) h0 bel hl0) trodAll_mk0), rfl, bel.frame _, fun h => by cases h⟩
theorem jf0 : (Rows.gapAllRow.wf (OpenSpec.ofChange Rows.gapAllSpec)) = true := by kernel_rfl
theorem jf1 : (laidOutB Try.pinned.checked.prog) = true := by kernel_rfl
theorem jf2 : (mapsRowed Try.pinned.checked.prog) = true := by kernel_rfl
theorem jf3 : (Try.f4.params.all (Try.pinned.checked.prog.readableRec ·)) = true := by kernel_rfl
theorem jf4 : (namedTie Try.pinned.checked.prog Rows.gapAllRow.named Rows.gapAllSpec.vars) = true := by kernel_rfl
theorem jf5 : ((Rows.gapAllRow.stops == [])) = true := by kernel_rfl
theorem jf6 : ((Try.pinned.checked.prog.stops == [])) = true := by kernel_rfl
theorem jf7 : ((Rows.gapAllRow.knobs == [])) = true := by kernel_rfl
theorem jf8 : ((Try.pinned.checked.prog.stopKnobs == [])) = true := by kernel_rfl
theorem jf9 : ((Rows.gapAllRow.inPlace == Try.pinned.checked.prog.inPlace 4)) = true := by kernel_rfl
theorem jf10 : ((Rows.gapAllRow.unfollowed == Try.pinned.checked.prog.unfollowed 4)) = true := by kernel_rfl
theorem jf11 : ((Rows.gapAllRow.recurses == Try.pinned.checked.prog.recurses 4)) = true := by kernel_rfl
theorem jf12 : ((Rows.gapAllRow.named == Try.pinned.checked.prog.varsNamed 4)) = true := by kernel_rfl
theorem jf13 : ((Rows.gapAllRow.maps == (Try.f4.params.toList ++ Rows.gapAllSpec.plain.varTypes Try.pinned.checked.prog).any (Try.pinned.checked.prog.mapsRec ·))) = true := by kernel_rfl
theorem jf14 : ((Rows.gapAllRow.ifaces == (Try.f4.params.toList ++ Rows.gapAllSpec.plain.varTypes Try.pinned.checked.prog).any (Try.pinned.checked.prog.ifacesRec ·))) = true := by kernel_rfl
theorem jf15 : ((Rows.gapAllRow.mapsOut == Try.pinned.checked.prog.mapsAmong Try.f4.resultTypes.toList)) = true := by kernel_rfl
theorem jf16 : ((Rows.gapAllRow.loops == (Try.f4.params.toList ++ Rows.gapAllSpec.plain.varTypes Try.pinned.checked.prog).any (Try.pinned.checked.prog.loopsFrom ·))) = true := by kernel_rfl
theorem jf17 : ((Rows.gapAllRow.wideKeys == (Try.f4.params.toList ++ Rows.gapAllSpec.plain.varTypes Try.pinned.checked.prog ++ Try.f4.resultTypes.toList).any (Try.pinned.checked.prog.wideKeysFrom ·))) = true := by kernel_rfl
theorem jf18 : (Rows.gapAllSpec.vars.all (Try.pinned.checked.prog.varReadable ·)) = true := by kernel_rfl
theorem jf19 : (Try.f4.resultTypes.all (fun t => Try.pinned.checked.prog.readableRec t && decide (t < Try.pinned.checked.prog.types.size))) = true := by kernel_rfl
theorem jf20 : ((Rows.gapAllRow.ifacesOut == Try.f4.resultTypes.toList.any (Try.pinned.checked.prog.ifacesRec ·))) = true := by kernel_rfl
theorem jf21 : ((Rows.gapAllRow.loopsOut == Try.f4.resultTypes.toList.any (Try.pinned.checked.prog.loopsFrom ·))) = true := by kernel_rfl
theorem jf22 : ((Rows.gapAllRow.plainKeys == Try.pinned.checked.prog.plainKeys)) = true := by kernel_rfl
theorem jf23 : (Rows.gapAllRow.shortTexts.isNone) = true := by kernel_rfl
theorem jf24 : (Try.pinned.checked.prog.stopsHeard) = true := by kernel_rfl
theorem jf25 : (Try.pinned.checked.prog.mayEnter) = true := enter_is
theorem jf26 : ((Rows.gapAllRow.lifted == Try.pinned.checked.prog.liftsFinal)) = true := by rw [show Try.pinned.checked.prog.liftsFinal = false from lifts_is]; rfl
theorem jf27 : ((Try.pinned.checked.prog.make == some Rows.gapAllRow.make)) = true := by rw [show Try.pinned.checked.prog.make = some .cut from make_is]; rfl
theorem jf28 : ((Rows.gapAllRow.kinds == (if Rows.gapAllRow.domain.isEmpty then [] else Try.f4.params.toList.map fun t => match Try.pinned.checked.prog.underlying t with | some (.int k) => some k | _ => none))) = true := by kernel_rfl
theorem jf29 : ((Rows.gapAllRow.pinned == Rows.gapAllRow.pinnedBy)) = true := by kernel_rfl
theorem jf30 : ((Rows.gapAllRow.veiled == (Try.f4.params.toList ++ Rows.gapAllSpec.plain.varTypes Try.pinned.checked.prog ++ Try.f4.resultTypes.toList).any (Try.pinned.checked.prog.veiledRec ·))) = true := by kernel_rfl
theorem jf31 : (Rows.gapAllRow.veiledFits Try.pinned.checked.prog Try.f4.params.toList (Try.f4.params.toList ++ Rows.gapAllSpec.plain.varTypes Try.pinned.checked.prog ++ Try.f4.resultTypes.toList)) = true := by kernel_rfl
theorem joined : joinedFacts Try.pinned.checked.prog 4 Try.f4 Rows.gapAllSpec Rows.gapAllRow = true := by
  unfold joinedFacts
  exact (and_mk (and_mk (and_mk (and_mk (and_mk (and_mk (and_mk (and_mk (and_mk (and_mk (and_mk (and_mk (and_mk (and_mk (and_mk (and_mk (and_mk (and_mk (and_mk (and_mk (and_mk (and_mk (and_mk (and_mk (and_mk (and_mk (and_mk (and_mk (and_mk (and_mk (and_mk jf0 jf1) jf2) jf3) jf4) jf5) jf6) jf7) jf8) jf9) jf10) jf11) jf12) jf13) jf14) jf15) jf16) jf17) jf18) jf19) jf20) jf21) jf22) jf23) jf24) jf25) jf26) jf27) jf28) jf29) jf30) jf31)
theorem over : Rows.gapAllRow.holds Try.pinned (OpenSpec.ofChange Rows.gapAllSpec) :=
  OpenClaim.holds_of_wide 4 Try.f4 rfl rfl rfl rfl rfl rfl rfl ⟨rfl, rfl, rfl, rfl, rfl⟩ rfl rfl rfl rfl rfl (by kernel_rfl) Try.func4 joined
    (of_decide_eq_true (by kernel_rfl)) (by unfold Func.isWrapper; first | (rw [if_pos (by decide +kernel)]; kernel_rfl) | (rw [if_neg (by decide +kernel)]; exact ⟨rfl, rfl⟩))
    (fun os started H enc _ => lifted os started H enc)
theorem proved : Rows.GapAllSaid := over
end Go.Proofs.Ytbcicjmepojlnaa.gapAll
namespace Go.Proofs.Ytbcicjmepojlnaa
theorem gapAll_holds : Rows.GapAllSaid := gapAll.proved
end Go.Proofs.Ytbcicjmepojlnaa
