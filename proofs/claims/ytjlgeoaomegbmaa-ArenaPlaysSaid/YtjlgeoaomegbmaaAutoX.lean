/- What a frozen row is the code of; no condition. -/
import Derived.Test.YtjlgeoaomegbmaaNewR
import Derived.Test.YtjlgeoaomegbmaaLiveP
import Derived.Test.YtjlgeoaomegbmaaArenR
import Derived.Test.YtjlgeoaomegbmaaArena3
import Derived.Test.YtjlgeoaomegbmaaArena4

namespace Go.Proofs.Ytjlgeoaomegbmaa.Eng
open Go Go.RowKit
theorem LookX.auto {X Y : Type} {enc : X → Y} {κ : Kp} (hκ : κ = kid) {x : X} {K : X → Prop} (hK : K (κ _ x)) : LookX enc (κ _ (enc x)) K := by
  subst hκ
  exact ⟨x, rfl, hK⟩
theorem LookX.autoGV {κ : Kp} (hκ : κ = kid) {x : List St} {K : List St → Prop} (hK : K (κ _ x)) : LookX encGV (κ _ (encG x), κ _ (encV x)) K := by
  subst hκ
  exact ⟨x, rfl, hK⟩
theorem LookX.auto' {X : Type} {κ : Kp} (hκ : κ = kid) {xs : List C} {enc : X → List C} {x : X} {K : X → Prop} (hx : xs = enc x) (hK : K (κ _ x)) : LookX enc (κ _ xs) K := by
  subst hκ
  exact ⟨x, hx, hK⟩
theorem rep_len (n : Nat) : (List.replicate n st0).length = n := List.length_replicate
end Go.Proofs.Ytjlgeoaomegbmaa.Eng
