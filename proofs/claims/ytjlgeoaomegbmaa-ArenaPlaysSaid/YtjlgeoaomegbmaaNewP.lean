/- New arenas; no condition. -/
import Derived.Test.YtjlgeoaomegbmaaArenA
namespace Go.Proofs.Ytjlgeoaomegbmaa.Eng
open Go Go.RowKit
set_option linter.unusedVariables false
set_option linter.unusedSimpArgs false

def newN (n : Int) : Nat := (minI (maxI n 0) 1000).toNat
def newF (n : Int) : Int := minI (maxI n 0) 65536
theorem newN_le (n : Int) : newN n ≤ 1000 := by
  unfold newN minI maxI
  split <;> split <;> omega
theorem rep_enc (n : Nat) : (List.replicate n [C.v (.int .i64 0), C.v (.bool false)]).flatten = encS (List.replicate n st0) := by
  unfold encS
  rw [List.flatMap_def, List.map_replicate]
  rfl
def newT (κ : Kp) : TSpec := fun args H d K => match args with
  | [.c (.v (.int .i64 f)), .c (.v (.int .i64 n))] => ∀ (b : Nat) (A : Option Addr), K (.c (.loc d b 0)) [(d, some (.blk b 80 [.v (.int .i64 (κ _ (newF f))), .sl (d + 100000) A (κ _ (newN n)) (κ _ (newN n)), .v (.bool false), .v (.bool false)])),
      (d + 100000, some (.row A (κ _ (newN n)) 84 2 (κ _ (newN n)) (κ _ (encS (List.replicate (newN n) st0)))))]
  | _ => False
theorem newT_conj (args : List SV) (H : Heap) (d : Nat) : ConjP (newT kid args H d) (okKey false H d) := by
  unfold newT
  split
  · exact .all2 (fun b A => .c (.loc d b 0)) (fun b A => [(d, some (.blk b 80 _)), (d + 100000, some (.row A _ 84 2 _ _))]) (by simp [okKey])
  · exact .false_
structure IsN (e : Nat → Option Addr → Nat → Ent) (e2 : Option Addr → Ent) (v : SV) (H' : Heap) : Prop where
  h : ∃ i b j A, v = .c (.loc i b 0) ∧ H' i = some (e b A j) ∧ H' j = some (e2 A) ∧ i ≠ j
theorem b_newP : Bodied Try.prog 38 := bodied Try.func38 rfl (by decide)
def blkN (f : Int) (n : Nat) (b : Nat) (A : Option Addr) (j : Nat) : Ent := .blk b 80 [.v (.int .i64 (newF f)), .sl j A (newN n) (newN n), .v (.bool false), .v (.bool false)]
set_option maxRecDepth 100000 in
set_option maxHeartbeats 4000000 in
theorem k_newP (f n : Int) (w : World) :
    Calls Try.prog 38 #[.int .i64 f, .int .i64 n] w fun e w' => ∃ v H', e = .returned v.den ∧ IsN (fun b A j => .blk b 80 [.v (.int .i64 (newF f)), .sl j A (newN n) (newN n), .v (.bool false), .v (.bool false)]) (fun A => .row A (newN n) 84 2 (newN n) (encS (List.replicate (newN n) st0))) v H' ∧ HSat w (fun _ => False) H' w' := by
  obtain ⟨κ, hκ⟩ : ∃ κ : Kp, κ = kid := ⟨_, rfl⟩
  refine (callsE (n := 14) FTok [] mixed [] Try.func38 rfl (by kernel_rfl) #[.int .i64 f, .int .i64 n] [(0, .c (.v (.int .i64 f))), (1, .c (.v (.int .i64 n)))] H0 w rfl [.tmp 4] rfl (by simp) (by simp [SV.den, C.den]) (HSat.start w)
    (fun v H' => IsN (κ _ (fun b A j => .blk b 80 [.v (.int .i64 (newF f)), .sl j A (newN n) (newN n), .v (.bool false), .v (.bool false)])) (κ _ (fun A => .row A (newN n) 84 2 (newN n) (encS (List.replicate (newN n) st0)))) v H') hκ ?_).mono ?_
  rotate_left
  · subst hκ; intro e w' h; exact h
  cbv
  repeat' (first | refine And.intro ?_ ?_ | (intro _; cbv) | (refine tst_mk (fun h => ?_) (fun h => ?_) <;> cbv))
  all_goals subst hκ
  all_goals (try delta kid at *)
  all_goals (try (exact ⟨rfl⟩))
  · refine ⟨?_⟩
    have h1 := newN_le n
    have e : (if 1000 < if n < 0 then 0 else n then 1000 else if n < 0 then 0 else n) = minI (maxI n 0) 1000 := rfl
    rw [e]
    have h2 : 0 ≤ minI (maxI n 0) 1000 ∧ minI (maxI n 0) 1000 ≤ 1000 := by
      unfold minI maxI
      repeat' split
      all_goals omega
    generalize minI (maxI n 0) 1000 = m at h2
    exact ⟨h2.1, (show m * 16 ≤ 281474976710656 by omega), (show m ≤ 9223372036854775807 by omega)⟩
  · refine ⟨⟨13, _, 11, _, rfl, rfl, ?_, by decide⟩⟩
    show some (Ent.row _ (newN n) 84 2 (newN n) (List.replicate (newN n) [C.v (.int .i64 0), C.v (.bool false)]).flatten) = _
    rw [rep_enc]
def e_newP {κ : Kp} (hκ : κ = kid) : ESpec Try.prog := ES b_newP false newT hκ newT_conj fun args H0 H d w0 M w hs hsub hH => by
  have hs' := hs
  unfold newT at hs'
  split at hs'
  case h_2 => exact hs'.elim
  rename_i f n
  refine (k_newP f n w).mono ?_
  rintro e w' ⟨v, Hc, rfl, ⟨⟨i, b, j, A, rfl, e1, e2, n1⟩⟩, hHc⟩
  have hm : (fun _ : Nat => False) = mutE [] := by
    funext g
    apply propext
    refine ⟨fun h => h.elim, ?_⟩
    rintro ⟨k, t, e, hk, _⟩
    simp at hk
  rw [hm] at hHc
  refine ⟨.c (.loc d b 0), [(d, some (.blk b 80 [.v (.int .i64 (newF f)), .sl (d + 100000) A (newN n) (newN n), .v (.bool false), .v (.bool false)])), (d + 100000, some (.row A (newN n) 84 2 (newN n) (encS (List.replicate (newN n) st0))))], _, rfl, fun K hK => ?_, fun _ => rfl, ?_⟩
  · exact hK b A
  · refine hH.leave (ρ := []) (E := []) (by simp) trivial hHc _ [(d, i), (d + 100000, j)] ?_ ?_ (by simp [n1])
    · intro q hq
      simp only [List.mem_cons, List.not_mem_nil, or_false] at hq
      rcases hq with rfl | rfl
      · exact ⟨_, _, e1, upds2_a H _ _ (by omega), gives_blk rfl, rfl⟩
      · exact ⟨_, _, e2, upds2_b H _ _, gives_refl _, rfl⟩
    · intro q hq
      have h1 : d ≠ q := fun e => hq (d, i) (by simp) e
      have h2 : d + 100000 ≠ q := fun e => hq (d + 100000, j) (by simp) e
      exact .inr ⟨upds_other _ H q (by simp [h1, h2]), fun k t e hk => by simp at hk⟩
end Go.Proofs.Ytjlgeoaomegbmaa.Eng
