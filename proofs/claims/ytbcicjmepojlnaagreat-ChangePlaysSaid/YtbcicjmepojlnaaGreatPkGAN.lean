/- Texts of this work, laid together: symbolic execution over the model, contracts of the program's functions, what they come to; conditions: as each says. -/
import Derived.WalkKit
import Derived.WalkSpells
import Derived.WalkLawsBesides
import Derived.Lib.AppendZeros
import Derived.Lib.Walk
import Derived.Lib.SliceRun
import Derived.Test.YtbcicjmepojlnaaGreatPkGAJ
import Derived.Test.YtbcicjmepojlnaaGreatPkGAK
/- slices.Grow of nil; condition: at most a million areas. -/
namespace Go.Proofs.YtbcicjmepojlnaaGreat.Eng
open Go Go.RowKit
set_option linter.unusedVariables false
set_option linter.unusedSimpArgs false
set_option maxHeartbeats 1000000 in
set_option maxRecDepth 100000 in
theorem grow_zero (w : World) : Calls Tryz.prog 103 #[.slice none 0 0, .int .i64 0] w fun e w' => e = .returned (.slice none 0 0) ∧ w' = w := by
  go_enter Tryz.func103, Tryz.ntmps103
  go_wp2
  go_ret
  exact ⟨rfl, rfl⟩
set_option maxHeartbeats 1000000 in
set_option maxRecDepth 100000 in
theorem grow_pos (n : Nat) (h0 : 0 < n) (hn : n ≤ 1000000) (w : World) : Calls Tryz.prog 103 #[.slice none 0 0, .int .i64 (n : Int)] w fun e w' => ∃ cap2 Z, e = .returned (.slice (some ⟨w.heap.size, 0, none⟩) 0 cap2) ∧
    w'.heap[w.heap.size]? = some (.cells Z 49 (0, 0)) ∧ Z.size = cap2 * 6 ∧ cap2 ≤ maxLen ∧ w.heap.size < w'.heap.size ∧ Below w.heap.size w w' := by
  go_enter Tryz.func103, Tryz.ntmps103
  obtain ⟨z, hz, hzs⟩ : ∃ z, Tryz.t49.zero = some z ∧ z.cells.size = 6 := ⟨_, rfl, by decide⟩
  have hb : Tryz.t49.bytes = 48 := rfl
  have h3 : Tryz.prog.underlying 3 = some (.int .i64) := by kernel_rfl
  have hi : Tryz.prog.info? 49 = some Tryz.t49 := by kernel_rfl
  have happ := Lib.run_append_nil_zeros (P := Tryz.prog) w 24 3 24 49 Tryz.t49 z .i64 .i64 un24 h3 hi hz n h0 (by show 0 < 6; decide) (by omega) (by rw [hb]; omega)
  generalize hcap : grownCap w n 0 49 = cap2 at happ
  have hcapge : n ≤ cap2 := by rw [← hcap]; exact grownCap_ge w _ 0 49
  have hcaple : cap2 ≤ maxLen := by rw [← hcap]; exact grownCap_le_maxLen w _ 0 49 (by unfold maxLen; omega)
  generalize hZ : (Builtin.zeroCells z.cells n ++ Builtin.zeroCells z.cells (cap2 - n)) = Z at happ
  have hZs : Z.size = cap2 * 6 := by rw [← hZ]; simp [size_zeroCells, hzs]; omega
  clear hcap hZ
  go_wp2_with (at_builtin; refine Lib.wpList_append_run _ rfl _ _ _ _ rfl _ _ rfl rfl _ _ happ ?_)
  go_ret
  exact ⟨cap2, Z, rfl, heap_alloc_new w _, hZs, hcaple, (by show w.heap.size < (w.heap.push _).size; rw [Array.size_push]; omega), rfl, rfl, rfl, (by show w.heap.size ≤ (w.heap.push _).size; rw [Array.size_push]; omega), fun k hk => RowKit.Below.heap_alloc w _ k hk⟩
def growT (κ : Kp) : TSpec := fun args H d K => match args with
  | [.c (.sl id A n0 c0), .c (.v (.int .i64 n))] => Side (κ _ (A = none ∧ n0 = 0 ∧ c0 = 0 ∧ 0 ≤ n ∧ n ≤ 1000000)) ∧ ∀ (A2 : Option Addr) (c2 : Nat), K (.c (.sl d A2 0 c2)) [(d, some (.row A2 c2 49 6 0 []))]
  | _ => False
theorem growT_conj (args : List SV) (H : Heap) (d : Nat) : ConjP (growT kid args H d) (okKey false H d) := by
  unfold growT
  split
  · exact .side fun _ => .all2 (fun A2 c2 => .c (.sl d A2 0 c2)) (fun A2 c2 => [(d, some (.row A2 c2 49 6 0 []))]) (by simp [okKey])
  · exact .false_
theorem b_grow : Bodied Tryz.prog 103 := bodied Tryz.func103 rfl (by decide)
def e_grow {κ : Kp} (hκ : κ = kid) : ESpec Tryz.prog := ES b_grow false growT hκ growT_conj fun args H0 H d w0 M w hs hsub hH => by
  have hs' := hs
  unfold growT at hs'
  split at hs'
  case h_2 => exact hs'.elim
  rename_i id A n0 c0 n
  obtain ⟨⟨h1⟩, _⟩ := hs'
  obtain ⟨rfl, rfl, rfl, h2, h3⟩ := h1
  obtain ⟨m, rfl⟩ := Int.eq_ofNat_of_zero_le h2
  have hkey : ∀ (A2 : Option Addr) (c2 : Nat) (K : KT), growT kid [.c (.sl id none 0 0), .c (.v (.int .i64 (m : Int)))] H0 d K → K (.c (.sl d A2 0 c2)) [(d, some (.row A2 c2 49 6 0 []))] := by
    intro A2 c2 K hK
    exact hK.2 A2 c2
  rcases Nat.eq_zero_or_pos m with hm | hm
  · subst hm
    refine (grow_zero w).mono ?_
    rintro e w' ⟨rfl, rfl⟩
    refine ⟨.c (.sl d none 0 0), [(d, some (.row none 0 49 6 0 []))], _, rfl, hkey none 0, fun _ => rfl, ?_⟩
    have := hH.step (w' := w') none (fun _ => False) rfl rfl rfl (Nat.le_refl _) (fun _ _ _ => rfl) (fun _ h => h.elim) d (.row none 0 49 6 0 []) ((free_block (e := .row none 0 49 6 0 []) ⟨rfl, rfl, rfl, rfl⟩).2 w') (fun g hg => by rw [(free_block (e := .row none 0 49 6 0 []) ⟨rfl, rfl, rfl, rfl⟩).1] at hg; cases hg)
    exact this
  · refine (grow_pos m hm (by omega) w).mono ?_
    rintro e w' ⟨c2, Z, rfl, hg, hz, hle, hlt, hb⟩
    refine ⟨.c (.sl d (some ⟨w.heap.size, 0, none⟩) 0 c2), [(d, some (.row (some ⟨w.heap.size, 0, none⟩) c2 49 6 0 []))], _, rfl, hkey _ c2, fun _ => rfl, ?_⟩
    have := hH.step (w' := w') none (fun _ => False) hb.os hb.tape hb.output hb.size (fun k hk _ => hb.block k hk) (fun _ h => h.elim) d (.row (some ⟨w.heap.size, 0, none⟩) c2 49 6 0 []) ⟨rfl, Nat.zero_le _, fun hc => ⟨w.heap.size, Z, rfl, hg, hle, hz, by simp⟩⟩ (fun g hg => by
      simp only [Ent.block] at hg
      split at hg
      · cases hg
      · injection hg with hg
        subst hg
        exact ⟨hlt, .inr (Nat.le_refl _)⟩)
    exact this
end Go.Proofs.YtbcicjmepojlnaaGreat.Eng
/- Contracts of functions of a list that hand back a new list; no condition. -/
namespace Go.Proofs.YtbcicjmepojlnaaGreat.Eng
open Go Go.RowKit
set_option linter.unusedSimpArgs false
set_option linter.unusedVariables false
theorem take_next {l : List Ar} {i : Nat} (h : i < l.length) : l.take (i + 1) = l.take i ++ [nthA l i] := by
  rw [List.take_add_one, nthA_get h]
  rfl
theorem take_all {l : List Ar} {i : Nat} (h : ¬ i < l.length) : l.take i = l := List.take_of_length_le (by omega)
theorem encL_app (l k : List Ar) : encL (l ++ k) = encL l ++ encL k := by
  unfold encL
  rw [List.flatMap_append]
theorem encL_one (a : Ar) : encL [a] = encA a := by
  unfold encL
  rw [List.flatMap_cons, List.flatMap_nil, List.append_nil]
theorem encL_ok (l : List Ar) : ok1 (encL l) = true := enc_ok1 (fun x => rfl) l
/-! ### The pure functions -/
def partL (lo hi : Int) (a : Ar) : List Ar := if hasPart a lo hi = true then [partA a lo hi] else []
def withinL (l : List Ar) (lo hi : Int) : List Ar := l.flatMap (partL lo hi)
theorem within_app (l k : List Ar) (lo hi : Int) : withinL (l ++ k) lo hi = withinL l lo hi ++ withinL k lo hi := by
  unfold withinL
  rw [List.flatMap_append]
theorem within_one (a : Ar) (lo hi : Int) : withinL [a] lo hi = partL lo hi a := by
  unfold withinL
  rw [List.flatMap_cons, List.flatMap_nil, List.append_nil]
theorem partL_len (lo hi : Int) (a : Ar) : (partL lo hi a).length ≤ 1 := by
  unfold partL
  split <;> simp
theorem flat_le {f : Ar → List Ar} (h : ∀ a, (f a).length ≤ 1) : ∀ l : List Ar, (l.flatMap f).length ≤ l.length
  | [] => by simp
  | a :: r => by
    rw [List.flatMap_cons, List.length_append, List.length_cons]
    have := h a
    have := flat_le h r
    omega
theorem within_le (l : List Ar) (lo hi : Int) : (withinL l lo hi).length ≤ l.length := flat_le (partL_len lo hi) l
def stepJ (out : List Ar) (a : Ar) : List Ar := match out.getLast? with
  | none => [a]
  | some z => if joinsA z a = true then out.dropLast ++ [joinA z a] else out ++ [a]
def joinedL (l : List Ar) : List Ar := l.foldl stepJ []
theorem joined_app (l : List Ar) (a : Ar) : joinedL (l ++ [a]) = stepJ (joinedL l) a := by
  unfold joinedL
  rw [List.foldl_append]
  rfl
theorem stepJ_le (out : List Ar) (a : Ar) : (stepJ out a).length ≤ out.length + 1 := by
  unfold stepJ
  split
  · simp
  · split
    · simp
    · simp
theorem joined_le (l : List Ar) : (joinedL l).length ≤ l.length := by
  suffices h : ∀ (l out : List Ar), (l.foldl stepJ out).length ≤ out.length + l.length by simpa [joinedL] using h l []
  intro l
  induction l with
  | nil => intro out; simp
  | cons a r ih =>
    intro out
    have h1 := ih (stepJ out a)
    have h2 := stepJ_le out a
    simp only [List.foldl_cons, List.length_cons]
    omega
def aheadA (from_ : Int) (a : Ar) : List Ar := if (hasPart a 65536 (maxI from_ 65536) && decide (from_ > a.s)) = true then [partA a 65536 (maxI from_ 65536)] else []
def behindA (to : Int) (a : Ar) : List Ar := if (hasPart a (maxI to 65536) 2097152 && decide (to < a.e)) = true then [partA a (maxI to 65536) 2097152] else []
def aheadL (l : List Ar) (from_ : Int) : List Ar := l.flatMap (aheadA from_)
def behindL (l : List Ar) (to : Int) : List Ar := l.flatMap (behindA to)
theorem ahead_app (l k : List Ar) (f : Int) : aheadL (l ++ k) f = aheadL l f ++ aheadL k f := by
  unfold aheadL
  rw [List.flatMap_append]
theorem behind_app (l k : List Ar) (f : Int) : behindL (l ++ k) f = behindL l f ++ behindL k f := by
  unfold behindL
  rw [List.flatMap_append]
theorem ahead_one (a : Ar) (f : Int) : aheadL [a] f = aheadA f a := by
  unfold aheadL
  rw [List.flatMap_cons, List.flatMap_nil, List.append_nil]
theorem behind_one (a : Ar) (f : Int) : behindL [a] f = behindA f a := by
  unfold behindL
  rw [List.flatMap_cons, List.flatMap_nil, List.append_nil]
theorem aheadA_len (f : Int) (a : Ar) : (aheadA f a).length ≤ 1 := by
  unfold aheadA
  split <;> simp
theorem behindA_len (f : Int) (a : Ar) : (behindA f a).length ≤ 1 := by
  unfold behindA
  split <;> simp
theorem ahead_le (l : List Ar) (f : Int) : (aheadL l f).length ≤ l.length := flat_le (aheadA_len f) l
theorem behind_le (l : List Ar) (f : Int) : (behindL l f).length ≤ l.length := flat_le (behindA_len f) l
def toI (hi : Int) : Int := if hi < 2097152 then w64 (0 - floorA (w64 (0 - hi))) else hi
def aroundA (l : List Ar) (lo hi : Int) : List Ar := if lo ≥ hi then l else aheadL l (floorA lo)
def aroundB (l : List Ar) (lo hi : Int) : List Ar := if lo ≥ hi then [] else behindL l (toI hi)
def cutL (l : List Ar) (lo hi : Int) : List Ar := if rightL l = true then aroundA l lo hi ++ aroundB l lo hi else []
def putL (l : List Ar) (a : Ar) : List Ar := if (rightL l && formed a) = true then joinedL (aroundA l a.s a.e ++ [a] ++ aroundB l a.s a.e) else []
def setA (p : Int) (a : Ar) : Ar := { a with p := p }
def midL (l : List Ar) (lo hi p : Int) : List Ar := if lo < hi then (withinL l lo hi).map (setA p) else []
def setL (l : List Ar) (lo hi p : Int) : List Ar := if (!rightL l || decide (p < 0) || decide (p > 7)) = true then [] else joinedL (aroundA l lo hi ++ midL l lo hi p ++ aroundB l lo hi)
/-! ### Contracts -/
structure IsR (r : List Ar) (v : SV) (H' : Heap) : Prop where
  h : ∃ i A2 c2, v = .c (.sl i A2 r.length c2) ∧ (H' i = some (.row A2 c2 49 6 r.length (encL r)) ∨ (r = [] ∧ A2 = none ∧ c2 = 0))
theorem mutE_nil : (fun _ : Nat => False) = mutE [] := by
  funext g
  apply propext
  refine ⟨fun h => h.elim, ?_⟩
  rintro ⟨k, t, e, hk, _⟩
  simp at hk
theorem IsR.row {r : List Ar} {v : SV} {H' : Heap} {w w' : World} {M : Nat → Prop} (h : IsR r v H') (hH : HSat w M H' w') : ∃ i A2 c2 H2, v.den = .slice A2 r.length c2 ∧ H2 i = some (.row A2 c2 49 6 r.length (encL r)) ∧ HSat w M H2 w' := by
  obtain ⟨i, A2, c2, rfl, h | ⟨rfl, rfl, rfl⟩⟩ := h
  · exact ⟨i, A2, c2, H', rfl, h, hH⟩
  · have hf := free_block (e := .row none 0 49 6 0 []) ⟨rfl, rfl, rfl, rfl⟩
    have := hH.step (w' := w') none (fun _ => False) rfl rfl rfl (Nat.le_refl _) (fun _ _ _ => rfl) (fun _ h => h.elim) 900001 (.row none 0 49 6 0 []) (hf.2 w') (fun g hg => by rw [hf.1] at hg; cases hg)
    exact ⟨900001, none, 0, _, rfl, by show upd H' 900001 _ 900001 = _; rw [upd_apply, if_pos rfl]; rfl, this⟩
theorem okd (H : Heap) (d : Nat) (e : Option Ent) : ∀ p ∈ [(d, e)], okKey false H d p.1 := by simp [okKey]
abbrev FunR := Kp → List Ar → List SV → Option (Prop × List Ar)
def lisRT (F : FunR) (κ : Kp) : TSpec := fun args H d K => match args with
  | .c (.sl id A n c) :: rest => match rowOf (H id) with
    | some (A', z, n', xs) => Side (κ _ (A = A' ∧ n = n' ∧ (z = 6 ∨ n = 0))) ∧ LookX encL xs fun l => Side (κ _ (l.length = n)) ∧ match F κ l rest with
      | some (p, r) => Side p ∧ ∀ (A2 : Option Addr) (c2 : Nat), K (.c (.sl d A2 (κ _ r.length) c2)) [(d, some (.row A2 c2 49 6 (κ _ r.length) (κ _ (encL r))))]
      | none => False
    | none => False
  | _ => False
section
variable {P : Program} {f : FuncId}
theorem lisRT_conj (F : FunR) (args : List SV) (H : Heap) (d : Nat) : ConjP (lisRT F kid args H d) (okKey false H d) := by
  unfold lisRT
  split
  · split
    · refine .side fun _ => .look encL_inj fun l _ => .side fun _ => ?_
      split
      · exact .side fun _ => .all2 (fun A2 c2 => .c (.sl d A2 _ c2)) (fun A2 c2 => [(d, some (.row A2 c2 49 6 _ _))]) fun _ _ => okd _ _ _
      · exact .false_
    · exact .false_
  · exact .false_
theorem leaveR {w0 w w' : World} {M : Nat → Prop} {H H2 : Heap} (hH : HSat w0 M H w) {i : Nat} {e : Ent} (h2 : H2 i = some e) (hm : e.mut = true) (hc : HSat w (fun _ => False) H2 w') (d : Nat) : HSat w0 M (upds H [(d, some e)]) w' := by
  rw [mutE_nil] at hc
  refine hH.leave (ρ := []) (E := []) (by simp) trivial hc _ [(d, i)] ?_ ?_ (by simp)
  · intro q hq
    simp only [List.mem_cons, List.not_mem_nil, or_false] at hq
    subst hq
    exact ⟨_, _, h2, by simp [upds, upd_apply], gives_refl _, hm⟩
  · intro q hq
    have h1 : d ≠ q := fun e => hq (d, i) (by simp) e
    exact .inr ⟨upds_other _ H q (by simp [h1]), fun k t e hk => by simp at hk⟩
def lisRES (hB : Bodied P f) (F : FunR) {κ : Kp} (hκ : κ = kid)
    (hk : ∀ l rest p r, F kid l rest = some (p, r) → p → ∀ (A : Option Addr) (c : Nat) (w : World), (Ent.rd A 6 l.length (encL l)).holds w →
      Calls P f (Value.slice A l.length c :: rest.map SV.den).toArray w fun e w' => ∃ v H', e = .returned v.den ∧ IsR r v H' ∧ HSat w (fun _ => False) H' w') : ESpec P :=
  ES hB false (lisRT F) hκ (lisRT_conj F) fun args H0 H d w0 M w hs hsub hH => by
    have hs' := hs
    unfold lisRT at hs'
    split at hs'
    case h_2 => exact hs'.elim
    rename_i id A n c rest
    split at hs'
    case h_2 => exact hs'.elim
    rename_i A' z n' xs hrow
    obtain ⟨⟨h1⟩, ⟨l, hx, ⟨h2⟩, h3⟩⟩ := hs'
    obtain ⟨rfl, rfl, hz⟩ := h1
    have hn : l.length = n := h2
    have hrd : (Ent.rd A 6 l.length (encL l)).holds w := rd_holds (hH.drop hsub) hrow hz hn hx
    subst hn
    split at h3
    case h_2 => exact h3.elim
    rename_i p r hF
    refine (hk l rest p r hF h3.1.h A c w hrd).mono ?_
    rintro e w' ⟨v, H', rfl, hr, hH'⟩
    obtain ⟨i, A2, c2, H2, hv, hi, hH2⟩ := hr.row hH'
    refine ⟨.c (.sl d A2 r.length c2), [(d, some (.row A2 c2 49 6 r.length (encL r)))], _, rfl, fun K hK => ?_, fun _ => hv, ?_⟩
    · unfold lisRT at hK
      simp only [hrow] at hK
      obtain ⟨_, ⟨l2, hl2, _, h⟩⟩ := hK
      have := encL_inj _ _ (hx.symm.trans hl2)
      subst this
      rw [hF] at h
      exact h.2 A2 c2
    · exact leaveR hH hi rfl hH2 d
end
end Go.Proofs.YtbcicjmepojlnaaGreat.Eng
/- list.within; condition: at most a million areas. -/
namespace Go.Proofs.YtbcicjmepojlnaaGreat.Eng
open Go Go.RowKit
set_option linter.unusedSimpArgs false
set_option linter.unusedVariables false
theorem within_next {l : List Ar} {i : Nat} (h : i < l.length) (lo hi : Int) : withinL (l.take (i + 1)) lo hi = withinL (l.take i) lo hi ++ partL lo hi (nthA l i) := by
  rw [take_next h, within_app, within_one]
theorem takeW_le (l : List Ar) (i : Nat) (lo hi : Int) : (withinL (l.take i) lo hi).length ≤ l.length := by
  have h1 := within_le (l.take i) lo hi
  have h2 : (l.take i).length ≤ l.length := by rw [List.length_take]; omega
  omega
theorem b_within : Bodied Tryz.prog 81 := bodied Tryz.func81 rfl (by decide)
def EL (κ : Kp) (l : List Ar) (A : Option Addr) : List (Nat × Ent) := [(200000, .rd A 6 (κ _ l.length) (κ _ (encL l)))]
theorem holdsEL {l : List Ar} {A : Option Addr} {w : World} (hr : (Ent.rd A 6 l.length (encL l)).holds w) {κ : Kp} (hκ : κ = kid) : HSat w (fun _ => False) (heapOf (EL κ l A)) w := by
  subst hκ
  refine HSat.reads fun p hp => ?_
  simp only [EL, List.mem_cons, List.not_mem_nil, or_false] at hp
  subst hp
  exact ⟨_, _, _, _, rfl, hr⟩
set_option maxRecDepth 100000 in
set_option maxHeartbeats 4000000 in
theorem k_within (l : List Ar) (lo hi : Int) (hside : l.length ≤ 1000000) (A : Option Addr) (c : Nat) (w : World) (hr : (Ent.rd A 6 l.length (encL l)).holds w) :
    Calls Tryz.prog 81 #[.slice A l.length c, .int .i64 lo, .int .i64 hi] w fun e w' => ∃ v H', e = .returned v.den ∧ IsR (withinL l lo hi) v H' ∧ HSat w (fun _ => False) H' w' := by
  obtain ⟨κ, hκ⟩ : ∃ κ : Kp, κ = kid := ⟨_, rfl⟩
  have hH := holdsEL hr hκ
  refine (callsE (n := 32) FTok [e_part hκ] mixed [] Tryz.func81 rfl (by kernel_rfl) #[.slice A l.length c, .int .i64 lo, .int .i64 hi] [(0, .c (.sl 200000 A (κ _ l.length) c)), (1, .c (.v (.int .i64 lo))), (2, .c (.v (.int .i64 hi)))] _ w rfl [.tmp 6] rfl (by simp) (by subst hκ; simp [SV.den, C.den, kid]) hH
    (fun v H' => IsR (κ _ (withinL l lo hi)) v H') hκ ?_).mono ?_
  rotate_left
  · subst hκ; intro e w' h; exact h
  cbv
  refine loopG FTok [e_part hκ] mixed [0, 1, 2, 12, 13] (σ := Nat × Option Addr × Nat) (fun q => [(7, .c (.sl 300000 q.2.1 (κ _ (withinL (l.take q.1) lo hi).length) q.2.2)), (14, .c (.v (.int .i64 (κ _ ((q.1 : Nat) : Int)))))])
    (fun q => [(200000, .rd A 6 (κ _ l.length) (κ _ (encL l))), (300000, .row q.2.1 q.2.2 49 6 (κ _ (withinL (l.take q.1) lo hi).length) (κ _ (encL (withinL (l.take q.1) lo hi))))])
    (fun q => l.length - q.1) (0, none, 0) [200000, 999999] ?_ (by decide) ?_ hκ ?_
  · cbv
    subst hκ
    delta kid
    exact ⟨rfl, rfl, trivial⟩
  · cbv
    subst hκ
    delta kid
    all_goals repeat' (first | exact rfl | exact trivial | refine And.intro ?_ ?_)
  rintro ⟨i, A2, c2⟩
  cbv
  refine tst_mk (fun h => ?_) (fun h => ?_)
  · have hx : i < l.length := by subst hκ; delta kid at h; have h2 : (i : Int) < (l.length : Int) := of_decide_eq_true h; omega
    have hl2 := takeW_le l i lo hi
    cbv
    repeat' (first | refine And.intro ?_ ?_ | (intro _; cbv) | (refine tst_mk (fun h => ?_) (fun h => ?_) <;> cbv) | (refine LookN.mk' (x := [.v (.int .i64 (κ _ (nthA l i).s)), .v (.int .i64 (κ _ (nthA l i).e)), .v (.int .i64 (κ _ (nthA l i).p)), .v (.bool (κ _ (nthA l i).sh)), .v (.int .i64 (κ _ (nthA l i).b)), .v (.int .i64 (κ _ (nthA l i).o))]) (by subst hκ; delta kid at *; exact la_take hx) ?_; cbv))
    all_goals (clear hH; subst hκ; delta kid at *; dsimp only at *)
    all_goals (try (exact ⟨la_ix hx⟩))
    all_goals (try (exact ⟨rfl⟩))
    all_goals (try (exact ⟨trivial⟩))
    all_goals (try (exact ⟨⟨rfl, rfl, rfl, rfl, rfl⟩⟩))
    all_goals (try (exact ⟨⟨rfl, rfl, .inl rfl, rfl⟩⟩))
    all_goals (try (exact ⟨by simp only [maxLen]; omega⟩))
    · rename_i A3 c3 _
      have hv := within_next hx lo hi
      unfold partL at hv
      rw [nthA_eta] at h
      rw [if_pos h] at hv
      have e1 : (withinL (l.take i) lo hi).length + 1 = (withinL (l.take (i + 1)) lo hi).length := by rw [hv, List.length_append]; rfl
      have e2 : encL (withinL (l.take i) lo hi) ++ encA (partA (nthA l i) lo hi) = encL (withinL (l.take (i + 1)) lo hi) := by rw [hv, encL_app, encL_one]
      refine ⟨⟨(i + 1, A3, c3), [200000, 29], (by show l.length - (i + 1) < l.length - i; omega), by decide, ?_, ?_⟩⟩
      all_goals repeat' (first | exact rfl | exact trivial | refine And.intro ?_ ?_ | exact e1 | exact e2 | exact congrArg (fun n => Value.slice A3 n c3) e1 | exact congrArg (Value.int .i64) (nat_succ (by omega)))
    · have hv := within_next hx lo hi
      unfold partL at hv
      rw [nthA_eta] at h
      rw [if_neg (by rw [h]; simp), List.append_nil] at hv
      refine ⟨⟨(i + 1, A2, c2), [200000, 300000], (by show l.length - (i + 1) < l.length - i; omega), by decide, ?_, ?_⟩⟩
      all_goals repeat' (first | exact rfl | exact trivial | refine And.intro ?_ ?_ | exact congrArg List.length hv.symm | exact congrArg encL hv.symm | exact congrArg (fun n => Value.slice A2 (List.length n) c2) hv.symm | exact congrArg (Value.int .i64) (nat_succ (by omega)))
  · have hx : ¬ i < l.length := by subst hκ; delta kid at h; have h2 : ¬ (i : Int) < (l.length : Int) := of_decide_eq_false h; omega
    cbv
    subst hκ
    delta kid at *
    dsimp only at *
    rw [take_all hx]
    exact ⟨⟨300000, A2, c2, rfl, .inl rfl⟩⟩
def F_within : FunR := fun κ l rest => match rest with
  | [.c (.v (.int .i64 lo)), .c (.v (.int .i64 hi))] => some (κ _ (l.length ≤ 1000000), κ _ (withinL l lo hi))
  | _ => none
def e_within {κ : Kp} (hκ : κ = kid) : ESpec Tryz.prog := lisRES b_within F_within hκ fun l rest p r hF hp A c w hr => by
  unfold F_within at hF
  split at hF
  · rename_i lo hi
    simp only [kid, Option.some.injEq, Prod.mk.injEq] at hF
    obtain ⟨rfl, rfl⟩ := hF
    exact k_within l lo hi hp A c w hr
  · cases hF
end Go.Proofs.YtbcicjmepojlnaaGreat.Eng
/- list.joined; condition: at most a million areas. -/
namespace Go.Proofs.YtbcicjmepojlnaaGreat.Eng
open Go Go.RowKit
set_option linter.unusedSimpArgs false
set_option linter.unusedVariables false
theorem last_at {l : List Ar} (h : 0 < l.length) : l.getLast? = some (nthA l (l.length - 1)) := by
  rw [List.getLast?_eq_getElem?, nthA_get (by omega)]
theorem stepJ_nil (a : Ar) : stepJ [] a = [a] := rfl
theorem stepJ_yes {l : List Ar} {a : Ar} (h : 0 < l.length) (hj : joinsA (nthA l (l.length - 1)) a = true) : stepJ l a = l.dropLast ++ [joinA (nthA l (l.length - 1)) a] := by
  unfold stepJ
  rw [last_at h]
  simp only [hj, if_true]
theorem stepJ_no {l : List Ar} {a : Ar} (h : 0 < l.length) (hj : joinsA (nthA l (l.length - 1)) a = false) : stepJ l a = l ++ [a] := by
  unfold stepJ
  rw [last_at h]
  simp only [hj, Bool.false_eq_true, if_false]
theorem last_ix {n : Nat} (h0 : decide ((0 : Int) < (n : Int)) = true) (hl : n ≤ 1000000) : IntKind.i64.wrap ((n : Int) - 1) = ((n - 1 : Nat) : Int) ∧ n - 1 < n := by
  have := of_decide_eq_true h0
  have : w64 ((n : Int) - 1) = (n : Int) - 1 := w64_id (by unfold In64; omega)
  unfold w64 at this
  rw [this]
  omega
theorem last_in {n : Nat} (h0 : decide ((0 : Int) < (n : Int)) = true) (hl : n ≤ 1000000) : 0 < 6 ∧ 0 ≤ IntKind.i64.wrap ((n : Int) - 1) ∧ IntKind.i64.wrap ((n : Int) - 1) < (n : Int) := by
  have := last_ix h0 hl
  rw [this.1]
  omega
theorem last_take {l : List Ar} (h0 : decide ((0 : Int) < (l.length : Int)) = true) (hl : l.length ≤ 1000000) : takeN (encL l) ((IntKind.i64.wrap ((l.length : Int) - 1)).toNat * 6) 6 = some [.v (.int .i64 (nthA l (l.length - 1)).s), .v (.int .i64 (nthA l (l.length - 1)).e), .v (.int .i64 (nthA l (l.length - 1)).p), .v (.bool (nthA l (l.length - 1)).sh), .v (.int .i64 (nthA l (l.length - 1)).b), .v (.int .i64 (nthA l (l.length - 1)).o)] := by
  have := last_ix h0 hl
  rw [this.1]
  exact la_take this.2
theorem last_put {l : List Ar} (h0 : decide ((0 : Int) < (l.length : Int)) = true) (hl : l.length ≤ 1000000) (j : Ar) : putCells (encL l) ((IntKind.i64.wrap ((l.length : Int) - 1)).toNat * 6) (encA j) = encL (l.dropLast ++ [j]) := by
  have h := last_ix h0 hl
  rw [h.1, Int.toNat_natCast]
  show (encL l).take ((l.length - 1) * 6) ++ encA j ++ (encL l).drop ((l.length - 1) * 6 + (encA j).length) = _
  have e1 : l = l.dropLast ++ [nthA l (l.length - 1)] := by
    have hne : l ≠ [] := by intro e; subst e; simp at h0
    have := List.dropLast_concat_getLast hne
    conv => lhs; rw [← this]
    congr 2
    have h2 := last_at (l := l) (by have := of_decide_eq_true h0; omega)
    rw [List.getLast?_eq_some_getLast hne] at h2
    exact Option.some.inj h2
  have hlen : (encL l.dropLast).length = (l.length - 1) * 6 := by rw [encL_len, List.length_dropLast]
  have e2 : encL l = encL l.dropLast ++ encA (nthA l (l.length - 1)) := by
    conv => lhs; rw [e1]
    rw [encL_app, encL_one]
  rw [e2, ← hlen, List.take_left', encL_app, encL_one, List.drop_of_length_le, List.append_nil]
  · rw [List.length_append]; exact Nat.le_refl _
  · rfl
theorem last_fit {n : Nat} {xs : List C} (h0 : decide ((0 : Int) < (n : Int)) = true) (hl : n ≤ 1000000) (hx : xs.length = n * 6) : (IntKind.i64.wrap ((n : Int) - 1)).toNat * 6 + 6 ≤ xs.length := by
  have h := last_ix h0 hl
  rw [h.1, hx]
  omega
theorem joined_next {l : List Ar} {i : Nat} (h : i < l.length) : joinedL (l.take (i + 1)) = stepJ (joinedL (l.take i)) (nthA l i) := by rw [take_next h, joined_app]
theorem takeJ_le (l : List Ar) (i : Nat) : (joinedL (l.take i)).length ≤ l.length := by
  have h1 := joined_le (l.take i)
  have h2 : (l.take i).length ≤ l.length := by rw [List.length_take]; omega
  omega
theorem b_joined : Bodied Tryz.prog 78 := bodied Tryz.func78 rfl (by decide)
set_option maxRecDepth 100000 in
set_option maxHeartbeats 4000000 in
theorem k_joined (l : List Ar) (hside : l.length ≤ 1000000) (A : Option Addr) (c : Nat) (w : World) (hr : (Ent.rd A 6 l.length (encL l)).holds w) :
    Calls Tryz.prog 78 #[.slice A l.length c] w fun e w' => ∃ v H', e = .returned v.den ∧ IsR (joinedL l) v H' ∧ HSat w (fun _ => False) H' w' := by
  obtain ⟨κ, hκ⟩ : ∃ κ : Kp, κ = kid := ⟨_, rfl⟩
  have hH := holdsEL hr hκ
  refine (callsE (n := 41) FTok [e_join hκ] mixed [(7, [[], [0], [0], [], [], [0, 1, 2, 3, 4], [], [], [], [8], [0, 1, 2, 3, 4, 5, 6, 7, 8, 9], [9], []])] Tryz.func78 rfl (by kernel_rfl) #[.slice A l.length c] [(0, .c (.sl 200000 A (κ _ l.length) c))] _ w rfl [.tmp 2] rfl (by simp) (by subst hκ; simp [SV.den, C.den, kid]) hH
    (fun v H' => IsR (κ _ (joinedL l)) v H') hκ ?_).mono ?_
  rotate_left
  · subst hκ; intro e w' h; exact h
  cbv
  refine loopG FTok [e_join hκ] mixed [0, 9, 10] (σ := Nat × Option Addr × Nat) (fun q => [(3, .c (.sl 300000 q.2.1 (κ _ (joinedL (l.take q.1)).length) q.2.2)), (11, .c (.v (.int .i64 (κ _ ((q.1 : Nat) : Int)))))])
    (fun q => [(200000, .rd A 6 (κ _ l.length) (κ _ (encL l))), (300000, .row q.2.1 q.2.2 49 6 (κ _ (joinedL (l.take q.1)).length) (κ _ (encL (joinedL (l.take q.1)))))])
    (fun q => l.length - q.1) (0, none, 0) [200000, 999999] ?_ (by decide) ?_ hκ ?_
  · cbv
    subst hκ
    delta kid
    exact ⟨rfl, rfl, trivial⟩
  · cbv
    subst hκ
    delta kid
    all_goals repeat' (first | exact rfl | exact trivial | refine And.intro ?_ ?_)
  rintro ⟨i, A2, c2⟩
  cbv
  refine tst_mk (fun h => ?_) (fun h => ?_)
  · have hx : i < l.length := by subst hκ; delta kid at h; have h2 : (i : Int) < (l.length : Int) := of_decide_eq_true h; omega
    have hl2 := takeJ_le l i
    have hl3 : (joinedL (l.take i)).length ≤ 1000000 := by omega
    have hen := encL_len (joinedL (l.take i))
    cbv
    repeat' (first | refine And.intro ?_ ?_ | (intro _; cbv) | (refine tst_mk (fun h => ?_) (fun h => ?_) <;> cbv) | (refine LookN.mk' (x := [.v (.int .i64 (κ _ (nthA l i).s)), .v (.int .i64 (κ _ (nthA l i).e)), .v (.int .i64 (κ _ (nthA l i).p)), .v (.bool (κ _ (nthA l i).sh)), .v (.int .i64 (κ _ (nthA l i).b)), .v (.int .i64 (κ _ (nthA l i).o))]) (by subst hκ; delta kid at *; exact la_take hx) ?_; cbv) | (refine LookN.mk' (x := [.v (.int .i64 (κ _ (nthA (joinedL (l.take i)) ((joinedL (l.take i)).length - 1)).s)), .v (.int .i64 (κ _ (nthA (joinedL (l.take i)) ((joinedL (l.take i)).length - 1)).e)), .v (.int .i64 (κ _ (nthA (joinedL (l.take i)) ((joinedL (l.take i)).length - 1)).p)), .v (.bool (κ _ (nthA (joinedL (l.take i)) ((joinedL (l.take i)).length - 1)).sh)), .v (.int .i64 (κ _ (nthA (joinedL (l.take i)) ((joinedL (l.take i)).length - 1)).b)), .v (.int .i64 (κ _ (nthA (joinedL (l.take i)) ((joinedL (l.take i)).length - 1)).o))]) (by subst hκ; delta kid at *; exact last_take (by assumption) hl3) ?_; cbv))
    all_goals (clear hH; subst hκ; delta kid at *; dsimp only at *)
    all_goals (try (exact ⟨la_ix hx⟩))
    all_goals (try (exact ⟨rfl⟩))
    all_goals (try (exact ⟨trivial⟩))
    all_goals (try (exact ⟨last_in (by assumption) hl3⟩))
    all_goals (try (exact ⟨⟨rfl, rfl, rfl, rfl, rfl⟩⟩))
    all_goals (try (exact ⟨⟨rfl, rfl, .inl rfl, rfl⟩⟩))
    all_goals (try (exact ⟨by simp only [maxLen]; omega⟩))
    all_goals (try (refine ⟨⟨?_, ?_⟩⟩; · exact Nat.lt_of_lt_of_le (by decide) (Nat.le_refl 6)); · exact last_fit (by assumption) hl3 hen)
    · rename_i h0
      rw [nthA_eta, nthA_eta] at h
      have hpos : 0 < (joinedL (l.take i)).length := by have h2 : (0 : Int) < ((joinedL (l.take i)).length : Int) := of_decide_eq_true h0; omega
      have hv := joined_next hx
      rw [stepJ_yes hpos h] at hv
      have e1 : (joinedL (l.take i)).length = (joinedL (l.take (i + 1))).length := by rw [hv, List.length_append, List.length_dropLast]; show _ = _ - 1 + 1; omega
      have e2 : putCells (encL (joinedL (l.take i))) ((IntKind.i64.wrap (((joinedL (l.take i)).length : Int) - 1)).toNat * 6) (encA (joinA (nthA (joinedL (l.take i)) ((joinedL (l.take i)).length - 1)) (nthA l i))) = encL (joinedL (l.take (i + 1))) := by rw [hv]; exact last_put h0 hl3 _
      refine ⟨⟨(i + 1, A2, c2), [200000, 300000], (by show l.length - (i + 1) < l.length - i; omega), by decide, ?_, ?_⟩⟩
      all_goals repeat' (first | exact rfl | exact trivial | refine And.intro ?_ ?_ | exact e1 | exact e2 | exact congrArg (fun n => Value.slice A2 n c2) e1 | exact congrArg (Value.int .i64) (nat_succ (by omega)))
    · rename_i A3 c3 _ h0
      rw [nthA_eta, nthA_eta] at h
      have hpos : 0 < (joinedL (l.take i)).length := by have h2 : (0 : Int) < ((joinedL (l.take i)).length : Int) := of_decide_eq_true h0; omega
      have hv := joined_next hx
      rw [stepJ_no hpos h] at hv
      have e1 : (joinedL (l.take i)).length + 1 = (joinedL (l.take (i + 1))).length := by rw [hv, List.length_append]; rfl
      have e2 : encL (joinedL (l.take i)) ++ encA (nthA l i) = encL (joinedL (l.take (i + 1))) := by rw [hv, encL_app, encL_one]
      refine ⟨⟨(i + 1, A3, c3), [200000, 38], (by show l.length - (i + 1) < l.length - i; omega), by decide, ?_, ?_⟩⟩
      all_goals repeat' (first | exact rfl | exact trivial | refine And.intro ?_ ?_ | exact e1 | exact e2 | exact congrArg (fun n => Value.slice A3 n c3) e1 | exact congrArg (Value.int .i64) (nat_succ (by omega)))
    · rename_i A3 c3 _
      have hnil : joinedL (l.take i) = [] := List.eq_nil_of_length_eq_zero (by have h2 : ¬ (0 : Int) < ((joinedL (l.take i)).length : Int) := of_decide_eq_false h; omega)
      have hv := joined_next hx
      rw [hnil, stepJ_nil] at hv
      have e1 : (joinedL (l.take i)).length + 1 = (joinedL (l.take (i + 1))).length := by rw [hv, hnil]; rfl
      have e2 : encL (joinedL (l.take i)) ++ encA (nthA l i) = encL (joinedL (l.take (i + 1))) := by rw [hv, hnil, encL_one]; rfl
      refine ⟨⟨(i + 1, A3, c3), [200000, 38], (by show l.length - (i + 1) < l.length - i; omega), by decide, ?_, ?_⟩⟩
      all_goals repeat' (first | exact rfl | exact trivial | refine And.intro ?_ ?_ | exact e1 | exact e2 | exact congrArg (fun n => Value.slice A3 n c3) e1 | exact congrArg (Value.int .i64) (nat_succ (by omega)))
  · have hx : ¬ i < l.length := by subst hκ; delta kid at h; have h2 : ¬ (i : Int) < (l.length : Int) := of_decide_eq_false h; omega
    cbv
    subst hκ
    delta kid at *
    dsimp only at *
    rw [take_all hx]
    exact ⟨⟨300000, A2, c2, rfl, .inl rfl⟩⟩
def F_joined : FunR := fun κ l rest => match rest with
  | [] => some (κ _ (l.length ≤ 1000000), κ _ (joinedL l))
  | _ => none
def e_joined {κ : Kp} (hκ : κ = kid) : ESpec Tryz.prog := lisRES b_joined F_joined hκ fun l rest p r hF hp A c w hr => by
  unfold F_joined at hF
  split at hF
  · simp only [kid, Option.some.injEq, Prod.mk.injEq] at hF
    obtain ⟨rfl, rfl⟩ := hF
    exact k_joined l hp A c w hr
  · cases hF
end Go.Proofs.YtbcicjmepojlnaaGreat.Eng
/- slices.Concat of two lists, and of three (printed by conc.py of this work); condition: half a million areas in each. -/
namespace Go.Proofs.YtbcicjmepojlnaaGreat.Eng
open Go Go.RowKit
set_option linter.unusedSimpArgs false
set_option linter.unusedVariables false
theorem b_concat : Bodied Tryz.prog 79 := bodied Tryz.func79 rfl (by decide)
theorem sum_wrap {a b : Nat} (ha : a ≤ 1000000) (hb : b ≤ 1000000) : IntKind.i64.wrap ((a : Int) + (b : Int)) = ((a + b : Nat) : Int) := by
  have : w64 ((a : Int) + (b : Int)) = (a : Int) + (b : Int) := w64_id (by unfold In64; omega)
  unfold w64 at this
  rw [this]
  rfl
theorem sum_neg {a b : Nat} (ha : a ≤ 1000000) (hb : b ≤ 1000000) (h : decide (IntKind.i64.wrap ((a : Int) + (b : Int)) < 0) = true) : False := by
  have h := of_decide_eq_true h
  rw [sum_wrap ha hb] at h
  omega
def EC2 (κ : Kp) (A : Option Addr) (l1 : List Ar) (l2 : List Ar) (B1 : Option Addr) (e1 : Nat) (B2 : Option Addr) (e2 : Nat) : List (Nat × Ent) := [(200000, .rd A 1 2 [.sl 200001 B1 (κ _ l1.length) e1, .sl 200002 B2 (κ _ l2.length) e2]), (200001, .rd B1 6 (κ _ l1.length) (κ _ (encL l1))), (200002, .rd B2 6 (κ _ l2.length) (κ _ (encL l2)))]
theorem holdsEC2 {A : Option Addr} {l1 l2 : List Ar} {B1 : Option Addr} {e1 : Nat} {B2 : Option Addr} {e2 : Nat} {w : World} (hr : (Ent.rd A 1 2 [.sl 200001 B1 (l1.length) e1, .sl 200002 B2 (l2.length) e2]).holds w) (hr1 : (Ent.rd B1 6 l1.length (encL l1)).holds w) (hr2 : (Ent.rd B2 6 l2.length (encL l2)).holds w) {κ : Kp} (hκ : κ = kid) : HSat w (fun _ => False) (heapOf (EC2 κ A l1 l2 B1 e1 B2 e2)) w := by
  subst hκ
  refine HSat.reads fun p hp => ?_
  simp only [EC2, List.mem_cons, List.not_mem_nil, or_false] at hp
  rcases hp with rfl | rfl | rfl
  · exact ⟨_, _, _, _, rfl, hr⟩
  · exact ⟨_, _, _, _, rfl, hr1⟩
  · exact ⟨_, _, _, _, rfl, hr2⟩
def pre2 (l1 : List Ar) (l2 : List Ar) (i : Nat) : List Ar := match i with
  | 0 => ([] : List Ar)
  | 1 => l1
  | _ => l1 ++ l2
theorem pre2_le (l1 : List Ar) (l2 : List Ar) (h1 : l1.length ≤ 300000) (h2 : l2.length ≤ 300000) (i : Nat) : (pre2 l1 l2 i).length ≤ 900000 := by
  unfold pre2
  split
  all_goals (try simp only [List.length_append, List.length_nil])
  all_goals omega
set_option maxRecDepth 100000 in
set_option maxHeartbeats 8000000 in
theorem k_concat2 (l1 : List Ar) (l2 : List Ar) (h1 : l1.length ≤ 300000) (h2 : l2.length ≤ 300000) (A : Option Addr) (c : Nat) (B1 : Option Addr) (e1 : Nat) (B2 : Option Addr) (e2 : Nat) (w : World) (hr : (Ent.rd A 1 2 [.sl 200001 B1 (l1.length) e1, .sl 200002 B2 (l2.length) e2]).holds w) (hr1 : (Ent.rd B1 6 l1.length (encL l1)).holds w) (hr2 : (Ent.rd B2 6 l2.length (encL l2)).holds w) :
    Calls Tryz.prog 79 #[.slice A 2 c] w fun e w' => ∃ v H', e = .returned v.den ∧ IsR (l1 ++ l2) v H' ∧ HSat w (fun _ => False) H' w' := by
  obtain ⟨κ, hκ⟩ : ∃ κ : Kp, κ = kid := ⟨_, rfl⟩
  have hH := holdsEC2 hr hr1 hr2 hκ
  refine (callsE (n := 36) FTok [e_grow hκ] mixed [] Tryz.func79 rfl (by kernel_rfl) #[.slice A 2 c] [(0, .c (.sl 200000 A 2 c))] _ w rfl [.tmp 2] rfl (by simp) (by subst hκ; simp [SV.den, C.den, kid]) hH
    (fun v H' => IsR (κ _ (l1 ++ l2)) v H') hκ ?_).mono ?_
  rotate_left
  · subst hκ; intro e w' h; exact h
  cbv
  refine loopG FTok [e_grow hκ] mixed [0, 9, 10] (σ := {i : Nat // i ≤ 2}) (fun q => [(3, .c (.v (.int .i64 (κ _ (((pre2 l1 l2 q.1).length : Nat) : Int))))), (11, .c (.v (.int .i64 ((q.1 : Nat) : Int))))])
    (fun q => EC2 κ A l1 l2 B1 e1 B2 e2) (fun q => 2 - q.1) ⟨0, Nat.zero_le _⟩ [200000, 200001, 200002] ?_ (by decide) ?_ hκ ?_
  · cbv
    subst hκ
    delta kid
    all_goals repeat' (first | exact rfl | exact trivial | refine And.intro ?_ ?_)
  · cbv
    all_goals (subst hκ; delta kid)
    all_goals repeat' (first | exact rfl | exact trivial | refine And.intro ?_ ?_)
  rintro ⟨i, hi⟩
  obtain rfl | rfl | rfl : i = 0 ∨ i = 1 ∨ i = 2 := by omega
  · have hp0 := pre2_le l1 l2 h1 h2 0
    cbv
    refine tst_mk (fun h => ?_) (fun h => ?_)
    rotate_left
    · exfalso; subst hκ; delta kid at h; revert h; decide
    cbv
    repeat' (first | refine And.intro ?_ ?_ | (intro _; cbv) | (refine tst_mk (fun h => ?_) (fun h => ?_) <;> cbv) | (refine LookR.mk' (x := .sl 200001 B1 (κ _ l1.length) e1) (by subst hκ; rfl) ?_; cbv) | (refine LookR.mk' (x := .sl 200002 B2 (κ _ l2.length) e2) (by subst hκ; rfl) ?_; cbv))
    all_goals (clear hH; subst hκ; delta kid at *; try dsimp only at *)
    all_goals (try (exact ⟨by decide⟩))
    all_goals (try (exact ⟨rfl⟩))
    all_goals (try (exact absurd (sum_neg (by omega) (by omega) h) id))
    · have e1 : IntKind.i64.wrap (((pre2 l1 l2 0).length : Int) + (l1.length : Int)) = (((pre2 l1 l2 1).length : Nat) : Int) := by rw [sum_wrap (by omega) (by omega)]; congr 1; simp only [pre2, List.length_append, List.length_nil]; try omega
      refine ⟨⟨⟨1, by decide⟩, [200000, 200001, 200002], (by show 2 - 1 < 2 - 0; decide), (by decide), ?_, ?_⟩⟩
      all_goals repeat' (first | exact rfl | exact trivial | refine And.intro ?_ ?_ | exact congrArg (Value.int .i64) e1)
  · have hp0 := pre2_le l1 l2 h1 h2 1
    cbv
    refine tst_mk (fun h => ?_) (fun h => ?_)
    rotate_left
    · exfalso; subst hκ; delta kid at h; revert h; decide
    cbv
    repeat' (first | refine And.intro ?_ ?_ | (intro _; cbv) | (refine tst_mk (fun h => ?_) (fun h => ?_) <;> cbv) | (refine LookR.mk' (x := .sl 200001 B1 (κ _ l1.length) e1) (by subst hκ; rfl) ?_; cbv) | (refine LookR.mk' (x := .sl 200002 B2 (κ _ l2.length) e2) (by subst hκ; rfl) ?_; cbv))
    all_goals (clear hH; subst hκ; delta kid at *; try dsimp only at *)
    all_goals (try (exact ⟨by decide⟩))
    all_goals (try (exact ⟨rfl⟩))
    all_goals (try (exact absurd (sum_neg (by omega) (by omega) h) id))
    · have e1 : IntKind.i64.wrap (((pre2 l1 l2 1).length : Int) + (l2.length : Int)) = (((pre2 l1 l2 2).length : Nat) : Int) := by rw [sum_wrap (by omega) (by omega)]; congr 1; simp only [pre2, List.length_append, List.length_nil]; try omega
      refine ⟨⟨⟨2, by decide⟩, [200000, 200001, 200002], (by show 2 - 2 < 2 - 1; decide), (by decide), ?_, ?_⟩⟩
      all_goals repeat' (first | exact rfl | exact trivial | refine And.intro ?_ ?_ | exact congrArg (Value.int .i64) e1)
  · have hp0 := pre2_le l1 l2 h1 h2 2
    cbv
    refine tst_mk (fun h => ?_) (fun h => ?_)
    · exfalso; subst hκ; delta kid at h; revert h; decide
    cbv
    repeat' (first | refine And.intro ?_ ?_ | (intro _; cbv))
    · clear hH; subst hκ; delta kid at *; try dsimp only at *
      exact ⟨⟨rfl, rfl, rfl, Int.natCast_nonneg _, by show ((pre2 l1 l2 2).length : Int) ≤ 1000000; omega⟩⟩
    rename_i A2 c2
    refine loopG FTok [e_grow hκ] mixed [0, 25, 26] (σ := {i : Nat // i ≤ 2} × Option Addr × Nat) (fun q => [(6, .c (.sl 300000 q.2.1 (κ _ (pre2 l1 l2 q.1.1).length) q.2.2)), (27, .c (.v (.int .i64 ((q.1.1 : Nat) : Int))))])
      (fun q => EC2 κ A l1 l2 B1 e1 B2 e2 ++ [(300000, .row q.2.1 q.2.2 49 6 (κ _ (pre2 l1 l2 q.1.1).length) (κ _ (encL (pre2 l1 l2 q.1.1))))]) (fun q => 2 - q.1.1) (⟨0, Nat.zero_le _⟩, A2, c2) [200000, 200001, 200002, 24] ?_ (by decide) ?_ hκ ?_
    · cbv
      subst hκ
      delta kid
      all_goals repeat' (first | exact rfl | exact trivial | refine And.intro ?_ ?_)
    · cbv
      all_goals (subst hκ; delta kid)
      all_goals repeat' (first | exact rfl | exact trivial | refine And.intro ?_ ?_)
    rintro ⟨⟨i, hi⟩, A3, c3⟩
    obtain rfl | rfl | rfl : i = 0 ∨ i = 1 ∨ i = 2 := by omega
    · have hp0 := pre2_le l1 l2 h1 h2 0
      cbv
      refine tst_mk (fun h => ?_) (fun h => ?_)
      rotate_left
      · exfalso; subst hκ; delta kid at h; revert h; decide
      cbv
      repeat' (first | refine And.intro ?_ ?_ | (intro _; cbv) | (refine tst_mk (fun h => ?_) (fun h => ?_) <;> cbv) | (refine LookR.mk' (x := .sl 200001 B1 (κ _ l1.length) e1) (by subst hκ; rfl) ?_; cbv) | (refine LookR.mk' (x := .sl 200002 B2 (κ _ l2.length) e2) (by subst hκ; rfl) ?_; cbv))
      all_goals (clear hH; subst hκ; delta kid at *; try dsimp only at *)
      all_goals (try (exact ⟨by decide⟩))
      all_goals (try (exact ⟨rfl⟩))
      all_goals (try (exact ⟨⟨rfl, rfl, rfl, rfl, rfl⟩⟩))
      all_goals (try (exact ⟨⟨rfl, rfl, .inl rfl, encL_ok _⟩⟩))
      all_goals (try (exact ⟨by simp only [maxLen]; omega⟩))
      rename_i A4 c4 _
      have e1 : (pre2 l1 l2 0).length + l1.length = (pre2 l1 l2 1).length := by simp only [pre2, List.length_append, List.length_nil]; try omega
      have e2 : encL (pre2 l1 l2 0) ++ encL l1 = encL (pre2 l1 l2 1) := by simp only [pre2]; rw [← encL_app]; try rfl
      refine ⟨⟨(⟨1, by decide⟩, A4, c4), [200000, 200001, 200002, 33], (by show 2 - 1 < 2 - 0; decide), (by decide), ?_, ?_⟩⟩
      all_goals repeat' (first | exact rfl | exact trivial | refine And.intro ?_ ?_ | exact e1 | exact e2 | exact congrArg (fun n => Value.slice A4 n c4) e1)
    · have hp0 := pre2_le l1 l2 h1 h2 1
      cbv
      refine tst_mk (fun h => ?_) (fun h => ?_)
      rotate_left
      · exfalso; subst hκ; delta kid at h; revert h; decide
      cbv
      repeat' (first | refine And.intro ?_ ?_ | (intro _; cbv) | (refine tst_mk (fun h => ?_) (fun h => ?_) <;> cbv) | (refine LookR.mk' (x := .sl 200001 B1 (κ _ l1.length) e1) (by subst hκ; rfl) ?_; cbv) | (refine LookR.mk' (x := .sl 200002 B2 (κ _ l2.length) e2) (by subst hκ; rfl) ?_; cbv))
      all_goals (clear hH; subst hκ; delta kid at *; try dsimp only at *)
      all_goals (try (exact ⟨by decide⟩))
      all_goals (try (exact ⟨rfl⟩))
      all_goals (try (exact ⟨⟨rfl, rfl, rfl, rfl, rfl⟩⟩))
      all_goals (try (exact ⟨⟨rfl, rfl, .inl rfl, encL_ok _⟩⟩))
      all_goals (try (exact ⟨by simp only [maxLen]; omega⟩))
      rename_i A4 c4 _
      have e1 : (pre2 l1 l2 1).length + l2.length = (pre2 l1 l2 2).length := by simp only [pre2, List.length_append, List.length_nil]; try omega
      have e2 : encL (pre2 l1 l2 1) ++ encL l2 = encL (pre2 l1 l2 2) := by simp only [pre2]; rw [← encL_app]; try rfl
      refine ⟨⟨(⟨2, by decide⟩, A4, c4), [200000, 200001, 200002, 33], (by show 2 - 2 < 2 - 1; decide), (by decide), ?_, ?_⟩⟩
      all_goals repeat' (first | exact rfl | exact trivial | refine And.intro ?_ ?_ | exact e1 | exact e2 | exact congrArg (fun n => Value.slice A4 n c4) e1)
    · cbv
      refine tst_mk (fun h => ?_) (fun h => ?_)
      · exfalso; subst hκ; delta kid at h; revert h; decide
      cbv
      subst hκ
      delta kid at *
      dsimp only at *
      exact ⟨⟨300000, A3, c3, rfl, .inl rfl⟩⟩
def EC3 (κ : Kp) (A : Option Addr) (l1 : List Ar) (l2 : List Ar) (l3 : List Ar) (B1 : Option Addr) (e1 : Nat) (B2 : Option Addr) (e2 : Nat) (B3 : Option Addr) (e3 : Nat) : List (Nat × Ent) := [(200000, .rd A 1 3 [.sl 200001 B1 (κ _ l1.length) e1, .sl 200002 B2 (κ _ l2.length) e2, .sl 200003 B3 (κ _ l3.length) e3]), (200001, .rd B1 6 (κ _ l1.length) (κ _ (encL l1))), (200002, .rd B2 6 (κ _ l2.length) (κ _ (encL l2))), (200003, .rd B3 6 (κ _ l3.length) (κ _ (encL l3)))]
theorem holdsEC3 {A : Option Addr} {l1 l2 l3 : List Ar} {B1 : Option Addr} {e1 : Nat} {B2 : Option Addr} {e2 : Nat} {B3 : Option Addr} {e3 : Nat} {w : World} (hr : (Ent.rd A 1 3 [.sl 200001 B1 (l1.length) e1, .sl 200002 B2 (l2.length) e2, .sl 200003 B3 (l3.length) e3]).holds w) (hr1 : (Ent.rd B1 6 l1.length (encL l1)).holds w) (hr2 : (Ent.rd B2 6 l2.length (encL l2)).holds w) (hr3 : (Ent.rd B3 6 l3.length (encL l3)).holds w) {κ : Kp} (hκ : κ = kid) : HSat w (fun _ => False) (heapOf (EC3 κ A l1 l2 l3 B1 e1 B2 e2 B3 e3)) w := by
  subst hκ
  refine HSat.reads fun p hp => ?_
  simp only [EC3, List.mem_cons, List.not_mem_nil, or_false] at hp
  rcases hp with rfl | rfl | rfl | rfl
  · exact ⟨_, _, _, _, rfl, hr⟩
  · exact ⟨_, _, _, _, rfl, hr1⟩
  · exact ⟨_, _, _, _, rfl, hr2⟩
  · exact ⟨_, _, _, _, rfl, hr3⟩
def pre3 (l1 : List Ar) (l2 : List Ar) (l3 : List Ar) (i : Nat) : List Ar := match i with
  | 0 => ([] : List Ar)
  | 1 => l1
  | 2 => l1 ++ l2
  | _ => l1 ++ l2 ++ l3
theorem pre3_le (l1 : List Ar) (l2 : List Ar) (l3 : List Ar) (h1 : l1.length ≤ 300000) (h2 : l2.length ≤ 300000) (h3 : l3.length ≤ 300000) (i : Nat) : (pre3 l1 l2 l3 i).length ≤ 900000 := by
  unfold pre3
  split
  all_goals (try simp only [List.length_append, List.length_nil])
  all_goals omega
set_option maxRecDepth 100000 in
set_option maxHeartbeats 8000000 in
theorem k_concat3 (l1 : List Ar) (l2 : List Ar) (l3 : List Ar) (h1 : l1.length ≤ 300000) (h2 : l2.length ≤ 300000) (h3 : l3.length ≤ 300000) (A : Option Addr) (c : Nat) (B1 : Option Addr) (e1 : Nat) (B2 : Option Addr) (e2 : Nat) (B3 : Option Addr) (e3 : Nat) (w : World) (hr : (Ent.rd A 1 3 [.sl 200001 B1 (l1.length) e1, .sl 200002 B2 (l2.length) e2, .sl 200003 B3 (l3.length) e3]).holds w) (hr1 : (Ent.rd B1 6 l1.length (encL l1)).holds w) (hr2 : (Ent.rd B2 6 l2.length (encL l2)).holds w) (hr3 : (Ent.rd B3 6 l3.length (encL l3)).holds w) :
    Calls Tryz.prog 79 #[.slice A 3 c] w fun e w' => ∃ v H', e = .returned v.den ∧ IsR (l1 ++ l2 ++ l3) v H' ∧ HSat w (fun _ => False) H' w' := by
  obtain ⟨κ, hκ⟩ : ∃ κ : Kp, κ = kid := ⟨_, rfl⟩
  have hH := holdsEC3 hr hr1 hr2 hr3 hκ
  refine (callsE (n := 36) FTok [e_grow hκ] mixed [] Tryz.func79 rfl (by kernel_rfl) #[.slice A 3 c] [(0, .c (.sl 200000 A 3 c))] _ w rfl [.tmp 2] rfl (by simp) (by subst hκ; simp [SV.den, C.den, kid]) hH
    (fun v H' => IsR (κ _ (l1 ++ l2 ++ l3)) v H') hκ ?_).mono ?_
  rotate_left
  · subst hκ; intro e w' h; exact h
  cbv
  refine loopG FTok [e_grow hκ] mixed [0, 9, 10] (σ := {i : Nat // i ≤ 3}) (fun q => [(3, .c (.v (.int .i64 (κ _ (((pre3 l1 l2 l3 q.1).length : Nat) : Int))))), (11, .c (.v (.int .i64 ((q.1 : Nat) : Int))))])
    (fun q => EC3 κ A l1 l2 l3 B1 e1 B2 e2 B3 e3) (fun q => 3 - q.1) ⟨0, Nat.zero_le _⟩ [200000, 200001, 200002, 200003] ?_ (by decide) ?_ hκ ?_
  · cbv
    subst hκ
    delta kid
    all_goals repeat' (first | exact rfl | exact trivial | refine And.intro ?_ ?_)
  · cbv
    all_goals (subst hκ; delta kid)
    all_goals repeat' (first | exact rfl | exact trivial | refine And.intro ?_ ?_)
  rintro ⟨i, hi⟩
  obtain rfl | rfl | rfl | rfl : i = 0 ∨ i = 1 ∨ i = 2 ∨ i = 3 := by omega
  · have hp0 := pre3_le l1 l2 l3 h1 h2 h3 0
    cbv
    refine tst_mk (fun h => ?_) (fun h => ?_)
    rotate_left
    · exfalso; subst hκ; delta kid at h; revert h; decide
    cbv
    repeat' (first | refine And.intro ?_ ?_ | (intro _; cbv) | (refine tst_mk (fun h => ?_) (fun h => ?_) <;> cbv) | (refine LookR.mk' (x := .sl 200001 B1 (κ _ l1.length) e1) (by subst hκ; rfl) ?_; cbv) | (refine LookR.mk' (x := .sl 200002 B2 (κ _ l2.length) e2) (by subst hκ; rfl) ?_; cbv) | (refine LookR.mk' (x := .sl 200003 B3 (κ _ l3.length) e3) (by subst hκ; rfl) ?_; cbv))
    all_goals (clear hH; subst hκ; delta kid at *; try dsimp only at *)
    all_goals (try (exact ⟨by decide⟩))
    all_goals (try (exact ⟨rfl⟩))
    all_goals (try (exact absurd (sum_neg (by omega) (by omega) h) id))
    · have e1 : IntKind.i64.wrap (((pre3 l1 l2 l3 0).length : Int) + (l1.length : Int)) = (((pre3 l1 l2 l3 1).length : Nat) : Int) := by rw [sum_wrap (by omega) (by omega)]; congr 1; simp only [pre3, List.length_append, List.length_nil]; try omega
      refine ⟨⟨⟨1, by decide⟩, [200000, 200001, 200002, 200003], (by show 3 - 1 < 3 - 0; decide), (by decide), ?_, ?_⟩⟩
      all_goals repeat' (first | exact rfl | exact trivial | refine And.intro ?_ ?_ | exact congrArg (Value.int .i64) e1)
  · have hp0 := pre3_le l1 l2 l3 h1 h2 h3 1
    cbv
    refine tst_mk (fun h => ?_) (fun h => ?_)
    rotate_left
    · exfalso; subst hκ; delta kid at h; revert h; decide
    cbv
    repeat' (first | refine And.intro ?_ ?_ | (intro _; cbv) | (refine tst_mk (fun h => ?_) (fun h => ?_) <;> cbv) | (refine LookR.mk' (x := .sl 200001 B1 (κ _ l1.length) e1) (by subst hκ; rfl) ?_; cbv) | (refine LookR.mk' (x := .sl 200002 B2 (κ _ l2.length) e2) (by subst hκ; rfl) ?_; cbv) | (refine LookR.mk' (x := .sl 200003 B3 (κ _ l3.length) e3) (by subst hκ; rfl) ?_; cbv))
    all_goals (clear hH; subst hκ; delta kid at *; try dsimp only at *)
    all_goals (try (exact ⟨by decide⟩))
    all_goals (try (exact ⟨rfl⟩))
    all_goals (try (exact absurd (sum_neg (by omega) (by omega) h) id))
    · have e1 : IntKind.i64.wrap (((pre3 l1 l2 l3 1).length : Int) + (l2.length : Int)) = (((pre3 l1 l2 l3 2).length : Nat) : Int) := by rw [sum_wrap (by omega) (by omega)]; congr 1; simp only [pre3, List.length_append, List.length_nil]; try omega
      refine ⟨⟨⟨2, by decide⟩, [200000, 200001, 200002, 200003], (by show 3 - 2 < 3 - 1; decide), (by decide), ?_, ?_⟩⟩
      all_goals repeat' (first | exact rfl | exact trivial | refine And.intro ?_ ?_ | exact congrArg (Value.int .i64) e1)
  · have hp0 := pre3_le l1 l2 l3 h1 h2 h3 2
    cbv
    refine tst_mk (fun h => ?_) (fun h => ?_)
    rotate_left
    · exfalso; subst hκ; delta kid at h; revert h; decide
    cbv
    repeat' (first | refine And.intro ?_ ?_ | (intro _; cbv) | (refine tst_mk (fun h => ?_) (fun h => ?_) <;> cbv) | (refine LookR.mk' (x := .sl 200001 B1 (κ _ l1.length) e1) (by subst hκ; rfl) ?_; cbv) | (refine LookR.mk' (x := .sl 200002 B2 (κ _ l2.length) e2) (by subst hκ; rfl) ?_; cbv) | (refine LookR.mk' (x := .sl 200003 B3 (κ _ l3.length) e3) (by subst hκ; rfl) ?_; cbv))
    all_goals (clear hH; subst hκ; delta kid at *; try dsimp only at *)
    all_goals (try (exact ⟨by decide⟩))
    all_goals (try (exact ⟨rfl⟩))
    all_goals (try (exact absurd (sum_neg (by omega) (by omega) h) id))
    · have e1 : IntKind.i64.wrap (((pre3 l1 l2 l3 2).length : Int) + (l3.length : Int)) = (((pre3 l1 l2 l3 3).length : Nat) : Int) := by rw [sum_wrap (by omega) (by omega)]; congr 1; simp only [pre3, List.length_append, List.length_nil]; try omega
      refine ⟨⟨⟨3, by decide⟩, [200000, 200001, 200002, 200003], (by show 3 - 3 < 3 - 2; decide), (by decide), ?_, ?_⟩⟩
      all_goals repeat' (first | exact rfl | exact trivial | refine And.intro ?_ ?_ | exact congrArg (Value.int .i64) e1)
  · have hp0 := pre3_le l1 l2 l3 h1 h2 h3 3
    cbv
    refine tst_mk (fun h => ?_) (fun h => ?_)
    · exfalso; subst hκ; delta kid at h; revert h; decide
    cbv
    repeat' (first | refine And.intro ?_ ?_ | (intro _; cbv))
    · clear hH; subst hκ; delta kid at *; try dsimp only at *
      exact ⟨⟨rfl, rfl, rfl, Int.natCast_nonneg _, by show ((pre3 l1 l2 l3 3).length : Int) ≤ 1000000; omega⟩⟩
    rename_i A2 c2
    refine loopG FTok [e_grow hκ] mixed [0, 25, 26] (σ := {i : Nat // i ≤ 3} × Option Addr × Nat) (fun q => [(6, .c (.sl 300000 q.2.1 (κ _ (pre3 l1 l2 l3 q.1.1).length) q.2.2)), (27, .c (.v (.int .i64 ((q.1.1 : Nat) : Int))))])
      (fun q => EC3 κ A l1 l2 l3 B1 e1 B2 e2 B3 e3 ++ [(300000, .row q.2.1 q.2.2 49 6 (κ _ (pre3 l1 l2 l3 q.1.1).length) (κ _ (encL (pre3 l1 l2 l3 q.1.1))))]) (fun q => 3 - q.1.1) (⟨0, Nat.zero_le _⟩, A2, c2) [200000, 200001, 200002, 200003, 24] ?_ (by decide) ?_ hκ ?_
    · cbv
      subst hκ
      delta kid
      all_goals repeat' (first | exact rfl | exact trivial | refine And.intro ?_ ?_)
    · cbv
      all_goals (subst hκ; delta kid)
      all_goals repeat' (first | exact rfl | exact trivial | refine And.intro ?_ ?_)
    rintro ⟨⟨i, hi⟩, A3, c3⟩
    obtain rfl | rfl | rfl | rfl : i = 0 ∨ i = 1 ∨ i = 2 ∨ i = 3 := by omega
    · have hp0 := pre3_le l1 l2 l3 h1 h2 h3 0
      cbv
      refine tst_mk (fun h => ?_) (fun h => ?_)
      rotate_left
      · exfalso; subst hκ; delta kid at h; revert h; decide
      cbv
      repeat' (first | refine And.intro ?_ ?_ | (intro _; cbv) | (refine tst_mk (fun h => ?_) (fun h => ?_) <;> cbv) | (refine LookR.mk' (x := .sl 200001 B1 (κ _ l1.length) e1) (by subst hκ; rfl) ?_; cbv) | (refine LookR.mk' (x := .sl 200002 B2 (κ _ l2.length) e2) (by subst hκ; rfl) ?_; cbv) | (refine LookR.mk' (x := .sl 200003 B3 (κ _ l3.length) e3) (by subst hκ; rfl) ?_; cbv))
      all_goals (clear hH; subst hκ; delta kid at *; try dsimp only at *)
      all_goals (try (exact ⟨by decide⟩))
      all_goals (try (exact ⟨rfl⟩))
      all_goals (try (exact ⟨⟨rfl, rfl, rfl, rfl, rfl⟩⟩))
      all_goals (try (exact ⟨⟨rfl, rfl, .inl rfl, encL_ok _⟩⟩))
      all_goals (try (exact ⟨by simp only [maxLen]; omega⟩))
      rename_i A4 c4 _
      have e1 : (pre3 l1 l2 l3 0).length + l1.length = (pre3 l1 l2 l3 1).length := by simp only [pre3, List.length_append, List.length_nil]; try omega
      have e2 : encL (pre3 l1 l2 l3 0) ++ encL l1 = encL (pre3 l1 l2 l3 1) := by simp only [pre3]; rw [← encL_app]; try rfl
      refine ⟨⟨(⟨1, by decide⟩, A4, c4), [200000, 200001, 200002, 200003, 33], (by show 3 - 1 < 3 - 0; decide), (by decide), ?_, ?_⟩⟩
      all_goals repeat' (first | exact rfl | exact trivial | refine And.intro ?_ ?_ | exact e1 | exact e2 | exact congrArg (fun n => Value.slice A4 n c4) e1)
    · have hp0 := pre3_le l1 l2 l3 h1 h2 h3 1
      cbv
      refine tst_mk (fun h => ?_) (fun h => ?_)
      rotate_left
      · exfalso; subst hκ; delta kid at h; revert h; decide
      cbv
      repeat' (first | refine And.intro ?_ ?_ | (intro _; cbv) | (refine tst_mk (fun h => ?_) (fun h => ?_) <;> cbv) | (refine LookR.mk' (x := .sl 200001 B1 (κ _ l1.length) e1) (by subst hκ; rfl) ?_; cbv) | (refine LookR.mk' (x := .sl 200002 B2 (κ _ l2.length) e2) (by subst hκ; rfl) ?_; cbv) | (refine LookR.mk' (x := .sl 200003 B3 (κ _ l3.length) e3) (by subst hκ; rfl) ?_; cbv))
      all_goals (clear hH; subst hκ; delta kid at *; try dsimp only at *)
      all_goals (try (exact ⟨by decide⟩))
      all_goals (try (exact ⟨rfl⟩))
      all_goals (try (exact ⟨⟨rfl, rfl, rfl, rfl, rfl⟩⟩))
      all_goals (try (exact ⟨⟨rfl, rfl, .inl rfl, encL_ok _⟩⟩))
      all_goals (try (exact ⟨by simp only [maxLen]; omega⟩))
      rename_i A4 c4 _
      have e1 : (pre3 l1 l2 l3 1).length + l2.length = (pre3 l1 l2 l3 2).length := by simp only [pre3, List.length_append, List.length_nil]; try omega
      have e2 : encL (pre3 l1 l2 l3 1) ++ encL l2 = encL (pre3 l1 l2 l3 2) := by simp only [pre3]; rw [← encL_app]; try rfl
      refine ⟨⟨(⟨2, by decide⟩, A4, c4), [200000, 200001, 200002, 200003, 33], (by show 3 - 2 < 3 - 1; decide), (by decide), ?_, ?_⟩⟩
      all_goals repeat' (first | exact rfl | exact trivial | refine And.intro ?_ ?_ | exact e1 | exact e2 | exact congrArg (fun n => Value.slice A4 n c4) e1)
    · have hp0 := pre3_le l1 l2 l3 h1 h2 h3 2
      cbv
      refine tst_mk (fun h => ?_) (fun h => ?_)
      rotate_left
      · exfalso; subst hκ; delta kid at h; revert h; decide
      cbv
      repeat' (first | refine And.intro ?_ ?_ | (intro _; cbv) | (refine tst_mk (fun h => ?_) (fun h => ?_) <;> cbv) | (refine LookR.mk' (x := .sl 200001 B1 (κ _ l1.length) e1) (by subst hκ; rfl) ?_; cbv) | (refine LookR.mk' (x := .sl 200002 B2 (κ _ l2.length) e2) (by subst hκ; rfl) ?_; cbv) | (refine LookR.mk' (x := .sl 200003 B3 (κ _ l3.length) e3) (by subst hκ; rfl) ?_; cbv))
      all_goals (clear hH; subst hκ; delta kid at *; try dsimp only at *)
      all_goals (try (exact ⟨by decide⟩))
      all_goals (try (exact ⟨rfl⟩))
      all_goals (try (exact ⟨⟨rfl, rfl, rfl, rfl, rfl⟩⟩))
      all_goals (try (exact ⟨⟨rfl, rfl, .inl rfl, encL_ok _⟩⟩))
      all_goals (try (exact ⟨by simp only [maxLen]; omega⟩))
      rename_i A4 c4 _
      have e1 : (pre3 l1 l2 l3 2).length + l3.length = (pre3 l1 l2 l3 3).length := by simp only [pre3, List.length_append, List.length_nil]; try omega
      have e2 : encL (pre3 l1 l2 l3 2) ++ encL l3 = encL (pre3 l1 l2 l3 3) := by simp only [pre3]; rw [← encL_app]; try rfl
      refine ⟨⟨(⟨3, by decide⟩, A4, c4), [200000, 200001, 200002, 200003, 33], (by show 3 - 3 < 3 - 2; decide), (by decide), ?_, ?_⟩⟩
      all_goals repeat' (first | exact rfl | exact trivial | refine And.intro ?_ ?_ | exact e1 | exact e2 | exact congrArg (fun n => Value.slice A4 n c4) e1)
    · cbv
      refine tst_mk (fun h => ?_) (fun h => ?_)
      · exfalso; subst hκ; delta kid at h; revert h; decide
      cbv
      subst hκ
      delta kid at *
      dsimp only at *
      exact ⟨⟨300000, A3, c3, rfl, .inl rfl⟩⟩
end Go.Proofs.YtbcicjmepojlnaaGreat.Eng
