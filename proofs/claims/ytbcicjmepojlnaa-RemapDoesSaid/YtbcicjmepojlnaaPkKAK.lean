/- Texts of this work, laid together: symbolic execution over the model, contracts of the program's functions, what they come to; conditions: as each says. -/
import Derived.WalkKit
import Derived.WalkSpells
import Derived.WalkLawsBesides
import Derived.Lib.AppendZeros
import Derived.Lib.Walk
import Derived.Lib.SliceRun
import Derived.Test.YtbcicjmepojlnaaPkKAG
import Derived.Test.YtbcicjmepojlnaaPkKAH
/- slices.Grow of nil; condition: at most a million areas. -/
namespace Go.Proofs.Ytbcicjmepojlnaa.Eng
open Go Go.RowKit
set_option linter.unusedVariables false
set_option linter.unusedSimpArgs false
set_option maxHeartbeats 1000000 in
set_option maxRecDepth 100000 in
theorem grow_zero (w : World) : Calls Try.prog 149 #[.slice none 0 0, .int .i64 0] w fun e w' => e = .returned (.slice none 0 0) ∧ w' = w := by
  go_enter Try.func149, Try.ntmps149
  go_wp2
  go_ret
  exact ⟨rfl, rfl⟩
set_option maxHeartbeats 1000000 in
set_option maxRecDepth 100000 in
theorem grow_pos (n : Nat) (h0 : 0 < n) (hn : n ≤ 1000000) (w : World) : Calls Try.prog 149 #[.slice none 0 0, .int .i64 (n : Int)] w fun e w' => ∃ cap2 Z, e = .returned (.slice (some ⟨w.heap.size, 0, none⟩) 0 cap2) ∧
    w'.heap[w.heap.size]? = some (.cells Z 53 (0, 0)) ∧ Z.size = cap2 * 6 ∧ cap2 ≤ maxLen ∧ w.heap.size < w'.heap.size ∧ Below w.heap.size w w' := by
  go_enter Try.func149, Try.ntmps149
  obtain ⟨z, hz, hzs⟩ : ∃ z, Try.t53.zero = some z ∧ z.cells.size = 6 := ⟨_, rfl, by decide⟩
  have hb : Try.t53.bytes = 48 := rfl
  have h3 : Try.prog.underlying 3 = some (.int .i64) := by kernel_rfl
  have hi : Try.prog.info? 53 = some Try.t53 := by kernel_rfl
  have happ := Lib.run_append_nil_zeros (P := Try.prog) w 22 3 22 53 Try.t53 z .i64 .i64 un22 h3 hi hz n h0 (by show 0 < 6; decide) (by omega) (by rw [hb]; omega)
  generalize hcap : grownCap w n 0 53 = cap2 at happ
  have hcapge : n ≤ cap2 := by rw [← hcap]; exact grownCap_ge w _ 0 53
  have hcaple : cap2 ≤ maxLen := by rw [← hcap]; exact grownCap_le_maxLen w _ 0 53 (by unfold maxLen; omega)
  generalize hZ : (Builtin.zeroCells z.cells n ++ Builtin.zeroCells z.cells (cap2 - n)) = Z at happ
  have hZs : Z.size = cap2 * 6 := by rw [← hZ]; simp [size_zeroCells, hzs]; omega
  clear hcap hZ
  go_wp2_with (at_builtin; refine Lib.wpList_append_run _ rfl _ _ _ _ rfl _ _ rfl rfl _ _ happ ?_)
  go_ret
  exact ⟨cap2, Z, rfl, heap_alloc_new w _, hZs, hcaple, (by show w.heap.size < (w.heap.push _).size; rw [Array.size_push]; omega), rfl, rfl, rfl, (by show w.heap.size ≤ (w.heap.push _).size; rw [Array.size_push]; omega), fun k hk => RowKit.Below.heap_alloc w _ k hk⟩
def growT (κ : Kp) : TSpec := fun args H d K => match args with
  | [.c (.sl id A n0 c0), .c (.v (.int .i64 n))] => Side (κ _ (A = none ∧ n0 = 0 ∧ c0 = 0 ∧ 0 ≤ n ∧ n ≤ 1000000)) ∧ ∀ (A2 : Option Addr) (c2 : Nat), K (.c (.sl d A2 0 c2)) [(d, some (.row A2 c2 53 6 0 []))]
  | _ => False
theorem growT_conj (args : List SV) (H : Heap) (d : Nat) : ConjP (growT kid args H d) (okKey false H d) := by
  unfold growT
  split
  · exact .side fun _ => .all2 (fun A2 c2 => .c (.sl d A2 0 c2)) (fun A2 c2 => [(d, some (.row A2 c2 53 6 0 []))]) (by simp [okKey])
  · exact .false_
theorem b_grow : Bodied Try.prog 149 := bodied Try.func149 rfl (by decide)
def e_grow {κ : Kp} (hκ : κ = kid) : ESpec Try.prog := ES b_grow false growT hκ growT_conj fun args H0 H d w0 M w hs hsub hH => by
  have hs' := hs
  unfold growT at hs'
  split at hs'
  case h_2 => exact hs'.elim
  rename_i id A n0 c0 n
  obtain ⟨⟨h1⟩, _⟩ := hs'
  obtain ⟨rfl, rfl, rfl, h2, h3⟩ := h1
  obtain ⟨m, rfl⟩ := Int.eq_ofNat_of_zero_le h2
  have hkey : ∀ (A2 : Option Addr) (c2 : Nat) (K : KT), growT kid [.c (.sl id none 0 0), .c (.v (.int .i64 (m : Int)))] H0 d K → K (.c (.sl d A2 0 c2)) [(d, some (.row A2 c2 53 6 0 []))] := by
    intro A2 c2 K hK
    exact hK.2 A2 c2
  rcases Nat.eq_zero_or_pos m with hm | hm
  · subst hm
    refine (grow_zero w).mono ?_
    rintro e w' ⟨rfl, rfl⟩
    refine ⟨.c (.sl d none 0 0), [(d, some (.row none 0 53 6 0 []))], _, rfl, hkey none 0, fun _ => rfl, ?_⟩
    have := hH.step (w' := w') none (fun _ => False) rfl rfl rfl (Nat.le_refl _) (fun _ _ _ => rfl) (fun _ h => h.elim) d (.row none 0 53 6 0 []) ((free_block (e := .row none 0 53 6 0 []) ⟨rfl, rfl, rfl, rfl⟩).2 w') (fun g hg => by rw [(free_block (e := .row none 0 53 6 0 []) ⟨rfl, rfl, rfl, rfl⟩).1] at hg; cases hg)
    exact this
  · refine (grow_pos m hm (by omega) w).mono ?_
    rintro e w' ⟨c2, Z, rfl, hg, hz, hle, hlt, hb⟩
    refine ⟨.c (.sl d (some ⟨w.heap.size, 0, none⟩) 0 c2), [(d, some (.row (some ⟨w.heap.size, 0, none⟩) c2 53 6 0 []))], _, rfl, hkey _ c2, fun _ => rfl, ?_⟩
    have := hH.step (w' := w') none (fun _ => False) hb.os hb.tape hb.output hb.size (fun k hk _ => hb.block k hk) (fun _ h => h.elim) d (.row (some ⟨w.heap.size, 0, none⟩) c2 53 6 0 []) ⟨rfl, Nat.zero_le _, fun hc => ⟨w.heap.size, Z, rfl, hg, hle, hz, by simp⟩⟩ (fun g hg => by
      simp only [Ent.block] at hg
      split at hg
      · cases hg
      · injection hg with hg
        subst hg
        exact ⟨hlt, .inr (Nat.le_refl _)⟩)
    exact this
end Go.Proofs.Ytbcicjmepojlnaa.Eng
/- Contracts of functions of a list that hand back a new list; no condition. -/
namespace Go.Proofs.Ytbcicjmepojlnaa.Eng
open Go Go.RowKit
set_option linter.unusedSimpArgs false
set_option linter.unusedVariables false
theorem take_next {l : List Ar} {i : Nat} (h : i < l.length) : l.take (i + 1) = l.take i ++ [nthA l i] := by
  rw [List.take_add_one, nthA_get h]
  rfl
theorem take_all {l : List Ar} {i : Nat} (h : ¬ i < l.length) : l.take i = l := List.take_of_length_le (by omega)
theorem encL_app (l k : List Ar) : encL (l ++ k) = encL l ++ encL k := by
  unfold encL
  rw [List.flatMap_append]
theorem encL_one (a : Ar) : encL [a] = encA a := by
  unfold encL
  rw [List.flatMap_cons, List.flatMap_nil, List.append_nil]
theorem encL_ok (l : List Ar) : ok1 (encL l) = true := enc_ok1 (fun x => rfl) l
/-! ### The pure functions -/
def partL (lo hi : Int) (a : Ar) : List Ar := if hasPart a lo hi = true then [partA a lo hi] else []
def withinL (l : List Ar) (lo hi : Int) : List Ar := l.flatMap (partL lo hi)
theorem within_app (l k : List Ar) (lo hi : Int) : withinL (l ++ k) lo hi = withinL l lo hi ++ withinL k lo hi := by
  unfold withinL
  rw [List.flatMap_append]
theorem within_one (a : Ar) (lo hi : Int) : withinL [a] lo hi = partL lo hi a := by
  unfold withinL
  rw [List.flatMap_cons, List.flatMap_nil, List.append_nil]
theorem partL_len (lo hi : Int) (a : Ar) : (partL lo hi a).length ≤ 1 := by
  unfold partL
  split <;> simp
theorem flat_le {f : Ar → List Ar} (h : ∀ a, (f a).length ≤ 1) : ∀ l : List Ar, (l.flatMap f).length ≤ l.length
  | [] => by simp
  | a :: r => by
    rw [List.flatMap_cons, List.length_append, List.length_cons]
    have := h a
    have := flat_le h r
    omega
theorem within_le (l : List Ar) (lo hi : Int) : (withinL l lo hi).length ≤ l.length := flat_le (partL_len lo hi) l
def stepJ (out : List Ar) (a : Ar) : List Ar := match out.getLast? with
  | none => [a]
  | some z => if joinsA z a = true then out.dropLast ++ [joinA z a] else out ++ [a]
def joinedL (l : List Ar) : List Ar := l.foldl stepJ []
theorem joined_app (l : List Ar) (a : Ar) : joinedL (l ++ [a]) = stepJ (joinedL l) a := by
  unfold joinedL
  rw [List.foldl_append]
  rfl
theorem stepJ_le (out : List Ar) (a : Ar) : (stepJ out a).length ≤ out.length + 1 := by
  unfold stepJ
  split
  · simp
  · split
    · simp
    · simp
theorem joined_le (l : List Ar) : (joinedL l).length ≤ l.length := by
  suffices h : ∀ (l out : List Ar), (l.foldl stepJ out).length ≤ out.length + l.length by simpa [joinedL] using h l []
  intro l
  induction l with
  | nil => intro out; simp
  | cons a r ih =>
    intro out
    have h1 := ih (stepJ out a)
    have h2 := stepJ_le out a
    simp only [List.foldl_cons, List.length_cons]
    omega
def aheadA (from_ : Int) (a : Ar) : List Ar := if (hasPart a 65536 (maxI from_ 65536) && decide (from_ > a.s)) = true then [partA a 65536 (maxI from_ 65536)] else []
def behindA (to : Int) (a : Ar) : List Ar := if (hasPart a (maxI to 65536) 2097152 && decide (to < a.e)) = true then [partA a (maxI to 65536) 2097152] else []
def aheadL (l : List Ar) (from_ : Int) : List Ar := l.flatMap (aheadA from_)
def behindL (l : List Ar) (to : Int) : List Ar := l.flatMap (behindA to)
theorem ahead_app (l k : List Ar) (f : Int) : aheadL (l ++ k) f = aheadL l f ++ aheadL k f := by
  unfold aheadL
  rw [List.flatMap_append]
theorem behind_app (l k : List Ar) (f : Int) : behindL (l ++ k) f = behindL l f ++ behindL k f := by
  unfold behindL
  rw [List.flatMap_append]
theorem ahead_one (a : Ar) (f : Int) : aheadL [a] f = aheadA f a := by
  unfold aheadL
  rw [List.flatMap_cons, List.flatMap_nil, List.append_nil]
theorem behind_one (a : Ar) (f : Int) : behindL [a] f = behindA f a := by
  unfold behindL
  rw [List.flatMap_cons, List.flatMap_nil, List.append_nil]
theorem aheadA_len (f : Int) (a : Ar) : (aheadA f a).length ≤ 1 := by
  unfold aheadA
  split <;> simp
theorem behindA_len (f : Int) (a : Ar) : (behindA f a).length ≤ 1 := by
  unfold behindA
  split <;> simp
theorem ahead_le (l : List Ar) (f : Int) : (aheadL l f).length ≤ l.length := flat_le (aheadA_len f) l
theorem behind_le (l : List Ar) (f : Int) : (behindL l f).length ≤ l.length := flat_le (behindA_len f) l
def toI (hi : Int) : Int := if hi < 2097152 then w64 (0 - floorA (w64 (0 - hi))) else hi
def aroundA (l : List Ar) (lo hi : Int) : List Ar := if lo ≥ hi then l else aheadL l (floorA lo)
def aroundB (l : List Ar) (lo hi : Int) : List Ar := if lo ≥ hi then [] else behindL l (toI hi)
def cutL (l : List Ar) (lo hi : Int) : List Ar := if rightL l = true then aroundA l lo hi ++ aroundB l lo hi else []
def putL (l : List Ar) (a : Ar) : List Ar := if (rightL l && formed a) = true then joinedL (aroundA l a.s a.e ++ [a] ++ aroundB l a.s a.e) else []
def setA (p : Int) (a : Ar) : Ar := { a with p := p }
/-! ### Contracts -/
structure IsR (r : List Ar) (v : SV) (H' : Heap) : Prop where
  h : ∃ i A2 c2, v = .c (.sl i A2 r.length c2) ∧ (H' i = some (.row A2 c2 53 6 r.length (encL r)) ∨ (r = [] ∧ A2 = none ∧ c2 = 0))
theorem mutE_nil : (fun _ : Nat => False) = mutE [] := by
  funext g
  apply propext
  refine ⟨fun h => h.elim, ?_⟩
  rintro ⟨k, t, e, hk, _⟩
  simp at hk
theorem IsR.row {r : List Ar} {v : SV} {H' : Heap} {w w' : World} {M : Nat → Prop} (h : IsR r v H') (hH : HSat w M H' w') : ∃ i A2 c2 H2, v.den = .slice A2 r.length c2 ∧ H2 i = some (.row A2 c2 53 6 r.length (encL r)) ∧ HSat w M H2 w' := by
  obtain ⟨i, A2, c2, rfl, h | ⟨rfl, rfl, rfl⟩⟩ := h
  · exact ⟨i, A2, c2, H', rfl, h, hH⟩
  · have hf := free_block (e := .row none 0 53 6 0 []) ⟨rfl, rfl, rfl, rfl⟩
    have := hH.step (w' := w') none (fun _ => False) rfl rfl rfl (Nat.le_refl _) (fun _ _ _ => rfl) (fun _ h => h.elim) 900001 (.row none 0 53 6 0 []) (hf.2 w') (fun g hg => by rw [hf.1] at hg; cases hg)
    exact ⟨900001, none, 0, _, rfl, by show upd H' 900001 _ 900001 = _; rw [upd_apply, if_pos rfl]; rfl, this⟩
theorem okd (H : Heap) (d : Nat) (e : Option Ent) : ∀ p ∈ [(d, e)], okKey false H d p.1 := by simp [okKey]
abbrev FunR := Kp → List Ar → List SV → Option (Prop × List Ar)
def lisRT (F : FunR) (κ : Kp) : TSpec := fun args H d K => match args with
  | .c (.sl id A n c) :: rest => match rowOf (H id) with
    | some (A', z, n', xs) => Side (κ _ (A = A' ∧ n = n' ∧ (z = 6 ∨ n = 0))) ∧ LookX encL xs fun l => Side (κ _ (l.length = n)) ∧ match F κ l rest with
      | some (p, r) => Side p ∧ ∀ (A2 : Option Addr) (c2 : Nat), K (.c (.sl d A2 (κ _ r.length) c2)) [(d, some (.row A2 c2 53 6 (κ _ r.length) (κ _ (encL r))))]
      | none => False
    | none => False
  | _ => False
section
variable {P : Program} {f : FuncId}
theorem lisRT_conj (F : FunR) (args : List SV) (H : Heap) (d : Nat) : ConjP (lisRT F kid args H d) (okKey false H d) := by
  unfold lisRT
  split
  · split
    · refine .side fun _ => .look encL_inj fun l _ => .side fun _ => ?_
      split
      · exact .side fun _ => .all2 (fun A2 c2 => .c (.sl d A2 _ c2)) (fun A2 c2 => [(d, some (.row A2 c2 53 6 _ _))]) fun _ _ => okd _ _ _
      · exact .false_
    · exact .false_
  · exact .false_
theorem leaveR {w0 w w' : World} {M : Nat → Prop} {H H2 : Heap} (hH : HSat w0 M H w) {i : Nat} {e : Ent} (h2 : H2 i = some e) (hm : e.mut = true) (hc : HSat w (fun _ => False) H2 w') (d : Nat) : HSat w0 M (upds H [(d, some e)]) w' := by
  rw [mutE_nil] at hc
  refine hH.leave (ρ := []) (E := []) (by simp) trivial hc _ [(d, i)] ?_ ?_ (by simp)
  · intro q hq
    simp only [List.mem_cons, List.not_mem_nil, or_false] at hq
    subst hq
    exact ⟨_, _, h2, by simp [upds, upd_apply], gives_refl _, hm⟩
  · intro q hq
    have h1 : d ≠ q := fun e => hq (d, i) (by simp) e
    exact .inr ⟨upds_other _ H q (by simp [h1]), fun k t e hk => by simp at hk⟩
def lisRES (hB : Bodied P f) (F : FunR) {κ : Kp} (hκ : κ = kid)
    (hk : ∀ l rest p r, F kid l rest = some (p, r) → p → ∀ (A : Option Addr) (c : Nat) (w : World), (Ent.rd A 6 l.length (encL l)).holds w →
      Calls P f (Value.slice A l.length c :: rest.map SV.den).toArray w fun e w' => ∃ v H', e = .returned v.den ∧ IsR r v H' ∧ HSat w (fun _ => False) H' w') : ESpec P :=
  ES hB false (lisRT F) hκ (lisRT_conj F) fun args H0 H d w0 M w hs hsub hH => by
    have hs' := hs
    unfold lisRT at hs'
    split at hs'
    case h_2 => exact hs'.elim
    rename_i id A n c rest
    split at hs'
    case h_2 => exact hs'.elim
    rename_i A' z n' xs hrow
    obtain ⟨⟨h1⟩, ⟨l, hx, ⟨h2⟩, h3⟩⟩ := hs'
    obtain ⟨rfl, rfl, hz⟩ := h1
    have hn : l.length = n := h2
    have hrd : (Ent.rd A 6 l.length (encL l)).holds w := rd_holds (hH.drop hsub) hrow hz hn hx
    subst hn
    split at h3
    case h_2 => exact h3.elim
    rename_i p r hF
    refine (hk l rest p r hF h3.1.h A c w hrd).mono ?_
    rintro e w' ⟨v, H', rfl, hr, hH'⟩
    obtain ⟨i, A2, c2, H2, hv, hi, hH2⟩ := hr.row hH'
    refine ⟨.c (.sl d A2 r.length c2), [(d, some (.row A2 c2 53 6 r.length (encL r)))], _, rfl, fun K hK => ?_, fun _ => hv, ?_⟩
    · unfold lisRT at hK
      simp only [hrow] at hK
      obtain ⟨_, ⟨l2, hl2, _, h⟩⟩ := hK
      have := encL_inj _ _ (hx.symm.trans hl2)
      subst this
      rw [hF] at h
      exact h.2 A2 c2
    · exact leaveR hH hi rfl hH2 d
end
end Go.Proofs.Ytbcicjmepojlnaa.Eng
/- list.within; condition: at most a million areas. -/
namespace Go.Proofs.Ytbcicjmepojlnaa.Eng
open Go Go.RowKit
set_option linter.unusedSimpArgs false
set_option linter.unusedVariables false
theorem within_next {l : List Ar} {i : Nat} (h : i < l.length) (lo hi : Int) : withinL (l.take (i + 1)) lo hi = withinL (l.take i) lo hi ++ partL lo hi (nthA l i) := by
  rw [take_next h, within_app, within_one]
theorem takeW_le (l : List Ar) (i : Nat) (lo hi : Int) : (withinL (l.take i) lo hi).length ≤ l.length := by
  have h1 := within_le (l.take i) lo hi
  have h2 : (l.take i).length ≤ l.length := by rw [List.length_take]; omega
  omega
theorem b_within : Bodied Try.prog 108 := bodied Try.func108 rfl (by decide)
def EL (κ : Kp) (l : List Ar) (A : Option Addr) : List (Nat × Ent) := [(200000, .rd A 6 (κ _ l.length) (κ _ (encL l)))]
theorem holdsEL {l : List Ar} {A : Option Addr} {w : World} (hr : (Ent.rd A 6 l.length (encL l)).holds w) {κ : Kp} (hκ : κ = kid) : HSat w (fun _ => False) (heapOf (EL κ l A)) w := by
  subst hκ
  refine HSat.reads fun p hp => ?_
  simp only [EL, List.mem_cons, List.not_mem_nil, or_false] at hp
  subst hp
  exact ⟨_, _, _, _, rfl, hr⟩
set_option maxRecDepth 100000 in
set_option maxHeartbeats 4000000 in
theorem k_within (l : List Ar) (lo hi : Int) (hside : l.length ≤ 1000000) (A : Option Addr) (c : Nat) (w : World) (hr : (Ent.rd A 6 l.length (encL l)).holds w) :
    Calls Try.prog 108 #[.slice A l.length c, .int .i64 lo, .int .i64 hi] w fun e w' => ∃ v H', e = .returned v.den ∧ IsR (withinL l lo hi) v H' ∧ HSat w (fun _ => False) H' w' := by
  obtain ⟨κ, hκ⟩ : ∃ κ : Kp, κ = kid := ⟨_, rfl⟩
  have hH := holdsEL hr hκ
  refine (callsE (n := 32) FTok [e_part hκ] mixed [] Try.func108 rfl (by kernel_rfl) #[.slice A l.length c, .int .i64 lo, .int .i64 hi] [(0, .c (.sl 200000 A (κ _ l.length) c)), (1, .c (.v (.int .i64 lo))), (2, .c (.v (.int .i64 hi)))] _ w rfl [.tmp 6] rfl (by simp) (by subst hκ; simp [SV.den, C.den, kid]) hH
    (fun v H' => IsR (κ _ (withinL l lo hi)) v H') hκ ?_).mono ?_
  rotate_left
  · subst hκ; intro e w' h; exact h
  cbv
  refine loopG FTok [e_part hκ] mixed [0, 1, 2, 12, 13] (σ := Nat × Option Addr × Nat) (fun q => [(7, .c (.sl 300000 q.2.1 (κ _ (withinL (l.take q.1) lo hi).length) q.2.2)), (14, .c (.v (.int .i64 (κ _ ((q.1 : Nat) : Int)))))])
    (fun q => [(200000, .rd A 6 (κ _ l.length) (κ _ (encL l))), (300000, .row q.2.1 q.2.2 53 6 (κ _ (withinL (l.take q.1) lo hi).length) (κ _ (encL (withinL (l.take q.1) lo hi))))])
    (fun q => l.length - q.1) (0, none, 0) [200000, 999999] ?_ (by decide) ?_ hκ ?_
  · cbv
    subst hκ
    delta kid
    exact ⟨rfl, rfl, trivial⟩
  · cbv
    subst hκ
    delta kid
    all_goals repeat' (first | exact rfl | exact trivial | refine And.intro ?_ ?_)
  rintro ⟨i, A2, c2⟩
  cbv
  refine tst_mk (fun h => ?_) (fun h => ?_)
  · have hx : i < l.length := by subst hκ; delta kid at h; have h2 : (i : Int) < (l.length : Int) := of_decide_eq_true h; omega
    have hl2 := takeW_le l i lo hi
    cbv
    repeat' (first | refine And.intro ?_ ?_ | (intro _; cbv) | (refine tst_mk (fun h => ?_) (fun h => ?_) <;> cbv) | (refine LookN.mk' (x := [.v (.int .i64 (κ _ (nthA l i).s)), .v (.int .i64 (κ _ (nthA l i).e)), .v (.int .i64 (κ _ (nthA l i).p)), .v (.bool (κ _ (nthA l i).sh)), .v (.int .i64 (κ _ (nthA l i).b)), .v (.int .i64 (κ _ (nthA l i).o))]) (by subst hκ; delta kid at *; exact la_take hx) ?_; cbv))
    all_goals (clear hH; subst hκ; delta kid at *; dsimp only at *)
    all_goals (try (exact ⟨la_ix hx⟩))
    all_goals (try (exact ⟨rfl⟩))
    all_goals (try (exact ⟨trivial⟩))
    all_goals (try (exact ⟨⟨rfl, rfl, rfl, rfl, rfl⟩⟩))
    all_goals (try (exact ⟨⟨rfl, rfl, .inl rfl, rfl⟩⟩))
    all_goals (try (exact ⟨by simp only [maxLen]; omega⟩))
    · rename_i A3 c3 _
      have hv := within_next hx lo hi
      unfold partL at hv
      rw [nthA_eta] at h
      rw [if_pos h] at hv
      have e1 : (withinL (l.take i) lo hi).length + 1 = (withinL (l.take (i + 1)) lo hi).length := by rw [hv, List.length_append]; rfl
      have e2 : encL (withinL (l.take i) lo hi) ++ encA (partA (nthA l i) lo hi) = encL (withinL (l.take (i + 1)) lo hi) := by rw [hv, encL_app, encL_one]
      refine ⟨⟨(i + 1, A3, c3), [200000, 29], (by show l.length - (i + 1) < l.length - i; omega), by decide, ?_, ?_⟩⟩
      all_goals repeat' (first | exact rfl | exact trivial | refine And.intro ?_ ?_ | exact e1 | exact e2 | exact congrArg (fun n => Value.slice A3 n c3) e1 | exact congrArg (Value.int .i64) (nat_succ (by omega)))
    · have hv := within_next hx lo hi
      unfold partL at hv
      rw [nthA_eta] at h
      rw [if_neg (by rw [h]; simp), List.append_nil] at hv
      refine ⟨⟨(i + 1, A2, c2), [200000, 300000], (by show l.length - (i + 1) < l.length - i; omega), by decide, ?_, ?_⟩⟩
      all_goals repeat' (first | exact rfl | exact trivial | refine And.intro ?_ ?_ | exact congrArg List.length hv.symm | exact congrArg encL hv.symm | exact congrArg (fun n => Value.slice A2 (List.length n) c2) hv.symm | exact congrArg (Value.int .i64) (nat_succ (by omega)))
  · have hx : ¬ i < l.length := by subst hκ; delta kid at h; have h2 : ¬ (i : Int) < (l.length : Int) := of_decide_eq_false h; omega
    cbv
    subst hκ
    delta kid at *
    dsimp only at *
    rw [take_all hx]
    exact ⟨⟨300000, A2, c2, rfl, .inl rfl⟩⟩
def F_within : FunR := fun κ l rest => match rest with
  | [.c (.v (.int .i64 lo)), .c (.v (.int .i64 hi))] => some (κ _ (l.length ≤ 1000000), κ _ (withinL l lo hi))
  | _ => none
def e_within {κ : Kp} (hκ : κ = kid) : ESpec Try.prog := lisRES b_within F_within hκ fun l rest p r hF hp A c w hr => by
  unfold F_within at hF
  split at hF
  · rename_i lo hi
    simp only [kid, Option.some.injEq, Prod.mk.injEq] at hF
    obtain ⟨rfl, rfl⟩ := hF
    exact k_within l lo hi hp A c w hr
  · cases hF
end Go.Proofs.Ytbcicjmepojlnaa.Eng
/- list.joined; condition: at most a million areas. -/
namespace Go.Proofs.Ytbcicjmepojlnaa.Eng
open Go Go.RowKit
set_option linter.unusedSimpArgs false
set_option linter.unusedVariables false
theorem last_at {l : List Ar} (h : 0 < l.length) : l.getLast? = some (nthA l (l.length - 1)) := by
  rw [List.getLast?_eq_getElem?, nthA_get (by omega)]
theorem stepJ_nil (a : Ar) : stepJ [] a = [a] := rfl
theorem stepJ_yes {l : List Ar} {a : Ar} (h : 0 < l.length) (hj : joinsA (nthA l (l.length - 1)) a = true) : stepJ l a = l.dropLast ++ [joinA (nthA l (l.length - 1)) a] := by
  unfold stepJ
  rw [last_at h]
  simp only [hj, if_true]
theorem stepJ_no {l : List Ar} {a : Ar} (h : 0 < l.length) (hj : joinsA (nthA l (l.length - 1)) a = false) : stepJ l a = l ++ [a] := by
  unfold stepJ
  rw [last_at h]
  simp only [hj, Bool.false_eq_true, if_false]
theorem last_ix {n : Nat} (h0 : decide ((0 : Int) < (n : Int)) = true) (hl : n ≤ 1000000) : IntKind.i64.wrap ((n : Int) - 1) = ((n - 1 : Nat) : Int) ∧ n - 1 < n := by
  have := of_decide_eq_true h0
  have : w64 ((n : Int) - 1) = (n : Int) - 1 := w64_id (by unfold In64; omega)
  unfold w64 at this
  rw [this]
  omega
theorem last_in {n : Nat} (h0 : decide ((0 : Int) < (n : Int)) = true) (hl : n ≤ 1000000) : 0 < 6 ∧ 0 ≤ IntKind.i64.wrap ((n : Int) - 1) ∧ IntKind.i64.wrap ((n : Int) - 1) < (n : Int) := by
  have := last_ix h0 hl
  rw [this.1]
  omega
theorem last_take {l : List Ar} (h0 : decide ((0 : Int) < (l.length : Int)) = true) (hl : l.length ≤ 1000000) : takeN (encL l) ((IntKind.i64.wrap ((l.length : Int) - 1)).toNat * 6) 6 = some [.v (.int .i64 (nthA l (l.length - 1)).s), .v (.int .i64 (nthA l (l.length - 1)).e), .v (.int .i64 (nthA l (l.length - 1)).p), .v (.bool (nthA l (l.length - 1)).sh), .v (.int .i64 (nthA l (l.length - 1)).b), .v (.int .i64 (nthA l (l.length - 1)).o)] := by
  have := last_ix h0 hl
  rw [this.1]
  exact la_take this.2
theorem last_put {l : List Ar} (h0 : decide ((0 : Int) < (l.length : Int)) = true) (hl : l.length ≤ 1000000) (j : Ar) : putCells (encL l) ((IntKind.i64.wrap ((l.length : Int) - 1)).toNat * 6) (encA j) = encL (l.dropLast ++ [j]) := by
  have h := last_ix h0 hl
  rw [h.1, Int.toNat_natCast]
  show (encL l).take ((l.length - 1) * 6) ++ encA j ++ (encL l).drop ((l.length - 1) * 6 + (encA j).length) = _
  have e1 : l = l.dropLast ++ [nthA l (l.length - 1)] := by
    have hne : l ≠ [] := by intro e; subst e; simp at h0
    have := List.dropLast_concat_getLast hne
    conv => lhs; rw [← this]
    congr 2
    have h2 := last_at (l := l) (by have := of_decide_eq_true h0; omega)
    rw [List.getLast?_eq_some_getLast hne] at h2
    exact Option.some.inj h2
  have hlen : (encL l.dropLast).length = (l.length - 1) * 6 := by rw [encL_len, List.length_dropLast]
  have e2 : encL l = encL l.dropLast ++ encA (nthA l (l.length - 1)) := by
    conv => lhs; rw [e1]
    rw [encL_app, encL_one]
  rw [e2, ← hlen, List.take_left', encL_app, encL_one, List.drop_of_length_le, List.append_nil]
  · rw [List.length_append]; exact Nat.le_refl _
  · rfl
theorem last_fit {n : Nat} {xs : List C} (h0 : decide ((0 : Int) < (n : Int)) = true) (hl : n ≤ 1000000) (hx : xs.length = n * 6) : (IntKind.i64.wrap ((n : Int) - 1)).toNat * 6 + 6 ≤ xs.length := by
  have h := last_ix h0 hl
  rw [h.1, hx]
  omega
theorem joined_next {l : List Ar} {i : Nat} (h : i < l.length) : joinedL (l.take (i + 1)) = stepJ (joinedL (l.take i)) (nthA l i) := by rw [take_next h, joined_app]
theorem takeJ_le (l : List Ar) (i : Nat) : (joinedL (l.take i)).length ≤ l.length := by
  have h1 := joined_le (l.take i)
  have h2 : (l.take i).length ≤ l.length := by rw [List.length_take]; omega
  omega
theorem b_joined : Bodied Try.prog 106 := bodied Try.func106 rfl (by decide)
set_option maxRecDepth 100000 in
set_option maxHeartbeats 4000000 in
theorem k_joined (l : List Ar) (hside : l.length ≤ 1000000) (A : Option Addr) (c : Nat) (w : World) (hr : (Ent.rd A 6 l.length (encL l)).holds w) :
    Calls Try.prog 106 #[.slice A l.length c] w fun e w' => ∃ v H', e = .returned v.den ∧ IsR (joinedL l) v H' ∧ HSat w (fun _ => False) H' w' := by
  obtain ⟨κ, hκ⟩ : ∃ κ : Kp, κ = kid := ⟨_, rfl⟩
  have hH := holdsEL hr hκ
  refine (callsE (n := 41) FTok [e_join hκ] mixed [(7, [[], [0], [0], [], [], [0, 1, 2, 3, 4], [], [], [], [8], [0, 1, 2, 3, 4, 5, 6, 7, 8, 9], [9], []])] Try.func106 rfl (by kernel_rfl) #[.slice A l.length c] [(0, .c (.sl 200000 A (κ _ l.length) c))] _ w rfl [.tmp 2] rfl (by simp) (by subst hκ; simp [SV.den, C.den, kid]) hH
    (fun v H' => IsR (κ _ (joinedL l)) v H') hκ ?_).mono ?_
  rotate_left
  · subst hκ; intro e w' h; exact h
  cbv
  refine loopG FTok [e_join hκ] mixed [0, 9, 10] (σ := Nat × Option Addr × Nat) (fun q => [(3, .c (.sl 300000 q.2.1 (κ _ (joinedL (l.take q.1)).length) q.2.2)), (11, .c (.v (.int .i64 (κ _ ((q.1 : Nat) : Int)))))])
    (fun q => [(200000, .rd A 6 (κ _ l.length) (κ _ (encL l))), (300000, .row q.2.1 q.2.2 53 6 (κ _ (joinedL (l.take q.1)).length) (κ _ (encL (joinedL (l.take q.1)))))])
    (fun q => l.length - q.1) (0, none, 0) [200000, 999999] ?_ (by decide) ?_ hκ ?_
  · cbv
    subst hκ
    delta kid
    exact ⟨rfl, rfl, trivial⟩
  · cbv
    subst hκ
    delta kid
    all_goals repeat' (first | exact rfl | exact trivial | refine And.intro ?_ ?_)
  rintro ⟨i, A2, c2⟩
  cbv
  refine tst_mk (fun h => ?_) (fun h => ?_)
  · have hx : i < l.length := by subst hκ; delta kid at h; have h2 : (i : Int) < (l.length : Int) := of_decide_eq_true h; omega
    have hl2 := takeJ_le l i
    have hl3 : (joinedL (l.take i)).length ≤ 1000000 := by omega
    have hen := encL_len (joinedL (l.take i))
    cbv
    repeat' (first | refine And.intro ?_ ?_ | (intro _; cbv) | (refine tst_mk (fun h => ?_) (fun h => ?_) <;> cbv) | (refine LookN.mk' (x := [.v (.int .i64 (κ _ (nthA l i).s)), .v (.int .i64 (κ _ (nthA l i).e)), .v (.int .i64 (κ _ (nthA l i).p)), .v (.bool (κ _ (nthA l i).sh)), .v (.int .i64 (κ _ (nthA l i).b)), .v (.int .i64 (κ _ (nthA l i).o))]) (by subst hκ; delta kid at *; exact la_take hx) ?_; cbv) | (refine LookN.mk' (x := [.v (.int .i64 (κ _ (nthA (joinedL (l.take i)) ((joinedL (l.take i)).length - 1)).s)), .v (.int .i64 (κ _ (nthA (joinedL (l.take i)) ((joinedL (l.take i)).length - 1)).e)), .v (.int .i64 (κ _ (nthA (joinedL (l.take i)) ((joinedL (l.take i)).length - 1)).p)), .v (.bool (κ _ (nthA (joinedL (l.take i)) ((joinedL (l.take i)).length - 1)).sh)), .v (.int .i64 (κ _ (nthA (joinedL (l.take i)) ((joinedL (l.take i)).length - 1)).b)), .v (.int .i64 (κ _ (nthA (joinedL (l.take i)) ((joinedL (l.take i)).length - 1)).o))]) (by subst hκ; delta kid at *; exact last_take (by assumption) hl3) ?_; cbv))
    all_goals (clear hH; subst hκ; delta kid at *; dsimp only at *)
    all_goals (try (exact ⟨la_ix hx⟩))
    all_goals (try (exact ⟨rfl⟩))
    all_goals (try (exact ⟨trivial⟩))
    all_goals (try (exact ⟨last_in (by assumption) hl3⟩))
    all_goals (try (exact ⟨⟨rfl, rfl, rfl, rfl, rfl⟩⟩))
    all_goals (try (exact ⟨⟨rfl, rfl, .inl rfl, rfl⟩⟩))
    all_goals (try (exact ⟨by simp only [maxLen]; omega⟩))
    all_goals (try (refine ⟨⟨?_, ?_⟩⟩; · exact Nat.lt_of_lt_of_le (by decide) (Nat.le_refl 6)); · exact last_fit (by assumption) hl3 hen)
    · rename_i h0
      rw [nthA_eta, nthA_eta] at h
      have hpos : 0 < (joinedL (l.take i)).length := by have h2 : (0 : Int) < ((joinedL (l.take i)).length : Int) := of_decide_eq_true h0; omega
      have hv := joined_next hx
      rw [stepJ_yes hpos h] at hv
      have e1 : (joinedL (l.take i)).length = (joinedL (l.take (i + 1))).length := by rw [hv, List.length_append, List.length_dropLast]; show _ = _ - 1 + 1; omega
      have e2 : putCells (encL (joinedL (l.take i))) ((IntKind.i64.wrap (((joinedL (l.take i)).length : Int) - 1)).toNat * 6) (encA (joinA (nthA (joinedL (l.take i)) ((joinedL (l.take i)).length - 1)) (nthA l i))) = encL (joinedL (l.take (i + 1))) := by rw [hv]; exact last_put h0 hl3 _
      refine ⟨⟨(i + 1, A2, c2), [200000, 300000], (by show l.length - (i + 1) < l.length - i; omega), by decide, ?_, ?_⟩⟩
      all_goals repeat' (first | exact rfl | exact trivial | refine And.intro ?_ ?_ | exact e1 | exact e2 | exact congrArg (fun n => Value.slice A2 n c2) e1 | exact congrArg (Value.int .i64) (nat_succ (by omega)))
    · rename_i A3 c3 _ h0
      rw [nthA_eta, nthA_eta] at h
      have hpos : 0 < (joinedL (l.take i)).length := by have h2 : (0 : Int) < ((joinedL (l.take i)).length : Int) := of_decide_eq_true h0; omega
      have hv := joined_next hx
      rw [stepJ_no hpos h] at hv
      have e1 : (joinedL (l.take i)).length + 1 = (joinedL (l.take (i + 1))).length := by rw [hv, List.length_append]; rfl
      have e2 : encL (joinedL (l.take i)) ++ encA (nthA l i) = encL (joinedL (l.take (i + 1))) := by rw [hv, encL_app, encL_one]
      refine ⟨⟨(i + 1, A3, c3), [200000, 38], (by show l.length - (i + 1) < l.length - i; omega), by decide, ?_, ?_⟩⟩
      all_goals repeat' (first | exact rfl | exact trivial | refine And.intro ?_ ?_ | exact e1 | exact e2 | exact congrArg (fun n => Value.slice A3 n c3) e1 | exact congrArg (Value.int .i64) (nat_succ (by omega)))
    · rename_i A3 c3 _
      have hnil : joinedL (l.take i) = [] := List.eq_nil_of_length_eq_zero (by have h2 : ¬ (0 : Int) < ((joinedL (l.take i)).length : Int) := of_decide_eq_false h; omega)
      have hv := joined_next hx
      rw [hnil, stepJ_nil] at hv
      have e1 : (joinedL (l.take i)).length + 1 = (joinedL (l.take (i + 1))).length := by rw [hv, hnil]; rfl
      have e2 : encL (joinedL (l.take i)) ++ encA (nthA l i) = encL (joinedL (l.take (i + 1))) := by rw [hv, hnil, encL_one]; rfl
      refine ⟨⟨(i + 1, A3, c3), [200000, 38], (by show l.length - (i + 1) < l.length - i; omega), by decide, ?_, ?_⟩⟩
      all_goals repeat' (first | exact rfl | exact trivial | refine And.intro ?_ ?_ | exact e1 | exact e2 | exact congrArg (fun n => Value.slice A3 n c3) e1 | exact congrArg (Value.int .i64) (nat_succ (by omega)))
  · have hx : ¬ i < l.length := by subst hκ; delta kid at h; have h2 : ¬ (i : Int) < (l.length : Int) := of_decide_eq_false h; omega
    cbv
    subst hκ
    delta kid at *
    dsimp only at *
    rw [take_all hx]
    exact ⟨⟨300000, A2, c2, rfl, .inl rfl⟩⟩
def F_joined : FunR := fun κ l rest => match rest with
  | [] => some (κ _ (l.length ≤ 1000000), κ _ (joinedL l))
  | _ => none
def e_joined {κ : Kp} (hκ : κ = kid) : ESpec Try.prog := lisRES b_joined F_joined hκ fun l rest p r hF hp A c w hr => by
  unfold F_joined at hF
  split at hF
  · simp only [kid, Option.some.injEq, Prod.mk.injEq] at hF
    obtain ⟨rfl, rfl⟩ := hF
    exact k_joined l hp A c w hr
  · cases hF
end Go.Proofs.Ytbcicjmepojlnaa.Eng
/- slices.Concat of two lists, and of three (printed by conc.py of this work); condition: half a million areas in each. -/
namespace Go.Proofs.Ytbcicjmepojlnaa.Eng
open Go Go.RowKit
set_option linter.unusedSimpArgs false
set_option linter.unusedVariables false
theorem b_concat : Bodied Try.prog 107 := bodied Try.func107 rfl (by decide)
theorem sum_wrap {a b : Nat} (ha : a ≤ 1000000) (hb : b ≤ 1000000) : IntKind.i64.wrap ((a : Int) + (b : Int)) = ((a + b : Nat) : Int) := by
  have : w64 ((a : Int) + (b : Int)) = (a : Int) + (b : Int) := w64_id (by unfold In64; omega)
  unfold w64 at this
  rw [this]
  rfl
theorem sum_neg {a b : Nat} (ha : a ≤ 1000000) (hb : b ≤ 1000000) (h : decide (IntKind.i64.wrap ((a : Int) + (b : Int)) < 0) = true) : False := by
  have h := of_decide_eq_true h
  rw [sum_wrap ha hb] at h
  omega
def EC2 (κ : Kp) (A : Option Addr) (l1 : List Ar) (l2 : List Ar) (B1 : Option Addr) (e1 : Nat) (B2 : Option Addr) (e2 : Nat) : List (Nat × Ent) := [(200000, .rd A 1 2 [.sl 200001 B1 (κ _ l1.length) e1, .sl 200002 B2 (κ _ l2.length) e2]), (200001, .rd B1 6 (κ _ l1.length) (κ _ (encL l1))), (200002, .rd B2 6 (κ _ l2.length) (κ _ (encL l2)))]
theorem holdsEC2 {A : Option Addr} {l1 l2 : List Ar} {B1 : Option Addr} {e1 : Nat} {B2 : Option Addr} {e2 : Nat} {w : World} (hr : (Ent.rd A 1 2 [.sl 200001 B1 (l1.length) e1, .sl 200002 B2 (l2.length) e2]).holds w) (hr1 : (Ent.rd B1 6 l1.length (encL l1)).holds w) (hr2 : (Ent.rd B2 6 l2.length (encL l2)).holds w) {κ : Kp} (hκ : κ = kid) : HSat w (fun _ => False) (heapOf (EC2 κ A l1 l2 B1 e1 B2 e2)) w := by
  subst hκ
  refine HSat.reads fun p hp => ?_
  simp only [EC2, List.mem_cons, List.not_mem_nil, or_false] at hp
  rcases hp with rfl | rfl | rfl
  · exact ⟨_, _, _, _, rfl, hr⟩
  · exact ⟨_, _, _, _, rfl, hr1⟩
  · exact ⟨_, _, _, _, rfl, hr2⟩
def pre2 (l1 : List Ar) (l2 : List Ar) (i : Nat) : List Ar := match i with
  | 0 => ([] : List Ar)
  | 1 => l1
  | _ => l1 ++ l2
theorem pre2_le (l1 : List Ar) (l2 : List Ar) (h1 : l1.length ≤ 300000) (h2 : l2.length ≤ 300000) (i : Nat) : (pre2 l1 l2 i).length ≤ 900000 := by
  unfold pre2
  split
  all_goals (try simp only [List.length_append, List.length_nil])
  all_goals omega
set_option maxRecDepth 100000 in
set_option maxHeartbeats 8000000 in
theorem k_concat2 (l1 : List Ar) (l2 : List Ar) (h1 : l1.length ≤ 300000) (h2 : l2.length ≤ 300000) (A : Option Addr) (c : Nat) (B1 : Option Addr) (e1 : Nat) (B2 : Option Addr) (e2 : Nat) (w : World) (hr : (Ent.rd A 1 2 [.sl 200001 B1 (l1.length) e1, .sl 200002 B2 (l2.length) e2]).holds w) (hr1 : (Ent.rd B1 6 l1.length (encL l1)).holds w) (hr2 : (Ent.rd B2 6 l2.length (encL l2)).holds w) :
    Calls Try.prog 107 #[.slice A 2 c] w fun e w' => ∃ v H', e = .returned v.den ∧ IsR (l1 ++ l2) v H' ∧ HSat w (fun _ => False) H' w' := by
  obtain ⟨κ, hκ⟩ : ∃ κ : Kp, κ = kid := ⟨_, rfl⟩
  have hH := holdsEC2 hr hr1 hr2 hκ
  refine (callsE (n := 36) FTok [e_grow hκ] mixed [] Try.func107 rfl (by kernel_rfl) #[.slice A 2 c] [(0, .c (.sl 200000 A 2 c))] _ w rfl [.tmp 2] rfl (by simp) (by subst hκ; simp [SV.den, C.den, kid]) hH
    (fun v H' => IsR (κ _ (l1 ++ l2)) v H') hκ ?_).mono ?_
  rotate_left
  · subst hκ; intro e w' h; exact h
  cbv
  refine loopG FTok [e_grow hκ] mixed [0, 9, 10] (σ := {i : Nat // i ≤ 2}) (fun q => [(3, .c (.v (.int .i64 (κ _ (((pre2 l1 l2 q.1).length : Nat) : Int))))), (11, .c (.v (.int .i64 ((q.1 : Nat) : Int))))])
    (fun q => EC2 κ A l1 l2 B1 e1 B2 e2) (fun q => 2 - q.1) ⟨0, Nat.zero_le _⟩ [200000, 200001, 200002] ?_ (by decide) ?_ hκ ?_
  · cbv
    subst hκ
    delta kid
    all_goals repeat' (first | exact rfl | exact trivial | refine And.intro ?_ ?_)
  · cbv
    all_goals (subst hκ; delta kid)
    all_goals repeat' (first | exact rfl | exact trivial | refine And.intro ?_ ?_)
  rintro ⟨i, hi⟩
  obtain rfl | rfl | rfl : i = 0 ∨ i = 1 ∨ i = 2 := by omega
  · have hp0 := pre2_le l1 l2 h1 h2 0
    cbv
    refine tst_mk (fun h => ?_) (fun h => ?_)
    rotate_left
    · exfalso; subst hκ; delta kid at h; revert h; decide
    cbv
    repeat' (first | refine And.intro ?_ ?_ | (intro _; cbv) | (refine tst_mk (fun h => ?_) (fun h => ?_) <;> cbv) | (refine LookR.mk' (x := .sl 200001 B1 (κ _ l1.length) e1) (by subst hκ; rfl) ?_; cbv) | (refine LookR.mk' (x := .sl 200002 B2 (κ _ l2.length) e2) (by subst hκ; rfl) ?_; cbv))
    all_goals (clear hH; subst hκ; delta kid at *; try dsimp only at *)
    all_goals (try (exact ⟨by decide⟩))
    all_goals (try (exact ⟨rfl⟩))
    all_goals (try (exact absurd (sum_neg (by omega) (by omega) h) id))
    · have e1 : IntKind.i64.wrap (((pre2 l1 l2 0).length : Int) + (l1.length : Int)) = (((pre2 l1 l2 1).length : Nat) : Int) := by rw [sum_wrap (by omega) (by omega)]; congr 1; simp only [pre2, List.length_append, List.length_nil]; try omega
      refine ⟨⟨⟨1, by decide⟩, [200000, 200001, 200002], (by show 2 - 1 < 2 - 0; decide), (by decide), ?_, ?_⟩⟩
      all_goals repeat' (first | exact rfl | exact trivial | refine And.intro ?_ ?_ | exact congrArg (Value.int .i64) e1)
  · have hp0 := pre2_le l1 l2 h1 h2 1
    cbv
    refine tst_mk (fun h => ?_) (fun h => ?_)
    rotate_left
    · exfalso; subst hκ; delta kid at h; revert h; decide
    cbv
    repeat' (first | refine And.intro ?_ ?_ | (intro _; cbv) | (refine tst_mk (fun h => ?_) (fun h => ?_) <;> cbv) | (refine LookR.mk' (x := .sl 200001 B1 (κ _ l1.length) e1) (by subst hκ; rfl) ?_; cbv) | (refine LookR.mk' (x := .sl 200002 B2 (κ _ l2.length) e2) (by subst hκ; rfl) ?_; cbv))
    all_goals (clear hH; subst hκ; delta kid at *; try dsimp only at *)
    all_goals (try (exact ⟨by decide⟩))
    all_goals (try (exact ⟨rfl⟩))
    all_goals (try (exact absurd (sum_neg (by omega) (by omega) h) id))
    · have e1 : IntKind.i64.wrap (((pre2 l1 l2 1).length : Int) + (l2.length : Int)) = (((pre2 l1 l2 2).length : Nat) : Int) := by rw [sum_wrap (by omega) (by omega)]; congr 1; simp only [pre2, List.length_append, List.length_nil]; try omega
      refine ⟨⟨⟨2, by decide⟩, [200000, 200001, 200002], (by show 2 - 2 < 2 - 1; decide), (by decide), ?_, ?_⟩⟩
      all_goals repeat' (first | exact rfl | exact trivial | refine And.intro ?_ ?_ | exact congrArg (Value.int .i64) e1)
  · have hp0 := pre2_le l1 l2 h1 h2 2
    cbv
    refine tst_mk (fun h => ?_) (fun h => ?_)
    · exfalso; subst hκ; delta kid at h; revert h; decide
    cbv
    repeat' (first | refine And.intro ?_ ?_ | (intro _; cbv))
    · clear hH; subst hκ; delta kid at *; try dsimp only at *
      exact ⟨⟨rfl, rfl, rfl, Int.natCast_nonneg _, by show ((pre2 l1 l2 2).length : Int) ≤ 1000000; omega⟩⟩
    rename_i A2 c2
    refine loopG FTok [e_grow hκ] mixed [0, 25, 26] (σ := {i : Nat // i ≤ 2} × Option Addr × Nat) (fun q => [(6, .c (.sl 300000 q.2.1 (κ _ (pre2 l1 l2 q.1.1).length) q.2.2)), (27, .c (.v (.int .i64 ((q.1.1 : Nat) : Int))))])
      (fun q => EC2 κ A l1 l2 B1 e1 B2 e2 ++ [(300000, .row q.2.1 q.2.2 53 6 (κ _ (pre2 l1 l2 q.1.1).length) (κ _ (encL (pre2 l1 l2 q.1.1))))]) (fun q => 2 - q.1.1) (⟨0, Nat.zero_le _⟩, A2, c2) [200000, 200001, 200002, 24] ?_ (by decide) ?_ hκ ?_
    · cbv
      subst hκ
      delta kid
      all_goals repeat' (first | exact rfl | exact trivial | refine And.intro ?_ ?_)
    · cbv
      all_goals (subst hκ; delta kid)
      all_goals repeat' (first | exact rfl | exact trivial | refine And.intro ?_ ?_)
    rintro ⟨⟨i, hi⟩, A3, c3⟩
    obtain rfl | rfl | rfl : i = 0 ∨ i = 1 ∨ i = 2 := by omega
    · have hp0 := pre2_le l1 l2 h1 h2 0
      cbv
      refine tst_mk (fun h => ?_) (fun h => ?_)
      rotate_left
      · exfalso; subst hκ; delta kid at h; revert h; decide
      cbv
      repeat' (first | refine And.intro ?_ ?_ | (intro _; cbv) | (refine tst_mk (fun h => ?_) (fun h => ?_) <;> cbv) | (refine LookR.mk' (x := .sl 200001 B1 (κ _ l1.length) e1) (by subst hκ; rfl) ?_; cbv) | (refine LookR.mk' (x := .sl 200002 B2 (κ _ l2.length) e2) (by subst hκ; rfl) ?_; cbv))
      all_goals (clear hH; subst hκ; delta kid at *; try dsimp only at *)
      all_goals (try (exact ⟨by decide⟩))
      all_goals (try (exact ⟨rfl⟩))
      all_goals (try (exact ⟨⟨rfl, rfl, rfl, rfl, rfl⟩⟩))
      all_goals (try (exact ⟨⟨rfl, rfl, .inl rfl, encL_ok _⟩⟩))
      all_goals (try (exact ⟨by simp only [maxLen]; omega⟩))
      rename_i A4 c4 _
      have e1 : (pre2 l1 l2 0).length + l1.length = (pre2 l1 l2 1).length := by simp only [pre2, List.length_append, List.length_nil]; try omega
      have e2 : encL (pre2 l1 l2 0) ++ encL l1 = encL (pre2 l1 l2 1) := by simp only [pre2]; rw [← encL_app]; try rfl
      refine ⟨⟨(⟨1, by decide⟩, A4, c4), [200000, 200001, 200002, 33], (by show 2 - 1 < 2 - 0; decide), (by decide), ?_, ?_⟩⟩
      all_goals repeat' (first | exact rfl | exact trivial | refine And.intro ?_ ?_ | exact e1 | exact e2 | exact congrArg (fun n => Value.slice A4 n c4) e1)
    · have hp0 := pre2_le l1 l2 h1 h2 1
      cbv
      refine tst_mk (fun h => ?_) (fun h => ?_)
      rotate_left
      · exfalso; subst hκ; delta kid at h; revert h; decide
      cbv
      repeat' (first | refine And.intro ?_ ?_ | (intro _; cbv) | (refine tst_mk (fun h => ?_) (fun h => ?_) <;> cbv) | (refine LookR.mk' (x := .sl 200001 B1 (κ _ l1.length) e1) (by subst hκ; rfl) ?_; cbv) | (refine LookR.mk' (x := .sl 200002 B2 (κ _ l2.length) e2) (by subst hκ; rfl) ?_; cbv))
      all_goals (clear hH; subst hκ; delta kid at *; try dsimp only at *)
      all_goals (try (exact ⟨by decide⟩))
      all_goals (try (exact ⟨rfl⟩))
      all_goals (try (exact ⟨⟨rfl, rfl, rfl, rfl, rfl⟩⟩))
      all_goals (try (exact ⟨⟨rfl, rfl, .inl rfl, encL_ok _⟩⟩))
      all_goals (try (exact ⟨by simp only [maxLen]; omega⟩))
      rename_i A4 c4 _
      have e1 : (pre2 l1 l2 1).length + l2.length = (pre2 l1 l2 2).length := by simp only [pre2, List.length_append, List.length_nil]; try omega
      have e2 : encL (pre2 l1 l2 1) ++ encL l2 = encL (pre2 l1 l2 2) := by simp only [pre2]; rw [← encL_app]; try rfl
      refine ⟨⟨(⟨2, by decide⟩, A4, c4), [200000, 200001, 200002, 33], (by show 2 - 2 < 2 - 1; decide), (by decide), ?_, ?_⟩⟩
      all_goals repeat' (first | exact rfl | exact trivial | refine And.intro ?_ ?_ | exact e1 | exact e2 | exact congrArg (fun n => Value.slice A4 n c4) e1)
    · cbv
      refine tst_mk (fun h => ?_) (fun h => ?_)
      · exfalso; subst hκ; delta kid at h; revert h; decide
      cbv
      subst hκ
      delta kid at *
      dsimp only at *
      exact ⟨⟨300000, A3, c3, rfl, .inl rfl⟩⟩
def EC3 (κ : Kp) (A : Option Addr) (l1 : List Ar) (l2 : List Ar) (l3 : List Ar) (B1 : Option Addr) (e1 : Nat) (B2 : Option Addr) (e2 : Nat) (B3 : Option Addr) (e3 : Nat) : List (Nat × Ent) := [(200000, .rd A 1 3 [.sl 200001 B1 (κ _ l1.length) e1, .sl 200002 B2 (κ _ l2.length) e2, .sl 200003 B3 (κ _ l3.length) e3]), (200001, .rd B1 6 (κ _ l1.length) (κ _ (encL l1))), (200002, .rd B2 6 (κ _ l2.length) (κ _ (encL l2))), (200003, .rd B3 6 (κ _ l3.length) (κ _ (encL l3)))]
theorem holdsEC3 {A : Option Addr} {l1 l2 l3 : List Ar} {B1 : Option Addr} {e1 : Nat} {B2 : Option Addr} {e2 : Nat} {B3 : Option Addr} {e3 : Nat} {w : World} (hr : (Ent.rd A 1 3 [.sl 200001 B1 (l1.length) e1, .sl 200002 B2 (l2.length) e2, .sl 200003 B3 (l3.length) e3]).holds w) (hr1 : (Ent.rd B1 6 l1.length (encL l1)).holds w) (hr2 : (Ent.rd B2 6 l2.length (encL l2)).holds w) (hr3 : (Ent.rd B3 6 l3.length (encL l3)).holds w) {κ : Kp} (hκ : κ = kid) : HSat w (fun _ => False) (heapOf (EC3 κ A l1 l2 l3 B1 e1 B2 e2 B3 e3)) w := by
  subst hκ
  refine HSat.reads fun p hp => ?_
  simp only [EC3, List.mem_cons, List.not_mem_nil, or_false] at hp
  rcases hp with rfl | rfl | rfl | rfl
  · exact ⟨_, _, _, _, rfl, hr⟩
  · exact ⟨_, _, _, _, rfl, hr1⟩
  · exact ⟨_, _, _, _, rfl, hr2⟩
  · exact ⟨_, _, _, _, rfl, hr3⟩
def pre3 (l1 : List Ar) (l2 : List Ar) (l3 : List Ar) (i : Nat) : List Ar := match i with
  | 0 => ([] : List Ar)
  | 1 => l1
  | 2 => l1 ++ l2
  | _ => l1 ++ l2 ++ l3
theorem pre3_le (l1 : List Ar) (l2 : List Ar) (l3 : List Ar) (h1 : l1.length ≤ 300000) (h2 : l2.length ≤ 300000) (h3 : l3.length ≤ 300000) (i : Nat) : (pre3 l1 l2 l3 i).length ≤ 900000 := by
  unfold pre3
  split
  all_goals (try simp only [List.length_append, List.length_nil])
  all_goals omega
set_option maxRecDepth 100000 in
set_option maxHeartbeats 8000000 in
theorem k_concat3 (l1 : List Ar) (l2 : List Ar) (l3 : List Ar) (h1 : l1.length ≤ 300000) (h2 : l2.length ≤ 300000) (h3 : l3.length ≤ 300000) (A : Option Addr) (c : Nat) (B1 : Option Addr) (e1 : Nat) (B2 : Option Addr) (e2 : Nat) (B3 : Option Addr) (e3 : Nat) (w : World) (hr : (Ent.rd A 1 3 [.sl 200001 B1 (l1.length) e1, .sl 200002 B2 (l2.length) e2, .sl 200003 B3 (l3.length) e3]).holds w) (hr1 : (Ent.rd B1 6 l1.length (encL l1)).holds w) (hr2 : (Ent.rd B2 6 l2.length (encL l2)).holds w) (hr3 : (Ent.rd B3 6 l3.length (encL l3)).holds w) :
    Calls Try.prog 107 #[.slice A 3 c] w fun e w' => ∃ v H', e = .returned v.den ∧ IsR (l1 ++ l2 ++ l3) v H' ∧ HSat w (fun _ => False) H' w' := by
  obtain ⟨κ, hκ⟩ : ∃ κ : Kp, κ = kid := ⟨_, rfl⟩
  have hH := holdsEC3 hr hr1 hr2 hr3 hκ
  refine (callsE (n := 36) FTok [e_grow hκ] mixed [] Try.func107 rfl (by kernel_rfl) #[.slice A 3 c] [(0, .c (.sl 200000 A 3 c))] _ w rfl [.tmp 2] rfl (by simp) (by subst hκ; simp [SV.den, C.den, kid]) hH
    (fun v H' => IsR (κ _ (l1 ++ l2 ++ l3)) v H') hκ ?_).mono ?_
  rotate_left
  · subst hκ; intro e w' h; exact h
  cbv
  refine loopG FTok [e_grow hκ] mixed [0, 9, 10] (σ := {i : Nat // i ≤ 3}) (fun q => [(3, .c (.v (.int .i64 (κ _ (((pre3 l1 l2 l3 q.1).length : Nat) : Int))))), (11, .c (.v (.int .i64 ((q.1 : Nat) : Int))))])
    (fun q => EC3 κ A l1 l2 l3 B1 e1 B2 e2 B3 e3) (fun q => 3 - q.1) ⟨0, Nat.zero_le _⟩ [200000, 200001, 200002, 200003] ?_ (by decide) ?_ hκ ?_
  · cbv
    subst hκ
    delta kid
    all_goals repeat' (first | exact rfl | exact trivial | refine And.intro ?_ ?_)
  · cbv
    all_goals (subst hκ; delta kid)
    all_goals repeat' (first | exact rfl | exact trivial | refine And.intro ?_ ?_)
  rintro ⟨i, hi⟩
  obtain rfl | rfl | rfl | rfl : i = 0 ∨ i = 1 ∨ i = 2 ∨ i = 3 := by omega
  · have hp0 := pre3_le l1 l2 l3 h1 h2 h3 0
    cbv
    refine tst_mk (fun h => ?_) (fun h => ?_)
    rotate_left
    · exfalso; subst hκ; delta kid at h; revert h; decide
    cbv
    repeat' (first | refine And.intro ?_ ?_ | (intro _; cbv) | (refine tst_mk (fun h => ?_) (fun h => ?_) <;> cbv) | (refine LookR.mk' (x := .sl 200001 B1 (κ _ l1.length) e1) (by subst hκ; rfl) ?_; cbv) | (refine LookR.mk' (x := .sl 200002 B2 (κ _ l2.length) e2) (by subst hκ; rfl) ?_; cbv) | (refine LookR.mk' (x := .sl 200003 B3 (κ _ l3.length) e3) (by subst hκ; rfl) ?_; cbv))
    all_goals (clear hH; subst hκ; delta kid at *; try dsimp only at *)
    all_goals (try (exact ⟨by decide⟩))
    all_goals (try (exact ⟨rfl⟩))
    all_goals (try (exact absurd (sum_neg (by omega) (by omega) h) id))
    · have e1 : IntKind.i64.wrap (((pre3 l1 l2 l3 0).length : Int) + (l1.length : Int)) = (((pre3 l1 l2 l3 1).length : Nat) : Int) := by rw [sum_wrap (by omega) (by omega)]; congr 1; simp only [pre3, List.length_append, List.length_nil]; try omega
      refine ⟨⟨⟨1, by decide⟩, [200000, 200001, 200002, 200003], (by show 3 - 1 < 3 - 0; decide), (by decide), ?_, ?_⟩⟩
      all_goals repeat' (first | exact rfl | exact trivial | refine And.intro ?_ ?_ | exact congrArg (Value.int .i64) e1)
  · have hp0 := pre3_le l1 l2 l3 h1 h2 h3 1
    cbv
    refine tst_mk (fun h => ?_) (fun h => ?_)
    rotate_left
    · exfalso; subst hκ; delta kid at h; revert h; decide
    cbv
    repeat' (first | refine And.intro ?_ ?_ | (intro _; cbv) | (refine tst_mk (fun h => ?_) (fun h => ?_) <;> cbv) | (refine LookR.mk' (x := .sl 200001 B1 (κ _ l1.length) e1) (by subst hκ; rfl) ?_; cbv) | (refine LookR.mk' (x := .sl 200002 B2 (κ _ l2.length) e2) (by subst hκ; rfl) ?_; cbv) | (refine LookR.mk' (x := .sl 200003 B3 (κ _ l3.length) e3) (by subst hκ; rfl) ?_; cbv))
    all_goals (clear hH; subst hκ; delta kid at *; try dsimp only at *)
    all_goals (try (exact ⟨by decide⟩))
    all_goals (try (exact ⟨rfl⟩))
    all_goals (try (exact absurd (sum_neg (by omega) (by omega) h) id))
    · have e1 : IntKind.i64.wrap (((pre3 l1 l2 l3 1).length : Int) + (l2.length : Int)) = (((pre3 l1 l2 l3 2).length : Nat) : Int) := by rw [sum_wrap (by omega) (by omega)]; congr 1; simp only [pre3, List.length_append, List.length_nil]; try omega
      refine ⟨⟨⟨2, by decide⟩, [200000, 200001, 200002, 200003], (by show 3 - 2 < 3 - 1; decide), (by decide), ?_, ?_⟩⟩
      all_goals repeat' (first | exact rfl | exact trivial | refine And.intro ?_ ?_ | exact congrArg (Value.int .i64) e1)
  · have hp0 := pre3_le l1 l2 l3 h1 h2 h3 2
    cbv
    refine tst_mk (fun h => ?_) (fun h => ?_)
    rotate_left
    · exfalso; subst hκ; delta kid at h; revert h; decide
    cbv
    repeat' (first | refine And.intro ?_ ?_ | (intro _; cbv) | (refine tst_mk (fun h => ?_) (fun h => ?_) <;> cbv) | (refine LookR.mk' (x := .sl 200001 B1 (κ _ l1.length) e1) (by subst hκ; rfl) ?_; cbv) | (refine LookR.mk' (x := .sl 200002 B2 (κ _ l2.length) e2) (by subst hκ; rfl) ?_; cbv) | (refine LookR.mk' (x := .sl 200003 B3 (κ _ l3.length) e3) (by subst hκ; rfl) ?_; cbv))
    all_goals (clear hH; subst hκ; delta kid at *; try dsimp only at *)
    all_goals (try (exact ⟨by decide⟩))
    all_goals (try (exact ⟨rfl⟩))
    all_goals (try (exact absurd (sum_neg (by omega) (by omega) h) id))
    · have e1 : IntKind.i64.wrap (((pre3 l1 l2 l3 2).length : Int) + (l3.length : Int)) = (((pre3 l1 l2 l3 3).length : Nat) : Int) := by rw [sum_wrap (by omega) (by omega)]; congr 1; simp only [pre3, List.length_append, List.length_nil]; try omega
      refine ⟨⟨⟨3, by decide⟩, [200000, 200001, 200002, 200003], (by show 3 - 3 < 3 - 2; decide), (by decide), ?_, ?_⟩⟩
      all_goals repeat' (first | exact rfl | exact trivial | refine And.intro ?_ ?_ | exact congrArg (Value.int .i64) e1)
  · have hp0 := pre3_le l1 l2 l3 h1 h2 h3 3
    cbv
    refine tst_mk (fun h => ?_) (fun h => ?_)
    · exfalso; subst hκ; delta kid at h; revert h; decide
    cbv
    repeat' (first | refine And.intro ?_ ?_ | (intro _; cbv))
    · clear hH; subst hκ; delta kid at *; try dsimp only at *
      exact ⟨⟨rfl, rfl, rfl, Int.natCast_nonneg _, by show ((pre3 l1 l2 l3 3).length : Int) ≤ 1000000; omega⟩⟩
    rename_i A2 c2
    refine loopG FTok [e_grow hκ] mixed [0, 25, 26] (σ := {i : Nat // i ≤ 3} × Option Addr × Nat) (fun q => [(6, .c (.sl 300000 q.2.1 (κ _ (pre3 l1 l2 l3 q.1.1).length) q.2.2)), (27, .c (.v (.int .i64 ((q.1.1 : Nat) : Int))))])
      (fun q => EC3 κ A l1 l2 l3 B1 e1 B2 e2 B3 e3 ++ [(300000, .row q.2.1 q.2.2 53 6 (κ _ (pre3 l1 l2 l3 q.1.1).length) (κ _ (encL (pre3 l1 l2 l3 q.1.1))))]) (fun q => 3 - q.1.1) (⟨0, Nat.zero_le _⟩, A2, c2) [200000, 200001, 200002, 200003, 24] ?_ (by decide) ?_ hκ ?_
    · cbv
      subst hκ
      delta kid
      all_goals repeat' (first | exact rfl | exact trivial | refine And.intro ?_ ?_)
    · cbv
      all_goals (subst hκ; delta kid)
      all_goals repeat' (first | exact rfl | exact trivial | refine And.intro ?_ ?_)
    rintro ⟨⟨i, hi⟩, A3, c3⟩
    obtain rfl | rfl | rfl | rfl : i = 0 ∨ i = 1 ∨ i = 2 ∨ i = 3 := by omega
    · have hp0 := pre3_le l1 l2 l3 h1 h2 h3 0
      cbv
      refine tst_mk (fun h => ?_) (fun h => ?_)
      rotate_left
      · exfalso; subst hκ; delta kid at h; revert h; decide
      cbv
      repeat' (first | refine And.intro ?_ ?_ | (intro _; cbv) | (refine tst_mk (fun h => ?_) (fun h => ?_) <;> cbv) | (refine LookR.mk' (x := .sl 200001 B1 (κ _ l1.length) e1) (by subst hκ; rfl) ?_; cbv) | (refine LookR.mk' (x := .sl 200002 B2 (κ _ l2.length) e2) (by subst hκ; rfl) ?_; cbv) | (refine LookR.mk' (x := .sl 200003 B3 (κ _ l3.length) e3) (by subst hκ; rfl) ?_; cbv))
      all_goals (clear hH; subst hκ; delta kid at *; try dsimp only at *)
      all_goals (try (exact ⟨by decide⟩))
      all_goals (try (exact ⟨rfl⟩))
      all_goals (try (exact ⟨⟨rfl, rfl, rfl, rfl, rfl⟩⟩))
      all_goals (try (exact ⟨⟨rfl, rfl, .inl rfl, encL_ok _⟩⟩))
      all_goals (try (exact ⟨by simp only [maxLen]; omega⟩))
      rename_i A4 c4 _
      have e1 : (pre3 l1 l2 l3 0).length + l1.length = (pre3 l1 l2 l3 1).length := by simp only [pre3, List.length_append, List.length_nil]; try omega
      have e2 : encL (pre3 l1 l2 l3 0) ++ encL l1 = encL (pre3 l1 l2 l3 1) := by simp only [pre3]; rw [← encL_app]; try rfl
      refine ⟨⟨(⟨1, by decide⟩, A4, c4), [200000, 200001, 200002, 200003, 33], (by show 3 - 1 < 3 - 0; decide), (by decide), ?_, ?_⟩⟩
      all_goals repeat' (first | exact rfl | exact trivial | refine And.intro ?_ ?_ | exact e1 | exact e2 | exact congrArg (fun n => Value.slice A4 n c4) e1)
    · have hp0 := pre3_le l1 l2 l3 h1 h2 h3 1
      cbv
      refine tst_mk (fun h => ?_) (fun h => ?_)
      rotate_left
      · exfalso; subst hκ; delta kid at h; revert h; decide
      cbv
      repeat' (first | refine And.intro ?_ ?_ | (intro _; cbv) | (refine tst_mk (fun h => ?_) (fun h => ?_) <;> cbv) | (refine LookR.mk' (x := .sl 200001 B1 (κ _ l1.length) e1) (by subst hκ; rfl) ?_; cbv) | (refine LookR.mk' (x := .sl 200002 B2 (κ _ l2.length) e2) (by subst hκ; rfl) ?_; cbv) | (refine LookR.mk' (x := .sl 200003 B3 (κ _ l3.length) e3) (by subst hκ; rfl) ?_; cbv))
      all_goals (clear hH; subst hκ; delta kid at *; try dsimp only at *)
      all_goals (try (exact ⟨by decide⟩))
      all_goals (try (exact ⟨rfl⟩))
      all_goals (try (exact ⟨⟨rfl, rfl, rfl, rfl, rfl⟩⟩))
      all_goals (try (exact ⟨⟨rfl, rfl, .inl rfl, encL_ok _⟩⟩))
      all_goals (try (exact ⟨by simp only [maxLen]; omega⟩))
      rename_i A4 c4 _
      have e1 : (pre3 l1 l2 l3 1).length + l2.length = (pre3 l1 l2 l3 2).length := by simp only [pre3, List.length_append, List.length_nil]; try omega
      have e2 : encL (pre3 l1 l2 l3 1) ++ encL l2 = encL (pre3 l1 l2 l3 2) := by simp only [pre3]; rw [← encL_app]; try rfl
      refine ⟨⟨(⟨2, by decide⟩, A4, c4), [200000, 200001, 200002, 200003, 33], (by show 3 - 2 < 3 - 1; decide), (by decide), ?_, ?_⟩⟩
      all_goals repeat' (first | exact rfl | exact trivial | refine And.intro ?_ ?_ | exact e1 | exact e2 | exact congrArg (fun n => Value.slice A4 n c4) e1)
    · have hp0 := pre3_le l1 l2 l3 h1 h2 h3 2
      cbv
      refine tst_mk (fun h => ?_) (fun h => ?_)
      rotate_left
      · exfalso; subst hκ; delta kid at h; revert h; decide
      cbv
      repeat' (first | refine And.intro ?_ ?_ | (intro _; cbv) | (refine tst_mk (fun h => ?_) (fun h => ?_) <;> cbv) | (refine LookR.mk' (x := .sl 200001 B1 (κ _ l1.length) e1) (by subst hκ; rfl) ?_; cbv) | (refine LookR.mk' (x := .sl 200002 B2 (κ _ l2.length) e2) (by subst hκ; rfl) ?_; cbv) | (refine LookR.mk' (x := .sl 200003 B3 (κ _ l3.length) e3) (by subst hκ; rfl) ?_; cbv))
      all_goals (clear hH; subst hκ; delta kid at *; try dsimp only at *)
      all_goals (try (exact ⟨by decide⟩))
      all_goals (try (exact ⟨rfl⟩))
      all_goals (try (exact ⟨⟨rfl, rfl, rfl, rfl, rfl⟩⟩))
      all_goals (try (exact ⟨⟨rfl, rfl, .inl rfl, encL_ok _⟩⟩))
      all_goals (try (exact ⟨by simp only [maxLen]; omega⟩))
      rename_i A4 c4 _
      have e1 : (pre3 l1 l2 l3 2).length + l3.length = (pre3 l1 l2 l3 3).length := by simp only [pre3, List.length_append, List.length_nil]; try omega
      have e2 : encL (pre3 l1 l2 l3 2) ++ encL l3 = encL (pre3 l1 l2 l3 3) := by simp only [pre3]; rw [← encL_app]; try rfl
      refine ⟨⟨(⟨3, by decide⟩, A4, c4), [200000, 200001, 200002, 200003, 33], (by show 3 - 3 < 3 - 2; decide), (by decide), ?_, ?_⟩⟩
      all_goals repeat' (first | exact rfl | exact trivial | refine And.intro ?_ ?_ | exact e1 | exact e2 | exact congrArg (fun n => Value.slice A4 n c4) e1)
    · cbv
      refine tst_mk (fun h => ?_) (fun h => ?_)
      · exfalso; subst hκ; delta kid at h; revert h; decide
      cbv
      subst hκ
      delta kid at *
      dsimp only at *
      exact ⟨⟨300000, A3, c3, rfl, .inl rfl⟩⟩
end Go.Proofs.Ytbcicjmepojlnaa.Eng
/- The contract of slices.Concat, of two lists and of three (printed by conce.py of this work); condition: 300000 areas in each. -/
namespace Go.Proofs.Ytbcicjmepojlnaa.Eng
open Go Go.RowKit
set_option linter.unusedSimpArgs false
set_option linter.unusedVariables false
def concatT (κ : Kp) : TSpec := fun args H d K => match args with
  | [.c (.sl id A n c)] => match H id with
    | some (.row A' c' t z n' [.sl i1 B1 m1 e1, .sl i2 B2 m2 e2]) => match rowOf (H i1), rowOf (H i2) with
      | some (B1', z1, m1', xs1), some (B2', z2, m2', xs2) => (z = 1 ∧ n = 2 ∧ n' = 2) ∧ Side (κ _ (A = A' ∧ B1 = B1' ∧ m1 = m1' ∧ (z1 = 6 ∨ m1 = 0) ∧ B2 = B2' ∧ m2 = m2' ∧ (z2 = 6 ∨ m2 = 0))) ∧ LookX encL xs1 fun l1 => LookX encL xs2 fun l2 => Side (κ _ (l1.length = m1 ∧ l1.length ≤ 300000 ∧ l2.length = m2 ∧ l2.length ≤ 300000)) ∧ ∀ (A2 : Option Addr) (c2 : Nat), K (.c (.sl d A2 (κ _ (l1 ++ l2).length) c2)) [(d, some (.row A2 c2 53 6 (κ _ (l1 ++ l2).length) (κ _ (encL (l1 ++ l2)))))]
      | _, _ => False
    | some (.row A' c' t z n' [.sl i1 B1 m1 e1, .sl i2 B2 m2 e2, .sl i3 B3 m3 e3]) => match rowOf (H i1), rowOf (H i2), rowOf (H i3) with
      | some (B1', z1, m1', xs1), some (B2', z2, m2', xs2), some (B3', z3, m3', xs3) => (z = 1 ∧ n = 3 ∧ n' = 3) ∧ Side (κ _ (A = A' ∧ B1 = B1' ∧ m1 = m1' ∧ (z1 = 6 ∨ m1 = 0) ∧ B2 = B2' ∧ m2 = m2' ∧ (z2 = 6 ∨ m2 = 0) ∧ B3 = B3' ∧ m3 = m3' ∧ (z3 = 6 ∨ m3 = 0))) ∧ LookX encL xs1 fun l1 => LookX encL xs2 fun l2 => LookX encL xs3 fun l3 => Side (κ _ (l1.length = m1 ∧ l1.length ≤ 300000 ∧ l2.length = m2 ∧ l2.length ≤ 300000 ∧ l3.length = m3 ∧ l3.length ≤ 300000)) ∧ ∀ (A2 : Option Addr) (c2 : Nat), K (.c (.sl d A2 (κ _ (l1 ++ l2 ++ l3).length) c2)) [(d, some (.row A2 c2 53 6 (κ _ (l1 ++ l2 ++ l3).length) (κ _ (encL (l1 ++ l2 ++ l3)))))]
      | _, _, _ => False
    | _ => False
  | _ => False
theorem concatT_conj (args : List SV) (H : Heap) (d : Nat) : ConjP (concatT kid args H d) (okKey false H d) := by
  unfold concatT
  split
  · split
    · split
      · exact .and_ fun _ => .side fun _ => .look encL_inj fun l1 _ => .look encL_inj fun l2 _ => .side fun _ => .all2 (fun A2 c2 => .c (.sl d A2 _ c2)) (fun A2 c2 => [(d, some (.row A2 c2 53 6 _ _))]) fun _ _ => okd _ _ _
      · exact .false_
    · split
      · exact .and_ fun _ => .side fun _ => .look encL_inj fun l1 _ => .look encL_inj fun l2 _ => .look encL_inj fun l3 _ => .side fun _ => .all2 (fun A2 c2 => .c (.sl d A2 _ c2)) (fun A2 c2 => [(d, some (.row A2 c2 53 6 _ _))]) fun _ _ => okd _ _ _
      · exact .false_
    · exact .false_
  · exact .false_
def e_concat {κ : Kp} (hκ : κ = kid) : ESpec Try.prog := ES b_concat false concatT hκ concatT_conj fun args H0 H d w0 M w hs hsub hH => by
  have hs' := hs
  unfold concatT at hs'
  split at hs'
  case h_2 => exact hs'.elim
  rename_i id A n c
  split at hs'
  case h_3 => exact hs'.elim
  · rename_i A' c' t z n' i1 B1 m1 e1 i2 B2 m2 e2 hid
    split at hs'
    case h_2 => exact hs'.elim
    rename_i B1' z1 m1' xs1 B2' z2 m2' xs2 hrow1 hrow2
    obtain ⟨⟨rfl, rfl, rfl⟩, ⟨h1⟩, ⟨l1, hx1, ⟨l2, hx2, ⟨h2⟩, _⟩⟩⟩ := hs'
    obtain ⟨rfl, rfl, rfl, hz1, rfl, rfl, hz2⟩ := h1
    obtain ⟨hn1, hb1, hn2, hb2⟩ : l1.length = m1 ∧ l1.length ≤ 300000 ∧ l2.length = m2 ∧ l2.length ≤ 300000 := h2
    have hrd1 : (Ent.rd B1 6 l1.length (encL l1)).holds w := rd_holds (hH.drop hsub) hrow1 hz1 hn1 hx1
    have hrd2 : (Ent.rd B2 6 l2.length (encL l2)).holds w := rd_holds (hH.drop hsub) hrow2 hz2 hn2 hx2
    have hrd : (Ent.rd A 1 2 [.sl 200001 B1 m1 e1, .sl 200002 B2 m2 e2]).holds w := by
      have h0 := gives_row_rd.holds w (hH.holds _ _ (hsub _ _ hid))
      refine ⟨h0.1, fun hx => ?_⟩
      obtain ⟨a, e1, e2, e3⟩ := h0.2 (by simp)
      exact ⟨a, e1, e2, e3⟩
    subst hn1 hn2
    refine (k_concat2 l1 l2 hb1 hb2 A c B1 e1 B2 e2 w hrd hrd1 hrd2).mono ?_
    rintro e w' ⟨v, H', rfl, hr, hH'⟩
    obtain ⟨i, A2, c2, H2, hv, hi, hH2⟩ := hr.row hH'
    refine ⟨.c (.sl d A2 (l1 ++ l2).length c2), [(d, some (.row A2 c2 53 6 (l1 ++ l2).length (encL (l1 ++ l2))))], _, rfl, fun K hK => ?_, fun _ => hv, leaveR hH hi rfl hH2 d⟩
    unfold concatT at hK
    simp only [hid, hrow1, hrow2] at hK
    obtain ⟨_, _, ⟨k1, hk1, ⟨k2, hk2, _, h⟩⟩⟩ := hK
    have := encL_inj _ _ (hx1.symm.trans hk1)
    subst this
    have := encL_inj _ _ (hx2.symm.trans hk2)
    subst this
    exact h A2 c2
  · rename_i A' c' t z n' i1 B1 m1 e1 i2 B2 m2 e2 i3 B3 m3 e3 hid
    split at hs'
    case h_2 => exact hs'.elim
    rename_i B1' z1 m1' xs1 B2' z2 m2' xs2 B3' z3 m3' xs3 hrow1 hrow2 hrow3
    obtain ⟨⟨rfl, rfl, rfl⟩, ⟨h1⟩, ⟨l1, hx1, ⟨l2, hx2, ⟨l3, hx3, ⟨h2⟩, _⟩⟩⟩⟩ := hs'
    obtain ⟨rfl, rfl, rfl, hz1, rfl, rfl, hz2, rfl, rfl, hz3⟩ := h1
    obtain ⟨hn1, hb1, hn2, hb2, hn3, hb3⟩ : l1.length = m1 ∧ l1.length ≤ 300000 ∧ l2.length = m2 ∧ l2.length ≤ 300000 ∧ l3.length = m3 ∧ l3.length ≤ 300000 := h2
    have hrd1 : (Ent.rd B1 6 l1.length (encL l1)).holds w := rd_holds (hH.drop hsub) hrow1 hz1 hn1 hx1
    have hrd2 : (Ent.rd B2 6 l2.length (encL l2)).holds w := rd_holds (hH.drop hsub) hrow2 hz2 hn2 hx2
    have hrd3 : (Ent.rd B3 6 l3.length (encL l3)).holds w := rd_holds (hH.drop hsub) hrow3 hz3 hn3 hx3
    have hrd : (Ent.rd A 1 3 [.sl 200001 B1 m1 e1, .sl 200002 B2 m2 e2, .sl 200003 B3 m3 e3]).holds w := by
      have h0 := gives_row_rd.holds w (hH.holds _ _ (hsub _ _ hid))
      refine ⟨h0.1, fun hx => ?_⟩
      obtain ⟨a, e1, e2, e3⟩ := h0.2 (by simp)
      exact ⟨a, e1, e2, e3⟩
    subst hn1 hn2 hn3
    refine (k_concat3 l1 l2 l3 hb1 hb2 hb3 A c B1 e1 B2 e2 B3 e3 w hrd hrd1 hrd2 hrd3).mono ?_
    rintro e w' ⟨v, H', rfl, hr, hH'⟩
    obtain ⟨i, A2, c2, H2, hv, hi, hH2⟩ := hr.row hH'
    refine ⟨.c (.sl d A2 (l1 ++ l2 ++ l3).length c2), [(d, some (.row A2 c2 53 6 (l1 ++ l2 ++ l3).length (encL (l1 ++ l2 ++ l3))))], _, rfl, fun K hK => ?_, fun _ => hv, leaveR hH hi rfl hH2 d⟩
    unfold concatT at hK
    simp only [hid, hrow1, hrow2, hrow3] at hK
    obtain ⟨_, _, ⟨k1, hk1, ⟨k2, hk2, ⟨k3, hk3, _, h⟩⟩⟩⟩ := hK
    have := encL_inj _ _ (hx1.symm.trans hk1)
    subst this
    have := encL_inj _ _ (hx2.symm.trans hk2)
    subst this
    have := encL_inj _ _ (hx3.symm.trans hk3)
    subst this
    exact h A2 c2
end Go.Proofs.Ytbcicjmepojlnaa.Eng
/- Contracts of functions (printed by gen.py of this work): what each hands back; condition: as its 'hside' says. -/
namespace Go.Proofs.Ytbcicjmepojlnaa.Eng
open Go Go.RowKit
set_option linter.unusedVariables false
set_option linter.unusedSimpArgs false
theorem b_lfloor : Bodied Try.prog 114 := bodied Try.func114 rfl (by decide)
def r_lfloor (n : Int) : SV := .c (.v (.int .i64 (floorA n)))
def F_lfloor (κ : Kp) : List SV → Heap → Option (Prop × SV) := fun args _ => match args with
  | [.c (.v (.int .i64 n))] => some (κ _ (True), .c (.v (.int .i64 (κ _ (floorA n)))))
  | _ => none
set_option maxRecDepth 100000 in
set_option maxHeartbeats 4000000 in
theorem k_lfloor (n : Int) (w : World) (hside : True) : Calls Try.prog 114 #[(SV.c (.v (.int .i64 n))).den] w fun e w' => e = .returned (r_lfloor n).den ∧ Below w.heap.size w w' := by
  obtain ⟨κ, hκ⟩ : ∃ κ : Kp, κ = kid := ⟨_, rfl⟩
  refine pureE FTok [] mixed [] Try.func114 rfl (by kernel_rfl) _ [(0, .c (.v (.int .i64 n)))] _ w 9 rfl [.tmp 2] rfl (by simp) (by simp [SV.den, C.den]) hκ ?_
  cbv
  repeat' (first | refine And.intro ?_ ?_ | (intro _; cbv) | (refine tst_mk (fun h => ?_) (fun h => ?_) <;> cbv))
  all_goals subst hκ
  all_goals (try delta kid at *)
  all_goals (try simp only [kid] at *)
  all_goals (refine ⟨?_⟩)
  all_goals (try (simp_all [r_lfloor, SV.den, C.den, SV.den0, floorA, w64]; done))
  all_goals (try simp_all [r_lfloor, SV.den, C.den, SV.den0, floorA, w64])
  all_goals (try omega)
def e_lfloor {κ : Kp} (hκ : κ = kid) : ESpec Try.prog := pureES b_lfloor F_lfloor hκ fun args H s v w0 M w H' hF hs _ _ => by
  unfold F_lfloor at hF
  split at hF
  · rename_i n
    injection hF with hF
    injection hF with h1 h2
    subst h1 h2
    exact k_lfloor n w hs
  · cases hF
end Go.Proofs.Ytbcicjmepojlnaa.Eng
/- list.around: what lies ahead of a range, and behind it (printed by around.py of this work); condition: at most a million areas. -/
namespace Go.Proofs.Ytbcicjmepojlnaa.Eng
open Go Go.RowKit
set_option linter.unusedSimpArgs false
set_option linter.unusedVariables false
theorem ahead_next {l : List Ar} {i : Nat} (h : i < l.length) (f : Int) : aheadL (l.take (i + 1)) f = aheadL (l.take i) f ++ aheadA f (nthA l i) := by rw [take_next h, ahead_app, ahead_one]
theorem behind_next {l : List Ar} {i : Nat} (h : i < l.length) (f : Int) : behindL (l.take (i + 1)) f = behindL (l.take i) f ++ behindA f (nthA l i) := by rw [take_next h, behind_app, behind_one]
theorem aheadA_yes {f : Int} {a : Ar} (h : hasPart a 65536 (maxI f 65536) = true) (h2 : decide (a.s < f) = true) : aheadA f a = [partA a 65536 (maxI f 65536)] := by
  unfold aheadA
  rw [h, show decide (f > a.s) = true from h2]
  rfl
theorem aheadA_no {f : Int} {a : Ar} (h2 : decide (a.s < f) = false) : aheadA f a = [] := by
  unfold aheadA
  rw [show decide (f > a.s) = false from h2, Bool.and_false]
  rfl
theorem aheadA_none {f : Int} {a : Ar} (h : hasPart a 65536 (maxI f 65536) = false) : aheadA f a = [] := by
  unfold aheadA
  rw [h]
  rfl
theorem behindA_yes {f : Int} {a : Ar} (h : hasPart a (maxI f 65536) 2097152 = true) (h2 : decide (f < a.e) = true) : behindA f a = [partA a (maxI f 65536) 2097152] := by
  unfold behindA
  rw [h, h2]
  rfl
theorem behindA_no {f : Int} {a : Ar} (h2 : decide (f < a.e) = false) : behindA f a = [] := by
  unfold behindA
  rw [h2, Bool.and_false]
  rfl
theorem behindA_none {f : Int} {a : Ar} (h : hasPart a (maxI f 65536) 2097152 = false) : behindA f a = [] := by
  unfold behindA
  rw [h]
  rfl
theorem takeA_le (l : List Ar) (i : Nat) (f : Int) : (aheadL (l.take i) f).length ≤ l.length := by
  have h1 := ahead_le (l.take i) f
  have h2 : (l.take i).length ≤ l.length := by rw [List.length_take]; omega
  omega
theorem takeB_le (l : List Ar) (i : Nat) (f : Int) : (behindL (l.take i) f).length ≤ l.length := by
  have h1 := behind_le (l.take i) f
  have h2 : (l.take i).length ≤ l.length := by rw [List.length_take]; omega
  omega
structure IsTwo (x y : List Ar) (v : SV) (H' : Heap) : Prop where
  h : ∃ i A1 c1 j A2 c2, v = .tup [.c (.sl i A1 x.length c1), .c (.sl j A2 y.length c2)] ∧ H' i = some (.row A1 c1 53 6 x.length (encL x)) ∧ H' j = some (.row A2 c2 53 6 y.length (encL y)) ∧ i ≠ j
structure IsAround (l : List Ar) (lo hi : Int) (A : Option Addr) (c : Nat) (v : SV) (H' : Heap) : Prop where
  h : (decide (lo ≥ hi) = true ∧ v = .tup [.c (.sl 200000 A l.length c), .c (.sl nilId none 0 0)]) ∨ (decide (lo ≥ hi) = false ∧ IsTwo (aheadL l (floorA lo)) (behindL l (toI hi)) v H')
theorem b_around : Bodied Try.prog 105 := bodied Try.func105 rfl (by decide)
set_option maxRecDepth 100000 in
set_option maxHeartbeats 8000000 in
theorem k_around (l : List Ar) (lo hi : Int) (hside : l.length ≤ 1000000) (A : Option Addr) (c : Nat) (w : World) (hr : (Ent.rd A 6 l.length (encL l)).holds w) :
    Calls Try.prog 105 #[.slice A l.length c, .int .i64 lo, .int .i64 hi] w fun e w' => ∃ v H', e = .returned v.den ∧ IsAround l lo hi A c v H' ∧ HSat w (fun _ => False) H' w' := by
  obtain ⟨κ, hκ⟩ : ∃ κ : Kp, κ = kid := ⟨_, rfl⟩
  have hH := holdsEL hr hκ
  refine (callsE (n := 74) FTok [e_lfloor hκ, e_part hκ] mixed [] Try.func105 rfl (by kernel_rfl) #[.slice A l.length c, .int .i64 lo, .int .i64 hi] [(0, .c (.sl 200000 A (κ _ l.length) c)), (1, .c (.v (.int .i64 lo))), (2, .c (.v (.int .i64 hi)))] _ w rfl [.tmp 6, .tmp 7] rfl (by simp) (by subst hκ; simp [SV.den, C.den, kid]) hH
    (fun v H' => IsAround (κ _ l) lo hi A c v H') hκ ?_).mono ?_
  rotate_left
  · subst hκ; intro e w' h; exact h
  cbv
  refine tst_mk (fun hge => ?_) (fun hge => ?_)
  · cbv
    subst hκ
    delta kid at *
    exact ⟨.inl ⟨hge, rfl⟩⟩
  cbv
  refine ⟨⟨by subst hκ; exact trivial⟩, ?_⟩
  cbv
  refine tst_mk (fun hm => ?_) (fun hm => ?_)
  · cbv
    refine ⟨⟨by subst hκ; exact trivial⟩, ?_⟩
    cbv
    refine loopG FTok [e_lfloor hκ, e_part hκ] mixed [0, 1, 2, 8, 9, 29, 30] (σ := Nat × Option Addr × Nat × Option Addr × Nat) (fun q => [(6, .c (.sl 300000 q.2.1 (κ _ (aheadL (l.take q.1) (floorA lo)).length) q.2.2.1)), (7, .c (.sl 300001 q.2.2.2.1 (κ _ (behindL (l.take q.1) (w64 (0 - floorA (w64 (0 - hi))))).length) q.2.2.2.2)), (31, .c (.v (.int .i64 (κ _ ((q.1 : Nat) : Int)))))])
      (fun q => [(200000, .rd A 6 (κ _ l.length) (κ _ (encL l))), (300000, .row q.2.1 q.2.2.1 53 6 (κ _ (aheadL (l.take q.1) (floorA lo)).length) (κ _ (encL (aheadL (l.take q.1) (floorA lo))))), (300001, .row q.2.2.2.1 q.2.2.2.2 53 6 (κ _ (behindL (l.take q.1) (w64 (0 - floorA (w64 (0 - hi))))).length) (κ _ (encL (behindL (l.take q.1) (w64 (0 - floorA (w64 (0 - hi))))))))])
      (fun q => l.length - q.1) (0, none, 0, none, 0) [200000, 999999, 999998] ?_ (by decide) ?_ hκ ?_
    · cbv
      subst hκ
      delta kid
      all_goals repeat' (first | exact rfl | exact trivial | refine And.intro ?_ ?_)
    · cbv
      subst hκ
      delta kid
      all_goals repeat' (first | exact rfl | exact trivial | refine And.intro ?_ ?_)
    rintro ⟨i, A2, c2, B2, e2⟩
    cbv
    refine tst_mk (fun h => ?_) (fun h => ?_)
    · have hx : i < l.length := by subst hκ; delta kid at h; have h2 : (i : Int) < (l.length : Int) := of_decide_eq_true h; omega
      have hl2 := takeA_le l i (floorA lo)
      have hl3 := takeB_le l i (w64 (0 - floorA (w64 (0 - hi))))
      have hva := ahead_next hx (floorA lo)
      have hvb := behind_next hx (w64 (0 - floorA (w64 (0 - hi))))
      cbv
      repeat' (first | refine And.intro ?_ ?_ | (intro _; cbv) | (refine tst_mk (fun h => ?_) (fun h => ?_) <;> cbv) | (refine LookN.mk' (x := [.v (.int .i64 (κ _ (nthA l i).s)), .v (.int .i64 (κ _ (nthA l i).e)), .v (.int .i64 (κ _ (nthA l i).p)), .v (.bool (κ _ (nthA l i).sh)), .v (.int .i64 (κ _ (nthA l i).b)), .v (.int .i64 (κ _ (nthA l i).o))]) (by subst hκ; delta kid at *; exact la_take hx) ?_; cbv))
      all_goals (clear hH; subst hκ; delta kid at *; try dsimp only at *)
      all_goals (try (exact ⟨la_ix hx⟩))
      all_goals (try (exact ⟨rfl⟩))
      all_goals (try (exact ⟨trivial⟩))
      all_goals (try (exact ⟨⟨rfl, rfl, rfl, rfl, rfl⟩⟩))
      all_goals (try (exact ⟨⟨rfl, rfl, .inl rfl, rfl⟩⟩))
      all_goals (try (exact ⟨by simp only [maxLen]; omega⟩))
      · rename_i A3 c3 _ _ B3 e3 h0 h1 h2 h3
        simp only [nthA_eta] at *
        have qa : aheadA (floorA lo) (nthA l i) = [partA (nthA l i) 65536 (maxI (floorA lo) 65536)] := aheadA_yes h1 h2
        have qb : behindA (w64 (0 - floorA (w64 (0 - hi)))) (nthA l i) = [partA (nthA l i) (maxI (w64 (0 - floorA (w64 (0 - hi)))) 65536) 2097152] := behindA_yes h3 h
        rw [qa] at hva
        rw [qb] at hvb
        have a1 : (aheadL (l.take i) (floorA lo)).length + 1 = (aheadL (l.take (i + 1)) (floorA lo)).length := by rw [hva, List.length_append]; rfl
        have a2 : encL (aheadL (l.take i) (floorA lo)) ++ encA (partA (nthA l i) 65536 (maxI (floorA lo) 65536)) = encL (aheadL (l.take (i + 1)) (floorA lo)) := by rw [hva, encL_app, encL_one]
        have b1 : (behindL (l.take i) (w64 (0 - floorA (w64 (0 - hi))))).length + 1 = (behindL (l.take (i + 1)) (w64 (0 - floorA (w64 (0 - hi))))).length := by rw [hvb, List.length_append]; rfl
        have b2 : encL (behindL (l.take i) (w64 (0 - floorA (w64 (0 - hi))))) ++ encA (partA (nthA l i) (maxI (w64 (0 - floorA (w64 (0 - hi)))) 65536) 2097152) = encL (behindL (l.take (i + 1)) (w64 (0 - floorA (w64 (0 - hi))))) := by rw [hvb, encL_app, encL_one]
        refine ⟨⟨(i + 1, A3, c3, B3, e3), [200000, 52, 70], (by show l.length - (i + 1) < l.length - i; omega), by decide, ?_, ?_⟩⟩
        all_goals repeat' (first | exact rfl | exact trivial | refine And.intro ?_ ?_ | exact a1 | exact a2 | exact b1 | exact b2 | exact congrArg (fun n => Value.slice A3 n c3) a1 | exact congrArg (fun n => Value.slice B3 n e3) b1 | exact congrArg (Value.int .i64) (nat_succ (by omega)))
      · rename_i A3 c3 _ h0 h1 h2 h3
        simp only [nthA_eta] at *
        have qa : aheadA (floorA lo) (nthA l i) = [partA (nthA l i) 65536 (maxI (floorA lo) 65536)] := aheadA_yes h1 h2
        have qb : behindA (w64 (0 - floorA (w64 (0 - hi)))) (nthA l i) = [] := behindA_no h
        rw [qa] at hva
        rw [qb, List.append_nil] at hvb
        have a1 : (aheadL (l.take i) (floorA lo)).length + 1 = (aheadL (l.take (i + 1)) (floorA lo)).length := by rw [hva, List.length_append]; rfl
        have a2 : encL (aheadL (l.take i) (floorA lo)) ++ encA (partA (nthA l i) 65536 (maxI (floorA lo) 65536)) = encL (aheadL (l.take (i + 1)) (floorA lo)) := by rw [hva, encL_app, encL_one]
        have b1 : (behindL (l.take i) (w64 (0 - floorA (w64 (0 - hi))))).length = (behindL (l.take (i + 1)) (w64 (0 - floorA (w64 (0 - hi))))).length := by rw [hvb]
        have b2 : encL (behindL (l.take i) (w64 (0 - floorA (w64 (0 - hi))))) = encL (behindL (l.take (i + 1)) (w64 (0 - floorA (w64 (0 - hi))))) := by rw [hvb]
        refine ⟨⟨(i + 1, A3, c3, B2, e2), [200000, 52, 300001], (by show l.length - (i + 1) < l.length - i; omega), by decide, ?_, ?_⟩⟩
        all_goals repeat' (first | exact rfl | exact trivial | refine And.intro ?_ ?_ | exact a1 | exact a2 | exact b1 | exact b2 | exact congrArg (fun n => Value.slice A3 n c3) a1 | exact congrArg (fun n => Value.slice B2 n e2) b1 | exact congrArg (Value.int .i64) (nat_succ (by omega)))
      · rename_i A3 c3 _ h0 h1 h2
        simp only [nthA_eta] at *
        have qa : aheadA (floorA lo) (nthA l i) = [partA (nthA l i) 65536 (maxI (floorA lo) 65536)] := aheadA_yes h1 h2
        have qb : behindA (w64 (0 - floorA (w64 (0 - hi)))) (nthA l i) = [] := behindA_none h
        rw [qa] at hva
        rw [qb, List.append_nil] at hvb
        have a1 : (aheadL (l.take i) (floorA lo)).length + 1 = (aheadL (l.take (i + 1)) (floorA lo)).length := by rw [hva, List.length_append]; rfl
        have a2 : encL (aheadL (l.take i) (floorA lo)) ++ encA (partA (nthA l i) 65536 (maxI (floorA lo) 65536)) = encL (aheadL (l.take (i + 1)) (floorA lo)) := by rw [hva, encL_app, encL_one]
        have b1 : (behindL (l.take i) (w64 (0 - floorA (w64 (0 - hi))))).length = (behindL (l.take (i + 1)) (w64 (0 - floorA (w64 (0 - hi))))).length := by rw [hvb]
        have b2 : encL (behindL (l.take i) (w64 (0 - floorA (w64 (0 - hi))))) = encL (behindL (l.take (i + 1)) (w64 (0 - floorA (w64 (0 - hi))))) := by rw [hvb]
        refine ⟨⟨(i + 1, A3, c3, B2, e2), [200000, 52, 300001], (by show l.length - (i + 1) < l.length - i; omega), by decide, ?_, ?_⟩⟩
        all_goals repeat' (first | exact rfl | exact trivial | refine And.intro ?_ ?_ | exact a1 | exact a2 | exact b1 | exact b2 | exact congrArg (fun n => Value.slice A3 n c3) a1 | exact congrArg (fun n => Value.slice B2 n e2) b1 | exact congrArg (Value.int .i64) (nat_succ (by omega)))
      · rename_i B3 e3 h0 h1 h2 h3
        simp only [nthA_eta] at *
        have qa : aheadA (floorA lo) (nthA l i) = [] := aheadA_no h2
        have qb : behindA (w64 (0 - floorA (w64 (0 - hi)))) (nthA l i) = [partA (nthA l i) (maxI (w64 (0 - floorA (w64 (0 - hi)))) 65536) 2097152] := behindA_yes h3 h
        rw [qa, List.append_nil] at hva
        rw [qb] at hvb
        have a1 : (aheadL (l.take i) (floorA lo)).length = (aheadL (l.take (i + 1)) (floorA lo)).length := by rw [hva]
        have a2 : encL (aheadL (l.take i) (floorA lo)) = encL (aheadL (l.take (i + 1)) (floorA lo)) := by rw [hva]
        have b1 : (behindL (l.take i) (w64 (0 - floorA (w64 (0 - hi))))).length + 1 = (behindL (l.take (i + 1)) (w64 (0 - floorA (w64 (0 - hi))))).length := by rw [hvb, List.length_append]; rfl
        have b2 : encL (behindL (l.take i) (w64 (0 - floorA (w64 (0 - hi))))) ++ encA (partA (nthA l i) (maxI (w64 (0 - floorA (w64 (0 - hi)))) 65536) 2097152) = encL (behindL (l.take (i + 1)) (w64 (0 - floorA (w64 (0 - hi))))) := by rw [hvb, encL_app, encL_one]
        refine ⟨⟨(i + 1, A2, c2, B3, e3), [200000, 300000, 70], (by show l.length - (i + 1) < l.length - i; omega), by decide, ?_, ?_⟩⟩
        all_goals repeat' (first | exact rfl | exact trivial | refine And.intro ?_ ?_ | exact a1 | exact a2 | exact b1 | exact b2 | exact congrArg (fun n => Value.slice A2 n c2) a1 | exact congrArg (fun n => Value.slice B3 n e3) b1 | exact congrArg (Value.int .i64) (nat_succ (by omega)))
      · rename_i h0 h1 h2 h3
        simp only [nthA_eta] at *
        have qa : aheadA (floorA lo) (nthA l i) = [] := aheadA_no h2
        have qb : behindA (w64 (0 - floorA (w64 (0 - hi)))) (nthA l i) = [] := behindA_no h
        rw [qa, List.append_nil] at hva
        rw [qb, List.append_nil] at hvb
        have a1 : (aheadL (l.take i) (floorA lo)).length = (aheadL (l.take (i + 1)) (floorA lo)).length := by rw [hva]
        have a2 : encL (aheadL (l.take i) (floorA lo)) = encL (aheadL (l.take (i + 1)) (floorA lo)) := by rw [hva]
        have b1 : (behindL (l.take i) (w64 (0 - floorA (w64 (0 - hi))))).length = (behindL (l.take (i + 1)) (w64 (0 - floorA (w64 (0 - hi))))).length := by rw [hvb]
        have b2 : encL (behindL (l.take i) (w64 (0 - floorA (w64 (0 - hi))))) = encL (behindL (l.take (i + 1)) (w64 (0 - floorA (w64 (0 - hi))))) := by rw [hvb]
        refine ⟨⟨(i + 1, A2, c2, B2, e2), [200000, 300000, 300001], (by show l.length - (i + 1) < l.length - i; omega), by decide, ?_, ?_⟩⟩
        all_goals repeat' (first | exact rfl | exact trivial | refine And.intro ?_ ?_ | exact a1 | exact a2 | exact b1 | exact b2 | exact congrArg (fun n => Value.slice A2 n c2) a1 | exact congrArg (fun n => Value.slice B2 n e2) b1 | exact congrArg (Value.int .i64) (nat_succ (by omega)))
      · rename_i h0 h1 h2
        simp only [nthA_eta] at *
        have qa : aheadA (floorA lo) (nthA l i) = [] := aheadA_no h2
        have qb : behindA (w64 (0 - floorA (w64 (0 - hi)))) (nthA l i) = [] := behindA_none h
        rw [qa, List.append_nil] at hva
        rw [qb, List.append_nil] at hvb
        have a1 : (aheadL (l.take i) (floorA lo)).length = (aheadL (l.take (i + 1)) (floorA lo)).length := by rw [hva]
        have a2 : encL (aheadL (l.take i) (floorA lo)) = encL (aheadL (l.take (i + 1)) (floorA lo)) := by rw [hva]
        have b1 : (behindL (l.take i) (w64 (0 - floorA (w64 (0 - hi))))).length = (behindL (l.take (i + 1)) (w64 (0 - floorA (w64 (0 - hi))))).length := by rw [hvb]
        have b2 : encL (behindL (l.take i) (w64 (0 - floorA (w64 (0 - hi))))) = encL (behindL (l.take (i + 1)) (w64 (0 - floorA (w64 (0 - hi))))) := by rw [hvb]
        refine ⟨⟨(i + 1, A2, c2, B2, e2), [200000, 300000, 300001], (by show l.length - (i + 1) < l.length - i; omega), by decide, ?_, ?_⟩⟩
        all_goals repeat' (first | exact rfl | exact trivial | refine And.intro ?_ ?_ | exact a1 | exact a2 | exact b1 | exact b2 | exact congrArg (fun n => Value.slice A2 n c2) a1 | exact congrArg (fun n => Value.slice B2 n e2) b1 | exact congrArg (Value.int .i64) (nat_succ (by omega)))
      · rename_i B3 e3 h0 h1 h2
        simp only [nthA_eta] at *
        have qa : aheadA (floorA lo) (nthA l i) = [] := aheadA_none h1
        have qb : behindA (w64 (0 - floorA (w64 (0 - hi)))) (nthA l i) = [partA (nthA l i) (maxI (w64 (0 - floorA (w64 (0 - hi)))) 65536) 2097152] := behindA_yes h2 h
        rw [qa, List.append_nil] at hva
        rw [qb] at hvb
        have a1 : (aheadL (l.take i) (floorA lo)).length = (aheadL (l.take (i + 1)) (floorA lo)).length := by rw [hva]
        have a2 : encL (aheadL (l.take i) (floorA lo)) = encL (aheadL (l.take (i + 1)) (floorA lo)) := by rw [hva]
        have b1 : (behindL (l.take i) (w64 (0 - floorA (w64 (0 - hi))))).length + 1 = (behindL (l.take (i + 1)) (w64 (0 - floorA (w64 (0 - hi))))).length := by rw [hvb, List.length_append]; rfl
        have b2 : encL (behindL (l.take i) (w64 (0 - floorA (w64 (0 - hi))))) ++ encA (partA (nthA l i) (maxI (w64 (0 - floorA (w64 (0 - hi)))) 65536) 2097152) = encL (behindL (l.take (i + 1)) (w64 (0 - floorA (w64 (0 - hi))))) := by rw [hvb, encL_app, encL_one]
        refine ⟨⟨(i + 1, A2, c2, B3, e3), [200000, 300000, 70], (by show l.length - (i + 1) < l.length - i; omega), by decide, ?_, ?_⟩⟩
        all_goals repeat' (first | exact rfl | exact trivial | refine And.intro ?_ ?_ | exact a1 | exact a2 | exact b1 | exact b2 | exact congrArg (fun n => Value.slice A2 n c2) a1 | exact congrArg (fun n => Value.slice B3 n e3) b1 | exact congrArg (Value.int .i64) (nat_succ (by omega)))
      · rename_i h0 h1 h2
        simp only [nthA_eta] at *
        have qa : aheadA (floorA lo) (nthA l i) = [] := aheadA_none h1
        have qb : behindA (w64 (0 - floorA (w64 (0 - hi)))) (nthA l i) = [] := behindA_no h
        rw [qa, List.append_nil] at hva
        rw [qb, List.append_nil] at hvb
        have a1 : (aheadL (l.take i) (floorA lo)).length = (aheadL (l.take (i + 1)) (floorA lo)).length := by rw [hva]
        have a2 : encL (aheadL (l.take i) (floorA lo)) = encL (aheadL (l.take (i + 1)) (floorA lo)) := by rw [hva]
        have b1 : (behindL (l.take i) (w64 (0 - floorA (w64 (0 - hi))))).length = (behindL (l.take (i + 1)) (w64 (0 - floorA (w64 (0 - hi))))).length := by rw [hvb]
        have b2 : encL (behindL (l.take i) (w64 (0 - floorA (w64 (0 - hi))))) = encL (behindL (l.take (i + 1)) (w64 (0 - floorA (w64 (0 - hi))))) := by rw [hvb]
        refine ⟨⟨(i + 1, A2, c2, B2, e2), [200000, 300000, 300001], (by show l.length - (i + 1) < l.length - i; omega), by decide, ?_, ?_⟩⟩
        all_goals repeat' (first | exact rfl | exact trivial | refine And.intro ?_ ?_ | exact a1 | exact a2 | exact b1 | exact b2 | exact congrArg (fun n => Value.slice A2 n c2) a1 | exact congrArg (fun n => Value.slice B2 n e2) b1 | exact congrArg (Value.int .i64) (nat_succ (by omega)))
      · rename_i h0 h1
        simp only [nthA_eta] at *
        have qa : aheadA (floorA lo) (nthA l i) = [] := aheadA_none h1
        have qb : behindA (w64 (0 - floorA (w64 (0 - hi)))) (nthA l i) = [] := behindA_none h
        rw [qa, List.append_nil] at hva
        rw [qb, List.append_nil] at hvb
        have a1 : (aheadL (l.take i) (floorA lo)).length = (aheadL (l.take (i + 1)) (floorA lo)).length := by rw [hva]
        have a2 : encL (aheadL (l.take i) (floorA lo)) = encL (aheadL (l.take (i + 1)) (floorA lo)) := by rw [hva]
        have b1 : (behindL (l.take i) (w64 (0 - floorA (w64 (0 - hi))))).length = (behindL (l.take (i + 1)) (w64 (0 - floorA (w64 (0 - hi))))).length := by rw [hvb]
        have b2 : encL (behindL (l.take i) (w64 (0 - floorA (w64 (0 - hi))))) = encL (behindL (l.take (i + 1)) (w64 (0 - floorA (w64 (0 - hi))))) := by rw [hvb]
        refine ⟨⟨(i + 1, A2, c2, B2, e2), [200000, 300000, 300001], (by show l.length - (i + 1) < l.length - i; omega), by decide, ?_, ?_⟩⟩
        all_goals repeat' (first | exact rfl | exact trivial | refine And.intro ?_ ?_ | exact a1 | exact a2 | exact b1 | exact b2 | exact congrArg (fun n => Value.slice A2 n c2) a1 | exact congrArg (fun n => Value.slice B2 n e2) b1 | exact congrArg (Value.int .i64) (nat_succ (by omega)))
    · have hx : ¬ i < l.length := by subst hκ; delta kid at h; have h2 : ¬ (i : Int) < (l.length : Int) := of_decide_eq_false h; omega
      cbv
      subst hκ
      delta kid at *
      try dsimp only at *
      have ht : toI hi = w64 (0 - floorA (w64 (0 - hi))) := by unfold toI; rw [if_pos (of_decide_eq_true hm)]
      refine ⟨.inr ⟨hge, ?_⟩⟩
      rw [ht, take_all hx]
      exact ⟨⟨300000, A2, c2, 300001, B2, e2, rfl, rfl, rfl, by decide⟩⟩
  · cbv
    refine loopG FTok [e_lfloor hκ, e_part hκ] mixed [0, 1, 2, 8, 9, 29, 30] (σ := Nat × Option Addr × Nat × Option Addr × Nat) (fun q => [(6, .c (.sl 300000 q.2.1 (κ _ (aheadL (l.take q.1) (floorA lo)).length) q.2.2.1)), (7, .c (.sl 300001 q.2.2.2.1 (κ _ (behindL (l.take q.1) (hi)).length) q.2.2.2.2)), (31, .c (.v (.int .i64 (κ _ ((q.1 : Nat) : Int)))))])
      (fun q => [(200000, .rd A 6 (κ _ l.length) (κ _ (encL l))), (300000, .row q.2.1 q.2.2.1 53 6 (κ _ (aheadL (l.take q.1) (floorA lo)).length) (κ _ (encL (aheadL (l.take q.1) (floorA lo))))), (300001, .row q.2.2.2.1 q.2.2.2.2 53 6 (κ _ (behindL (l.take q.1) (hi)).length) (κ _ (encL (behindL (l.take q.1) (hi)))))])
      (fun q => l.length - q.1) (0, none, 0, none, 0) [200000, 999999, 999998] ?_ (by decide) ?_ hκ ?_
    · cbv
      subst hκ
      delta kid
      all_goals repeat' (first | exact rfl | exact trivial | refine And.intro ?_ ?_)
    · cbv
      subst hκ
      delta kid
      all_goals repeat' (first | exact rfl | exact trivial | refine And.intro ?_ ?_)
    rintro ⟨i, A2, c2, B2, e2⟩
    cbv
    refine tst_mk (fun h => ?_) (fun h => ?_)
    · have hx : i < l.length := by subst hκ; delta kid at h; have h2 : (i : Int) < (l.length : Int) := of_decide_eq_true h; omega
      have hl2 := takeA_le l i (floorA lo)
      have hl3 := takeB_le l i (hi)
      have hva := ahead_next hx (floorA lo)
      have hvb := behind_next hx (hi)
      cbv
      repeat' (first | refine And.intro ?_ ?_ | (intro _; cbv) | (refine tst_mk (fun h => ?_) (fun h => ?_) <;> cbv) | (refine LookN.mk' (x := [.v (.int .i64 (κ _ (nthA l i).s)), .v (.int .i64 (κ _ (nthA l i).e)), .v (.int .i64 (κ _ (nthA l i).p)), .v (.bool (κ _ (nthA l i).sh)), .v (.int .i64 (κ _ (nthA l i).b)), .v (.int .i64 (κ _ (nthA l i).o))]) (by subst hκ; delta kid at *; exact la_take hx) ?_; cbv))
      all_goals (clear hH; subst hκ; delta kid at *; try dsimp only at *)
      all_goals (try (exact ⟨la_ix hx⟩))
      all_goals (try (exact ⟨rfl⟩))
      all_goals (try (exact ⟨trivial⟩))
      all_goals (try (exact ⟨⟨rfl, rfl, rfl, rfl, rfl⟩⟩))
      all_goals (try (exact ⟨⟨rfl, rfl, .inl rfl, rfl⟩⟩))
      all_goals (try (exact ⟨by simp only [maxLen]; omega⟩))
      · rename_i A3 c3 _ _ B3 e3 h0 h1 h2 h3
        simp only [nthA_eta] at *
        have qa : aheadA (floorA lo) (nthA l i) = [partA (nthA l i) 65536 (maxI (floorA lo) 65536)] := aheadA_yes h1 h2
        have qb : behindA (hi) (nthA l i) = [partA (nthA l i) (maxI (hi) 65536) 2097152] := behindA_yes h3 h
        rw [qa] at hva
        rw [qb] at hvb
        have a1 : (aheadL (l.take i) (floorA lo)).length + 1 = (aheadL (l.take (i + 1)) (floorA lo)).length := by rw [hva, List.length_append]; rfl
        have a2 : encL (aheadL (l.take i) (floorA lo)) ++ encA (partA (nthA l i) 65536 (maxI (floorA lo) 65536)) = encL (aheadL (l.take (i + 1)) (floorA lo)) := by rw [hva, encL_app, encL_one]
        have b1 : (behindL (l.take i) (hi)).length + 1 = (behindL (l.take (i + 1)) (hi)).length := by rw [hvb, List.length_append]; rfl
        have b2 : encL (behindL (l.take i) (hi)) ++ encA (partA (nthA l i) (maxI (hi) 65536) 2097152) = encL (behindL (l.take (i + 1)) (hi)) := by rw [hvb, encL_app, encL_one]
        refine ⟨⟨(i + 1, A3, c3, B3, e3), [200000, 52, 70], (by show l.length - (i + 1) < l.length - i; omega), by decide, ?_, ?_⟩⟩
        all_goals repeat' (first | exact rfl | exact trivial | refine And.intro ?_ ?_ | exact a1 | exact a2 | exact b1 | exact b2 | exact congrArg (fun n => Value.slice A3 n c3) a1 | exact congrArg (fun n => Value.slice B3 n e3) b1 | exact congrArg (Value.int .i64) (nat_succ (by omega)))
      · rename_i A3 c3 _ h0 h1 h2 h3
        simp only [nthA_eta] at *
        have qa : aheadA (floorA lo) (nthA l i) = [partA (nthA l i) 65536 (maxI (floorA lo) 65536)] := aheadA_yes h1 h2
        have qb : behindA (hi) (nthA l i) = [] := behindA_no h
        rw [qa] at hva
        rw [qb, List.append_nil] at hvb
        have a1 : (aheadL (l.take i) (floorA lo)).length + 1 = (aheadL (l.take (i + 1)) (floorA lo)).length := by rw [hva, List.length_append]; rfl
        have a2 : encL (aheadL (l.take i) (floorA lo)) ++ encA (partA (nthA l i) 65536 (maxI (floorA lo) 65536)) = encL (aheadL (l.take (i + 1)) (floorA lo)) := by rw [hva, encL_app, encL_one]
        have b1 : (behindL (l.take i) (hi)).length = (behindL (l.take (i + 1)) (hi)).length := by rw [hvb]
        have b2 : encL (behindL (l.take i) (hi)) = encL (behindL (l.take (i + 1)) (hi)) := by rw [hvb]
        refine ⟨⟨(i + 1, A3, c3, B2, e2), [200000, 52, 300001], (by show l.length - (i + 1) < l.length - i; omega), by decide, ?_, ?_⟩⟩
        all_goals repeat' (first | exact rfl | exact trivial | refine And.intro ?_ ?_ | exact a1 | exact a2 | exact b1 | exact b2 | exact congrArg (fun n => Value.slice A3 n c3) a1 | exact congrArg (fun n => Value.slice B2 n e2) b1 | exact congrArg (Value.int .i64) (nat_succ (by omega)))
      · rename_i A3 c3 _ h0 h1 h2
        simp only [nthA_eta] at *
        have qa : aheadA (floorA lo) (nthA l i) = [partA (nthA l i) 65536 (maxI (floorA lo) 65536)] := aheadA_yes h1 h2
        have qb : behindA (hi) (nthA l i) = [] := behindA_none h
        rw [qa] at hva
        rw [qb, List.append_nil] at hvb
        have a1 : (aheadL (l.take i) (floorA lo)).length + 1 = (aheadL (l.take (i + 1)) (floorA lo)).length := by rw [hva, List.length_append]; rfl
        have a2 : encL (aheadL (l.take i) (floorA lo)) ++ encA (partA (nthA l i) 65536 (maxI (floorA lo) 65536)) = encL (aheadL (l.take (i + 1)) (floorA lo)) := by rw [hva, encL_app, encL_one]
        have b1 : (behindL (l.take i) (hi)).length = (behindL (l.take (i + 1)) (hi)).length := by rw [hvb]
        have b2 : encL (behindL (l.take i) (hi)) = encL (behindL (l.take (i + 1)) (hi)) := by rw [hvb]
        refine ⟨⟨(i + 1, A3, c3, B2, e2), [200000, 52, 300001], (by show l.length - (i + 1) < l.length - i; omega), by decide, ?_, ?_⟩⟩
        all_goals repeat' (first | exact rfl | exact trivial | refine And.intro ?_ ?_ | exact a1 | exact a2 | exact b1 | exact b2 | exact congrArg (fun n => Value.slice A3 n c3) a1 | exact congrArg (fun n => Value.slice B2 n e2) b1 | exact congrArg (Value.int .i64) (nat_succ (by omega)))
      · rename_i B3 e3 h0 h1 h2 h3
        simp only [nthA_eta] at *
        have qa : aheadA (floorA lo) (nthA l i) = [] := aheadA_no h2
        have qb : behindA (hi) (nthA l i) = [partA (nthA l i) (maxI (hi) 65536) 2097152] := behindA_yes h3 h
        rw [qa, List.append_nil] at hva
        rw [qb] at hvb
        have a1 : (aheadL (l.take i) (floorA lo)).length = (aheadL (l.take (i + 1)) (floorA lo)).length := by rw [hva]
        have a2 : encL (aheadL (l.take i) (floorA lo)) = encL (aheadL (l.take (i + 1)) (floorA lo)) := by rw [hva]
        have b1 : (behindL (l.take i) (hi)).length + 1 = (behindL (l.take (i + 1)) (hi)).length := by rw [hvb, List.length_append]; rfl
        have b2 : encL (behindL (l.take i) (hi)) ++ encA (partA (nthA l i) (maxI (hi) 65536) 2097152) = encL (behindL (l.take (i + 1)) (hi)) := by rw [hvb, encL_app, encL_one]
        refine ⟨⟨(i + 1, A2, c2, B3, e3), [200000, 300000, 70], (by show l.length - (i + 1) < l.length - i; omega), by decide, ?_, ?_⟩⟩
        all_goals repeat' (first | exact rfl | exact trivial | refine And.intro ?_ ?_ | exact a1 | exact a2 | exact b1 | exact b2 | exact congrArg (fun n => Value.slice A2 n c2) a1 | exact congrArg (fun n => Value.slice B3 n e3) b1 | exact congrArg (Value.int .i64) (nat_succ (by omega)))
      · rename_i h0 h1 h2 h3
        simp only [nthA_eta] at *
        have qa : aheadA (floorA lo) (nthA l i) = [] := aheadA_no h2
        have qb : behindA (hi) (nthA l i) = [] := behindA_no h
        rw [qa, List.append_nil] at hva
        rw [qb, List.append_nil] at hvb
        have a1 : (aheadL (l.take i) (floorA lo)).length = (aheadL (l.take (i + 1)) (floorA lo)).length := by rw [hva]
        have a2 : encL (aheadL (l.take i) (floorA lo)) = encL (aheadL (l.take (i + 1)) (floorA lo)) := by rw [hva]
        have b1 : (behindL (l.take i) (hi)).length = (behindL (l.take (i + 1)) (hi)).length := by rw [hvb]
        have b2 : encL (behindL (l.take i) (hi)) = encL (behindL (l.take (i + 1)) (hi)) := by rw [hvb]
        refine ⟨⟨(i + 1, A2, c2, B2, e2), [200000, 300000, 300001], (by show l.length - (i + 1) < l.length - i; omega), by decide, ?_, ?_⟩⟩
        all_goals repeat' (first | exact rfl | exact trivial | refine And.intro ?_ ?_ | exact a1 | exact a2 | exact b1 | exact b2 | exact congrArg (fun n => Value.slice A2 n c2) a1 | exact congrArg (fun n => Value.slice B2 n e2) b1 | exact congrArg (Value.int .i64) (nat_succ (by omega)))
      · rename_i h0 h1 h2
        simp only [nthA_eta] at *
        have qa : aheadA (floorA lo) (nthA l i) = [] := aheadA_no h2
        have qb : behindA (hi) (nthA l i) = [] := behindA_none h
        rw [qa, List.append_nil] at hva
        rw [qb, List.append_nil] at hvb
        have a1 : (aheadL (l.take i) (floorA lo)).length = (aheadL (l.take (i + 1)) (floorA lo)).length := by rw [hva]
        have a2 : encL (aheadL (l.take i) (floorA lo)) = encL (aheadL (l.take (i + 1)) (floorA lo)) := by rw [hva]
        have b1 : (behindL (l.take i) (hi)).length = (behindL (l.take (i + 1)) (hi)).length := by rw [hvb]
        have b2 : encL (behindL (l.take i) (hi)) = encL (behindL (l.take (i + 1)) (hi)) := by rw [hvb]
        refine ⟨⟨(i + 1, A2, c2, B2, e2), [200000, 300000, 300001], (by show l.length - (i + 1) < l.length - i; omega), by decide, ?_, ?_⟩⟩
        all_goals repeat' (first | exact rfl | exact trivial | refine And.intro ?_ ?_ | exact a1 | exact a2 | exact b1 | exact b2 | exact congrArg (fun n => Value.slice A2 n c2) a1 | exact congrArg (fun n => Value.slice B2 n e2) b1 | exact congrArg (Value.int .i64) (nat_succ (by omega)))
      · rename_i B3 e3 h0 h1 h2
        simp only [nthA_eta] at *
        have qa : aheadA (floorA lo) (nthA l i) = [] := aheadA_none h1
        have qb : behindA (hi) (nthA l i) = [partA (nthA l i) (maxI (hi) 65536) 2097152] := behindA_yes h2 h
        rw [qa, List.append_nil] at hva
        rw [qb] at hvb
        have a1 : (aheadL (l.take i) (floorA lo)).length = (aheadL (l.take (i + 1)) (floorA lo)).length := by rw [hva]
        have a2 : encL (aheadL (l.take i) (floorA lo)) = encL (aheadL (l.take (i + 1)) (floorA lo)) := by rw [hva]
        have b1 : (behindL (l.take i) (hi)).length + 1 = (behindL (l.take (i + 1)) (hi)).length := by rw [hvb, List.length_append]; rfl
        have b2 : encL (behindL (l.take i) (hi)) ++ encA (partA (nthA l i) (maxI (hi) 65536) 2097152) = encL (behindL (l.take (i + 1)) (hi)) := by rw [hvb, encL_app, encL_one]
        refine ⟨⟨(i + 1, A2, c2, B3, e3), [200000, 300000, 70], (by show l.length - (i + 1) < l.length - i; omega), by decide, ?_, ?_⟩⟩
        all_goals repeat' (first | exact rfl | exact trivial | refine And.intro ?_ ?_ | exact a1 | exact a2 | exact b1 | exact b2 | exact congrArg (fun n => Value.slice A2 n c2) a1 | exact congrArg (fun n => Value.slice B3 n e3) b1 | exact congrArg (Value.int .i64) (nat_succ (by omega)))
      · rename_i h0 h1 h2
        simp only [nthA_eta] at *
        have qa : aheadA (floorA lo) (nthA l i) = [] := aheadA_none h1
        have qb : behindA (hi) (nthA l i) = [] := behindA_no h
        rw [qa, List.append_nil] at hva
        rw [qb, List.append_nil] at hvb
        have a1 : (aheadL (l.take i) (floorA lo)).length = (aheadL (l.take (i + 1)) (floorA lo)).length := by rw [hva]
        have a2 : encL (aheadL (l.take i) (floorA lo)) = encL (aheadL (l.take (i + 1)) (floorA lo)) := by rw [hva]
        have b1 : (behindL (l.take i) (hi)).length = (behindL (l.take (i + 1)) (hi)).length := by rw [hvb]
        have b2 : encL (behindL (l.take i) (hi)) = encL (behindL (l.take (i + 1)) (hi)) := by rw [hvb]
        refine ⟨⟨(i + 1, A2, c2, B2, e2), [200000, 300000, 300001], (by show l.length - (i + 1) < l.length - i; omega), by decide, ?_, ?_⟩⟩
        all_goals repeat' (first | exact rfl | exact trivial | refine And.intro ?_ ?_ | exact a1 | exact a2 | exact b1 | exact b2 | exact congrArg (fun n => Value.slice A2 n c2) a1 | exact congrArg (fun n => Value.slice B2 n e2) b1 | exact congrArg (Value.int .i64) (nat_succ (by omega)))
      · rename_i h0 h1
        simp only [nthA_eta] at *
        have qa : aheadA (floorA lo) (nthA l i) = [] := aheadA_none h1
        have qb : behindA (hi) (nthA l i) = [] := behindA_none h
        rw [qa, List.append_nil] at hva
        rw [qb, List.append_nil] at hvb
        have a1 : (aheadL (l.take i) (floorA lo)).length = (aheadL (l.take (i + 1)) (floorA lo)).length := by rw [hva]
        have a2 : encL (aheadL (l.take i) (floorA lo)) = encL (aheadL (l.take (i + 1)) (floorA lo)) := by rw [hva]
        have b1 : (behindL (l.take i) (hi)).length = (behindL (l.take (i + 1)) (hi)).length := by rw [hvb]
        have b2 : encL (behindL (l.take i) (hi)) = encL (behindL (l.take (i + 1)) (hi)) := by rw [hvb]
        refine ⟨⟨(i + 1, A2, c2, B2, e2), [200000, 300000, 300001], (by show l.length - (i + 1) < l.length - i; omega), by decide, ?_, ?_⟩⟩
        all_goals repeat' (first | exact rfl | exact trivial | refine And.intro ?_ ?_ | exact a1 | exact a2 | exact b1 | exact b2 | exact congrArg (fun n => Value.slice A2 n c2) a1 | exact congrArg (fun n => Value.slice B2 n e2) b1 | exact congrArg (Value.int .i64) (nat_succ (by omega)))
    · have hx : ¬ i < l.length := by subst hκ; delta kid at h; have h2 : ¬ (i : Int) < (l.length : Int) := of_decide_eq_false h; omega
      cbv
      subst hκ
      delta kid at *
      try dsimp only at *
      have ht : toI hi = hi := by unfold toI; rw [if_neg (of_decide_eq_false hm)]
      refine ⟨.inr ⟨hge, ?_⟩⟩
      rw [ht, take_all hx]
      exact ⟨⟨300000, A2, c2, 300001, B2, e2, rfl, rfl, rfl, by decide⟩⟩
end Go.Proofs.Ytbcicjmepojlnaa.Eng
/- The contract of list.around; condition: at most a million areas. -/
namespace Go.Proofs.Ytbcicjmepojlnaa.Eng
open Go Go.RowKit
set_option linter.unusedSimpArgs false
set_option linter.unusedVariables false
theorem ConjP.turn {T T' : KT → Prop} {ok : Nat → Prop} (h : ConjP T ok) (he : ∀ K, T' K ↔ T K) : ConjP T' ok := by
  obtain ⟨s, R, h0, h1, h2⟩ := h
  exact ⟨s, R, h0, h1, fun K => (he K).trans (h2 K)⟩
def aroundT (κ : Kp) : TSpec := fun args H d K => match args with
  | [.c (.sl id A n c), .c (.v (.int .i64 lo)), .c (.v (.int .i64 hi))] => match rowOf (H id) with
    | some (A', z, n', xs) => Side (κ _ (A = A' ∧ n = n' ∧ (z = 6 ∨ n = 0))) ∧ LookX encL xs fun l => Side (κ _ (l.length = n ∧ l.length ≤ 1000000)) ∧ match κ _ (decide (lo ≥ hi)) with
      | true => K (.tup [.c (.sl id A n c), .c (.sl nilId none 0 0)]) []
      | false => ∀ (A1 : Option Addr) (c1 : Nat) (A2 : Option Addr) (c2 : Nat), K (.tup [.c (.sl d A1 (κ _ (aheadL l (floorA lo)).length) c1), .c (.sl (d + 100000) A2 (κ _ (behindL l (toI hi)).length) c2)])
          [(d, some (.row A1 c1 53 6 (κ _ (aheadL l (floorA lo)).length) (κ _ (encL (aheadL l (floorA lo)))))), (d + 100000, some (.row A2 c2 53 6 (κ _ (behindL l (toI hi)).length) (κ _ (encL (behindL l (toI hi))))))]
    | none => False
  | _ => False
theorem aroundT_conj (args : List SV) (H : Heap) (d : Nat) : ConjP (aroundT kid args H d) (okKey false H d) := by
  unfold aroundT
  split
  · split
    · rename_i id A n c lo hi _ _ _ _ _ _
      refine .side fun _ => .look encL_inj fun l _ => .side fun _ => ?_
      simp only [kid]
      cases hd : decide (lo ≥ hi)
      · exact (ConjP.all_ (α := Option Addr × Nat × Option Addr × Nat) (fun x => .tup [.c (.sl d x.1 _ x.2.1), .c (.sl (d + 100000) x.2.2.1 _ x.2.2.2)]) (fun x => [(d, some (.row x.1 x.2.1 53 6 _ _)), (d + 100000, some (.row x.2.2.1 x.2.2.2 53 6 _ _))]) (by simp [okKey])).turn fun K => ⟨fun h x => h _ _ _ _, fun h A c B e => h (A, c, B, e)⟩
      · exact .one _ _ (by simp)
    · exact .false_
  · exact .false_
def e_around {κ : Kp} (hκ : κ = kid) : ESpec Try.prog := ES b_around false aroundT hκ aroundT_conj fun args H0 H d w0 M w hs hsub hH => by
  have hs' := hs
  unfold aroundT at hs'
  split at hs'
  case h_2 => exact hs'.elim
  rename_i id A n c lo hi
  split at hs'
  case h_2 => exact hs'.elim
  rename_i A' z n' xs hrow
  obtain ⟨⟨h1⟩, ⟨l, hx, ⟨h2⟩, _⟩⟩ := hs'
  obtain ⟨rfl, rfl, hz⟩ := h1
  obtain ⟨hn, hb⟩ : l.length = n ∧ l.length ≤ 1000000 := h2
  have hrd : (Ent.rd A 6 l.length (encL l)).holds w := rd_holds (hH.drop hsub) hrow hz hn hx
  subst hn
  have key : ∀ K : KT, aroundT kid [.c (.sl id A l.length c), .c (.v (.int .i64 lo)), .c (.v (.int .i64 hi))] H0 d K → (decide (lo ≥ hi) = true → K (.tup [.c (.sl id A l.length c), .c (.sl nilId none 0 0)]) []) ∧
      (decide (lo ≥ hi) = false → ∀ A1 c1 A2 c2, K (.tup [.c (.sl d A1 (aheadL l (floorA lo)).length c1), .c (.sl (d + 100000) A2 (behindL l (toI hi)).length c2)]) [(d, some (.row A1 c1 53 6 (aheadL l (floorA lo)).length (encL (aheadL l (floorA lo))))), (d + 100000, some (.row A2 c2 53 6 (behindL l (toI hi)).length (encL (behindL l (toI hi)))))]) := by
    intro K hK
    unfold aroundT at hK
    simp only [hrow] at hK
    obtain ⟨_, ⟨l2, hl2, _, h⟩⟩ := hK
    have := encL_inj _ _ (hx.symm.trans hl2)
    subst this
    simp only [kid] at h
    constructor
    · intro hd
      rw [hd] at h
      exact h
    · intro hd
      rw [hd] at h
      exact h
  refine (k_around l lo hi hb A c w hrd).mono ?_
  rintro e w' ⟨v, H', rfl, ⟨⟨hd, rfl⟩ | ⟨hd, ⟨i, A1, c1, j, A2, c2, rfl, e1, e2, hne⟩⟩⟩, hH'⟩
  · refine ⟨.tup [.c (.sl id A l.length c), .c (.sl nilId none 0 0)], [], _, rfl, fun K hK => (key K hK).1 hd, fun _ => rfl, ?_⟩
    exact hH.below (hH'.isBelow)
  · refine ⟨_, _, _, rfl, fun K hK => (key K hK).2 hd A1 c1 A2 c2, fun _ => rfl, ?_⟩
    rw [mutE_nil] at hH'
    refine hH.leave (ρ := []) (E := []) (by simp) trivial hH' _ [(d, i), (d + 100000, j)] ?_ ?_ (by simp [hne])
    · intro q hq
      simp only [List.mem_cons, List.not_mem_nil, or_false] at hq
      rcases hq with rfl | rfl
      · exact ⟨_, _, e1, by simp [upds, upd_apply], gives_refl _, rfl⟩
      · exact ⟨_, _, e2, by simp [upds, upd_apply], gives_refl _, rfl⟩
    · intro q hq
      have h1 : d ≠ q := fun e => hq (d, i) (by simp) e
      have h2 : d + 100000 ≠ q := fun e => hq (d + 100000, j) (by simp) e
      exact .inr ⟨upds_other _ H q (by simp [h1, h2]), fun k t e hk => by simp at hk⟩
end Go.Proofs.Ytbcicjmepojlnaa.Eng
/- What functions on lists come to, branch by branch; no condition. -/
namespace Go.Proofs.Ytbcicjmepojlnaa.Eng
open Go Go.RowKit
set_option linter.unusedSimpArgs false
set_option linter.unusedVariables false
theorem IsR.nil_ {r : List Ar} {i : Nat} {H' : Heap} (h : r = []) : IsR r (.c (.sl i none 0 0)) H' := by
  subst h
  exact ⟨⟨i, none, 0, rfl, .inr ⟨rfl, rfl, rfl⟩⟩⟩
theorem IsR.row_ {r r' : List Ar} {i c2 : Nat} {A2 : Option Addr} {H' : Heap} (h : r' = r) (hH : H' i = some (.row A2 c2 53 6 r'.length (encL r'))) : IsR r (.c (.sl i A2 r'.length c2)) H' := by
  subst h
  exact ⟨⟨i, A2, c2, rfl, .inl hH⟩⟩
theorem around_all {l : List Ar} {lo hi : Int} (h : decide (hi ≤ lo) = true) : aroundA l lo hi = l ∧ aroundB l lo hi = [] := by
  have h2 : lo ≥ hi := of_decide_eq_true h
  unfold aroundA aroundB
  rw [if_pos h2, if_pos h2]
  exact ⟨rfl, rfl⟩
theorem around_some {l : List Ar} {lo hi : Int} (h : decide (hi ≤ lo) = false) : aroundA l lo hi = aheadL l (floorA lo) ∧ aroundB l lo hi = behindL l (toI hi) := by
  have h2 : ¬ lo ≥ hi := of_decide_eq_false h
  unfold aroundA aroundB
  rw [if_neg h2, if_neg h2]
  exact ⟨rfl, rfl⟩
theorem cut_no {l : List Ar} {lo hi : Int} (h : rightL l = false) : cutL l lo hi = [] := by
  unfold cutL
  rw [h]
  rfl
theorem cut_all {l : List Ar} {lo hi : Int} (h : rightL l = true) (h2 : decide (hi ≤ lo) = true) : l ++ [] = cutL l lo hi := by
  unfold cutL
  rw [if_pos h, (around_all h2).1, (around_all h2).2]
theorem cut_some {l : List Ar} {lo hi : Int} (h : rightL l = true) (h2 : decide (hi ≤ lo) = false) : aheadL l (floorA lo) ++ behindL l (toI hi) = cutL l lo hi := by
  unfold cutL
  rw [if_pos h, (around_some h2).1, (around_some h2).2]
theorem put_no {l : List Ar} {a : Ar} (h : rightL l = false) : putL l a = [] := by
  unfold putL
  rw [h]
  rfl
theorem put_no2 {l : List Ar} {a : Ar} (h : formed a = false) : putL l a = [] := by
  unfold putL
  rw [h, Bool.and_false]
  rfl
theorem put_all {l : List Ar} {a : Ar} (h : rightL l = true) (hf : formed a = true) (h2 : decide (a.e ≤ a.s) = true) : joinedL (l ++ [a] ++ []) = putL l a := by
  unfold putL
  rw [h, hf, (around_all h2).1, (around_all h2).2]
  rfl
theorem put_some {l : List Ar} {a : Ar} (h : rightL l = true) (hf : formed a = true) (h2 : decide (a.e ≤ a.s) = false) : joinedL (aheadL l (floorA a.s) ++ [a] ++ behindL l (toI a.e)) = putL l a := by
  unfold putL
  rw [h, hf, (around_some h2).1, (around_some h2).2]
  rfl
theorem one_cells (a1 a2 a3 : Int) (a4 : Bool) (a5 a6 : Int) : [.v (.int .i64 a1), .v (.int .i64 a2), .v (.int .i64 a3), .v (.bool a4), .v (.int .i64 a5), .v (.int .i64 a6)] = encL [(⟨a1, a2, a3, a4, a5, a6⟩ : Ar)] := rfl
def within2L (l : List Ar) (lo hi : Int) : List Ar := if (!rightL l || decide (lo ≥ hi)) = true then [] else withinL l lo hi
theorem within2_no {l : List Ar} {lo hi : Int} (h : rightL l = false) : within2L l lo hi = [] := by
  unfold within2L
  rw [h]
  rfl
theorem within2_no2 {l : List Ar} {lo hi : Int} (h : decide (hi ≤ lo) = true) : within2L l lo hi = [] := by
  unfold within2L
  rw [show decide (lo ≥ hi) = true from h, Bool.or_true]
  rfl
theorem within2_yes {l : List Ar} {lo hi : Int} (h : rightL l = true) (h2 : decide (hi ≤ lo) = false) : withinL l lo hi = within2L l lo hi := by
  unfold within2L
  rw [h, show decide (lo ≥ hi) = false from h2]
  rfl
def setTo (p : Int) (W : List Ar) (i : Nat) : List Ar := (W.take i).map (setA p) ++ W.drop i
theorem setTo_len (p : Int) (W : List Ar) (i : Nat) : (setTo p W i).length = W.length := by
  unfold setTo
  rw [List.length_append, List.length_map, List.length_take, List.length_drop]
  omega
end Go.Proofs.Ytbcicjmepojlnaa.Eng
/- Pages as they lie in memory; contracts of functions of lists, pages, numbers, told in one way; no condition. -/
namespace Go.Proofs.Ytbcicjmepojlnaa.Eng
open Go Go.RowKit
set_option autoImplicit false
set_option linter.unusedSimpArgs false
set_option linter.unusedVariables false
structure Pg where
  is : Bool
  t : At
def noPg : Pg := ⟨false, noAt⟩
def encP (p : Pg) : List C := [.v (.bool p.is), .v (.int .i64 p.t.p), .v (.bool p.t.sh), .v (.int .i64 p.t.b), .v (.int .i64 p.t.o)]
def encS (s : List Pg) : List C := s.flatMap encP
theorem encP_len (p : Pg) : (encP p).length = 5 := rfl
theorem encP_inj (x y : Pg) (h : encP x = encP y) : x = y := by
  obtain ⟨_, ⟨_, _, _, _⟩⟩ := x
  obtain ⟨_, ⟨_, _, _, _⟩⟩ := y
  simpa [encP] using h
theorem encS_inj (s s' : List Pg) (h : encS s = encS s') : s = s' := enc_inj encP_len (by decide) encP_inj s s' h
theorem encS_len (s : List Pg) : (encS s).length = s.length * 5 := enc_len encP_len s
theorem encS_ok (s : List Pg) : ok1 (encS s) = true := enc_ok1 (fun x => rfl) s
def noS : List Pg := List.replicate 512 noPg
theorem noS_len : noS.length = 512 := List.length_replicate
theorem encS_zero : ∀ n : Nat, (List.replicate n (encP noPg)).flatten = encS (List.replicate n noPg)
  | 0 => rfl
  | n + 1 => by
    rw [List.replicate_succ, List.flatten_cons, encS_zero n, List.replicate_succ]
    rfl
theorem encS_noS : (List.replicate 512 [C.v (.bool false), .v (.int .i64 0), .v (.bool false), .v (.int .i64 0), .v (.int .i64 0)]).flatten = encS noS := encS_zero 512
def nthP (s : List Pg) (i : Nat) : Pg := s.getD i noPg
theorem nthP_get {s : List Pg} {i : Nat} (h : i < s.length) : s[i]? = some (nthP s i) := by
  unfold nthP
  rw [List.getD_eq_getElem?_getD, List.getElem?_eq_getElem h]
  rfl
/-! ### Contracts, told in one way -/
inductive Kd where
  | flat
  | list
  | listc
  | space
inductive AV where
  | val (v : SV)
  | lst (l : List Ar) (x : C)
  | lstc (l : List Ar) (x : C)
  | spc (s : List Pg)
inductive Rs where
  | val (v : SV)
  | row (t z n : Nat) (xs : List C) (mk : C → SV)
  | alt (b : Bool) (x : C) (mk1 : C → SV) (r : List Ar) (mk2 : C → SV)
def decT (κ : Kp) : List Kd → List SV → Heap → (List AV → Prop) → Prop
  | [], ar, _, Q => match ar with
    | [] => Q []
    | _ => False
  | .flat :: ks, ar, H, Q => match ar with
    | v :: ar => decT κ ks ar H fun r => Q (.val v :: r)
    | _ => False
  | .list :: ks, ar, H, Q => match ar with
    | .c (.sl id A n c) :: ar => match rowOf (H id) with
      | some (A', z, n', xs) => Side (κ _ (A = A' ∧ n = n' ∧ (z = 6 ∨ n = 0))) ∧ LookX encL xs fun l => Side (κ _ (l.length = n)) ∧ decT κ ks ar H fun r => Q (.lst l (.sl id A n c) :: r)
      | none => False
    | _ => False
  | .listc :: ks, ar, H, Q => match ar with
    | .c (.sl id A n c) :: ar => match H id with
      | some (.rd A' z n' xs) => Side (κ _ (A = A' ∧ n = n' ∧ (z = 6 ∨ n = 0) ∧ n ≤ c)) ∧ LookX encL xs fun l => Side (κ _ (l.length = n)) ∧ decT κ ks ar H fun r => Q (.lstc l (.sl id A n c) :: r)
      | some (.row A' c' _ z n' xs) => Side (κ _ (A = A' ∧ c = c' ∧ n = n' ∧ (z = 6 ∨ n = 0))) ∧ LookX encL xs fun l => Side (κ _ (l.length = n)) ∧ decT κ ks ar H fun r => Q (.lstc l (.sl id A n c) :: r)
      | _ => False
    | _ => False
  | .space :: ks, ar, H, Q => match ar with
    | .agg xs :: ar => LookX encS xs fun s => Side (κ _ (s.length = 512)) ∧ decT κ ks ar H fun r => Q (.spc s :: r)
    | _ => False
def resK (κ : Kp) : Rs → Nat → KT → Prop
  | .val v, _, K => K v []
  | .row t z n xs mk, d, K => ∀ (A2 : Option Addr) (c2 : Nat), K (mk (.sl d A2 n c2)) [(d, some (.row A2 c2 t z n xs))]
  | .alt b x mk1 r mk2, d, K => match b with
    | true => K (mk1 x) []
    | false => ∀ (A2 : Option Addr) (c2 : Nat), K (mk2 (.sl d A2 (κ _ r.length) c2)) [(d, some (.row A2 c2 53 6 (κ _ r.length) (κ _ (encL r))))]
abbrev FunX := Kp → List AV → Option (Prop × Rs)
def fnT (ks : List Kd) (F : FunX) (κ : Kp) : TSpec := fun args H d K => decT κ ks args H fun avs => match F κ avs with
  | some (p, r) => Side p ∧ resK κ r d K
  | none => False
def OutX : Rs → SV → Heap → Prop
  | .val r, v, _ => v.den = r.den
  | .row t z n xs mk, v, H' => ∃ i A2 c2, v = mk (.sl i A2 n c2) ∧ (H' i = some (.row A2 c2 t z n xs) ∨ (n = 0 ∧ xs = [] ∧ A2 = none ∧ c2 = 0))
  | .alt b x mk1 r mk2, v, H' => (b = true → v.den = (mk1 x).den) ∧ (b = false → ∃ i A2 c2, v = mk2 (.sl i A2 r.length c2) ∧ (H' i = some (.row A2 c2 53 6 r.length (encL r)) ∨ (r = [] ∧ A2 = none ∧ c2 = 0)))
structure IsX (r : Rs) (v : SV) (H' : Heap) : Prop where
  h : OutX r v H'
theorem IsX.val_ {v v' : SV} {H' : Heap} (h : v.den = v'.den) : IsX (.val v') v H' := ⟨h⟩
theorem IsX.bool_ {a b : Bool} {H' : Heap} (h : b = a) : IsX (.val (.c (.v (.bool a)))) (.c (.v (.bool b))) H' := by
  subst h
  exact ⟨rfl⟩
theorem IsX.int_ {a b : Int} {k : IntKind} {H' : Heap} (h : b = a) : IsX (.val (.c (.v (.int k a)))) (.c (.v (.int k b))) H' := by
  subst h
  exact ⟨rfl⟩
theorem IsX.row_ {mk : C → SV} {r r' : List Ar} {i c2 : Nat} {A2 : Option Addr} {v : SV} {H' : Heap} (h : r' = r) (hv : v = mk (.sl i A2 r'.length c2)) (hH : H' i = some (.row A2 c2 53 6 r'.length (encL r'))) : IsX (.row 53 6 r.length (encL r) mk) v H' := by
  subst h
  exact ⟨⟨i, A2, c2, hv, .inl hH⟩⟩
theorem IsX.rowE {mk : C → SV} {t z n n' i c2 : Nat} {xs xs' : List C} {A2 : Option Addr} {v : SV} {H' : Heap} (hn : n' = n) (hx : xs' = xs) (hv : v = mk (.sl i A2 n' c2)) (hH : H' i = some (.row A2 c2 t z n' xs')) : IsX (.row t z n xs mk) v H' := by
  subst hn hx
  exact ⟨⟨i, A2, c2, hv, .inl hH⟩⟩
theorem IsX.nil_ {mk : C → SV} {r : List Ar} {i : Nat} {v : SV} {H' : Heap} (h : r = []) (hv : v = mk (.sl i none 0 0)) : IsX (.row 53 6 r.length (encL r) mk) v H' := by
  subst h
  exact ⟨⟨i, none, 0, hv, .inr ⟨rfl, rfl, rfl, rfl⟩⟩⟩
theorem IsX.same_ {b : Bool} {x : C} {mk1 mk2 : C → SV} {r : List Ar} {v : SV} {H' : Heap} (hb : b = true) (hv : v.den = (mk1 x).den) : IsX (.alt b x mk1 r mk2) v H' := by
  subst hb
  exact ⟨And.intro (fun _ => hv) (fun h => Bool.noConfusion h)⟩
theorem IsX.new_ {b : Bool} {x : C} {mk1 mk2 : C → SV} {r r' : List Ar} {i c2 : Nat} {A2 : Option Addr} {v : SV} {H' : Heap} (hb : b = false) (h : r' = r) (hv : v = mk2 (.sl i A2 r'.length c2)) (hH : H' i = some (.row A2 c2 53 6 r'.length (encL r'))) : IsX (.alt b x mk1 r mk2) v H' := by
  subst hb h
  exact ⟨And.intro (fun h => Bool.noConfusion h) (fun _ => ⟨i, A2, c2, hv, .inl hH⟩)⟩
theorem IsX.swap {b : Bool} {x x' : C} {mk1 mk2 : C → SV} {r : List Ar} {v : SV} {H' : Heap} (h : IsX (.alt b x mk1 r mk2) v H') (he : (mk1 x).den = (mk1 x').den) : IsX (.alt b x' mk1 r mk2) v H' :=
  ⟨⟨fun hb => (h.h.1 hb).trans he, h.h.2⟩⟩
def mkOk (r : Rs) : Prop := match r with
  | .val _ => True
  | .row _ _ _ _ mk => ∀ x y : C, x.den = y.den → (mk x).den = (mk y).den
  | .alt _ _ _ _ mk => ∀ x y : C, x.den = y.den → (mk x).den = (mk y).den
def RealW (w : World) : List AV → List Value → Prop
  | [], vs => vs = []
  | .val v :: r, vs => ∃ xs, vs = v.den :: xs ∧ RealW w r xs
  | .lst l x :: r, vs => ∃ id A c xs, x = .sl id A l.length c ∧ vs = .slice A l.length c :: xs ∧ (Ent.rd A 6 l.length (encL l)).holds w ∧ RealW w r xs
  | .lstc l x :: r, vs => ∃ id A c xs, x = .sl id A l.length c ∧ vs = .slice A l.length c :: xs ∧ l.length ≤ c ∧ (Ent.rd A 6 l.length (encL l)).holds w ∧ RealW w r xs
  | .spc s :: r, vs => ∃ xs, vs = (SV.agg (encS s)).den :: xs ∧ s.length = 512 ∧ RealW w r xs
section
variable {P : Program} {f : FuncId}
theorem decT_conj {ok : Nat → Prop} : ∀ (ks : List Kd) (args : List SV) (H : Heap) (Q : List AV → KT → Prop), (∀ avs, ConjP (Q avs) ok) → ConjP (fun K => decT kid ks args H fun avs => Q avs K) ok
  | [], ar, H, Q, h => by
    unfold decT
    cases ar with
    | nil => exact h []
    | cons => exact .false_
  | .flat :: ks, ar, H, Q, h => by
    unfold decT
    cases ar with
    | nil => exact .false_
    | cons v ar => exact decT_conj ks ar H (fun r => Q (.val v :: r)) fun r => h _
  | .list :: ks, ar, H, Q, h => by
    unfold decT
    split
    · split
      · rename_i id A n c ar _ _ _ _ _ _
        exact .side fun _ => .look encL_inj fun l _ => .side fun _ => decT_conj ks _ H (fun r => Q (.lst l (.sl id A n c) :: r)) fun r => h _
      · exact .false_
    · exact .false_
  | .listc :: ks, ar, H, Q, h => by
    unfold decT
    split
    · split
      · rename_i id A n c ar _ _ _ _ _ _
        exact .side fun _ => .look encL_inj fun l _ => .side fun _ => decT_conj ks _ H (fun r => Q (.lstc l (.sl id A n c) :: r)) fun r => h _
      · rename_i id A n c ar _ _ _ _ _ _ _ _
        exact .side fun _ => .look encL_inj fun l _ => .side fun _ => decT_conj ks _ H (fun r => Q (.lstc l (.sl id A n c) :: r)) fun r => h _
      · exact .false_
    · exact .false_
  | .space :: ks, ar, H, Q, h => by
    unfold decT
    split
    · exact .look encS_inj fun s _ => .side fun _ => decT_conj ks _ H (fun r => Q (.spc s :: r)) fun r => h _
    · exact .false_
theorem resK_conj (H : Heap) (r : Rs) (d : Nat) : ConjP (resK kid r d) (okKey false H d) := by
  cases r with
  | val v => exact .one _ _ (by simp)
  | row t z n xs mk => exact .all2 (fun A2 c2 => mk (.sl d A2 _ c2)) (fun A2 c2 => [(d, some (.row A2 c2 t z n xs))]) fun _ _ => okd _ _ _
  | alt b x mk1 r mk2 =>
    cases b with
    | true => exact .one (mk1 x) [] (by simp)
    | false => exact .all2 (fun A2 c2 => mk2 (.sl d A2 r.length c2)) (fun A2 c2 => [(d, some (.row A2 c2 53 6 r.length (encL r)))]) fun _ _ => okd _ _ _
theorem fnT_conj (ks : List Kd) (F : FunX) (args : List SV) (H : Heap) (d : Nat) : ConjP (fnT ks F kid args H d) (okKey false H d) := by
  refine decT_conj ks args H (fun avs K => match F kid avs with
    | some (p, r) => Side p ∧ resK kid r d K
    | none => False) fun avs => ?_
  cases F kid avs with
  | none => exact .false_
  | some q =>
    obtain ⟨p, r⟩ := q
    exact .side fun _ => resK_conj H r d
theorem decT_run {H0 H : Heap} {w0 w : World} {M : Nat → Prop} (hsub : ∀ i e, H0 i = some e → H i = some e) (hH : HSat w0 M H w) : ∀ (ks : List Kd) (args : List SV) (Q : List AV → Prop), decT kid ks args H0 Q →
    ∃ avs, Q avs ∧ RealW w avs (args.map SV.den) ∧ ∀ Q', decT kid ks args H0 Q' → Q' avs
  | [], ar, Q, h => by
    unfold decT at h
    cases ar with
    | nil => exact ⟨[], h, rfl, fun Q' h' => h'⟩
    | cons => exact h.elim
  | .flat :: ks, ar, Q, h => by
    unfold decT at h
    cases ar with
    | nil => exact h.elim
    | cons v ar =>
      obtain ⟨avs, h1, h2, h4⟩ := decT_run hsub hH ks ar _ h
      exact ⟨.val v :: avs, h1, ⟨_, rfl, h2⟩, fun Q' h' => h4 _ h'⟩
  | .list :: ks, ar, Q, h => by
    unfold decT at h
    split at h
    case h_2 => exact h.elim
    rename_i id A n c ar
    split at h
    case h_2 => exact h.elim
    rename_i A' z n' xs hrow
    obtain ⟨⟨e1, e2, hz⟩, ⟨l, hx, ⟨hn⟩, h⟩⟩ := h
    subst e1 e2
    obtain ⟨avs, h1, h2, h4⟩ := decT_run hsub hH ks ar _ h
    have hn' : l.length = n := hn
    have hrd : (Ent.rd A 6 l.length (encL l)).holds w := rd_holds (hH.drop hsub) hrow hz hn hx
    subst hn'
    refine ⟨.lst l (.sl id A l.length c) :: avs, h1, ⟨id, A, c, _, rfl, rfl, hrd, h2⟩, fun Q' h' => ?_⟩
    unfold decT at h'
    simp only [hrow] at h'
    obtain ⟨_, ⟨l2, hl2, _, h'⟩⟩ := h'
    have := encL_inj _ _ (hx.symm.trans hl2)
    subst this
    exact h4 _ h'
  | .listc :: ks, ar, Q, h => by
    unfold decT at h
    split at h
    case h_2 => exact h.elim
    rename_i id A n c ar
    split at h
    case h_3 => exact h.elim
    · rename_i A' z n' xs hrow
      obtain ⟨⟨e1, e2, hz, hnc⟩, ⟨l, hx, ⟨hn⟩, h⟩⟩ := h
      subst e1 e2
      obtain ⟨avs, h1, h2, h4⟩ := decT_run hsub hH ks ar _ h
      have hn' : l.length = n := hn
      have hrd : (Ent.rd A 6 l.length (encL l)).holds w := rd_holds (hH.drop hsub) (by rw [hrow]; rfl) hz hn hx
      subst hn'
      refine ⟨.lstc l (.sl id A l.length c) :: avs, h1, ⟨id, A, c, _, rfl, rfl, hnc, hrd, h2⟩, fun Q' h' => ?_⟩
      unfold decT at h'
      simp only [hrow] at h'
      obtain ⟨_, ⟨l2, hl2, _, h'⟩⟩ := h'
      have := encL_inj _ _ (hx.symm.trans hl2)
      subst this
      exact h4 _ h'
    · rename_i A' c' t' z n' xs hrow
      obtain ⟨⟨e1, e3, e2, hz⟩, ⟨l, hx, ⟨hn⟩, h⟩⟩ := h
      subst e1 e2 e3
      obtain ⟨avs, h1, h2, h4⟩ := decT_run hsub hH ks ar _ h
      have hn' : l.length = n := hn
      have hrd : (Ent.rd A 6 l.length (encL l)).holds w := rd_holds (hH.drop hsub) (by rw [hrow]; rfl) hz hn hx
      have hnc : n ≤ c := ((hH.drop hsub).holds _ _ hrow).2.1
      subst hn'
      refine ⟨.lstc l (.sl id A l.length c) :: avs, h1, ⟨id, A, c, _, rfl, rfl, hnc, hrd, h2⟩, fun Q' h' => ?_⟩
      unfold decT at h'
      simp only [hrow] at h'
      obtain ⟨_, ⟨l2, hl2, _, h'⟩⟩ := h'
      have := encL_inj _ _ (hx.symm.trans hl2)
      subst this
      exact h4 _ h'
  | .space :: ks, ar, Q, h => by
    unfold decT at h
    split at h
    case h_2 => exact h.elim
    rename_i xs ar
    obtain ⟨s, hx, ⟨hn⟩, h⟩ := h
    obtain ⟨avs, h1, h2, h4⟩ := decT_run hsub hH ks ar _ h
    refine ⟨.spc s :: avs, h1, ⟨_, by rw [List.map_cons, hx], hn, h2⟩, fun Q' h' => ?_⟩
    unfold decT at h'
    obtain ⟨s2, hs2, _, h'⟩ := h'
    have := encS_inj _ _ (hx.symm.trans hs2)
    subst this
    exact h4 _ h'
theorem leaveN {w0 w w' : World} {M : Nat → Prop} {H H2 : Heap} (hH : HSat w0 M H w) (hc : HSat w (fun _ => False) H2 w') (d : Nat) {e : Ent} (he : ∀ w, e.holds w) (hb : e.block = none) : HSat w0 M (upds H [(d, some e)]) w' := by
  have hb1 := hH.below hc.isBelow
  have := hb1.step (w' := w') none (fun _ => False) rfl rfl rfl (Nat.le_refl _) (fun _ _ _ => rfl) (fun _ h => h.elim) d e (he w') (fun g hg => by rw [hb] at hg; cases hg)
  exact this
theorem free_row (t z : Nat) : (∀ w, (Ent.row none 0 t z 0 []).holds w) ∧ (Ent.row none 0 t z 0 []).block = none := by
  have hf := free_block (e := .row none 0 t z 0 []) ⟨rfl, rfl, rfl, rfl⟩
  exact ⟨hf.2, hf.1⟩
def fnES (ks : List Kd) (hB : Bodied P f) (F : FunX) {κ : Kp} (hκ : κ = kid)
    (hk : ∀ avs p r, F kid avs = some (p, r) → p → mkOk r ∧ ∀ (vs : List Value) (w : World), RealW w avs vs →
      Calls P f vs.toArray w fun e w' => ∃ v H', e = .returned v.den ∧ IsX r v H' ∧ HSat w (fun _ => False) H' w') : ESpec P :=
  ES hB false (fnT ks F) hκ (fnT_conj ks F) fun args H0 H d w0 M w hs hsub hH => by
    obtain ⟨avs, h1, h2, h4⟩ := decT_run hsub hH ks args _ hs
    cases hF : F kid avs with
    | none => rw [hF] at h1; exact h1.elim
    | some q =>
      obtain ⟨p, r⟩ := q
      rw [hF] at h1
      obtain ⟨⟨hp⟩, _⟩ := h1
      obtain ⟨hmk, hcall⟩ := hk avs p r hF hp
      refine (hcall _ w h2).mono ?_
      rintro e w' ⟨v, H', rfl, ⟨hr⟩, hH'⟩
      have hK : ∀ K : KT, fnT ks F kid args H0 d K → resK kid r d K := fun K hK => by
        have := h4 _ hK
        rw [hF] at this
        exact this.2
      cases r with
      | val v0 => exact ⟨v0, [], _, rfl, fun K h => hK K h, fun _ => hr, hH.below hH'.isBelow⟩
      | row t z n xs mk =>
        obtain ⟨i, A2, c2, rfl, hi⟩ := hr
        refine ⟨mk (.sl d A2 n c2), [(d, some (.row A2 c2 t z n xs))], _, rfl, fun K h => hK K h A2 c2, fun _ => hmk _ _ rfl, ?_⟩
        rcases hi with hi | ⟨rfl, rfl, rfl, rfl⟩
        · exact leaveR hH hi rfl hH' d
        · exact leaveN hH hH' d (free_row t z).1 (free_row t z).2
      | alt b x mk1 r mk2 =>
        cases b with
        | true => exact ⟨mk1 x, [], _, rfl, fun K h => hK K h, fun _ => hr.1 rfl, hH.below hH'.isBelow⟩
        | false =>
          obtain ⟨i, A2, c2, rfl, hi⟩ := hr.2 rfl
          refine ⟨mk2 (.sl d A2 r.length c2), [(d, some (.row A2 c2 53 6 r.length (encL r)))], _, rfl, fun K h => hK K h A2 c2, fun _ => hmk _ _ rfl, ?_⟩
          rcases hi with hi | ⟨rfl, rfl, rfl⟩
          · exact leaveR hH hi rfl hH' d
          · exact leaveN hH hH' d (free_row 53 6).1 (free_row 53 6).2
end
end Go.Proofs.Ytbcicjmepojlnaa.Eng
/- Calls, answers; what may be asked, in plain words; the reference's sizes are these; no condition but those typed. -/
namespace Go.Proofs.Ytbcicjmepojlnaa.Eng
open Go Go.RowKit
set_option autoImplicit false
set_option linter.unusedSimpArgs false
set_option linter.unusedVariables false
structure Cl where
  k : Int
  a : Int
  n : Int
  w : Int
  to : Int
  p : Int
  f : Int
  b : Int
  o : Int
structure An where
  er : Int
  v : Int
  t : At
structure Gp where
  s : Int
  e : Int
def errA (e : Int) : An := ⟨e, 0, noAt⟩
def okA (v : Int) : An := ⟨0, v, noAt⟩
def eqN (x y : An) : Bool := x.er == y.er && (x.v == y.v && (x.t.p == y.t.p && (x.t.sh == y.t.sh && (x.t.b == y.t.b && (x.t.o == y.t.o && true)))))
theorem eqN_self (x : An) : eqN x x = true := by
  unfold eqN
  simp
def rangeBad (a s : Int) : Bool := decide (a < 65536) || decide (a > w64 (2097152 - s))
def rangeE (a n : Int) : Int := if (Int.tmod a 4096 != 0) = true then 2 else if (sizeE n != 0) = true then sizeE n else if rangeBad a (sizeV n) = true then 4 else 0
def rangeC (a n x : Int) : Int := if (Int.tmod a 4096 != 0) = true then 0 else if (sizeE n != 0) = true then 0 else if rangeBad a (sizeV n) = true then 0 else x
def rangeLo (a n : Int) : Int := rangeC a n a
def rangeHi (a n : Int) : Int := rangeC a n (w64 (a + sizeV n))
theorem rangeC_ok {a n : Int} (x : Int) (h : rangeE a n = 0) : rangeC a n x = x := by
  unfold rangeE at h
  unfold rangeC
  split at h
  · omega
  · rename_i h1
    rw [if_neg h1]
    split at h
    · rename_i h2
      simp [h] at h2
    · rename_i h2
      rw [if_neg h2]
      split at h
      · omega
      · rename_i h3
        rw [if_neg h3]
def backBad (b o : Int) : Bool := decide (b < 0) || decide (b > 9) || (b == 0 && o != 0)
def backE (b o s : Int) : Int := if backBad b o = true then 1 else if (Int.tmod o 4096 != 0) = true then 2 else if (decide (o < 0) || decide (o > w64 (1099511627776 - s))) = true then 4 else 0
theorem bne_no {x y : Int} (h : (x != y) = false) : x = y := by simpa using h
theorem bne_yes {x y : Int} (h : (x != y) = true) : x ≠ y := by simpa using h
theorem beq_no {x y : Int} (h : (x == y) = false) : x ≠ y := by simpa using h
theorem beq_yes {x y : Int} (h : (x == y) = true) : x = y := by simpa using h
theorem sizeE_iff (n : Int) : sizeE n = 0 ↔ 0 < n ∧ n ≤ 2031616 := by
  unfold sizeE sizeBad
  by_cases h0 : n = 0
  · subst h0; decide
  · rw [if_neg (by simpa using h0)]
    by_cases h1 : n < 0 ∨ 2031616 < n
    · rw [if_pos (by simpa using h1)]; omega
    · rw [if_neg (by simpa using h1)]; omega
theorem sizeV_eq {n : Int} (h : 0 < n ∧ n ≤ 2031616) : sizeV n = (n + 4095) / 4096 * 4096 := by
  unfold sizeV sizeBad
  rw [if_neg (by simp; omega), if_neg (by simp; omega)]
  have e1 : w64 (n + 4096) = n + 4096 := w64_id (by unfold In64; omega)
  have e2 : w64 (n + 4096 - 1) = n + 4095 := (w64_id (by unfold In64; omega)).trans (by omega)
  rw [e1, e2, Int.tdiv_eq_ediv_of_nonneg (by omega)]
  have e3 : w64 ((n + 4095) / 4096) = (n + 4095) / 4096 := w64_id (by unfold In64; omega)
  rw [e3]
  exact w64_id (by unfold In64; omega)
structure SzOk (s : Int) : Prop where
  lo : 4096 ≤ s
  hi : s ≤ 2031616
  z : s % 4096 = 0
theorem size_ok {n : Int} (h : sizeE n = 0) : SzOk (sizeV n) ∧ n ≤ sizeV n ∧ sizeV n < n + 4096 := by
  have h2 := (sizeE_iff n).1 h
  rw [sizeV_eq h2]
  exact ⟨⟨by omega, by omega, by omega⟩, by omega, by omega⟩
theorem size_self {n : Int} (h : SzOk n) : sizeE n = 0 ∧ sizeV n = n := by
  obtain ⟨h1, h2, h3⟩ := h
  have h4 : 0 < n ∧ n ≤ 2031616 := by omega
  exact ⟨(sizeE_iff n).2 h4, by rw [sizeV_eq h4]; omega⟩
structure RgOk (a b : Int) : Prop where
  lo : 65536 ≤ a
  hi : b ≤ 2097152
  lt : a < b
  z : a % 4096 = 0
  z2 : b % 4096 = 0
theorem tmod0 (a : Int) : (Int.tmod a 4096 != 0) = false ↔ a % 4096 = 0 := by
  have h := whole_iff a
  unfold whole at h
  rw [← h]
  cases hb : (Int.tmod a 4096 == 0)
  · have : ¬ Int.tmod a 4096 = 0 := by simpa using hb
    simp [this]
  · have : Int.tmod a 4096 = 0 := by simpa using hb
    simp [this]
theorem rangeE_iff (a n : Int) : rangeE a n = 0 ↔ a % 4096 = 0 ∧ sizeE n = 0 ∧ 65536 ≤ a ∧ a + sizeV n ≤ 2097152 := by
  unfold rangeE
  by_cases h1 : a % 4096 = 0
  · rw [if_neg (by rw [(tmod0 a).2 h1]; simp)]
    by_cases h2 : sizeE n = 0
    · rw [if_neg (by simpa using h2)]
      obtain ⟨⟨s1, s2, s3⟩, _⟩ := size_ok h2
      unfold rangeBad
      rw [w64_id (show In64 (2097152 - sizeV n) by unfold In64; omega)]
      by_cases h3 : a < 65536 ∨ 2097152 - sizeV n < a
      · rw [if_pos (by simpa using h3)]; omega
      · rw [if_neg (by simpa using h3)]; omega
    · rw [if_pos (by simpa using h2)]
      exact ⟨fun h => absurd h h2, fun h => absurd h.2.1 h2⟩
  · rw [if_pos (by
      cases hb : (Int.tmod a 4096 != 0)
      · exact absurd ((tmod0 a).1 hb) h1
      · rfl)]
    omega
theorem range_ok {a n : Int} (h : rangeE a n = 0) : RgOk (rangeLo a n) (rangeHi a n) ∧ rangeLo a n = a ∧ rangeHi a n = a + sizeV n ∧ sizeE n = 0 := by
  obtain ⟨h1, h2, h3, h4⟩ := (rangeE_iff a n).1 h
  obtain ⟨⟨s1, s2, s3⟩, _⟩ := size_ok h2
  have e1 : rangeLo a n = a := rangeC_ok _ h
  have e2 : rangeHi a n = a + sizeV n := (rangeC_ok _ h).trans (w64_id (by unfold In64; omega))
  rw [e1, e2]
  exact ⟨⟨h3, h4, by omega, h1, by omega⟩, rfl, rfl, h2⟩
theorem range_self {lo hi : Int} (h : RgOk lo hi) : rangeE lo (hi - lo) = 0 ∧ rangeLo lo (hi - lo) = lo ∧ rangeHi lo (hi - lo) = hi := by
  obtain ⟨h1, h2, h3, h4, h5⟩ := h
  have hs := size_self (n := hi - lo) ⟨by omega, by omega, by omega⟩
  have h6 : rangeE lo (hi - lo) = 0 := (rangeE_iff _ _).2 ⟨h4, hs.1, h1, by rw [hs.2]; omega⟩
  have h7 := range_ok h6
  exact ⟨h6, h7.2.1, by rw [h7.2.2.1, hs.2]; omega⟩
/-! ### The reference's -/
structure CntOk (n p : Int) : Prop where
  lo : 0 ≤ p
  hi : 4096 * (p - 1) < n
theorem cnt_0 {n : Int} (h : 1 ≤ n) : CntOk n 0 := ⟨by omega, by omega⟩
theorem cnt_next {n p : Int} (hn : n ≤ 2031616) (h : CntOk n p) (hl : decide (w64 (4096 * p) < n) = true) : w64 (p + 1) = p + 1 ∧ CntOk n (p + 1) ∧ (n - 4096 * (p + 1)).toNat < (n - 4096 * p).toNat := by
  obtain ⟨h1, h2⟩ := h
  have e : w64 (4096 * p) = 4096 * p := w64_id (by unfold In64; omega)
  have h3 := of_decide_eq_true hl
  rw [e] at h3
  exact ⟨w64_id (by unfold In64; omega), ⟨by omega, by omega⟩, by omega⟩
theorem cnt_end {n p : Int} (hn : 1 ≤ n ∧ n ≤ 2031616) (h : CntOk n p) (hl : decide (w64 (4096 * p) < n) = false) : p = (n + 4095) / 4096 := by
  obtain ⟨h1, h2⟩ := h
  have e : w64 (4096 * p) = 4096 * p := w64_id (by unfold In64; omega)
  have h3 := of_decide_eq_false hl
  rw [e] at h3
  omega
theorem rsize_yes {n : Int} (h0 : (n == 0) = false) (h1 : decide (n < 0) = false) (h2 : decide (2031616 < n) = false) : (1 ≤ n ∧ n ≤ 2031616) ∧ w64 (4096 * ((n + 4095) / 4096)) = sizeV n ∧ sizeE n = 0 := by
  have a0 : ¬ n = 0 := by simpa using h0
  have a1 := of_decide_eq_false h1
  have a2 := of_decide_eq_false h2
  have h : 0 < n ∧ n ≤ 2031616 := by omega
  refine ⟨by omega, ?_, (sizeE_iff n).2 h⟩
  rw [sizeV_eq h, w64_id (by unfold In64; omega)]
  omega
theorem rrange_bad {a n : Int} (ha : In64 a) (he : sizeE n = 0) : (decide (a < 65536) || decide (2097152 < a) || decide (2097152 < w64 (a + sizeV n))) = rangeBad a (sizeV n) := by
  obtain ⟨⟨s1, s2, s3⟩, _⟩ := size_ok he
  unfold rangeBad
  rw [w64_id (show In64 (2097152 - sizeV n) by unfold In64; omega)]
  by_cases h1 : a < 65536
  · simp [h1]
  · by_cases h2 : 2097152 < a
    · have : a > 2097152 - sizeV n := by omega
      simp [h2, this]
    · rw [w64_id (show In64 (a + sizeV n) by unfold In64; omega)]
      simp only [h1, h2, decide_false, Bool.false_or]
      rw [decide_eq_decide]
      omega
/-! ### Results: a list and an answer -/
theorem IsX.rowM {mk : C → SV} {r r' : List Ar} {i c2 : Nat} {A2 : Option Addr} {v k : SV} {H' : Heap} (hv : v = .tup [.c (.sl i A2 r'.length c2), k]) (hH : H' i = some (.row A2 c2 53 6 r'.length (encL r'))) (hm : ∀ x, mk x = .tup [.c x, k]) (h : r' = r) : IsX (.row 53 6 r.length (encL r) mk) v H' :=
  IsX.row_ h (hv.trans (hm _).symm) hH
theorem IsX.sameM {b : Bool} {x : C} {mk1 mk2 : C → SV} {r : List Ar} {v k : SV} {H' : Heap} (hv : v = .tup [.c x, k]) (hm : ∀ x, mk1 x = .tup [.c x, k]) (hb : b = true) : IsX (.alt b x mk1 r mk2) v H' :=
  IsX.same_ hb (by rw [hv, hm])
theorem IsX.newM {b : Bool} {x : C} {mk1 mk2 : C → SV} {r r' : List Ar} {i c2 : Nat} {A2 : Option Addr} {v k : SV} {H' : Heap} (hv : v = .tup [.c (.sl i A2 r'.length c2), k]) (hH : H' i = some (.row A2 c2 53 6 r'.length (encL r'))) (hm : ∀ x, mk2 x = .tup [.c x, k]) (hb : b = false) (h : r' = r) : IsX (.alt b x mk1 r mk2) v H' :=
  IsX.new_ hb h (hv.trans (hm _).symm) hH
/-! ### Lists that may come; what is kept -/
def mayS (l : List Ar) : Bool := rightL l && decide ((l.length : Int) ≤ 24)
def keptL (was now : List Ar) : List Ar := if decide ((24 : Int) < (now.length : Int)) = true then was else now
def keptN (now : List Ar) (v : Int) : An := if decide ((24 : Int) < (now.length : Int)) = true then errA 9 else okA v
theorem nil_of_none {A : Option Addr} {l : List Ar} {w : World} (h : (Ent.rd A 6 l.length (encL l)).holds w) (hA : A.isNone = true) : l = [] := by
  cases l with
  | nil => rfl
  | cons a r =>
    obtain ⟨p, hp, _⟩ := h.2 (by simp [encL, encA])
    rw [hp] at hA
    cases hA
end Go.Proofs.Ytbcicjmepojlnaa.Eng
/- Contracts of functions of lists that hand back new ones (printed by genr.py of this work); condition: as its 'hside' says. -/
namespace Go.Proofs.Ytbcicjmepojlnaa.Eng
open Go Go.RowKit
set_option linter.unusedVariables false
set_option linter.unusedSimpArgs false
theorem b_cut : Bodied Try.prog 62 := bodied Try.func62 rfl (by decide)
def F_cut : FunR := fun κ l rest => match rest with
  | [.c (.v (.int .i64 lo)), .c (.v (.int .i64 hi))] => some (κ _ (l.length ≤ 300000), κ _ (cutL l lo hi))
  | _ => none
set_option maxRecDepth 100000 in
set_option maxHeartbeats 8000000 in
theorem k_cut (l : List Ar) (lo : Int) (hi : Int) (hside : l.length ≤ 300000) (A : Option Addr) (c : Nat) (w : World) (hr : (Ent.rd A 6 l.length (encL l)).holds w) :
    Calls Try.prog 62 #[.slice A l.length c, (SV.c (.v (.int .i64 lo))).den, (SV.c (.v (.int .i64 hi))).den] w fun e w' => ∃ v H', e = .returned v.den ∧ IsR (cutL l lo hi) v H' ∧ HSat w (fun _ => False) H' w' := by
  obtain ⟨κ, hκ⟩ : ∃ κ : Kp, κ = kid := ⟨_, rfl⟩
  have hH : HSat w (fun _ => False) (heapOf [(nilId, .rd none 1 0 []), (200000, .rd A 6 (κ _ l.length) (κ _ (encL l)))]) w := by
    subst hκ
    refine HSat.reads fun p hp => ?_
    simp only [List.mem_cons, List.not_mem_nil, or_false] at hp
    rcases hp with rfl | rfl
    · exact ⟨_, _, _, _, rfl, nil_holds w⟩
    · exact ⟨_, _, _, _, rfl, hr⟩
  refine (callsE (n := 23) FTok [e_right hκ, e_around hκ, e_concat hκ] mixed [] Try.func62 rfl (by kernel_rfl) #[.slice A l.length c, (SV.c (.v (.int .i64 lo))).den, (SV.c (.v (.int .i64 hi))).den] [(0, .c (.sl 200000 A (κ _ l.length) c)), (1, .c (.v (.int .i64 lo))), (2, .c (.v (.int .i64 hi)))] _ w rfl [.tmp 6] rfl (by simp) (by subst hκ; simp [SV.den, C.den, kid]) hH (fun v H' => IsR (κ _ (cutL l lo hi)) v H') hκ ?_).mono ?_
  rotate_left
  · subst hκ; intro e w' h; exact h
  cbv
  repeat' (first | refine And.intro ?_ ?_ | (intro _; cbv) | (refine tst_mk (fun h => ?_) (fun h => ?_) <;> cbv) | (refine LookX.nil ?_; cbv) | (refine LookX.auto hκ ?_; cbv))
  all_goals (try (clear hH))
  all_goals subst hκ
  all_goals (try delta kid at *)
  all_goals (try dsimp only at *)
  all_goals (try (exact ⟨trivial⟩))
  all_goals (try (exact ⟨by decide⟩))
  all_goals (try (exact ⟨rfl⟩))
  all_goals (try (refine ⟨?_⟩; have q1 := ahead_le l (floorA lo); have q2 := behind_le l (toI hi); have q3 := within_le l lo hi; (repeat' (first | exact rfl | refine And.intro ?_ ?_ | exact Or.inl rfl | exact Or.inr rfl | assumption | omega | (simp only [List.length_append, List.length_cons, List.length_nil]; omega))); done))
  all_goals (first | exact IsR.nil_ (cut_no (by assumption)) | exact IsR.row_ (cut_all (by assumption) (by assumption)) rfl | exact IsR.row_ (cut_some (by assumption) (by assumption)) rfl)
def e_cut {κ : Kp} (hκ : κ = kid) : ESpec Try.prog := lisRES b_cut F_cut hκ fun l rest p r hF hp A c w hr => by
  unfold F_cut at hF
  split at hF
  · rename_i lo hi
    simp only [kid, Option.some.injEq, Prod.mk.injEq] at hF
    obtain ⟨rfl, rfl⟩ := hF
    exact k_cut l lo hi hp A c w hr
  · cases hF
theorem b_within2 : Bodied Try.prog 68 := bodied Try.func68 rfl (by decide)
def F_within2 : FunR := fun κ l rest => match rest with
  | [.c (.v (.int .i64 lo)), .c (.v (.int .i64 hi))] => some (κ _ (l.length ≤ 1000000), κ _ (within2L l lo hi))
  | _ => none
set_option maxRecDepth 100000 in
set_option maxHeartbeats 8000000 in
theorem k_within2 (l : List Ar) (lo : Int) (hi : Int) (hside : l.length ≤ 1000000) (A : Option Addr) (c : Nat) (w : World) (hr : (Ent.rd A 6 l.length (encL l)).holds w) :
    Calls Try.prog 68 #[.slice A l.length c, (SV.c (.v (.int .i64 lo))).den, (SV.c (.v (.int .i64 hi))).den] w fun e w' => ∃ v H', e = .returned v.den ∧ IsR (within2L l lo hi) v H' ∧ HSat w (fun _ => False) H' w' := by
  obtain ⟨κ, hκ⟩ : ∃ κ : Kp, κ = kid := ⟨_, rfl⟩
  have hH : HSat w (fun _ => False) (heapOf [(nilId, .rd none 1 0 []), (200000, .rd A 6 (κ _ l.length) (κ _ (encL l)))]) w := by
    subst hκ
    refine HSat.reads fun p hp => ?_
    simp only [List.mem_cons, List.not_mem_nil, or_false] at hp
    rcases hp with rfl | rfl
    · exact ⟨_, _, _, _, rfl, nil_holds w⟩
    · exact ⟨_, _, _, _, rfl, hr⟩
  refine (callsE (n := 19) FTok [e_right hκ, e_within hκ] mixed [] Try.func68 rfl (by kernel_rfl) #[.slice A l.length c, (SV.c (.v (.int .i64 lo))).den, (SV.c (.v (.int .i64 hi))).den] [(0, .c (.sl 200000 A (κ _ l.length) c)), (1, .c (.v (.int .i64 lo))), (2, .c (.v (.int .i64 hi)))] _ w rfl [.tmp 6] rfl (by simp) (by subst hκ; simp [SV.den, C.den, kid]) hH (fun v H' => IsR (κ _ (within2L l lo hi)) v H') hκ ?_).mono ?_
  rotate_left
  · subst hκ; intro e w' h; exact h
  cbv
  repeat' (first | refine And.intro ?_ ?_ | (intro _; cbv) | (refine tst_mk (fun h => ?_) (fun h => ?_) <;> cbv) | (refine LookX.nil ?_; cbv) | (refine LookX.auto hκ ?_; cbv))
  all_goals (try (clear hH))
  all_goals subst hκ
  all_goals (try delta kid at *)
  all_goals (try dsimp only at *)
  all_goals (try (exact ⟨trivial⟩))
  all_goals (try (exact ⟨by decide⟩))
  all_goals (try (exact ⟨rfl⟩))
  all_goals (try (refine ⟨?_⟩; have q1 := ahead_le l (floorA lo); have q2 := behind_le l (toI hi); have q3 := within_le l lo hi; (repeat' (first | exact rfl | refine And.intro ?_ ?_ | exact Or.inl rfl | exact Or.inr rfl | assumption | omega | (simp only [List.length_append, List.length_cons, List.length_nil]; omega))); done))
  all_goals (first | exact IsR.nil_ (within2_no (by assumption)) | exact IsR.nil_ (within2_no2 (by assumption)) | exact IsR.row_ (within2_yes (by assumption) (by assumption)) rfl)
def e_within2 {κ : Kp} (hκ : κ = kid) : ESpec Try.prog := lisRES b_within2 F_within2 hκ fun l rest p r hF hp A c w hr => by
  unfold F_within2 at hF
  split at hF
  · rename_i lo hi
    simp only [kid, Option.some.injEq, Prod.mk.injEq] at hF
    obtain ⟨rfl, rfl⟩ := hF
    exact k_within2 l lo hi hp A c w hr
  · cases hF
end Go.Proofs.Ytbcicjmepojlnaa.Eng
/- Contracts of functions (printed by genx.py of this work): what each hands back; condition: as its 'hside' says. -/
namespace Go.Proofs.Ytbcicjmepojlnaa.Eng
open Go Go.RowKit
set_option linter.unusedVariables false
set_option linter.unusedSimpArgs false
theorem b_size : Bodied Try.prog 151 := bodied Try.func151 rfl (by decide)
def F_size : FunX := fun κ avs => match avs with
  | [.val (.c (.v (.int .i64 n)))] => some (κ _ (True), (.val (.tup [.c (.v (.int .i64 (κ _ (sizeV n)))), .c (.v (.int .i64 (κ _ (sizeE n))))])))
  | _ => none
set_option maxRecDepth 100000 in
set_option maxHeartbeats 4000000 in
theorem k_size (n : Int) (hside : True) (w : World) :
    Calls Try.prog 151 #[(SV.c (.v (.int .i64 n))).den] w fun e w' => ∃ v H', e = .returned v.den ∧ IsX (.val (.tup [.c (.v (.int .i64 (sizeV n))), .c (.v (.int .i64 (sizeE n)))])) v H' ∧ HSat w (fun _ => False) H' w' := by
  obtain ⟨κ, hκ⟩ : ∃ κ : Kp, κ = kid := ⟨_, rfl⟩
  have hH : HSat w (fun _ => False) (heapOf [(nilId, .rd none 1 0 [])]) w := by
    subst hκ
    refine HSat.reads fun p hp => ?_
    simp only [List.mem_cons, List.not_mem_nil, or_false] at hp
    rcases hp with rfl
    · exact ⟨_, _, _, _, rfl, nil_holds w⟩
  refine (callsP (n := 19) FTok [] mixed [] Try.func151 rfl (by kernel_rfl) #[(SV.c (.v (.int .i64 n))).den] [(0, .c (.v (.int .i64 n)))] _ w rfl [.tmp 2, .tmp 3] rfl (by simp) (by subst hκ; simp [SV.den, C.den, kid]) hH (fun v H' => IsX (.val (.tup [.c (.v (.int .i64 (κ _ (sizeV n)))), .c (.v (.int .i64 (κ _ (sizeE n))))])) v H') hκ ?_).mono ?_
  rotate_left
  · subst hκ; intro e w' h; exact h
  intro P' hP'
  cbv
  repeat' (first | refine And.intro ?_ ?_ | (intro _; cbv) | (refine tst_mk (fun h => ?_) (fun h => ?_) <;> cbv) | (refine LookX.nil ?_; cbv) | (refine LookX.auto hκ ?_; cbv))
  all_goals (clear hH; subst hκ; delta kid at *; (try dsimp only at *))
  all_goals (try (exact ⟨trivial⟩))
  all_goals (try (exact ⟨by decide⟩))
  all_goals (show IsX _ _ _; refine IsX.val_ ?_; simp only [SV.den, SV.den0, C.den, List.map_cons, List.map_nil, sizeV, sizeE, sizeBad, GT.gt, GE.ge]; (try simp only [*, Bool.or_true, Bool.true_or, Bool.or_false, Bool.false_or, Bool.and_true, Bool.true_and, Bool.and_false, Bool.false_and, Bool.not_true, Bool.not_false, if_true, if_false, Bool.false_eq_true]); (first | done | rfl | (exfalso; simp_all; done) | skip))
def e_size {κ : Kp} (hκ : κ = kid) : ESpec Try.prog := fnES [.flat] b_size F_size hκ fun avs p r hF hp => by
  unfold F_size at hF
  split at hF
  case h_2 => cases hF
  rename_i n
  simp only [kid, Option.some.injEq, Prod.mk.injEq] at hF
  obtain ⟨rfl, rfl⟩ := hF
  refine ⟨trivial, fun vs w hR => ?_⟩
  obtain ⟨vs0, rfl, hR⟩ := hR
  have hR' : vs0 = [] := hR
  subst hR'
  exact k_size n hp w
theorem b_flags : Bodied Try.prog 152 := bodied Try.func152 rfl (by decide)
def F_flags : FunX := fun κ avs => match avs with
  | [.val (.c (.v (.int .i64 f))), .val (.c (.v (.int .i64 al)))] => some (κ _ (True), (.val (.c (.v (.int .i64 (κ _ (flagsE f al)))))))
  | _ => none
set_option maxRecDepth 100000 in
set_option maxHeartbeats 4000000 in
theorem k_flags (f : Int) (al : Int) (hside : True) (w : World) :
    Calls Try.prog 152 #[(SV.c (.v (.int .i64 f))).den, (SV.c (.v (.int .i64 al))).den] w fun e w' => ∃ v H', e = .returned v.den ∧ IsX (.val (.c (.v (.int .i64 (flagsE f al))))) v H' ∧ HSat w (fun _ => False) H' w' := by
  obtain ⟨κ, hκ⟩ : ∃ κ : Kp, κ = kid := ⟨_, rfl⟩
  have hH : HSat w (fun _ => False) (heapOf [(nilId, .rd none 1 0 [])]) w := by
    subst hκ
    refine HSat.reads fun p hp => ?_
    simp only [List.mem_cons, List.not_mem_nil, or_false] at hp
    rcases hp with rfl
    · exact ⟨_, _, _, _, rfl, nil_holds w⟩
  refine (callsP (n := 13) FTok [] mixed [] Try.func152 rfl (by kernel_rfl) #[(SV.c (.v (.int .i64 f))).den, (SV.c (.v (.int .i64 al))).den] [(0, .c (.v (.int .i64 f))), (1, .c (.v (.int .i64 al)))] _ w rfl [.tmp 4] rfl (by simp) (by subst hκ; simp [SV.den, C.den, kid]) hH (fun v H' => IsX (.val (.c (.v (.int .i64 (κ _ (flagsE f al)))))) v H') hκ ?_).mono ?_
  rotate_left
  · subst hκ; intro e w' h; exact h
  intro P' hP'
  cbv
  repeat' (first | refine And.intro ?_ ?_ | (intro _; cbv) | (refine tst_mk (fun h => ?_) (fun h => ?_) <;> cbv) | (refine LookX.nil ?_; cbv) | (refine LookX.auto hκ ?_; cbv))
  all_goals (clear hH; subst hκ; delta kid at *; (try dsimp only at *))
  all_goals (try (exact ⟨trivial⟩))
  all_goals (try (exact ⟨by decide⟩))
  all_goals (show IsX _ _ _; refine IsX.val_ ?_; simp only [SV.den, SV.den0, C.den, List.map_cons, List.map_nil, flagsE, GT.gt, GE.ge]; (try simp only [*, Bool.or_true, Bool.true_or, Bool.or_false, Bool.false_or, Bool.and_true, Bool.true_and, Bool.and_false, Bool.false_and, Bool.not_true, Bool.not_false, if_true, if_false, Bool.false_eq_true]); (first | done | rfl | (exfalso; simp_all; done) | skip))
def e_flags {κ : Kp} (hκ : κ = kid) : ESpec Try.prog := fnES [.flat, .flat] b_flags F_flags hκ fun avs p r hF hp => by
  unfold F_flags at hF
  split at hF
  case h_2 => cases hF
  rename_i f al
  simp only [kid, Option.some.injEq, Prod.mk.injEq] at hF
  obtain ⟨rfl, rfl⟩ := hF
  refine ⟨trivial, fun vs w hR => ?_⟩
  obtain ⟨vs0, rfl, hR⟩ := hR
  obtain ⟨vs1, rfl, hR⟩ := hR
  have hR' : vs1 = [] := hR
  subst hR'
  exact k_flags f al hp w
theorem b_range : Bodied Try.prog 131 := bodied Try.func131 rfl (by decide)
def F_range : FunX := fun κ avs => match avs with
  | [.val (.c (.v (.int .i64 a))), .val (.c (.v (.int .i64 n)))] => some (κ _ (True), (.val (.tup [.c (.v (.int .i64 (κ _ (rangeLo a n)))), .c (.v (.int .i64 (κ _ (rangeHi a n)))), .c (.v (.int .i64 (κ _ (rangeE a n))))])))
  | _ => none
set_option maxRecDepth 100000 in
set_option maxHeartbeats 4000000 in
theorem k_range (a : Int) (n : Int) (hside : True) (w : World) :
    Calls Try.prog 131 #[(SV.c (.v (.int .i64 a))).den, (SV.c (.v (.int .i64 n))).den] w fun e w' => ∃ v H', e = .returned v.den ∧ IsX (.val (.tup [.c (.v (.int .i64 (rangeLo a n))), .c (.v (.int .i64 (rangeHi a n))), .c (.v (.int .i64 (rangeE a n)))])) v H' ∧ HSat w (fun _ => False) H' w' := by
  obtain ⟨κ, hκ⟩ : ∃ κ : Kp, κ = kid := ⟨_, rfl⟩
  have hH : HSat w (fun _ => False) (heapOf [(nilId, .rd none 1 0 [])]) w := by
    subst hκ
    refine HSat.reads fun p hp => ?_
    simp only [List.mem_cons, List.not_mem_nil, or_false] at hp
    rcases hp with rfl
    · exact ⟨_, _, _, _, rfl, nil_holds w⟩
  refine (callsP (n := 34) FTok [e_size hκ] mixed [] Try.func131 rfl (by kernel_rfl) #[(SV.c (.v (.int .i64 a))).den, (SV.c (.v (.int .i64 n))).den] [(0, .c (.v (.int .i64 a))), (1, .c (.v (.int .i64 n)))] _ w rfl [.tmp 4, .tmp 5, .tmp 6] rfl (by simp) (by subst hκ; simp [SV.den, C.den, kid]) hH (fun v H' => IsX (.val (.tup [.c (.v (.int .i64 (κ _ (rangeLo a n)))), .c (.v (.int .i64 (κ _ (rangeHi a n)))), .c (.v (.int .i64 (κ _ (rangeE a n))))])) v H') hκ ?_).mono ?_
  rotate_left
  · subst hκ; intro e w' h; exact h
  intro P' hP'
  cbv
  repeat' (first | refine And.intro ?_ ?_ | (intro _; cbv) | (refine tst_mk (fun h => ?_) (fun h => ?_) <;> cbv) | (refine LookX.nil ?_; cbv) | (refine LookX.auto hκ ?_; cbv))
  all_goals (clear hH; subst hκ; delta kid at *; (try dsimp only at *))
  all_goals (try (exact ⟨trivial⟩))
  all_goals (try (exact ⟨by decide⟩))
  all_goals (show IsX _ _ _; refine IsX.val_ ?_; simp only [SV.den, SV.den0, C.den, List.map_cons, List.map_nil, rangeLo, rangeHi, rangeC, rangeE, rangeBad, GT.gt, GE.ge]; (try simp only [*, Bool.or_true, Bool.true_or, Bool.or_false, Bool.false_or, Bool.and_true, Bool.true_and, Bool.and_false, Bool.false_and, Bool.not_true, Bool.not_false, if_true, if_false, Bool.false_eq_true]); (first | done | rfl | (exfalso; simp_all; done) | skip))
def e_range {κ : Kp} (hκ : κ = kid) : ESpec Try.prog := fnES [.flat, .flat] b_range F_range hκ fun avs p r hF hp => by
  unfold F_range at hF
  split at hF
  case h_2 => cases hF
  rename_i a n
  simp only [kid, Option.some.injEq, Prod.mk.injEq] at hF
  obtain ⟨rfl, rfl⟩ := hF
  refine ⟨trivial, fun vs w hR => ?_⟩
  obtain ⟨vs0, rfl, hR⟩ := hR
  obtain ⟨vs1, rfl, hR⟩ := hR
  have hR' : vs1 = [] := hR
  subst hR'
  exact k_range a n hp w
theorem b_rpages : Bodied Try.prog 154 := bodied Try.func154 rfl (by decide)
def F_rpages : FunX := fun κ avs => match avs with
  | [.val (.c (.v (.int .i64 n)))] => some (κ _ (1 ≤ n ∧ n ≤ 2031616), (.val (.c (.v (.int .i64 (κ _ ((n + 4095) / 4096)))))))
  | _ => none
set_option maxRecDepth 100000 in
set_option maxHeartbeats 4000000 in
theorem k_rpages (n : Int) (hside : 1 ≤ n ∧ n ≤ 2031616) (w : World) :
    Calls Try.prog 154 #[(SV.c (.v (.int .i64 n))).den] w fun e w' => ∃ v H', e = .returned v.den ∧ IsX (.val (.c (.v (.int .i64 ((n + 4095) / 4096))))) v H' ∧ HSat w (fun _ => False) H' w' := by
  obtain ⟨κ, hκ⟩ : ∃ κ : Kp, κ = kid := ⟨_, rfl⟩
  have hH : HSat w (fun _ => False) (heapOf [(nilId, .rd none 1 0 [])]) w := by
    subst hκ
    refine HSat.reads fun p hp => ?_
    simp only [List.mem_cons, List.not_mem_nil, or_false] at hp
    rcases hp with rfl
    · exact ⟨_, _, _, _, rfl, nil_holds w⟩
  refine (callsP (n := 11) FTok [] mixed [] Try.func154 rfl (by kernel_rfl) #[(SV.c (.v (.int .i64 n))).den] [(0, .c (.v (.int .i64 n)))] _ w rfl [.tmp 2] rfl (by simp) (by subst hκ; simp [SV.den, C.den, kid]) hH (fun v H' => IsX (.val (.c (.v (.int .i64 (κ _ ((n + 4095) / 4096)))))) v H') hκ ?_).mono ?_
  rotate_left
  · subst hκ; intro e w' h; exact h
  intro P' hP'
  cbv
  refine loopP hP' FTok [] mixed [0] (σ := {p : Int // CntOk n p}) (fun q => [(3, .c (.v (.int .i64 (κ _ q.1))))]) (fun _ => []) (fun q => (n - 4096 * q.1).toNat) ⟨0, cnt_0 hside.1⟩ [] ?_ (by decide) ?_ hκ ?_
  · cbv
    all_goals (subst hκ; delta kid; repeat' (first | exact rfl | exact trivial | refine And.intro ?_ ?_))
  · cbv
  rintro ⟨p, hp⟩
  cbv
  refine tst_mk (fun h => ?_) (fun h => ?_)
  · have hv := cnt_next hside.2 hp (by subst hκ; exact h)
    cbv
    all_goals (clear hH; subst hκ; delta kid at *; (try dsimp only at *))
    refine ⟨⟨⟨p + 1, hv.2.1⟩, [], hv.2.2, by decide, ?_, ?_⟩⟩
    all_goals repeat' (first | exact rfl | exact trivial | refine And.intro ?_ ?_ | exact congrArg (Value.int .i64) hv.1)
  · have hv := cnt_end hside hp (by subst hκ; exact h)
    cbv
    all_goals (clear hH; subst hκ; delta kid at *; (try dsimp only at *))
    exact IsX.int_ hv
def e_rpages {κ : Kp} (hκ : κ = kid) : ESpec Try.prog := fnES [.flat] b_rpages F_rpages hκ fun avs p r hF hp => by
  unfold F_rpages at hF
  split at hF
  case h_2 => cases hF
  rename_i n
  simp only [kid, Option.some.injEq, Prod.mk.injEq] at hF
  obtain ⟨rfl, rfl⟩ := hF
  refine ⟨trivial, fun vs w hR => ?_⟩
  obtain ⟨vs0, rfl, hR⟩ := hR
  have hR' : vs0 = [] := hR
  subst hR'
  exact k_rpages n hp w
theorem b_rsize : Bodied Try.prog 129 := bodied Try.func129 rfl (by decide)
def F_rsize : FunX := fun κ avs => match avs with
  | [.val (.c (.v (.int .i64 n)))] => some (κ _ (True), (.val (.tup [.c (.v (.int .i64 (κ _ (sizeV n)))), .c (.v (.int .i64 (κ _ (sizeE n))))])))
  | _ => none
set_option maxRecDepth 100000 in
set_option maxHeartbeats 4000000 in
theorem k_rsize (n : Int) (hside : True) (w : World) :
    Calls Try.prog 129 #[(SV.c (.v (.int .i64 n))).den] w fun e w' => ∃ v H', e = .returned v.den ∧ IsX (.val (.tup [.c (.v (.int .i64 (sizeV n))), .c (.v (.int .i64 (sizeE n)))])) v H' ∧ HSat w (fun _ => False) H' w' := by
  obtain ⟨κ, hκ⟩ : ∃ κ : Kp, κ = kid := ⟨_, rfl⟩
  have hH : HSat w (fun _ => False) (heapOf [(nilId, .rd none 1 0 [])]) w := by
    subst hκ
    refine HSat.reads fun p hp => ?_
    simp only [List.mem_cons, List.not_mem_nil, or_false] at hp
    rcases hp with rfl
    · exact ⟨_, _, _, _, rfl, nil_holds w⟩
  refine (callsP (n := 15) FTok [e_rpages hκ] mixed [] Try.func129 rfl (by kernel_rfl) #[(SV.c (.v (.int .i64 n))).den] [(0, .c (.v (.int .i64 n)))] _ w rfl [.tmp 2, .tmp 3] rfl (by simp) (by subst hκ; simp [SV.den, C.den, kid]) hH (fun v H' => IsX (.val (.tup [.c (.v (.int .i64 (κ _ (sizeV n)))), .c (.v (.int .i64 (κ _ (sizeE n))))])) v H') hκ ?_).mono ?_
  rotate_left
  · subst hκ; intro e w' h; exact h
  intro P' hP'
  cbv
  repeat' (first | refine And.intro ?_ ?_ | (intro _; cbv) | (refine tst_mk (fun h => ?_) (fun h => ?_) <;> cbv) | (refine LookX.nil ?_; cbv) | (refine LookX.auto hκ ?_; cbv))
  all_goals (clear hH; subst hκ; delta kid at *; (try dsimp only at *))
  all_goals (try (show Side _; refine ⟨?_⟩; exact (rsize_yes (by with_reducible assumption) (by with_reducible assumption) (by with_reducible assumption)).1))
  all_goals (try (show IsX _ _ _; refine IsX.val_ ?_; have hv := rsize_yes (n := n) (by with_reducible assumption) (by with_reducible assumption) (by with_reducible assumption); simp only [SV.den, SV.den0, C.den, List.map_cons, List.map_nil, hv.2.1, hv.2.2]; done))
  all_goals (show IsX _ _ _; refine IsX.val_ ?_; simp only [SV.den, SV.den0, C.den, List.map_cons, List.map_nil, sizeV, sizeE, sizeBad, GT.gt, GE.ge]; (try simp only [*, Bool.or_true, Bool.true_or, Bool.or_false, Bool.false_or, Bool.and_true, Bool.true_and, Bool.and_false, Bool.false_and, Bool.not_true, Bool.not_false, if_true, if_false, Bool.false_eq_true]); (first | done | rfl | (exfalso; simp_all; done) | skip))
def e_rsize {κ : Kp} (hκ : κ = kid) : ESpec Try.prog := fnES [.flat] b_rsize F_rsize hκ fun avs p r hF hp => by
  unfold F_rsize at hF
  split at hF
  case h_2 => cases hF
  rename_i n
  simp only [kid, Option.some.injEq, Prod.mk.injEq] at hF
  obtain ⟨rfl, rfl⟩ := hF
  refine ⟨trivial, fun vs w hR => ?_⟩
  obtain ⟨vs0, rfl, hR⟩ := hR
  have hR' : vs0 = [] := hR
  subst hR'
  exact k_rsize n hp w
theorem b_rrange : Bodied Try.prog 125 := bodied Try.func125 rfl (by decide)
def F_rrange : FunX := fun κ avs => match avs with
  | [.val (.c (.v (.int .i64 a))), .val (.c (.v (.int .i64 n)))] => some (κ _ (In64 a), (.val (.tup [.c (.v (.int .i64 (κ _ (rangeLo a n)))), .c (.v (.int .i64 (κ _ (rangeHi a n)))), .c (.v (.int .i64 (κ _ (rangeE a n))))])))
  | _ => none
set_option maxRecDepth 100000 in
set_option maxHeartbeats 4000000 in
theorem k_rrange (a : Int) (n : Int) (hside : In64 a) (w : World) :
    Calls Try.prog 125 #[(SV.c (.v (.int .i64 a))).den, (SV.c (.v (.int .i64 n))).den] w fun e w' => ∃ v H', e = .returned v.den ∧ IsX (.val (.tup [.c (.v (.int .i64 (rangeLo a n))), .c (.v (.int .i64 (rangeHi a n))), .c (.v (.int .i64 (rangeE a n)))])) v H' ∧ HSat w (fun _ => False) H' w' := by
  obtain ⟨κ, hκ⟩ : ∃ κ : Kp, κ = kid := ⟨_, rfl⟩
  have hH : HSat w (fun _ => False) (heapOf [(nilId, .rd none 1 0 [])]) w := by
    subst hκ
    refine HSat.reads fun p hp => ?_
    simp only [List.mem_cons, List.not_mem_nil, or_false] at hp
    rcases hp with rfl
    · exact ⟨_, _, _, _, rfl, nil_holds w⟩
  refine (callsP (n := 36) FTok [e_rsize hκ] mixed [] Try.func125 rfl (by kernel_rfl) #[(SV.c (.v (.int .i64 a))).den, (SV.c (.v (.int .i64 n))).den] [(0, .c (.v (.int .i64 a))), (1, .c (.v (.int .i64 n)))] _ w rfl [.tmp 4, .tmp 5, .tmp 6] rfl (by simp) (by subst hκ; simp [SV.den, C.den, kid]) hH (fun v H' => IsX (.val (.tup [.c (.v (.int .i64 (κ _ (rangeLo a n)))), .c (.v (.int .i64 (κ _ (rangeHi a n)))), .c (.v (.int .i64 (κ _ (rangeE a n))))])) v H') hκ ?_).mono ?_
  rotate_left
  · subst hκ; intro e w' h; exact h
  intro P' hP'
  cbv
  repeat' (first | refine And.intro ?_ ?_ | (intro _; cbv) | (refine tst_mk (fun h => ?_) (fun h => ?_) <;> cbv) | (refine LookX.nil ?_; cbv) | (refine LookX.auto hκ ?_; cbv))
  all_goals (clear hH; subst hκ; delta kid at *; (try dsimp only at *))
  all_goals (try (exact ⟨trivial⟩))
  all_goals (try (exact ⟨by decide⟩))
  all_goals (first | (have h0 : (Int.tmod a 4096 != 0) = true := (by with_reducible assumption); skip) | (have h0 : (sizeE n != 0) = true := (by with_reducible assumption); skip) | (show IsX _ _ _; have hb := rrange_bad hside (bne_no (x := sizeE n) (by with_reducible assumption)); refine IsX.val_ ?_; simp only [SV.den, SV.den0, C.den, List.map_cons, List.map_nil, rangeLo, rangeHi, rangeC, rangeE, ← hb]; clear hb; simp only [*, Bool.or_true, Bool.true_or, Bool.or_false, Bool.false_or, Bool.and_true, Bool.true_and, Bool.and_false, Bool.false_and, Bool.not_true, Bool.not_false, if_true, if_false, Bool.false_eq_true]))
  all_goals (try (show IsX _ _ _; refine IsX.val_ ?_; simp only [SV.den, SV.den0, C.den, List.map_cons, List.map_nil, rangeLo, rangeHi, rangeC, rangeE, rangeBad, GT.gt, GE.ge]; (try simp only [*, Bool.or_true, Bool.true_or, Bool.or_false, Bool.false_or, Bool.and_true, Bool.true_and, Bool.and_false, Bool.false_and, Bool.not_true, Bool.not_false, if_true, if_false, Bool.false_eq_true]); (first | done | rfl | (exfalso; simp_all; done) | skip)))
def e_rrange {κ : Kp} (hκ : κ = kid) : ESpec Try.prog := fnES [.flat, .flat] b_rrange F_rrange hκ fun avs p r hF hp => by
  unfold F_rrange at hF
  split at hF
  case h_2 => cases hF
  rename_i a n
  simp only [kid, Option.some.injEq, Prod.mk.injEq] at hF
  obtain ⟨rfl, rfl⟩ := hF
  refine ⟨trivial, fun vs w hR => ?_⟩
  obtain ⟨vs0, rfl, hR⟩ := hR
  obtain ⟨vs1, rfl, hR⟩ := hR
  have hR' : vs1 = [] := hR
  subst hR'
  exact k_rrange a n hp w
theorem b_clone : Bodied Try.prog 116 := bodied Try.func116 rfl (by decide)
def F_clone : FunX := fun κ avs => match avs with
  | [.lst l xl] => some (κ _ (l.length ≤ 300000), (.row 53 6 ((κ _ ((l).length))) ((κ _ (encL (l)))) (fun x => .c x)))
  | _ => none
set_option maxRecDepth 100000 in
set_option maxHeartbeats 4000000 in
theorem k_clone (l : List Ar) (Al : Option Addr) (cl : Nat) (hside : l.length ≤ 300000) (w : World) (hl : (Ent.rd Al 6 l.length (encL l)).holds w) :
    Calls Try.prog 116 #[.slice Al l.length cl] w fun e w' => ∃ v H', e = .returned v.den ∧ IsX (.row 53 6 (((l).length)) ((encL (l))) (fun x => .c x)) v H' ∧ HSat w (fun _ => False) H' w' := by
  obtain ⟨κ, hκ⟩ : ∃ κ : Kp, κ = kid := ⟨_, rfl⟩
  have hH : HSat w (fun _ => False) (heapOf [(nilId, .rd none 1 0 []), (200000, .rd Al 6 (κ _ l.length) (κ _ (encL l)))]) w := by
    subst hκ
    refine HSat.reads fun p hp => ?_
    simp only [List.mem_cons, List.not_mem_nil, or_false] at hp
    rcases hp with rfl | rfl
    · exact ⟨_, _, _, _, rfl, nil_holds w⟩
    · exact ⟨_, _, _, _, rfl, hl⟩
  refine (callsP (n := 8) FTok [] mixed [] Try.func116 rfl (by kernel_rfl) #[.slice Al l.length cl] [(0, .c (.sl 200000 Al (κ _ l.length) cl))] _ w rfl [.tmp 2] rfl (by simp) (by subst hκ; simp [SV.den, C.den, kid]) hH (fun v H' => IsX (.row 53 6 ((κ _ ((l).length))) ((κ _ (encL (l)))) (fun x => .c x)) v H') hκ ?_).mono ?_
  rotate_left
  · subst hκ; intro e w' h; exact h
  intro P' hP'
  cbv
  repeat' (first | refine And.intro ?_ ?_ | (intro _; cbv) | (refine tst_mk (fun h => ?_) (fun h => ?_) <;> cbv) | (refine LookX.nil ?_; cbv) | (refine LookX.auto hκ ?_; cbv))
  all_goals (try (show Side _; refine ⟨?_⟩; subst hκ; delta kid at *; first | exact rfl | exact trivial | exact ⟨rfl, rfl, .inl rfl⟩ | ((try dsimp only at *); (try simp only [setTo_len, noS_len, List.length_append, List.length_cons, List.length_nil, List.length_map, and_self, true_or, or_true, eq_self, true_and, and_true, Nat.zero_add, Nat.add_zero]); (first | done | omega); done)))
  all_goals (clear hH; subst hκ; delta kid at *; (try dsimp only at *))
  · exact IsX.nil_ (nil_of_none hl (by with_reducible assumption)) rfl
  all_goals (try simp only [Nat.zero_add, List.nil_append])
  all_goals (try (refine ⟨?_⟩; simp only [maxLen]; omega))
  all_goals (try (exact ⟨⟨trivial, trivial, .inl trivial, encL_ok l⟩⟩))
  all_goals (first | exact IsX.row_ rfl rfl rfl | trace_state)
def e_clone {κ : Kp} (hκ : κ = kid) : ESpec Try.prog := fnES [.list] b_clone F_clone hκ fun avs p r hF hp => by
  unfold F_clone at hF
  split at hF
  case h_2 => cases hF
  rename_i l xl
  simp only [kid, Option.some.injEq, Prod.mk.injEq] at hF
  obtain ⟨rfl, rfl⟩ := hF
  refine ⟨fun x y h => by simp [SV.den, SV.den0, h], fun vs w hR => ?_⟩
  obtain ⟨il, Al, cl, vs0, rfl, rfl, hl, hR⟩ := hR
  have hR' : vs0 = [] := hR
  subst hR'
  exact k_clone l Al cl hp w hl
end Go.Proofs.Ytbcicjmepojlnaa.Eng
/- What list.Covered and list.Pages come to, step by step; no condition but those typed. -/
namespace Go.Proofs.Ytbcicjmepojlnaa.Eng
open Go Go.RowKit
set_option autoImplicit false
set_option linter.unusedSimpArgs false
set_option linter.unusedVariables false
def atW (W : List Ar) (a0 : Int) : Nat → Int
  | 0 => a0
  | i + 1 => (nthA W i).e
theorem drop_cons {W : List Ar} {i : Nat} (h : i < W.length) : W.drop i = nthA W i :: W.drop (i + 1) := by
  have h2 := nthA_get h
  rw [List.getElem?_eq_getElem h] at h2
  injection h2 with h2
  rw [List.drop_eq_getElem_cons h, h2]
end Go.Proofs.Ytbcicjmepojlnaa.Eng
/- Contracts of functions (printed by genx.py of this work): what each hands back; condition: as its 'hside' says. -/
namespace Go.Proofs.Ytbcicjmepojlnaa.Eng
open Go Go.RowKit
set_option linter.unusedVariables false
set_option linter.unusedSimpArgs false
end Go.Proofs.Ytbcicjmepojlnaa.Eng
/- Protecting and faults, in plain words; no condition but those typed. -/
namespace Go.Proofs.Ytbcicjmepojlnaa.Eng
open Go Go.RowKit
set_option autoImplicit false
set_option linter.unusedSimpArgs false
set_option linter.unusedVariables false
end Go.Proofs.Ytbcicjmepojlnaa.Eng
/- Lists of areas by their pages: right lists are told by them; cuts, joins; no condition but those typed. -/
namespace Go.Proofs.Ytbcicjmepojlnaa.Eng
open Go Go.RowKit
set_option autoImplicit false
set_option linter.unusedSimpArgs false
set_option linter.unusedVariables false
def offP (a : Ar) (x : Int) : Int := if a.b = 0 then 0 else a.o + x - a.s
def ext (a : Ar) (x : Int) : At := ⟨a.p, a.sh, a.b, offP a x⟩
def inA (a : Ar) (x : Int) : Prop := a.s ≤ x ∧ x < a.e
def Has (l : List Ar) (x : Int) (t : At) : Prop := ∃ a ∈ l, inA a x ∧ ext a x = t
def Fm (l : List Ar) : Prop := ∀ a ∈ l, formed a = true
def Ok (l : List Ar) : Prop := Fm l ∧ l.Pairwise fun a b => a.e ≤ b.s
def Rt (l : List Ar) : Prop := Fm l ∧ l.Pairwise fun a b => a.e ≤ b.s ∧ goesA a b = false
def Touch (x lo hi : Int) : Prop := lo < hi ∧ lo < x + 4096 ∧ x < hi
theorem Rt.ok {l : List Ar} (h : Rt l) : Ok l := ⟨h.1, h.2.imp fun h => h.1⟩
theorem Has.nil {x : Int} {t : At} : ¬ Has [] x t := fun ⟨a, h, _⟩ => by cases h
theorem has_app (l k : List Ar) (x : Int) (t : At) : Has (l ++ k) x t ↔ Has l x t ∨ Has k x t := by
  unfold Has
  constructor
  · rintro ⟨a, ha, h⟩
    rcases List.mem_append.1 ha with h1 | h1
    · exact .inl ⟨a, h1, h⟩
    · exact .inr ⟨a, h1, h⟩
  · rintro (⟨a, ha, h⟩ | ⟨a, ha, h⟩)
    · exact ⟨a, List.mem_append.2 (.inl ha), h⟩
    · exact ⟨a, List.mem_append.2 (.inr ha), h⟩
theorem has_cons (a : Ar) (l : List Ar) (x : Int) (t : At) : Has (a :: l) x t ↔ (inA a x ∧ ext a x = t) ∨ Has l x t := by
  unfold Has
  constructor
  · rintro ⟨b, hb, h⟩
    rcases List.mem_cons.1 hb with rfl | h1
    · exact .inl h
    · exact .inr ⟨b, h1, h⟩
  · rintro (h | ⟨b, hb, h⟩)
    · exact ⟨a, List.mem_cons_self .., h⟩
    · exact ⟨b, List.mem_cons_of_mem _ hb, h⟩
theorem has_one (a : Ar) (x : Int) (t : At) : Has [a] x t ↔ inA a x ∧ ext a x = t := by
  rw [has_cons]
  exact ⟨fun h => h.elim id fun h => (Has.nil h).elim, .inl⟩
theorem has_flat (f : Ar → List Ar) (l : List Ar) (x : Int) (t : At) : Has (l.flatMap f) x t ↔ ∃ a ∈ l, Has (f a) x t := by
  unfold Has
  constructor
  · rintro ⟨a, ha, h⟩
    obtain ⟨b, hb, h2⟩ := List.mem_flatMap.1 ha
    exact ⟨b, hb, a, h2, h⟩
  · rintro ⟨b, hb, a, h2, h⟩
    exact ⟨a, List.mem_flatMap.2 ⟨b, hb, h2⟩, h⟩
/-! ### Areas -/
structure Fo (a : Ar) : Prop where
  s0 : a.s % 4096 = 0
  e0 : a.e % 4096 = 0
  lo : 65536 ≤ a.s
  hi : a.e ≤ 2097152
  lt : a.s < a.e
  p0 : 0 ≤ a.p
  p7 : a.p ≤ 7
  b0 : 0 ≤ a.b
  b9 : a.b ≤ 9
  oz : a.b = 0 → a.o = 0
  om : a.b ≠ 0 → a.o % 4096 = 0 ∧ 0 ≤ a.o ∧ a.o ≤ 1099511627776 - (a.e - a.s)
theorem fo {a : Ar} : formed a = true ↔ Fo a := by
  rw [formed_iff]
  exact ⟨fun ⟨h1, h2, h3, h4, h5, h6, h7, h8, h9, h10, h11⟩ => ⟨h1, h2, h3, h4, h5, h6, h7, h8, h9, h10, h11⟩, fun ⟨h1, h2, h3, h4, h5, h6, h7, h8, h9, h10, h11⟩ => ⟨h1, h2, h3, h4, h5, h6, h7, h8, h9, h10, h11⟩⟩
theorem offP_s {a : Ar} (h : Fo a) : offP a a.s = a.o := by
  unfold offP
  split
  · rename_i hb; exact (h.oz hb).symm
  · omega
theorem offP_eq {a : Ar} (h : Fo a) {x : Int} (h1 : 0 ≤ x) (h2 : x ≤ 2097152) : offA a x = offP a x := offA_eq (fo.2 h) h1 h2
theorem goes_ext {a b : Ar} : goesA a b = true ↔ Fo a ∧ Fo b ∧ a.e = b.s ∧ ext a a.e = ext b b.s := by
  rw [goes_iff]
  simp only [fo]
  unfold ext
  simp only [At.mk.injEq]
  constructor
  · rintro ⟨h1, h2, h3, h4, h5, h6, h7⟩
    refine ⟨h1, h2, h3, h4, h5, h6, ?_⟩
    rw [offP_s h2, h7]
    rfl
  · rintro ⟨h1, h2, h3, h4, h5, h6, h7⟩
    refine ⟨h1, h2, h3, h4, h5, h6, ?_⟩
    rw [offP_s h2] at h7
    exact h7.symm
theorem ext_all {a b : Ar} {x y : Int} (h : ext a x = ext b x) : ext a y = ext b y := by
  unfold ext at h ⊢
  simp only [At.mk.injEq] at h ⊢
  obtain ⟨h1, h2, h3, h4⟩ := h
  refine ⟨h1, h2, h3, ?_⟩
  unfold offP at h4 ⊢
  rw [h3] at h4 ⊢
  split at h4 <;> split <;> first | omega | contradiction
theorem ar_ext {a b : Ar} (ha : Fo a) (hb : Fo b) (h1 : a.s = b.s) (h2 : a.e = b.e) {x : Int} (h : ext a x = ext b x) : a = b := by
  have h' := ext_all (y := a.s) h
  unfold ext at h'
  simp only [At.mk.injEq] at h'
  obtain ⟨e1, e2, e3, e4⟩ := h'
  rw [offP_s ha, h1, offP_s hb] at e4
  cases a; cases b
  simp_all
theorem formed_at {l : List Ar} (h : Fm l) {i : Nat} (hi : i < l.length) : Fo (nthA l i) := by
  have h1 := nthA_get hi
  rw [List.getElem?_eq_getElem hi] at h1
  injection h1 with h1
  rw [← h1]
  exact fo.1 (h _ (List.getElem_mem hi))
theorem nthA_elem {l : List Ar} {i : Nat} (hi : i < l.length) : nthA l i = l[i] := by
  have h1 := nthA_get hi
  rw [List.getElem?_eq_getElem hi] at h1
  injection h1 with h1
  exact h1.symm
theorem rt_of {l : List Ar} (h : rightL l = true) : Rt l := by
  have hb : ∀ i : Nat, i < l.length → badAt l i = false := fun i hi => right_at h hi
  have hf : ∀ i : Nat, i < l.length → Fo (nthA l i) := fun i hi => by
    have := hb i hi
    cases hc : formed (nthA l i) with
    | true => exact fo.1 hc
    | false => rw [bad_a hc] at this; cases this
  have hn : ∀ i : Nat, i + 1 < l.length → (nthA l i).e ≤ (nthA l (i + 1)).s ∧ goesA (nthA l i) (nthA l (i + 1)) = false := fun i hi => by
    have := hb (i + 1) hi
    unfold badAt at this
    rw [fo.2 (hf _ hi), show i + 1 - 1 = i from rfl, show decide (0 < i + 1) = true by simp] at this
    simp only [Bool.not_true, Bool.false_or, Bool.true_and, Bool.or_eq_false_iff, decide_eq_false_iff_not] at this
    exact ⟨by omega, this.2⟩
  have key : ∀ (d i : Nat), i + 1 + d < l.length → (nthA l i).e ≤ (nthA l (i + 1 + d)).s ∧ goesA (nthA l i) (nthA l (i + 1 + d)) = false := by
    intro d
    induction d with
    | zero => intro i hi; exact hn i hi
    | succ d ih =>
      intro i hi
      have h1 := (ih i (by omega)).1
      have h2 := (hn (i + 1 + d) (by omega)).1
      have h3 := (hf (i + 1 + d) (by omega)).lt
      have h4 : (nthA l i).e < (nthA l (i + 1 + (d + 1))).s := by
        rw [show i + 1 + (d + 1) = i + 1 + d + 1 by omega]
        omega
      refine ⟨by omega, ?_⟩
      cases hg : goesA (nthA l i) (nthA l (i + 1 + (d + 1))) with
      | false => rfl
      | true => have := (goes_ext.1 hg).2.2.1; omega
  refine ⟨fun a ha => ?_, ?_⟩
  · obtain ⟨i, hi, rfl⟩ := List.getElem_of_mem ha
    rw [← nthA_elem hi]
    exact fo.2 (hf i hi)
  · rw [List.pairwise_iff_getElem]
    intro i j hi hj hij
    have := key (j - i - 1) i (by omega)
    rw [show i + 1 + (j - i - 1) = j by omega, nthA_elem hi, nthA_elem hj] at this
    exact this
theorem of_rt {l : List Ar} (h : Rt l) : rightL l = true := by
  refine right_yes fun j hj => ?_
  have hf := fo.2 (formed_at h.1 hj)
  unfold badAt
  rw [hf]
  by_cases h0 : 0 < j
  · have := (List.pairwise_iff_getElem.1 h.2) (j - 1) j (by omega) hj (by omega)
    rw [← nthA_elem, ← nthA_elem] at this
    rw [this.2]
    have h2 : decide ((nthA l (j - 1)).e > (nthA l j).s) = false := by simp; omega
    rw [h2]
    simp
  · have : decide (0 < j) = false := by simp; omega
    rw [this]
    rfl
theorem rt_iff {l : List Ar} : rightL l = true ↔ Rt l := ⟨rt_of, of_rt⟩
/-! ### Right lists are told by their pages -/
theorem has_lo {l : List Ar} {b : Int} (h : ∀ a ∈ l, b ≤ a.s) {x : Int} {t : At} (hx : Has l x t) : b ≤ x := by
  obtain ⟨a, ha, h1, _⟩ := hx
  have := h a ha
  have := h1.1
  omega
theorem rt_ext : ∀ {l k : List Ar}, Rt l → Rt k → (∀ x t, x % 4096 = 0 → (Has l x t ↔ Has k x t)) → l = k
  | [], [], _, _, _ => rfl
  | [], b :: k, _, hk, h => by
    have fb := fo.1 (hk.1 b (List.mem_cons_self ..))
    exact (Has.nil ((h b.s (ext b b.s) fb.s0).2 ((has_cons ..).2 (.inl ⟨⟨Int.le_refl _, fb.lt⟩, rfl⟩)))).elim
  | a :: l, [], hl, _, h => by
    have fa := fo.1 (hl.1 a (List.mem_cons_self ..))
    exact (Has.nil ((h a.s (ext a a.s) fa.s0).1 ((has_cons ..).2 (.inl ⟨⟨Int.le_refl _, fa.lt⟩, rfl⟩)))).elim
  | a :: l, b :: k, hl, hk, h => by
    have fa := fo.1 (hl.1 a (List.mem_cons_self ..))
    have fb := fo.1 (hk.1 b (List.mem_cons_self ..))
    have pl := List.pairwise_cons.1 hl.2
    have pk := List.pairwise_cons.1 hk.2
    have key : ∀ (a : Ar) (l : List Ar) (b : Ar) (k : List Ar), Fo a → Fo b → (∀ c ∈ k, b.e ≤ c.s) → (∀ x t, x % 4096 = 0 → Has (a :: l) x t → Has (b :: k) x t) → b.s ≤ a.s := by
      intro a l b k fa fb pk h
      have h1 := h a.s (ext a a.s) fa.s0 ((has_cons ..).2 (.inl ⟨⟨Int.le_refl _, fa.lt⟩, rfl⟩))
      rcases (has_cons ..).1 h1 with h2 | h2
      · exact h2.1.1
      · have := has_lo (b := b.e) pk h2
        have := fb.lt
        omega
    have hs : a.s = b.s := by
      have h1 := key a l b k fa fb (fun c hc => (pk.1 c hc).1) fun x t hx => (h x t hx).1
      have h2 := key b k a l fb fa (fun c hc => (pl.1 c hc).1) fun x t hx => (h x t hx).2
      omega
    have hx : ext a a.s = ext b a.s := by
      have h1 := (h a.s (ext a a.s) fa.s0).1 ((has_cons ..).2 (.inl ⟨⟨Int.le_refl _, fa.lt⟩, rfl⟩))
      rcases (has_cons ..).1 h1 with h2 | h2
      · exact h2.2.symm
      · have := has_lo (b := b.e) (fun c hc => (pk.1 c hc).1) h2
        have := fb.lt
        omega
    have key2 : ∀ (a : Ar) (l : List Ar) (b : Ar) (k : List Ar), Fo a → Fo b → Fm l → (∀ c ∈ l, a.e ≤ c.s ∧ goesA a c = false) → a.s = b.s → ext a a.s = ext b a.s → (∀ x t, x % 4096 = 0 → Has (b :: k) x t → Has (a :: l) x t) → b.e ≤ a.e := by
      intro a l b k fa fb fl pl hs hx h
      rcases (by omega : b.e ≤ a.e ∨ a.e < b.e) with h0 | h0
      · exact h0
      · exfalso
        have h1 := h a.e (ext b a.e) fa.e0 ((has_cons ..).2 (.inl ⟨⟨by have := fa.lt; omega, h0⟩, rfl⟩))
        rcases (has_cons ..).1 h1 with h2 | h2
        · have := h2.1.2; omega
        · obtain ⟨c, hc, h3, h4⟩ := h2
          obtain ⟨h5, h6⟩ := pl c hc
          have h7 : c.s = a.e := by have := h3.1; omega
          have : goesA a c = true := goes_ext.2 ⟨fa, fo.1 (fl c hc), h7.symm, by rw [h7, h4]; exact ext_all hx⟩
          rw [h6] at this
          cases this
    have he : a.e = b.e := by
      have h1 := key2 a l b k fa fb (fun c hc => hl.1 c (List.mem_cons_of_mem _ hc)) pl.1 hs hx fun x t hx => (h x t hx).2
      have h2 := key2 b k a l fb fa (fun c hc => hk.1 c (List.mem_cons_of_mem _ hc)) pk.1 hs.symm (by rw [← hs]; exact hx.symm) fun x t hx => (h x t hx).1
      omega
    have hab : a = b := ar_ext fa fb hs he hx
    subst hab
    rw [rt_ext (l := l) (k := k) ⟨fun c hc => hl.1 c (List.mem_cons_of_mem _ hc), pl.2⟩ ⟨fun c hc => hk.1 c (List.mem_cons_of_mem _ hc), pk.2⟩ fun x t hx0 => ?_]
    have h1 := h x t hx0
    rw [has_cons, has_cons] at h1
    constructor
    · intro h2
      rcases h1.1 (.inr h2) with h3 | h3
      · have := has_lo (b := a.e) (fun c hc => (pl.1 c hc).1) h2
        have := h3.1.2
        omega
      · exact h3
    · intro h2
      rcases h1.2 (.inr h2) with h3 | h3
      · have := has_lo (b := a.e) (fun c hc => (pk.1 c hc).1) h2
        have := h3.1.2
        omega
      · exact h3
theorem has_fun : ∀ {l : List Ar}, Ok l → ∀ {x : Int} {t t' : At}, Has l x t → Has l x t' → t = t'
  | [], _, _, _, _, h, _ => (Has.nil h).elim
  | a :: l, hl, x, t, t', h, h' => by
    have pl := List.pairwise_cons.1 hl.2
    rcases (has_cons ..).1 h with h1 | h1
    · rcases (has_cons ..).1 h' with h2 | h2
      · exact h1.2.symm.trans h2.2
      · have := has_lo (b := a.e) pl.1 h2
        have := h1.1.2
        omega
    · rcases (has_cons ..).1 h' with h2 | h2
      · have := has_lo (b := a.e) pl.1 h1
        have := h2.1.2
        omega
      · exact has_fun ⟨fun c hc => hl.1 c (List.mem_cons_of_mem _ hc), pl.2⟩ h1 h2
theorem has_range {l : List Ar} (h : Fm l) {x : Int} {t : At} (hx : Has l x t) : 65536 ≤ x ∧ x < 2097152 := by
  obtain ⟨a, ha, h1, _⟩ := hx
  have f := fo.1 (h a ha)
  have := f.lo
  have := f.hi
  have := h1.1
  have := h1.2
  omega
/-! ### Joining -/
theorem join_ext {z a : Ar} (hg : goesA z a = true) : joinsA z a = true ∧ Fo (joinA z a) ∧ (joinA z a).s = z.s ∧ (joinA z a).e = a.e ∧ (∀ x, ext (joinA z a) x = ext z x) ∧ ∀ x, ext a x = ext z x := by
  obtain ⟨h1, h2, h3⟩ := joins_goes hg
  refine ⟨h1, by rw [h3]; exact fo.1 h2, by rw [h3], by rw [h3], fun x => by rw [h3]; rfl, fun x => ?_⟩
  obtain ⟨_, _, e, h4⟩ := goes_ext.1 hg
  rw [e] at h4
  exact ext_all h4.symm
theorem joined_fold : ∀ (l out : List Ar), Rt out → Ok l → (∀ z ∈ out, ∀ a ∈ l, z.e ≤ a.s) → Rt (l.foldl stepJ out) ∧ ∀ x t, Has (l.foldl stepJ out) x t ↔ Has out x t ∨ Has l x t
  | [], out, ho, _, _ => ⟨ho, fun x t => ⟨.inl, fun h => h.elim id fun h => (Has.nil h).elim⟩⟩
  | a :: l, out, ho, hl, hz => by
    have pl := List.pairwise_cons.1 hl.2
    have fa := fo.1 (hl.1 a (List.mem_cons_self ..))
    have hl' : Ok l := ⟨fun c hc => hl.1 c (List.mem_cons_of_mem _ hc), pl.2⟩
    have key : Rt (stepJ out a) ∧ (∀ z ∈ stepJ out a, ∀ b ∈ l, z.e ≤ b.s) ∧ ∀ x t, Has (stepJ out a) x t ↔ Has out x t ∨ (inA a x ∧ ext a x = t) := by
      unfold stepJ
      split
      · rename_i hn
        have : out = [] := List.getLast?_eq_none_iff.1 hn
        subst this
        refine ⟨⟨fun c hc => ?_, List.pairwise_singleton _ _⟩, fun z hz b hb => ?_, fun x t => ?_⟩
        · rw [List.mem_singleton.1 hc]; exact fo.2 fa
        · rw [List.mem_singleton.1 hz]; exact pl.1 b hb
        · rw [has_one]
          exact ⟨.inr, fun h => h.elim (fun h => (Has.nil h).elim) id⟩
      · rename_i z hs
        obtain ⟨d, hd⟩ : ∃ d, out = d ++ [z] := by
          have := List.getLast?_eq_some_iff.1 hs
          exact this
        subst hd
        have hdl : (d ++ [z]).dropLast = d := by simp
        have pz := List.pairwise_append.1 ho.2
        have fz := fo.1 (ho.1 z (List.mem_append.2 (.inr (List.mem_singleton.2 rfl))))
        have hza := hz z (List.mem_append.2 (.inr (List.mem_singleton.2 rfl))) a (List.mem_cons_self ..)
        split
        · rename_i hj
          rw [joins_eq] at hj
          obtain ⟨_, fj, js, je, jx, ja⟩ := join_ext hj
          have ze := (goes_ext.1 hj).2.2.1
          rw [hdl]
          refine ⟨⟨fun c hc => ?_, List.pairwise_append.2 ⟨pz.1, List.pairwise_singleton _ _, fun y hy c hc => ?_⟩⟩, fun y hy b hb => ?_, fun x t => ?_⟩
          · rcases List.mem_append.1 hc with h | h
            · exact ho.1 c (List.mem_append.2 (.inl h))
            · rw [List.mem_singleton.1 h]; exact fo.2 fj
          · rw [List.mem_singleton.1 hc]
            obtain ⟨h1, h2⟩ := pz.2.2 y hy z (List.mem_singleton.2 rfl)
            refine ⟨by omega, ?_⟩
            cases hg : goesA y (joinA z a) with
            | false => rfl
            | true =>
              obtain ⟨g1, _, g3, g4⟩ := goes_ext.1 hg
              have : goesA y z = true := goes_ext.2 ⟨g1, fz, by omega, by rw [g4, jx, js]⟩
              rw [h2] at this
              cases this
          · rcases List.mem_append.1 hy with h | h
            · exact hz y (List.mem_append.2 (.inl h)) b (List.mem_cons_of_mem _ hb)
            · rw [List.mem_singleton.1 h, je]; exact pl.1 b hb
          · rw [has_app, has_app, has_one, has_one, jx]
            unfold inA
            rw [js, je, ja]
            have := fz.lt
            have := fa.lt
            constructor
            · rintro (h | ⟨⟨h1, h2⟩, h3⟩)
              · exact .inl (.inl h)
              · rcases (by omega : x < z.e ∨ a.s ≤ x) with h4 | h4
                · exact .inl (.inr ⟨⟨h1, h4⟩, h3⟩)
                · exact .inr ⟨⟨h4, h2⟩, h3⟩
            · rintro ((h | ⟨⟨h1, h2⟩, h3⟩) | ⟨⟨h1, h2⟩, h3⟩)
              · exact .inl h
              · exact .inr ⟨⟨h1, by omega⟩, h3⟩
              · exact .inr ⟨⟨by omega, h2⟩, h3⟩
        · rename_i hj
          rw [joins_eq] at hj
          have hj' : goesA z a = false := by simpa using hj
          refine ⟨⟨fun c hc => ?_, List.pairwise_append.2 ⟨ho.2, List.pairwise_singleton _ _, fun y hy c hc => ?_⟩⟩, fun y hy b hb => ?_, fun x t => ?_⟩
          · rcases List.mem_append.1 hc with h | h
            · exact ho.1 c h
            · rw [List.mem_singleton.1 h]; exact fo.2 fa
          · rw [List.mem_singleton.1 hc]
            refine ⟨hz y hy a (List.mem_cons_self ..), ?_⟩
            rcases List.mem_append.1 hy with h | h
            · obtain ⟨h1, _⟩ := pz.2.2 y h z (List.mem_singleton.2 rfl)
              have := fz.lt
              cases hg : goesA y a with
              | false => rfl
              | true => have := (goes_ext.1 hg).2.2.1; omega
            · rw [List.mem_singleton.1 h]; exact hj'
          · rcases List.mem_append.1 hy with h | h
            · exact hz y h b (List.mem_cons_of_mem _ hb)
            · rw [List.mem_singleton.1 h]; exact pl.1 b hb
          · rw [has_app _ [a], has_one]
    obtain ⟨k1, k2, k3⟩ := key
    obtain ⟨r1, r2⟩ := joined_fold l (stepJ out a) k1 hl' k2
    refine ⟨r1, fun x t => ?_⟩
    rw [List.foldl_cons, r2, k3, has_cons, or_assoc]
theorem joined_rt {l : List Ar} (h : Ok l) : Rt (joinedL l) ∧ ∀ x t, Has (joinedL l) x t ↔ Has l x t := by
  obtain ⟨h1, h2⟩ := joined_fold l [] ⟨fun a h => (by cases h), List.Pairwise.nil⟩ h (fun z h => by cases h)
  exact ⟨h1, fun x t => (h2 x t).trans ⟨fun h => h.elim (fun h => (Has.nil h).elim) id, .inr⟩⟩
end Go.Proofs.Ytbcicjmepojlnaa.Eng
/- Pages of lists, and lists of pages, step by step, as the reference's loops have them; no condition but those typed. -/
namespace Go.Proofs.Ytbcicjmepojlnaa.Eng
open Go Go.RowKit
set_option autoImplicit false
set_option linter.unusedSimpArgs false
set_option linter.unusedVariables false
/-! ### Cells -/
theorem takeM_of_takeN {xs l : List C} {k n : Nat} (h : takeN xs k n = some l) : takeM xs k n = some l := by
  unfold takeN at h
  unfold takeM
  split at h
  · rename_i hc
    rw [if_pos hc.2]
    exact h
  · cases h
theorem page_take {s : List Pg} {i : Nat} (h : i < s.length) : takeM (encS s) (i * 5) 5 = some [.v (.bool (nthP s i).is), .v (.int .i64 (nthP s i).t.p), .v (.bool (nthP s i).t.sh), .v (.int .i64 (nthP s i).t.b), .v (.int .i64 (nthP s i).t.o)] :=
  takeM_of_takeN (enc_take encP_len (by decide) s i _ (nthP_get h))
theorem page_is {s : List Pg} {i : Nat} (h : i < s.length) : (encS s)[i * 5 + 0]? = some (.v (.bool (nthP s i).is)) := enc_get encP_len s i _ 0 (nthP_get h) (by decide)
theorem page_attr {s : List Pg} {i : Nat} (h : i < s.length) : takeM (encS s) (i * 5 + 1) 4 = some [.v (.int .i64 (nthP s i).t.p), .v (.bool (nthP s i).t.sh), .v (.int .i64 (nthP s i).t.b), .v (.int .i64 (nthP s i).t.o)] := by
  have hl := encS_len s
  have hg := fun j hj => enc_get encP_len s i _ j (nthP_get h) hj
  unfold takeM
  rw [if_pos (by rw [hl]; omega)]
  congr 1
  apply List.ext_getElem?
  intro j
  rw [getElem?_drop_take]
  split
  · rename_i hj
    have := hg (1 + j) (by omega)
    rw [show i * 5 + 1 + j = i * 5 + (1 + j) by omega]
    show (s.flatMap encP)[i * 5 + (1 + j)]? = _
    rw [this, Nat.add_comm 1 j]
    rfl
  · rename_i hj; exact (List.getElem?_eq_none (by show 4 ≤ j; omega)).symm
theorem whole_take {s : List Pg} (h : s.length = 512) : takeM (encS s) 0 2560 = some (encS s) := by
  have hl := encS_len s
  unfold takeM
  rw [if_pos (by omega), List.drop_zero, List.take_of_length_le (by omega)]
theorem putC_many (cs : List C) (off : Nat) (a b : C) (r : List C) : putCells cs off (a :: b :: r) = cs.take off ++ (a :: b :: r) ++ cs.drop (off + (a :: b :: r).length) := rfl
theorem putC_whole {cs xs : List C} (h : cs.length = xs.length) : putCells cs 0 xs = xs := by
  unfold putCells
  split
  · rename_i x
    match cs, h with
    | [c], _ => rfl
  · rw [List.take_zero, List.nil_append, List.drop_of_length_le (by omega), List.append_nil]
theorem page_put {s : List Pg} {i : Nat} (p : Pg) (h : i < s.length) : putCells (encS s) (i * 5) (encP p) = encS (s.set i p) := by
  rw [show encP p = .v (.bool p.is) :: .v (.int .i64 p.t.p) :: [.v (.bool p.t.sh), .v (.int .i64 p.t.b), .v (.int .i64 p.t.o)] from rfl, putC_many]
  show (encS s).take (i * 5) ++ encP p ++ (encS s).drop (i * 5 + 5) = _
  have e1 : s = s.take i ++ nthP s i :: s.drop (i + 1) := by
    have h2 := nthP_get h
    rw [List.getElem?_eq_getElem h] at h2
    injection h2 with h2
    rw [← h2, List.getElem_cons_drop, List.take_append_drop]
  have e2 : s.set i p = s.take i ++ p :: s.drop (i + 1) := by
    rw [List.set_eq_take_append_cons_drop, if_pos h]
  have e3 : encS s = encS (s.take i) ++ (encP (nthP s i) ++ encS (s.drop (i + 1))) := by
    conv => lhs; rw [e1]
    unfold encS
    rw [List.flatMap_append, List.flatMap_cons]
  have hl : (encS (s.take i)).length = i * 5 := by rw [encS_len, List.length_take]; omega
  rw [e2, e3]
  unfold encS
  rw [List.flatMap_append, List.flatMap_cons, List.take_append_of_le_length (by rw [← encS, hl]; exact Nat.le_refl _), List.take_of_length_le (by rw [← encS, hl]; exact Nat.le_refl _), ← encS]
  rw [List.append_assoc]
  congr 1
  congr 1
  rw [← hl, List.drop_length_add_append]
  exact List.drop_left (l₁ := encP (nthP s i))
theorem set_len {s : List Pg} {i : Nat} {p : Pg} : (s.set i p).length = s.length := List.length_set
theorem whole_put {s s' : List Pg} (h : s.length = 512) (h' : s'.length = 512) : takeM (putCells (encS s') 0 (encS s)) 0 2560 = some (encS s) := by
  rw [putC_whole (by rw [encS_len, encS_len, h, h']), whole_take h]
theorem nthA_mem {l : List Ar} {i : Nat} (h : i < l.length) : nthA l i ∈ l := by
  rw [nthA_elem h]
  exact List.getElem_mem h
theorem encS_len2 {s : List Pg} (h : s.length = 512) : (encS s).length = 2560 := by
  rw [encS_len, h]
/-! ### Of -/
def ofStep (a : Ar) (s : List Pg) (k : Nat) : List Pg := s.set (pG a k).toNat ⟨true, refAttr a (pG a k)⟩
def ofA (a : Ar) (s : List Pg) : Nat → List Pg
  | 0 => s
  | n + 1 => ofStep a (ofA a s n) n
def lenA (a : Ar) : Nat := (a.e / 4096 - a.s / 4096).toNat
def ofL (l : List Ar) : List Pg := l.foldl (fun s a => ofA a s (lenA a)) noS
theorem ofA_len (a : Ar) (s : List Pg) : ∀ n, (ofA a s n).length = s.length
  | 0 => rfl
  | n + 1 => by rw [ofA, ofStep, set_len, ofA_len a s n]
theorem ofF_len : ∀ (l : List Ar) (s : List Pg), (l.foldl (fun s a => ofA a s (lenA a)) s).length = s.length
  | [], s => rfl
  | a :: l, s => by rw [List.foldl_cons, ofF_len l, ofA_len]
theorem ofL_len (l : List Ar) : (ofL l).length = 512 := by
  unfold ofL
  rw [ofF_len, noS_len]
theorem ofL_next {l : List Ar} {i : Nat} (h : i < l.length) : ofL (l.take (i + 1)) = ofA (nthA l i) (ofL (l.take i)) (lenA (nthA l i)) := by
  unfold ofL
  rw [take_next h, List.foldl_append]
  rfl
theorem of_in {a : Ar} (h : formed a = true) {k : Nat} (hk : pG a k < w64 (Int.tdiv a.e 4096)) : k < lenA a ∧ 0 ≤ pG a k ∧ pG a k < 512 ∧ w64 (pG a k + 1) = pG a (k + 1) := by
  have f := fo.1 h
  have := f.lo; have := f.hi; have := f.s0; have := f.e0; have := f.lt
  rw [w_div (n := a.e) (by omega)] at hk
  unfold lenA
  have e : w64 (pG a k + 1) = pG a k + 1 := w64_id (by unfold pG at hk ⊢; unfold In64; omega)
  unfold pG at *
  omega
theorem of_out {a : Ar} (h : formed a = true) {k : Nat} (hk : ¬ pG a k < w64 (Int.tdiv a.e 4096)) (hl : k ≤ lenA a) : k = lenA a := by
  have f := fo.1 h
  have := f.lo; have := f.hi; have := f.s0; have := f.e0; have := f.lt
  rw [w_div (n := a.e) (by omega)] at hk
  unfold lenA at *
  unfold pG at *
  omega
theorem of_0 {a : Ar} (h : formed a = true) : w64 (Int.tdiv a.s 4096) = pG a 0 := by
  have f := fo.1 h
  have := f.lo; have := f.hi; have := f.lt
  rw [w_div (n := a.s) (by omega)]
  unfold pG
  omega
theorem of_fit {a : Ar} (h : formed a = true) {k : Nat} (hk : pG a k < w64 (Int.tdiv a.e 4096)) {s : List Pg} (hs : s.length = 512) : 0 + (pG a k).toNat * 5 + 5 ≤ (encS (ofA a s k)).length := by
  have := of_in h hk
  rw [encS_len, ofA_len, hs]
  omega
theorem of_put {a : Ar} (h : formed a = true) {k : Nat} (hk : pG a k < w64 (Int.tdiv a.e 4096)) {s : List Pg} (hs : s.length = 512) : putCells (encS (ofA a s k)) (0 + (pG a k).toNat * 5) [.v (.bool true), .v (.int .i64 (refAttr a (pG a k)).p), .v (.bool (refAttr a (pG a k)).sh), .v (.int .i64 (refAttr a (pG a k)).b), .v (.int .i64 (refAttr a (pG a k)).o)] = encS (ofA a s (k + 1)) := by
  have := of_in h hk
  rw [Nat.zero_add]
  exact page_put ⟨true, refAttr a (pG a k)⟩ (by rw [ofA_len, hs]; omega)
/-! ### List -/
def pageAr (n : Nat) (t : At) : Ar := ⟨4096 * n, 4096 * (n + 1), t.p, t.sh, t.b, t.o⟩
def goesOn (s : List Pg) (z : Ar) (n : Nat) : Bool := (z.e == 4096 * (n : Int)) && afterA (nthP s (n - 1)).t (nthP s n).t
def listStep (s : List Pg) (out : List Ar) (n : Nat) : List Ar :=
  if (nthP s n).is = true then
    match out.getLast? with
    | none => [pageAr n (nthP s n).t]
    | some z => if goesOn s z n = true then out.dropLast ++ [{ z with e := 4096 * (n + 1) }] else out ++ [pageAr n (nthP s n).t]
  else out
def listN (s : List Pg) : Nat → List Ar
  | 0 => []
  | n + 1 => listStep s (listN s n) (16 + n)
def listS (s : List Pg) : List Ar := listN s 496
theorem listStep_le (s : List Pg) (out : List Ar) (n : Nat) : (listStep s out n).length ≤ out.length + 1 := by
  unfold listStep
  split
  · split
    · simp
    · split
      · simp
      · simp
  · omega
theorem listN_le (s : List Pg) : ∀ n, (listN s n).length ≤ n
  | 0 => Nat.le_refl _
  | n + 1 => by
    have := listStep_le s (listN s n) (16 + n)
    have := listN_le s n
    rw [listN]
    omega
theorem listS_le (s : List Pg) : (listS s).length ≤ 496 := listN_le s 496
theorem step_not {s : List Pg} {out : List Ar} {n : Nat} (h : (nthP s n).is = false) : listStep s out n = out := by
  unfold listStep
  rw [h]
  rfl
theorem step_nil {s : List Pg} {n : Nat} (h : (nthP s n).is = true) : listStep s [] n = [pageAr n (nthP s n).t] := by
  unfold listStep
  rw [if_pos h]
  rfl
theorem step_yes {s : List Pg} {out : List Ar} {n : Nat} (h : (nthP s n).is = true) (h0 : 0 < out.length) (hg : goesOn s (nthA out (out.length - 1)) n = true) : listStep s out n = out.dropLast ++ [{ nthA out (out.length - 1) with e := 4096 * (n + 1) }] := by
  unfold listStep
  rw [if_pos h, last_at h0]
  simp only [hg, if_true]
theorem step_no {s : List Pg} {out : List Ar} {n : Nat} (h : (nthP s n).is = true) (h0 : 0 < out.length) (hg : goesOn s (nthA out (out.length - 1)) n = false) : listStep s out n = out ++ [pageAr n (nthP s n).t] := by
  unfold listStep
  rw [if_pos h, last_at h0]
  simp only [hg, Bool.false_eq_true, if_false]
theorem last_e {l : List Ar} (h0 : decide ((0 : Int) < (l.length : Int)) = true) (hl : l.length ≤ 1000000) : (encL l)[(IntKind.i64.wrap ((l.length : Int) - 1)).toNat * 6 + 1]? = some (.v (.int .i64 (nthA l (l.length - 1)).e)) := by
  have := last_ix h0 hl
  rw [this.1]
  exact la_e this.2
theorem set_last {l : List Ar} (h : 0 < l.length) (x : Ar) : l.set (l.length - 1) x = l.dropLast ++ [x] := by
  rw [List.set_eq_take_append_cons_drop, if_pos (by omega), List.dropLast_eq_take, List.drop_of_length_le (by omega)]
theorem last_set_e {l : List Ar} (h0 : decide ((0 : Int) < (l.length : Int)) = true) (hl : l.length ≤ 1000000) (e : Int) : putCells (encL l) ((IntKind.i64.wrap ((l.length : Int) - 1)).toNat * 6 + 1) [.v (.int .i64 e)] = encL (l.dropLast ++ [{ nthA l (l.length - 1) with e := e }]) := by
  have h := last_ix h0 hl
  have hp : 0 < l.length := by have := of_decide_eq_true h0; omega
  rw [h.1, Int.toNat_natCast, ← set_last hp]
  exact enc_put encA_len l (l.length - 1) (nthA l (l.length - 1)) { nthA l (l.length - 1) with e := e } 1 (.v (.int .i64 e)) (nthA_get h.2) (by decide) rfl
theorem page_is' {s : List Pg} (hs : s.length = 512) {m : Nat} (h : m < 512) : (encS s)[0 + ((m : Nat) : Int).toNat * 5]? = some (.v (.bool (nthP s m).is)) := by
  rw [Int.toNat_natCast, Nat.zero_add]
  exact page_is (by omega)
theorem page_attr' {s : List Pg} (hs : s.length = 512) {m : Nat} (h : m < 512) : takeM (encS s) (0 + ((m : Nat) : Int).toNat * 5 + 1) 4 = some [.v (.int .i64 (nthP s m).t.p), .v (.bool (nthP s m).t.sh), .v (.int .i64 (nthP s m).t.b), .v (.int .i64 (nthP s m).t.o)] := by
  rw [Int.toNat_natCast, Nat.zero_add]
  exact page_attr (by omega)
theorem pre_page {m : Nat} (h : 16 ≤ m) (h' : m < 512) : IntKind.i64.wrap (((m : Nat) : Int) - 1) = ((m - 1 : Nat) : Int) := by
  have : w64 ((m : Int) - 1) = (m : Int) - 1 := w64_id (by unfold In64; omega)
  unfold w64 at this
  rw [this]
  omega
theorem page_pre {s : List Pg} (hs : s.length = 512) {m : Nat} (h0 : 16 ≤ m) (h : m < 512) : takeM (encS s) (0 + (IntKind.i64.wrap (((m : Nat) : Int) - 1)).toNat * 5 + 1) 4 = some [.v (.int .i64 (nthP s (m - 1)).t.p), .v (.bool (nthP s (m - 1)).t.sh), .v (.int .i64 (nthP s (m - 1)).t.b), .v (.int .i64 (nthP s (m - 1)).t.o)] := by
  rw [pre_page h0 h]
  exact page_attr' hs (by omega)
theorem mul_page {m : Nat} (h : m ≤ 512) : IntKind.i64.wrap (4096 * ((m : Nat) : Int)) = 4096 * (m : Int) := w64_id (by unfold In64; omega)
theorem mul_next {m : Nat} (h : m < 512) : IntKind.i64.wrap (4096 * IntKind.i64.wrap (((m : Nat) : Int) + 1)) = 4096 * ((m : Int) + 1) := by
  have : w64 ((m : Int) + 1) = (m : Int) + 1 := w64_id (by unfold In64; omega)
  unfold w64 at this
  rw [this]
  exact w64_id (by unfold In64; omega)
def nextAr (s : List Pg) (m : Nat) : Ar := ⟨IntKind.i64.wrap (4096 * ((m : Nat) : Int)), IntKind.i64.wrap (4096 * IntKind.i64.wrap (((m : Nat) : Int) + 1)), (nthP s m).t.p, (nthP s m).t.sh, (nthP s m).t.b, (nthP s m).t.o⟩
theorem nextAr_eq (s : List Pg) {m : Nat} (h : m < 512) : nextAr s m = pageAr m (nthP s m).t := by
  unfold nextAr pageAr
  rw [mul_page (by omega), mul_next h]
section
variable {s : List Pg} {n : Nat}
theorem lst_not (hi : (nthP s (16 + n)).is = false) : listN s (n + 1) = listN s n := step_not hi
theorem lst_yes (hm : 16 + n < 512) (hi : (nthP s (16 + n)).is = true) (h0 : decide ((0 : Int) < ((listN s n).length : Int)) = true) (he : ((nthA (listN s n) ((listN s n).length - 1)).e == IntKind.i64.wrap (4096 * ((16 + n : Nat) : Int))) = true)
    (ha : afterA (nthP s (16 + n - 1)).t (nthP s (16 + n)).t = true) : listN s (n + 1) = (listN s n).dropLast ++ [{ nthA (listN s n) ((listN s n).length - 1) with e := IntKind.i64.wrap (4096 * IntKind.i64.wrap (((16 + n : Nat) : Int) + 1)) }] := by
  rw [mul_page (by omega)] at he
  rw [mul_next hm]
  refine step_yes hi (by have := of_decide_eq_true h0; omega) ?_
  unfold goesOn
  rw [he, ha]
  rfl
theorem lst_no1 (hm : 16 + n < 512) (hi : (nthP s (16 + n)).is = true) (h0 : decide ((0 : Int) < ((listN s n).length : Int)) = true) (ha : afterA (nthP s (16 + n - 1)).t (nthP s (16 + n)).t = false) : listN s (n + 1) = listN s n ++ [nextAr s (16 + n)] := by
  rw [nextAr_eq s hm]
  refine step_no hi (by have := of_decide_eq_true h0; omega) ?_
  unfold goesOn
  rw [ha, Bool.and_false]
theorem lst_no2 (hm : 16 + n < 512) (hi : (nthP s (16 + n)).is = true) (h0 : decide ((0 : Int) < ((listN s n).length : Int)) = true) (he : ((nthA (listN s n) ((listN s n).length - 1)).e == IntKind.i64.wrap (4096 * ((16 + n : Nat) : Int))) = false) : listN s (n + 1) = listN s n ++ [nextAr s (16 + n)] := by
  rw [nextAr_eq s hm]
  rw [mul_page (by omega)] at he
  refine step_no hi (by have := of_decide_eq_true h0; omega) ?_
  unfold goesOn
  rw [he, Bool.false_and]
theorem lst_no3 (hm : 16 + n < 512) (hi : (nthP s (16 + n)).is = true) (h0 : decide ((0 : Int) < ((listN s n).length : Int)) = false) : listN s (n + 1) = listN s n ++ [nextAr s (16 + n)] := by
  rw [nextAr_eq s hm]
  have hnil : listN s n = [] := List.eq_nil_of_length_eq_zero (by have := of_decide_eq_false h0; omega)
  show listStep s (listN s n) (16 + n) = _
  rw [hnil]
  exact step_nil hi
theorem lst_len1 {a : Ar} (hv : listN s (n + 1) = listN s n ++ [a]) : (listN s n).length + 1 = (listN s (n + 1)).length := by rw [hv, List.length_append]; rfl
theorem lst_enc1 (hv : listN s (n + 1) = listN s n ++ [nextAr s (16 + n)]) : encL (listN s n) ++ [.v (.int .i64 (IntKind.i64.wrap (4096 * ((16 + n : Nat) : Int)))), .v (.int .i64 (IntKind.i64.wrap (4096 * IntKind.i64.wrap (((16 + n : Nat) : Int) + 1)))), .v (.int .i64 (nthP s (16 + n)).t.p), .v (.bool (nthP s (16 + n)).t.sh), .v (.int .i64 (nthP s (16 + n)).t.b), .v (.int .i64 (nthP s (16 + n)).t.o)] = encL (listN s (n + 1)) := by
  rw [hv, encL_app, encL_one]
  rfl
theorem lst_len2 {a : Ar} (h0 : decide ((0 : Int) < ((listN s n).length : Int)) = true) (hv : listN s (n + 1) = (listN s n).dropLast ++ [a]) : (listN s n).length = (listN s (n + 1)).length := by
  have := of_decide_eq_true h0
  rw [hv, List.length_append, List.length_dropLast]
  show _ = _ - 1 + 1
  omega
theorem lst_fit (h0 : decide ((0 : Int) < ((listN s n).length : Int)) = true) (hl : (listN s n).length ≤ 1000000) : (IntKind.i64.wrap (((listN s n).length : Int) - 1)).toNat * 6 + 1 + 1 ≤ (encL (listN s n)).length := by
  have h := last_ix h0 hl
  rw [h.1, encL_len]
  omega
theorem page_ix {m : Nat} (h : m < 512) : (0 : Int) ≤ ((m : Nat) : Int) ∧ ((m : Nat) : Int) < ((512 : Nat) : Int) := by omega
theorem pre_ix' {m : Nat} (h : 16 ≤ m) (h' : m < 512) : 0 ≤ IntKind.i64.wrap (((m : Nat) : Int) - 1) ∧ IntKind.i64.wrap (((m : Nat) : Int) - 1) < ((512 : Nat) : Int) := by
  rw [pre_page h h']
  omega
theorem page_succ {m : Nat} (h : m < 512) : IntKind.i64.wrap (((m : Nat) : Int) + 1) = ((m + 1 : Nat) : Int) := nat_succ (by omega)
end
/-! ### Made -/
def overN (s t : List Pg) : Nat → List Pg
  | 0 => s
  | n + 1 => if (nthP t n).is = true then (overN s t n).set n (nthP t n) else overN s t n
def overS (s t : List Pg) : List Pg := overN s t 512
def madeStep (s : List Pg) (a : Ar) : List Pg := if formed a = true then overS s (ofL [a]) else s
def madeT (l : List Ar) : List Pg := l.foldl madeStep noS
def madeL (l : List Ar) : List Ar := listS (madeT (l.take 40))
theorem overN_len (s t : List Pg) : ∀ n, (overN s t n).length = s.length
  | 0 => rfl
  | n + 1 => by
    rw [overN]
    split
    · rw [set_len, overN_len s t n]
    · exact overN_len s t n
theorem madeStep_len (s : List Pg) (a : Ar) : (madeStep s a).length = s.length := by
  unfold madeStep
  split
  · exact overN_len _ _ _
  · rfl
theorem madeF_len : ∀ (l : List Ar) (s : List Pg), (l.foldl madeStep s).length = s.length
  | [], s => rfl
  | a :: l, s => by rw [List.foldl_cons, madeF_len l, madeStep_len]
theorem madeT_len (l : List Ar) : (madeT l).length = 512 := by
  unfold madeT
  rw [madeF_len, noS_len]
theorem made_next {l : List Ar} {i : Nat} (h : i < l.length) : madeT (l.take (i + 1)) = madeStep (madeT (l.take i)) (nthA l i) := by
  unfold madeT
  rw [take_next h, List.foldl_append]
  rfl
theorem madeL_le (l : List Ar) : (madeL l).length ≤ 496 := listS_le _
theorem made_yes {s : List Pg} {a : Ar} (h : formed a = true) : madeStep s a = overS s (ofL [a]) := if_pos h
theorem made_no {s : List Pg} {a : Ar} (h : formed a = false) : madeStep s a = s := if_neg (by rw [h]; simp)
theorem over_yes {s t : List Pg} {n : Nat} (h : (nthP t n).is = true) : overN s t (n + 1) = (overN s t n).set n (nthP t n) := if_pos h
theorem over_no {s t : List Pg} {n : Nat} (h : (nthP t n).is = false) : overN s t (n + 1) = overN s t n := if_neg (by rw [h]; simp)
theorem slice_one {l : List Ar} {i : Nat} (h : i < l.length) (hi : i ≤ 1000000) : ((encL l).drop (((i : Nat) : Int).toNat * 6)).take (((IntKind.i64.wrap (((i : Nat) : Int) + 1)).toNat - ((i : Nat) : Int).toNat) * 6) = encL [nthA l i] := by
  have e : IntKind.i64.wrap (((i : Nat) : Int) + 1) = ((i + 1 : Nat) : Int) := by
    have : w64 ((i : Int) + 1) = (i : Int) + 1 := w64_id (by unfold In64; omega)
    unfold w64 at this
    rw [this]
    rfl
  rw [e, Int.toNat_natCast, Int.toNat_natCast, Nat.add_sub_cancel_left]
  have := area_take h
  unfold takeN at this
  split at this
  · exact Option.some.inj this
  · cases this
theorem slice_n {i : Nat} (hi : i ≤ 1000000) : (IntKind.i64.wrap (((i : Nat) : Int) + 1)).toNat - ((i : Nat) : Int).toNat = 1 := by
  have : w64 ((i : Int) + 1) = (i : Int) + 1 := w64_id (by unfold In64; omega)
  unfold w64 at this
  rw [this]
  omega
theorem slice_b {l : List Ar} {i : Nat} (h : i < l.length) (hi : i ≤ 1000000) : 0 ≤ ((i : Nat) : Int) ∧ ((i : Nat) : Int) ≤ IntKind.i64.wrap (((i : Nat) : Int) + 1) ∧ IntKind.i64.wrap (((i : Nat) : Int) + 1) ≤ (l.length : Int) := by
  have : w64 ((i : Int) + 1) = (i : Int) + 1 := w64_id (by unfold In64; omega)
  unfold w64 at this
  rw [this]
  omega
theorem zero_put {s : List Pg} (h : s.length = 512) : putCells (List.replicate 512 [C.v (.bool false), .v (.int .i64 0), .v (.bool false), .v (.int .i64 0), .v (.int .i64 0)]).flatten 0 (encS s) = encS s := by
  rw [encS_noS]
  exact putC_whole (by rw [encS_len, encS_len, h, noS_len])
theorem page_take' {s : List Pg} (hs : s.length = 512) {m : Nat} (h : m < 512) : takeM (encS s) (0 + ((m : Nat) : Int).toNat * 5) 5 = some [.v (.bool (nthP s m).is), .v (.int .i64 (nthP s m).t.p), .v (.bool (nthP s m).t.sh), .v (.int .i64 (nthP s m).t.b), .v (.int .i64 (nthP s m).t.o)] := by
  rw [Int.toNat_natCast, Nat.zero_add]
  exact page_take (by omega)
theorem over_put {s t : List Pg} (hs : s.length = 512) {m : Nat} (h : m < 512) (hi : (nthP t m).is = true) : putCells (encS (overN s t m)) (0 + ((m : Nat) : Int).toNat * 5) [.v (.bool (nthP t m).is), .v (.int .i64 (nthP t m).t.p), .v (.bool (nthP t m).t.sh), .v (.int .i64 (nthP t m).t.b), .v (.int .i64 (nthP t m).t.o)] = encS (overN s t (m + 1)) := by
  rw [Int.toNat_natCast, Nat.zero_add, over_yes hi]
  exact page_put (nthP t m) (by rw [overN_len, hs]; exact h)
theorem over_fit {s t : List Pg} (hs : s.length = 512) {m : Nat} (h : m < 512) : 0 + ((m : Nat) : Int).toNat * 5 + 5 ≤ (encS (overN s t m)).length := by
  rw [encS_len, overN_len, hs]
  omega
theorem fm_one {a : Ar} (h : formed a = true) : Fm [a] := fun b hb => by rw [List.mem_singleton.1 hb]; exact h
def someL (l : List Ar) : List Ar := (madeL l).take 24
theorem some_len (l : List Ar) : (if (24 : Int) < ((madeL l).length : Int) then (24 : Int) else ((madeL l).length : Int)).toNat = (someL l).length := by
  unfold someL
  rw [List.length_take]
  split <;> omega
theorem some_b (l : List Ar) : (0 : Int) ≤ 0 ∧ ((0 : Int) ≤ if (24 : Int) < ((madeL l).length : Int) then (24 : Int) else ((madeL l).length : Int)) ∧ (if (24 : Int) < ((madeL l).length : Int) then (24 : Int) else ((madeL l).length : Int)) ≤ ((madeL l).length : Int) := by
  split <;> omega
theorem encL_take (l : List Ar) (n : Nat) : (encL l).take (n * 6) = encL (l.take n) := by
  by_cases h : n ≤ l.length
  · have e : encL l = encL (l.take n) ++ encL (l.drop n) := by rw [← encL_app, List.take_append_drop]
    have hl : (encL (l.take n)).length = n * 6 := by rw [encL_len, List.length_take]; omega
    rw [e, ← hl, List.take_left']
    rfl
  · rw [List.take_of_length_le (by omega : l.length ≤ n), List.take_of_length_le (by rw [encL_len]; omega)]
theorem some_enc (l : List Ar) : (encL (madeL l)).take ((if (24 : Int) < ((madeL l).length : Int) then (24 : Int) else ((madeL l).length : Int)).toNat * 6) = encL (someL l) := by
  rw [some_len, encL_take]
  unfold someL
  rw [List.length_take]
  congr 1
  by_cases h : 24 ≤ (madeL l).length
  · rw [Nat.min_eq_left h]
  · rw [Nat.min_eq_right (by omega), List.take_of_length_le (Nat.le_refl _), List.take_of_length_le (by omega)]
theorem someL_le (l : List Ar) : (someL l).length ≤ 24 := by
  unfold someL
  rw [List.length_take]
  omega
end Go.Proofs.Ytbcicjmepojlnaa.Eng
/- Contracts of functions (printed by genx.py of this work): what each hands back; condition: as its 'hside' says. -/
namespace Go.Proofs.Ytbcicjmepojlnaa.Eng
open Go Go.RowKit
set_option linter.unusedVariables false
set_option linter.unusedSimpArgs false
theorem b_of : Bodied Try.prog 48 := bodied Try.func48 rfl (by decide)
def F_of : FunX := fun κ avs => match avs with
  | [.lst l xl] => some (κ _ (Fm l ∧ l.length ≤ 300000), (.val (.agg (κ _ (encS (ofL l))))))
  | _ => none
set_option maxRecDepth 100000 in
set_option maxHeartbeats 4000000 in
theorem k_of (l : List Ar) (Al : Option Addr) (cl : Nat) (hside : Fm l ∧ l.length ≤ 300000) (w : World) (hl : (Ent.rd Al 6 l.length (encL l)).holds w) :
    Calls Try.prog 48 #[.slice Al l.length cl] w fun e w' => ∃ v H', e = .returned v.den ∧ IsX (.val (.agg (encS (ofL l)))) v H' ∧ HSat w (fun _ => False) H' w' := by
  obtain ⟨κ, hκ⟩ : ∃ κ : Kp, κ = kid := ⟨_, rfl⟩
  have hH : HSat w (fun _ => False) (heapOf [(nilId, .rd none 1 0 []), (200000, .rd Al 6 (κ _ l.length) (κ _ (encL l)))]) w := by
    subst hκ
    refine HSat.reads fun p hp => ?_
    simp only [List.mem_cons, List.not_mem_nil, or_false] at hp
    rcases hp with rfl | rfl
    · exact ⟨_, _, _, _, rfl, nil_holds w⟩
    · exact ⟨_, _, _, _, rfl, hl⟩
  refine (callsP (n := 44) FTok [e_refAttr hκ] mixed [] Try.func48 rfl (by kernel_rfl) #[.slice Al l.length cl] [(0, .c (.sl 200000 Al (κ _ l.length) cl))] _ w rfl [.cell 2 37] rfl (by simp) (by subst hκ; simp [SV.den, C.den, kid]) hH (fun v H' => IsX (.val (.agg (κ _ (encS (ofL l))))) v H') hκ ?_).mono ?_
  rotate_left
  · subst hκ; intro e w' h; exact h
  intro P' hP'
  cbv
  repeat' (first | refine And.intro ?_ ?_ | (intro _; cbv) | (refine tst_mk (fun h => ?_) (fun h => ?_) <;> cbv) | (refine LookX.nil ?_; cbv) | (refine LookX.auto hκ ?_; cbv))
  rename_i b2 b3
  refine loopP hP' FTok [e_refAttr hκ] mixed [0, 2, 3] (σ := Nat) (fun i => [(4, .c (.v (.int .i64 (κ _ ((i : Nat) : Int)))))]) (fun i => [(200000, .rd Al 6 (κ _ l.length) (κ _ (encL l))), (2, .blk b2 37 (κ _ (encS noS))), (3, .blk b3 37 (κ _ (encS (ofL (l.take i)))))]) (fun i => l.length - i) 0 [200000, 2, 3] ?_ (by decide) ?_ hκ ?_
  · cbv
    all_goals (subst hκ; delta kid; repeat' (first | exact rfl | exact trivial | refine And.intro ?_ ?_))
  · cbv
    all_goals (subst hκ; delta kid; repeat' (first | exact rfl | exact trivial | refine And.intro ?_ ?_ | exact congrArg (List.map C.den) encS_noS))
  intro i
  cbv
  refine tst_mk (fun h => ?_) (fun h => ?_)
  · have hx : i < l.length := by subst hκ; delta kid at h; have h2 : (i : Int) < (l.length : Int) := of_decide_eq_true h; omega
    have hf := hside.1 _ (nthA_mem hx)
    cbv
    repeat' (first | refine And.intro ?_ ?_ | (intro _; cbv) | (refine tst_mk (fun h => ?_) (fun h => ?_) <;> cbv) | (refine LookX.nil ?_; cbv) | (refine LookX.auto hκ ?_; cbv) | (refine LookN.mk' (x := [.v (.int .i64 (κ _ (nthA l i).s)), .v (.int .i64 (κ _ (nthA l i).e)), .v (.int .i64 (κ _ (nthA l i).p)), .v (.bool (κ _ (nthA l i).sh)), .v (.int .i64 (κ _ (nthA l i).b)), .v (.int .i64 (κ _ (nthA l i).o))]) (by subst hκ; delta kid at *; exact la_take hx) ?_; cbv) | (refine LookR.mk' (x := .v (.int .i64 (κ _ (nthA l i).s))) (by subst hκ; delta kid at *; exact la_s hx) ?_; cbv) | (refine LookR.mk' (x := .v (.int .i64 (κ _ (nthA l i).e))) (by subst hκ; delta kid at *; exact la_e hx) ?_; cbv))
    all_goals (try (show Side _; refine ⟨?_⟩; subst hκ; delta kid at *; first | exact rfl | exact trivial | exact ⟨rfl, rfl, .inl rfl⟩ | exact la_ix hx | ((try dsimp only at *); (try simp only [setTo_len, noS_len, List.length_append, List.length_cons, List.length_nil, List.length_map, and_self, true_or, or_true, eq_self, true_and, and_true, Nat.zero_add, Nat.add_zero]); (first | done | omega); done)))
    refine loopP hP' FTok [e_refAttr hκ] mixed [0, 2, 3, 4] (σ := {k : Nat // k ≤ lenA (nthA l i)}) (fun q => [(5, .c (.v (.int .i64 (κ _ (pG (nthA l i) q.1)))))]) (fun q => [(200000, .rd Al 6 (κ _ l.length) (κ _ (encL l))), (2, .blk b2 37 (κ _ (encS noS))), (3, .blk b3 37 (κ _ (encS (ofA (nthA l i) (ofL (l.take i)) q.1))))]) (fun q => lenA (nthA l i) - q.1) ⟨0, Nat.zero_le _⟩ [200000, 2, 3] ?_ (by decide) ?_ hκ ?_
    · cbv
      all_goals (subst hκ; delta kid; repeat' (first | exact rfl | exact trivial | refine And.intro ?_ ?_ | exact congrArg (Value.int .i64) (of_0 hf)))
    · cbv
      all_goals (subst hκ; delta kid; repeat' (first | exact rfl | exact trivial | refine And.intro ?_ ?_ | exact congrArg (Value.int .i64) (of_0 hf)))
    rintro ⟨k, hk⟩
    cbv
    repeat' (first | refine And.intro ?_ ?_ | (intro _; cbv) | (refine tst_mk (fun h => ?_) (fun h => ?_) <;> cbv) | (refine LookX.nil ?_; cbv) | (refine LookX.auto hκ ?_; cbv) | (refine LookN.mk' (x := [.v (.int .i64 (κ _ (nthA l i).s)), .v (.int .i64 (κ _ (nthA l i).e)), .v (.int .i64 (κ _ (nthA l i).p)), .v (.bool (κ _ (nthA l i).sh)), .v (.int .i64 (κ _ (nthA l i).b)), .v (.int .i64 (κ _ (nthA l i).o))]) (by subst hκ; delta kid at *; exact la_take hx) ?_; cbv) | (refine LookR.mk' (x := .v (.int .i64 (κ _ (nthA l i).s))) (by subst hκ; delta kid at *; exact la_s hx) ?_; cbv) | (refine LookR.mk' (x := .v (.int .i64 (κ _ (nthA l i).e))) (by subst hκ; delta kid at *; exact la_e hx) ?_; cbv))
    all_goals (try (show Side _; refine ⟨?_⟩; subst hκ; delta kid at *; first | exact rfl | exact trivial | exact ⟨rfl, rfl, .inl rfl⟩ | exact la_ix hx | ((try dsimp only at *); (try simp only [setTo_len, noS_len, List.length_append, List.length_cons, List.length_nil, List.length_map, and_self, true_or, or_true, eq_self, true_and, and_true, Nat.zero_add, Nat.add_zero]); (first | done | omega); done)))
    all_goals (clear hH; subst hκ; delta kid at *; (try dsimp only at *))
    all_goals (try simp only [nthA_eta] at *)
    · have q := of_in hf (of_decide_eq_true h); exact ⟨⟨q.2.1, q.2.2.1⟩⟩
    · exact ⟨of_fit hf (of_decide_eq_true h) (ofL_len _)⟩
    · have q := of_in hf (of_decide_eq_true h)
      refine ⟨⟨⟨k + 1, q.1⟩, [200000, 2, 3], (by show lenA (nthA l i) - (k + 1) < lenA (nthA l i) - k; omega), by decide, ?_, ?_⟩⟩
      all_goals repeat' (first | exact rfl | exact trivial | refine And.intro ?_ ?_ | exact congrArg (Value.int .i64) q.2.2.2 | exact congrArg (List.map C.den) (of_put hf (of_decide_eq_true h) (ofL_len _)))
    · have q := of_out hf (of_decide_eq_false h) hk
      subst q
      refine ⟨⟨i + 1, [200000, 2, 3], (by show l.length - (i + 1) < l.length - i; omega), by decide, ?_, ?_⟩⟩
      all_goals repeat' (first | exact rfl | exact trivial | refine And.intro ?_ ?_ | exact congrArg (List.map C.den) (congrArg encS (ofL_next hx).symm) | exact congrArg (Value.int .i64) (nat_succ (by omega)))
  · have hx : ¬ i < l.length := by subst hκ; delta kid at h; have h2 : ¬ (i : Int) < (l.length : Int) := of_decide_eq_false h; omega
    cbv
    repeat' (first | refine And.intro ?_ ?_ | (intro _; cbv) | (refine tst_mk (fun h => ?_) (fun h => ?_) <;> cbv) | (refine LookX.nil ?_; cbv) | (refine LookX.auto hκ ?_; cbv) | (refine LookN.mk' (x := κ _ (encS (ofL (l.take i)))) (by subst hκ; delta kid at *; exact whole_take (ofL_len _)) ?_; cbv) | (refine LookN.mk' (x := κ _ (encS (ofL (l.take i)))) (by subst hκ; delta kid at *; exact whole_put (ofL_len _) noS_len) ?_; cbv))
    all_goals (try (show Side _; refine ⟨?_⟩; subst hκ; delta kid at *; first | exact rfl | exact trivial | exact ⟨rfl, rfl, .inl rfl⟩ | exact la_ix hx | ((try dsimp only at *); (try simp only [setTo_len, noS_len, List.length_append, List.length_cons, List.length_nil, List.length_map, and_self, true_or, or_true, eq_self, true_and, and_true, Nat.zero_add, Nat.add_zero]); (first | done | omega); done)))
    all_goals (clear hH; subst hκ; delta kid at *; (try dsimp only at *))
    · (have ho := encS_ok (ofL (l.take i)); generalize encS (ofL (l.take i)) = xs at ho ⊢; cases xs <;> exact ho)
    · (have ho := encS_len2 (s := ofL (l.take i)) (ofL_len _); generalize encS (ofL (l.take i)) = xs at ho ⊢; cases xs <;> exact ho.symm)
    · exact ⟨by rw [encS_len, encS_len, ofL_len, noS_len]; omega⟩
    · rw [take_all hx]
      exact IsX.val_ rfl
def e_of {κ : Kp} (hκ : κ = kid) : ESpec Try.prog := fnES [.list] b_of F_of hκ fun avs p r hF hp => by
  unfold F_of at hF
  split at hF
  case h_2 => cases hF
  rename_i l xl
  simp only [kid, Option.some.injEq, Prod.mk.injEq] at hF
  obtain ⟨rfl, rfl⟩ := hF
  refine ⟨trivial, fun vs w hR => ?_⟩
  obtain ⟨il, Al, cl, vs0, rfl, rfl, hl, hR⟩ := hR
  have hR' : vs0 = [] := hR
  subst hR'
  exact k_of l Al cl hp w hl
end Go.Proofs.Ytbcicjmepojlnaa.Eng
/- Contracts of functions (printed by genx.py of this work): what each hands back; condition: as its 'hside' says. -/
namespace Go.Proofs.Ytbcicjmepojlnaa.Eng
open Go Go.RowKit
set_option linter.unusedVariables false
set_option linter.unusedSimpArgs false
theorem b_rlist : Bodied Try.prog 97 := bodied Try.func97 rfl (by decide)
def F_rlist : FunX := fun κ avs => match avs with
  | [.spc s] => some (κ _ (True), (.row 53 6 ((κ _ ((listS s).length))) ((κ _ (encL (listS s)))) (fun x => .c x)))
  | _ => none
set_option maxRecDepth 100000 in
set_option maxHeartbeats 4000000 in
theorem k_rlist (s : List Pg) (hside : True) (ns : s.length = 512) (w : World) :
    Calls Try.prog 97 #[(SV.agg (encS s)).den] w fun e w' => ∃ v H', e = .returned v.den ∧ IsX (.row 53 6 (((listS s).length)) ((encL (listS s))) (fun x => .c x)) v H' ∧ HSat w (fun _ => False) H' w' := by
  obtain ⟨κ, hκ⟩ : ∃ κ : Kp, κ = kid := ⟨_, rfl⟩
  have hH : HSat w (fun _ => False) (heapOf [(nilId, .rd none 1 0 [])]) w := by
    subst hκ
    refine HSat.reads fun p hp => ?_
    simp only [List.mem_cons, List.not_mem_nil, or_false] at hp
    rcases hp with rfl
    · exact ⟨_, _, _, _, rfl, nil_holds w⟩
  refine (callsP (n := 73) FTok [e_after hκ] mixed [(7, [[], [], [], [], [3], [3], [], [], [], [3, 4, 5, 6, 7, 8], [3, 4, 5, 6, 7, 8], [], [], [], [], [], [], [], [], [14, 15, 16, 17, 18], [14, 15, 16, 17, 18], [14, 15, 16, 17, 18], [14, 15, 16, 17, 18], [], []])] Try.func97 rfl (by kernel_rfl) #[(SV.agg (encS s)).den] [(0, .agg (κ _ (encS s)))] _ w rfl [.tmp 2] rfl (by simp) (by subst hκ; simp [SV.den, C.den, kid]) hH (fun v H' => IsX (.row 53 6 ((κ _ ((listS s).length))) ((κ _ (encL (listS s)))) (fun x => .c x)) v H') hκ ?_).mono ?_
  rotate_left
  · subst hκ; intro e w' h; exact h
  intro P' hP'
  cbv
  repeat' (first | refine And.intro ?_ ?_ | (intro _; cbv) | (refine tst_mk (fun h => ?_) (fun h => ?_) <;> cbv) | (refine LookX.nil ?_; cbv) | (refine LookX.auto hκ ?_; cbv))
  all_goals (try (show _ = true; subst hκ; delta kid; (have ho := encS_ok (s); generalize encS (s) = xs at ho ⊢; cases xs <;> exact ho)))
  rename_i b1
  refine loopP hP' FTok [e_after hκ] mixed [1] (σ := {q : Nat × Option Addr × Nat // q.1 ≤ 496}) (fun q => [(3, .c (.sl 300000 q.1.2.1 (κ _ (listN s q.1.1).length) q.1.2.2)), (4, .c (.v (.int .i64 (κ _ ((16 + q.1.1 : Nat) : Int)))))]) (fun q => [(1, .blk b1 37 (κ _ (encS s))), (300000, .row q.1.2.1 q.1.2.2 53 6 (κ _ (listN s q.1.1).length) (κ _ (encL (listN s q.1.1))))]) (fun q => 496 - q.1.1) ⟨(0, none, 0), Nat.zero_le _⟩ [1, 999999] ?_ (by decide) ?_ hκ ?_
  · cbv
    all_goals (subst hκ; delta kid; repeat' (first | exact rfl | exact trivial | refine And.intro ?_ ?_))
  · cbv
    all_goals (subst hκ; delta kid; repeat' (first | exact rfl | exact trivial | refine And.intro ?_ ?_))
  rintro ⟨⟨n, A2, c2⟩, hn⟩
  cbv
  refine tst_mk (fun h => ?_) (fun h => ?_)
  · have hm : 16 + n < 512 := by subst hκ; delta kid at h; have h2 : ((16 + n : Nat) : Int) < 512 := of_decide_eq_true h; omega
    have hl2 := listN_le s n
    have hl3 : (listN s n).length ≤ 1000000 := by have hn2 : n ≤ 496 := hn; omega
    have hen := encL_len (listN s n)
    cbv
    repeat' (first | refine And.intro ?_ ?_ | (intro _; cbv) | (refine tst_mk (fun h => ?_) (fun h => ?_) <;> cbv) | (refine LookX.nil ?_; cbv) | (refine LookX.auto hκ ?_; cbv) | (refine LookR.mk' (x := .v (.bool (κ _ (nthP s (16 + n)).is))) (by subst hκ; delta kid at *; exact page_is' ns hm) ?_; cbv) | (refine LookR.mk' (x := .v (.int .i64 (κ _ (nthA (listN s n) ((listN s n).length - 1)).e))) (by subst hκ; delta kid at *; exact last_e (by assumption) hl3) ?_; cbv) | (refine LookN.mk' (x := [.v (.int .i64 (κ _ (nthP s (16 + n - 1)).t.p)), .v (.bool (κ _ (nthP s (16 + n - 1)).t.sh)), .v (.int .i64 (κ _ (nthP s (16 + n - 1)).t.b)), .v (.int .i64 (κ _ (nthP s (16 + n - 1)).t.o))]) (by subst hκ; delta kid at *; exact page_pre ns (by omega) hm) ?_; cbv) | (refine LookN.mk' (x := [.v (.int .i64 (κ _ (nthP s (16 + n)).t.p)), .v (.bool (κ _ (nthP s (16 + n)).t.sh)), .v (.int .i64 (κ _ (nthP s (16 + n)).t.b)), .v (.int .i64 (κ _ (nthP s (16 + n)).t.o))]) (by subst hκ; delta kid at *; exact page_attr' ns hm) ?_; cbv))
    all_goals (try (show Side _; refine ⟨?_⟩; subst hκ; delta kid at *; first | exact rfl | exact trivial | exact ⟨rfl, rfl, .inl rfl⟩ | ((try dsimp only at *); (try simp only [setTo_len, noS_len, List.length_append, List.length_cons, List.length_nil, List.length_map, and_self, true_or, or_true, eq_self, true_and, and_true, Nat.zero_add, Nat.add_zero]); (first | done | omega); done)))
    all_goals (clear hH; subst hκ; delta kid at *; (try dsimp only at *))
    all_goals (try (exact ⟨page_ix hm⟩))
    all_goals (try (exact ⟨last_in (by assumption) hl3⟩))
    all_goals (try (exact ⟨pre_ix' (by omega) hm⟩))
    all_goals (try (exact ⟨Nat.zero_lt_one, lst_fit (by assumption) hl3⟩))
    all_goals (try (refine ⟨?_⟩; simp only [maxLen]; omega))
    all_goals (try (exact ⟨⟨rfl, rfl, .inl rfl, rfl⟩⟩))
    all_goals (try (exact ⟨⟨rfl, rfl, rfl, rfl, rfl⟩⟩))
    · rename_i h1 h2 h3 h4
      have hv := lst_yes hm h2 h3 h4 h
      refine ⟨⟨⟨(n + 1, A2, c2), (by show n + 1 ≤ 496; omega)⟩, [1, 300000], (by show 496 - (n + 1) < 496 - n; omega), by decide, ?_, ?_⟩⟩
      all_goals repeat' (first | exact rfl | exact trivial | refine And.intro ?_ ?_ | exact lst_len2 h3 hv | exact congrArg (fun n => Value.slice A2 n c2) (lst_len2 h3 hv) | exact (last_set_e h3 hl3 _).trans (congrArg encL hv.symm) | exact congrArg (Value.int .i64) (page_succ hm))
    · rename_i A3 c3 h1 h2 h3 h4
      have hv := lst_no1 hm h2 h3 h
      refine ⟨⟨⟨(n + 1, A3, c3), (by show n + 1 ≤ 496; omega)⟩, [1, 71], (by show 496 - (n + 1) < 496 - n; omega), by decide, ?_, ?_⟩⟩
      all_goals repeat' (first | exact rfl | exact trivial | refine And.intro ?_ ?_ | exact lst_len1 hv | exact congrArg (fun n => Value.slice A3 n c3) (lst_len1 hv) | exact lst_enc1 hv | exact congrArg (Value.int .i64) (page_succ hm))
    · rename_i A3 c3 h1 h2 h3
      have hv := lst_no2 hm h2 h3 h
      refine ⟨⟨⟨(n + 1, A3, c3), (by show n + 1 ≤ 496; omega)⟩, [1, 71], (by show 496 - (n + 1) < 496 - n; omega), by decide, ?_, ?_⟩⟩
      all_goals repeat' (first | exact rfl | exact trivial | refine And.intro ?_ ?_ | exact lst_len1 hv | exact congrArg (fun n => Value.slice A3 n c3) (lst_len1 hv) | exact lst_enc1 hv | exact congrArg (Value.int .i64) (page_succ hm))
    · rename_i A3 c3 h1 h2
      have hv := lst_no3 hm h2 h
      refine ⟨⟨⟨(n + 1, A3, c3), (by show n + 1 ≤ 496; omega)⟩, [1, 71], (by show 496 - (n + 1) < 496 - n; omega), by decide, ?_, ?_⟩⟩
      all_goals repeat' (first | exact rfl | exact trivial | refine And.intro ?_ ?_ | exact lst_len1 hv | exact congrArg (fun n => Value.slice A3 n c3) (lst_len1 hv) | exact lst_enc1 hv | exact congrArg (Value.int .i64) (page_succ hm))
    · have hv := lst_not h
      refine ⟨⟨⟨(n + 1, A2, c2), (by show n + 1 ≤ 496; omega)⟩, [1, 300000], (by show 496 - (n + 1) < 496 - n; omega), by decide, ?_, ?_⟩⟩
      all_goals repeat' (first | exact rfl | exact trivial | refine And.intro ?_ ?_ | exact congrArg List.length hv.symm | exact congrArg encL hv.symm | exact congrArg (fun l => Value.slice A2 (List.length l) c2) hv.symm | exact congrArg (Value.int .i64) (page_succ hm))
  · have hm : n = 496 := by subst hκ; delta kid at h; have h2 : ¬ ((16 + n : Nat) : Int) < 512 := of_decide_eq_false h; have hn2 : n ≤ 496 := hn; omega
    subst hm
    cbv
    all_goals (clear hH; subst hκ; delta kid at *; (try dsimp only at *))
    exact IsX.row_ rfl rfl rfl
def e_rlist {κ : Kp} (hκ : κ = kid) : ESpec Try.prog := fnES [.space] b_rlist F_rlist hκ fun avs p r hF hp => by
  unfold F_rlist at hF
  split at hF
  case h_2 => cases hF
  rename_i s
  simp only [kid, Option.some.injEq, Prod.mk.injEq] at hF
  obtain ⟨rfl, rfl⟩ := hF
  refine ⟨fun x y h => by simp [SV.den, SV.den0, h], fun vs w hR => ?_⟩
  obtain ⟨vs0, rfl, ns, hR⟩ := hR
  have hR' : vs0 = [] := hR
  subst hR'
  exact k_rlist s hp ns w
end Go.Proofs.Ytbcicjmepojlnaa.Eng
/- Contracts of functions (printed by genx.py of this work): what each hands back; condition: as its 'hside' says. -/
namespace Go.Proofs.Ytbcicjmepojlnaa.Eng
open Go Go.RowKit
set_option linter.unusedVariables false
set_option linter.unusedSimpArgs false
theorem b_made : Bodied Try.prog 47 := bodied Try.func47 rfl (by decide)
def F_made : FunX := fun κ avs => match avs with
  | [.lstc l xl] => some (κ _ (l.length ≤ 300000), (.row 53 6 ((κ _ ((madeL l).length))) ((κ _ (encL (madeL l)))) (fun x => .c x)))
  | _ => none
set_option maxRecDepth 100000 in
set_option maxHeartbeats 4000000 in
theorem k_made (l : List Ar) (Al : Option Addr) (cl : Nat) (kl : l.length ≤ cl) (hside : l.length ≤ 300000) (w : World) (hl : (Ent.rd Al 6 l.length (encL l)).holds w) :
    Calls Try.prog 47 #[.slice Al l.length cl] w fun e w' => ∃ v H', e = .returned v.den ∧ IsX (.row 53 6 (((madeL l).length)) ((encL (madeL l))) (fun x => .c x)) v H' ∧ HSat w (fun _ => False) H' w' := by
  obtain ⟨κ, hκ⟩ : ∃ κ : Kp, κ = kid := ⟨_, rfl⟩
  have hH : HSat w (fun _ => False) (heapOf [(nilId, .rd none 1 0 []), (200000, .rd Al 6 (κ _ l.length) (κ _ (encL l)))]) w := by
    subst hκ
    refine HSat.reads fun p hp => ?_
    simp only [List.mem_cons, List.not_mem_nil, or_false] at hp
    rcases hp with rfl | rfl
    · exact ⟨_, _, _, _, rfl, nil_holds w⟩
    · exact ⟨_, _, _, _, rfl, hl⟩
  refine (callsP (n := 44) FTok [e_refF hκ, e_of hκ, e_rlist hκ] mixed [] Try.func47 rfl (by kernel_rfl) #[.slice Al l.length cl] [(0, .c (.sl 200000 Al (κ _ l.length) cl))] _ w rfl [.tmp 2] rfl (by simp) (by subst hκ; simp [SV.den, C.den, kid]) hH (fun v H' => IsX (.row 53 6 ((κ _ ((madeL l).length))) ((κ _ (encL (madeL l)))) (fun x => .c x)) v H') hκ ?_).mono ?_
  rotate_left
  · subst hκ; intro e w' h; exact h
  intro P' hP'
  cbv
  repeat' (first | refine And.intro ?_ ?_ | (intro _; cbv) | (refine tst_mk (fun h => ?_) (fun h => ?_) <;> cbv) | (refine LookX.nil ?_; cbv) | (refine LookX.auto hκ ?_; cbv))
  rename_i b3
  refine loopP hP' FTok [e_refF hκ, e_of hκ, e_rlist hκ] mixed [0, 3] (σ := {i : Nat // i ≤ 40}) (fun q => [(4, .c (.v (.int .i64 (κ _ ((q.1 : Nat) : Int)))))]) (fun q => [(200000, .rd Al 6 (κ _ l.length) (κ _ (encL l))), (3, .blk b3 37 (κ _ (encS (madeT (l.take q.1)))))]) (fun q => 40 - q.1) ⟨0, Nat.zero_le _⟩ [200000, 3] ?_ (by decide) ?_ hκ ?_
  · cbv
    all_goals (subst hκ; delta kid; repeat' (first | exact rfl | exact trivial | refine And.intro ?_ ?_))
  · cbv
    all_goals (subst hκ; delta kid; repeat' (first | exact rfl | exact trivial | refine And.intro ?_ ?_ | exact congrArg (List.map C.den) encS_noS))
  rintro ⟨i, hi4⟩
  have hi6 : i ≤ 1000000 := by omega
  cbv
  refine tst_mk (fun h => ?_) (fun h => ?_) <;> cbv
  · have hx : i < l.length := by subst hκ; delta kid at h; have h2 : (i : Int) < (l.length : Int) := of_decide_eq_true h; omega
    refine tst_mk (fun h => ?_) (fun h => ?_) <;> cbv
    · have hx4 : i < 40 := by subst hκ; delta kid at h; have h2 : (i : Int) < 40 := of_decide_eq_true h; omega
      repeat' (first | refine And.intro ?_ ?_ | (intro _; cbv) | (refine tst_mk (fun h => ?_) (fun h => ?_) <;> cbv) | (refine LookX.nil ?_; cbv) | (refine LookX.auto hκ ?_; cbv) | (refine LookN.mk' (x := [.v (.int .i64 (κ _ (nthA l i).s)), .v (.int .i64 (κ _ (nthA l i).e)), .v (.int .i64 (κ _ (nthA l i).p)), .v (.bool (κ _ (nthA l i).sh)), .v (.int .i64 (κ _ (nthA l i).b)), .v (.int .i64 (κ _ (nthA l i).o))]) (by subst hκ; delta kid at *; exact la_take hx) ?_; cbv) | (refine LookX.mk' (x := κ _ [nthA l i]) (by subst hκ; delta kid at *; exact slice_one hx hi6) ?_; cbv))
      all_goals (try (show Side _; refine ⟨?_⟩; subst hκ; delta kid at *; first | exact rfl | exact trivial | exact ⟨rfl, rfl, .inl rfl⟩ | exact la_ix hx | exact slice_b hx hi6 | exact ⟨rfl, slice_n hi6, .inl rfl⟩ | exact (slice_n hi6).symm | exact ⟨rfl, rfl, rfl, kl⟩ | exact ⟨rfl, rfl, .inl rfl, kl⟩ | ((try dsimp only at *); (try simp only [setTo_len, noS_len, List.length_append, List.length_cons, List.length_nil, List.length_map, and_self, true_or, or_true, eq_self, true_and, and_true, Nat.zero_add, Nat.add_zero]); (first | done | omega); done)))
      · rename_i b6 h
        have hf : formed (nthA l i) = true := by subst hκ; delta kid at h; rw [nthA_eta, refF_eq] at h; exact h
        subst hκ
        delta kid
        exact ⟨fm_one hf, by show 1 ≤ 300000; omega⟩
      · subst hκ; delta kid; (have ho := encS_ok (ofL [nthA l i]); generalize encS (ofL [nthA l i]) = xs at ho ⊢; cases xs <;> exact ho)
      · subst hκ; delta kid; (have ho := encS_len2 (s := ofL [nthA l i]) (ofL_len _); generalize encS (ofL [nthA l i]) = xs at ho ⊢; cases xs <;> exact ho.symm)
      · subst hκ; delta kid; exact ⟨by rw [encS_noS, encS_len, encS_len, ofL_len, noS_len]; omega⟩
      · rename_i b6
        have hf : formed (nthA l i) = true := by subst hκ; delta kid at h; rw [nthA_eta, refF_eq] at h; exact h
        refine loopP hP' FTok [e_refF hκ, e_of hκ, e_rlist hκ] mixed [0, 3, 4, 5] (σ := {p : Nat // p ≤ 512}) (fun q => [(6, .c (.v (.int .i64 (κ _ ((q.1 : Nat) : Int)))))]) (fun q => [(200000, .rd Al 6 (κ _ l.length) (κ _ (encL l))), (3, .blk b3 37 (κ _ (encS (overN (madeT (l.take i)) (ofL [nthA l i]) q.1)))), (5, .blk b6 37 (κ _ (encS (ofL [nthA l i]))))]) (fun q => 512 - q.1) ⟨0, Nat.zero_le _⟩ [200000, 3, 5] ?_ (by decide) ?_ hκ ?_
        · cbv
          all_goals (subst hκ; delta kid; repeat' (first | exact rfl | exact trivial | refine And.intro ?_ ?_))
        · cbv
          all_goals (subst hκ; delta kid; repeat' (first | exact rfl | exact trivial | refine And.intro ?_ ?_ | (rw [zero_put (ofL_len _)]; done)))
        rintro ⟨p, hp⟩
        cbv
        refine tst_mk (fun h => ?_) (fun h => ?_) <;> cbv
        · have hm : p < 512 := by subst hκ; delta kid at h; have h2 : (p : Int) < 512 := of_decide_eq_true h; omega
          repeat' (first | refine And.intro ?_ ?_ | (intro _; cbv) | (refine tst_mk (fun h => ?_) (fun h => ?_) <;> cbv) | (refine LookX.nil ?_; cbv) | (refine LookX.auto hκ ?_; cbv) | (refine LookR.mk' (x := .v (.bool (κ _ (nthP (ofL [nthA l i]) p).is))) (by subst hκ; delta kid at *; exact page_is' (ofL_len _) hm) ?_; cbv) | (refine LookN.mk' (x := [.v (.bool (κ _ (nthP (ofL [nthA l i]) p).is)), .v (.int .i64 (κ _ (nthP (ofL [nthA l i]) p).t.p)), .v (.bool (κ _ (nthP (ofL [nthA l i]) p).t.sh)), .v (.int .i64 (κ _ (nthP (ofL [nthA l i]) p).t.b)), .v (.int .i64 (κ _ (nthP (ofL [nthA l i]) p).t.o))]) (by subst hκ; delta kid at *; exact page_take' (ofL_len _) hm) ?_; cbv))
          all_goals (clear hH; subst hκ; delta kid at *; (try dsimp only at *))
          all_goals (try (exact ⟨page_ix hm⟩))
          all_goals (try (exact rfl))
          all_goals (try (exact ⟨over_fit (madeT_len _) hm⟩))
          · refine ⟨⟨⟨p + 1, by omega⟩, [200000, 3, 5], (by show 512 - (p + 1) < 512 - p; omega), by decide, ?_, ?_⟩⟩
            all_goals repeat' (first | exact rfl | exact trivial | refine And.intro ?_ ?_ | exact congrArg (List.map C.den) (over_put (madeT_len _) hm h) | exact congrArg (Value.int .i64) (nat_succ (by omega)))
          · have hv := over_no (s := madeT (l.take i)) h
            refine ⟨⟨⟨p + 1, by omega⟩, [200000, 3, 5], (by show 512 - (p + 1) < 512 - p; omega), by decide, ?_, ?_⟩⟩
            all_goals repeat' (first | exact rfl | exact trivial | refine And.intro ?_ ?_ | exact congrArg (List.map C.den) (congrArg encS hv.symm) | exact congrArg (Value.int .i64) (nat_succ (by omega)))
        · have hm : p = 512 := by subst hκ; delta kid at h; have h2 : ¬ (p : Int) < 512 := of_decide_eq_false h; omega
          subst hm
          all_goals (clear hH; subst hκ; delta kid at *; (try dsimp only at *))
          have hv : overN (madeT (l.take i)) (ofL [nthA l i]) 512 = madeT (l.take (i + 1)) := ((made_next hx).trans (made_yes hf)).symm
          refine ⟨⟨⟨i + 1, by omega⟩, [200000, 3], (by show 40 - (i + 1) < 40 - i; omega), by decide, ?_, ?_⟩⟩
          all_goals repeat' (first | exact rfl | exact trivial | refine And.intro ?_ ?_ | exact congrArg (List.map C.den) (congrArg encS hv) | exact congrArg (Value.int .i64) (nat_succ (by omega)))
      · have hf : formed (nthA l i) = false := by subst hκ; delta kid at h; rw [nthA_eta, refF_eq] at h; exact h
        all_goals (clear hH; subst hκ; delta kid at *; (try dsimp only at *))
        have hv := (made_next hx).trans (made_no hf)
        refine ⟨⟨⟨i + 1, by omega⟩, [200000, 3], (by show 40 - (i + 1) < 40 - i; omega), by decide, ?_, ?_⟩⟩
        all_goals repeat' (first | exact rfl | exact trivial | refine And.intro ?_ ?_ | exact congrArg (List.map C.den) (congrArg encS hv.symm) | exact congrArg (Value.int .i64) (nat_succ (by omega)))
    · have hx4 : i = 40 := by subst hκ; delta kid at h; have h2 : ¬ (i : Int) < 40 := of_decide_eq_false h; omega
      repeat' (first | refine And.intro ?_ ?_ | (intro _; cbv) | (refine tst_mk (fun h => ?_) (fun h => ?_) <;> cbv) | (refine LookX.nil ?_; cbv) | (refine LookX.auto hκ ?_; cbv) | (refine LookN.mk' (x := κ _ (encS (madeT (l.take i)))) (by subst hκ; delta kid at *; exact whole_take (madeT_len _)) ?_; cbv))
      all_goals (try (show Side _; refine ⟨?_⟩; subst hκ; delta kid at *; first | exact rfl | exact trivial | exact ⟨rfl, rfl, .inl rfl⟩ | ((try dsimp only at *); (try simp only [setTo_len, noS_len, List.length_append, List.length_cons, List.length_nil, List.length_map, and_self, true_or, or_true, eq_self, true_and, and_true, Nat.zero_add, Nat.add_zero]); (first | done | omega); done)))
      all_goals (clear hH; subst hκ; delta kid at *; (try dsimp only at *))
      all_goals (try (exact ⟨madeT_len _⟩))
      exact IsX.row_ (by rw [hx4]; rfl) rfl rfl
  · have hx : ¬ i < l.length := by subst hκ; delta kid at h; have h2 : ¬ (i : Int) < (l.length : Int) := of_decide_eq_false h; omega
    repeat' (first | refine And.intro ?_ ?_ | (intro _; cbv) | (refine tst_mk (fun h => ?_) (fun h => ?_) <;> cbv) | (refine LookX.nil ?_; cbv) | (refine LookX.auto hκ ?_; cbv) | (refine LookN.mk' (x := κ _ (encS (madeT (l.take i)))) (by subst hκ; delta kid at *; exact whole_take (madeT_len _)) ?_; cbv))
    all_goals (try (show Side _; refine ⟨?_⟩; subst hκ; delta kid at *; first | exact rfl | exact trivial | exact ⟨rfl, rfl, .inl rfl⟩ | ((try dsimp only at *); (try simp only [setTo_len, noS_len, List.length_append, List.length_cons, List.length_nil, List.length_map, and_self, true_or, or_true, eq_self, true_and, and_true, Nat.zero_add, Nat.add_zero]); (first | done | omega); done)))
    all_goals (clear hH; subst hκ; delta kid at *; (try dsimp only at *))
    all_goals (try (exact ⟨madeT_len _⟩))
    exact IsX.row_ (by rw [List.take_of_length_le (by omega : l.length ≤ i), show madeL l = listS (madeT (l.take 40)) from rfl, List.take_of_length_le (by omega : l.length ≤ 40)]) rfl rfl
def e_made {κ : Kp} (hκ : κ = kid) : ESpec Try.prog := fnES [.listc] b_made F_made hκ fun avs p r hF hp => by
  unfold F_made at hF
  split at hF
  case h_2 => cases hF
  rename_i l xl
  simp only [kid, Option.some.injEq, Prod.mk.injEq] at hF
  obtain ⟨rfl, rfl⟩ := hF
  refine ⟨fun x y h => by simp [SV.den, SV.den0, h], fun vs w hR => ?_⟩
  obtain ⟨il, Al, cl, vs0, rfl, rfl, kl, hl, hR⟩ := hR
  have hR' : vs0 = [] := hR
  subst hR'
  exact k_made l Al cl kl hp w hl
theorem b_some : Bodied Try.prog 43 := bodied Try.func43 rfl (by decide)
def F_some : FunX := fun κ avs => match avs with
  | [.lstc l xl] => some (κ _ (l.length ≤ 300000), (.row 53 6 ((κ _ ((someL l).length))) ((κ _ (encL (someL l)))) (fun x => .c x)))
  | _ => none
set_option maxRecDepth 100000 in
set_option maxHeartbeats 4000000 in
theorem k_some (l : List Ar) (Al : Option Addr) (cl : Nat) (kl : l.length ≤ cl) (hside : l.length ≤ 300000) (w : World) (hl : (Ent.rd Al 6 l.length (encL l)).holds w) :
    Calls Try.prog 43 #[.slice Al l.length cl] w fun e w' => ∃ v H', e = .returned v.den ∧ IsX (.row 53 6 (((someL l).length)) ((encL (someL l))) (fun x => .c x)) v H' ∧ HSat w (fun _ => False) H' w' := by
  obtain ⟨κ, hκ⟩ : ∃ κ : Kp, κ = kid := ⟨_, rfl⟩
  have hH : HSat w (fun _ => False) (heapOf [(nilId, .rd none 1 0 []), (200000, .rd Al 6 (κ _ l.length) (κ _ (encL l)))]) w := by
    subst hκ
    refine HSat.reads fun p hp => ?_
    simp only [List.mem_cons, List.not_mem_nil, or_false] at hp
    rcases hp with rfl | rfl
    · exact ⟨_, _, _, _, rfl, nil_holds w⟩
    · exact ⟨_, _, _, _, rfl, hl⟩
  refine (callsP (n := 11) FTok [e_made hκ] mixed [] Try.func43 rfl (by kernel_rfl) #[.slice Al l.length cl] [(0, .c (.sl 200000 Al (κ _ l.length) cl))] _ w rfl [.tmp 2] rfl (by simp) (by subst hκ; simp [SV.den, C.den, kid]) hH (fun v H' => IsX (.row 53 6 ((κ _ ((someL l).length))) ((κ _ (encL (someL l)))) (fun x => .c x)) v H') hκ ?_).mono ?_
  rotate_left
  · subst hκ; intro e w' h; exact h
  intro P' hP'
  cbv
  repeat' (first | refine And.intro ?_ ?_ | (intro _; cbv) | (refine tst_mk (fun h => ?_) (fun h => ?_) <;> cbv) | (refine LookX.nil ?_; cbv) | (refine LookX.auto hκ ?_; cbv))
  all_goals (try (show Side _; refine ⟨?_⟩; subst hκ; delta kid at *; first | exact rfl | exact trivial | exact ⟨rfl, rfl, .inl rfl⟩ | exact ⟨rfl, rfl, rfl, kl⟩ | exact ⟨rfl, rfl, .inl rfl, kl⟩ | exact some_b l | ((try dsimp only at *); (try simp only [setTo_len, noS_len, List.length_append, List.length_cons, List.length_nil, List.length_map, and_self, true_or, or_true, eq_self, true_and, and_true, Nat.zero_add, Nat.add_zero]); (first | done | omega); done)))
  all_goals (clear hH; subst hκ; delta kid at *; (try dsimp only at *))
  · exact ⟨⟨rfl, rfl, rfl, rfl, rfl⟩⟩
  · exact IsX.rowE (some_len l) (some_enc l) rfl rfl
def e_some {κ : Kp} (hκ : κ = kid) : ESpec Try.prog := fnES [.listc] b_some F_some hκ fun avs p r hF hp => by
  unfold F_some at hF
  split at hF
  case h_2 => cases hF
  rename_i l xl
  simp only [kid, Option.some.injEq, Prod.mk.injEq] at hF
  obtain ⟨rfl, rfl⟩ := hF
  refine ⟨fun x y h => by simp [SV.den, SV.den0, h], fun vs w hR => ?_⟩
  obtain ⟨il, Al, cl, vs0, rfl, rfl, kl, hl, hR⟩ := hR
  have hR' : vs0 = [] := hR
  subst hR'
  exact k_some l Al cl kl hp w hl
end Go.Proofs.Ytbcicjmepojlnaa.Eng
/- Contracts of functions of lists that hand back new ones (printed by genr.py of this work); condition: as its 'hside' says. -/
namespace Go.Proofs.Ytbcicjmepojlnaa.Eng
open Go Go.RowKit
set_option linter.unusedVariables false
set_option linter.unusedSimpArgs false
theorem b_put : Bodied Try.prog 61 := bodied Try.func61 rfl (by decide)
def F_put : FunR := fun κ l rest => match rest with
  | [.agg [.v (.int .i64 a1), .v (.int .i64 a2), .v (.int .i64 a3), .v (.bool a4), .v (.int .i64 a5), .v (.int .i64 a6)]] => some (κ _ (l.length ≤ 300000), κ _ (putL l (⟨a1, a2, a3, a4, a5, a6⟩ : Ar)))
  | _ => none
set_option maxRecDepth 100000 in
set_option maxHeartbeats 8000000 in
theorem k_put (l : List Ar) (a1 : Int) (a2 : Int) (a3 : Int) (a4 : Bool) (a5 : Int) (a6 : Int) (hside : l.length ≤ 300000) (A : Option Addr) (c : Nat) (w : World) (hr : (Ent.rd A 6 l.length (encL l)).holds w) :
    Calls Try.prog 61 #[.slice A l.length c, (SV.agg [.v (.int .i64 a1), .v (.int .i64 a2), .v (.int .i64 a3), .v (.bool a4), .v (.int .i64 a5), .v (.int .i64 a6)]).den] w fun e w' => ∃ v H', e = .returned v.den ∧ IsR (putL l (⟨a1, a2, a3, a4, a5, a6⟩ : Ar)) v H' ∧ HSat w (fun _ => False) H' w' := by
  obtain ⟨κ, hκ⟩ : ∃ κ : Kp, κ = kid := ⟨_, rfl⟩
  have hH : HSat w (fun _ => False) (heapOf [(nilId, .rd none 1 0 []), (200000, .rd A 6 (κ _ l.length) (κ _ (encL l)))]) w := by
    subst hκ
    refine HSat.reads fun p hp => ?_
    simp only [List.mem_cons, List.not_mem_nil, or_false] at hp
    rcases hp with rfl | rfl
    · exact ⟨_, _, _, _, rfl, nil_holds w⟩
    · exact ⟨_, _, _, _, rfl, hr⟩
  refine (callsE (n := 31) FTok [e_right hκ, e_formed hκ, e_around hκ, e_concat hκ, e_joined hκ] mixed [] Try.func61 rfl (by kernel_rfl) #[.slice A l.length c, (SV.agg [.v (.int .i64 a1), .v (.int .i64 a2), .v (.int .i64 a3), .v (.bool a4), .v (.int .i64 a5), .v (.int .i64 a6)]).den] [(0, .c (.sl 200000 A (κ _ l.length) c)), (1, .agg [.v (.int .i64 a1), .v (.int .i64 a2), .v (.int .i64 a3), .v (.bool a4), .v (.int .i64 a5), .v (.int .i64 a6)])] _ w rfl [.tmp 4] rfl (by simp) (by subst hκ; simp [SV.den, C.den, kid]) hH (fun v H' => IsR (κ _ (putL l (⟨a1, a2, a3, a4, a5, a6⟩ : Ar))) v H') hκ ?_).mono ?_
  rotate_left
  · subst hκ; intro e w' h; exact h
  cbv
  repeat' (first | refine And.intro ?_ ?_ | (intro _; cbv) | (refine tst_mk (fun h => ?_) (fun h => ?_) <;> cbv) | (refine LookX.nil ?_; cbv) | (refine LookX.auto hκ ?_; cbv) | (refine LookX.mk' (one_cells a1 a2 a3 a4 a5 a6) ?_; cbv))
  all_goals (try (clear hH))
  all_goals subst hκ
  all_goals (try delta kid at *)
  all_goals (try dsimp only at *)
  all_goals (try (exact ⟨trivial⟩))
  all_goals (try (exact ⟨by decide⟩))
  all_goals (try (exact ⟨rfl⟩))
  all_goals (try (refine ⟨?_⟩; have q1 := ahead_le l (floorA a1); have q2 := behind_le l (toI a2); have q3 := within_le l a1 a2; (try simp only [List.length_append, List.length_cons, List.length_nil, List.length_map, and_self, true_or, or_true, eq_self, true_and, and_true, Nat.zero_add, Nat.add_zero]); (first | done | omega); done))
  all_goals (first | exact IsR.nil_ (put_no (l := l) (a := ⟨a1, a2, a3, a4, a5, a6⟩) (by with_reducible assumption)) | exact IsR.nil_ (put_no2 (l := l) (a := ⟨a1, a2, a3, a4, a5, a6⟩) (by with_reducible assumption)) | exact IsR.row_ (put_all (l := l) (a := ⟨a1, a2, a3, a4, a5, a6⟩) (by with_reducible assumption) (by with_reducible assumption) (by with_reducible assumption)) rfl | exact IsR.row_ (put_some (l := l) (a := ⟨a1, a2, a3, a4, a5, a6⟩) (by with_reducible assumption) (by with_reducible assumption) (by with_reducible assumption)) rfl)
def e_put {κ : Kp} (hκ : κ = kid) : ESpec Try.prog := lisRES b_put F_put hκ fun l rest p r hF hp A c w hr => by
  unfold F_put at hF
  split at hF
  · rename_i a1 a2 a3 a4 a5 a6
    simp only [kid, Option.some.injEq, Prod.mk.injEq] at hF
    obtain ⟨rfl, rfl⟩ := hF
    exact k_put l a1 a2 a3 a4 a5 a6 hp A c w hr
  · cases hF
end Go.Proofs.Ytbcicjmepojlnaa.Eng
/- Contracts of functions (printed by genx.py of this work): what each hands back; condition: as its 'hside' says. -/
namespace Go.Proofs.Ytbcicjmepojlnaa.Eng
open Go Go.RowKit
set_option linter.unusedVariables false
set_option linter.unusedSimpArgs false
end Go.Proofs.Ytbcicjmepojlnaa.Eng
/- What lists that are not right tell; no condition. -/
namespace Go.Proofs.Ytbcicjmepojlnaa.Eng
open Go Go.RowKit
set_option autoImplicit false
set_option linter.unusedSimpArgs false
set_option linter.unusedVariables false
theorem sameL_self (l : List Ar) : sameL l l = true := (sameL_iff l l).2 rfl
end Go.Proofs.Ytbcicjmepojlnaa.Eng
/- Contracts of functions (printed by genx.py of this work): what each hands back; condition: as its 'hside' says. -/
namespace Go.Proofs.Ytbcicjmepojlnaa.Eng
open Go Go.RowKit
set_option linter.unusedVariables false
set_option linter.unusedSimpArgs false
end Go.Proofs.Ytbcicjmepojlnaa.Eng
