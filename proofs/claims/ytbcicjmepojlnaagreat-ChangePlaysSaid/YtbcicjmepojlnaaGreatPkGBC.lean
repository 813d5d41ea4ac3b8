/- Texts of this work, laid together: symbolic execution over the model, contracts of the program's functions, what they come to; conditions: as each says. -/
import Derived.RangeFuncBox
import Derived.RangeFuncLeaves
import Derived.RangeFuncNested
import Derived.Shelf.Abstract
import Derived.WalkKit
import Derived.OwnWalkIn
import Derived.TacticsInMore
import Derived.LoopNIn
import Derived.LoopIn
import Derived.Test.YtbcicjmepojlnaaGreatPkGAY
/- gap.each: its iterator gives the gaps, one by one, whatever the loop's body does to what is its own; no condition but those typed. -/
namespace Go.Proofs.YtbcicjmepojlnaaGreat.Eng
open Go Go.RowKit Go.Shelf
set_option autoImplicit false
set_option linter.unusedSimpArgs false
set_option linter.unusedVariables false
attribute [local go_sem] Oper.semAt_some
def gapsTo (zs : List Ar) : Nat → List Gp
  | 0 => []
  | k + 1 => gapsTo zs k ++ (if atW zs 65536 k < (nthA zs k).s then [⟨atW zs 65536 k, (nthA zs k).s⟩] else [])
theorem gapsTo_yes {zs : List Ar} {k : Nat} (h : atW zs 65536 k < (nthA zs k).s) : gapsTo zs (k + 1) = gapsTo zs k ++ [⟨atW zs 65536 k, (nthA zs k).s⟩] := congrArg (gapsTo zs k ++ ·) (if_pos h)
theorem gapsTo_no {zs : List Ar} {k : Nat} (h : (nthA zs k).s ≤ atW zs 65536 k) : gapsTo zs (k + 1) = gapsTo zs k := by
  show gapsTo zs k ++ _ = _
  rw [if_neg (by omega), List.append_nil]
def gapsE (zs : List Ar) : List Gp := gapsTo zs zs.length ++ (if atW zs 65536 zs.length < 2097152 then [⟨atW zs 65536 zs.length, 2097152⟩] else [])
theorem gapsE_yes {zs : List Ar} (h : atW zs 65536 zs.length < 2097152) : gapsE zs = gapsTo zs zs.length ++ [⟨atW zs 65536 zs.length, 2097152⟩] := congrArg (gapsTo zs zs.length ++ ·) (if_pos h)
theorem gapsE_no {zs : List Ar} (h : 2097152 ≤ atW zs 65536 zs.length) : gapsE zs = gapsTo zs zs.length := by
  show gapsTo zs zs.length ++ _ = _
  rw [if_neg (by omega), List.append_nil]
theorem gapsTo_len (zs : List Ar) : ∀ k, (gapsTo zs k).length ≤ k
  | 0 => Nat.le_refl _
  | k + 1 => by
    have := gapsTo_len zs k
    by_cases h : atW zs 65536 k < (nthA zs k).s
    · rw [gapsTo_yes h, List.length_append]; simp; omega
    · rw [gapsTo_no (by omega)]; omega
theorem gapsE_len (zs : List Ar) : (gapsE zs).length ≤ zs.length + 1 := by
  have := gapsTo_len zs zs.length
  by_cases h : atW zs 65536 zs.length < 2097152
  · rw [gapsE_yes h, List.length_append]; simp; omega
  · rw [gapsE_no (by omega)]; omega
theorem gapsTo_pre (zs : List Ar) : ∀ (m k : Nat), gapsTo zs k <+: gapsTo zs (k + m)
  | 0, k => List.prefix_refl _
  | m + 1, k => by
    refine (gapsTo_pre zs m k).trans ?_
    show _ <+: gapsTo zs (k + m) ++ _
    exact List.prefix_append _ _
theorem gapsE_pre (zs : List Ar) {k : Nat} (h : k ≤ zs.length) : gapsTo zs k <+: gapsE zs := by
  have := gapsTo_pre zs (zs.length - k) k
  rw [show k + (zs.length - k) = zs.length by omega] at this
  exact this.trans (List.prefix_append _ _)
def valG (g : Gp) : Value := .agg #[.int .i64 g.s, .int .i64 g.e]
abbrev areaO (a : Ar) : Obj := .cells #[.int .i64 a.s, .int .i64 a.e, .int .i64 a.p, .bool a.sh, .int .i64 a.b, .int .i64 a.o] 49
def RoundOk (F : Fence) (n l : Nat) (bO : Option Nat) (gs : List Gp) (J Jx : List Gp → World → Prop) : Prop :=
  ∀ pre x W1 W2, J pre W1 → (pre ++ [x]) <+: gs → (W2 = W1 ∨ ∃ o, W2 = W1.alloc o) → YieldAt F (n - 1) Tryz.prog l #[valG x] W2 fun e W' =>
    (e = .returned (.bool true) ∧ J (pre ++ [x]) W' ∧ W2.heap.size ≤ W'.heap.size ∧ (∀ b, bO = some b → W'.heap[b]? = W2.heap[b]?) ∧ ∀ o, W2 = W1.alloc o → W'.heap[W1.heap.size]? = some o) ∨ (e = .returned (.bool false) ∧ Jx (pre ++ [x]) W')
set_option maxRecDepth 100000 in
set_option maxHeartbeats 2000000 in
theorem each1_in (F : Fence) (n : Nat) (h7 : F.fn 108) (hro : F.round = none) (hn : 1 ≤ n) (l Bs b off cap : Nat) (zs : List Ar) (hlen : zs.length ≤ 1000000) (J Jx : List Gp → World → Prop)
    (hY : RoundOk F n l (some b) (gapsE zs) J Jx)
    (W : World) (hBs : W.cell? ⟨Bs, 0, none⟩ = some (.slice (some ⟨b, off, none⟩) zs.length cap)) (hc : ∀ j u, ((encL zs).map C.den)[j]? = some u → W.cell? ⟨b, off + j, none⟩ = some u) (hb : b < W.heap.size) (hJ : AbidesFrom W.heap.size J) (h0 : J [] W) :
    CallsIn F n Tryz.prog 108 #[.func (.yield l) #[] #[], .pointer (some ⟨Bs, 0, none⟩)] W fun e W' => (∃ v, e = .returned v) ∧
      (J (gapsE zs) W' ∨ ∃ pre, pre <+: gapsE zs ∧ Jx pre W') := by
  refine callsIn_of_wp Tryz.func108 rfl h7 ?_ hro
  simp only [Tryz.ntmps108, List.size_toArray, List.length_cons, List.length_nil, Nat.reduceAdd, Nat.reduceSub, Array.replicate_succ, Array.replicate_zero, List.push_toArray, List.append_toArray, List.nil_append, List.cons_append]
  gi_wp2
  gi_loopw [3, 8] (fun at_ i wr => ∃ k : Nat, k ≤ zs.length ∧ i = .int .i64 k ∧ at_ = .int .i64 (atW zs 65536 k) ∧ J (gapsTo zs k) wr ∧ W.heap.size ≤ wr.heap.size ∧ wr.heap[b]? = W.heap[b]?)
    (fun _ i _ => zs.length - (intOf i).toNat)
  case atStart => exact ⟨0, Nat.zero_le _, rfl, rfl, h0, Nat.le_refl _, rfl⟩
  case round =>
    obtain ⟨k, hk, rfl, rfl, hJs, hsz, hnb⟩ := hrel
    by_cases hlt : k < zs.length
    · have cc : ∀ o u, (encA (nthA zs k))[o]? = some u → o < 6 → wr.cell? ⟨b, off + (k * 6 + o), none⟩ = some u.den := fun o u ho h6 =>
        (World.cell?_of_block (a := ⟨b, off + (k * 6 + o), none⟩) hnb).trans (hc _ _ (by rw [List.getElem?_map, show (encL zs)[k * 6 + o]? = some u from (enc_get encA_len zs k _ o (nthA_get hlt) h6).trans ho]; rfl))
      have c0 : wr.cell? ⟨b, off + k * 6, none⟩ = some (.int .i64 (nthA zs k).s) := cc 0 _ rfl (by decide)
      have c1 : wr.cell? ⟨b, off + k * 6 + 1, none⟩ = some (.int .i64 (nthA zs k).e) := by rw [Nat.add_assoc]; exact cc 1 _ rfl (by decide)
      have c2 : wr.cell? ⟨b, off + k * 6 + 2, none⟩ = some (.int .i64 (nthA zs k).p) := by rw [Nat.add_assoc]; exact cc 2 _ rfl (by decide)
      have c3 : wr.cell? ⟨b, off + k * 6 + 3, none⟩ = some (.bool (nthA zs k).sh) := by rw [Nat.add_assoc]; exact cc 3 _ rfl (by decide)
      have c4 : wr.cell? ⟨b, off + k * 6 + 4, none⟩ = some (.int .i64 (nthA zs k).b) := by rw [Nat.add_assoc]; exact cc 4 _ rfl (by decide)
      have c5 : wr.cell? ⟨b, off + k * 6 + 5, none⟩ = some (.int .i64 (nthA zs k).o) := by rw [Nat.add_assoc]; exact cc 5 _ rfl (by decide)
      have hJa : J (gapsTo zs k) (wr.alloc (areaO (nthA zs k))) := hJ _ _ _ none hJs (World.grownBy_alloc _ _ _) (fun r e => by cases e)
      have hba : (wr.alloc (areaO (nthA zs k))).heap[b]? = W.heap[b]? := (Below.heap_alloc _ _ _ (by omega)).trans hnb
      have hsa : W.heap.size ≤ (wr.alloc (areaO (nthA zs k))).heap.size := by simp; omega
      by_cases hgap : atW zs 65536 k < (nthA zs k).s
      · obtain ⟨fn, tmps, assign, body, hy, hR⟩ := hY _ ⟨atW zs 65536 k, (nthA zs k).s⟩ wr (wr.alloc (areaO (nthA zs k))) hJs (by rw [← gapsTo_yes hgap]; exact gapsE_pre zs (by omega)) (.inr ⟨_, rfl⟩)
        simp only [valG, areaO] at hy hR
        gi_wp2
        refine hR.mono ?_
        rintro e W3 (⟨rfl, hJ3, hs3, hb3, ho3⟩ | ⟨rfl, hJx3⟩)
        · have ho := ho3 _ rfl
          have hc1 : W3.cell? ⟨wr.heap.size, 1, none⟩ = some (.int .i64 (nthA zs k).e) := by simp [World.cell?, ho]
          gi_wp2
          go_roundw
          case rel => exact ⟨k + 1, by omega, by simp, rfl, by rw [gapsTo_yes hgap]; exact hJ3, Nat.le_trans hsa hs3, (hb3 b rfl).trans hba⟩
          case measure => simp [intOf]; omega
        · gi_wp2
          refine bodyPost_ret (results_none rfl _ _ _) rfl ?_
          exact ⟨⟨_, rfl⟩, .inr ⟨_, by rw [← gapsTo_yes hgap]; exact gapsE_pre zs (by omega), hJx3⟩⟩
      · gi_wp2
        refine ⟨fun f h => (by cases h), ?_⟩
        gi_wp2
        go_roundw
        case rel => exact ⟨k + 1, by omega, by simp, rfl, by rw [gapsTo_no hgap]; exact hJa, hsa, hba⟩
        case measure => simp [intOf]; omega
    · obtain rfl : k = zs.length := by omega
      by_cases hgap : atW zs 65536 zs.length < 2097152
      · obtain ⟨fn, tmps, assign, body, hy, hR⟩ := hY _ ⟨atW zs 65536 zs.length, 2097152⟩ wr wr hJs (by rw [gapsE_yes hgap]; exact List.prefix_refl _) (.inl rfl)
        simp only [valG] at hy
        gi_wp2
        refine hR.mono ?_
        rintro e W3 (⟨rfl, hJ3, hs3, hb3, ho3⟩ | ⟨rfl, hJx3⟩)
        · gi_wp2
          go_end0
          exact ⟨⟨_, rfl⟩, .inl (by rw [gapsE_yes hgap]; exact hJ3)⟩
        · gi_wp2
          go_end0
          exact ⟨⟨_, rfl⟩, .inr ⟨_, by rw [gapsE_yes hgap]; exact List.prefix_refl _, hJx3⟩⟩
      · gi_wp2
        go_end0
        exact ⟨⟨_, rfl⟩, .inl (by rw [gapsE_no hgap]; exact hJs)⟩
set_option maxRecDepth 100000 in
set_option maxHeartbeats 2000000 in
theorem each1_nil (F : Fence) (n : Nat) (h7 : F.fn 108) (hro : F.round = none) (hn : 1 ≤ n) (l Bs cap : Nat) (A : Option Addr) (bO : Option Nat) (J Jx : List Gp → World → Prop)
    (hY : RoundOk F n l bO (gapsE []) J Jx) (W : World) (hBs : W.cell? ⟨Bs, 0, none⟩ = some (.slice A 0 cap)) (h0 : J [] W) :
    CallsIn F n Tryz.prog 108 #[.func (.yield l) #[] #[], .pointer (some ⟨Bs, 0, none⟩)] W fun e W' => (∃ v, e = .returned v) ∧
      (J (gapsE []) W' ∨ ∃ pre, pre <+: gapsE [] ∧ Jx pre W') := by
  refine callsIn_of_wp Tryz.func108 rfl h7 ?_ hro
  simp only [Tryz.ntmps108, List.size_toArray, List.length_cons, List.length_nil, Nat.reduceAdd, Nat.reduceSub, Array.replicate_succ, Array.replicate_zero, List.push_toArray, List.append_toArray, List.nil_append, List.cons_append]
  gi_wp2
  gi_loopw [3, 8] (fun at_ i wr => i = .int .i64 0 ∧ at_ = .int .i64 65536 ∧ J [] wr) (fun _ _ _ => 0)
  case atStart => exact ⟨rfl, rfl, h0⟩
  case round =>
    obtain ⟨rfl, rfl, hJs⟩ := hrel
    obtain ⟨fn, tmps, assign, body, hy, hR⟩ := hY [] ⟨65536, 2097152⟩ wr wr hJs (List.prefix_refl _) (.inl rfl)
    simp only [valG] at hy
    gi_wp2
    refine hR.mono ?_
    rintro e W3 (⟨rfl, hJ3, hs3, hb3, ho3⟩ | ⟨rfl, hJx3⟩)
    · gi_wp2
      go_end0
      exact ⟨⟨_, rfl⟩, .inl hJ3⟩
    · gi_wp2
      go_end0
      exact ⟨⟨_, rfl⟩, .inr ⟨_, List.prefix_refl _, hJx3⟩⟩
theorem each_in (F : Fence) (n : Nat) (h7 : F.fn 108) (hro : F.round = none) (hn : 1 ≤ n) (l Bs cap : Nat) (A : Option Addr) (zs : List Ar) (hlen : zs.length ≤ 1000000) (J Jx : List Gp → World → Prop)
    (hY : RoundOk F n l (Ent.rd A 6 zs.length (encL zs)).block (gapsE zs) J Jx) (W : World) (hBs : W.cell? ⟨Bs, 0, none⟩ = some (.slice A zs.length cap)) (hrd : (Ent.rd A 6 zs.length (encL zs)).holds W) (hJ : AbidesFrom W.heap.size J) (h0 : J [] W) :
    CallsIn F n Tryz.prog 108 #[.func (.yield l) #[] #[], .pointer (some ⟨Bs, 0, none⟩)] W fun e W' => (∃ v, e = .returned v) ∧
      (J (gapsE zs) W' ∨ ∃ pre, pre <+: gapsE zs ∧ Jx pre W') := by
  cases zs with
  | nil => exact each1_nil F n h7 hro hn l Bs cap A _ J Jx hY W hBs h0
  | cons z r =>
    have hx : encL (z :: r) ≠ [] := by simp [encL, encA]
    obtain ⟨a, rfl, ha, hc⟩ := hrd.2 hx
    have hsp : a.spot = none := by
      have := hc 0 _ (show ((encL (z :: r)).map C.den)[0]? = some (.int .i64 z.s) from rfl)
      unfold World.cell? Addr.add at this
      rw [if_pos rfl] at this
      split at this
      · cases hs : a.spot with
        | none => rfl
        | some q => rw [hs] at this; cases this
      · cases this
    obtain ⟨b, off, sp⟩ := a
    simp only at hsp
    subst hsp
    have hbl : (Ent.rd (some ⟨b, off, none⟩) 6 (z :: r).length (encL (z :: r))).block = some b := by simp [Ent.block, hx]
    rw [hbl] at hY
    refine each1_in F n h7 hro hn l Bs b off cap (z :: r) hlen J Jx hY W hBs (fun j u hj => ?_) ha hJ h0
    have := hc j u hj
    rw [add_loc] at this
    exact this
end Go.Proofs.YtbcicjmepojlnaaGreat.Eng
