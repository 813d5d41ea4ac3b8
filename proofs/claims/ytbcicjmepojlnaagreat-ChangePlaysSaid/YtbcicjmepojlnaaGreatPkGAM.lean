/- Texts of this work, laid together: symbolic execution over the model, contracts of the program's functions, what they come to; conditions: as each says. -/
import Derived.RangeFuncNested
import Derived.RangeFuncLeaves
import Derived.OrdersIn
import Derived.TacticsIn
import Derived.Test.YtbcicjmepojlnaaGreatPkGAI
/- Operations in a round of a range over a function, or behind one; no condition. -/
namespace Go.Proofs.YtbcicjmepojlnaaGreat.Eng
open Go Go.RowKit
set_option autoImplicit false
set_option linter.unusedSimpArgs false
set_option linter.unusedVariables false
variable {P : Program} {n : Nat} {w0 : World} {M : Nat → Prop}
def fen (ro : Option Nat) : Fence := { Fence.wide with round := ro }
def setD (a : Act) (ds : List Deferred) : Act := { a with defers := ds }
theorem setD_eval (a : Act) (ds : List Deferred) : (setD a ds).eval = a.eval := funext fun x => by cases x <;> rfl
theorem setD_put (a : Act) (dst : Option Tmp) (v : Value) (ds : List Deferred) : setD (a.put dst v) ds = (setD a ds).put dst v := by cases dst <;> rfl
theorem put_ds (a : Act) (dst : Option Tmp) (v : Value) : (a.put dst v).defers = a.defers := by cases dst <;> rfl
theorem setD_self {a : Act} {ds : List Deferred} (h : a.defers = ds) : setD a ds = a := by subst h; rfl
theorem calls_in {ro : Option Nat} {k : Nat} {f : FuncId} {args : Array Value} {w : World} {R : Ending → World → Prop} (h : Calls P f args w R) : CallsIn (fen ro) k P f args w R :=
  ⟨trivial, fun cs _ => let ⟨e, w', fr, r, s, x⟩ := h cs; ⟨e, w', fr, r, comesIn_wide.2 s, x⟩⟩
theorem rows_in {ro : Option Nat} {k : Nat} {row : String} {args : Array Value} {w : World} {R : Value → World → Prop} (h : Rows P row args w R) : RowsIn (fen ro) k P row args w R :=
  fun c cs _ => let ⟨v, w', r, s⟩ := h c cs; ⟨v, w', r, stepsIn_wide.2 s⟩
theorem op_in {o : Oper} {a : Act} {w : World} {H : Heap} {K : KT} (ro : Option Nat) (k : Nat) (ds : List Deferred) (hnd : ∀ c, o.op ≠ .defer c) (h : o.wp P a w (Post o.dst a w0 M H K) (fun _ _ _ => False)) (Q : Exit → Act → World → Prop) : o.wpIn (fen ro) k P (setD a ds) w (Post o.dst (setD a ds) w0 M H K) Q := by
  refine ⟨fun _ _ => trivial, ?_⟩
  rw [Oper.semAt_eq _ _ _ hnd, setD_eval]
  unfold Oper.wp at h
  have post : ∀ v w', Post o.dst a w0 M H K (a.put o.dst v) w' → Post o.dst (setD a ds) w0 M H K ((setD a ds).put o.dst v) w' := fun v w' ⟨s, u, x, h1, h2, h3, h4⟩ => ⟨s, u, x, h1, by rw [← setD_put, ← setD_put, h2], h3, h4⟩
  generalize (execOp a.eval o).run P w = r at h ⊢
  cases r with
  | ok x w' =>
    cases x with
    | value v => exact post v w' h
    | skip => exact post _ w' h
    | defer d =>
      exfalso
      obtain ⟨s, u, x, _, h2, _⟩ := h
      have h3 := congrArg Act.defers h2
      rw [put_ds, put_ds] at h3
      have h4 := congrArg List.length h3
      simp at h4
    | enter f args =>
      refine ⟨fun hd => (by cases hd), (calls_in h).mono fun e w'' he => ?_⟩
      cases e with
      | returned v => exact post v w'' he
      | panicked c => exact he.elim
      | outgrown => obtain ⟨_, _, hf⟩ := he; exact hf.elim
    | row row args => exact ⟨fun hd => (by cases hd), (rows_in h).mono fun v w'' he => post v w'' he⟩
    | _ => exact h.elim
  | halt x w' => cases x <;> exact h.elim
theorem gT_in (X : Ctx P) (ro : Option Nat) (k : Nat) (ds : List Deferred) (all : Array Oper) (o : Oper) {env : Env} {H : Heap} {a : Act} {w : World} {K : KT} (hE : EnvOk n env a) (hH : HSat w0 M H w) (hd : dstOk n o = true) (h : gT X all o env H K) (Q : Exit → Act → World → Prop)
    (K' : Act → World → Prop) (hK : ∀ v u a' w', K v u → EnvOk n (putE env o.dst v) a' → HSat w0 M (upds H u) w' → K' (setD a' ds) w') :
    if Region.wanted o (yielded all (setD a ds).tmps) then o.wpIn (fen ro) k P (setD a ds) w K' Q else (∀ f, o.about P w (setD a ds).eval = some f → (fen ro).fn f) ∧ K' ((setD a ds).put o.dst undef) w := by
  have hd' : ∀ d, o.dst = some d → d < n := by
    intro d e
    rw [dstOk, e] at hd
    exact of_decide_eq_true hd
  have run : opT X.F X.Γ o.op (ev env) (restrict H (foot X.F.refs H o.op (ev env))) (o.dst.getD 0) K → o.wpIn (fen ro) k P (setD a ds) w K' Q := fun h1 =>
    Oper.wpIn_mono (fun a' w' ⟨v, u, x, hK1, ha, hx, hH'⟩ => by
      subst ha
      rw [← setD_put]
      exact hK v u _ _ hK1 (hE.put o.dst hd' v x hx) hH') (op_in ro k ds (fun c hc => by rw [hc] at h1; exact h1) (op_sound X o (Q := fun _ _ _ => False) hE hH _ h1) Q)
  have not_ : K' (setD (a.put o.dst undef) ds) w → (∀ f, o.about P w (setD a ds).eval = some f → (fen ro).fn f) ∧ K' ((setD a ds).put o.dst undef) w := fun h => ⟨fun _ _ => trivial, by rw [← setD_put]; exact h⟩
  show if Region.wanted o (yielded all a.tmps) then _ else _
  unfold gT at h
  split at h
  · rename_i hg
    have : Region.wanted o (yielded all a.tmps) = true := by simp [Region.wanted, hg]
    rw [if_pos this]
    exact run h
  · rename_i j want hg
    split at h
    · rename_i b hs
      obtain ⟨t, ht, hb⟩ := Option.map_eq_some_iff.1 hs
      have hy : yielded all a.tmps j = some b := by
        unfold yielded
        rw [ht]
        have := hE.slot t (by rw [hb]; rfl)
        rw [hb] at this
        simp only [Option.bind_some, this]
        rfl
      have hw : Region.wanted o (yielded all a.tmps) = (some b == some want) := by simp [Region.wanted, hg, hy]
      rw [hw]
      by_cases hbw : b = want
      · subst hbw
        rw [if_pos (by simp)]
        exact run (h.1 rfl)
      · rw [if_neg (by simpa using hbw)]
        have hbn : b = !want := by cases b <;> cases want <;> simp_all
        exact not_ (hK _ _ _ _ (h.2 hbn) (hE.put o.dst hd' _ _ (fun _ => rfl)) hH)
    · rename_i l hs
      obtain ⟨t, ht, hb⟩ := Option.map_eq_some_iff.1 hs
      have hy : yielded all a.tmps j = none := by
        unfold yielded
        rw [ht]
        have := hE.slot t (by rw [hb]; rfl)
        rw [hb] at this
        simp only [Option.bind_some, this]
        rfl
      have hw : Region.wanted o (yielded all a.tmps) = false := by simp [Region.wanted, hg, hy]
      rw [hw, if_neg (by simp)]
      exact not_ (hK _ _ _ _ h (hE.put o.dst hd' _ _ (fun _ => rfl)) hH)
    · exact h.elim
theorem vcOps_in (X : Ctx P) (ro : Option Nat) (k : Nat) (ds : List Deferred) (all : Array Oper) {Q : Exit → Act → World → Prop} : ∀ (l : List Oper) (env : Env) (H : Heap) (a : Act) (w : World) (K : Env → Heap → Prop), EnvOk n env a → HSat w0 M H w → vcOps X n all l env H K →
    (∀ env' H' a' w', K env' H' → EnvOk n env' a' → HSat w0 M H' w' → Q .normal (setD a' ds) w') → wpListIn (fen ro) k P all Q l (setD a ds) w
  | [], env, H, a, w, K, hE, hH, h, hQ => hQ env H a w h hE hH
  | o :: r, env, H, a, w, K, hE, hH, h, hQ => by
    simp only [wpListIn]
    exact gT_in X ro k ds all o hE hH h.1 h.2 Q _ fun v u a' w' hv hE' hH' => vcOps_in X ro k ds all r _ _ a' w' K hE' hH' hv hQ
theorem region_in (X : Ctx P) (ro : Option Nat) (k : Nat) (ds : List Deferred) {id : Nat} {ops : Array Oper} {Q : Exit → Act → World → Prop} {env : Env} {H : Heap} {a : Act} {w : World} {K : Env → Heap → Prop} (hE : EnvOk n env a) (hH : HSat w0 M H w) (h : vcOps X n ops ops.toList env H K)
    (hQ : ∀ env' H' a' w', K env' H' → EnvOk n env' a' → HSat w0 M H' w' → Q .normal (setD a' ds) w') : (Code.region id ops false).wpIn (fen ro) k P Q (setD a ds) w :=
  wpIn_region (by
    rw [List.range_eq_range', ← Array.length_toList, wpOpsIn_eq_wpListIn ops.toList 0 (by simp)]
    exact vcOps_in X ro k ds ops ops.toList env H a w K hE hH h hQ)
theorem any_in (X : Ctx P) (ro : Option Nat) (k : Nat) (ds : List Deferred) (ops : Array Oper) (tab : List (List Nat)) (hO : orderOk ops tab = true) {Q : Exit → Act → World → Prop} {K : Env → Heap → Prop}
    (hQ : ∀ env' H' a' w', K env' H' → EnvOk n env' a' → HSat w0 M H' w' → Q .normal (setD a' ds) w') : ∀ (fuel : Nat) (listed : Array Bool) (l : Ops) (env : Env) (H : Heap) (a : Act) (w : World),
    listed.size = ops.size → l.length = fuel → l.Pairwise (fun p q => p.1 < q.1) → (∀ i o, (i, o) ∈ l ↔ listed.getD i true = false ∧ ops[i]? = some o) →
    (∀ k ok, ops[k]? = some ok → listed.getD k false = true → ∀ e ∈ ok.after, Region.binds .any e = true → listed.getD e.on false = true) →
    EnvOk n env a → HSat w0 M H w → vcD X n ops tab l [] env H K → wpAnyIn (fen ro) k P .any ops Q fuel listed (setD a ds) w := by
  intro fuel
  induction fuel with
  | zero =>
    intro listed l env H a w hsz hlen _ hl _ hE hH h
    obtain rfl : l = [] := List.eq_nil_of_length_eq_zero hlen
    refine ⟨?_, hQ env H a w h hE hH⟩
    by_cases hr : Region.ready .any ops listed = []
    · exact hr
    · obtain ⟨j, hj⟩ := List.exists_mem_of_ne_nil _ hr
      obtain ⟨h0, o, ho, _⟩ := mem_ready.1 hj
      have := (hl j o).2 ⟨h0, ho⟩
      cases this
  | succ fuel ih =>
    intro listed l env H a w hsz hlen hs hl hcl hE hH h
    constructor
    · intro hr
      -- the least one that is left may come up
      exfalso
      cases l with
      | nil => simp at hlen
      | cons p r =>
        obtain ⟨i, o⟩ := p
        obtain ⟨h0, ho⟩ := (hl i o).1 (by simp)
        have hmem : i ∈ Region.ready .any ops listed := by
          refine mem_ready.2 ⟨h0, o, ho, fun e he hb => ?_⟩
          have hlt := (orderOk_spec hO i o ho).1 e he hb
          cases hek : listed.getD e.on true with
          | true =>
            have hlt2 : e.on < listed.size := by have := (Array.getElem?_eq_some_iff.1 ho).1; omega
            rw [Array.getD_eq_getD_getElem?, Array.getElem?_eq_getElem hlt2] at hek ⊢
            exact hek
          | false =>
            have hlt2 : e.on < ops.size := by have := (Array.getElem?_eq_some_iff.1 ho).1; omega
            have := (hl e.on ops[e.on]).2 ⟨hek, Array.getElem?_eq_getElem hlt2⟩
            simp only [List.mem_cons, Prod.mk.injEq] at this
            rcases this with h | h
            · omega
            · have := (List.pairwise_cons.1 hs).1 _ h
              simp at this
              omega
        rw [hr] at hmem
        cases hmem
    · intro i hi
      obtain ⟨h0, oi, hoi, hpre⟩ := mem_ready.1 hi
      have hmem := (hl i oi).2 ⟨h0, hoi⟩
      have hcond : ∀ j oj, (j, oj) ∈ l → j < i → (tab.getD i []).contains j = true ∧ oi.apart ops oj = true ∧ oj.apart ops oi = true := by
        intro j oj hj hlt
        obtain ⟨hj0, hoj⟩ := (hl j oj).1 hj
        rcases (orderOk_spec hO i oi hoi).2 j hlt with ⟨h1, oj', hoj', h2, h3⟩ | hw
        · rw [hoj] at hoj'
          injection hoj' with e
          subst e
          exact ⟨h1, h2, h3⟩
        · have := waits_listed ops hcl _ i j oi hoi hpre hw
          have hlt2 : j < listed.size := by have := (Array.getElem?_eq_some_iff.1 hoj).1; omega
          rw [Array.getD_eq_getD_getElem?, Array.getElem?_eq_getElem hlt2] at this hj0
          simp at this hj0
          rw [hj0] at this
          cases this
      obtain ⟨hd, _, hT⟩ := vcD_pick X ops tab i oi l [] env H K hs hmem hcond h
      unfold wpOpIn
      rw [hoi]
      simp only
      have hilt : i < listed.size := by have := (Array.getElem?_eq_some_iff.1 hoi).1; omega
      refine gT_in X ro k ds ops oi hE hH hd hT Q _ fun v u a' w' hv hE' hH' => ih (listed.setIfInBounds i true) (l.filter fun p => p.1 != i) _ _ a' w' (by simpa using hsz) ?_ (hs.filter _) ?_ ?_ hE' hH' hv
      · have h1 := filter_len l i oi hs hmem
        omega
      · intro k ok
        simp only [List.mem_filter, hl k ok]
        by_cases hk : k = i
        · subst hk
          simp [hilt]
        · rw [getD_set_ne true (Ne.symm hk)]
          simp [hk]
      · intro k ok hok hk e he hb
        by_cases hki : k = i
        · subst hki
          rw [hoi] at hok
          injection hok with hok
          subst hok
          exact getD_set_true (hpre e he hb)
        · rw [getD_set_ne false (Ne.symm hki)] at hk
          exact getD_set_true (hcl k ok hok hk e he hb)
where
  filter_len (l : Ops) (i : Nat) (oi : Oper) (hs : l.Pairwise fun p q => p.1 < q.1) (hm : (i, oi) ∈ l) : (l.filter fun p => p.1 != i).length + 1 = l.length := by
    induction l with
    | nil => cases hm
    | cons p r ih =>
      obtain ⟨h1, h2⟩ := List.pairwise_cons.1 hs
      by_cases hp : p.1 = i
      · have hf : r.filter (fun p => p.1 != i) = r := List.filter_eq_self.2 fun q hq => by have := h1 q hq; simp; omega
        rw [List.filter_cons_of_neg (by simp [hp]), hf]
        rfl
      · rw [List.filter_cons_of_pos (by simpa using hp)]
        have : (i, oi) ∈ r := by
          simp only [List.mem_cons] at hm
          rcases hm with h | h
          · exact absurd (by rw [← h]) hp
          · exact h
        have := ih h2 this
        simp only [List.length_cons]
        omega
theorem regionD_in (X : Ctx P) (ro : Option Nat) (k : Nat) (ds : List Deferred) (hm : P.follows .mixedOrders = true) {id : Nat} {ops : Array Oper} (tab : List (List Nat)) (hO : orderOk ops tab = true) {Q : Exit → Act → World → Prop} {env : Env} {H : Heap} {a : Act} {w : World} {K : Env → Heap → Prop} (hE : EnvOk n env a) (hH : HSat w0 M H w) (h : vcD X n ops tab (pairs 0 ops.toList) [] env H K)
    (hQ : ∀ env' H' a' w', K env' H' → EnvOk n env' a' → HSat w0 M H' w' → Q .normal (setD a' ds) w') : (Code.region id ops true).wpIn (fen ro) k P Q (setD a ds) w := by
  refine wpIn_region_any hm ?_
  refine any_in X ro k ds ops tab hO hQ ops.size _ (pairs 0 ops.toList) env H a _ (by simp) ?_ (pairs_sorted _ _) ?_ ?_ hE hH.drew h
  · have : ∀ (l : List Oper) (k : Nat), (pairs k l).length = l.length := by
      intro l
      induction l with
      | nil => intro k; rfl
      | cons o r ih => intro k; simp [pairs, ih]
    rw [this]
    simp
  · intro i o
    rw [pairs_mem]
    simp only [Nat.zero_le, true_and, Nat.sub_zero, Array.getElem?_toList]
    constructor
    · intro h
      have hlt := (Array.getElem?_eq_some_iff.1 h).1
      exact ⟨by simp [hlt], h⟩
    · exact fun h => h.2
  · intro k ok hk hl
    have hlt := (Array.getElem?_eq_some_iff.1 hk).1
    simp [hlt] at hl
/-! ### Texts without loops -/
def simpC (tabs : Tabs) : Code → Bool
  | .skip => true
  | .region id ops draw => if draw then orderQ ops (tabOf tabs id) else true
  | .seq a b => simpC tabs a && simpC tabs b
  | .cond _ a b => simpC tabs a && simpC tabs b
  | .block _ a => simpC tabs a
  | .exit _ => true
  | .ret => true
  | _ => false
def liftI (n : Nat) (w0 : World) (M : Nat → Prop) (ds : List Deferred) (Q : QT) : Exit → Act → World → Prop := fun e a w => lift n w0 M Q e (setD a []) w ∧ a.defers = ds
theorem setD_nil {env : Env} {a : Act} (hE : EnvOk n env a) (ds : List Deferred) : setD (setD a ds) [] = a := setD_self hE.defers
theorem vcE_in {F : TT} (hF : TTok P F) (l : List (ESpec P)) (hm : P.follows .mixedOrders = true) (ro : Option Nat) (k : Nat) (ds : List Deferred) (tabs : Tabs) : ∀ (c : Code), simpC tabs c = true → ∀ (Q : QT) (env : Env) (H : Heap), vcE kid P F (lookT l) (lookE l) n tabs c Q env H → ∀ (w0 : World) (M : Nat → Prop) (a : Act) (w : World), EnvOk n env a → HSat w0 M H w → c.wpIn (fen ro) k P (liftI n w0 M ds Q) (setD a ds) w
  | .skip, _, Q, env, H, h, w0, M, a, w, hE, hH => wpIn_skip ⟨by rw [setD_nil hE]; exact ⟨env, H, h, hE, hH⟩, rfl⟩
  | .region id ops draw, ht, Q, env, H, h, w0, M, a, w, hE, hH => by
    simp only [simpC] at ht
    cases draw with
    | true =>
      rw [if_pos rfl] at ht
      simp only [vcE] at h
      exact regionD_in (ctxOf F hF (baseOf l)) ro k ds hm (tabOf tabs id) (orderQ_ok ht) hE hH (vcDE_eq F hF l n ops _ _ _ _ _ _ h) fun env' H' a' w' hQ hE' hH' => ⟨by rw [setD_nil hE']; exact ⟨env', H', hQ, hE', hH'⟩, rfl⟩
    | false =>
      simp only [vcE] at h
      exact region_in (ctxOf F hF (baseOf l)) ro k ds hE hH (vcOpsE_eq F hF l n ops _ _ _ _ h) fun env' H' a' w' hQ hE' hH' => ⟨by rw [setD_nil hE']; exact ⟨env', H', hQ, hE', hH'⟩, rfl⟩
  | .seq x y, ht, Q, env, H, h, w0, M, a, w, hE, hH => by
    simp only [simpC, Bool.and_eq_true] at ht
    refine wpIn_seq (wpIn_mono (vcE_in hF l hm ro k ds tabs x ht.1 _ env H h w0 M a w hE hH) ?_)
    rintro e a' w' ⟨hq, hd⟩
    cases e with
    | normal =>
      obtain ⟨env', H', hv, hE', hH'⟩ := hq
      have := vcE_in hF l hm ro k ds tabs y ht.2 Q env' H' hv w0 M (setD a' []) w' hE' hH'
      rw [show setD (setD a' []) ds = a' from setD_self (a := a') hd] at this
      exact this
    | ret => exact ⟨hq, hd⟩
    | exit id => exact ⟨hq, hd⟩
    | _ => exact ⟨hq, hd⟩
  | .cond c t e, ht, Q, env, H, h, w0, M, a, w, hE, hH => by
    simp only [simpC, Bool.and_eq_true] at ht
    simp only [vcE] at h
    split at h
    · rename_i b hc
      refine wpIn_cond (t := b) (by rw [setD_eval]; exact eval_v hE hc) ?_
      cases b with
      | true => exact vcE_in hF l hm ro k ds tabs t ht.1 Q env H h w0 M a w hE hH
      | false => exact vcE_in hF l hm ro k ds tabs e ht.2 Q env H h w0 M a w hE hH
    · exact h.elim
  | .block id c, ht, Q, env, H, h, w0, M, a, w, hE, hH => by
    simp only [simpC] at ht
    refine wpIn_block (wpIn_mono (vcE_in hF l hm ro k ds tabs c ht _ env H h w0 M a w hE hH) ?_)
    rintro e a' w' ⟨hq, hd⟩
    cases e with
    | exit id' =>
      obtain ⟨env', H', hv, hE', hH'⟩ := hq
      simp only [inBlk] at hv
      simp only [Exit.inBlock]
      split
      · rename_i hid
        rw [if_pos hid] at hv
        exact ⟨⟨env', H', hv, hE', hH'⟩, hd⟩
      · rename_i hid
        rw [if_neg hid] at hv
        exact ⟨⟨env', H', hv, hE', hH'⟩, hd⟩
    | normal => exact ⟨hq, hd⟩
    | ret => exact ⟨hq, hd⟩
    | _ => exact ⟨hq, hd⟩
  | .exit id, _, Q, env, H, h, w0, M, a, w, hE, hH => wpIn_exit ⟨by rw [setD_nil hE]; exact ⟨env, H, h, hE, hH⟩, rfl⟩
  | .ret, _, Q, env, H, h, w0, M, a, w, hE, hH => wpIn_ret ⟨by rw [setD_nil hE]; exact ⟨env, H, h, hE, hH⟩, rfl⟩
  | .loop _, ht, _, _, _, _, _, _, _, _, _, _ => by cases ht
  | .rangeFunc _ _ _ _, ht, _, _, _, _, _, _, _, _, _, _ => by cases ht
  | .scope _, ht, _, _, _, _, _, _, _, _, _, _ => by cases ht
  | .label _, ht, _, _, _, _, _, _, _, _, _, _ => by cases ht
  | .goto _, ht, _, _, _, _, _, _, _, _, _, _ => by cases ht
  | .refuse _, ht, _, _, _, _, _, _, _, _, _, _ => by cases ht
/-! ### Steps that turn nothing that is tracked -/
def mutH (H : Heap) (g : Nat) : Prop := ∃ i e, H i = some e ∧ e.mut = true ∧ e.block = some g
variable {H : Heap} {w : World}
theorem HSat.self (h : HSat w0 M H w) : HSat w (mutH H) H w := ⟨Fr.refl w _, h.holds, h.lt, fun i e hi hm g hg => .inr ⟨i, e, hi, hm, hg⟩, h.sep⟩
theorem HSat.over {H' : Heap} {w' : World} (h : HSat w0 M H w) (h2 : HSat w (mutH H) H' w') : HSat w0 M H' w' := by
  refine ⟨⟨h2.fr.os.trans h.fr.os, h2.fr.tape.trans h.fr.tape, h2.fr.output.trans h.fr.output, Nat.le_trans h.fr.size h2.fr.size, fun k hk hM => ?_⟩, h2.holds, h2.lt, fun i e hi hm g hg => ?_, h2.sep⟩
  · rw [h2.fr.block k (Nat.lt_of_lt_of_le hk h.fr.size) (fun ⟨i, e, hi, hm, hg⟩ => by
      rcases h.own i e hi hm k hg with h1 | h1
      · omega
      · exact hM h1)]
    exact h.fr.block k hk hM
  · rcases h2.own i e hi hm g hg with h1 | ⟨j, e', hj, hm', hg'⟩
    · exact .inl (Nat.le_trans h.fr.size h1)
    · exact h.own j e' hj hm' g hg'
theorem ent_cells {e : Ent} (h : e.holds w) {g : Nat} (hg : e.block = some g) : ∃ cs t x, w.heap[g]? = some (.cells cs t x) := by
  cases e with
  | blk b t cs => injection hg with hg; subst hg; exact ⟨_, _, _, h⟩
  | row A c t z m xs =>
    simp only [Ent.block] at hg
    split at hg
    · cases hg
    · rename_i hc
      obtain ⟨g', cur, rfl, h2, _⟩ := h.2.2 (by omega)
      injection hg with hg
      subst hg
      exact ⟨_, _, _, h2⟩
  | rd A z m xs =>
    simp only [Ent.block] at hg
    split at hg
    · cases hg
    · rename_i hx
      obtain ⟨a, rfl, _, h2⟩ := h.2 hx
      injection hg with hg
      subst hg
      cases xs with
      | nil => exact absurd rfl hx
      | cons x r =>
        have := h2 0 x.den rfl
        unfold World.cell? at this
        rw [show (a.add 0) = a from if_pos rfl] at this
        split at this
        · rename_i cs t q he; exact ⟨_, _, _, he⟩
        · cases this
theorem mut_cells (h : HSat w0 M H w) {g : Nat} (hg : mutH H g) : ∃ cs t x, w.heap[g]? = some (.cells cs t x) := by
  obtain ⟨i, e, hi, _, hb⟩ := hg
  exact ent_cells (h.holds i e hi) hb
theorem mut_lt (h : HSat w0 M H w) {g : Nat} (hg : mutH H g) : g < w.heap.size := by
  obtain ⟨i, e, hi, _, hb⟩ := hg
  exact h.lt i e hi g hb
theorem HSat.other {H' : Heap} {w' : World} (h : HSat w0 M H w) (h2 : HSat w (mutH H) H' w') {k : Nat} {o : Obj} (hk : w.heap[k]? = some o) (ho : o.isCells = false) : w'.heap[k]? = some o := by
  rw [h2.fr.block k (Array.getElem?_eq_some_iff.1 hk).1 (fun hm => by
    obtain ⟨cs, t, x, hc⟩ := mut_cells h hm
    rw [hk] at hc
    injection hc with hc
    subst hc
    cases ho)]
  exact hk
theorem HSat.turn {w' : World} {B : Nat} {row : Option Nat} (h : HSat w0 M H w) (hg : w.grownBy w' row) (hr : ∀ r, row = some r → B ≤ r ∧ ∃ o : Obj, w.heap[r]? = some o ∧ o.isCells = false) (hB : w0.heap.size ≤ B) : HSat w0 M H w' := by
  have far : ∀ i e, H i = some e → ∀ g, e.block = some g → w'.heap[g]? = w.heap[g]? := fun i e hi g hgb => by
    refine hg.block g (h.lt i e hi g hgb) fun e' => ?_
    obtain ⟨_, o, ho, hc⟩ := hr g e'.symm
    obtain ⟨cs, t, x, h2⟩ := ent_cells (h.holds i e hi) hgb
    rw [ho] at h2
    injection h2 with h2
    subst h2
    cases hc
  refine ⟨⟨hg.os.trans h.fr.os, hg.tape.trans h.fr.tape, hg.output.trans h.fr.output, Nat.le_trans h.fr.size hg.size, fun k hk hM => ?_⟩, fun i e hi => Ent.holds_keep (h.holds i e hi) hg.size (far i e hi), fun i e hi g hgb => Nat.lt_of_lt_of_le (h.lt i e hi g hgb) hg.size, h.own, h.sep⟩
  rw [hg.block k (Nat.lt_of_lt_of_le hk h.fr.size) (fun e' => by have := (hr k e'.symm).1; omega)]
  exact h.fr.block k hk hM
theorem HSat.alloc_ (h : HSat w0 M H w) (o : Obj) : HSat w0 M H (w.alloc o) := h.turn (B := w0.heap.size) (World.grownBy_alloc w o none) (fun r e => by cases e) (Nat.le_refl _)
theorem HSat.put_ (h : HSat w0 M H w) {l : Nat} {o : Obj} (o' : Obj) (hl : w.heap[l]? = some o) (ho : o.isCells = false) (hB : w0.heap.size ≤ l) : HSat w0 M H (w.putObj l o') :=
  h.turn (B := l) (grownBy_putObj' w l o') (fun r e => by cases e; exact ⟨Nat.le_refl _, o, hl, ho⟩) hB
end Go.Proofs.YtbcicjmepojlnaaGreat.Eng
/- Functions that hold a range over a function; no condition. -/
namespace Go.Proofs.YtbcicjmepojlnaaGreat.Eng
open Go Go.RowKit
set_option autoImplicit false
set_option linter.unusedSimpArgs false
set_option linter.unusedVariables false
variable {P : Program} {n : Nat}
def MarksOk (w0 : World) (ds : List Deferred) (w : World) : Prop := ds = [] ∨ ∃ D, ds = [{ target := .collected D, args := #[] }] ∧ w0.heap.size ≤ D ∧ w.heap[D]? = some (.deferred (some []))
theorem MarksOk.on {w0 w w' : World} {ds : List Deferred} {H H' : Heap} {M : Nat → Prop} (h : MarksOk w0 ds w) (hH : HSat w0 M H w) (h2 : HSat w (mutH H) H' w') : MarksOk w0 ds w' := by
  rcases h with h | ⟨D, e, hD, hw⟩
  · exact .inl h
  · exact .inr ⟨D, e, hD, hH.other h2 hw rfl⟩
def liftM (n : Nat) (w0 : World) (rg : Bool) (ds : List Deferred) (Q : QT) : Exit → Act → World → Prop := fun e a w => lift n w0 (fun _ => False) Q e (setD a []) w ∧ MarksOk w0 a.defers w ∧ (rg = false → a.defers = ds)
def rng : Code → Bool
  | .seq a b => rng a || rng b
  | .cond _ a b => rng a || rng b
  | .block _ a => rng a
  | .rangeFunc _ _ _ _ => true
  | _ => false
def okM (tabs : Tabs) : Code → Bool
  | .skip => true
  | .region id ops draw => if draw then orderQ ops (tabOf tabs id) else true
  | .seq a b => okM tabs a && okM tabs b && !(rng a && rng b)
  | .cond _ a b => okM tabs a && okM tabs b
  | .block _ a => okM tabs a
  | .rangeFunc _ _ a b => simpC tabs a && simpC tabs b
  | .exit _ => true
  | .ret => true
  | _ => false
structure RangeM (P : Program) (n : Nat) (tabs : Tabs) (f : Operand) (ps : Array Tmp) (as b : Code) (Q : QT) (env : Env) (H : Heap) : Prop where
  h : simpC tabs as = true → simpC tabs b = true → ∀ (w0 : World) (a : Act) (w : World), EnvOk n env a → HSat w0 (fun _ => False) H w → (Code.rangeFunc f ps as b).wpIn (fen none) 3 P (liftM n w0 true [] Q) a w
def vcM (κ : Kp) (P : Program) (F : TT) (T : FuncId → TSpec) (wr : FuncId → Bool) (n : Nat) (tabs : Tabs) : Code → QT → Env → Heap → Prop
  | .skip, Q, env, H => Q .normal env H
  | .region id ops d, Q, env, H => match d with
    | true => vcDE κ F T wr n ops (tabOf tabs id) (pairs 0 ops.toList) [] env H (atNormal Q)
    | false => vcOpsE κ F T n ops ops.toList env H (atNormal Q)
  | .seq a b, Q, env, H => vcM κ P F T wr n tabs a (thenV Q fun env H => vcM κ P F T wr n tabs b Q env H) env H
  | .cond c t e, Q, env, H => match ev env c with
    | .c (.v (.bool b)) => match b with
      | true => vcM κ P F T wr n tabs t Q env H
      | false => vcM κ P F T wr n tabs e Q env H
    | _ => False
  | .block id c, Q, env, H => vcM κ P F T wr n tabs c (inBlk id Q) env H
  | .rangeFunc f ps as b, Q, env, H => RangeM P n tabs f ps as b Q env H
  | .exit id, Q, env, H => Q (.exit id) env H
  | .ret, Q, env, H => Q .ret env H
  | _, _, _, _ => False
theorem vcM_sound {F : TT} (hF : TTok P F) (l : List (ESpec P)) (hm : P.follows .mixedOrders = true) (tabs : Tabs) : ∀ (c : Code), okM tabs c = true → ∀ (Q : QT) (env : Env) (H : Heap), vcM kid P F (lookT l) (lookE l) n tabs c Q env H →
    ∀ (w0 : World) (a : Act) (w : World) (ds : List Deferred), EnvOk n env a → HSat w0 (fun _ => False) H w → MarksOk w0 ds w → (rng c = true → ds = []) → c.wpIn (fen none) 3 P (liftM n w0 (rng c) ds Q) (setD a ds) w
  | .skip, _, Q, env, H, h, w0, a, w, ds, hE, hH, hk, hr => wpIn_skip ⟨by rw [setD_nil hE]; exact ⟨env, H, h, hE, hH⟩, hk, fun _ => rfl⟩
  | .region id ops draw, ht, Q, env, H, h, w0, a, w, ds, hE, hH, hk, hr => by
    simp only [okM] at ht
    cases draw with
    | true =>
      rw [if_pos rfl] at ht
      simp only [vcM] at h
      exact regionD_in (ctxOf F hF (baseOf l)) none 3 ds hm (tabOf tabs id) (orderQ_ok ht) hE hH.self (vcDE_eq F hF l n ops _ _ _ _ _ _ h) fun env' H' a' w' hQ hE' hH' => ⟨by rw [setD_nil hE']; exact ⟨env', H', hQ, hE', hH.over hH'⟩, hk.on hH hH', fun _ => rfl⟩
    | false =>
      simp only [vcM] at h
      exact region_in (ctxOf F hF (baseOf l)) none 3 ds hE hH.self (vcOpsE_eq F hF l n ops _ _ _ _ h) fun env' H' a' w' hQ hE' hH' => ⟨by rw [setD_nil hE']; exact ⟨env', H', hQ, hE', hH.over hH'⟩, hk.on hH hH', fun _ => rfl⟩
  | .seq x y, ht, Q, env, H, h, w0, a, w, ds, hE, hH, hk, hr => by
    simp only [okM, Bool.and_eq_true, Bool.not_eq_true', Bool.and_eq_false_iff] at ht
    simp only [rng, Bool.or_eq_true] at hr
    refine wpIn_seq (wpIn_mono (vcM_sound hF l hm tabs x ht.1.1 _ env H h w0 a w ds hE hH hk (fun hx => hr (.inl hx))) ?_)
    rintro e a' w' ⟨hq, hk', hd⟩
    have up : (rng x || rng y) = false → rng x = false ∧ rng y = false := fun h => by rw [Bool.or_eq_false_iff] at h; exact h
    cases e with
    | normal =>
      obtain ⟨env', H', hv, hE', hH'⟩ := hq
      have := vcM_sound hF l hm tabs y ht.1.2 Q env' H' hv w0 (setD a' []) w' a'.defers hE' hH' hk' (fun hy => by
        rcases ht.2 with h1 | h1
        · rw [hd h1, hr (.inr hy)]
        · rw [hy] at h1; cases h1)
      rw [show setD (setD a' []) a'.defers = a' from rfl] at this
      refine wpIn_mono this ?_
      rintro e2 a2 w2 ⟨g1, g2, g3⟩
      have g4 : (rng x || rng y) = false → a2.defers = ds := fun h => (g3 (up h).2).trans (hd (up h).1)
      cases e2 <;> exact ⟨g1, g2, g4⟩
    | ret => exact ⟨hq, hk', fun h => hd (up h).1⟩
    | exit id => exact ⟨hq, hk', fun h => hd (up h).1⟩
    | _ => exact ⟨hq, hk', fun h => hd (up h).1⟩
  | .cond c t e, ht, Q, env, H, h, w0, a, w, ds, hE, hH, hk, hr => by
    simp only [okM, Bool.and_eq_true] at ht
    simp only [rng, Bool.or_eq_true] at hr
    simp only [vcM] at h
    have up : (rng t || rng e) = false → rng t = false ∧ rng e = false := fun h => by rw [Bool.or_eq_false_iff] at h; exact h
    split at h
    · rename_i b hc
      refine wpIn_cond (t := b) (by rw [setD_eval]; exact eval_v hE hc) ?_
      cases b with
      | true => exact wpIn_mono (vcM_sound hF l hm tabs t ht.1 Q env H h w0 a w ds hE hH hk (fun hx => hr (.inl hx))) fun e2 a2 w2 ⟨g1, g2, g3⟩ => ⟨g1, g2, fun h => g3 (up h).1⟩
      | false => exact wpIn_mono (vcM_sound hF l hm tabs e ht.2 Q env H h w0 a w ds hE hH hk (fun hx => hr (.inr hx))) fun e2 a2 w2 ⟨g1, g2, g3⟩ => ⟨g1, g2, fun h => g3 (up h).2⟩
    · exact h.elim
  | .block id c, ht, Q, env, H, h, w0, a, w, ds, hE, hH, hk, hr => by
    simp only [okM] at ht
    refine wpIn_block (wpIn_mono (vcM_sound hF l hm tabs c ht _ env H h w0 a w ds hE hH hk hr) ?_)
    rintro e a' w' ⟨hq, hk', hd⟩
    cases e with
    | exit id' =>
      obtain ⟨env', H', hv, hE', hH'⟩ := hq
      simp only [inBlk] at hv
      simp only [Exit.inBlock]
      split
      · rename_i hid
        rw [if_pos hid] at hv
        exact ⟨⟨env', H', hv, hE', hH'⟩, hk', hd⟩
      · rename_i hid
        rw [if_neg hid] at hv
        exact ⟨⟨env', H', hv, hE', hH'⟩, hk', hd⟩
    | normal => exact ⟨hq, hk', hd⟩
    | ret => exact ⟨hq, hk', hd⟩
    | _ => exact ⟨hq, hk', hd⟩
  | .rangeFunc f ps as b, ht, Q, env, H, h, w0, a, w, ds, hE, hH, hk, hr => by
    simp only [okM, Bool.and_eq_true] at ht
    simp only [vcM] at h
    have hds : ds = [] := hr rfl
    subst hds
    rw [show setD a [] = a from setD_self hE.defers]
    exact h.h ht.1 ht.2 w0 a w hE hH
  | .exit id, _, Q, env, H, h, w0, a, w, ds, hE, hH, hk, hr => wpIn_exit ⟨by rw [setD_nil hE]; exact ⟨env, H, h, hE, hH⟩, hk, fun _ => rfl⟩
  | .ret, _, Q, env, H, h, w0, a, w, ds, hE, hH, hk, hr => wpIn_ret ⟨by rw [setD_nil hE]; exact ⟨env, H, h, hE, hH⟩, hk, fun _ => rfl⟩
  | .loop _, ht, _, _, _, _, _, _, _, _, _, _, _, _ => by cases ht
  | .scope _, ht, _, _, _, _, _, _, _, _, _, _, _, _ => by cases ht
  | .label _, ht, _, _, _, _, _, _, _, _, _, _, _, _ => by cases ht
  | .goto _, ht, _, _, _, _, _, _, _, _, _, _, _, _ => by cases ht
  | .refuse _, ht, _, _, _, _, _, _, _, _, _, _, _, _ => by cases ht
theorem callsM {F : TT} (hF : TTok P F) (l : List (ESpec P)) (hm : P.follows .mixedOrders = true) {f : FuncId} {fn : Func} {c : Code} (tabs : Tabs) (hf : P.funcs[f]? = some fn) (hb : fn.body = some c) (ht : okM tabs c = true) (vs : Array Value) (L : List (Nat × SV)) (H : Heap) (w : World)
    (hn : fn.ntmps = n) (rs : List ResultVar) (hrs : fn.results.toList = rs) (hvs : vs.size ≤ n) (hL : ∀ p ∈ L, vs[p.1]? = some p.2.den) (hH : HSat w (fun _ => False) H w) (R : SV → Heap → Prop) {κ : Kp} (hκ : κ = kid) (h : ∀ P', P' = P → vcM κ P' F (lookT l) (lookE l) n tabs c (retQK κ F rs R) (envOf L) H) :
    Calls P f vs w fun e w' => ∃ v H', e = .returned v.den ∧ R v H' ∧ HSat w (fun _ => False) H' w' := by
  have h0 := h P rfl
  subst hκ
  rw [retQK_eq] at h0
  subst hn hrs
  refine (callsIn_wide (n := 3)).1 (callsIn_of_wp_marks hf hb trivial ?_ rfl)
  have hE : EnvOk fn.ntmps (envOf L) { tmps := vs ++ Array.replicate (fn.ntmps - vs.size) undef, defers := [] } := ⟨by simp; omega, fun t htk => by
    obtain ⟨v, hv, e⟩ := envOf_some L t htk
    have := hL _ hv
    rw [e]
    have hlt : t < vs.size := (Array.getElem?_eq_some_iff.1 this).1
    rw [Array.getElem?_append_left hlt]
    exact this, rfl⟩
  have base := vcM_sound hF l hm tabs c ht _ _ _ h0 w _ w [] hE hH (.inl rfl) (fun _ => rfl)
  refine wpIn_mono (F := fen none) base ?_
  -- the ways out
  have out : ∀ (env' : Env) (H' : Heap) (a' : Act) (w' : World), retQE F fn.results.toList R .ret env' H' → EnvOk fn.ntmps env' (setD a' []) → HSat w (fun _ => False) H' w' → MarksOk w a'.defers w' →
      LeavesInM Fence.wide 3 P fn a'.tmps (fun e w' => ∃ v H', e = .returned v.den ∧ R v H' ∧ HSat w (fun _ => False) H' w') a'.defers .returning w' := by
    intro env' H' a' w' hr hE' hH' hk
    have fin : ∀ w2, HSat w (fun _ => False) H' w2 → LeavesInM Fence.wide 3 P fn a'.tmps (fun e w' => ∃ v H', e = .returned v.den ∧ R v H' ∧ HSat w (fun _ => False) H' w') [] .returning w2 := fun w2 hH2 => by
      obtain ⟨v, hR, hrun⟩ := results_sound hE' hH2 R (retQE_sound hF _ R .ret env' H' hr)
      exact ⟨v.den, hrun, v, H', rfl, hR, hH2⟩
    rcases hk with hk | ⟨D, hk, hD, hw⟩
    · rw [hk]
      exact fin w' hH'
    · rw [hk]
      exact ⟨by simp, .inl ⟨D, _, rfl, run_takeDeferred hw, fin _ (hH'.put_ _ hw rfl hD)⟩⟩
  rintro e a' w' ⟨hq, hk, _⟩
  cases e with
  | normal =>
    obtain ⟨env', H', hr, hE', hH'⟩ := hq
    exact out env' H' a' w' hr hE' hH' hk
  | ret =>
    obtain ⟨env', H', hr, hE', hH'⟩ := hq
    exact out env' H' a' w' hr hE' hH' hk
  | exit id =>
    obtain ⟨env', H', hr, _, _⟩ := hq
    exact hr.elim
  | goto l => exact hq.elim
  | panic ch => exact hq.elim
  | outgrown => exact hq.elim
end Go.Proofs.YtbcicjmepojlnaaGreat.Eng
