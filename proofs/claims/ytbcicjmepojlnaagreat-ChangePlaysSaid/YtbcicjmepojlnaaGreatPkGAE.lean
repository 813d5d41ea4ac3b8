/- Texts of this work, laid together: symbolic execution over the model, contracts of the program's functions, what they come to; conditions: as each says. -/
import Derived.Tactics
import Derived.Test.YtbcicjmepojlnaaGreatPkGAD
/- Each operation's predicate is 'what is asked, and whatever may come of it'; what it looks at; what it turns; no condition. -/
namespace Go.Proofs.YtbcicjmepojlnaaGreat.Eng
open Go Go.RowKit
set_option autoImplicit false
set_option linter.unusedSimpArgs false
set_option linter.unusedVariables false
variable {P : Program} {F : TT}
def Conj (T : KT → Prop) (ks : List Nat) : Prop := ∃ (s : Prop) (R : SV → Upd → Prop), (s → ∃ v u, R v u) ∧ (∀ v u, R v u → ∀ p ∈ u, p.1 ∈ ks) ∧ ∀ K, T K ↔ s ∧ ∀ v u, R v u → K v u
theorem Conj.one {ks : List Nat} (v : SV) (u : Upd) (hu : ∀ p ∈ u, p.1 ∈ ks) : Conj (fun K => K v u) ks :=
  ⟨True, fun v' u' => v' = v ∧ u' = u, fun _ => ⟨v, u, rfl, rfl⟩, fun v' u' h => by rw [h.2]; exact hu, fun K => ⟨fun h => ⟨trivial, fun v' u' e => by rw [e.1, e.2]; exact h⟩, fun h => h.2 v u ⟨rfl, rfl⟩⟩⟩
theorem Conj.none_ {ks : List Nat} (v : SV) : Conj (fun K => K v []) ks := .one v [] (by simp)
theorem Conj.false_ {ks : List Nat} : Conj (fun _ => False) ks := ⟨False, fun _ _ => False, fun h => h.elim, fun _ _ h => h.elim, fun K => ⟨fun h => h.elim, fun h => h.1⟩⟩
theorem Conj.and_ {T : KT → Prop} {ks : List Nat} (p : Prop) (h : Conj T ks) : Conj (fun K => p ∧ T K) ks := by
  obtain ⟨s, R, h0, h1, h2⟩ := h
  exact ⟨p ∧ s, R, fun h => h0 h.2, h1, fun K => by show p ∧ T K ↔ _; rw [h2 K, and_assoc]⟩
theorem Conj.all_ {α : Type} {ks : List Nat} [Inhabited α] (f : α → SV) (g : α → Upd) (hu : ∀ x, ∀ p ∈ g x, p.1 ∈ ks) : Conj (fun K => ∀ x, K (f x) (g x)) ks :=
  ⟨True, fun v u => ∃ x, v = f x ∧ u = g x, fun _ => ⟨f default, g default, default, rfl, rfl⟩, fun v u ⟨x, h⟩ => by rw [h.2]; exact hu x,
   fun K => ⟨fun h => ⟨trivial, fun v u ⟨x, e⟩ => by rw [e.1, e.2]; exact h x⟩, fun h x => h.2 _ _ ⟨x, rfl, rfl⟩⟩⟩
theorem Conj.ex {α : Type} {ks : List Nat} {p : α → Prop} {T : α → KT → Prop} (hu : ∀ x y, p x → p y → x = y) (h : ∀ x, p x → Conj (T x) ks) : Conj (fun K => ∃ x, p x ∧ T x K) ks := by
  by_cases hp : ∃ x, p x
  · obtain ⟨x, hx⟩ := hp
    obtain ⟨s, R, h0, h1, h2⟩ := h x hx
    refine ⟨s, R, h0, h1, fun K => ?_⟩
    rw [← h2 K]
    exact ⟨fun ⟨y, hy, hT⟩ => by rw [hu x y hx hy]; exact hT, fun hT => ⟨x, hx, hT⟩⟩
  · exact ⟨False, fun _ _ => False, fun h => h.elim, fun _ _ h => h.elim, fun K => ⟨fun ⟨x, hx, _⟩ => absurd ⟨x, hx⟩ hp, fun h => h.1.elim⟩⟩
theorem Conj.congr {T T' : KT → Prop} {ks : List Nat} (h : Conj T ks) (he : ∀ K, T' K ↔ T K) : Conj T' ks := by
  obtain ⟨s, R, h0, h1, h2⟩ := h
  exact ⟨s, R, h0, h1, fun K => (he K).trans (h2 K)⟩
def wset (wr : FuncId → Bool) (o : Op) (ids : List Nat) (d : Nat) : List Nat := match o with
  | .alloc _ => [d]
  | .box _ _ => [d]
  | .buildSlice _ _ _ => [d]
  | .makeSlice _ _ _ => [d]
  | .store _ _ _ => ids
  | .slice _ _ _ _ _ => d :: ids
  | .call c => match c.callee with
    | .value (.func f) => if wr f then d :: (d + 100000) :: (d + 200000) :: ids else [d, d + 100000, d + 200000]
    | .value (.tmp _) => d :: (d + 100000) :: (d + 200000) :: ids
    | .builtin .append => d :: ids
    | _ => []
  | _ => []
theorem bin_conj (op : BinOp) (t : TypeId) (x y : SV) (ks : List Nat) : Conj (binT F op t x y) ks := by
  unfold binT
  split
  · rename_i k i k' j
    split
    · exact .and_ _ (.none_ _)
    · exact .and_ _ (.and_ _ (.none_ _))
    · exact .and_ _ (.and_ _ (.none_ _))
    · refine .and_ _ ?_
      split
      · exact .none_ _
      · exact .false_
  · refine .and_ _ ?_
    split
    · exact .none_ _
    · exact .none_ _
    · exact .false_
  · split
    · exact .and_ _ (.none_ _)
    · exact .and_ _ (.none_ _)
    · exact .and_ _ .false_
  · split
    · split
      · split
        · exact .none_ _
        · exact .false_
      · exact .false_
    · split
      · split
        · exact .none_ _
        · exact .false_
      · exact .false_
    · exact .false_
  · refine .and_ _ ?_
    split
    · exact .false_
    · split
      · exact .none_ _
      · exact .none_ _
      · exact .false_
  · exact .false_
theorem load_conj (t : TypeId) (x : SV) (H : Heap) (ks : List Nat) : Conj (loadT F t x H) ks := by
  unfold loadT
  have one : ∀ (r : Option C), Conj (fun K => match r with
      | some x => K (.c x) []
      | none => False) ks := by
    intro r
    cases r with
    | none => exact .false_
    | some x => exact .none_ _
  split
  · rename_i id b off
    split
    · refine .and_ _ ?_
      split
      · exact .and_ _ (.none_ _)
      · exact one _
      · exact .false_
    · exact .false_
  · rename_i id A k
    split
    · refine .and_ _ ?_
      split
      · exact .and_ _ (.and_ _ (.none_ _))
      · exact one _
      · exact .false_
    · refine .and_ _ ?_
      split
      · exact .and_ _ (.and_ _ (.none_ _))
      · exact one _
      · exact .false_
    · exact .false_
  · exact .false_
theorem store_conj (t : TypeId) (x y : SV) (H : Heap) (ks : List Nat) (hk : ∀ i ∈ x.ids, i ∈ ks) : Conj (storeT F t x y H) ks := by
  unfold storeT
  split
  · exact .false_
  · refine .and_ _ (.and_ _ ?_)
    split
    · rename_i id b off
      split
      · exact .and_ _ (.and_ _ (.one _ _ (by simp; exact hk id (by simp [SV.ids, C.ids]))))
      · exact .false_
    · rename_i id A k
      split
      · exact .and_ _ (.and_ _ (.and_ _ (.one _ _ (by simp; exact hk id (by simp [SV.ids, C.ids])))))
      · exact .false_
    · exact .false_
theorem index_conj (t : TypeId) (x y : SV) (H : Heap) (ks : List Nat) : Conj (indexT F t x y H) ks := by
  unfold indexT
  split
  · split
    · exact .and_ _ (.and_ _ (.none_ _))
    · exact .false_
  · split
    · refine .and_ _ (.and_ _ (.and_ _ ?_))
      split
      · exact .and_ _ (.and_ _ (.and_ _ (.none_ _)))
      · exact .and_ _ (.and_ _ (.and_ _ (.none_ _)))
      · exact .false_
    · exact .false_
  · exact .false_
theorem append_conj (t t' : TypeId) (x y : SV) (H : Heap) (d : Nat) (ks : List Nat) (hd : d ∈ ks) (hx : ∀ i ∈ x.ids, i ∈ ks) : Conj (appendT F t t' x y H d) ks := by
  unfold appendT
  split
  · rename_i e sz bytes zs id A n c id' B m cap _
    refine .and_ _ (.and_ _ (.and_ _ (.and_ _ (.and_ _ (.and_ _ ?_)))))
    split
    · rename_i B' sz' m' ys _
      refine .and_ _ (.and_ _ (.and_ _ (.and_ _ ?_)))
      split
      · refine .and_ _ (.and_ _ (.and_ _ (.and_ _ (.and_ _ ?_))))
        refine (Conj.all_ (α := Option Addr × Nat) (fun p => .c (.sl d p.1 (n + m) p.2)) (fun p => [(id, none), (d, some (.row p.1 p.2 e sz (n + m) (_ ++ ys)))]) ?_).congr fun K => ⟨fun h p => h p.1 p.2, fun h a b => h (a, b)⟩
        intro p q hq
        simp only [List.mem_cons, List.not_mem_nil, or_false] at hq
        rcases hq with rfl | rfl
        · exact hx id (by simp [SV.ids, C.ids])
        · exact hd
      · refine .and_ _ (.and_ _ (.and_ _ ?_))
        refine (Conj.all_ (α := Option Addr × Nat) (fun p => .c (.sl d p.1 m p.2)) (fun p => [(d, some (.row p.1 p.2 e sz m ys))]) ?_).congr fun K => ⟨fun h p => h p.1 p.2, fun h a b => h (a, b)⟩
        intro p q hq
        simp only [List.mem_cons, List.not_mem_nil, or_false] at hq
        subst hq
        exact hd
      · exact .false_
    · exact .false_
  · exact .false_
theorem slice_conj (t : TypeId) (x : SV) (lo hi mx : Option SV) (H : Heap) (d : Nat) (ks : List Nat) (hd : d ∈ ks) (hx : ∀ i ∈ x.ids, i ∈ ks) : Conj (sliceT F t x lo hi mx H d) ks := by
  unfold sliceT
  split
  · rename_i id A n c l _ _
    split
    · refine .and_ _ (.and_ _ (.and_ _ ?_))
      split
      · exact .and_ _ (.and_ _ (.and_ _ (.and_ _ (.one _ _ (by simp; exact hd)))))
      · refine .and_ _ (.and_ _ (.and_ _ (.and_ _ (.and_ _ (.one _ _ ?_)))))
        intro q hq
        simp only [List.mem_cons, List.not_mem_nil, or_false] at hq
        rcases hq with rfl | rfl
        · exact hx id (by simp [SV.ids, C.ids])
        · exact hd
      · exact .false_
    · exact .false_
  · exact .false_
theorem make_conj (t : TypeId) (x y : SV) (d : Nat) (ks : List Nat) (hd : d ∈ ks) : Conj (makeT F t x y d) ks := by
  unfold makeT
  split
  · split
    · refine .and_ _ (.and_ _ (.and_ _ (.and_ _ ?_)))
      exact .all_ (fun A => .c (.sl d A _ _)) (fun A => [(d, some (.row A _ _ _ _ _))]) (by simp [hd])
    · exact .false_
  · exact .false_
theorem call_conj (X : Ctx P) (c : Call) (e : Operand → SV) (H : Heap) (d : Nat) (ids : List Nat) (hf : ∀ i ∈ footR (.call c) e, i ∈ ids) (hs : ∀ i, (H i).isSome = true → i ∈ ids) : Conj (callT X.F X.Γ c.callee (calleeV c.callee e) (c.args.toList.map e) c.argTypes H d) (wset X.wr (.call c) ids d) := by
  obtain ⟨callee, args, ts⟩ := c
  have hids : ∀ i, i ∈ (args.toList.map e).flatMap SV.ids → i ∈ footR (.call ⟨callee, args, ts⟩) e := by
    intro i hi
    unfold footR
    simp only [List.mem_flatMap, List.mem_map] at hi ⊢
    obtain ⟨s, ⟨x, hx, rfl⟩, hi⟩ := hi
    exact ⟨x, by simp only [Op.operands, Call.operands, Array.toList_append, List.mem_append]; exact .inr hx, hi⟩
  cases callee with
  | invoke r m => exact .false_
  | value f =>
    cases f with
    | func f =>
      refine .and_ _ ?_
      refine ⟨(X.Γ f (args.toList.map e) H d).side, (X.Γ f (args.toList.map e) H d).R, (X.ok f).some_ _ _ _, fun v u hR p hp => ?_, fun K => Iff.rfl⟩
      have := (X.ok f).keys _ _ _ v u hR p hp
      simp only [wset]
      rcases this with h | h | h | ⟨hw, h⟩
      · split <;> simp [h]
      · split <;> simp [h]
      · split <;> simp [h]
      · rw [hw]; simp only [if_true, List.mem_cons]; exact .inr (.inr (.inr (hs _ h)))
    | tmp t =>
      unfold callT
      dsimp only
      split
      · rename_i g i b off _
        refine .and_ _ ?_
        refine ⟨(X.Γ g (args.toList.map e ++ [.c (.loc i b off)]) H d).side, (X.Γ g (args.toList.map e ++ [.c (.loc i b off)]) H d).R, (X.ok g).some_ _ _ _, fun v u hR p hp => ?_, fun K => Iff.rfl⟩
        have := (X.ok g).keys _ _ _ v u hR p hp
        simp only [wset, List.mem_cons]
        rcases this with h | h | h | ⟨hw, h⟩
        · exact .inl h
        · exact .inr (.inl h)
        · exact .inr (.inr (.inl h))
        · exact .inr (.inr (.inr (hs _ h)))
      · exact .false_
    | const _ => exact .false_
    | global _ => exact .false_
  | builtin b =>
    cases b with
    | len => unfold callT; dsimp only; split <;> first | exact .and_ _ (.none_ _) | exact .false_
    | cap => unfold callT; dsimp only; split <;> first | exact .and_ _ (.none_ _) | exact .false_
    | max => unfold callT; dsimp only; split <;> first | exact .none_ _ | exact .false_
    | min => unfold callT; dsimp only; split <;> first | exact .none_ _ | exact .false_
    | append =>
      unfold callT
      dsimp only
      split
      · rename_i x y hxy
        refine .and_ _ (append_conj _ _ _ _ _ _ _ (by simp [wset]) (fun i hi => ?_))
        simp only [wset, List.mem_cons]
        refine .inr (hf i (hids i ?_))
        rw [hxy]
        simp [hi]
      · exact .false_
    | _ => exact .false_
theorem op_conj (X : Ctx P) (o : Op) (e : Operand → SV) (H : Heap) (d : Nat) (ids : List Nat) (hf : blind o = false → ∀ i ∈ footR o e, i ∈ ids) (hs : ∀ i, (H i).isSome = true → i ∈ ids) : Conj (opT X.F X.Γ o e H d) (wset X.wr o ids d) := by
  cases o with
  | move x => exact .none_ _
  | assign x => exact .none_ _
  | pick c x y =>
    unfold opT
    dsimp only
    split
    · rename_i t _
      cases t with
      | true => exact (Conj.none_ (e x)).congr fun K => by simp
      | false => exact (Conj.none_ (e y)).congr fun K => by simp
    · exact .false_
  | alloc t =>
    unfold opT
    dsimp only
    split
    · exact .all_ (fun b => .c (.loc d b 0)) (fun b => [(d, some (.blk b t _))]) (by simp [wset])
    · exact .false_
  | box t x =>
    unfold opT
    dsimp only
    split
    · exact .and_ _ (.all_ (fun b => .c (.loc d b 0)) (fun b => [(d, some (.blk b t _))]) (by simp [wset]))
    · exact .false_
  | build t ps =>
    unfold opT
    dsimp only
    split
    · refine .and_ _ ?_
      split
      · exact .none_ _
      · exact .false_
    · exact .false_
  | buildSlice t n ps =>
    unfold opT
    dsimp only
    split
    · refine .and_ _ (.and_ _ (.and_ _ (.and_ _ ?_)))
      split
      · exact .and_ _ (.all_ (fun A => .c (.sl d A n n)) (fun A => [(d, some (.row A n _ _ n _))]) (by simp [wset]))
      · exact .false_
    · exact .false_
  | load t x => exact load_conj t _ H _
  | store t x y => exact store_conj t _ _ H _ (fun i hi => hf rfl i (by simp only [footR, Op.operands]; simp; exact .inl hi))
  | nilCheck x =>
    unfold opT
    dsimp only
    split
    · exact .none_ _
    · exact .none_ _
    · exact .false_
  | binOp op t x y t' => exact bin_conj op t _ _ _
  | unOp op t x =>
    cases op with
    | not => unfold opT; dsimp only; split <;> first | exact .none_ _ | exact .false_
    | neg => unfold opT; dsimp only; split <;> first | exact .none_ _ | exact .false_
    | _ => exact .false_
  | convert s t x => unfold opT; dsimp only; split <;> first | exact .none_ _ | exact .false_
  | fieldAddr t x f => unfold opT; dsimp only; split <;> first | exact .none_ _ | exact .false_
  | indexAddr t x y => exact index_conj t _ _ H _
  | slice t x lo hi mx => exact slice_conj t _ _ _ _ H d _ (by simp [wset]) (fun i hi => by simp only [wset, List.mem_cons]; exact .inr (hf rfl i (by simp only [footR, Op.operands]; simp; exact .inl hi)))
  | makeFunc fn fst caps =>
    unfold opT
    dsimp only
    split
    · split
      · exact .none_ _
      · exact .false_
    · exact .false_
  | makeSlice t x y => exact make_conj t _ _ d _ (by simp [wset])
  | extract x i =>
    unfold opT
    dsimp only
    split
    · split
      · exact .false_
      · exact .none_ _
      · exact .false_
    · exact .false_
  | call c => exact call_conj X c e H d ids (hf rfl) hs
  | _ => exact .false_
theorem all_congr_ {α : Type} {f g : α → Bool} : ∀ (l : List α), (∀ x ∈ l, f x = g x) → l.all f = l.all g
  | [], _ => rfl
  | x :: r, h => by rw [List.all_cons, List.all_cons, h x (by simp), all_congr_ r fun y hy => h y (by simp [hy])]
theorem opT_congr (Γ : FuncId → Spec) (o : Op) (e e' : Operand → SV) (H : Heap) (d : Nat) (h : ∀ x ∈ o.operands, e x = e' x) : opT F Γ o e H d = opT F Γ o e' H d := by
  have pairs : ∀ ps : Array (Nat × Operand), (∀ x ∈ (ps.toList.map (·.2)), e x = e' x) → (ps.toList.map fun p => (p.1, e p.2)) = (ps.toList.map fun p => (p.1, e' p.2)) ∧ partsOk e ps = partsOk e' ps := by
    intro ps hp
    refine ⟨List.map_congr_left fun p hm => by rw [hp p.2 (List.mem_map.2 ⟨p, hm, rfl⟩)], ?_⟩
    exact all_congr_ ps.toList fun p hm => by rw [hp p.2 (List.mem_map.2 ⟨p, hm, rfl⟩)]
  cases o with
  | build t ps => obtain ⟨a, b⟩ := pairs ps (fun x hx => h x (by simpa [Op.operands] using hx)); funext K; simp only [opT, a, b]
  | buildSlice t n ps => obtain ⟨a, b⟩ := pairs ps (fun x hx => h x (by simpa [Op.operands] using hx)); funext K; simp only [opT, a, b]
  | call c =>
    have : c.args.toList.map e = c.args.toList.map e' := List.map_congr_left fun x hx => h x (by simp [Op.operands, Call.operands]; exact .inr (by simpa using hx))
    have hcal : calleeV c.callee e = calleeV c.callee e' := by
      unfold calleeV
      cases hcc : c.callee with
      | value x => exact h x (by simp [Op.operands, Call.operands, hcc])
      | _ => rfl
    funext K
    simp only [opT, this, hcal]
  | makeFunc fn fst caps =>
    funext K
    simp only [opT]
    split
    · rename_i g x hf hc
      rw [h x (by
        obtain ⟨fl⟩ := fst
        obtain ⟨cl⟩ := caps
        simp only at hf hc
        subst hf hc
        simp [Op.operands])]
    · rfl
  | slice t x lo hi mx =>
    have hx : e x = e' x := h x (by simp [Op.operands])
    have hl : lo.map e = lo.map e' := by cases lo with | none => rfl | some y => simp only [Option.map_some]; rw [h y (by simp [Op.operands])]
    have hh : hi.map e = hi.map e' := by cases hi with | none => rfl | some y => simp only [Option.map_some]; rw [h y (by simp [Op.operands])]
    have hm : mx.map e = mx.map e' := by cases mx with | none => rfl | some y => simp only [Option.map_some]; rw [h y (by simp [Op.operands])]
    funext K
    simp only [opT, hx, hl, hh, hm]
  | unOp op t x => funext K; cases op <;> simp only [opT] <;> rw [h x (by simp [Op.operands])]
  | _ =>
    funext K
    simp only [opT]
    repeat' first
      | rfl
      | (rw [h _ (by simp [Op.operands]; done)])
theorem flatMap_congr_ {α β : Type} {f g : α → List β} : ∀ (l : List α), (∀ x ∈ l, f x = g x) → l.flatMap f = l.flatMap g
  | [], _ => rfl
  | x :: r, h => by rw [List.flatMap_cons, List.flatMap_cons, h x (by simp), flatMap_congr_ r fun y hy => h y (by simp [hy])]
theorem footR_congr (o : Op) (e e' : Operand → SV) (h : ∀ x ∈ o.operands, e x = e' x) : footR o e = footR o e' :=
  flatMap_congr_ _ fun x hx => by rw [h x (by simpa using hx)]
theorem foot_congr (refs : List Nat) (H : Heap) (o : Op) (e e' : Operand → SV) (h : ∀ x ∈ o.operands, e x = e' x) : foot refs H o e = foot refs H o e' := by
  unfold foot
  rw [footR_congr o e e' h]
theorem restrict_isSome {H : Heap} {ids : List Nat} (i : Nat) (h : (restrict H ids i).isSome = true) : i ∈ ids := by
  unfold restrict at h
  split at h
  · rename_i hi; exact hi
  · cases h
theorem restrict_congr {H H' : Heap} {ids : List Nat} (h : ∀ i ∈ ids, H i = H' i) : restrict H ids = restrict H' ids := by
  funext i
  unfold restrict
  split
  · rename_i hi; exact h i hi
  · rfl
end Go.Proofs.YtbcicjmepojlnaaGreat.Eng
/- A region in whatever order: what its predicate says in the text's order; no condition. -/
namespace Go.Proofs.YtbcicjmepojlnaaGreat.Eng
open Go Go.RowKit
set_option autoImplicit false
set_option linter.unusedSimpArgs false
set_option linter.unusedVariables false
variable {P : Program} {n : Nat} {w0 : World} {M : Nat → Prop}
def gT (X : Ctx P) (all : Array Oper) (o : Oper) (env : Env) (H : Heap) (K : KT) : Prop :=
  match o.guard with
  | none => opT X.F X.Γ o.op (ev env) (restrict H (foot X.F.refs H o.op (ev env))) (o.dst.getD 0) K
  | some (j, want) => match ((all[j]?).bind (·.dst)).map env with
    | some (.c (.v (.bool b))) => (b = want → opT X.F X.Γ o.op (ev env) (restrict H (foot X.F.refs H o.op (ev env))) (o.dst.getD 0) K) ∧ (b = !want → K (.tup []) [])
    | some (.tup _) => K (.tup []) []
    | _ => False
def dstOk (n : Nat) (o : Oper) : Bool := match o.dst with
  | some d => decide (d < n)
  | none => true
theorem EnvOk.put {env : Env} {a : Act} (hE : EnvOk n env a) (dst : Option Nat) (hd : ∀ d, dst = some d → d < n) (v : SV) (x : Value) (hx : v.known = true → x = v.den) : EnvOk n (putE env dst v) (a.put dst x) := by
  cases dst with
  | none => exact hE
  | some d =>
    refine ⟨by simp [Act.put, hE.size], fun t ht => ?_, hE.defers⟩
    simp only [putE, upd_apply] at ht ⊢
    simp only [Act.put]
    by_cases h : t = d
    · subst h
      rw [if_pos rfl] at ht ⊢
      rw [Array.getElem?_setIfInBounds_self_of_lt (by rw [hE.size]; exact hd t rfl), hx ht]
    · rw [if_neg h] at ht ⊢
      rw [Array.getElem?_setIfInBounds_ne (fun e => h e.symm)]
      exact hE.slot t ht
theorem gT_sound (X : Ctx P) (all : Array Oper) (o : Oper) {Q : Exit → Act → World → Prop} {env : Env} {H : Heap} {a : Act} {w : World} {K : KT} (hE : EnvOk n env a) (hH : HSat w0 M H w) (hd : dstOk n o = true) (h : gT X all o env H K)
    (K' : Act → World → Prop) (hK : ∀ v u a' w', K v u → EnvOk n (putE env o.dst v) a' → HSat w0 M (upds H u) w' → K' a' w') :
    if Region.wanted o (yielded all a.tmps) then o.wp P a w K' Q ∨ (o.asks P a w ∧ LetsOut Q) else K' (a.put o.dst undef) w := by
  have hd' : ∀ d, o.dst = some d → d < n := by
    intro d e
    rw [dstOk, e] at hd
    exact of_decide_eq_true hd
  have run : opT X.F X.Γ o.op (ev env) (restrict H (foot X.F.refs H o.op (ev env))) (o.dst.getD 0) K → o.wp P a w K' Q ∨ (o.asks P a w ∧ LetsOut Q) := fun h1 =>
    .inl (Oper.wp_mono (fun a' w' ⟨v, u, x, hK1, ha, hx, hH'⟩ => by subst ha; exact hK v u _ _ hK1 (hE.put o.dst hd' v x hx) hH') (op_sound X o (Q := Q) hE hH _ h1))
  unfold gT at h
  split at h
  · rename_i hg
    have : Region.wanted o (yielded all a.tmps) = true := by simp [Region.wanted, hg]
    rw [if_pos this]
    exact run h
  · rename_i j want hg
    split at h
    · rename_i b hs
      obtain ⟨t, ht, hb⟩ := Option.map_eq_some_iff.1 hs
      have hy : yielded all a.tmps j = some b := by
        unfold yielded
        rw [ht]
        have := hE.slot t (by rw [hb]; rfl)
        rw [hb] at this
        simp only [Option.bind_some, this]
        rfl
      have hw : Region.wanted o (yielded all a.tmps) = (some b == some want) := by simp [Region.wanted, hg, hy]
      rw [hw]
      by_cases hbw : b = want
      · subst hbw
        rw [if_pos (by simp)]
        exact run (h.1 rfl)
      · rw [if_neg (by simpa using hbw)]
        have hbn : b = !want := by cases b <;> cases want <;> simp_all
        exact hK _ _ _ _ (h.2 hbn) (hE.put o.dst hd' _ _ (fun _ => rfl)) hH
    · rename_i l hs
      obtain ⟨t, ht, hb⟩ := Option.map_eq_some_iff.1 hs
      have hy : yielded all a.tmps j = none := by
        unfold yielded
        rw [ht]
        have := hE.slot t (by rw [hb]; rfl)
        rw [hb] at this
        simp only [Option.bind_some, this]
        rfl
      have hw : Region.wanted o (yielded all a.tmps) = false := by simp [Region.wanted, hg, hy]
      rw [hw, if_neg (by simp)]
      exact hK _ _ _ _ h (hE.put o.dst hd' _ _ (fun _ => rfl)) hH
    · exact h.elim
def vcOps (X : Ctx P) (n : Nat) (all : Array Oper) : List Oper → Env → Heap → (Env → Heap → Prop) → Prop
  | [], env, H, K => K env H
  | o :: r, env, H, K => dstOk n o = true ∧ gT X all o env H fun v u => vcOps X n all r (putE env o.dst v) (upds H u) K
theorem vcOps_sound (X : Ctx P) (all : Array Oper) {Q : Exit → Act → World → Prop} : ∀ (l : List Oper) (env : Env) (H : Heap) (a : Act) (w : World) (K : Env → Heap → Prop), EnvOk n env a → HSat w0 M H w → vcOps X n all l env H K →
    (∀ env' H' a' w', K env' H' → EnvOk n env' a' → HSat w0 M H' w' → Q .normal a' w') → wpList P all Q l a w
  | [], env, H, a, w, K, hE, hH, h, hQ => hQ env H a w h hE hH
  | o :: r, env, H, a, w, K, hE, hH, h, hQ => by
    simp only [wpList]
    exact gT_sound X all o hE hH h.1 h.2 _ fun v u a' w' hv hE' hH' => vcOps_sound X all r _ _ a' w' K hE' hH' hv hQ
theorem region_sound (X : Ctx P) {id : Nat} {ops : Array Oper} {Q : Exit → Act → World → Prop} {env : Env} {H : Heap} {a : Act} {w : World} {K : Env → Heap → Prop} (hE : EnvOk n env a) (hH : HSat w0 M H w) (h : vcOps X n ops ops.toList env H K)
    (hQ : ∀ env' H' a' w', K env' H' → EnvOk n env' a' → HSat w0 M H' w' → Q .normal a' w') : (Code.region id ops false).wp P Q a w := by
  refine wp_region ?_
  have := wpOps_eq_wpList (P := P) (Q := Q) (ops := ops) ops.toList 0 (fun j => by simp)
  rw [List.range_eq_range', show ops.size = ops.toList.length from by simp, this]
  exact vcOps_sound X ops ops.toList env H a w K hE hH h hQ
/-! ### In whatever order -/
def waits (ops : Array Oper) : Nat → Nat → Nat → Bool
  | 0, _, _ => false
  | f + 1, i, j => match ops[i]? with
    | some o => o.after.any fun e => Region.binds .any e && (e.on == j || waits ops f e.on j)
    | none => false
def orderOk (ops : Array Oper) (tab : List (List Nat)) : Bool :=
  (List.range ops.size).all fun i => match ops[i]? with
    | none => false
    | some oi => (oi.after.all fun e => !Region.binds .any e || decide (e.on < i)) && (match oi.op with | .select .. => false | _ => true) &&
      (List.range i).all fun j => if (tab.getD i []).contains j then (match ops[j]? with | some oj => oi.apart ops oj && oj.apart ops oi | none => false) else waits ops ops.size i j
def disj (a b : List Nat) : Bool := a.all fun x => !b.contains x
abbrev Past := List (Nat × List Nat × List Nat)
def chk (tab : List (List Nat)) (i : Nat) (R W : List Nat) (past : Past) : Bool := past.all fun p => !(tab.getD i []).contains p.1 || (disj W p.2.1 && disj p.2.2 R && disj W p.2.2)
def rOf (X : Ctx P) (o : Oper) (env : Env) (H : Heap) : List Nat := foot X.F.refs H o.op (ev env)
def wOf (X : Ctx P) (o : Oper) (env : Env) (H : Heap) : List Nat := wset X.wr o.op (rOf X o env H) (o.dst.getD 0)
def vcD (X : Ctx P) (n : Nat) (all : Array Oper) (tab : List (List Nat)) : List (Nat × Oper) → Past → Env → Heap → (Env → Heap → Prop) → Prop
  | [], _, env, H, K => K env H
  | (i, o) :: r, past, env, H, K => dstOk n o = true ∧ chk tab i (rOf X o env H) (wOf X o env H) past = true ∧
      gT X all o env H fun v u => vcD X n all tab r ((i, rOf X o env H, wOf X o env H) :: past) (putE env o.dst v) (upds H u) K
theorem gT_conj (X : Ctx P) (all : Array Oper) (o : Oper) (env : Env) (H : Heap) : Conj (gT X all o env H) (wOf X o env H) := by
  unfold gT
  split
  · exact op_conj X o.op _ _ _ _ (foot_sub _ _ _ _) restrict_isSome
  · rename_i j want _
    split
    · rename_i b _
      by_cases hb : b = want
      · subst hb
        exact (op_conj X o.op (ev env) (restrict H (foot X.F.refs H o.op (ev env))) (o.dst.getD 0) _ (foot_sub _ _ _ _) restrict_isSome).congr fun K => by cases b <;> simp
      · have hbn : b = !want := by cases b <;> cases want <;> simp_all
        subst hbn
        exact (Conj.none_ (.tup [])).congr fun K => by cases want <;> simp
    · exact Conj.none_ (.tup [])
    · exact .false_
theorem ev_agree {all : Array Oper} {o : Oper} {env env' : Env} (h : ∀ t ∈ o.looksAt all, env t = env' t) : ∀ x ∈ o.op.operands, ev env x = ev env' x := by
  intro x hx
  cases x with
  | tmp t => exact h t (List.mem_append_left _ (List.mem_filterMap.2 ⟨.tmp t, by simpa using hx, rfl⟩))
  | _ => rfl
theorem foot_agree (X : Ctx P) {all : Array Oper} {o : Oper} {env env' : Env} {H H' : Heap} (h : ∀ t ∈ o.looksAt all, env t = env' t) (hH : ∀ i ∈ rOf X o env H, H i = H' i) : rOf X o env H = rOf X o env' H' := by
  unfold rOf at hH ⊢
  rw [foot_same hH]
  exact foot_congr _ _ _ _ _ (ev_agree h)
theorem w_agree (X : Ctx P) {all : Array Oper} {o : Oper} {env env' : Env} {H H' : Heap} (h : ∀ t ∈ o.looksAt all, env t = env' t) (hH : ∀ i ∈ rOf X o env H, H i = H' i) : wOf X o env H = wOf X o env' H' := by
  unfold wOf
  rw [foot_agree X h hH]
theorem gT_agree (X : Ctx P) {all : Array Oper} {o : Oper} {env env' : Env} {H H' : Heap} (h : ∀ t ∈ o.looksAt all, env t = env' t) (hH : ∀ i ∈ rOf X o env H, H i = H' i) : gT X all o env H = gT X all o env' H' := by
  have e1 := ev_agree h
  have e2 : restrict H (foot X.F.refs H o.op (ev env)) = restrict H' (foot X.F.refs H' o.op (ev env')) := by
    have := foot_agree X h hH
    unfold rOf at this
    rw [← this]
    exact restrict_congr hH
  have e3 : opT X.F X.Γ o.op (ev env) (restrict H (foot X.F.refs H o.op (ev env))) (o.dst.getD 0) = opT X.F X.Γ o.op (ev env') (restrict H' (foot X.F.refs H' o.op (ev env'))) (o.dst.getD 0) := by
    rw [e2]
    exact opT_congr _ _ _ _ _ _ e1
  funext K
  unfold gT
  cases hg : o.guard with
  | none => simp only [e3]
  | some gw =>
    obtain ⟨j, want⟩ := gw
    have hs : ((all[j]?).bind (·.dst)).map env = ((all[j]?).bind (·.dst)).map env' := by
      cases hj : (all[j]?).bind (·.dst) with
      | none => rfl
      | some t =>
        simp only [Option.map_some]
        rw [h t (by unfold Oper.looksAt; rw [hg]; simp [hj])]
    simp only [hs, e3]
theorem putE_comm (env : Env) {x y : Option Nat} (v u : SV) (h : ∀ d, x = some d → y ≠ some d) : putE (putE env x v) y u = putE (putE env y u) x v := by
  cases x with
  | none => rfl
  | some d =>
    cases y with
    | none => rfl
    | some e =>
      have hne : d ≠ e := fun he => h d rfl (he ▸ rfl)
      funext t
      simp only [putE, upd_apply]
      by_cases h1 : t = d
      · subst h1; rw [if_neg hne, if_pos rfl, if_pos rfl]
      · by_cases h2 : t = e
        · subst h2; rw [if_pos rfl, if_neg h1, if_pos rfl]
        · rw [if_neg h2, if_neg h1, if_neg h1, if_neg h2]
theorem putE_other (env : Env) {x : Option Nat} (v : SV) {t : Nat} (h : x ≠ some t) : putE env x v t = env t := by
  cases x with
  | none => rfl
  | some d => simp only [putE, upd_apply]; rw [if_neg (fun e => h (by rw [e]))]
theorem upds_get (u : Upd) : ∀ (H H' : Heap) (i : Nat), H i = H' i → upds H u i = upds H' u i := by
  induction u with
  | nil => intro H H' i h; exact h
  | cons p r ih =>
    intro H H' i h
    obtain ⟨k, e⟩ := p
    simp only [upds]
    refine ih _ _ i ?_
    simp only [upd_apply, h]
theorem upds_other (u : Upd) : ∀ (H : Heap) (i : Nat), (∀ p ∈ u, p.1 ≠ i) → upds H u i = H i := by
  induction u with
  | nil => intro H i _; rfl
  | cons p r ih =>
    intro H i h
    obtain ⟨k, e⟩ := p
    simp only [upds]
    rw [ih _ i (fun q hq => h q (by simp [hq]))]
    have := h (k, e) (by simp)
    simp only [upd_apply]
    rw [if_neg (fun e => this e.symm)]
theorem upds_comm (H : Heap) (u v : Upd) (h : ∀ p ∈ u, ∀ q ∈ v, p.1 ≠ q.1) : upds (upds H u) v = upds (upds H v) u := by
  funext i
  by_cases hu : ∃ p ∈ u, p.1 = i
  · obtain ⟨p, hp, rfl⟩ := hu
    rw [upds_other v _ _ (fun q hq e => h p hp q hq e.symm)]
    exact (upds_get u _ _ _ (upds_other v _ _ (fun q hq e => h p hp q hq e.symm))).symm
  · have hu' : ∀ p ∈ u, p.1 ≠ i := fun p hp e => hu ⟨p, hp, e⟩
    rw [upds_other u (upds H v) i hu']
    exact upds_get v _ _ _ (upds_other u _ _ hu')
theorem disj_mem {a b : List Nat} (h : disj a b = true) {x : Nat} (ha : x ∈ a) (hb : x ∈ b) : False := by
  have := List.all_eq_true.1 h x ha
  simp [hb] at this
theorem vcD_less (X : Ctx P) (all : Array Oper) (tab : List (List Nat)) : ∀ (l : List (Nat × Oper)) (past past' : Past) (env : Env) (H : Heap) (K : Env → Heap → Prop), (∀ p ∈ past', p ∈ past) → vcD X n all tab l past env H K → vcD X n all tab l past' env H K
  | [], _, _, _, _, _, _, h => h
  | (i, o) :: r, past, past', env, H, K, hs, h => by
    simp only [vcD] at h ⊢
    refine ⟨h.1, ?_, ?_⟩
    · exact List.all_eq_true.2 fun p hp => List.all_eq_true.1 h.2.1 p (hs p hp)
    · obtain ⟨s, R, h0, h1, h2⟩ := gT_conj X all o env H
      rw [h2] at h ⊢
      refine ⟨h.2.2.1, fun v u hR => vcD_less X all tab r _ _ _ _ K ?_ (h.2.2.2 v u hR)⟩
      intro p hp
      simp only [List.mem_cons] at hp ⊢
      exact hp.imp_right (hs p)
theorem gT_mono (X : Ctx P) (all : Array Oper) (o : Oper) (env : Env) (H : Heap) {K K' : KT} (h : gT X all o env H K) (hK : ∀ v u, K v u → K' v u) : gT X all o env H K' := by
  obtain ⟨s, R, h0, h1, h2⟩ := gT_conj X all o env H
  rw [h2] at h ⊢
  exact ⟨h.1, fun v u hR => hK v u (h.2 v u hR)⟩
abbrev Ops := List (Nat × Oper)
theorem vcD_pick (X : Ctx P) (all : Array Oper) (tab : List (List Nat)) (i : Nat) (oi : Oper) : ∀ (l : Ops) (past : Past) (env : Env) (H : Heap) (K : Env → Heap → Prop),
    l.Pairwise (fun p q => p.1 < q.1) → (i, oi) ∈ l → (∀ j oj, (j, oj) ∈ l → j < i → (tab.getD i []).contains j = true ∧ oi.apart all oj = true ∧ oj.apart all oi = true) →
    vcD X n all tab l past env H K →
    dstOk n oi = true ∧ chk tab i (rOf X oi env H) (wOf X oi env H) past = true ∧ gT X all oi env H fun v u => vcD X n all tab (l.filter fun p => p.1 != i) past (putE env oi.dst v) (upds H u) K
  | [], _, _, _, _, _, hm, _, _ => by cases hm
  | (j, oj) :: r, past, env, H, K, hs, hm, hp, h => by
    obtain ⟨hsj, hsr⟩ := List.pairwise_cons.1 hs
    simp only [vcD] at h
    obtain ⟨hdj, hcj, hT⟩ := h
    by_cases hji : j = i
    · subst hji
      have hoi : oi = oj := by
        simp only [List.mem_cons, Prod.mk.injEq, true_and] at hm
        rcases hm with h | h
        · exact h
        · exact absurd (hsj _ h) (by simp)
      subst hoi
      refine ⟨hdj, hcj, gT_mono X all oi env H hT fun v u hv => ?_⟩
      have hf : ((j, oi) :: r).filter (fun p => p.1 != j) = r := by
        rw [List.filter_cons_of_neg (by simp)]
        exact List.filter_eq_self.2 fun q hq => by have := hsj q hq; simp at this ⊢; omega
      rw [hf]
      exact vcD_less X all tab r _ _ _ _ K (fun p hp => by simp [hp]) hv
    · have hmr : (i, oi) ∈ r := by
        simp only [List.mem_cons, Prod.mk.injEq] at hm
        rcases hm with h | h
        · exact absurd h.1.symm hji
        · exact h
      have hlt : j < i := hsj _ hmr
      obtain ⟨htab, hap, hap'⟩ := hp j oj (by simp) hlt
      obtain ⟨a1, a2, a3⟩ := Oper.apart_spec hap
      obtain ⟨sj, Rj, hne, hkj, hTj⟩ := gT_conj X all oj env H
      rw [hTj] at hT
      obtain ⟨hsj', hall⟩ := hT
      have hput : ∀ (v : SV) (t : Nat), t ∈ oi.looksAt all → putE env oj.dst v t = env t := fun v t ht => putE_other env v (fun e => a3 t e ht)
      have hput' : ∀ (v : SV) (t : Nat), t ∈ oj.looksAt all → putE env oi.dst v t = env t := fun v t ht => putE_other env v (fun e => a1 t e ht)
      have ih : ∀ v u, Rj v u → _ := fun v u hR => vcD_pick X all tab i oi r ((j, rOf X oj env H, wOf X oj env H) :: past) (putE env oj.dst v) (upds H u) K hsr hmr (fun k ok hk => hp k ok (by simp [hk])) (hall v u hR)
      obtain ⟨v0, u0, hR0⟩ := hne hsj'
      -- what the operation looks at is the same ahead of j and behind it
      have back : ∀ v u, Rj v u → chk tab i (rOf X oi (putE env oj.dst v) (upds H u)) (wOf X oi (putE env oj.dst v) (upds H u)) ((j, rOf X oj env H, wOf X oj env H) :: past) = true →
          (∀ q ∈ rOf X oi (putE env oj.dst v) (upds H u), upds H u q = H q) := by
        intro v u hR hc q hq
        unfold chk at hc
        rw [List.all_cons, Bool.and_eq_true] at hc
        have := hc.1
        rw [htab] at this
        simp only [Bool.not_true, Bool.false_or, Bool.and_eq_true] at this
        exact upds_other u H q (fun p hp e => disj_mem this.1.2 (hkj v u hR p hp) (by rw [e]; exact hq))
      have eRW : ∀ v u, Rj v u → rOf X oi (putE env oj.dst v) (upds H u) = rOf X oi env H ∧ wOf X oi (putE env oj.dst v) (upds H u) = wOf X oi env H := fun v u hR =>
        ⟨foot_agree X (all := all) (fun t ht => hput v t ht) (back v u hR (ih v u hR).2.1), w_agree X (all := all) (fun t ht => hput v t ht) (back v u hR (ih v u hR).2.1)⟩
      obtain ⟨hdi, hci, _⟩ := ih v0 u0 hR0
      rw [(eRW v0 u0 hR0).1, (eRW v0 u0 hR0).2] at hci
      have hci' := hci
      unfold chk at hci'
      rw [List.all_cons, Bool.and_eq_true] at hci'
      have hdis : disj (wOf X oi env H) (rOf X oj env H) = true ∧ disj (wOf X oj env H) (rOf X oi env H) = true ∧ disj (wOf X oi env H) (wOf X oj env H) = true := by
        have := hci'.1
        rw [htab] at this
        simp only [Bool.not_true, Bool.false_or, Bool.and_eq_true] at this
        exact ⟨this.1.1, this.1.2, this.2⟩
      obtain ⟨d1, d2, d3⟩ := hdis
      refine ⟨hdi, hci'.2, ?_⟩
      -- the operation's own predicate is the same ahead of j and behind it
      have same : ∀ v u, Rj v u → gT X all oi (putE env oj.dst v) (upds H u) = gT X all oi env H := fun v u hR =>
        (gT_agree X (all := all) (fun t ht => (hput v t ht).symm) (fun q hq => (upds_other u H q (fun p hp e => disj_mem d2 (hkj v u hR p hp) (by rw [e]; exact hq))).symm)).symm
      obtain ⟨si, Ri, hnei, hki, hTi⟩ := gT_conj X all oi env H
      rw [hTi]
      have hsi : si := by
        have := (ih v0 u0 hR0).2.2
        rw [same v0 u0 hR0, hTi] at this
        exact this.1
      refine ⟨hsi, fun vi ui hRi => ?_⟩
      have hf : ((j, oj) :: r).filter (fun p => p.1 != i) = (j, oj) :: r.filter fun p => p.1 != i := List.filter_cons_of_pos (by simpa using hji)
      rw [hf]
      simp only [vcD]
      have ag : ∀ q ∈ rOf X oj env H, H q = upds H ui q := fun q hq => (upds_other ui H q (fun p hp e => disj_mem d1 (hki vi ui hRi p hp) (by rw [e]; exact hq))).symm
      have eRj : rOf X oj (putE env oi.dst vi) (upds H ui) = rOf X oj env H := (foot_agree X (all := all) (fun t ht => (hput' vi t ht).symm) ag).symm
      have eWj : wOf X oj (putE env oi.dst vi) (upds H ui) = wOf X oj env H := (w_agree X (all := all) (fun t ht => (hput' vi t ht).symm) ag).symm
      rw [eRj, eWj]
      refine ⟨hdj, hcj, ?_⟩
      have same' : gT X all oj (putE env oi.dst vi) (upds H ui) = gT X all oj env H :=
        (gT_agree X (all := all) (fun t ht => (hput' vi t ht).symm) (fun q hq => (upds_other ui H q (fun p hp e => disj_mem d1 (hki vi ui hRi p hp) (by rw [e]; exact hq))).symm)).symm
      rw [same', hTj]
      refine ⟨hsj', fun v u hR => ?_⟩
      have := (ih v u hR).2.2
      rw [same v u hR, hTi] at this
      have := this.2 vi ui hRi
      rw [putE_comm env v vi (fun d h1 h2 => (Oper.apart_spec hap').2.1 d h1 h2), upds_comm H u ui (fun p hp q hq e => disj_mem d3 (hki vi ui hRi q hq) (by rw [← e]; exact hkj v u hR p hp))] at this
      exact this
def pairs : Nat → List Oper → Ops
  | _, [] => []
  | k, o :: r => (k, o) :: pairs (k + 1) r
theorem pairs_mem : ∀ (l : List Oper) (k i : Nat) (o : Oper), (i, o) ∈ pairs k l ↔ k ≤ i ∧ l[i - k]? = some o
  | [], k, i, o => by simp [pairs]
  | x :: r, k, i, o => by
    simp only [pairs, List.mem_cons, Prod.mk.injEq, pairs_mem r (k + 1) i o]
    constructor
    · rintro (⟨rfl, rfl⟩ | ⟨h1, h2⟩)
      · simp
      · refine ⟨by omega, ?_⟩
        rw [show i - k = (i - (k + 1)) + 1 by omega, List.getElem?_cons_succ]
        exact h2
    · rintro ⟨h1, h2⟩
      by_cases h : i = k
      · subst h; rw [Nat.sub_self] at h2; simp at h2; exact .inl ⟨rfl, h2.symm⟩
      · refine .inr ⟨by omega, ?_⟩
        rw [show i - k = (i - (k + 1)) + 1 by omega, List.getElem?_cons_succ] at h2
        exact h2
theorem pairs_sorted : ∀ (l : List Oper) (k : Nat), (pairs k l).Pairwise fun p q => p.1 < q.1
  | [], _ => .nil
  | x :: r, k => by
    refine .cons (fun q hq => ?_) (pairs_sorted r (k + 1))
    obtain ⟨i, o⟩ := q
    have := ((pairs_mem r (k + 1) i o).1 hq).1
    show k < i
    omega
theorem waits_listed (ops : Array Oper) {listed : Array Bool} (hcl : ∀ k ok, ops[k]? = some ok → listed.getD k false = true → ∀ e ∈ ok.after, Region.binds .any e = true → listed.getD e.on false = true) :
    ∀ (f i j : Nat) (oi : Oper), ops[i]? = some oi → (∀ e ∈ oi.after, Region.binds .any e = true → listed.getD e.on false = true) → waits ops f i j = true → listed.getD j false = true
  | 0, _, _, _, _, _, h => by cases h
  | f + 1, i, j, oi, hi, hl, h => by
    simp only [waits, hi] at h
    rw [← Array.any_toList] at h
    obtain ⟨e, he', h⟩ := List.any_eq_true.1 h
    have he : e ∈ oi.after := by simpa using he'
    simp only [Bool.and_eq_true, Bool.or_eq_true, beq_iff_eq] at h
    obtain ⟨hb, h⟩ := h
    have hle := hl e he hb
    rcases h with rfl | h
    · exact hle
    · cases hk : ops[e.on]? with
      | none =>
        cases f with
        | zero => cases h
        | succ f => simp only [waits, hk] at h; cases h
      | some ok => exact waits_listed ops hcl f e.on j ok hk (hcl e.on ok hk hle) h
theorem orderOk_spec {ops : Array Oper} {tab : List (List Nat)} (h : orderOk ops tab = true) (i : Nat) (oi : Oper) (hi : ops[i]? = some oi) :
    (∀ e ∈ oi.after, Region.binds .any e = true → e.on < i) ∧ ∀ j, j < i → ((tab.getD i []).contains j = true ∧ ∃ oj, ops[j]? = some oj ∧ oi.apart ops oj = true ∧ oj.apart ops oi = true) ∨ waits ops ops.size i j = true := by
  have hlt : i < ops.size := (Array.getElem?_eq_some_iff.1 hi).1
  have := List.all_eq_true.1 h i (List.mem_range.2 hlt)
  rw [hi] at this
  simp only [Bool.and_eq_true] at this
  obtain ⟨⟨h1, _⟩, h2⟩ := this
  refine ⟨fun e he hb => ?_, fun j hj => ?_⟩
  · have := Array.all_eq_true_iff_forall_mem.1 h1 e he
    rw [hb] at this
    simpa using this
  · have := List.all_eq_true.1 h2 j (List.mem_range.2 hj)
    split at this
    · rename_i hc
      split at this
      · rename_i oj hoj
        simp only [Bool.and_eq_true] at this
        exact .inl ⟨hc, oj, hoj, this.1, this.2⟩
      · cases this
    · exact .inr this
theorem any_sound (X : Ctx P) (ops : Array Oper) (tab : List (List Nat)) (hO : orderOk ops tab = true) {Q : Exit → Act → World → Prop} {K : Env → Heap → Prop}
    (hQ : ∀ env' H' a' w', K env' H' → EnvOk n env' a' → HSat w0 M H' w' → Q .normal a' w') : ∀ (fuel : Nat) (listed : Array Bool) (l : Ops) (env : Env) (H : Heap) (a : Act) (w : World),
    listed.size = ops.size → l.length = fuel → l.Pairwise (fun p q => p.1 < q.1) → (∀ i o, (i, o) ∈ l ↔ listed.getD i true = false ∧ ops[i]? = some o) →
    (∀ k ok, ops[k]? = some ok → listed.getD k false = true → ∀ e ∈ ok.after, Region.binds .any e = true → listed.getD e.on false = true) →
    EnvOk n env a → HSat w0 M H w → vcD X n ops tab l [] env H K → wpAny P .any ops Q fuel listed a w := by
  intro fuel
  induction fuel with
  | zero =>
    intro listed l env H a w hsz hlen _ hl _ hE hH h
    obtain rfl : l = [] := List.eq_nil_of_length_eq_zero hlen
    refine ⟨?_, hQ env H a w h hE hH⟩
    by_cases hr : Region.ready .any ops listed = []
    · exact hr
    · obtain ⟨j, hj⟩ := List.exists_mem_of_ne_nil _ hr
      obtain ⟨h0, o, ho, _⟩ := mem_ready.1 hj
      have := (hl j o).2 ⟨h0, ho⟩
      cases this
  | succ fuel ih =>
    intro listed l env H a w hsz hlen hs hl hcl hE hH h
    constructor
    · intro hr
      -- the least one that is left may come up
      exfalso
      cases l with
      | nil => simp at hlen
      | cons p r =>
        obtain ⟨i, o⟩ := p
        obtain ⟨h0, ho⟩ := (hl i o).1 (by simp)
        have hmem : i ∈ Region.ready .any ops listed := by
          refine mem_ready.2 ⟨h0, o, ho, fun e he hb => ?_⟩
          have hlt := (orderOk_spec hO i o ho).1 e he hb
          cases hek : listed.getD e.on true with
          | true =>
            have hlt2 : e.on < listed.size := by have := (Array.getElem?_eq_some_iff.1 ho).1; omega
            rw [Array.getD_eq_getD_getElem?, Array.getElem?_eq_getElem hlt2] at hek ⊢
            exact hek
          | false =>
            have hlt2 : e.on < ops.size := by have := (Array.getElem?_eq_some_iff.1 ho).1; omega
            have := (hl e.on ops[e.on]).2 ⟨hek, Array.getElem?_eq_getElem hlt2⟩
            simp only [List.mem_cons, Prod.mk.injEq] at this
            rcases this with h | h
            · omega
            · have := (List.pairwise_cons.1 hs).1 _ h
              simp at this
              omega
        rw [hr] at hmem
        cases hmem
    · intro i hi
      obtain ⟨h0, oi, hoi, hpre⟩ := mem_ready.1 hi
      have hmem := (hl i oi).2 ⟨h0, hoi⟩
      have hcond : ∀ j oj, (j, oj) ∈ l → j < i → (tab.getD i []).contains j = true ∧ oi.apart ops oj = true ∧ oj.apart ops oi = true := by
        intro j oj hj hlt
        obtain ⟨hj0, hoj⟩ := (hl j oj).1 hj
        rcases (orderOk_spec hO i oi hoi).2 j hlt with ⟨h1, oj', hoj', h2, h3⟩ | hw
        · rw [hoj] at hoj'
          injection hoj' with e
          subst e
          exact ⟨h1, h2, h3⟩
        · have := waits_listed ops hcl _ i j oi hoi hpre hw
          have hlt2 : j < listed.size := by have := (Array.getElem?_eq_some_iff.1 hoj).1; omega
          rw [Array.getD_eq_getD_getElem?, Array.getElem?_eq_getElem hlt2] at this hj0
          simp at this hj0
          rw [hj0] at this
          cases this
      obtain ⟨hd, _, hT⟩ := vcD_pick X ops tab i oi l [] env H K hs hmem hcond h
      unfold wpOp
      rw [hoi]
      simp only
      have hilt : i < listed.size := by have := (Array.getElem?_eq_some_iff.1 hoi).1; omega
      refine gT_sound X ops oi hE hH hd hT _ fun v u a' w' hv hE' hH' => ih (listed.setIfInBounds i true) (l.filter fun p => p.1 != i) _ _ a' w' (by simpa using hsz) ?_ (hs.filter _) ?_ ?_ hE' hH' hv
      · have h1 := filter_len l i oi hs hmem
        omega
      · intro k ok
        simp only [List.mem_filter, hl k ok]
        by_cases hk : k = i
        · subst hk
          simp [hilt]
        · rw [getD_set_ne true (Ne.symm hk)]
          simp [hk]
      · intro k ok hok hk e he hb
        by_cases hki : k = i
        · subst hki
          rw [hoi] at hok
          injection hok with hok
          subst hok
          exact getD_set_true (hpre e he hb)
        · rw [getD_set_ne false (Ne.symm hki)] at hk
          exact getD_set_true (hcl k ok hok hk e he hb)
where
  filter_len (l : Ops) (i : Nat) (oi : Oper) (hs : l.Pairwise fun p q => p.1 < q.1) (hm : (i, oi) ∈ l) : (l.filter fun p => p.1 != i).length + 1 = l.length := by
    induction l with
    | nil => cases hm
    | cons p r ih =>
      obtain ⟨h1, h2⟩ := List.pairwise_cons.1 hs
      by_cases hp : p.1 = i
      · have hf : r.filter (fun p => p.1 != i) = r := List.filter_eq_self.2 fun q hq => by have := h1 q hq; simp; omega
        rw [List.filter_cons_of_neg (by simp [hp]), hf]
        rfl
      · rw [List.filter_cons_of_pos (by simpa using hp)]
        have : (i, oi) ∈ r := by
          simp only [List.mem_cons] at hm
          rcases hm with h | h
          · exact absurd (by rw [← h]) hp
          · exact h
        have := ih h2 this
        simp only [List.length_cons]
        omega
theorem regionD_sound (X : Ctx P) (hm : P.follows .mixedOrders = true) {id : Nat} {ops : Array Oper} (tab : List (List Nat)) (hO : orderOk ops tab = true) {Q : Exit → Act → World → Prop} {env : Env} {H : Heap} {a : Act} {w : World} {K : Env → Heap → Prop} (hE : EnvOk n env a) (hH : HSat w0 M H w) (h : vcD X n ops tab (pairs 0 ops.toList) [] env H K)
    (hQ : ∀ env' H' a' w', K env' H' → EnvOk n env' a' → HSat w0 M H' w' → Q .normal a' w') : (Code.region id ops true).wp P Q a w := by
  refine wp_region_any hm ?_
  refine any_sound X ops tab hO hQ ops.size _ (pairs 0 ops.toList) env H a _ (by simp) ?_ (pairs_sorted _ _) ?_ ?_ hE hH.drew h
  · have : ∀ (l : List Oper) (k : Nat), (pairs k l).length = l.length := by
      intro l
      induction l with
      | nil => intro k; rfl
      | cons o r ih => intro k; simp [pairs, ih]
    rw [this]
    simp
  · intro i o
    rw [pairs_mem]
    simp only [Nat.zero_le, true_and, Nat.sub_zero, Array.getElem?_toList]
    constructor
    · intro h
      have hlt := (Array.getElem?_eq_some_iff.1 h).1
      exact ⟨by simp [hlt], h⟩
    · exact fun h => h.2
  · intro k ok hk hl
    have hlt := (Array.getElem?_eq_some_iff.1 hk).1
    simp [hlt] at hl
/-! ### How they are reckoned: a test that has been decided stands decided in its slot -/
theorem upd_self {env : Env} {t : Nat} {v : SV} (h : env t = v) : upd env t v = env := by
  funext k
  simp only [upd_apply]
  split
  · rename_i e; rw [e, h]
  · rfl
end Go.Proofs.YtbcicjmepojlnaaGreat.Eng
/- A function's text: what its predicate says, it does; loops by what holds at their heads; no condition. -/
namespace Go.Proofs.YtbcicjmepojlnaaGreat.Eng
open Go Go.RowKit
set_option autoImplicit false
set_option linter.unusedSimpArgs false
set_option linter.unusedVariables false
variable {P : Program} {n : Nat} {w0 : World} {M : Nat → Prop}
inductive VX where
  | normal
  | ret
  | exit (id : Nat)
abbrev QT := VX → Env → Heap → Prop
abbrev Tabs := List (Nat × List (List Nat))
def tabOf (tabs : Tabs) (id : Nat) : List (List Nat) := match tabs with
  | [] => []
  | (i, t) :: r => if i = id then t else tabOf r id
def lift (n : Nat) (w0 : World) (M : Nat → Prop) (Q : QT) : Exit → Act → World → Prop
  | .normal, a, w => ∃ env H, Q .normal env H ∧ EnvOk n env a ∧ HSat w0 M H w
  | .ret, a, w => ∃ env H, Q .ret env H ∧ EnvOk n env a ∧ HSat w0 M H w
  | .exit id, a, w => ∃ env H, Q (.exit id) env H ∧ EnvOk n env a ∧ HSat w0 M H w
  | _, _, _ => False
def tabsOk (tabs : Tabs) : Code → Bool
  | .region id ops draw => if draw then orderOk ops (tabOf tabs id) else true
  | .seq a b => tabsOk tabs a && tabsOk tabs b
  | .cond _ a b => tabsOk tabs a && tabsOk tabs b
  | .block _ a => tabsOk tabs a
  | .loop a => tabsOk tabs a
  | .scope a => tabsOk tabs a
  | .rangeFunc _ _ a b => tabsOk tabs a && tabsOk tabs b
  | _ => true
def Does (P : Program) (n : Nat) (c : Code) (Q : QT) (env : Env) (H : Heap) : Prop :=
  ∀ (w0 : World) (M : Nat → Prop) (a : Act) (w : World), EnvOk n env a → HSat w0 M H w → c.wp P (lift n w0 M Q) a w
structure LoopAt (P : Program) (n : Nat) (tabs : Tabs) (body : Code) (Q : QT) (env : Env) (H : Heap) : Prop where
  h : tabsOk tabs body = true → Does P n (.loop body) Q env H
structure RangeAt (P : Program) (n : Nat) (tabs : Tabs) (c : Code) (Q : QT) (env : Env) (H : Heap) : Prop where
  h : tabsOk tabs c = true → Does P n c Q env H
theorem LoopAt_def (P : Program) (n : Nat) (tabs : Tabs) (body : Code) (Q : QT) (env : Env) (H : Heap) : LoopAt P n tabs body Q env H = (tabsOk tabs body = true → Does P n (.loop body) Q env H) := propext ⟨fun x => x.h, fun x => ⟨x⟩⟩
def inBlk (id : Nat) (Q : QT) : QT
  | .exit id', env, H => if id' = id then Q .normal env H else Q (.exit id') env H
  | e, env, H => Q e env H
def thenV (Q : QT) (next : Env → Heap → Prop) : QT
  | .normal, env, H => next env H
  | e, env, H => Q e env H
def atNormal (Q : QT) : Env → Heap → Prop := fun env H => Q .normal env H
def vc (X : Ctx P) (n : Nat) (tabs : Tabs) : Code → QT → Env → Heap → Prop
  | .skip, Q, env, H => Q .normal env H
  | .region id ops true, Q, env, H => vcD X n ops (tabOf tabs id) (pairs 0 ops.toList) [] env H (atNormal Q)
  | .region id ops false, Q, env, H => vcOps X n ops ops.toList env H (atNormal Q)
  | .seq a b, Q, env, H => vc X n tabs a (thenV Q fun env H => vc X n tabs b Q env H) env H
  | .cond c t e, Q, env, H => match ev env c with
    | .c (.v (.bool b)) => (b = true → vc X n tabs t Q env H) ∧ (b = false → vc X n tabs e Q env H)
    | _ => False
  | .block id c, Q, env, H => vc X n tabs c (inBlk id Q) env H
  | .loop c, Q, env, H => LoopAt P n tabs c Q env H
  | .rangeFunc f ps as b, Q, env, H => RangeAt P n tabs (.rangeFunc f ps as b) Q env H
  | .exit id, Q, env, H => Q (.exit id) env H
  | .ret, Q, env, H => Q .ret env H
  | _, _, _, _ => False
def behind (X : Ctx P) (n : Nat) (tabs : Tabs) (b : Code) (Q : QT) : QT := thenV Q fun env H => vc X n tabs b Q env H
/-! ### States by lists -/
def envOf : List (Nat × SV) → Env
  | [] => fun _ => .c .any
  | (s, v) :: r => fun t => if t = s then v else envOf r t
def heapOf : List (Nat × Ent) → Heap
  | [] => fun _ => none
  | (s, v) :: r => fun t => if t = s then some v else heapOf r t
theorem envOf_some : ∀ (L : List (Nat × SV)) (t : Nat), (envOf L t).known = true → ∃ v, (t, v) ∈ L ∧ envOf L t = v
  | [], t, h => by cases h
  | (s, v) :: r, t, h => by
    simp only [envOf] at h ⊢
    split
    · rename_i e; subst e; exact ⟨v, by simp, rfl⟩
    · rename_i e
      rw [if_neg e] at h
      obtain ⟨v', h1, h2⟩ := envOf_some r t h
      exact ⟨v', by simp [h1], h2⟩
theorem heapOf_some : ∀ (L : List (Nat × Ent)) (t : Nat) (e : Ent), heapOf L t = some e → ∃ k : Nat, L[k]? = some (t, e)
  | [], t, e, h => by cases h
  | (s, v) :: r, t, e, h => by
    simp only [heapOf] at h
    split at h
    · rename_i e'; subst e'; injection h with h; subst h; exact ⟨0, rfl⟩
    · obtain ⟨k, hk⟩ := heapOf_some r t e h
      exact ⟨k + 1, hk⟩
def FitsE (env : Env) : List (Nat × SV) → Prop
  | [] => True
  | (s, v) :: r => (env s).known = true ∧ (env s).den = v.den ∧ FitsE env r
def FitsH (H : Heap) : List Nat → List (Nat × Ent) → Prop
  | _, [] => True
  | s :: ρ, (_, e) :: r => H s = some e ∧ FitsH H ρ r
  | [], _ :: _ => False
theorem FitsE.mem {env : Env} : ∀ {L : List (Nat × SV)}, FitsE env L → ∀ p ∈ L, (env p.1).known = true ∧ (env p.1).den = p.2.den
  | [], _, p, hp => by cases hp
  | (s, v) :: r, h, p, hp => by
    simp only [List.mem_cons] at hp
    rcases hp with rfl | hp
    · exact ⟨h.1, h.2.1⟩
    · exact h.2.2.mem p hp
theorem FitsH.get {H : Heap} : ∀ {ρ : List Nat} {E : List (Nat × Ent)}, FitsH H ρ E → ∀ (k t : Nat) (e : Ent), E[k]? = some (t, e) → ∃ s, ρ[k]? = some s ∧ H s = some e
  | _, [], _, k, t, e, h => by simp at h
  | s :: ρ, (t', e') :: r, h, 0, t, e, hk => by simp at hk; obtain ⟨_, rfl⟩ := hk; exact ⟨s, rfl, h.1⟩
  | s :: ρ, (t', e') :: r, h, k + 1, t, e, hk => by
    obtain ⟨s', h1, h2⟩ := FitsH.get h.2 k t e (by simpa using hk)
    exact ⟨s', by simpa using h1, h2⟩
theorem EnvOk.fits {env : Env} {a : Act} {L : List (Nat × SV)} (hE : EnvOk n env a) (h : FitsE env L) : EnvOk n (envOf L) a :=
  ⟨hE.size, fun t ht => by
    obtain ⟨v, hv, e⟩ := envOf_some L t ht
    obtain ⟨h1, h2⟩ := h.mem _ hv
    rw [e, ← h2]
    exact hE.slot t h1, hE.defers⟩
theorem nodup_get {l : List Nat} (h : l.Nodup) {i j : Nat} {x : Nat} (hi : l[i]? = some x) (hj : l[j]? = some x) : i = j := by
  obtain ⟨hi', e1⟩ := List.getElem?_eq_some_iff.1 hi
  obtain ⟨hj', e2⟩ := List.getElem?_eq_some_iff.1 hj
  rcases Nat.lt_trichotomy i j with hlt | rfl | hlt
  · exact absurd (e1.trans e2.symm) (List.pairwise_iff_getElem.1 h i j hi' hj' hlt)
  · rfl
  · exact absurd (e2.trans e1.symm) (List.pairwise_iff_getElem.1 h j i hj' hi' hlt)
theorem HSat.fits {H : Heap} {w : World} {ρ : List Nat} {E : List (Nat × Ent)} (hH : HSat w0 M H w) (hρ : ρ.Nodup) (h : FitsH H ρ E) : HSat w0 M (heapOf E) w := by
  have key : ∀ t e, heapOf E t = some e → ∃ (k s : Nat), E[k]? = some (t, e) ∧ ρ[k]? = some s ∧ H s = some e := by
    intro t e he
    obtain ⟨k, hk⟩ := heapOf_some E t e he
    obtain ⟨s, h1, h2⟩ := h.get k t e hk
    exact ⟨k, s, hk, h1, h2⟩
  refine ⟨hH.fr, fun i e hi => ?_, fun i e hi => ?_, fun i e hi => ?_, fun i j ei ej hij hi hj => ?_⟩
  · obtain ⟨_, s, _, _, hs⟩ := key i e hi; exact hH.holds s e hs
  · obtain ⟨_, s, _, _, hs⟩ := key i e hi; exact hH.lt s e hs
  · obtain ⟨_, s, _, _, hs⟩ := key i e hi; exact hH.own s e hs
  · obtain ⟨k, s, hk, hks, hs⟩ := key i ei hi
    obtain ⟨k', s', hk', hks', hs'⟩ := key j ej hj
    refine hH.sep s s' ei ej ?_ hs hs'
    rintro rfl
    have := nodup_get hρ hks hks'
    subst this
    rw [hk] at hk'
    injection hk' with e
    exact hij (by injection e)
/-! ### A function -/
def resT (P : Program) : List ResultVar → Env → Heap → (List SV → Prop) → Prop
  | [], _, _, K => K []
  | .tmp t :: r, env, H, K => match env t with
    | .tup _ => False
    | .c .any => False
    | x => resT P r env H fun l => K (x :: l)
  | .cell t ty :: r, env, H, K => match env t with
    | .c (.loc id b off) => match H id with
      | some (.blk b' _ cs) => b = b' ∧ match szT P ty with
        | some (true, m) => off + m ≤ cs.length ∧ resT P r env H fun l => K (.agg ((cs.drop off).take m) :: l)
        | some (false, _) => ∃ x, cs[off]? = some x ∧ resT P r env H fun l => K (.c x :: l)
        | none => False
      | _ => False
    | _ => False
def single : List SV → SV
  | [x] => x
  | l => .tup l
def retQ (P : Program) (rs : List ResultVar) (R : SV → Heap → Prop) : QT
  | .exit _, _, _ => False
  | _, env, H => resT P rs env H fun l => R (single l) H
def readVar (tmps : Array Value) : ResultVar → Sem Value
  | .tmp t => pure (tmps.getD t undef)
  | .cell s t => do loadVar t (← asAddr (tmps.getD s undef))
theorem results_read (fn : Func) (tmps : Array Value) : results fn tmps = (do let vs ← fn.results.mapM (readVar tmps); pure (if h : vs.size = 1 then vs[0] else .tuple vs)) := by
  unfold results
  congr 1
theorem res_sound {env : Env} {H : Heap} {a : Act} {w : World} (hE : EnvOk n env a) (hH : HSat w0 M H w) : ∀ (rs : List ResultVar) (K : List SV → Prop), resT P rs env H K →
    ∃ l, K l ∧ (rs.mapM (m := Sem) (readVar a.tmps)).run P w = .ok (l.map SV.den) w ∧ (∀ x ∈ l, x.den = x.den0)
  | [], K, h => ⟨[], h, rfl, by simp⟩
  | .tmp t :: r, K, h => by
    simp only [resT] at h
    split at h
    · exact h.elim
    · exact h.elim
    · rename_i h1 h2
      obtain ⟨l, hK, hrun, hl⟩ := res_sound hE hH r _ h
      have hk : (env t).known = true := by
        cases he : env t with
        | tup l => exact absurd he (h1 l)
        | agg l => rfl
        | c c => cases c <;> first | rfl | exact absurd he h2
      have := hE.slot t hk
      refine ⟨env t :: l, hK, ?_, ?_⟩
      · simp only [List.mapM_cons, readVar, Sem.run_bind, Sem.run_pure, Result.andThen_ok, hrun, List.map_cons]
        rw [Array.getD_eq_getD_getElem?, this]
        rfl
      · intro x hx
        simp only [List.mem_cons] at hx
        rcases hx with rfl | hx
        · cases he : env t with
          | tup l => exact absurd he (h1 l)
          | agg l => rfl
          | c c => rfl
        · exact hl x hx
  | .cell t ty :: r, K, h => by
    simp only [resT] at h
    split at h
    · rename_i id b off hx
      have hs := hE.slot t (by rw [hx]; rfl)
      have hget : asAddr (a.tmps.getD t undef) = pure ⟨b, off, none⟩ := by rw [Array.getD_eq_getD_getElem?, hs, hx]; rfl
      split at h
      · rename_i b' t' cs hHid
        obtain ⟨rfl, h⟩ := h
        have hent := hH.holds _ _ hHid
        split at h
        · rename_i m hsz
          obtain ⟨hlen, h⟩ := h
          obtain ⟨l, hK, hrun, hl⟩ := res_sound hE hH r _ h
          refine ⟨_, hK, ?_, ?_⟩
          · have hld := loadVar_agg (P := P) (w := w) hsz ⟨b, off, none⟩ (((cs.drop off).take m).map C.den) (by simp; omega) (by
              intro j u hu
              rw [add_loc, cell_blk hent]
              rw [List.getElem?_map, getElem?_drop_take] at hu
              split at hu
              · rw [List.getElem?_map]; exact hu
              · cases hu)
            simp only [List.mapM_cons, readVar, Sem.run_bind, hget, Sem.run_pure, Result.andThen_ok, hld, hrun, List.map_cons]
            rfl
          · intro x hx
            simp only [List.mem_cons] at hx
            rcases hx with rfl | hx
            · rfl
            · exact hl x hx
        · rename_i m hsz
          obtain ⟨c, hc, h⟩ := h
          obtain ⟨l, hK, hrun, hl⟩ := res_sound hE hH r _ h
          refine ⟨_, hK, ?_, ?_⟩
          · have hld := loadVar_one (P := P) (w := w) hsz ⟨b, off, none⟩ c.den (by rw [cell_blk hent, List.getElem?_map, hc]; rfl)
            simp only [List.mapM_cons, readVar, Sem.run_bind, hget, Sem.run_pure, Result.andThen_ok, hld, hrun, List.map_cons]
            rfl
          · intro x hx
            simp only [List.mem_cons] at hx
            rcases hx with rfl | hx
            · rfl
            · exact hl x hx
        · exact h.elim
      · exact h.elim
    · exact h.elim
theorem results_sound {fn : Func} {env : Env} {H : Heap} {a : Act} {w : World} (hE : EnvOk n env a) (hH : HSat w0 M H w) (R : SV → Heap → Prop) (h : resT P fn.results.toList env H fun l => R (single l) H) :
    ∃ v, R v H ∧ (results fn a.tmps).run P w = .ok v.den w := by
  obtain ⟨l, hK, hrun, hl⟩ := res_sound hE hH _ _ h
  refine ⟨single l, hK, ?_⟩
  rw [results_read, Array.mapM_eq_mapM_toList, Sem.run_bind, Sem.run_map, hrun]
  simp only [Result.andThen_ok, Sem.run_pure]
  cases l with
  | nil => rfl
  | cons x r =>
    cases r with
    | nil => rfl
    | cons y r =>
      have : (x :: y :: r).map SV.den = (x :: y :: r).map SV.den0 := List.map_congr_left hl
      rw [this]
      simp [single, SV.den]
end Go.Proofs.YtbcicjmepojlnaaGreat.Eng
/- Contracts: how they are laid together, how they come of a function's text; no condition. -/
namespace Go.Proofs.YtbcicjmepojlnaaGreat.Eng
open Go Go.RowKit
set_option autoImplicit false
set_option linter.unusedSimpArgs false
set_option linter.unusedVariables false
variable {P : Program}
structure CSpec (P : Program) where
  f : FuncId
  wr : Bool
  S : Spec
  ok : SpecOk P f wr S
def noSpec : Spec := fun _ _ _ => ⟨False, fun _ _ => False⟩
theorem noSpec_ok (f : FuncId) (b : Bool) : SpecOk P f b noSpec := ⟨fun _ _ _ _ _ _ _ h => h.elim, fun _ _ _ h => h.elim, fun _ _ _ _ _ h => h.elim, fun _ _ _ h => h.elim⟩
def lookG : List (CSpec P) → FuncId → Spec
  | [], _ => noSpec
  | c :: r, g => if g = c.f then c.S else lookG r g
def lookW : List (CSpec P) → FuncId → Bool
  | [], _ => false
  | c :: r, g => if g = c.f then c.wr else lookW r g
theorem look_ok : ∀ (l : List (CSpec P)) (g : FuncId), SpecOk P g (lookW l g) (lookG l g)
  | [], g => noSpec_ok g _
  | c :: r, g => by
    simp only [lookG, lookW]
    by_cases h : g = c.f
    · rw [if_pos h, if_pos h, h]; exact c.ok
    · rw [if_neg h, if_neg h]; exact look_ok r g
def ctxOf (F : TT) (hF : TTok P F) (l : List (CSpec P)) : Ctx P := ⟨F, hF, lookG l, lookW l, look_ok l⟩
theorem bodied {f : FuncId} {fn : Func} {c : Code} (hf : P.funcs[f]? = some fn) (hb : fn.body = some c) (hn : (fn.name == "runtime.NumGoroutine") = false) : Bodied P f := ⟨fn, c, hf, hb, hn⟩
/-! ### What is only computed -/
def pureSpec (F : List SV → Heap → Option (Prop × SV)) : Spec := fun args H _ => match F args H with
  | some (s, v) => ⟨s, fun v' u => v' = v ∧ u = []⟩
  | none => ⟨False, fun _ _ => False⟩
theorem pure_ok {f : FuncId} (hB : Bodied P f) (F : List SV → Heap → Option (Prop × SV))
    (h : ∀ args H s v (w0 : World) M (w : World) (H' : Heap), F args H = some (s, v) → s → (∀ i e, H i = some e → H' i = some e) → HSat w0 M H' w → Calls P f (args.map SV.den).toArray w fun e w' => e = .returned v.den ∧ Below w.heap.size w w') : SpecOk P f false (pureSpec F) where
  run := by
    intro args H0 H d w0 M w hs hsub hH
    unfold pureSpec at hs ⊢
    split at hs
    · rename_i s v hF
      refine (h args H0 s v w0 M w H hF hs hsub hH).mono ?_
      rintro e w' ⟨rfl, hb⟩
      exact ⟨v, [], v.den, rfl, ⟨rfl, rfl⟩, fun _ => rfl, hH.below hb⟩
    · exact hs.elim
  some_ := by
    intro args H d hs
    unfold pureSpec at hs ⊢
    split at hs
    · exact ⟨_, _, rfl, rfl⟩
    · exact hs.elim
  keys := by
    intro args H d v u hR p hp
    unfold pureSpec at hR
    split at hR
    · rw [hR.2] at hp; cases hp
    · exact hR.elim
  body := fun _ _ _ _ => hB
def H0 : Heap := heapOf [(nilId, .rd none 1 0 [])]
theorem HSat.reads {w : World} {E : List (Nat × Ent)} (h : ∀ p ∈ E, ∃ A sz m xs, p.2 = .rd A sz m xs ∧ p.2.holds w) : HSat w (fun _ => False) (heapOf E) w := by
  have key : ∀ i e, heapOf E i = some e → ∃ A sz m xs, e = .rd A sz m xs ∧ e.holds w := by
    intro i e he
    obtain ⟨k, hk⟩ := heapOf_some E i e he
    exact h (i, e) (List.mem_of_getElem? hk)
  refine ⟨Fr.refl w _, fun i e hi => ?_, fun i e hi g hg => ?_, fun i e hi hm => ?_, fun i j ei ej _ hi _ hm => ?_⟩
  · obtain ⟨_, _, _, _, _, hh⟩ := key i e hi; exact hh
  · obtain ⟨A, sz, m, xs, rfl, hh⟩ := key i e hi
    simp only [Ent.block] at hg
    split at hg
    · cases hg
    · rename_i hx
      obtain ⟨p, rfl, hp, _⟩ := hh.2 hx
      simp at hg
      omega
  · obtain ⟨A, sz, m, xs, rfl, _⟩ := key i e hi; cases hm
  · obtain ⟨A, sz, m, xs, rfl, _⟩ := key i ei hi; cases hm
theorem nil_holds (w : World) : (Ent.rd none 1 0 []).holds w := ⟨rfl, fun h => absurd rfl h⟩
theorem HSat.start (w : World) : HSat w (fun _ => False) H0 w := HSat.reads fun p hp => by
  simp only [List.mem_singleton] at hp
  subst hp
  exact ⟨none, 1, 0, [], rfl, nil_holds w⟩
theorem HSat.isBelow {w w' : World} {H : Heap} (h : HSat w (fun _ => False) H w') : Below w.heap.size w w' := h.fr.below fun _ h => h
end Go.Proofs.YtbcicjmepojlnaaGreat.Eng
/- '==' of two structs of numbers and bools: the steps; no condition. -/
namespace Go.Proofs.YtbcicjmepojlnaaGreat.Eng
open Go Go.RowKit
set_option autoImplicit false
set_option linter.unusedSimpArgs false
set_option linter.unusedVariables false
variable {P : Program} {d : Nat} {xs ys : Array Value} {f : Field} {fs : List Field} {a b : Value} {r s : Bool} {w : World}
theorem sEq_cons (hn : (f.name == "_") = false) (ha : (part f.type xs f.offset).run P w = .ok a w) (hb : (part f.type ys f.offset).run P w = .ok b w) (he : (Op.equalIn d f.type a b).run P w = .ok r w) (hr : (Op.eqFields d xs ys fs).run P w = .ok s w) : (Op.eqFields d xs ys (f :: fs)).run P w = .ok (r && s) w := by
  have hn' : f.name ≠ "_" := by simpa using hn
  rw [Op.eqFields]
  simp only [if_pos hn', Sem.run_bind, ha, hb, he, Result.andThen_ok]
  cases r
  · simp
  · simpa using hr
theorem sEq_nil : (Op.eqFields d xs ys []).run P w = .ok true w := by simp [Op.eqFields]
theorem sEq_of {t : TypeId} {fs : Array Field} (hu : P.underlying t = some (.struct fs)) (hp : P.stoodInHeld t = false) (h : (Op.eqFields d xs ys fs.toList).run P w = .ok r w) : (Op.equalIn (d + 1) t (.agg xs) (.agg ys)).run P w = .ok r w := by
  have hf : P.fieldsOf t = fs := by simp [Program.fieldsOf, hu]
  rw [run_equalIn_struct (P := P) w d t xs ys (by rw [hf]; exact hu) hp, hf]
  exact h
theorem sPart_one {t : Nat} {cs : Array Value} {o : Nat} {v : Value} {k : Nat} (h : szT P t = some (false, k)) (hc : cs[o]? = some v) : (part t cs o).run P w = .ok v w := by
  simp only [part, Sem.run_bind, szT_agg h, Result.andThen_ok, Bool.false_eq_true, if_false, hc, Sem.run_pure]
theorem sPart_agg {t : Nat} {cs : Array Value} {o k : Nat} {l : Array Value} (h : szT P t = some (true, k)) (hc : cs.extract o (o + k) = l) : (part t cs o).run P w = .ok (.agg l) w := by
  obtain ⟨i, hi, hs⟩ := szT_size h
  simp only [part, Sem.run_bind, szT_agg h, Result.andThen_ok, if_true, sizeOf, typeInfo, run_program, hi, hs, Sem.run_pure, hc]
theorem sEq_int {t : Nat} {k k' : IntKind} {x y : Int} (h : intT P t = some k') : (Op.equalIn (d + 1) t (.int k x) (.int k y)).run P w = .ok (x == y) w :=
  run_equalIn_int w d t k k' x y (by unfold intT at h; split at h <;> simp_all)
theorem sEq_bool {t : Nat} {x y : Bool} (h : P.underlying t = some .bool) : (Op.equalIn (d + 1) t (.bool x) (.bool y)).run P w = .ok (x == y) w :=
  run_equalIn_bool' w d t x y h
theorem eqCells_int {k : IntKind} {ks : List LK} {xs ys : List C} {r : Bool} (h : eqCells (.int k :: ks) xs ys = some r) :
    ∃ a b xs' ys' r', xs = .v (.int k a) :: xs' ∧ ys = .v (.int k b) :: ys' ∧ eqCells ks xs' ys' = some r' ∧ r = ((a == b) && r') := by
  unfold eqCells at h
  split at h
  · rename_i h1; cases h1
  · rename_i k0 ks0 k1 a xs' k2 b ys' h1
    injection h1 with h1 h2
    injection h1 with h1
    subst h1 h2
    split at h
    · split at h
      · rename_i e1 e2
        subst e1 e2
        split at h
        · rename_i r' hr
          injection h with h
          exact ⟨a, b, xs', ys', r', rfl, rfl, hr, h.symm⟩
        · cases h
      · cases h
    · cases h
  · rename_i h1; injection h1 with h1 _; cases h1
  · cases h
theorem eqCells_bool {ks : List LK} {xs ys : List C} {r : Bool} (h : eqCells (.bool :: ks) xs ys = some r) :
    ∃ a b xs' ys' r', xs = .v (.bool a) :: xs' ∧ ys = .v (.bool b) :: ys' ∧ eqCells ks xs' ys' = some r' ∧ r = ((a == b) && r') := by
  unfold eqCells at h
  split at h
  · rename_i h1; cases h1
  · rename_i h1; injection h1 with h1 _; cases h1
  · rename_i ks0 a xs' b ys' h1
    injection h1 with h1 h2
    subst h2
    split at h
    · rename_i r' hr
      injection h with h
      exact ⟨a, b, xs', ys', r', rfl, rfl, hr, h.symm⟩
    · cases h
  · cases h
theorem eqCells_nil {xs ys : List C} {r : Bool} (h : eqCells [] xs ys = some r) : xs = [] ∧ ys = [] ∧ r = true := by
  unfold eqCells at h
  split at h
  · injection h with h; exact ⟨rfl, rfl, h.symm⟩
  · rename_i h1; cases h1
  · rename_i h1; cases h1
  · cases h
end Go.Proofs.YtbcicjmepojlnaaGreat.Eng
