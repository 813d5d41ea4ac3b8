/- Each operation's predicate is 'what is asked, and whatever may come of it'; what it looks at; what it turns; no condition. -/
import Derived.Test.YtjlgeoaomegbmaaEng9
namespace Go.Proofs.Ytjlgeoaomegbmaa.Eng
open Go Go.RowKit
set_option autoImplicit false
set_option linter.unusedSimpArgs false
set_option linter.unusedVariables false

variable {P : Program} {F : TT}

def Conj (T : KT → Prop) (ks : List Nat) : Prop := ∃ (s : Prop) (R : SV → Upd → Prop), (s → ∃ v u, R v u) ∧ (∀ v u, R v u → ∀ p ∈ u, p.1 ∈ ks) ∧ ∀ K, T K ↔ s ∧ ∀ v u, R v u → K v u

theorem Conj.one {ks : List Nat} (v : SV) (u : Upd) (hu : ∀ p ∈ u, p.1 ∈ ks) : Conj (fun K => K v u) ks :=
  ⟨True, fun v' u' => v' = v ∧ u' = u, fun _ => ⟨v, u, rfl, rfl⟩, fun v' u' h => by rw [h.2]; exact hu, fun K => ⟨fun h => ⟨trivial, fun v' u' e => by rw [e.1, e.2]; exact h⟩, fun h => h.2 v u ⟨rfl, rfl⟩⟩⟩
theorem Conj.none_ {ks : List Nat} (v : SV) : Conj (fun K => K v []) ks := .one v [] (by simp)
theorem Conj.false_ {ks : List Nat} : Conj (fun _ => False) ks := ⟨False, fun _ _ => False, fun h => h.elim, fun _ _ h => h.elim, fun K => ⟨fun h => h.elim, fun h => h.1⟩⟩
theorem Conj.and_ {T : KT → Prop} {ks : List Nat} (p : Prop) (h : Conj T ks) : Conj (fun K => p ∧ T K) ks := by
  obtain ⟨s, R, h0, h1, h2⟩ := h
  exact ⟨p ∧ s, R, fun h => h0 h.2, h1, fun K => by show p ∧ T K ↔ _; rw [h2 K, and_assoc]⟩
theorem Conj.and_imp {T : KT → Prop} {ks : List Nat} (p : Prop) (h : p → Conj T ks) : Conj (fun K => p ∧ T K) ks := by
  by_cases hp : p
  · exact .and_ p (h hp)
  · exact ⟨False, fun _ _ => False, fun h => h.elim, fun _ _ h => h.elim, fun K => ⟨fun h => absurd h.1 hp, fun h => h.1.elim⟩⟩
theorem Conj.all_ {α : Type} {ks : List Nat} [Inhabited α] (f : α → SV) (g : α → Upd) (hu : ∀ x, ∀ p ∈ g x, p.1 ∈ ks) : Conj (fun K => ∀ x, K (f x) (g x)) ks :=
  ⟨True, fun v u => ∃ x, v = f x ∧ u = g x, fun _ => ⟨f default, g default, default, rfl, rfl⟩, fun v u ⟨x, h⟩ => by rw [h.2]; exact hu x,
   fun K => ⟨fun h => ⟨trivial, fun v u ⟨x, e⟩ => by rw [e.1, e.2]; exact h x⟩, fun h x => h.2 _ _ ⟨x, rfl, rfl⟩⟩⟩
theorem Conj.ex {α : Type} {ks : List Nat} {p : α → Prop} {T : α → KT → Prop} (hu : ∀ x y, p x → p y → x = y) (h : ∀ x, p x → Conj (T x) ks) : Conj (fun K => ∃ x, p x ∧ T x K) ks := by
  by_cases hp : ∃ x, p x
  · obtain ⟨x, hx⟩ := hp
    obtain ⟨s, R, h0, h1, h2⟩ := h x hx
    refine ⟨s, R, h0, h1, fun K => ?_⟩
    rw [← h2 K]
    exact ⟨fun ⟨y, hy, hT⟩ => by rw [hu x y hx hy]; exact hT, fun hT => ⟨x, hx, hT⟩⟩
  · exact ⟨False, fun _ _ => False, fun h => h.elim, fun _ _ h => h.elim, fun K => ⟨fun ⟨x, hx, _⟩ => absurd ⟨x, hx⟩ hp, fun h => h.1.elim⟩⟩
theorem Conj.congr {T T' : KT → Prop} {ks : List Nat} (h : Conj T ks) (he : ∀ K, T' K ↔ T K) : Conj T' ks := by
  obtain ⟨s, R, h0, h1, h2⟩ := h
  exact ⟨s, R, h0, h1, fun K => (he K).trans (h2 K)⟩

/-- ids: what it looks at. -/
def wset (wr : FuncId → Bool) (o : Op) (ids : List Nat) (d : Nat) : List Nat := match o with
  | .alloc _ => [d]
  | .box _ _ => [d]
  | .buildSlice _ _ _ => [d]
  | .makeSlice _ _ _ => [d]
  | .store _ _ _ => ids
  | .slice _ _ _ _ _ => d :: ids
  | .call c => match c.callee with
    | .value (.func f) => if wr f then d :: (d + 100000) :: (d + 200000) :: ids else [d, d + 100000, d + 200000]
    | .builtin .append => d :: ids
    | _ => []
  | _ => []

theorem bin_conj (op : BinOp) (t : TypeId) (x y : SV) (ks : List Nat) : Conj (binT F op t x y) ks := by
  unfold binT
  split
  · rename_i k i k' j
    split
    · exact .and_ _ (.none_ _)
    · exact .and_ _ (.and_ _ (.none_ _))
    · exact .and_ _ (.and_ _ (.none_ _))
    · refine .and_ _ ?_
      split
      · exact .none_ _
      · exact .false_
  · refine .and_ _ ?_
    split
    · exact .none_ _
    · exact .none_ _
    · exact .false_
  · split
    · exact .and_ _ (.none_ _)
    · exact .and_ _ (.none_ _)
    · exact .and_ _ .false_
  · split
    · split
      · split
        · exact .none_ _
        · exact .false_
      · exact .false_
    · split
      · split
        · exact .none_ _
        · exact .false_
      · exact .false_
    · exact .false_
  · refine .and_ _ ?_
    split
    · exact .false_
    · split
      · exact .none_ _
      · exact .none_ _
      · exact .false_
  · exact .false_

theorem load_conj (t : TypeId) (x : SV) (H : Heap) (ks : List Nat) : Conj (loadT F t x H) ks := by
  unfold loadT
  have one : ∀ (r : Option C), Conj (fun K => match r with
      | some x => K (.c x) []
      | none => False) ks := by
    intro r
    cases r with
    | none => exact .false_
    | some x => exact .none_ _
  split
  · rename_i id b off
    split
    · refine .and_ _ ?_
      split
      · exact .and_ _ (.none_ _)
      · exact one _
      · exact .false_
    · exact .false_
  · rename_i id A k
    split
    · refine .and_ _ ?_
      split
      · exact .and_ _ (.and_ _ (.none_ _))
      · exact one _
      · exact .false_
    · refine .and_ _ ?_
      split
      · exact .and_ _ (.and_ _ (.none_ _))
      · exact one _
      · exact .false_
    · exact .false_
  · exact .false_

theorem store_conj (t : TypeId) (x y : SV) (H : Heap) (ks : List Nat) (hk : ∀ i ∈ x.ids, i ∈ ks) : Conj (storeT F t x y H) ks := by
  unfold storeT
  split
  · exact .false_
  · refine .and_ _ (.and_ _ ?_)
    split
    · rename_i id b off
      split
      · exact .and_ _ (.and_ _ (.one _ _ (by simp; exact hk id (by simp [SV.ids, C.ids]))))
      · exact .false_
    · rename_i id A k
      split
      · exact .and_ _ (.and_ _ (.and_ _ (.one _ _ (by simp; exact hk id (by simp [SV.ids, C.ids])))))
      · exact .false_
    · exact .false_

theorem index_conj (t : TypeId) (x y : SV) (H : Heap) (ks : List Nat) : Conj (indexT F t x y H) ks := by
  unfold indexT
  split
  · split
    · exact .and_ _ (.and_ _ (.none_ _))
    · exact .false_
  · split
    · refine .and_ _ (.and_ _ (.and_ _ ?_))
      split
      · exact .and_ _ (.and_ _ (.and_ _ (.none_ _)))
      · exact .and_ _ (.and_ _ (.and_ _ (.none_ _)))
      · exact .false_
    · exact .false_
  · exact .false_

theorem append_conj (t t' : TypeId) (x y : SV) (H : Heap) (d : Nat) (ks : List Nat) (hd : d ∈ ks) (hx : ∀ i ∈ x.ids, i ∈ ks) : Conj (appendT F t t' x y H d) ks := by
  unfold appendT
  split
  · rename_i e sz bytes zs id A n c id' B m cap _
    refine .and_ _ (.and_ _ (.and_ _ (.and_ _ (.and_ _ (.and_ _ ?_)))))
    split
    · rename_i B' sz' m' ys _
      refine .and_ _ (.and_ _ (.and_ _ (.and_ _ ?_)))
      split
      · refine .and_ _ (.and_ _ (.and_ _ (.and_ _ (.and_ _ ?_))))
        refine (Conj.all_ (α := Option Addr × Nat) (fun p => .c (.sl d p.1 (n + m) p.2)) (fun p => [(id, none), (d, some (.row p.1 p.2 e sz (n + m) (_ ++ ys)))]) ?_).congr fun K => ⟨fun h p => h p.1 p.2, fun h a b => h (a, b)⟩
        intro p q hq
        simp only [List.mem_cons, List.not_mem_nil, or_false] at hq
        rcases hq with rfl | rfl
        · exact hx id (by simp [SV.ids, C.ids])
        · exact hd
      · refine .and_ _ (.and_ _ (.and_ _ ?_))
        refine (Conj.all_ (α := Option Addr × Nat) (fun p => .c (.sl d p.1 m p.2)) (fun p => [(d, some (.row p.1 p.2 e sz m ys))]) ?_).congr fun K => ⟨fun h p => h p.1 p.2, fun h a b => h (a, b)⟩
        intro p q hq
        simp only [List.mem_cons, List.not_mem_nil, or_false] at hq
        subst hq
        exact hd
      · exact .false_
    · exact .false_
  · exact .false_

theorem slice_conj (t : TypeId) (x : SV) (lo hi mx : Option SV) (H : Heap) (d : Nat) (ks : List Nat) (hd : d ∈ ks) (hx : ∀ i ∈ x.ids, i ∈ ks) : Conj (sliceT F t x lo hi mx H d) ks := by
  unfold sliceT
  split
  · rename_i id A n c l _ _
    split
    · refine .and_ _ (.and_ _ (.and_ _ ?_))
      split
      · exact .and_ _ (.and_ _ (.and_ _ (.and_ _ (.one _ _ (by simp; exact hd)))))
      · refine .and_ _ (.and_ _ (.and_ _ (.and_ _ (.and_ _ (.and_ _ (.one _ _ ?_))))))
        intro q hq
        simp only [List.mem_cons, List.not_mem_nil, or_false] at hq
        rcases hq with rfl | rfl
        · exact hx id (by simp [SV.ids, C.ids])
        · exact hd
      · exact .false_
    · exact .false_
  · exact .false_

theorem make_conj (t : TypeId) (x y : SV) (d : Nat) (ks : List Nat) (hd : d ∈ ks) : Conj (makeT F t x y d) ks := by
  unfold makeT
  split
  · split
    · refine .and_ _ (.and_ _ (.and_ _ (.and_ _ ?_)))
      exact .all_ (fun A => .c (.sl d A _ _)) (fun A => [(d, some (.row A _ _ _ _ _))]) (by simp [hd])
    · exact .false_
  · exact .false_

theorem call_conj (X : Ctx P) (c : Call) (e : Operand → SV) (H : Heap) (d : Nat) (ids : List Nat) (hf : ∀ i ∈ footR (.call c) e, i ∈ ids) (hs : ∀ i, (H i).isSome = true → i ∈ ids) : Conj (callT X.F X.Γ c.callee (c.args.toList.map e) c.argTypes H d) (wset X.wr (.call c) ids d) := by
  obtain ⟨callee, args, ts⟩ := c
  have hids : ∀ i, i ∈ (args.toList.map e).flatMap SV.ids → i ∈ footR (.call ⟨callee, args, ts⟩) e := by
    intro i hi
    unfold footR
    simp only [List.mem_flatMap, List.mem_map] at hi ⊢
    obtain ⟨s, ⟨x, hx, rfl⟩, hi⟩ := hi
    exact ⟨x, by simp only [Op.operands, Call.operands, Array.toList_append, List.mem_append]; exact .inr hx, hi⟩
  cases callee with
  | invoke r m => exact .false_
  | value f =>
    cases f with
    | func f =>
      refine .and_ _ ?_
      refine ⟨(X.Γ f (args.toList.map e) H d).side, (X.Γ f (args.toList.map e) H d).R, (X.ok f).some_ _ _ _, fun v u hR p hp => ?_, fun K => Iff.rfl⟩
      have := (X.ok f).keys _ _ _ v u hR p hp
      simp only [wset]
      rcases this with h | h | h | ⟨hw, h⟩
      · split <;> simp [h]
      · split <;> simp [h]
      · split <;> simp [h]
      · rw [hw]; simp only [if_true, List.mem_cons]; exact .inr (.inr (.inr (hs _ h)))
    | tmp _ => exact .false_
    | const _ => exact .false_
    | global _ => exact .false_
  | builtin b =>
    cases b with
    | len => unfold callT; dsimp only; split <;> first | exact .and_ _ (.none_ _) | exact .false_
    | cap => unfold callT; dsimp only; split <;> first | exact .and_ _ (.none_ _) | exact .false_
    | max => unfold callT; dsimp only; split <;> first | exact .none_ _ | exact .false_
    | min => unfold callT; dsimp only; split <;> first | exact .none_ _ | exact .false_
    | append =>
      unfold callT
      dsimp only
      split
      · rename_i x y hxy
        refine .and_ _ (append_conj _ _ _ _ _ _ _ (by simp [wset]) (fun i hi => ?_))
        simp only [wset, List.mem_cons]
        refine .inr (hf i (hids i ?_))
        rw [hxy]
        simp [hi]
      · exact .false_
    | _ => exact .false_

theorem op_conj (X : Ctx P) (o : Op) (e : Operand → SV) (H : Heap) (d : Nat) (ids : List Nat) (hf : ∀ i ∈ footR o e, i ∈ ids) (hs : ∀ i, (H i).isSome = true → i ∈ ids) : Conj (opT X.F X.Γ o e H d) (wset X.wr o ids d) := by
  cases o with
  | move x => exact .none_ _
  | assign x => exact .none_ _
  | pick c x y =>
    unfold opT
    dsimp only
    split
    · rename_i t _
      cases t with
      | true => exact (Conj.none_ (e x)).congr fun K => by simp
      | false => exact (Conj.none_ (e y)).congr fun K => by simp
    · exact .false_
  | alloc t =>
    unfold opT
    dsimp only
    split
    · exact .all_ (fun b => .c (.loc d b 0)) (fun b => [(d, some (.blk b t _))]) (by simp [wset])
    · exact .false_
  | box t x =>
    unfold opT
    dsimp only
    split
    · exact .and_ _ (.all_ (fun b => .c (.loc d b 0)) (fun b => [(d, some (.blk b t _))]) (by simp [wset]))
    · exact .false_
  | build t ps =>
    unfold opT
    dsimp only
    split
    · refine .and_ _ ?_
      split
      · exact .none_ _
      · exact .false_
    · exact .false_
  | buildSlice t n ps =>
    unfold opT
    dsimp only
    split
    · refine .and_ _ (.and_ _ (.and_ _ (.and_ _ ?_)))
      split
      · exact .and_ _ (.all_ (fun A => .c (.sl d A n n)) (fun A => [(d, some (.row A n _ _ n _))]) (by simp [wset]))
      · exact .false_
    · exact .false_
  | load t x => exact load_conj t _ H _
  | store t x y => exact store_conj t _ _ H _ (fun i hi => hf i (by simp only [footR, Op.operands]; simp; exact .inl hi))
  | nilCheck x =>
    unfold opT
    dsimp only
    split
    · exact .none_ _
    · exact .none_ _
    · exact .false_
  | binOp op t x y t' => exact bin_conj op t _ _ _
  | unOp op t x =>
    cases op with
    | not => unfold opT; dsimp only; split <;> first | exact .none_ _ | exact .false_
    | neg => unfold opT; dsimp only; split <;> first | exact .none_ _ | exact .false_
    | _ => exact .false_
  | convert s t x => unfold opT; dsimp only; split <;> first | exact .none_ _ | exact .false_
  | fieldAddr t x f => unfold opT; dsimp only; split <;> first | exact .none_ _ | exact .false_
  | indexAddr t x y => exact index_conj t _ _ H _
  | slice t x lo hi mx => exact slice_conj t _ _ _ _ H d _ (by simp [wset]) (fun i hi => by simp only [wset, List.mem_cons]; exact .inr (hf i (by simp only [footR, Op.operands]; simp; exact .inl hi)))
  | makeSlice t x y => exact make_conj t _ _ d _ (by simp [wset])
  | extract x i =>
    unfold opT
    dsimp only
    split
    · split
      · exact .false_
      · exact .none_ _
      · exact .false_
    · exact .false_
  | call c => exact call_conj X c e H d ids hf hs
  | _ => exact .false_

theorem map_congr_ {α β : Type} {f g : α → β} {l : List α} (h : ∀ x ∈ l, f x = g x) : l.map f = l.map g := List.map_congr_left h

theorem all_congr_ {α : Type} {f g : α → Bool} : ∀ (l : List α), (∀ x ∈ l, f x = g x) → l.all f = l.all g
  | [], _ => rfl
  | x :: r, h => by rw [List.all_cons, List.all_cons, h x (by simp), all_congr_ r fun y hy => h y (by simp [hy])]

/-- An operation's predicate hangs on its operands alone. -/
theorem opT_congr (Γ : FuncId → Spec) (o : Op) (e e' : Operand → SV) (H : Heap) (d : Nat) (h : ∀ x ∈ o.operands, e x = e' x) : opT F Γ o e H d = opT F Γ o e' H d := by
  have pairs : ∀ ps : Array (Nat × Operand), (∀ x ∈ (ps.toList.map (·.2)), e x = e' x) → (ps.toList.map fun p => (p.1, e p.2)) = (ps.toList.map fun p => (p.1, e' p.2)) ∧ partsOk e ps = partsOk e' ps := by
    intro ps hp
    refine ⟨List.map_congr_left fun p hm => by rw [hp p.2 (List.mem_map.2 ⟨p, hm, rfl⟩)], ?_⟩
    exact all_congr_ ps.toList fun p hm => by rw [hp p.2 (List.mem_map.2 ⟨p, hm, rfl⟩)]
  cases o with
  | build t ps => obtain ⟨a, b⟩ := pairs ps (fun x hx => h x (by simpa [Op.operands] using hx)); funext K; simp only [opT, a, b]
  | buildSlice t n ps => obtain ⟨a, b⟩ := pairs ps (fun x hx => h x (by simpa [Op.operands] using hx)); funext K; simp only [opT, a, b]
  | call c =>
    have : c.args.toList.map e = c.args.toList.map e' := List.map_congr_left fun x hx => h x (by simp [Op.operands, Call.operands]; exact .inr (by simpa using hx))
    funext K
    simp only [opT, this]
  | slice t x lo hi mx =>
    have hx : e x = e' x := h x (by simp [Op.operands])
    have hl : lo.map e = lo.map e' := by cases lo with | none => rfl | some y => simp only [Option.map_some]; rw [h y (by simp [Op.operands])]
    have hh : hi.map e = hi.map e' := by cases hi with | none => rfl | some y => simp only [Option.map_some]; rw [h y (by simp [Op.operands])]
    have hm : mx.map e = mx.map e' := by cases mx with | none => rfl | some y => simp only [Option.map_some]; rw [h y (by simp [Op.operands])]
    funext K
    simp only [opT, hx, hl, hh, hm]
  | unOp op t x => funext K; cases op <;> simp only [opT] <;> rw [h x (by simp [Op.operands])]
  | _ =>
    funext K
    simp only [opT]
    repeat' first
      | rfl
      | (rw [h _ (by simp [Op.operands]; done)])

theorem flatMap_congr_ {α β : Type} {f g : α → List β} : ∀ (l : List α), (∀ x ∈ l, f x = g x) → l.flatMap f = l.flatMap g
  | [], _ => rfl
  | x :: r, h => by rw [List.flatMap_cons, List.flatMap_cons, h x (by simp), flatMap_congr_ r fun y hy => h y (by simp [hy])]
theorem footR_congr (o : Op) (e e' : Operand → SV) (h : ∀ x ∈ o.operands, e x = e' x) : footR o e = footR o e' :=
  flatMap_congr_ _ fun x hx => by rw [h x (by simpa using hx)]

theorem foot_congr (refs : List Nat) (H : Heap) (o : Op) (e e' : Operand → SV) (h : ∀ x ∈ o.operands, e x = e' x) : foot refs H o e = foot refs H o e' := by
  unfold foot
  rw [footR_congr o e e' h]
theorem restrict_isSome {H : Heap} {ids : List Nat} (i : Nat) (h : (restrict H ids i).isSome = true) : i ∈ ids := by
  unfold restrict at h
  split at h
  · rename_i hi; exact hi
  · cases h
theorem restrict_congr {H H' : Heap} {ids : List Nat} (h : ∀ i ∈ ids, H i = H' i) : restrict H ids = restrict H' ids := by
  funext i
  unfold restrict
  split
  · rename_i hi; exact h i hi
  · rfl

end Go.Proofs.Ytjlgeoaomegbmaa.Eng
