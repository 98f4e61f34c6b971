/- Small steps of the logic: where an exit lands, what is kept at a loop's head, a function's end. No program in sight. -/
import Derived.Test.YtoiebfpafdcbmaaDoorKf
import Derived.Scope
namespace Go.Proofs.YtoiebfpafdcbmaaDoor.K
open Go Go.RowKit
set_option linter.unusedVariables false
set_option linter.unusedSimpArgs false

theorem stepR_scope {P : Program} {b : Frame} {a : Act} {k : List Item} {cs : List Frame} {w : World} {c : Code} : step P (lone (b.atR a (.code (.scope c) :: k)) cs w) = .next (lone (b.atR a (.code c :: .inScope c :: k)) cs w) :=
  step_lone_go (by simp [stepG, stepG.exec, Frame.atR])
theorem stepR_inScope {P : Program} {b : Frame} {a : Act} {k : List Item} {cs : List Frame} {w : World} {c : Code} : step P (lone (b.atR a (.inScope c :: k)) cs w) = .next (lone (b.atR a k) cs w) :=
  step_lone_go (by simp [stepG, stepG.exec, Frame.atR])
theorem wpIn_scope {F : Fence} {n : Nat} {P : Program} {c : Code} {Q : Exit → Act → World → Prop} {a : Act} {w : World} (h : c.wpIn F n P (Exit.noGoto Q) a w) : (Code.scope c).wpIn F n P Q a w := by
  intro b k cs hro hb hr
  have h0 : (lone (b.atR a (.code (.scope c) :: k)) cs w).fenced P F := fenced_calm hb hr rfl
  obtain ⟨e, a₁, w₁, hq, harr⟩ := h b (.inScope c :: k) cs hro hb hr
  cases e with
  | normal => exact ⟨.normal, a₁, w₁, hq, .head h0 stepR_scope (StepsIn.trans harr (.one (fenced_calm hb hr rfl) stepR_inScope))⟩
  | exit id => exact ⟨.exit id, a₁, w₁, hq, fun k' hk => .head h0 stepR_scope (harr.1 k' (by simp [exitTo, hk])), fun hrr hk => by
      obtain ⟨k₁, h1, hs⟩ := harr.2 hrr (by simp [exitTo, hk])
      exact ⟨k₁, h1, .head h0 stepR_scope hs⟩⟩
  | goto l => exact hq.elim
  | ret => exact ⟨_, a₁, w₁, hq, .of_steps (.one h0 stepR_scope) harr⟩
  | panic ch => exact ⟨_, a₁, w₁, hq, .of_steps (.one h0 stepR_scope) harr⟩
  | outgrown => exact ⟨_, a₁, w₁, hq, .of_steps (.one h0 stepR_scope) harr⟩

theorem Gx.go {P : Program} {X : Cx} {c : Code} {E : List (Nat × Value)} {L M : List As} {Q : Exit → Act → World → Prop} {a : Act} {w : World} (hs : St X E L M a w) (h : Gx P X c E L M Q) : c.wpIn (fen X) 0 P Q a w := h.out a w hs

section layers
variable {K : Act → World → Prop} {Q : Exit → Act → World → Prop} {a : Act} {w : World} {id id' : Nat}
theorem then_normal (h : K a w) : Exit.then K Q .normal a w := h
theorem then_ret (h : Q .ret a w) : Exit.then K Q .ret a w := h
theorem then_exit (h : Q (.exit id) a w) : Exit.then K Q (.exit id) a w := h
theorem blk_normal (h : Q .normal a w) : Exit.inBlock id Q .normal a w := h
theorem blk_ret (h : Q .ret a w) : Exit.inBlock id Q .ret a w := h
theorem blk_exit (h : Q .normal a w) : Exit.inBlock id Q (.exit id) a w := by simpa [Exit.inBlock] using h
theorem blk_pass (hne : Nat.beq id' id = false) (h : Q (.exit id') a w) : Exit.inBlock id Q (.exit id') a w := by
  have : id' ≠ id := fun e => by subst e; simp at hne
  simpa [Exit.inBlock, this] using h
theorem sc_normal (h : Q .normal a w) : Exit.noGoto Q .normal a w := h
theorem sc_ret (h : Q .ret a w) : Exit.noGoto Q .ret a w := h
theorem sc_exit (h : Q (.exit id) a w) : Exit.noGoto Q (.exit id) a w := h
end layers

/-- What E1 knows E knows. -/
inductive SubE (E : List (Nat × Value)) : List (Nat × Value) → Prop
  | nil : SubE E []
  | cons {k : Nat} {v : Value} {r : List (Nat × Value)} : Env.get E k = some v → SubE E r → SubE E ((k, v) :: r)
theorem SubE.get {E E1 : List (Nat × Value)} (h : SubE E E1) : ∀ t v, Env.get E1 t = some v → Env.get E t = some v := by
  induction h with
  | nil => intro t v h; cases h
  | @cons k u r h1 _ ih =>
    intro t v h
    simp only [Env.get] at h
    by_cases e : k = t
    · subst e; simp at h; subst h; exact h1
    · rw [beq_no e] at h; exact ih t v h

section
variable {P : Program} {X : Cx} {E E1 : List (Nat × Value)} {L L1 R M : List As} {Q : Exit → Act → World → Prop} {ops : Array Oper} {a : Act} {w : World}
theorem St.to (hs : St X E L M a w) (hE : SubE E E1) [hL : PickA L L1 R] : St X E1 L1 M a w := hs.weak hE.get hL.ok
theorem Gx.to {c : Code} (hE : SubE E E1) [hL : PickA L L1 R] (h : Gx P X c E1 L1 M Q) : Gx P X c E L M Q := Gx.weak hE.get hL.ok h

/-- A loop whose states are told by x, from a state that is met. -/
theorem Gx.lp {c : Code} {α : Type} (I : α → Prop) (μ : α → Nat) (E1 : α → List (Nat × Value)) (L1 : α → List As)
    (x0 : α) (h0 : I x0) (hE : SubE E (E1 x0)) [hL : PickA L (L1 x0) R]
    (round : ∀ x, I x → Gx P X c (E1 x) (L1 x) M (Exit.then (fun a w => ∃ y, I y ∧ μ y < μ x ∧ St X (E1 y) (L1 y) M a w) Q)) : Gx P X (.loop c) E L M Q :=
  Gx.loop I μ E1 L1 x0 h0 (fun a w hs => hs.to hE) round

variable {fn : Func} {Post : Value → List As → Prop}
theorem fin_tmp {t : Nat} {v : Value} (hs : St X E L M a w) (hres : fn.results = #[.tmp t]) (hv : Env.get E t = some v) [hk : PickA L L1 R] (hp : Post v L1) : bodyPostM Fence.wide 0 P fn (SpcR X.w0 X.F0 Post) .ret a w :=
  (fin_of (fun a w hs => by rw [results_tmp hres]; exact congrArg (Result.ok · w) (hs.1.2.2 t v hv)) hp hk.ok a w hs).1
theorem fin_none (hs : St X E L M a w) (hres : fn.results = #[]) [hk : PickA L L1 R] (hp : Post (.tuple #[]) L1) : bodyPostM Fence.wide 0 P fn (SpcR X.w0 X.F0 Post) .ret a w :=
  (fin_of (fun a w hs => results_none hres _ _ _) hp hk.ok a w hs).1
theorem fin_end (hs : St X E L M a w) (hres : fn.results = #[]) [hk : PickA L L1 R] (hp : Post (.tuple #[]) L1) : bodyPostM Fence.wide 0 P fn (SpcR X.w0 X.F0 Post) .normal a w :=
  (fin_of (fun a w hs => results_none hres _ _ _) hp hk.ok a w hs).2
theorem fin_two {t u : Nat} {v v' : Value} (hs : St X E L M a w) (hres : fn.results = #[.tmp t, .tmp u]) (hv : Env.get E t = some v) (hu : Env.get E u = some v') [hk : PickA L L1 R] (hp : Post (.tuple #[v, v']) L1) : bodyPostM Fence.wide 0 P fn (SpcR X.w0 X.F0 Post) .ret a w :=
  (fin_of (fun a w hs => by rw [results_tmp2 hres, hs.1.2.2 t v hv, hs.1.2.2 u v' hu]) hp hk.ok a w hs).1
theorem fin_cell {t : Nat} {T : TypeId} {n b i : Nat} {T' : TypeId} {cs us : List Value} [AggTy P T n] (hs : St X E L M a w) (hres : fn.results = #[.cell t T]) (hv : Env.get E t = some (.pointer (some ⟨b, i, none⟩))) [hi : FindPt L [] b T' cs] (hu : (cs.drop i).take n = us) (hn : us.length = n) [hk : PickA L L1 R] (hp : Post (.agg us.toArray) L1) :
    bodyPostM Fence.wide 0 P fn (SpcR X.w0 X.F0 Post) .ret a w :=
  (fin_of (fun a w hs => by
    obtain ⟨G, hG⟩ := hs.2.of_inn hi.ok
    obtain ⟨ad, e, hc⟩ := lds_pt (m := n) hu w G hG
    cases e
    obtain ⟨dd, inf, _, hinf, hsz, _⟩ := AggTy.out P T
    have hld := run_loadCells_list (P := P) w _ us hc
    have hd := hs.1.2.2 t _ hv
    simp only [Array.getD_eq_getD_getElem?] at hd
    simp [results, hres, hd, asAddr, loadVar, run_isAgg_agg P T, sizeOf, typeInfo, hinf, hsz, ← hn, hld]) hp hk.ok a w hs).1

/-- An assertion is opened: what it says in pure words is kept, its parts lie bare. -/
def As.ex {α : Type} (f : α → List As) (φ : α → Prop) : As where
  P w F := ∃ x, φ x ∧ Has w (f x) F
  loc := fun ⟨x, h1, h2⟩ e => ⟨x, h1, h2.loc e⟩
  lt := fun ⟨_, _, h2⟩ => h2.lt
  ext := fun ⟨x, h1, h2⟩ e => ⟨x, h1, h2.ext e⟩

theorem Hp.opn {α : Type} {f : α → List As} {φ : α → Prop} {w0 : World} {F0 : Nat → Prop} {L' : List As} (ht : Take L (As.ex f φ) L') (h : Hp w0 F0 L M w) : ∃ x, φ x ∧ Hp w0 F0 (f x ++ L') M w := by
  obtain ⟨F, h1, h2, h3, h4⟩ := h
  obtain ⟨F1, F2, ⟨x, hx, k1⟩, k2, k3, k4⟩ := ht.has h1
  exact ⟨x, hx, fun b => F1 b ∨ F2 b, k1.append k2 k3, h2.ext fun b hb => (k4 b).2 hb, h3, fun b hb => h4 b ((k4 b).2 hb)⟩
theorem Hp.shut {α : Type} {f : α → List As} {φ : α → Prop} {w0 : World} {F0 : Nat → Prop} {L' : List As} (x : α) (hx : φ x) (ht : Pick L (f x) L') (h : Hp w0 F0 L M w) : Hp w0 F0 (As.ex f φ :: L') M w := by
  obtain ⟨F, h1, h2, h3, h4⟩ := h
  obtain ⟨F1, F2, k1, k2, k3, k4⟩ := ht.has h1
  exact ⟨F, ⟨F1, F2, ⟨x, hx, k1⟩, k2, k3, k4⟩, h2, h3, h4⟩
theorem Gx.opn {α : Type} {f : α → List As} {φ : α → Prop} {c : Code} [ht : TakeA L (As.ex f φ) L1] (h : ∀ x, φ x → Gx P X c E (f x ++ L1) M Q) : Gx P X c E L M Q := ⟨fun a w hs => by
  obtain ⟨x, hx, hh⟩ := hs.2.opn ht.ok
  exact (h x hx).out a w ⟨hs.1, hh⟩⟩
theorem Rx.opn {α : Type} {f : α → List As} {φ : α → Prop} {l : List Oper} [ht : TakeA L (As.ex f φ) L1] (h : ∀ x, φ x → Rx P X ops l E (f x ++ L1) M Q) : Rx P X ops l E L M Q := ⟨fun a w hs => by
  obtain ⟨x, hx, hh⟩ := hs.2.opn ht.ok
  exact (h x hx).out a w ⟨hs.1, hh⟩⟩
theorem Gx.shut {α : Type} {f : α → List As} {φ : α → Prop} {c : Code} (x : α) (hx : φ x) [ht : PickA L (f x) L1] (h : Gx P X c E (As.ex f φ :: L1) M Q) : Gx P X c E L M Q := ⟨fun a w hs => h.out a w ⟨hs.1, hs.2.shut x hx ht.ok⟩⟩
theorem Rx.shut {α : Type} {f : α → List As} {φ : α → Prop} {l : List Oper} (x : α) (hx : φ x) [ht : PickA L (f x) L1] (h : Rx P X ops l E (As.ex f φ :: L1) M Q) : Rx P X ops l E L M Q := ⟨fun a w hs => h.out a w ⟨hs.1, hs.2.shut x hx ht.ok⟩⟩
theorem St.shut {α : Type} {f : α → List As} {φ : α → Prop} (x : α) (hx : φ x) [ht : PickA L (f x) L1] (hs : St X E L M a w) : St X E (As.ex f φ :: L1) M a w := ⟨hs.1, hs.2.shut x hx ht.ok⟩
theorem Shr.of_has {w : World} {F : Nat → Prop} : ∀ {L : List As} {G : Nat → Prop}, Has w L G → (∀ b, G b → ¬ F b) → Shr w L F
  | [], _, _, _ => fun A hA => by cases hA
  | B :: L, G, ⟨F1, F2, h1, h2, _, h4⟩, hd => fun A hA => by
    rcases List.mem_cons.1 hA with rfl | hA
    · exact ⟨F1, h1, fun b hb => hd b ((h4 b).2 (.inl hb))⟩
    · exact Shr.of_has h2 (fun b hb => hd b ((h4 b).2 (.inr hb))) A hA
theorem Take.mem {L L' : List As} {A : As} (h : Take L A L') : ∀ B, B ∈ L → B = A ∨ B ∈ L' := by
  induction h with
  | here => intro B hB; rcases List.mem_cons.1 hB with h | h; exact .inl h; exact .inr h
  | there _ ih =>
    intro B hB
    rcases List.mem_cons.1 hB with rfl | h
    · exact .inr List.mem_cons_self
    · exact (ih B h).imp id (List.mem_cons_of_mem _)
/-- A shared assertion is opened. -/
theorem Hp.opnM {α : Type} {f : α → List As} {φ : α → Prop} {w0 : World} {F0 : Nat → Prop} {M' : List As} (ht : Take M (As.ex f φ) M') (h : Hp w0 F0 L M w) : ∃ x, φ x ∧ Hp w0 F0 L (f x ++ M') w := by
  obtain ⟨F, h1, h2, h3, h4⟩ := h
  obtain ⟨G, ⟨x, hx, hg⟩, hd⟩ := h2 _ (In.of_take ht).mem
  refine ⟨x, hx, F, h1, fun A hA => ?_, h3, h4⟩
  rcases List.mem_append.1 hA with hA | hA
  · exact Shr.of_has hg hd A hA
  · have : ∀ {M M' : List As} {A B : As}, Take M A M' → B ∈ M' → B ∈ M := by
      intro M M' A B ht
      induction ht with
      | here => exact List.mem_cons_of_mem _
      | there _ ih => intro hB; rcases List.mem_cons.1 hB with rfl | hB; exact List.mem_cons_self; exact List.mem_cons_of_mem _ (ih hB)
    exact h2 A (this ht hA)
theorem Gx.opnM {α : Type} {f : α → List As} {φ : α → Prop} {c : Code} {M1 : List As} [ht : TakeA M (As.ex f φ) M1] (h : ∀ x, φ x → Gx P X c E L (f x ++ M1) Q) : Gx P X c E L M Q := ⟨fun a w hs => by
  obtain ⟨x, hx, hh⟩ := hs.2.opnM ht.ok
  refine (h x hx).out a w ⟨hs.1.mem fun b hb => ?_, hh⟩
  rcases ht.ok.mem _ hb with e | e
  · have := congrArg As.tag e
    simp [dfb, As.ex] at this
  · exact List.mem_append_right _ e⟩
/-- The same value in other words. -/
theorem OpQ.val {o : Oper} {v u : Value} (h : OpQ P X o E L M v) (e : v = u) : OpQ P X o E L M u := e ▸ h
theorem St.castL {L' : List As} (hs : St X E L M a w) (e : L = L') : St X E L' M a w := e ▸ hs
theorem Rx.castL {L' : List As} {l : List Oper} (e : L = L') (h : Rx P X ops l E L' M Q) : Rx P X ops l E L M Q := e ▸ h
theorem Gx.castL {L' : List As} {c : Code} (e : L = L') (h : Gx P X c E L' M Q) : Gx P X c E L M Q := e ▸ h
theorem Gx.scope {c : Code} (h : Gx P X c E L M (Exit.noGoto Q)) : Gx P X (.scope c) E L M Q := ⟨fun a w hs => wpIn_scope (h.out a w hs)⟩
end
end Go.Proofs.YtoiebfpafdcbmaaDoor.K
