/- Ranges over a function: a loop's record as an assertion; what a call of yield owes; the call of yield. No program in sight. -/
import Derived.Test.YtoiebfpafdcbmaaDoorKk
namespace Go.Proofs.YtoiebfpafdcbmaaDoor.K
open Go Go.RowKit
set_option linter.unusedVariables false
set_option linter.unusedSimpArgs false

/-- The record of a loop over a function lies at block l. -/
def lp (l : Nat) (r : Loop) : As where
  P w F := w.heap[l]? = some (.loop r) ∧ ∀ k, F k ↔ k = l
  loc := fun ⟨h1, h2⟩ e => ⟨(e l ((h2 l).2 rfl)).trans h1, h2⟩
  lt := fun ⟨h1, h2⟩ k hk => by
    rw [(h2 k).1 hk]
    exact (Array.getElem?_eq_some_iff.1 h1).1
  ext := fun ⟨h1, h2⟩ e => ⟨h1, fun k => (e k).symm.trans (h2 k)⟩
/-- A call of the yield of loop l with these arguments: a round, after which Post holds. -/
structure YSpc (P : Program) (l : Nat) (args : List Value) (L0 M0 : List As) (Post : Value → List As → Prop) : Prop where
  out : ∀ w F1, Has w L0 F1 → Shr w M0 F1 → ∃ fn tmps assign body, (Instr.yield l args.toArray).run P w = .ok (.round l fn tmps assign body) w ∧
    RoundIn Fence.wide 0 P l fn tmps assign body w fun e w' => ∃ v L1 F1', e = .returned v ∧ Post v L1 ∧ Has w' L1 F1' ∧ (∀ b, F1' b → F1 b ∨ w.heap.size ≤ b) ∧ Eff F1 w w'

section
variable {P : Program} {X : Cx} {E : List (Nat × Value)} {L L0 L' R M M0 : List As} {Q : Exit → Act → World → Prop} {ops : Array Oper} {rest : List Oper} {d : Nat} {ty : TypeId} {pos : String} {af : Array Edge}

theorem roundIn_fen {l : Nat} {fn : FuncId} {tmps : Array Value} {assign body : Code} {w : World} {R : Ending → World → Prop} (h : RoundIn Fence.wide 0 P l fn tmps assign body w R) : RoundIn (fen X) (0 - 1) P l fn tmps assign body w R := h

theorem Rx.yield {l : Nat} {x : Operand} {args : List Value} {xs : List Operand} {tys : Array TypeId} {Post : Value → List As → Prop} (hs : YSpc P l args L0 M0 Post)
    (hf : evalO E x = some (.func (.yield l) #[] #[])) (ha : evalL E xs = some args) [hp : PickA L L0 R] [hm : SubsA M0 M R] (hn : Nat.blt d X.n = true)
    (k : ∀ v L1, Post v L1 → Rx P X ops rest ((d, v) :: E) (L1 ++ R) M Q) : Rx P X ops (⟨some d, .call ⟨.value x, xs.toArray, tys⟩, ty, pos, af, none⟩ :: rest) E L M Q := by
  refine ⟨fun a w hst => ?_⟩
  obtain ⟨F, h1, h2, h3, h4⟩ := hst.2
  obtain ⟨F1, F2, k1, k2, k3, k4⟩ := hp.ok.has h1
  obtain ⟨fn, tmps, assign, body, hy, hr⟩ := hs.out w F1 k1 (hm.ok.shr h2 k2 k3 (fun b hb => (k4 b).2 (.inl hb)))
  unfold wpListIn
  rw [if_pos (wanted_none rfl _)]
  have hrun : (execOp a.eval ⟨some d, .call ⟨.value x, xs.toArray, tys⟩, ty, pos, af, none⟩).run P w = .ok (.round l fn tmps assign body) w := by
    have h5 := hst.1.eval hf
    have h6 := hst.1.evalL ha
    simp [execOp, resolve, invoke, Deferred.ofValue, h5, ← h6, callFunc] at hy ⊢
    exact hy
  refine ⟨fun _ _ => trivial, ?_⟩
  rw [show (fen X).round = X.rd from rfl, sem_run hrun (fun _ => by simp), Oper.uponIn_round]
  refine ⟨fun h => by simp [Fence.wide] at h, (roundIn_fen hr).mono ?_⟩
  rintro e w' ⟨v, L1, F1', rfl, hP, g1, g2, g3⟩
  exact (k v L1 hP).out _ _ ⟨hst.1.put (by simpa using hn) _, Hp.step h2 h3 h4 k2 k3 k4 g1 g2 g3⟩
end

/-! ### A round -/
theorem eff_put (w : World) (l : Nat) (o : Obj) (F : Nat → Prop) (h : F l) : Eff F w (w.putObj l o) :=
  ⟨rfl, rfl, rfl, by simp, fun k _ hn => World.putObj_heap_other (fun e => hn (e ▸ h))⟩
theorem lp_put {w : World} {l : Nat} {r r' : Loop} {F : Nat → Prop} (h : (lp l r).P w F) : (lp l r').P (w.putObj l (.loop r')) F :=
  ⟨World.putObj_heap_same (Array.getElem?_eq_some_iff.1 h.1).1, h.2⟩
theorem Hp.put {w0 w : World} {F0 : Nat → Prop} {l : Nat} {r : Loop} (r' : Loop) {L M : List As} (h : Hp w0 F0 (lp l r :: L) M w) : Hp w0 F0 (lp l r' :: L) M (w.putObj l (.loop r')) :=
  Hp.turn .here h fun F1 h1 => ⟨F1, lp_put h1, fun b hb => .inl hb, eff_put w l _ F1 ((h1.2 l).2 rfl)⟩
theorem Hp.rec {w0 w : World} {F0 : Nat → Prop} {l : Nat} {r : Loop} {L M : List As} (h : Hp w0 F0 (lp l r :: L) M w) : w.heap[l]? = some (.loop r) := by
  obtain ⟨F, ⟨F1, F2, h1, _⟩, _⟩ := h
  exact h1.1

/-- What a round's body owes at its end, by the way in which it is left. -/
def roundQ (l : Nat) (r : Loop) (w0 : World) (F0 : Nat → Prop) (M : List As) (Post : Value → List As → Prop) : Exit → Act → World → Prop
  | .normal, _, w => ∃ L1, Hp w0 F0 (lp l { r with state := .busy } :: L1) M w ∧ Post (.bool true) (lp l { r with state := .ready, pending := none } :: L1)
  | .ret, _, w => ∃ L1, Hp w0 F0 (lp l { r with state := .busy } :: L1) M w ∧ Post (.bool false) (lp l { r with state := .done, pending := some .ret } :: L1)
  | .exit id, _, w => ∃ L1, Hp w0 F0 (lp l { r with state := .busy } :: L1) M w ∧ Post (.bool false) (lp l { r with state := .done, pending := some (.exit id) } :: L1)
  | _, _, _ => False

theorem YSpc.of_round {P : Program} {l n : Nat} {r : Loop} {args : List Value} {E : List (Nat × Value)} {L0 M0 : List As} {Post : Value → List As → Prop}
    (hst : r.state = .ready) (hsz : args.length = r.params.size) (hn : ((r.params.zip args.toArray).foldl (fun tmps (t, a) => tmps.setIfInBounds t a) r.tmps).size = n)
    (hE : Knows E { tmps := (r.params.zip args.toArray).foldl (fun tmps (t, a) => tmps.setIfInBounds t a) r.tmps, defers := [] })
    (h : ∀ w0 F0, Gx P ⟨n, w0, F0, some l⟩ r.assign E (lp l r :: L0) M0 (fun ex a w => ex = .normal ∧ ∃ E1 L1, St ⟨n, w0, F0, some l⟩ E1 (lp l r :: L1) M0 a w ∧
      Gx P ⟨n, w0, F0, some l⟩ r.body E1 (lp l { r with state := .busy } :: L1) M0 (roundQ l r w0 F0 M0 Post))) : YSpc P l args (lp l r :: L0) M0 Post := by
  refine ⟨fun w F1 h1 h2 => ?_⟩
  have hp : Hp w F1 (lp l r :: L0) M0 w := ⟨F1, h1, h2, Eff.refl _ _, fun b hb => .inl hb⟩
  refine ⟨_, _, _, _, run_yield hp.rec (by simpa using hsz), ?_⟩
  refine roundIn_of_wpIn (F := Fence.wide) trivial ?_
  refine wpIn_mono ((h w F1).out _ w ⟨⟨hn, Marks.nil, hE⟩, hp⟩) ?_
  rintro ex a1 w1 ⟨rfl, E1, L1, hs1, hb⟩
  refine ⟨_, run_beginRound hs1.2.rec hst, ?_⟩
  refine wpIn_mono (hb.out a1 _ ⟨hs1.1, hs1.2.put { r with state := .busy }⟩) ?_
  intro ex a2 w2 q
  have fin : ∀ (jump : Option Code) (L2 : List As), Hp w F1 (lp l { r with state := .busy } :: L2) M0 w2 → Post (.bool jump.isNone) (lp l { r with state := if jump.isNone then .ready else .done, pending := jump } :: L2) →
      ∃ v w', (Instr.endRound l jump).run P w2 = .ok v w' ∧ ∃ v' L1 F1', (Ending.returned v : Ending) = .returned v' ∧ Post v' L1 ∧ Has w' L1 F1' ∧ (∀ b, F1' b → F1 b ∨ w.heap.size ≤ b) ∧ Eff F1 w w' := by
    intro jump L2 hp2 hP
    refine ⟨_, _, run_endRound jump hp2.rec, ?_⟩
    obtain ⟨F, g1, _, g3, g4⟩ := hp2.put { r with state := if jump.isNone then .ready else .done, pending := jump }
    exact ⟨_, _, F, rfl, hP, g1, g4, g3⟩
  cases ex with
  | normal => obtain ⟨L2, hp2, hP⟩ := q; exact fin none L2 hp2 hP
  | ret => obtain ⟨L2, hp2, hP⟩ := q; exact fin (some .ret) L2 hp2 hP
  | exit id => obtain ⟨L2, hp2, hP⟩ := q; exact fin (some (.exit id)) L2 hp2 hP
  | goto t => exact q.elim
  | panic c => exact q.elim
  | outgrown => exact q.elim

/-! ### The statement -/
/-- The record of a loop that has been entered. -/
structure Entered (n : Nat) (E : List (Nat × Value)) (ps : Array Tmp) (assign body : Code) (r : Loop) : Prop where
  st : r.state = .ready
  pd : r.pending = none
  ps : r.params = ps
  as : r.assign = assign
  bd : r.body = body
  sz : r.tmps.size = n
  kn : Knows E { tmps := r.tmps, defers := [] }

theorem Hp.toM {w0 w : World} {F0 : Nat → Prop} {A : As} {L M : List As} : Hp w0 F0 (A :: L) M w → Hp w0 F0 L (A :: M) w
  | ⟨F, ⟨F1, F2, h1, h2, h3, h4⟩, hm, he, hf⟩ => ⟨F2, h2, fun B hB => by
      rcases List.mem_cons.1 hB with rfl | hB
      · exact ⟨F1, h1, fun b hb x => h3 b hb x⟩
      · obtain ⟨G, g1, g2⟩ := hm B hB
        exact ⟨G, g1, fun b hb x => g2 b hb ((h4 b).2 (.inr x))⟩, he, fun b hb => hf b ((h4 b).2 (.inr hb))⟩

theorem Gx.rangeFunc {P : Program} {X : Cx} {E : List (Nat × Value)} {L M : List As} {Q : Exit → Act → World → Prop} {g : Operand} {ps : Array Tmp} {assign body : Code} {f : FuncId} {caps : List Value} (hX : X.rd = none)
    (hg : evalO E g = some (.func (.func f) #[] caps.toArray))
    (h : ∀ b l r, Entered X.n E ps assign body r → ∃ L0 R M0 Post, Pick L L0 R ∧ Subs M0 (dfb b :: M) R ∧ Spc P f (.func (.yield l) #[] #[] :: caps) (K.lp l r :: L0) M0 Post ∧
      ∀ v L1, Post v L1 → ∃ r' L1', L1 = K.lp l r' :: L1' ∧ r'.state ≠ .busy ∧
        (match r'.pending with
         | none => ∀ a w, St X E (L1' ++ R) (dfb b :: M) a w → Q .normal a w
         | some c => Gx P X c E (L1' ++ R) (dfb b :: M) Q)) : Gx P X (.rangeFunc g ps assign body) E L M Q := by
  refine ⟨fun a w hst => wpIn_rangeFunc fun fn _ => ?_⟩
  have key : ∀ (w : World) (o : Obj), (w.alloc o).heap[w.heap.size]? = some o := fun w o => by show (w.heap.push o)[w.heap.size]? = some o; exact Array.getElem?_push_size
  let r : Loop := { state := .ready, pending := none, fn, tmps := a.tmps, params := ps, assign, body, defers := w.heap.size }
  obtain ⟨L0, R, M0, Post, hp, hm, hs, hpost⟩ := h w.heap.size (w.heap.size + 1) r ⟨rfl, rfl, rfl, rfl, rfl, hst.1.1, hst.1.2.2⟩
  have e1 : Hp X.w0 X.F0 (dfb w.heap.size :: L) M (w.alloc (.deferred (some []))) :=
    hst.2.new (F1' := fun k => k = w.heap.size) ⟨key _ _, fun _ => Iff.rfl⟩ (fun b hb => by omega) (Eff.below ((Below.refl _ _).alloc (Nat.le_refl _) _) _)
  have e2 : Hp X.w0 X.F0 (K.lp (w.heap.size + 1) r :: L) (dfb w.heap.size :: M) ((w.alloc (.deferred (some []))).alloc (.loop r)) :=
    e1.toM.new (F1' := fun k => k = w.heap.size + 1) ⟨by have := key (w.alloc (.deferred (some []))) (.loop r); rwa [World.size_alloc] at this, fun _ => Iff.rfl⟩ (fun b hb => by simp [World.size_alloc]; omega) (Eff.below ((Below.refl _ _).alloc (Nat.le_refl _) _) _)
  obtain ⟨F, h1, h2, h3, h4⟩ := e2
  obtain ⟨F1, F2, k1, k2, k3, k4⟩ := (Pick.cons (.here) hp).has h1
  refine ⟨w.heap.size + 1, [{ target := .collected w.heap.size, args := #[] }], (w.alloc (.deferred (some []))).alloc (.loop r), { target := .fn (.func f) caps.toArray, args := #[.func (.yield (w.heap.size + 1)) #[] #[]] }, (w.alloc (.deferred (some []))).alloc (.loop r), f, (.func (.yield (w.heap.size + 1)) #[] #[] :: caps).toArray, (w.alloc (.deferred (some []))).alloc (.loop r), ?_, ?_, fun _ _ => trivial, ?_, fun h => by simp [Fence.wide] at h, ?_⟩
  rotate_left 3
  · refine (calls_in (hs.out _ F1 k1 (hm.shr h2 k2 k3 (fun b hb => (k4 b).2 (.inl hb))))).mono ?_
    rintro e w' ⟨v, L1, F1', rfl, hP, g1, g2, g3⟩
    obtain ⟨r', L1', rfl, hr', hj⟩ := hpost v L1 hP
    have hq : Hp X.w0 X.F0 (K.lp (w.heap.size + 1) r' :: (L1' ++ R)) (dfb w.heap.size :: M) w' := Hp.step h2 h3 h4 k2 k3 k4 g1 g2 g3
    refine ⟨_, _, run_endLoop hq.rec hr', ?_⟩
    have hq2 : Hp X.w0 X.F0 (L1' ++ R) (dfb w.heap.size :: M) (w'.putObj (w.heap.size + 1) (.loop { r' with state := .exhausted })) := by
      obtain ⟨F, ⟨G1, G2, j1, j2, j3, j4⟩, i2, i3, i4⟩ := hq.put { r' with state := .exhausted }
      exact ⟨G2, j2, i2.ext fun b hb => (j4 b).2 (.inr hb), i3, fun b hb => i4 b ((j4 b).2 (.inr hb))⟩
    have hm2 : Marks X (dfb w.heap.size :: M) (({ target := .collected w.heap.size, args := #[] } : Deferred) :: a.defers) := by
      obtain ⟨bs, m1, m2, m3⟩ := hst.1.2.1
      obtain ⟨F', n1, n2, n3, n4⟩ := hst.2
      refine ⟨w.heap.size :: bs, List.nodup_cons.2 ⟨fun hb => ?_, m1⟩, by simp [m2], fun b hb => ?_⟩
      · obtain ⟨G, g, _⟩ := n2 _ (m3 _ hb).2
        exact absurd ((dfb _).lt g _ ((g.2 _).2 rfl)) (Nat.lt_irrefl _)
      · rcases List.mem_cons.1 hb with rfl | hb
        · exact ⟨n3.size, List.mem_cons_self⟩
        · exact ⟨(m3 b hb).1, List.mem_cons_of_mem _ (m3 b hb).2⟩
    have hst2 : St X E (L1' ++ R) (dfb w.heap.size :: M) { a with defers := [{ target := .collected w.heap.size, args := #[] }] ++ a.defers } (w'.putObj (w.heap.size + 1) (.loop { r' with state := .exhausted })) := ⟨⟨hst.1.1, hm2, hst.1.2.2⟩, hq2⟩
    cases hpd : r'.pending with
    | none => rw [hpd] at hj hst2; exact hj _ _ hst2
    | some c => rw [hpd] at hj hst2; exact hj.out _ _ hst2
  · rw [show (fen X).round = none from hX]; exact run_enterLoop_outer _ _ _ _ _
  · have := hst.1.eval hg
    simp [resolve, rangeCall, this, Deferred.ofValue]
    rfl
  · have hgo := hs.go
    unfold isGo at hgo
    split at hgo
    · rename_i fn' hfn
      simp only [Bool.and_eq_true, Bool.not_eq_true', beq_eq_false_iff_ne, Option.isSome_iff_exists] at hgo
      obtain ⟨g1, c, hc⟩ := hgo
      simp [invoke, callFunc, hfn, g1, hc]
    · cases hgo
end Go.Proofs.YtoiebfpafdcbmaaDoor.K
