/- Contracts of functions in the logic: what a call owes, what it is used by. No program in sight. -/
import Derived.Test.YtoiebfpafdcbmaaDoorKd
namespace Go.Proofs.YtoiebfpafdcbmaaDoor.K
open Go Go.RowKit
set_option linter.unusedVariables false
set_option linter.unusedSimpArgs false

/-- A function with a body, called as such. -/
def isGo (P : Program) (f : FuncId) : Bool :=
  match P.funcs[f]? with
  | some fn => !(fn.name == "runtime.NumGoroutine") && fn.body.isSome
  | none => false

/-- Called with these arguments, where memory holds L0 (its own) and M0 (shared): it returns, what it returns and holds then meets Post, all else is as it was. -/
structure Spc (P : Program) (f : FuncId) (args : List Value) (L0 M0 : List As) (Post : Value → List As → Prop) : Prop where
  go : isGo P f = true
  out : ∀ w F1, Has w L0 F1 → Shr w M0 F1 → Calls P f args.toArray w fun e w' =>
    ∃ v L1 F1', e = .returned v ∧ Post v L1 ∧ Has w' L1 F1' ∧ (∀ b, F1' b → F1 b ∨ w.heap.size ≤ b) ∧ Eff F1 w w'

def SpcR (w0 : World) (F0 : Nat → Prop) (Post : Value → List As → Prop) (e : Ending) (w' : World) : Prop :=
  ∃ v L1 F1', e = .returned v ∧ Post v L1 ∧ Has w' L1 F1' ∧ (∀ b, F1' b → F0 b ∨ w0.heap.size ≤ b) ∧ Eff F0 w0 w'

/-- It returns v, and makes nothing. -/
def ret (v : Value) : Value → List As → Prop := fun u L => u = v ∧ L = []

theorem Spc.mono {P : Program} {f : FuncId} {args : List Value} {L0 M0 : List As} {Post Post' : Value → List As → Prop} (h : Spc P f args L0 M0 Post) (hp : ∀ v L, Post v L → Post' v L) : Spc P f args L0 M0 Post' :=
  ⟨h.go, fun w F1 h1 h2 => (h.out w F1 h1 h2).mono fun _ _ ⟨v, L1, F, he, hP, r⟩ => ⟨v, L1, F, he, hp v L1 hP, r⟩⟩

def argsEnv : Nat → List Value → List (Nat × Value)
  | _, [] => []
  | i, v :: r => (i, v) :: argsEnv (i + 1) r

theorem argsEnv_get : ∀ (vs : List Value) (i t : Nat) (v : Value), Env.get (argsEnv i vs) t = some v → i ≤ t ∧ vs[t - i]? = some v
  | [], _, _, _, h => by simp [argsEnv, Env.get] at h
  | u :: r, i, t, v, h => by
    simp only [argsEnv, Env.get] at h
    by_cases e : i = t
    · subst e; simp at h; subst h; simp
    · rw [beq_no e] at h
      obtain ⟨h1, h2⟩ := argsEnv_get r (i + 1) t v h
      refine ⟨by omega, ?_⟩
      rw [show t - i = (t - (i + 1)) + 1 by omega]
      simpa using h2

theorem Spc.intro {P : Program} {f : FuncId} {args : List Value} {L0 M0 : List As} {Post : Value → List As → Prop} {fn : Func} {c : Code} {n : Nat} {E : List (Nat × Value)}
    (hf : P.funcs[f]? = some fn) (hb : fn.body = some c) (hn : fn.ntmps = n) (hgo : isGo P f = true) (hE : argsEnv 0 args = E) (hle : Nat.ble args.length n = true)
    (h : ∀ w0 F0, Gx P ⟨n, w0, F0, none⟩ c E L0 M0 (bodyPostM Fence.wide 0 P fn (SpcR w0 F0 Post))) : Spc P f args L0 M0 Post := by
  refine ⟨hgo, fun w F1 h1 h2 => ?_⟩
  refine callsIn_wide.1 (callsIn_of_wp_marks hf hb trivial ((h w F1).out _ w ⟨⟨?_, Marks.nil, ?_⟩, F1, h1, h2, Eff.refl _ _, fun b hb => .inl hb⟩))
  · have := Nat.le_of_ble_eq_true hle
    simp [hn]; omega
  · intro t v hv
    subst hE
    obtain ⟨_, h4⟩ := argsEnv_get args 0 t v hv
    simp only [Nat.sub_zero] at h4
    have hlt : t < args.length := (List.getElem?_eq_some_iff.1 h4).1
    simp only [Array.getD_eq_getD_getElem?]
    rw [Array.getElem?_append_left (by simpa using hlt)]
    simp [h4]

theorem Spc.use {P : Program} {f : FuncId} {args : List Value} {L0 M0 : List As} {Post : Value → List As → Prop} (h : Spc P f args L0 M0 Post) {w : World} {F1 : Nat → Prop} (h1 : Has w L0 F1) (h2 : Shr w M0 F1) :
    Calls P f args.toArray w (SpcR w F1 Post) := h.out w F1 h1 h2

/-- Each of M0 is found among the shared ones or among those that are left. -/
def Gives (R M : List As) (A : As) : Prop := ∃ B, Inn R M B ∧ ∀ (w : World) F, B.P w F → ∃ G, A.P w G ∧ ∀ b, G b → F b
theorem Inn.gives {R M : List As} {A : As} (h : Inn R M A) : Gives R M A := ⟨A, h, fun w F h => ⟨F, h, fun _ hb => hb⟩⟩
inductive Subs : List As → List As → List As → Prop
  | nil {M R : List As} : Subs [] M R
  | cons {A : As} {M0 M R : List As} : Gives R M A → Subs M0 M R → Subs (A :: M0) M R

section
variable {P : Program} {X : Cx} {E : List (Nat × Value)} {L L0 L' R M M0 : List As} {Q : Exit → Act → World → Prop} {ops : Array Oper} {rest : List Oper} {d : Nat} {ty : TypeId} {pos : String} {af : Array Edge}

theorem Subs.shr {w : World} {F F1 F2 : Nat → Prop} (h : Subs M0 M R) (hM : Shr w M F) (hR : Has w R F2) (hd : ∀ b, F1 b → F2 b → False) (hu : ∀ b, F1 b → F b) : Shr w M0 F1 := by
  have part : ∀ {R : List As} {A : As}, In R A → ∀ {F2}, Has w R F2 → ∃ G, A.P w G ∧ ∀ b, G b → F2 b := by
    intro R A h
    induction h with
    | here => rintro F2 ⟨G1, G2, g1, _, _, g4⟩; exact ⟨G1, g1, fun b hb => (g4 b).2 (.inl hb)⟩
    | there _ ih => rintro F2 ⟨G1, G2, _, g2, _, g4⟩; obtain ⟨G, g, h⟩ := ih g2; exact ⟨G, g, fun b hb => (g4 b).2 (.inr (h b hb))⟩
  induction h with
  | nil => intro A hA; cases hA
  | cons hi _ ih =>
    intro A hA
    rcases List.mem_cons.1 hA with rfl | hA
    · obtain ⟨B, hi, hBA⟩ := hi
      cases hi with
      | own hi =>
        obtain ⟨G, g, h⟩ := part hi hR
        obtain ⟨G', g', hs⟩ := hBA w G g
        exact ⟨G', g', fun b x y => hd b y (h b (hs b x))⟩
      | shr hi =>
        obtain ⟨G, g, h⟩ := hM B hi.mem
        obtain ⟨G', g', hs⟩ := hBA w G g
        exact ⟨G', g', fun b x y => h b (hs b x) (hu b y)⟩
    · exact ih hM hR A hA

theorem run_call {f : FuncId} (h : isGo P f = true) {x : Operand} {caps : List Value} {xs : List Operand} {tys : Array TypeId} {args : List Value} {a : Act} (w : World) {o : Oper} (ho : o.op = .call ⟨.value x, xs.toArray, tys⟩)
    (hf : a.eval x = .func (.func f) #[] caps.toArray) (ha : xs.map a.eval = args) : (execOp a.eval o).run P w = .ok (.enter f (args ++ caps).toArray) w := by
  unfold isGo at h
  split at h
  · rename_i fn hfn
    simp only [Bool.and_eq_true, Bool.not_eq_true', beq_eq_false_iff_ne, Option.isSome_iff_exists] at h
    obtain ⟨h1, c, hc⟩ := h
    simp [execOp, ho, resolve, invoke, callFunc, Deferred.ofValue, hf, ← ha, hfn, h1, hc]
  · cases h

theorem Rx.call {f : FuncId} {x : Operand} {caps args : List Value} {xs : List Operand} {tys : Array TypeId} {Post : Value → List As → Prop} (hs : Spc P f (args ++ caps) L0 M0 Post)
    (hf : evalO E x = some (.func (.func f) #[] caps.toArray)) (ha : evalL E xs = some args) (hp : Pick L L0 R) (hm : Subs M0 M R) (hn : Nat.blt d X.n = true)
    (k : ∀ v L1, Post v L1 → Rx P X ops rest ((d, v) :: E) (L1 ++ R) M Q) : Rx P X ops (⟨some d, .call ⟨.value x, xs.toArray, tys⟩, ty, pos, af, none⟩ :: rest) E L M Q := by
  refine ⟨fun a w hst => ?_⟩
  obtain ⟨F, h1, h2, h3, h4⟩ := hst.2
  obtain ⟨F1, F2, k1, k2, k3, k4⟩ := hp.has h1
  unfold wpListIn
  rw [if_pos (wanted_none rfl _)]
  refine opIn_enter (run_call hs.go w rfl (hst.1.eval hf) (hst.1.evalL ha)) ?_
  refine (hs.out w F1 k1 (hm.shr h2 k2 k3 (fun b hb => (k4 b).2 (.inl hb)))).mono ?_
  rintro e w' ⟨v, L1, F1', rfl, hP, g1, g2, g3⟩
  exact ⟨v, rfl, (k v L1 hP).out _ _ ⟨hst.1.put (by simpa using hn) _, Hp.step h2 h3 h4 k2 k3 k4 g1 g2 g3⟩⟩

/-- A call that is made for what it does: nobody looks at what it returns. -/
theorem Rx.call_none {f : FuncId} {x : Operand} {caps args : List Value} {xs : List Operand} {tys : Array TypeId} {Post : Value → List As → Prop} (hs : Spc P f (args ++ caps) L0 M0 Post)
    (hf : evalO E x = some (.func (.func f) #[] caps.toArray)) (ha : evalL E xs = some args) (hp : Pick L L0 R) (hm : Subs M0 M R)
    (k : ∀ v L1, Post v L1 → Rx P X ops rest E (L1 ++ R) M Q) : Rx P X ops (⟨none, .call ⟨.value x, xs.toArray, tys⟩, ty, pos, af, none⟩ :: rest) E L M Q := by
  refine ⟨fun a w hst => ?_⟩
  obtain ⟨F, h1, h2, h3, h4⟩ := hst.2
  obtain ⟨F1, F2, k1, k2, k3, k4⟩ := hp.has h1
  unfold wpListIn
  rw [if_pos (wanted_none rfl _)]
  refine opIn_enter (run_call hs.go w rfl (hst.1.eval hf) (hst.1.evalL ha)) ?_
  refine (hs.out w F1 k1 (hm.shr h2 k2 k3 (fun b hb => (k4 b).2 (.inl hb)))).mono ?_
  rintro e w' ⟨v, L1, F1', rfl, hP, g1, g2, g3⟩
  exact ⟨v, rfl, (k v L1 hP).out _ _ ⟨hst.1, Hp.step h2 h3 h4 k2 k3 k4 g1 g2 g3⟩⟩

/-- A call that only reads and returns one value: quiet. -/
theorem OpQ.call {f : FuncId} {x : Operand} {caps args : List Value} {xs : List Operand} {tys : Array TypeId} {v : Value} (hs : Spc P f (args ++ caps) [] M0 (ret v))
    (hf : evalO E x = some (.func (.func f) #[] caps.toArray)) (ha : evalL E xs = some args) (hm : Subs M0 M L) : OpQ P X ⟨some d, .call ⟨.value x, xs.toArray, tys⟩, ty, pos, af, none⟩ E L M v := by
  refine ⟨fun a hst w hw => ?_⟩
  unfold Oper.quietAt
  rw [run_call hs.go w rfl (hst.eval hf) (hst.evalL ha)]
  refine ⟨rfl, ?_⟩
  obtain ⟨F, h1, h2, h3, h4⟩ := hw
  have hd : ∀ b, False → F b → False := fun _ x _ => x
  refine (hs.out w (fun _ => False) (fun _ x => x) (hm.shr h2 h1 hd (fun _ x => x.elim))).mono ?_
  rintro e w' ⟨v', L1, F1', rfl, ⟨rfl, rfl⟩, g1, g2, g3⟩
  exact ⟨rfl, Hp.step (L1 := []) h2 h3 h4 h1 hd (fun b => by simp) g1 g2 g3⟩

/-! ### A function's end -/
theorem leaves_marks {fn : Func} {tmps : Array Value} {w0 : World} {F0 : Nat → Prop} {L : List As} {RR : Ending → World → Prop}
    (hR : ∀ w F, Has w L F → Eff F0 w0 w → (∀ b, F b → F0 b ∨ w0.heap.size ≤ b) → ∃ v, (results fn tmps).run P w = .ok v w ∧ RR (.returned v) w) :
    ∀ (bs : List Nat) (w : World) (F : Nat → Prop), bs.Nodup → (∀ b ∈ bs, w0.heap.size ≤ b ∧ w.heap[b]? = some (.deferred (some [])) ∧ ¬ F b) → Has w L F → Eff F0 w0 w → (∀ b, F b → F0 b ∨ w0.heap.size ≤ b) →
      LeavesInM Fence.wide 0 P fn tmps RR (bs.map (fun b => ({ target := .collected b, args := #[] } : Deferred))) .returning w
  | [], w, F, _, _, h1, h2, h3 => by
    have := hR w F h1 h2 h3
    simpa [LeavesInM, LeavesIn] using this
  | b :: bs, w, F, hnd, hb, h1, h2, h3 => by
    obtain ⟨b1, b2, b3⟩ := hb b (by simp)
    refine ⟨by simp, .inl ⟨b, _, rfl, run_takeDeferred b2, ?_⟩⟩
    have hne : ∀ k, k ≠ b → (w.putObj b (.deferred none)).heap[k]? = w.heap[k]? := fun k hk => World.putObj_heap_other hk
    refine leaves_marks hR bs _ F (List.nodup_cons.1 hnd).2 (fun k hk => ?_) (h1.loc fun k hk => hne k fun e => b3 (e ▸ hk)) ⟨h2.os, h2.tape, h2.output, by simpa using h2.size, fun k hk hn => (hne k (by omega)).trans (h2.blk k hk hn)⟩ h3
    obtain ⟨k1, k2, k3⟩ := hb k (by simp [hk])
    exact ⟨k1, (hne k fun e => (List.nodup_cons.1 hnd).1 (e ▸ hk)).trans k2, k3⟩
theorem fin_of {fn : Func} {Post : Value → List As → Prop} {v : Value} {L1 : List As} (hr : ∀ a w, St X E L [] a w → (results fn a.tmps).run P w = .ok v w) (hp : Post v L1) (hk : Pick L L1 R) :
    ∀ a w, St X E L M a w → (bodyPostM Fence.wide 0 P fn (SpcR X.w0 X.F0 Post) .ret a w ∧ bodyPostM Fence.wide 0 P fn (SpcR X.w0 X.F0 Post) .normal a w) := by
  intro a w hs
  obtain ⟨F, h1, h2, h3, h4⟩ := hs.2
  obtain ⟨bs, m1, m2, m3⟩ := hs.1.2.1
  have : LeavesInM Fence.wide 0 P fn a.tmps (SpcR X.w0 X.F0 Post) a.defers .returning w := by
    rw [m2]
    refine leaves_marks (L := L) (w0 := X.w0) (F0 := X.F0) (fun w' F' g1 g2 g3 => ?_) bs w F m1 (fun b hb => ?_) h1 h3 h4
    · obtain ⟨F1, F2, k1, k2, k3, k4⟩ := hk.has g1
      refine ⟨v, hr { a with defers := [] } w' ⟨⟨hs.1.1, Marks.nil, hs.1.2.2⟩, F', g1, (fun A hA => nomatch hA), g2, g3⟩, ?_⟩
      exact ⟨v, L1, F1, rfl, hp, k1, fun b hb => g3 b ((k4 b).2 (.inl hb)), g2⟩
    · obtain ⟨n1, n2⟩ := m3 b hb
      obtain ⟨G, g1, g2⟩ := h2 _ n2
      exact ⟨n1, g1.1, g2 b ((g1.2 b).2 rfl)⟩
  exact ⟨this, this⟩
theorem Gx.fin {fn : Func} {t : Nat} {Post : Value → List As → Prop} {v : Value} {L1 : List As} (hres : fn.results = #[.tmp t]) (hv : Env.get E t = some v) (hk : Pick L L1 R) (hp : Post v L1) :
    Gx P X .ret E L M (bodyPostM Fence.wide 0 P fn (SpcR X.w0 X.F0 Post)) :=
  Gx.ret fun a w hs => (fin_of (fun a w hs => by rw [results_tmp hres]; exact congrArg (Result.ok · w) (hs.1.2.2 t v hv)) hp hk a w hs).1
theorem Rx.fin {fn : Func} {t : Nat} {Post : Value → List As → Prop} {v : Value} {L1 : List As} (hres : fn.results = #[.tmp t]) (hv : Env.get E t = some v) (hk : Pick L L1 R) (hp : Post v L1) :
    Rx P X ops [] E L M (bodyPostM Fence.wide 0 P fn (SpcR X.w0 X.F0 Post)) :=
  Rx.nil fun a w hs => (fin_of (fun a w hs => by rw [results_tmp hres]; exact congrArg (Result.ok · w) (hs.1.2.2 t v hv)) hp hk a w hs).2
theorem Gx.fin0 {fn : Func} {Post : Value → List As → Prop} {L1 : List As} (hres : fn.results = #[]) (hk : Pick L L1 R) (hp : Post (.tuple #[]) L1) :
    Gx P X .ret E L M (bodyPostM Fence.wide 0 P fn (SpcR X.w0 X.F0 Post)) :=
  Gx.ret fun a w hs => (fin_of (fun a w hs => results_none hres _ _ _) hp hk a w hs).1
theorem Gx.fin0_skip {fn : Func} {Post : Value → List As → Prop} {L1 : List As} (hres : fn.results = #[]) (hk : Pick L L1 R) (hp : Post (.tuple #[]) L1) :
    Gx P X .skip E L M (bodyPostM Fence.wide 0 P fn (SpcR X.w0 X.F0 Post)) :=
  Gx.skip fun a w hs => (fin_of (fun a w hs => results_none hres _ _ _) hp hk a w hs).2
theorem Rx.fin0 {fn : Func} {Post : Value → List As → Prop} {L1 : List As} (hres : fn.results = #[]) (hk : Pick L L1 R) (hp : Post (.tuple #[]) L1) :
    Rx P X ops [] E L M (bodyPostM Fence.wide 0 P fn (SpcR X.w0 X.F0 Post)) :=
  Rx.nil fun a w hs => (fin_of (fun a w hs => results_none hres _ _ _) hp hk a w hs).2
theorem Gx.fin2 {fn : Func} {t u : Nat} {Post : Value → List As → Prop} {v v' : Value} {L1 : List As} (hres : fn.results = #[.tmp t, .tmp u]) (hv : Env.get E t = some v) (hu : Env.get E u = some v') (hk : Pick L L1 R) (hp : Post (.tuple #[v, v']) L1) :
    Gx P X .ret E L M (bodyPostM Fence.wide 0 P fn (SpcR X.w0 X.F0 Post)) :=
  Gx.ret fun a w hs => (fin_of (fun a w hs => by rw [results_tmp2 hres, hs.1.2.2 t v hv, hs.1.2.2 u v' hu]) hp hk a w hs).1
/-- A struct that lies in memory is returned. -/
theorem Gx.fin_cell {fn : Func} {t : Nat} {T : TypeId} {n : Nat} [AggTy P T n] {Post : Value → List As → Prop} {p : Value} {us : List Value} {A : As} {L1 : List As} (hres : fn.results = #[.cell t T]) (hv : Env.get E t = some p) (hi : Inn L [] A) (hl : A.lds p us) (hn : us.length = n) (hk : Pick L L1 R) (hp : Post (.agg us.toArray) L1) :
    Gx P X .ret E L M (bodyPostM Fence.wide 0 P fn (SpcR X.w0 X.F0 Post)) :=
  Gx.ret fun a w hs => (fin_of (fun a w hs => by
    obtain ⟨G, hG⟩ := hs.2.of_inn hi
    obtain ⟨ad, rfl, hc⟩ := hl w G hG
    obtain ⟨dd, i, hu, hinf, hsz, _⟩ := AggTy.out P T
    have hld := run_loadCells_list (P := P) w ad us hc
    have hd := hs.1.2.2 t _ hv
    simp only [Array.getD_eq_getD_getElem?] at hd
    simp [results, hres, hd, asAddr, loadVar, run_isAgg_agg P T, sizeOf, typeInfo, hinf, hsz, ← hn, hld]) hp hk a w hs).1
end
end Go.Proofs.YtoiebfpafdcbmaaDoor.K
