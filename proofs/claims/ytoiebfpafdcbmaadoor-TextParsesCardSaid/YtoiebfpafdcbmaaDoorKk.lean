/- Regions whose order is drawn, with guards, and with calls whose answers aren't known ahead: operations that only look at what stays are taken first. No program in sight. -/
import Derived.Test.YtoiebfpafdcbmaaDoorKj
namespace Go.Proofs.YtoiebfpafdcbmaaDoor.K
open Go Go.RowKit
set_option linter.unusedVariables false
set_option linter.unusedSimpArgs false

section
variable {P : Program} {X : Cx} {ops : Array Oper} {J : World → Prop} {K : Act → World → Prop}

def qN (K : Act → World → Prop) : Exit → Act → World → Prop := fun ex a w => ex = .normal ∧ K a w
def qF : Exit → Act → World → Prop := fun _ _ _ => False

/-- Whatever order is picked, J holds all along, nothing panics, and then K. -/
def wpJ (P : Program) (X : Cx) (ops : Array Oper) (J : World → Prop) (K : Act → World → Prop) : Nat → Array Bool → Act → World → Prop
  | 0, listed, a, w => J w ∧ Region.ready .any ops listed = [] ∧ K a w
  | n + 1, listed, a, w => J w ∧ Region.ready .any ops listed ≠ [] ∧ ∀ i ∈ Region.ready .any ops listed, wpOpIn (fen X) 0 P ops qF i (wpJ P X ops J K n (listed.setIfInBounds i true)) a w

theorem wp_lift {Q : Exit → Act → World → Prop} {o : Oper} {a : Act} {w : World} {K K' : Act → World → Prop} (h : ∀ a w, K a w → K' a w) (hh : o.wpIn (fen X) 0 P a w K qF) : o.wpIn (fen X) 0 P a w K' Q := by
  unfold Oper.wpIn at *
  refine ⟨hh.1, ?_⟩
  have hh := hh.2
  generalize (o.semAt (fen X).round a.eval).run P w = r at *
  cases r with
  | ok n w' =>
    cases n <;> simp only [Oper.uponIn] at hh ⊢
    case value v => exact h _ _ hh
    case skip => exact h _ _ hh
    case defer d => exact h _ _ hh
    case enter f args =>
      refine ⟨hh.1, CallsIn.mono hh.2 fun e w'' he => ?_⟩
      cases e with
      | returned u => exact h _ _ he
      | panicked c => exact he.elim
      | outgrown => exact he.elim fun a h => h.elim fun w h => h.elim
    case row row args => exact ⟨hh.1, RowsIn.mono hh.2 fun u w'' he => h _ _ he⟩
    case round l f tmps assign body =>
      refine ⟨hh.1, RoundIn.mono hh.2 fun e w'' he => ?_⟩
      cases e with
      | returned u => exact h _ _ he
      | panicked c => exact he.elim
      | outgrown => exact he.elim fun a h => h.elim fun w h => h.elim
  | halt x w' =>
    cases x <;> simp only [Oper.uponIn] at hh ⊢
    case panic u => exact hh.elim
theorem lets_no {Q : Exit → Act → World → Prop} (h : ∀ a w, ¬ Q .outgrown a w) : ¬ LetsOut Q := fun ⟨a, w, x⟩ => h a w x
theorem wpOp_lift {Q : Exit → Act → World → Prop} {i : Nat} {a : Act} {w : World} {K K' : Act → World → Prop} (h : ∀ a w, K a w → K' a w) (hh : wpOpIn (fen X) 0 P ops qF i K a w) : wpOpIn (fen X) 0 P ops Q i K' a w := by
  unfold wpOpIn at *
  split
  · exact h _ _ (by simpa [*] using hh)
  · rename_i o ho
    simp only [ho] at hh
    split
    · rename_i hw
      simp only [hw, if_true] at hh
      exact wp_lift h hh
    · rename_i hw; simp only [hw] at hh; exact ⟨hh.1, h _ _ hh.2⟩
theorem wpJ_any {Q : Exit → Act → World → Prop} (hK : ∀ a w, K a w → Q .normal a w) : ∀ (n : Nat) (listed : Array Bool) (a : Act) (w : World), wpJ P X ops J K n listed a w → wpAnyIn (fen X) 0 P .any ops Q n listed a w
  | 0, _, _, _, h => ⟨h.2.1, hK _ _ h.2.2⟩
  | n + 1, _, _, _, h => ⟨fun h0 => absurd h0 h.2.1, fun i hi => wpOp_lift (fun a w h => wpJ_any hK n _ a w h) (h.2.2 i hi)⟩

def YieldsJ (P : Program) (ops : Array Oper) (J : World → Prop) (o : Oper) (v : Value) (a : Act) : Prop :=
  (Region.wanted o (yielded ops a.tmps) = true ∧ ∀ w, J w → (execOp a.eval o).run P w = .ok (.value v) w) ∨ (Region.wanted o (yielded ops a.tmps) = false ∧ v = undef)
theorem YieldsJ.of_same {o : Oper} {v : Value} {a a' : Act} (hy : YieldsJ P ops J o v a) (he : execOp a'.eval o = execOp a.eval o)
    (hw : Region.wanted o (yielded ops a'.tmps) = Region.wanted o (yielded ops a.tmps)) : YieldsJ P ops J o v a' := by
  unfold YieldsJ at *
  rw [he, hw]
  exact hy
theorem YieldsJ.wpOp {i : Nat} {o : Oper} {v : Value} {a : Act} {w : World} (hi : ops[i]? = some o) (hy : YieldsJ P ops J o v a) (hJ : J w) {K : Act → World → Prop} (h : K (a.put o.dst v) w) : wpOpIn (fen X) 0 P ops qF i K a w := by
  unfold Go.wpOpIn
  simp only [hi]
  rcases hy with ⟨hw, hv⟩ | ⟨hw, rfl⟩
  · simp only [hw, if_true]; exact opIn_value (hv w hJ) h
  · simp only [hw, Bool.false_eq_true, if_false]; exact ⟨fun _ _ => trivial, h⟩
theorem wpOp_putJ {j : Nat} {oi oj : Oper} {v : Value} (hj : ops[j]? = some oj) (hap : oi.apart ops oj = true)
    (hsi : ∀ cs b, oi.op ≠ .select cs b) (hsj : ∀ cs b, oj.op ≠ .select cs b) (hdj : ∀ c, oj.op ≠ .defer c) {K : Act → World → Prop} {a : Act} {w : World}
    (hy : YieldsJ P ops J oi v a) (h : wpOpIn (fen X) 0 P ops qF j K (a.put oi.dst v) w) :
    wpOpIn (fen X) 0 P ops qF j (fun a' w' => YieldsJ P ops J oi v a' ∧ K (a'.put oi.dst v) w') a w := by
  obtain ⟨h1, h2, h3⟩ := Oper.apart_spec hap
  have keep : ∀ (a : Act), YieldsJ P ops J oi v a → ∀ u, YieldsJ P ops J oi v (a.put oj.dst u) := fun a hy u =>
    hy.of_same (execOp_put oi hsi a oj.dst u h3) (wanted_put oi a oj.dst u h3)
  have keepD : ∀ d, YieldsJ P ops J oi v { a with defers := d :: a.defers } := fun d => hy.of_same rfl rfl
  unfold wpOpIn at *
  simp only [hj] at *
  rw [wanted_put oj a oi.dst v h1] at h
  split
  · rename_i hw
    simp only [hw, if_true] at h
    unfold Oper.wpIn at *
    refine ⟨fun _ _ => trivial, ?_⟩
    have h := h.2
    rw [Oper.semAt_eq _ _ _ hdj, execOp_put oj hsj a oi.dst v h1] at h
    rw [Oper.semAt_eq _ _ _ hdj]
    generalize (execOp a.eval oj).run P w = r at *
    cases r with
    | ok n w' =>
      cases n <;> simp only [Oper.uponIn] at h ⊢
      case value u => exact ⟨keep a hy u, by rw [← Act.put_comm a v u h2]; exact h⟩
      case skip => exact ⟨keep a hy _, by rw [← Act.put_comm a v undef h2]; exact h⟩
      case defer d =>
        refine ⟨keep _ (keepD d) _, ?_⟩
        rw [← Act.put_comm _ v undef h2, ← Act.put_defers]
        exact h
      case enter f args =>
        refine ⟨h.1, CallsIn.mono h.2 fun e w'' he => ?_⟩
        cases e with
        | returned u => exact ⟨keep a hy u, by rw [← Act.put_comm a v u h2]; exact he⟩
        | panicked c => exact he.elim
        | outgrown => exact he.elim fun a h => h.elim fun w h => h.elim
      case row row args => exact ⟨h.1, RowsIn.mono h.2 fun u w'' he => ⟨keep a hy u, by rw [← Act.put_comm a v u h2]; exact he⟩⟩
      case round l f tmps assign body =>
        refine ⟨h.1, RoundIn.mono h.2 fun e w'' he => ?_⟩
        cases e with
        | returned u => exact ⟨keep a hy u, by rw [← Act.put_comm a v u h2]; exact he⟩
        | panicked c => exact he.elim
        | outgrown => exact he.elim fun a h => h.elim fun w h => h.elim
    | halt x w' =>
      cases x <;> simp only [Oper.uponIn] at h ⊢
      case panic u => exact h.elim
  · rename_i hw
    simp only [hw] at h
    exact ⟨fun _ _ => trivial, keep a hy _, by rw [← Act.put_comm a v undef h2]; exact h.2⟩

/-- Nothing is deferred. -/
def noDefer (ops : Array Oper) : Bool := ops.all fun o => match o.op with | .defer _ => false | _ => true
theorem noDefer_spec {ops : Array Oper} (h : noDefer ops = true) (j : Nat) (o : Oper) (ho : ops[j]? = some o) : ∀ c, o.op ≠ .defer c := by
  intro c hc
  have := Array.all_eq_true_iff_forall_mem.1 h o (Array.mem_of_getElem? ho)
  simp [hc] at this

theorem wpJ_first {i : Nat} {oi : Oper} {v : Value} (hi : ops[i]? = some oi) (hnd : noDefer ops = true) (hsel : ∀ (j : Nat) (o : Oper) cs b, ops[j]? = some o → o.op ≠ .select cs b) :
    ∀ (n : Nat) (listed : Array Bool) (a : Act) (w : World),
      (∀ j oj, ops[j]? = some oj → j ≠ i → listed.getD j true = false → (∀ e ∈ oj.after, Region.binds .any e = true → e.on ≠ i) → oi.apart ops oj = true) →
      i ∈ Region.ready .any ops listed → YieldsJ P ops J oi v a →
      wpJ P X ops J K n (listed.setIfInBounds i true) (a.put oi.dst v) w → wpJ P X ops J K (n + 1) listed a w := by
  intro n
  induction n with
  | zero =>
    intro listed a w _ hr hy H
    refine ⟨H.1, fun h => (by rw [h] at hr; cases hr), fun j hj => ?_⟩
    by_cases hji : j = i
    · subst hji; exact hy.wpOp hi H.1 H
    · have := ready_mono hj hji
      rw [H.2.1] at this
      cases this
  | succ n ih =>
    intro listed a w hfree hr hy H
    refine ⟨H.1, fun h => (by rw [h] at hr; cases hr), fun j hj => ?_⟩
    by_cases hji : j = i
    · subst hji; exact hy.wpOp hi H.1 H
    · have h1 := H.2.2 j (ready_mono hj hji)
      obtain ⟨hjun, oj, hoj, hall⟩ := mem_ready.1 hj
      have hnot : ∀ e ∈ oj.after, Region.binds .any e = true → e.on ≠ i := fun e he hb heq => by
        have h1 := hall e he hb
        have h0 := (mem_ready.1 hr).1
        rw [heq, getD_both h0] at h1
        cases h1
      have h2 := wpOp_putJ hoj (hfree j oj hoj hji hjun hnot) (fun cs b => hsel i oi cs b hi) (fun cs b => hsel j oj cs b hoj) (noDefer_spec hnd j oj hoj) hy h1
      have hfree' : ∀ k ok, ops[k]? = some ok → k ≠ i → (listed.setIfInBounds j true).getD k true = false →
          (∀ e ∈ ok.after, Region.binds .any e = true → e.on ≠ i) → oi.apart ops ok = true := fun k ok hk hki hun hno => by
        refine hfree k ok hk hki ?_ hno
        by_cases hjk : j = k
        · subst hjk; exact hjun
        · rw [getD_set_ne true hjk] at hun; exact hun
      refine wpOpIn_mono (fun a' w' h3 => ih (listed.setIfInBounds j true) a' w' hfree' (ready_mono hr (Ne.symm hji)) h3.1 ?_) h2
      rw [Array.setIfInBounds_comm _ _ hji]
      exact h3.2
end

/-- A value that stays the same in all worlds where L and M hold. -/
structure OpV (P : Program) (X : Cx) (o : Oper) (E : List (Nat × Value)) (L M : List As) (v : Value) : Prop where
  out : ∀ a, ASt X M E a → ∀ w, Hp X.w0 X.F0 L M w → (execOp a.eval o).run P w = .ok (.value v) w
/-- The walk of a region in all its orders. -/
structure Ax (P : Program) (X : Cx) (ops : Array Oper) (LJ : List As) (n : Nat) (listed : Array Bool) (E : List (Nat × Value)) (L M : List As) (K : Act → World → Prop) : Prop where
  out : ∀ a w, St X E L M a w → wpJ P X ops (Hp X.w0 X.F0 LJ M) K n listed a w

section
variable {P : Program} {X : Cx} {ops : Array Oper} {LJ : List As} {n : Nat} {listed : Array Bool} {E : List (Nat × Value)} {L R M : List As} {K : Act → World → Prop} {Q : Exit → Act → World → Prop} {d : Nat} {ty : TypeId} {pos : String} {af : Array Edge} {g : Option (Nat × Bool)} {op : Op} {v : Value}

theorem OpV.move {x : Operand} (hv : evalO E x = some v) : OpV P X ⟨some d, .move x, ty, pos, af, g⟩ E L M v := ⟨fun a ha w _ => by simp [execOp, ha.eval hv]⟩
theorem quiet_load {a : Act} {w : World} {C : World → Prop} {t : TypeId} {x : Operand} (h : Oper.quietAt P ⟨some d, .load t x, ty, pos, af, none⟩ a C w v) : (execOp a.eval ⟨some d, .load t x, ty, pos, af, g⟩).run P w = .ok (.value v) w := by
  unfold Oper.quietAt at h
  have e : ∀ g, (execOp a.eval ⟨some d, .load t x, ty, pos, af, g⟩).run P w = ((Instr.loadAt t (a.eval x)).run P w).andThen fun a w' => .ok (.value a) w' := fun g => by simp [execOp]
  rw [e] at h ⊢
  cases hh : (Instr.loadAt t (a.eval x)).run P w with
  | ok u w' =>
    rw [hh] at h
    simp only [Result.andThen_ok, Oper.quietUpon] at h ⊢
    obtain ⟨rfl, rfl⟩ := h
    rfl
  | halt y w' => rw [hh] at h; exact h.elim
theorem OpV.ld {x : Operand} {t : TypeId} {b i : Nat} {T : TypeId} {cs : List Value} [CellTy P t] (hv : evalO E x = some (.pointer (some ⟨b, i, none⟩))) [h : FindPt L M b T cs] (hu : cs[i]? = some v) :
    OpV P X ⟨some d, .load t x, ty, pos, af, g⟩ E L M v := ⟨fun a ha w hw => quiet_load ((OpQ.ld (P := P) (X := X) (E := E) (L := L) (M := M) (d := d) (ty := ty) (pos := pos) (af := af) (x := x) (t := t) hv hu).out a ha w hw)⟩
theorem OpV.ldn {x : Operand} {t : TypeId} {m b i : Nat} {T : TypeId} {cs us : List Value} [AggTy P t m] (hv : evalO E x = some (.pointer (some ⟨b, i, none⟩))) [h : FindPt L M b T cs] (hu : (cs.drop i).take m = us) (hn : us.length = m) :
    OpV P X ⟨some d, .load t x, ty, pos, af, g⟩ E L M (.agg us.toArray) := ⟨fun a ha w hw => quiet_load ((OpQ.ldn (P := P) (X := X) (E := E) (L := L) (M := M) (d := d) (ty := ty) (pos := pos) (af := af) (x := x) (t := t) hv hu hn).out a ha w hw)⟩

theorem wpList_op {i : Nat} {o : Oper} {a : Act} {w : World} {K' : Act → World → Prop} (ho : ops[i]? = some o) (h : wpListIn (fen X) 0 P ops (qN K') [o] a w) : wpOpIn (fen X) 0 P ops qF i K' a w := by
  unfold wpOpIn
  simp only [ho]
  unfold wpListIn at h
  have hnil : ∀ a w, wpListIn (fen X) 0 P ops (qN K') [] a w → K' a w := fun a w h => by unfold wpListIn at h; exact h.2
  split
  · rename_i hw
    rw [if_pos hw] at h
    unfold Oper.wpIn at *
    refine ⟨h.1, ?_⟩
    have h := h.2
    generalize (o.semAt (fen X).round a.eval).run P w = r at *
    cases r with
    | ok n w' =>
      cases n <;> simp only [Oper.uponIn] at h ⊢
      case value v => exact hnil _ _ h
      case skip => exact hnil _ _ h
      case defer d => exact hnil _ _ h
      case enter f args =>
        refine ⟨h.1, CallsIn.mono h.2 fun e w'' he => ?_⟩
        cases e with
        | returned u => exact hnil _ _ he
        | panicked c => exact absurd he.1 (by simp)
        | outgrown => exact absurd he (lets_no fun _ _ x => absurd x.1 (by simp))
      case row row args => exact ⟨h.1, RowsIn.mono h.2 fun u w'' he => hnil _ _ he⟩
      case round l f tmps assign body =>
        refine ⟨h.1, RoundIn.mono h.2 fun e w'' he => ?_⟩
        cases e with
        | returned u => exact hnil _ _ he
        | panicked c => exact absurd he.1 (by simp)
        | outgrown => exact absurd he (lets_no fun _ _ x => absurd x.1 (by simp))
    | halt x w' =>
      cases x <;> simp only [Oper.uponIn] at h ⊢
      case panic u => exact absurd h.1 (by simp)
  · rename_i hw
    rw [if_neg hw] at h
    exact ⟨h.1, hnil _ _ h.2⟩

theorem Ax.one {o : Oper} (i : Nat) (hr : Region.ready .any ops listed = [i]) (ho : ops[i]? = some o) [hp : PickA L LJ R] (h : Rx P X ops [o] E L M (qN (wpJ P X ops (Hp X.w0 X.F0 LJ M) K n (listed.setIfInBounds i true)))) : Ax P X ops LJ (n + 1) listed E L M K :=
  ⟨fun a w hs => ⟨hs.2.drop hp.ok, by rw [hr]; simp, fun j hj => by
    rw [hr] at hj
    have : j = i := by simpa using hj
    subst this
    exact wpList_op ho (h.out a w hs)⟩⟩
theorem Ax.back (h : Ax P X ops LJ n listed E L M K) : Rx P X ops [] E L M (qN (wpJ P X ops (Hp X.w0 X.F0 LJ M) K n listed)) := Rx.nil fun a w hs => ⟨rfl, h.out a w hs⟩
theorem Ax.fin (hr : Region.ready .any ops listed = []) [hp : PickA L LJ R] (h : ∀ a w, St X E L M a w → K a w) : Ax P X ops LJ 0 listed E L M K := ⟨fun a w hs => ⟨hs.2.drop hp.ok, hr, h a w hs⟩⟩
theorem Ax.float_ (i : Nat) {o : Oper} (ho : ops[i]? = some o) (hs : (Region.noSelect ops && noDefer ops) = true) (hf : Region.free .any ops listed i = true) (hr : (Region.ready .any ops listed).contains i = true) (hd : o.dst = some d) (hn : Nat.blt d X.n = true)
    (hy : ∀ a, ASt X M E a → YieldsJ P ops (Hp X.w0 X.F0 LJ M) o v a) (h : Ax P X ops LJ n (listed.setIfInBounds i true) ((d, v) :: E) L M K) : Ax P X ops LJ (n + 1) listed E L M K :=
  ⟨fun a w hst => wpJ_first ho (Bool.and_eq_true_iff.1 hs).2 (Region.noSelect_spec (Bool.and_eq_true_iff.1 hs).1) n listed a w (Region.free_spec ho hf) (by simpa using hr) (hy a hst.1) (by rw [hd]; exact h.out _ _ ⟨hst.1.put (by simpa using hn) v, hst.2⟩)⟩
/-- An operation without a guard is taken first. -/
theorem Ax.float (i : Nat) (ho : ops[i]? = some ⟨some d, op, ty, pos, af, none⟩) (hs : (Region.noSelect ops && noDefer ops) = true) (hf : Region.free .any ops listed i = true) (hr : (Region.ready .any ops listed).contains i = true) (hn : Nat.blt d X.n = true)
    (hv : OpV P X ⟨some d, op, ty, pos, af, none⟩ E LJ M v) (h : Ax P X ops LJ n (listed.setIfInBounds i true) ((d, v) :: E) L M K) : Ax P X ops LJ (n + 1) listed E L M K :=
  Ax.float_ i ho hs hf hr rfl hn (fun a ha => .inl ⟨wanted_none rfl _, fun w hw => hv.out a ha w hw⟩) h
/-- Under a guard that lets it be carried out. -/
theorem Ax.float_yes (i : Nat) {j t : Nat} {b : Bool} (ho : ops[i]? = some ⟨some d, op, ty, pos, af, some (j, b)⟩) (hs : (Region.noSelect ops && noDefer ops) = true) (hf : Region.free .any ops listed i = true) (hr : (Region.ready .any ops listed).contains i = true) (hn : Nat.blt d X.n = true)
    (hj : slotOf ops j = some t) (ht : Env.get E t = some (.bool b)) (htn : Nat.blt t X.n = true) (hv : OpV P X ⟨some d, op, ty, pos, af, some (j, b)⟩ E LJ M v) (h : Ax P X ops LJ n (listed.setIfInBounds i true) ((d, v) :: E) L M K) : Ax P X ops LJ (n + 1) listed E L M K :=
  Ax.float_ i ho hs hf hr rfl hn (fun a ha => .inl ⟨by simp [Region.wanted, yielded_of ha hj ht (by simpa using htn)], fun w hw => hv.out a ha w hw⟩) h
/-- Under a guard that doesn't. -/
theorem Ax.float_no (i : Nat) {j t : Nat} {b c : Bool} (ho : ops[i]? = some ⟨some d, op, ty, pos, af, some (j, b)⟩) (hs : (Region.noSelect ops && noDefer ops) = true) (hf : Region.free .any ops listed i = true) (hr : (Region.ready .any ops listed).contains i = true) (hn : Nat.blt d X.n = true)
    (hj : slotOf ops j = some t) (ht : Env.get E t = some (.bool c)) (hc : c = !b) (htn : Nat.blt t X.n = true) (h : Ax P X ops LJ n (listed.setIfInBounds i true) ((d, undef) :: E) L M K) : Ax P X ops LJ (n + 1) listed E L M K :=
  Ax.float_ i ho hs hf hr rfl hn (fun a ha => .inr ⟨by subst hc; simp [Region.wanted, yielded_of ha hj ht (by simpa using htn)], rfl⟩) h
theorem Ax.split (t : Nat) {b : Bool} (ht : Env.get E t = some (.bool b)) (h1 : b = true → Ax P X ops LJ n listed ((t, .bool true) :: E) L M K) (h0 : b = false → Ax P X ops LJ n listed ((t, .bool false) :: E) L M K) : Ax P X ops LJ n listed E L M K := by
  have key : ∀ c, b = c → ∀ a, ASt X M E a → ASt X M ((t, .bool c) :: E) a := by
    rintro c rfl a hs
    refine ⟨hs.1, hs.2.1, fun u v hu => ?_⟩
    simp only [Env.get] at hu
    by_cases e : t = u
    · subst e; simp at hu; subst hu; exact hs.2.2 _ _ ht
    · have : Nat.beq t u = false := beq_no e
      rw [this] at hu; exact hs.2.2 u v hu
  refine ⟨fun a w hs => ?_⟩
  cases e : b
  · exact (h0 e).out a w ⟨key false e a hs.1, hs.2⟩
  · exact (h1 e).out a w ⟨key true e a hs.1, hs.2⟩

/-- A region whose order is drawn, all its orders walked. -/
theorem Gx.region_all {id : Nat} {l : List Oper} (LJ : List As) (hm : P.follows .mixedOrders = true) (h : Ax P X l.toArray LJ l.length (Array.replicate l.length false) E L M (fun a w => Q .normal a w)) : Gx P X (.region id l.toArray true) E L M Q :=
  ⟨fun a w hs => wpIn_region_any hm (by
    have := wpJ_any (Q := Q) (fun a w h => h) _ _ _ _ (h.out a { w with drawn := w.drawn + 1 } ⟨hs.1, hs.2.drew⟩)
    simpa using this)⟩
end
end Go.Proofs.YtoiebfpafdcbmaaDoor.K
