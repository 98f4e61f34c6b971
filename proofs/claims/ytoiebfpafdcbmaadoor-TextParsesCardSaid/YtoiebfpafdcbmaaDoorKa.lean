/- A small logic for walks: what a world holds is a list of assertions, each with blocks of its own ('Has'), beside a list of shared ones that nobody writes ('Shr'). Rules step through a function's operations one by one. No program in sight. -/
import Derived.Deep.Quiet
import Derived.StillTail
import Derived.WalkKit
import Derived.KernelRfl
import Derived.Deep.LoopGhost
import Derived.RangeFuncIn
import Derived.RangeFuncRecord
import Derived.RangeFuncCalls
import Derived.RangeFuncLeaves
import Derived.OrdersIn
import Derived.TacticsIn
import Derived.Sort.LoopGhostIn
namespace Go.Proofs.YtoiebfpafdcbmaaDoor.K
open Go Go.RowKit
set_option linter.unusedVariables false
set_option linter.unusedSimpArgs false

/-- What may be said of memory: it holds of some blocks and hangs on these alone. -/
structure As where
  P : World → (Nat → Prop) → Prop
  loc : ∀ {w w' : World} {F : Nat → Prop}, P w F → (∀ b, F b → w'.heap[b]? = w.heap[b]?) → P w' F
  lt : ∀ {w : World} {F : Nat → Prop}, P w F → ∀ b, F b → b < w.heap.size
  ext : ∀ {w : World} {F G : Nat → Prop}, P w F → (∀ b, F b ↔ G b) → P w G
  tag : Bool := false   -- the block of a loop's deferred calls

def Has (w : World) : List As → (Nat → Prop) → Prop
  | [], F => ∀ b, ¬ F b
  | A :: L, F => ∃ F1 F2, A.P w F1 ∧ Has w L F2 ∧ (∀ b, F1 b → F2 b → False) ∧ ∀ b, F b ↔ F1 b ∨ F2 b

theorem Has.ext {w : World} : ∀ {L : List As} {F G : Nat → Prop}, Has w L F → (∀ b, F b ↔ G b) → Has w L G
  | [], _, _, h, e => fun b hb => h b ((e b).2 hb)
  | _ :: _, _, _, ⟨F1, F2, h1, h2, h3, h4⟩, e => ⟨F1, F2, h1, h2, h3, fun b => (e b).symm.trans (h4 b)⟩

theorem Has.lt {w : World} : ∀ {L : List As} {F : Nat → Prop}, Has w L F → ∀ b, F b → b < w.heap.size
  | [], _, h, b, hb => (h b hb).elim
  | A :: _, _, ⟨_, _, h1, h2, _, h4⟩, b, hb => by
    rcases (h4 b).1 hb with h | h
    · exact A.lt h1 b h
    · exact Has.lt h2 b h

theorem Has.loc {w w' : World} : ∀ {L : List As} {F : Nat → Prop}, Has w L F → (∀ b, F b → w'.heap[b]? = w.heap[b]?) → Has w' L F
  | [], _, h, _ => h
  | A :: _, _, ⟨F1, F2, h1, h2, h3, h4⟩, e =>
    ⟨F1, F2, A.loc h1 (fun b hb => e b ((h4 b).2 (.inl hb))), Has.loc h2 (fun b hb => e b ((h4 b).2 (.inr hb))), h3, h4⟩

theorem Has.append {w : World} : ∀ {L R : List As} {F G : Nat → Prop}, Has w L F → Has w R G → (∀ b, F b → G b → False) → Has w (L ++ R) (fun b => F b ∨ G b)
  | [], _, _, _, h, h', _ => h'.ext fun b => ⟨.inr, fun x => x.elim (fun y => (h b y).elim) id⟩
  | _ :: _, _, _, _, ⟨F1, F2, h1, h2, h3, h4⟩, h', hd =>
    ⟨F1, fun b => F2 b ∨ _, h1, Has.append h2 h' (fun b x y => hd b ((h4 b).2 (.inr x)) y),
      fun b x y => y.elim (h3 b x) (fun z => hd b ((h4 b).2 (.inl x)) z), fun b => by dsimp only; rw [h4 b, or_assoc]⟩

/-- One assertion taken out of a list. -/
inductive Take : List As → As → List As → Prop
  | here {A L} : Take (A :: L) A L
  | there {A B L L'} : Take L A L' → Take (B :: L) A (B :: L')

theorem Take.has {w : World} {L L' : List As} {A : As} (t : Take L A L') : ∀ {F : Nat → Prop}, Has w L F → Has w (A :: L') F := by
  induction t with
  | here => exact fun h => h
  | there _ ih =>
    rintro F ⟨F1, F2, h1, h2, h3, h4⟩
    obtain ⟨G1, G2, g1, g2, g3, g4⟩ := ih h2
    refine ⟨G1, fun b => F1 b ∨ G2 b, g1, ⟨F1, G2, h1, g2, fun b x y => h3 b x ((g4 b).2 (.inr y)), fun b => Iff.rfl⟩, ?_, ?_⟩
    · rintro b x (y | y)
      · exact h3 b y ((g4 b).2 (.inl x))
      · exact g3 b x y
    · intro b; rw [h4 b, g4 b]; constructor
      · rintro (x | x | x)
        · exact .inr (.inl x)
        · exact .inl x
        · exact .inr (.inr x)
      · rintro (x | x | x)
        · exact .inr (.inl x)
        · exact .inl x
        · exact .inr (.inr x)

/-- Several, one by one. -/
inductive Pick : List As → List As → List As → Prop
  | nil {L} : Pick L [] L
  | cons {L L' R A M} : Take L A L' → Pick L' M R → Pick L (A :: M) R

theorem Pick.has {w : World} {L M R : List As} (t : Pick L M R) : ∀ {F : Nat → Prop}, Has w L F →
    ∃ F1 F2, Has w M F1 ∧ Has w R F2 ∧ (∀ b, F1 b → F2 b → False) ∧ ∀ b, F b ↔ F1 b ∨ F2 b := by
  induction t with
  | nil => exact fun {F} h => ⟨fun _ => False, F, fun _ h => h, h, fun _ h => h.elim, fun b => by simp⟩
  | cons t _ ih =>
    intro F h
    obtain ⟨G1, G2, g1, g2, g3, g4⟩ := t.has h
    obtain ⟨K1, K2, k1, k2, k3, k4⟩ := ih g2
    refine ⟨fun b => G1 b ∨ K1 b, K2, ⟨G1, K1, g1, k1, fun b x y => g3 b x ((k4 b).2 (.inl y)), fun b => Iff.rfl⟩, k2, ?_, ?_⟩
    · rintro b (x | x) y
      · exact g3 b x ((k4 b).2 (.inr y))
      · exact k3 b x y
    · intro b; rw [g4 b, k4 b, or_assoc]

/-- Shared assertions: none of them leans on a block of F. -/
def Shr (w : World) (M : List As) (F : Nat → Prop) : Prop := ∀ A ∈ M, ∃ G, A.P w G ∧ ∀ b, G b → ¬ F b

theorem Shr.ext {w : World} {M : List As} {F G : Nat → Prop} (h : Shr w M F) (e : ∀ b, G b → F b) : Shr w M G :=
  fun A hA => let ⟨K, k1, k2⟩ := h A hA; ⟨K, k1, fun b x y => k2 b x (e b y)⟩

/-- What is there behind a step: nothing that was there is another, but for the blocks of F. -/
structure Eff (F : Nat → Prop) (w w' : World) : Prop where
  os : w'.os = w.os
  tape : w'.tape = w.tape
  output : w'.output = w.output
  size : w.heap.size ≤ w'.heap.size
  blk : ∀ b, b < w.heap.size → ¬ F b → w'.heap[b]? = w.heap[b]?

theorem Eff.refl (F : Nat → Prop) (w : World) : Eff F w w := ⟨rfl, rfl, rfl, Nat.le_refl _, fun _ _ _ => rfl⟩
theorem Eff.below {w w' : World} (h : Below w.heap.size w w') (F : Nat → Prop) : Eff F w w' := ⟨h.os, h.tape, h.output, h.size, fun b hb _ => h.block b hb⟩
theorem Eff.to_below {w w' : World} {F : Nat → Prop} (h : Eff F w w') (hF : ∀ b, b < w.heap.size → ¬ F b) : Below w.heap.size w w' := ⟨h.os, h.tape, h.output, h.size, fun b hb => h.blk b hb (hF b hb)⟩

/-- The state of memory in the midst of a call that began in w0 with the blocks F0. -/
def Hp (w0 : World) (F0 : Nat → Prop) (L M : List As) (w : World) : Prop :=
  ∃ F, Has w L F ∧ Shr w M F ∧ Eff F0 w0 w ∧ ∀ b, F b → F0 b ∨ w0.heap.size ≤ b

/-- A step that changes the blocks of some assertions alone, or makes new ones. -/
theorem Hp.step {w0 w w' : World} {F0 F1 F1' : Nat → Prop} {L1 R M : List As} {F2 F : Nat → Prop}
    (hM : Shr w M F) (hE : Eff F0 w0 w) (hF : ∀ b, F b → F0 b ∨ w0.heap.size ≤ b)
    (h2 : Has w R F2) (hd : ∀ b, F1 b → F2 b → False) (hu : ∀ b, F b ↔ F1 b ∨ F2 b)
    (h1' : Has w' L1 F1') (hn : ∀ b, F1' b → F1 b ∨ w.heap.size ≤ b) (he : Eff F1 w w') : Hp w0 F0 (L1 ++ R) M w' := by
  refine ⟨fun b => F1' b ∨ F2 b, h1'.append (h2.loc fun b hb => he.blk b (h2.lt b hb) (fun x => hd b x hb)) ?_, ?_, ?_, ?_⟩
  · intro b x y
    rcases hn b x with x | x
    · exact hd b x y
    · exact absurd (h2.lt b y) (Nat.not_lt.2 x)
  · intro A hA
    obtain ⟨G, g1, g2⟩ := hM A hA
    refine ⟨G, A.loc g1 (fun b hb => he.blk b (A.lt g1 b hb) (fun x => g2 b hb ((hu b).2 (.inl x)))), ?_⟩
    rintro b hb (x | x)
    · rcases hn b x with x | x
      · exact g2 b hb ((hu b).2 (.inl x))
      · exact absurd (A.lt g1 b hb) (Nat.not_lt.2 x)
    · exact g2 b hb ((hu b).2 (.inr x))
  · refine ⟨he.os.trans hE.os, he.tape.trans hE.tape, he.output.trans hE.output, Nat.le_trans hE.size he.size, fun b hb hn' => ?_⟩
    rw [he.blk b (Nat.lt_of_lt_of_le hb hE.size) (fun x => ?_), hE.blk b hb hn']
    rcases hF b ((hu b).2 (.inl x)) with y | y
    · exact hn' y
    · exact absurd hb (Nat.not_lt.2 y)
  · rintro b (x | x)
    · rcases hn b x with x | x
      · exact hF b ((hu b).2 (.inl x))
      · exact .inr (Nat.le_trans hE.size x)
    · exact hF b ((hu b).2 (.inr x))

/-- Some of the assertions are let go. -/
theorem Hp.drop {w0 w : World} {F0 : Nat → Prop} {L L0 R M : List As} (hp : Pick L L0 R) (h : Hp w0 F0 L M w) : Hp w0 F0 L0 M w := by
  obtain ⟨F, h1, h2, h3, h4⟩ := h
  obtain ⟨F1, F2, k1, k2, k3, k4⟩ := hp.has h1
  exact ⟨F1, k1, h2.ext (fun b x => (k4 b).2 (.inl x)), h3, fun b x => h4 b ((k4 b).2 (.inl x))⟩

theorem Hp.drew {w0 w : World} {F0 : Nat → Prop} {L M : List As} (h : Hp w0 F0 L M w) : Hp w0 F0 L M { w with drawn := w.drawn + 1 } := by
  obtain ⟨F, h1, h2, h3, h4⟩ := h
  exact ⟨F, h1.loc fun _ _ => rfl, fun A hA => let ⟨G, g1, g2⟩ := h2 A hA; ⟨G, A.loc g1 fun _ _ => rfl, g2⟩, ⟨h3.os, h3.tape, h3.output, h3.size, h3.blk⟩, h4⟩

/-! ### What the slots hold -/
theorem beq_no {a b : Nat} (h : ¬ a = b) : Nat.beq a b = false := by
  cases e : Nat.beq a b with
  | false => rfl
  | true => exact absurd (Nat.eq_of_beq_eq_true e) h

def Env.get : List (Nat × Value) → Nat → Option Value
  | [], _ => none
  | (k, v) :: r, t => bif Nat.beq k t then some v else Env.get r t

def evalO (E : List (Nat × Value)) : Operand → Option Value
  | .tmp t => Env.get E t
  | .const v => some v
  | .func f => some (.func (.func f) #[] #[])
  | .global g => some (.pointer (some ⟨g, 0, none⟩))

def evalL (E : List (Nat × Value)) : List Operand → Option (List Value)
  | [] => some []
  | x :: r => match evalO E x with
    | some v => match evalL E r with
      | some vs => some (v :: vs)
      | none => none
    | none => none

def Knows (E : List (Nat × Value)) (a : Act) : Prop := ∀ t v, Env.get E t = some v → a.tmps.getD t undef = v

structure Cx where
  n : Nat
  w0 : World
  F0 : Nat → Prop
  rd : Option Nat := none   -- the record of the loop in whose round the code stands

/-- The block of a loop's deferred calls: none. -/
def dfb (b : Nat) : As where
  P w F := w.heap[b]? = some (.deferred (some [])) ∧ ∀ k, F k ↔ k = b
  loc := fun ⟨h1, h2⟩ e => ⟨(e b ((h2 b).2 rfl)).trans h1, h2⟩
  lt := fun ⟨h1, h2⟩ k hk => by
    rw [(h2 k).1 hk]
    exact (Array.getElem?_eq_some_iff.1 h1).1
  ext := fun ⟨h1, h2⟩ e => ⟨h1, fun k => (e k).symm.trans (h2 k)⟩
  tag := true

/-- The deferred calls are the marks of loops that this call has made: each one's block is new and lies among the shared ones. -/
def Marks (X : Cx) (M : List As) (ds : List Deferred) : Prop :=
  ∃ bs : List Nat, bs.Nodup ∧ ds = bs.map (fun b => { target := .collected b, args := #[] }) ∧ ∀ b ∈ bs, X.w0.heap.size ≤ b ∧ dfb b ∈ M
theorem Marks.mem {X : Cx} {M M' : List As} {ds : List Deferred} (h : Marks X M ds) (hm : ∀ b, dfb b ∈ M → dfb b ∈ M') : Marks X M' ds :=
  let ⟨bs, h1, h2, h3⟩ := h
  ⟨bs, h1, h2, fun b hb => ⟨(h3 b hb).1, hm b (h3 b hb).2⟩⟩
theorem Marks.nil {X : Cx} {M : List As} : Marks X M [] := ⟨[], by simp, rfl, fun _ h => by cases h⟩

def ASt (X : Cx) (M : List As) (E : List (Nat × Value)) (a : Act) : Prop := a.tmps.size = X.n ∧ Marks X M a.defers ∧ Knows E a

theorem ASt.mem {X : Cx} {M M' : List As} {E : List (Nat × Value)} {a : Act} (h : ASt X M E a) (hm : ∀ b, dfb b ∈ M → dfb b ∈ M') : ASt X M' E a := ⟨h.1, h.2.1.mem hm, h.2.2⟩

theorem ASt.eval {X : Cx} {M : List As} {E : List (Nat × Value)} {a : Act} (h : ASt X M E a) {x : Operand} {v : Value} (hv : evalO E x = some v) : a.eval x = v := by
  cases x with
  | tmp t => exact h.2.2 t v hv
  | const u => simpa [evalO, Act.eval] using hv
  | func f => simpa [evalO, Act.eval] using hv
  | global g => simpa [evalO, Act.eval] using hv

theorem ASt.evalL {X : Cx} {M : List As} {E : List (Nat × Value)} {a : Act} (h : ASt X M E a) : ∀ {xs : List Operand} {vs : List Value}, K.evalL E xs = some vs → xs.map a.eval = vs
  | [], vs, hv => by simp [K.evalL] at hv; subst hv; rfl
  | x :: r, vs, hv => by
    simp only [K.evalL] at hv
    cases h1 : evalO E x with
    | none => simp [h1] at hv
    | some v =>
      cases h2 : K.evalL E r with
      | none => simp [h1, h2] at hv
      | some us =>
        simp [h1, h2] at hv
        subst hv
        simp [h.eval h1, ASt.evalL h h2]

theorem ASt.put {X : Cx} {M : List As} {E : List (Nat × Value)} {a : Act} (h : ASt X M E a) {d : Nat} (hd : d < X.n) (v : Value) : ASt X M ((d, v) :: E) (a.put (some d) v) := by
  refine ⟨by simp [Act.put, h.1], h.2.1, fun t u hu => ?_⟩
  simp only [Env.get] at hu
  by_cases e : d = t
  · subst e
    simp at hu
    subst hu
    simp [Act.put, h.1, hd]
  · have : Nat.beq d t = false := beq_no e
    rw [this] at hu
    have := h.2.2 t u hu
    simp only [Act.put]
    rw [← this]
    simp [Array.getElem?_setIfInBounds_ne e]

theorem ASt.put_none {X : Cx} {M : List As} {E : List (Nat × Value)} {a : Act} (h : ASt X M E a) (v : Value) : ASt X M E (a.put none v) := h

theorem ASt.mono {X : Cx} {M : List As} {E E' : List (Nat × Value)} {a : Act} (h : ASt X M E a) (hE : ∀ t v, Env.get E' t = some v → Env.get E t = some v) : ASt X M E' a :=
  ⟨h.1, h.2.1, fun t v hv => h.2.2 t v (hE t v hv)⟩

/-! ### The call at hand, and what is owed of a piece of code -/
/-- No fence but the round. -/
abbrev fen (X : Cx) : Fence := { Fence.wide with round := X.rd }

/-! ### From an operation's run to what is owed of it -/
theorem not_defer {P : Program} {o : Oper} {ρ : Operand → Value} {w w' : World} {nx : Next} (h : (execOp ρ o).run P w = .ok nx w') (hn : ∀ d, nx ≠ .defer d) : ∀ c, o.op ≠ .defer c := by
  intro c hc
  unfold execOp at h
  rw [hc] at h
  simp only [Sem.run_bind, Sem.run_pure] at h
  cases hr : (resolve ρ c o.type).run P w with
  | ok d w1 =>
    rw [hr] at h
    simp only [Result.andThen] at h
    injection h with h1 h2
    exact hn d h1.symm
  | halt x w1 => rw [hr] at h; simp only [Result.andThen] at h; cases h
theorem sem_run {P : Program} {X : Cx} {o : Oper} {ρ : Operand → Value} {w w' : World} {nx : Next} (h : (execOp ρ o).run P w = .ok nx w') (hn : ∀ d, nx ≠ .defer d) : (o.semAt X.rd ρ).run P w = .ok nx w' := by
  rw [Oper.semAt_eq _ _ _ (not_defer h hn)]; exact h
theorem calls_in {P : Program} {X : Cx} {f : FuncId} {args : Array Value} {w : World} {R : Ending → World → Prop} (h : Calls P f args w R) : CallsIn (fen X) (0 - 1) P f args w R := callsIn_wide.2 h
theorem opIn_value {P : Program} {X : Cx} {o : Oper} {a : Act} {w w' : World} {v : Value} {K : Act → World → Prop} {Q : Exit → Act → World → Prop} (h : (execOp a.eval o).run P w = .ok (.value v) w') (hk : K (a.put o.dst v) w') : o.wpIn (fen X) 0 P a w K Q :=
  ⟨fun _ _ => trivial, by rw [show (fen X).round = X.rd from rfl, sem_run h (fun _ => by simp), Oper.uponIn_value]; exact hk⟩
theorem opIn_skip {P : Program} {X : Cx} {o : Oper} {a : Act} {w w' : World} {K : Act → World → Prop} {Q : Exit → Act → World → Prop} (h : (execOp a.eval o).run P w = .ok .skip w') (hk : K (a.put o.dst undef) w') : o.wpIn (fen X) 0 P a w K Q :=
  ⟨fun _ _ => trivial, by rw [show (fen X).round = X.rd from rfl, sem_run h (fun _ => by simp), Oper.uponIn_skip]; exact hk⟩
theorem opIn_enter {P : Program} {X : Cx} {o : Oper} {a : Act} {w w' : World} {f : FuncId} {args : Array Value} {K : Act → World → Prop} {Q : Exit → Act → World → Prop} (h : (execOp a.eval o).run P w = .ok (.enter f args) w')
    (hk : Calls P f args w' fun e w'' => ∃ v, e = .returned v ∧ K (a.put o.dst v) w'') : o.wpIn (fen X) 0 P a w K Q :=
  ⟨fun _ _ => trivial, by
    rw [show (fen X).round = X.rd from rfl, sem_run h (fun _ => by simp), Oper.uponIn_enter]
    refine ⟨fun h => by simp [Fence.wide] at h, calls_in (hk.mono ?_)⟩
    rintro e w'' ⟨v, rfl, hv⟩
    exact hv⟩
theorem opIn_quiet {P : Program} {X : Cx} {o : Oper} {a : Act} {w : World} {C : World → Prop} {v : Value} {K : Act → World → Prop} {Q : Exit → Act → World → Prop} (hw : C w) (hq : o.quietAt P a C w v) (h : ∀ w', C w' → K (a.put o.dst v) w') : o.wpIn (fen X) 0 P a w K Q := by
  unfold Oper.quietAt at hq
  cases hr : (execOp a.eval o).run P w with
  | halt x w' => rw [hr] at hq; exact hq.elim
  | ok nx w' =>
    rw [hr] at hq
    cases nx with
    | value u => obtain ⟨rfl, rfl⟩ := hq; exact opIn_value hr (h _ hw)
    | skip => obtain ⟨rfl, rfl⟩ := hq; exact opIn_skip hr (h _ hw)
    | enter f args =>
      obtain ⟨rfl, hc⟩ := hq
      exact opIn_enter hr (hc.mono fun e w'' ⟨he, hw''⟩ => ⟨v, he, h _ hw''⟩)
    | _ => exact hq.elim

theorem wpOpIn_of_qOp {P : Program} {X : Cx} {ops : Array Oper} {C : World → Prop} {i : Nat} {a : Act} {K : Act → Prop} {K' : Act → World → Prop} {Q' : Exit → Act → World → Prop} {w : World} (hC : C w) (h : ∀ a w', C w' → K a → K' a w') (hh : qOp P ops C i K a) : wpOpIn (fen X) 0 P ops Q' i K' a w := by
  unfold qOp at hh
  unfold wpOpIn
  split
  · rename_i ho; simp only [ho] at hh; exact h _ _ hC hh
  · rename_i o ho
    simp only [ho] at hh
    split
    · rename_i hw
      simp only [hw, if_true] at hh
      obtain ⟨v, h1, h2⟩ := hh
      exact opIn_quiet hC (h1 w hC) fun w' hw' => h _ _ hw' h2
    · rename_i hw; simp only [hw] at hh; exact ⟨fun _ _ => trivial, h _ _ hC hh⟩
theorem wpAnyIn_of_quiet {P : Program} {X : Cx} {md : Region.Mode} {ops : Array Oper} {C : World → Prop} {Q : Act → Prop} {Q' : Exit → Act → World → Prop} (hQ : ∀ a w, C w → Q a → Q' .normal a w) : ∀ (fuel : Nat) (listed : Array Bool) (a : Act) (w : World), C w →
    wpAnyQ P md ops C Q fuel listed a → wpAnyIn (fen X) 0 P md ops Q' fuel listed a w
  | 0, _, _, _, hw, h => ⟨h.1, hQ _ _ hw h.2⟩
  | fuel + 1, _, _, _, hw, h => ⟨fun h0 => hQ _ _ hw (h.1 h0), fun i hi => wpOpIn_of_qOp hw (fun a' w' hw' => wpAnyIn_of_quiet hQ fuel _ a' w' hw') (h.2 i hi)⟩

def St (X : Cx) (E : List (Nat × Value)) (L M : List As) (a : Act) (w : World) : Prop := ASt X M E a ∧ Hp X.w0 X.F0 L M w

structure Gx (P : Program) (X : Cx) (c : Code) (E : List (Nat × Value)) (L M : List As) (Q : Exit → Act → World → Prop) : Prop where
  out : ∀ a w, St X E L M a w → c.wpIn (fen X) 0 P Q a w

structure Rx (P : Program) (X : Cx) (ops : Array Oper) (l : List Oper) (E : List (Nat × Value)) (L M : List As) (Q : Exit → Act → World → Prop) : Prop where
  out : ∀ a w, St X E L M a w → wpListIn (fen X) 0 P ops Q l a w

structure Dx (P : Program) (X : Cx) (ops : Array Oper) (l : List Oper) (E : List (Nat × Value)) (L M : List As) (K : Act → Prop) : Prop where
  out : ∀ a, ASt X M E a → wpQuiet P ops (Hp X.w0 X.F0 L M) K l a

/-- An operation that leaves memory as it is and yields a value. -/
structure OpQ (P : Program) (X : Cx) (o : Oper) (E : List (Nat × Value)) (L M : List As) (v : Value) : Prop where
  out : ∀ a, ASt X M E a → ∀ w, Hp X.w0 X.F0 L M w → o.quietAt P a (Hp X.w0 X.F0 L M) w v

section rules
variable {P : Program} {X : Cx} {E E' : List (Nat × Value)} {L L' M : List As} {Q : Exit → Act → World → Prop} {ops : Array Oper} {rest : List Oper}

theorem Gx.seq {c d : Code} (h : Gx P X c E L M (Exit.then (d.wpIn (fen X) 0 P Q) Q)) : Gx P X (.seq c d) E L M Q := ⟨fun a w hs => wpIn_seq (h.out a w hs)⟩
theorem Gx.seq_region {id : Nat} {l : List Oper} {d : Code} (h : Rx P X l.toArray l E L M (Exit.then (d.wpIn (fen X) 0 P Q) Q)) : Gx P X (.seq (.region id l.toArray false) d) E L M Q :=
  ⟨fun a w hs => wpIn_seq (wpIn_region_lit (h.out a w hs))⟩
theorem Gx.region {id : Nat} {l : List Oper} (h : Rx P X l.toArray l E L M Q) : Gx P X (.region id l.toArray false) E L M Q := ⟨fun a w hs => wpIn_region_lit (h.out a w hs)⟩
/-- Behind a piece of code the next one. -/
theorem Rx.next {d : Code} (h : Gx P X d E L M Q) : Rx P X ops [] E L M (Exit.then (d.wpIn (fen X) 0 P Q) Q) := ⟨fun a w hs => wpListIn_nil (h.out a w hs)⟩
theorem Rx.nil (h : ∀ a w, St X E L M a w → Q .normal a w) : Rx P X ops [] E L M Q := ⟨fun a w hs => wpListIn_nil (h a w hs)⟩
theorem Gx.ret (h : ∀ a w, St X E L M a w → Q .ret a w) : Gx P X .ret E L M Q := ⟨fun a w hs => wpIn_ret (h a w hs)⟩
theorem Gx.skip (h : ∀ a w, St X E L M a w → Q .normal a w) : Gx P X .skip E L M Q := ⟨fun a w hs => wpIn_skip (h a w hs)⟩
theorem Gx.exit {id : Nat} (h : ∀ a w, St X E L M a w → Q (.exit id) a w) : Gx P X (.exit id) E L M Q := ⟨fun a w hs => wpIn_exit (h a w hs)⟩
theorem Gx.block {id : Nat} {c : Code} (h : Gx P X c E L M (Exit.inBlock id Q)) : Gx P X (.block id c) E L M Q := ⟨fun a w hs => wpIn_block (h.out a w hs)⟩
theorem Gx.cond {c : Operand} {x y : Code} {t : Bool} (hc : evalO E c = some (.bool t)) (ht : t = true → Gx P X x E L M Q) (hf : t = false → Gx P X y E L M Q) : Gx P X (.cond c x y) E L M Q :=
  ⟨fun a w hs => wpIn_cond_split (hs.1.eval hc) (fun h => (ht h).out a w hs) (fun h => (hf h).out a w hs)⟩
theorem Gx.cond_t {c : Operand} {x y : Code} (hc : evalO E c = some (.bool true)) (ht : Gx P X x E L M Q) : Gx P X (.cond c x y) E L M Q :=
  ⟨fun a w hs => wpIn_cond_true (hs.1.eval hc) (ht.out a w hs)⟩
theorem Gx.cond_f {c : Operand} {x y : Code} (hc : evalO E c = some (.bool false)) (ht : Gx P X y E L M Q) : Gx P X (.cond c x y) E L M Q :=
  ⟨fun a w hs => wpIn_cond_false (hs.1.eval hc) (ht.out a w hs)⟩
theorem Gx.weak {c : Code} (hE : ∀ t v, Env.get E' t = some v → Env.get E t = some v) {R : List As} (hL : Pick L L' R) (h : Gx P X c E' L' M Q) : Gx P X c E L M Q :=
  ⟨fun a w hs => h.out a w ⟨hs.1.mono hE, hs.2.drop hL⟩⟩
theorem St.weak {a : Act} {w : World} (hE : ∀ t v, Env.get E' t = some v → Env.get E t = some v) {R : List As} (hL : Pick L L' R) (h : St X E L M a w) : St X E' L' M a w :=
  ⟨h.1.mono hE, h.2.drop hL⟩

/-- A loop: the states at a round's head are told by a ghost x; each round lowers its measure. -/
theorem Gx.loop {c : Code} {α : Type} (I : α → Prop) (μ : α → Nat) (E1 : α → List (Nat × Value)) (L1 : α → List As)
    (x0 : α) (h0 : I x0) (hst : ∀ a w, St X E L M a w → St X (E1 x0) (L1 x0) M a w)
    (round : ∀ x, I x → Gx P X c (E1 x) (L1 x) M (Exit.then (fun a w => ∃ y, I y ∧ μ y < μ x ∧ St X (E1 y) (L1 y) M a w) Q)) : Gx P X (.loop c) E L M Q := by
  refine ⟨fun a w hs => ?_⟩
  refine wpIn_loop_ghost (fun k a w => ∃ x, I x ∧ μ x = k ∧ St X (E1 x) (L1 x) M a w) (μ x0) ⟨x0, h0, rfl, hst a w hs⟩ ?_
  rintro k a w ⟨x, hx, rfl, hs⟩
  refine wpIn_mono ((round x hx).out a w hs) ?_
  intro e a' w' q
  cases e with
  | normal => obtain ⟨y, hy, hlt, hys⟩ := q; exact ⟨μ y, hlt, y, hy, rfl, hys⟩
  | _ => exact q

/-! ### Steps -/
theorem wanted_none {o : Oper} (hg : o.guard = none) (y : Nat → Option Bool) : Region.wanted o y = true := by simp [Region.wanted, hg]

/-- An operation that yields a value and leaves memory as it is. -/
theorem Rx.q {op : Op} {d : Nat} {ty : TypeId} {pos : String} {af : Array Edge} {v : Value} (hd : Nat.blt d X.n = true)
    (hq : OpQ P X ⟨some d, op, ty, pos, af, none⟩ E L M v) (h : Rx P X ops rest ((d, v) :: E) L M Q) : Rx P X ops (⟨some d, op, ty, pos, af, none⟩ :: rest) E L M Q := by
  refine ⟨fun a w hs => ?_⟩
  unfold wpListIn
  rw [if_pos (wanted_none rfl _)]
  exact opIn_quiet (C := Hp X.w0 X.F0 L M) hs.2 (hq.out a hs.1 w hs.2) fun w' hw' => h.out _ _ ⟨hs.1.put (by simpa using hd) v, hw'⟩

theorem Dx.q {op : Op} {d : Nat} {ty : TypeId} {pos : String} {af : Array Edge} {v : Value} {K : Act → Prop} (hd : Nat.blt d X.n = true)
    (hq : OpQ P X ⟨some d, op, ty, pos, af, none⟩ E L M v) (h : Dx P X ops rest ((d, v) :: E) L M K) : Dx P X ops (⟨some d, op, ty, pos, af, none⟩ :: rest) E L M K := by
  refine ⟨fun a hs => ?_⟩
  unfold wpQuiet
  rw [if_pos (wanted_none rfl _)]
  exact ⟨v, fun w hw => hq.out a hs w hw, h.out _ (hs.put (by simpa using hd) v)⟩

/-- A guard: the slot of the operation that it looks at. -/
def slotOf (ops : Array Oper) (j : Nat) : Option Nat := (ops[j]?).bind (·.dst)

theorem yielded_of {a : Act} (h : ASt X M E a) {j t : Nat} {b : Bool} (hj : slotOf ops j = some t) (ht : Env.get E t = some (.bool b)) (hn : t < X.n) : yielded ops a.tmps j = some b := by
  unfold yielded
  unfold slotOf at hj
  rw [hj]
  have h1 := h.2.2 t _ ht
  have h2 : a.tmps[t]? = some (.bool b) := by
    rw [Array.getElem?_eq_getElem (by rw [h.1]; exact hn)]
    simpa [Array.getD, h.1, hn] using h1
  simp [h2]

/-- The guard says yes: the operation is as one without. -/
theorem Rx.guard_yes {op : Op} {dd : Option Nat} {ty : TypeId} {pos : String} {af : Array Edge} {j t : Nat} {p : Bool} (hj : slotOf ops j = some t) (ht : Env.get E t = some (.bool p)) (hn : Nat.blt t X.n = true)
    (h : Rx P X ops (⟨dd, op, ty, pos, af, none⟩ :: rest) E L M Q) : Rx P X ops (⟨dd, op, ty, pos, af, some (j, p)⟩ :: rest) E L M Q := by
  refine ⟨fun a w hs => ?_⟩
  have := h.out a w hs
  unfold wpListIn at this ⊢
  rw [if_pos (wanted_none rfl _)] at this
  rw [if_pos (by simp [Region.wanted, yielded_of hs.1 hj ht (by simpa using hn)])]
  exact this
theorem Dx.guard_yes {op : Op} {dd : Option Nat} {ty : TypeId} {pos : String} {af : Array Edge} {j t : Nat} {p : Bool} {K : Act → Prop} (hj : slotOf ops j = some t) (ht : Env.get E t = some (.bool p)) (hn : Nat.blt t X.n = true)
    (h : Dx P X ops (⟨dd, op, ty, pos, af, none⟩ :: rest) E L M K) : Dx P X ops (⟨dd, op, ty, pos, af, some (j, p)⟩ :: rest) E L M K := by
  refine ⟨fun a hs => ?_⟩
  have := h.out a hs
  unfold wpQuiet at this ⊢
  rw [if_pos (wanted_none rfl _)] at this
  rw [if_pos (by simp [Region.wanted, yielded_of hs hj ht (by simpa using hn)])]
  exact this
/-- The guard says no: the operation is passed over. -/
theorem Rx.guard_no {op : Op} {d : Nat} {ty : TypeId} {pos : String} {af : Array Edge} {j t : Nat} {p b : Bool} (hj : slotOf ops j = some t) (ht : Env.get E t = some (.bool b)) (hn : Nat.blt t X.n = true) (hb : b = !p) (hd : Nat.blt d X.n = true)
    (h : Rx P X ops rest ((d, undef) :: E) L M Q) : Rx P X ops (⟨some d, op, ty, pos, af, some (j, p)⟩ :: rest) E L M Q := by
  refine ⟨fun a w hs => ?_⟩
  unfold wpListIn
  rw [if_neg (by subst hb; simp [Region.wanted, yielded_of hs.1 hj ht (by simpa using hn)])]
  exact ⟨fun _ _ => trivial, h.out _ _ ⟨hs.1.put (by simpa using hd) _, hs.2⟩⟩
theorem Dx.guard_no {op : Op} {d : Nat} {ty : TypeId} {pos : String} {af : Array Edge} {j t : Nat} {p b : Bool} {K : Act → Prop} (hj : slotOf ops j = some t) (ht : Env.get E t = some (.bool b)) (hn : Nat.blt t X.n = true) (hb : b = !p) (hd : Nat.blt d X.n = true)
    (h : Dx P X ops rest ((d, undef) :: E) L M K) : Dx P X ops (⟨some d, op, ty, pos, af, some (j, p)⟩ :: rest) E L M K := by
  refine ⟨fun a hs => ?_⟩
  unfold wpQuiet
  rw [if_neg (by subst hb; simp [Region.wanted, yielded_of hs hj ht (by simpa using hn)])]
  exact h.out _ (hs.put (by simpa using hd) _)
/-- A slot's bool is true or false: two ways. -/
theorem Rx.split {l : List Oper} (t : Nat) {b : Bool} (ht : Env.get E t = some (.bool b)) (h1 : b = true → Rx P X ops l ((t, .bool true) :: E) L M Q) (h0 : b = false → Rx P X ops l ((t, .bool false) :: E) L M Q) : Rx P X ops l E L M Q := by
  have key : ∀ c, b = c → ∀ a, ASt X M E a → ASt X M ((t, .bool c) :: E) a := by
    rintro c rfl a hs
    refine ⟨hs.1, hs.2.1, fun u v hu => ?_⟩
    simp only [Env.get] at hu
    by_cases e : t = u
    · subst e; simp at hu; subst hu; exact hs.2.2 _ _ ht
    · have : Nat.beq t u = false := beq_no e
      rw [this] at hu; exact hs.2.2 u v hu
  refine ⟨fun a w hs => ?_⟩
  cases hb : b with
  | true => exact (h1 hb).out a w ⟨key _ hb a hs.1, hs.2⟩
  | false => exact (h0 hb).out a w ⟨key _ hb a hs.1, hs.2⟩
theorem Dx.split {l : List Oper} {K : Act → Prop} (t : Nat) {b : Bool} (ht : Env.get E t = some (.bool b)) (h1 : b = true → Dx P X ops l ((t, .bool true) :: E) L M K) (h0 : b = false → Dx P X ops l ((t, .bool false) :: E) L M K) : Dx P X ops l E L M K := by
  have key : ∀ c, b = c → ∀ a, ASt X M E a → ASt X M ((t, .bool c) :: E) a := by
    rintro c rfl a hs
    refine ⟨hs.1, hs.2.1, fun u v hu => ?_⟩
    simp only [Env.get] at hu
    by_cases e : t = u
    · subst e; simp at hu; subst hu; exact hs.2.2 _ _ ht
    · have : Nat.beq t u = false := beq_no e
      rw [this] at hu; exact hs.2.2 u v hu
  refine ⟨fun a hs => ?_⟩
  cases hb : b with
  | true => exact (h1 hb).out a (key _ hb a hs)
  | false => exact (h0 hb).out a (key _ hb a hs)

/-! ### Regions whose order is drawn -/
theorem Dx.nil {K : Act → Prop} (h : ∀ a, ASt X M E a → K a) : Dx P X ops [] E L M K := ⟨fun a hs => wpQuiet_nil (h a hs)⟩
/-- Nothing but quiet operations. -/
theorem Gx.region_quiet {id : Nat} {l : List Oper} (hm : P.follows .mixedOrders = true) (hB : Region.lexB .any l.toArray = true)
    (h : Dx P X l.toArray l E L M (fun a' => ∀ w', Hp X.w0 X.F0 L M w' → Q .normal a' w')) : Gx P X (.region id l.toArray true) E L M Q := by
  refine ⟨fun a w hs => ?_⟩
  simp only [Region.lexB, Bool.and_eq_true] at hB
  refine wpIn_region_any hm (wpAnyIn_of_quiet (C := Hp X.w0 X.F0 L M) (Q := fun a' => ∀ w', Hp X.w0 X.F0 L M w' → Q .normal a' w') (fun _ w' hw' h => h w' hw') _ _ _ _ hs.2.drew ?_)
  have := wpAnyQ_lex (C := Hp X.w0 X.F0 L M) (md := .any) hB.1 l 0 (Array.replicate l.toArray.size false) a (by simp) (by simpa using hB.2) (h.out a hs.1)
  simpa using this
theorem Dx.nilQ (h : ∀ a w, St X E L M a w → Q .normal a w) : Dx P X ops [] E L M (fun a' => ∀ w', Hp X.w0 X.F0 L M w' → Q .normal a' w') :=
  Dx.nil fun a hs w' hw' => h a w' ⟨hs, hw'⟩
theorem Dx.nextQ {d : Code} (h : Gx P X d E L M Q) : Dx P X ops [] E L M (fun a' => ∀ w', Hp X.w0 X.F0 L M w' → Exit.then (d.wpIn (fen X) 0 P Q) Q .normal a' w') :=
  Dx.nil fun a hs w' hw' => h.out a w' ⟨hs, hw'⟩

end rules
end Go.Proofs.YtoiebfpafdcbmaaDoor.K
