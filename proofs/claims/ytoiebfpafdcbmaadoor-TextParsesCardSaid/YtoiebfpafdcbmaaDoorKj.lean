/- Regions whose order is drawn and that hold calls that write, in a chain: the lexical walk serves every order. No program in sight. -/
import Derived.Test.YtoiebfpafdcbmaaDoorKi
namespace Go.Proofs.YtoiebfpafdcbmaaDoor.K
open Go Go.RowKit
set_option linter.unusedVariables false
set_option linter.unusedSimpArgs false

/-- A call of a Go function. -/
def isGoCall : Op → Bool
  | .call ⟨.value _, _, _⟩ => true
  | _ => false
/-- How many of the first j are such calls. -/
def clN : List Oper → Nat → Nat
  | _, 0 => 0
  | [], _ + 1 => 0
  | o :: r, j + 1 => (if isGoCall o.op then 1 else 0) + clN r j
theorem clN_succ : ∀ (l : List Oper) (j : Nat) (o : Oper), l[j]? = some o → clN l (j + 1) = clN l j + (if isGoCall o.op then 1 else 0)
  | [], j, o, h => by simp at h
  | x :: r, 0, o, h => by
    simp at h; subst h; cases r <;> simp [clN]
  | x :: r, j + 1, o, h => by
    have := clN_succ r j o (by simpa using h)
    simp only [clN] at this ⊢
    omega

/-- A call that leads from one class of worlds to another. -/
def entAt (P : Program) (o : Oper) (a : Act) (w : World) (v : Value) (C : World → Prop) : Prop :=
  ∃ f args, (execOp a.eval o).run P w = .ok (.enter f args) w ∧ Calls P f args w (fun e w' => e = .returned v ∧ C w')

section flow
variable {P : Program} {ops : Array Oper}

/-- The lexical walk of the first n; p of m calls lie behind. -/
def wpFlow (P : Program) (Cp : Nat → World → Prop) (m : Nat) (Q : List Oper → Act → Prop) : Nat → Nat → List Oper → Act → Prop
  | 0, p, l, a => p = m ∧ Q l a
  | _ + 1, _, [], _ => False
  | n + 1, p, o :: r, a => o.guard = none ∧ ∃ v, wpFlow P Cp m Q n (p + if isGoCall o.op then 1 else 0) r (a.put o.dst v) ∧
      (isGoCall o.op = true → ∀ w, Cp p w → entAt P o a w v (Cp (p + 1))) ∧ (isGoCall o.op = false → ∀ q, q ≤ m → ∀ w, Cp q w → o.quietAt P a (Cp q) w v)

theorem flow_lex {Cp : Nat → World → Prop} {m : Nat} {Q : List Oper → Act → Prop} : ∀ (n p : Nat) (l : List Oper) (a : Act), wpFlow P Cp m Q n p l a →
    ∃ (A : Nat → Act) (V : Nat → Value), A 0 = a ∧ n ≤ l.length ∧ (∀ j o, j < n → l[j]? = some o → o.guard = none ∧ A (j + 1) = (A j).put o.dst (V j) ∧
      (isGoCall o.op = true → ∀ w, Cp (p + clN l j) w → entAt P o (A j) w (V j) (Cp (p + clN l j + 1))) ∧
      (isGoCall o.op = false → ∀ q, q ≤ m → ∀ w, Cp q w → o.quietAt P (A j) (Cp q) w (V j))) ∧ p + clN l n = m ∧ Q (l.drop n) (A n)
  | 0, p, l, a, h => ⟨fun _ => a, fun _ => undef, rfl, Nat.zero_le _, fun j o hj => absurd hj (Nat.not_lt_zero _), by cases l <;> simpa [clN] using h.1, by simpa using h.2⟩
  | n + 1, p, [], a, h => h.elim
  | n + 1, p, o :: r, a, h => by
    obtain ⟨hg, v, hr, h1, h2⟩ := h
    obtain ⟨A, V, e0, hl, hA, hm, hQ⟩ := flow_lex n _ r _ hr
    refine ⟨fun j => match j with | 0 => a | j + 1 => A j, fun j => match j with | 0 => v | j + 1 => V j, rfl, by simp; omega, ?_, ?_, by simpa using hQ⟩
    · intro j o' hj ho'
      cases j with
      | zero =>
        simp at ho'
        subst ho'
        exact ⟨hg, e0, by simpa [clN] using h1, h2⟩
      | succ j =>
        have := hA j o' (by omega) (by simpa using ho')
        have e : p + clN (o :: r) (j + 1) = p + (if isGoCall o.op then 1 else 0) + clN r j := by simp only [clN]; omega
        rw [e]
        exact this
    · simp only [clN]; omega

/-- The slot that operation k fills. -/
def dstO (ops : Array Oper) (k : Nat) : Option Nat := (ops[k]?).bind (·.dst)
def callO (ops : Array Oper) (k : Nat) : Bool := match ops[k]? with | some o => isGoCall o.op | none => false
def fullL (s n : Nat) : Array Bool := ((List.range s).map fun k => decide (k < n)).toArray

/-- What is to be looked at of the first n operations. -/
def flowB (ops : Array Oper) (n : Nat) : Bool :=
  Region.noSelect ops && decide (n ≤ ops.size) && Region.seqB .any ops (ops.size - n) n (fullL ops.size n) &&
  (List.range ops.size).all (fun t => decide (t < n) || (List.range n).all fun i => Region.waitsFor .any ops t i || (List.range n).any fun j => decide (i < j) && Region.waitsFor .any ops j i) &&
  (List.range n).all fun j => match ops[j]? with
    | none => false
    | some o => o.after.all (fun e => decide (e.on < j)) && (List.range n).all (fun k => decide (k = j) || o.dst.isNone || dstO ops k != o.dst) &&
      (o.looksAt ops).all (fun t => (List.range n).all fun k => dstO ops k != some t || (decide (k < j) && Region.waitsFor .any ops j k)) &&
      (!isGoCall o.op || (List.range j).all fun k => !callO ops k || decide (clN ops.toList k + 1 < clN ops.toList j) || Region.waitsFor .any ops j k)

/-- How many of the first n aren't listed. -/
def unl (listed : Array Bool) : Nat → Nat
  | 0 => 0
  | k + 1 => unl listed k + if listed.getD k true = false then 1 else 0
theorem unl_out (listed : Array Bool) (i : Nat) : ∀ n, n ≤ i → unl (listed.setIfInBounds i true) n = unl listed n
  | 0, _ => rfl
  | n + 1, h => by
    simp only [unl]
    rw [unl_out listed i n (by omega), getD_set_ne true (by omega)]
theorem unl_set (listed : Array Bool) (i : Nat) (hu : listed.getD i true = false) : ∀ n, i < n → unl (listed.setIfInBounds i true) n + 1 = unl listed n
  | 0, h => absurd h (Nat.not_lt_zero _)
  | n + 1, h => by
    simp only [unl]
    by_cases e : i = n
    · subst e
      have hs : i < listed.size := by
        rcases Nat.lt_or_ge i listed.size with h' | h'
        · exact h'
        · simp [Array.getElem?_eq_none h'] at hu
      rw [unl_out listed i i (Nat.le_refl _), if_pos hu]
      have : (listed.setIfInBounds i true).getD i true = true := by simp [hs]
      rw [this]; simp
    · rw [getD_set_ne true e]
      have := unl_set listed i hu n (by omega)
      omega
theorem unl_zero (listed : Array Bool) : ∀ n, unl listed n = 0 → ∀ k, k < n → listed.getD k true = true
  | 0, _, k, hk => absurd hk (Nat.not_lt_zero _)
  | n + 1, h, k, hk => by
    simp only [unl] at h
    by_cases e : k = n
    · subst e
      cases hh : listed.getD k true with
      | true => rfl
      | false => rw [if_pos hh] at h; omega
    · exact unl_zero listed n (by omega) k (by omega)
theorem unl_pos (listed : Array Bool) : ∀ n, unl listed n ≠ 0 → ∃ k, k < n ∧ listed.getD k true = false ∧ ∀ j, j < k → listed.getD j true = true
  | 0, h => absurd rfl h
  | n + 1, h => by
    by_cases h0 : unl listed n = 0
    · refine ⟨n, Nat.lt_succ_self _, ?_, fun j hj => unl_zero listed n h0 j hj⟩
      simp only [unl, h0] at h
      cases hh : listed.getD n true with
      | false => rfl
      | true => rw [hh] at h; simp at h
    · obtain ⟨k, h1, h2, h3⟩ := unl_pos listed n h0
      exact ⟨k, by omega, h2, h3⟩
theorem getD_tf {listed : Array Bool} {k : Nat} (hk : k < listed.size) : listed.getD k true = listed.getD k false := by simp [hk]

theorem eval_put_same (a : Act) (d : Nat) (v : Value) : (a.put (some d) v).eval (.tmp d) = if d < a.tmps.size then v else undef := by
  by_cases h : d < a.tmps.size
  · rw [if_pos h]; simp [Act.eval, Act.put, h]
  · rw [if_neg h]; simp [Act.eval, Act.put, h]
theorem put_size (a : Act) (d : Option Nat) (v : Value) : (a.put d v).tmps.size = a.tmps.size := by cases d <;> simp [Act.put]
theorem put_defers' (a : Act) (d : Option Nat) (v : Value) : (a.put d v).defers = a.defers := by cases d <;> rfl
end flow

/-- What holds whatever has been listed. -/
structure FInv (ops : Array Oper) (n m : Nat) (A0 : Act) (V : Nat → Value) (Cp : Nat → World → Prop) (listed : Array Bool) (a : Act) (w : World) : Prop where
  size : listed.size = ops.size
  tail : ∀ t, n ≤ t → t < ops.size → listed.getD t true = false
  closed : ∀ j oj, ops[j]? = some oj → listed.getD j false = true → ∀ e ∈ oj.after, Region.binds .any e = true → listed.getD e.on false = true
  dfr : a.defers = A0.defers
  tmps : a.tmps.size = A0.tmps.size
  old : ∀ t, (∀ k, k < n → listed.getD k false = true → dstO ops k ≠ some t) → a.eval (.tmp t) = A0.eval (.tmp t)
  new : ∀ k, k < n → listed.getD k false = true → ∀ t, dstO ops k = some t → a.eval (.tmp t) = if t < A0.tmps.size then V k else undef
  ph : ∃ p, p ≤ m ∧ Cp p w ∧ ∀ k, k < n → callO ops k = true → (listed.getD k false = true ↔ clN ops.toList k < p)

section flow
variable {P : Program} {X : Cx} {ops : Array Oper} {Q' : Exit → Act → World → Prop} {Cp : Nat → World → Prop} {n m : Nat} {A : Nat → Act} {V : Nat → Value}

theorem lex_facts (hd : ∀ j k o, j < n → k < n → ops[j]? = some o → k ≠ j → ∀ t, o.dst = some t → dstO ops k ≠ some t) (hn : n ≤ ops.size) (hA : ∀ j o, j < n → ops[j]? = some o → A (j + 1) = (A j).put o.dst (V j)) :
    ∀ j, j ≤ n → (A j).defers = (A 0).defers ∧ (A j).tmps.size = (A 0).tmps.size ∧ (∀ t, (∀ k, k < j → dstO ops k ≠ some t) → (A j).eval (.tmp t) = (A 0).eval (.tmp t)) ∧
      (∀ k, k < j → ∀ t, dstO ops k = some t → (A j).eval (.tmp t) = if t < (A 0).tmps.size then V k else undef) := by
  intro j
  induction j with
  | zero => intro _; exact ⟨rfl, rfl, fun _ _ => rfl, fun k hk => absurd hk (Nat.not_lt_zero _)⟩
  | succ j ih =>
    intro hj
    obtain ⟨h1, h2, h3, h4⟩ := ih (by omega)
    have hjs : j < ops.size := by omega
    have hoj : ops[j]? = some ops[j] := Array.getElem?_eq_getElem hjs
    have e := hA j _ (by omega) hoj
    rw [e]
    refine ⟨by rw [put_defers', h1], by rw [put_size, h2], fun t ht => ?_, fun k hk t ht => ?_⟩
    · rw [Act.eval_put (fun d hd' he => ?_)]
      · exact h3 t (fun k hk => ht k (by omega))
      · cases he; exact ht j (by omega) (by simp [dstO, hoj, hd'])
    · by_cases hkj : k = j
      · subst hkj
        have hdst : ops[k].dst = some t := by simpa [dstO, hoj] using ht
        rw [hdst, eval_put_same, h2]
      · rw [Act.eval_put (fun d hd' he => ?_)]
        · exact h4 k (by omega) t ht
        · cases he; exact hd j k _ (by omega) (by omega) hoj hkj _ hd' ht

theorem act_ext {a b : Act} (h1 : a.defers = b.defers) (h2 : a.tmps.size = b.tmps.size) (h3 : ∀ t, a.eval (.tmp t) = b.eval (.tmp t)) : a = b := by
  cases a with
  | mk at' ad =>
    cases b with
    | mk bt bd =>
      simp only at h1 h2
      subst h1
      congr 1
      apply Array.ext h2
      intro i g1 g2
      have := h3 i
      simpa [Act.eval, g1, g2] using this

theorem ready_of {listed : Array Bool} {k : Nat} {o : Oper} (hk : ops[k]? = some o) (hu : listed.getD k true = false) (h : ∀ e ∈ o.after, Region.binds .any e = true → listed.getD e.on false = true) : k ∈ Region.ready .any ops listed := by
  have hlt : k < ops.size := (Array.getElem?_eq_some_iff.1 hk).1
  unfold Region.ready
  rw [List.mem_filter]
  refine ⟨List.mem_range.2 hlt, ?_⟩
  rw [hu, hk]
  simp only [Bool.not_false, Option.map_some, Option.getD_some, Bool.true_and, Array.all_eq_true']
  intro e he
  cases hb : Region.binds .any e with
  | false => rfl
  | true => simp [h e he hb]

theorem flow_any (hB : flowB ops n = true) {l : List Oper} (hl : l.toArray = ops) (hA0 : ∀ j o, j < n → ops[j]? = some o → o.guard = none ∧ A (j + 1) = (A j).put o.dst (V j) ∧
      (isGoCall o.op = true → ∀ w, Cp (clN l j) w → entAt P o (A j) w (V j) (Cp (clN l j + 1))) ∧ (isGoCall o.op = false → ∀ q, q ≤ m → ∀ w, Cp q w → o.quietAt P (A j) (Cp q) w (V j)))
    (hm : clN l n = m) (hQ : ∀ w, Cp m w → wpListIn (fen X) 0 P ops Q' (l.drop n) (A n) w) :
    ∀ (f : Nat) (listed : Array Bool) (a : Act) (w : World), unl listed n = f → FInv ops n m (A 0) V Cp listed a w → wpAnyIn (fen X) 0 P .any ops Q' (f + (ops.size - n)) listed a w := by
  subst hl
  simp only [flowB, Bool.and_eq_true, decide_eq_true_eq] at hB
  obtain ⟨⟨⟨⟨hsel, hn⟩, hseq⟩, htail⟩, hops⟩ := hB
  have hsel' : ∀ (j : Nat) (o : Oper) cs b, l.toArray[j]? = some o → o.op ≠ .select cs b := Region.noSelect_spec hsel
  have hop : ∀ j o, j < n → l.toArray[j]? = some o → (∀ e ∈ o.after, e.on < j) ∧ (∀ k, k < n → k ≠ j → ∀ t, o.dst = some t → dstO l.toArray k ≠ some t) ∧
      (∀ t, t ∈ o.looksAt l.toArray → ∀ k, k < n → dstO l.toArray k = some t → k < j ∧ Region.waitsFor .any l.toArray j k = true) ∧
      (isGoCall o.op = true → ∀ k, k < j → callO l.toArray k = true → clN l j ≤ clN l k + 1 → Region.waitsFor .any l.toArray j k = true) := by
    intro j o hj ho
    have := List.all_eq_true.1 hops j (List.mem_range.2 hj)
    rw [ho] at this
    simp only [Bool.and_eq_true] at this
    obtain ⟨⟨⟨g1, g2⟩, g3⟩, g4⟩ := this
    refine ⟨fun e he => by simpa using (Array.all_eq_true'.1 g1) e he, fun k hk hkj t ht he => ?_, fun t ht k hk hd => ?_, fun hc k hk hck hle => ?_⟩
    · have := List.all_eq_true.1 g2 k (List.mem_range.2 hk)
      simp [hkj, ht, he] at this
    · have := List.all_eq_true.1 (List.all_eq_true.1 g3 t ht) k (List.mem_range.2 hk)
      simpa [hd] using this
    · rw [hc] at g4
      simp only [Bool.not_true, Bool.false_or] at g4
      have := List.all_eq_true.1 g4 k (List.mem_range.2 hk)
      simp only [hck, Bool.not_true, Bool.false_or, Bool.or_eq_true, decide_eq_true_eq] at this
      rcases this with this | this
      · omega
      · exact this
  have hlex := lex_facts (ops := l.toArray) (n := n) (A := A) (V := V) (fun j k o hj hk ho hkj t ht => (hop j o hj ho).2.1 k hk hkj t ht) (by simpa using hn) (fun j o hj ho => (hA0 j o hj ho).2.1)
  have hmono : ∀ j k, j ≤ k → k ≤ n → clN l j ≤ clN l k := by
    intro j k hjk
    induction hjk with
    | refl => intro _; exact Nat.le_refl _
    | step h ih =>
      rename_i k
      intro hk
      have hk' : k < l.length := by simp at hn; omega
      have h1 := clN_succ l k l[k] (by simp [hk'])
      have h2 := ih (by omega)
      show clN l j ≤ clN l (k + 1)
      omega
  have hcs : ∀ k, k < n → callO l.toArray k = true → clN l (k + 1) = clN l k + 1 := by
    intro k hk hc
    have hk' : k < l.length := by simp at hn; omega
    have := clN_succ l k l[k] (by simp [hk'])
    have hc' : isGoCall l[k].op = true := by simpa [callO, hk'] using hc
    rw [this, hc']; rfl
  intro f
  induction f with
  | zero =>
    intro listed a w hu inv
    have hall := unl_zero listed n hu
    rw [Nat.zero_add]
    have hls : listed.size = l.length := by simpa using inv.size
    have hfull : listed = fullL l.length n := by
      apply Array.ext
      · simp [fullL, hls]
      · intro i g1 g2
        by_cases hi : i < n
        · have := hall i hi
          simp [g1] at this
          simp [fullL, hi, this]
        · have := inv.tail i (by omega) (by simp; omega)
          simp [g1] at this
          simp [fullL, hi, this]
    have ha : a = A n := by
      obtain ⟨h1, h2, h3, h4⟩ := hlex n (Nat.le_refl _)
      refine act_ext (inv.dfr.trans h1.symm) (inv.tmps.trans h2.symm) (fun t => ?_)
      have hlt : ∀ k, k < n → listed.getD k false = true := fun k hk => by
        have := hall k hk
        rwa [getD_tf (by simp at hn; omega)] at this
      by_cases ht : ∃ k, k < n ∧ dstO l.toArray k = some t
      · obtain ⟨k, hk, hd⟩ := ht
        rw [inv.new k hk (hlt k hk) t hd, h4 k hk t hd]
      · have hno : ∀ k, k < n → dstO l.toArray k ≠ some t := fun k hk hd => ht ⟨k, hk, hd⟩
        rw [inv.old t (fun k hk _ => hno k hk), h3 t hno]
    subst ha
    have hCm : Cp m w := by
      obtain ⟨p, hp, hC, hph⟩ := inv.ph
      have : p = m := by
        rcases Nat.lt_or_ge p m with h | h
        · exfalso
          have : ∀ j, j ≤ n → clN l j ≤ p := by
            intro j
            induction j with
            | zero => intro _; cases l <;> simp [clN]
            | succ j ih =>
              intro hj
              have hj' : j < l.length := by simp at hn; omega
              have h1 := ih (by omega)
              have h2 := clN_succ l j l[j] (by simp [hj'])
              by_cases hc : isGoCall l[j].op = true
              · have hcO : callO l.toArray j = true := by simpa [callO, hj'] using hc
                have h3 := (hph j (by omega) hcO).1 (by have := hall j (by omega); rwa [getD_tf (by omega)] at this)
                have h4 := hcs j (by omega) hcO
                simp only at h3
                omega
              · rw [if_neg hc] at h2; omega
          have := this n (Nat.le_refl _)
          omega
        · omega
      exact this ▸ hC
    have hlen : (l.drop n).length = l.toArray.size - n := by simp
    rw [← hlen]
    refine wpAnyIn_of_seq (l.drop n) n listed (A n) w (fun j => by simp) ?_ (hQ w hCm)
    rw [hlen, hfull]
    simpa using hseq
  | succ f ih =>
    intro listed a w hu inv
    rw [show f + 1 + (l.toArray.size - n) = (f + (l.toArray.size - n)) + 1 by omega]
    have hpos := unl_pos listed n (by omega)
    have hls : listed.size = l.length := by simpa using inv.size
    refine ⟨fun h0 => ?_, fun i hi => ?_⟩
    · exfalso
      obtain ⟨k, hk, hku, hkl⟩ := hpos
      have hk' : k < l.length := by simp at hn; omega
      have hok : l.toArray[k]? = some l[k] := by simp [hk']
      have := ready_of hok hku (fun e he hb => by
        have h1 := (hop k _ hk hok).1 e he
        have := hkl e.on h1
        rwa [getD_tf (by omega)] at this)
      rw [h0] at this
      cases this
    · obtain ⟨hiu, o, ho, hafter⟩ := mem_ready.1 hi
      have hi' : i < l.length := by
        have := (Array.getElem?_eq_some_iff.1 ho).1
        simpa using this
      have hin : i < n := by
        rcases Nat.lt_or_ge i n with h | h
        · exact h
        · exfalso
          have h1 := List.all_eq_true.1 htail i (List.mem_range.2 (by simpa using hi'))
          simp only [Bool.or_eq_true, decide_eq_true_eq] at h1
          rcases h1 with h1 | h1
          · omega
          · have key : ∀ d k, n - k = d → k < n → listed.getD k false = true := by
              intro d
              induction d using Nat.strongRecOn with
              | _ d ihd =>
                intro k hkd hk
                have h2 := List.all_eq_true.1 h1 k (List.mem_range.2 hk)
                simp only [Bool.or_eq_true] at h2
                rcases h2 with h2 | h2
                · obtain ⟨o', ho', e, he, hb, hon⟩ := Region.waitsFor_spec h2
                  have : o' = o := Option.some.inj (ho'.symm.trans ho)
                  subst this
                  rw [← hon]; exact hafter e he hb
                · obtain ⟨j, hj, hj2⟩ := List.any_eq_true.1 h2
                  simp only [Bool.and_eq_true, decide_eq_true_eq] at hj2
                  have hjn := List.mem_range.1 hj
                  have hjl := ihd (n - j) (by omega) j rfl hjn
                  obtain ⟨oj, hoj, e, he, hb, hon⟩ := Region.waitsFor_spec hj2.2
                  rw [← hon]; exact inv.closed j oj hoj hjl e he hb
            obtain ⟨k, hk, hku, _⟩ := hpos
            have := key _ k rfl hk
            rw [getD_tf (by simp at hn; omega)] at hku
            rw [this] at hku; cases hku
      obtain ⟨hg, hnext, hcall, hquiet⟩ := hA0 i o hin ho
      obtain ⟨hback, hdist, hflow, hchain⟩ := hop i o hin ho
      obtain ⟨x1, x2, x3, x4⟩ := hlex i (by omega)
      -- its operands are as the lexical walk has them
      have hexec : execOp a.eval o = execOp (A i).eval o := by
        refine execOp_congr o (fun cs b => hsel' i o cs b ho) (fun x hx => ?_)
        cases x with
        | tmp t =>
          have hlook : t ∈ o.looksAt l.toArray := List.mem_append_left _ (List.mem_filterMap.2 ⟨.tmp t, by simpa using hx, rfl⟩)
          by_cases ht : ∃ k, k < n ∧ dstO l.toArray k = some t
          · obtain ⟨k, hk, hd⟩ := ht
            obtain ⟨hki, hw⟩ := hflow t hlook k hk hd
            obtain ⟨o', ho', e, he, hb, hon⟩ := Region.waitsFor_spec hw
            have : o' = o := Option.some.inj (ho'.symm.trans ho)
            subst this
            have hkl := hafter e he hb
            rw [hon] at hkl
            rw [inv.new k hk hkl t hd, x4 k hki t hd]
          · have hno : ∀ k, k < n → dstO l.toArray k ≠ some t := fun k hk hd => ht ⟨k, hk, hd⟩
            rw [inv.old t (fun k hk _ => hno k hk), x3 t (fun k hk => hno k (by omega))]
        | const v => rfl
        | func g => rfl
        | global g => rfl
      have hstep : ∀ w', (∃ p, p ≤ m ∧ Cp p w' ∧ ∀ k, k < n → callO l.toArray k = true → ((listed.setIfInBounds i true).getD k false = true ↔ clN l k < p)) → FInv l.toArray n m (A 0) V Cp (listed.setIfInBounds i true) (a.put o.dst (V i)) w' := by
        intro w' hph
        have hset : ∀ k, (listed.setIfInBounds i true).getD k false = true → k = i ∨ listed.getD k false = true := by
          intro k hk
          by_cases e : k = i
          · exact .inl e
          · rw [getD_set_ne false (Ne.symm e)] at hk; exact .inr hk
        refine ⟨by simp [inv.size], fun t ht ht' => by rw [getD_set_ne true (by omega)]; exact inv.tail t ht ht', ?_, by rw [put_defers', inv.dfr], by rw [put_size, inv.tmps], ?_, ?_, hph⟩
        · intro j oj hj hjl e he hb
          rcases hset j hjl with rfl | hjl
          · have : oj = o := Option.some.inj (hj.symm.trans ho)
            subst this
            exact getD_set_true (hafter e he hb)
          · exact getD_set_true (inv.closed j oj hj hjl e he hb)
        · intro t ht
          rw [Act.eval_put (fun d hd he => ?_)]
          · exact inv.old t (fun k hk hkl => ht k hk (getD_set_true hkl))
          · cases he
            refine ht i hin ?_ (by simp [dstO, ho, hd])
            simp [hls, hi']
        · intro k hk hkl t hd
          by_cases e : k = i
          · subst e
            have : o.dst = some t := by simpa [dstO, ho] using hd
            rw [this, eval_put_same, inv.tmps]
          · rw [Act.eval_put (fun d hd' he => ?_)]
            · rcases hset k hkl with h | h
              · exact absurd h e
              · exact inv.new k hk h t hd
            · cases he; exact hdist k hk e _ hd' hd
      have hunl : unl (listed.setIfInBounds i true) n = f := by
        have := unl_set listed i hiu n hin
        omega
      have hif : listed.getD i false = false := getD_both hiu
      unfold wpOpIn
      simp only [ho]
      rw [if_pos (wanted_none hg _)]
      obtain ⟨p, hp, hC, hph0⟩ := inv.ph
      have hph : ∀ k, k < n → callO l.toArray k = true → (listed.getD k false = true ↔ clN l k < p) := hph0
      cases hc : isGoCall o.op with
      | false =>
        have hq := hquiet hc p hp
        refine opIn_quiet (C := Cp p) (v := V i) hC ?_ fun w' hw' => ?_
        case refine_2 =>
          refine ih _ _ _ hunl (hstep w' ⟨p, hp, hw', fun k hk hck => ?_⟩)
          rw [← hph k hk hck]
          by_cases e : k = i
          · subst e; simp [callO, ho, hc] at hck
          · rw [getD_set_ne false (Ne.symm e)]
        · have := hq w hC
          unfold Oper.quietAt at *
          rwa [hexec]
      | true =>
        have hcO : callO l.toArray i = true := by simp [callO, ho, hc]
        have hpi : clN l i = p := by
          have h1 : ¬ clN l i < p := fun h => by
            have := (hph i hin hcO).2 h
            rw [hif] at this; cases this
          rcases Nat.lt_or_ge p (clN l i) with h2 | h2
          · exfalso
            -- the call ahead of it
            have : ∀ j, j ≤ i → p < clN l j → ∃ k, k < j ∧ callO l.toArray k = true ∧ clN l k + 1 = clN l j := by
              intro j
              induction j with
              | zero => intro _ h; cases l <;> simp [clN] at h
              | succ j ihj =>
                intro hj h
                have hj' : j < l.length := by omega
                have h3 := clN_succ l j l[j] (by simp [hj'])
                by_cases hcj : isGoCall l[j].op = true
                · exact ⟨j, Nat.lt_succ_self _, by simpa [callO, hj'] using hcj, by rw [h3, hcj]; rfl⟩
                · rw [if_neg hcj, Nat.add_zero] at h3
                  obtain ⟨k, hk, hck, he⟩ := ihj (by omega) (by omega)
                  exact ⟨k, by omega, hck, by omega⟩
            obtain ⟨k, hk, hck, he⟩ := this i (Nat.le_refl _) h2
            have hw := hchain hc k hk hck (by omega)
            obtain ⟨o', ho', e, hee, hb, hon⟩ := Region.waitsFor_spec hw
            have : o' = o := Option.some.inj (ho'.symm.trans ho)
            subst this
            have hkl := hafter e hee hb
            rw [hon] at hkl
            have := (hph k (by omega) hck).1 hkl
            omega
          · omega
        obtain ⟨g, args, hr, hcalls⟩ := hcall hc w (hpi ▸ hC)
        have hcsi := hcs i hin hcO
        have hpm : p + 1 ≤ m := by
          have := hmono (i + 1) n (by omega) (Nat.le_refl _)
          omega
        refine opIn_enter (by rw [hexec]; exact hr) (hcalls.mono ?_)
        rintro e w' ⟨rfl, hw'⟩
        refine ⟨V i, rfl, ?_⟩
        refine ih _ _ _ hunl (hstep w' ⟨p + 1, hpm, hpi ▸ hw', fun k hk hck => ?_⟩)
        by_cases e : k = i
        · subst e
          show _ ↔ clN l k < p + 1
          rw [hpi]
          simp [hls, hi']
        · show _ ↔ clN l k < p + 1
          rw [getD_set_ne false (Ne.symm e), hph k hk hck]
          have hne : clN l k ≠ p := by
            intro hkp
            rcases Nat.lt_or_ge k i with h | h
            · have := hcs k hk hck
              have := hmono (k + 1) i (by omega) (by omega)
              omega
            · have := hmono (i + 1) k (by omega) (by omega)
              omega
          omega
end flow

/-! ### In the logic -/
/-- A call that leads from L to L', and hands back v. -/
structure OpT (P : Program) (X : Cx) (o : Oper) (E : List (Nat × Value)) (L L' M : List As) (v : Value) : Prop where
  out : ∀ a, ASt X M E a → ∀ w, Hp X.w0 X.F0 L M w → entAt P o a w v (Hp X.w0 X.F0 L' M)
/-- The lexical walk of the first n operations; p calls lie behind. -/
structure Fx (P : Program) (X : Cx) (Lp : Nat → List As) (M : List As) (m n p : Nat) (l : List Oper) (E : List (Nat × Value)) (K : List Oper → Act → Prop) : Prop where
  out : ∀ a, ASt X M E a → wpFlow P (fun q => Hp X.w0 X.F0 (Lp q) M) m K n p l a

section
variable {P : Program} {X : Cx} {E : List (Nat × Value)} {L L' M : List As} {Q : Exit → Act → World → Prop} {ops : Array Oper} {rest l : List Oper} {Lp : Nat → List As} {m n p d : Nat} {ty : TypeId} {pos : String} {af : Array Edge} {op : Op} {v : Value} {K : List Oper → Act → Prop}

theorem Fx.q (hd : Nat.blt d X.n = true) (hc : isGoCall op = false) (hq : ∀ q, q ≤ m → OpQ P X ⟨some d, op, ty, pos, af, none⟩ E (Lp q) M v) (h : Fx P X Lp M m n p rest ((d, v) :: E) K) : Fx P X Lp M m (n + 1) p (⟨some d, op, ty, pos, af, none⟩ :: rest) E K :=
  ⟨fun a hs => ⟨rfl, v, by simp only [hc]; exact h.out _ (hs.put (by simpa using hd) v), fun h' => absurd h' (by simp [hc]), fun _ q hqm w hw => (hq q hqm).out a hs w hw⟩⟩
theorem Fx.c (hd : Nat.blt d X.n = true) (hc : isGoCall op = true) (hq : OpT P X ⟨some d, op, ty, pos, af, none⟩ E (Lp p) (Lp (p + 1)) M v) (h : Fx P X Lp M m n (p + 1) rest ((d, v) :: E) K) : Fx P X Lp M m (n + 1) p (⟨some d, op, ty, pos, af, none⟩ :: rest) E K :=
  ⟨fun a hs => ⟨rfl, v, by simp only [hc]; exact h.out _ (hs.put (by simpa using hd) v), fun _ w hw => hq.out a hs w hw, fun h' => absurd h' (by simp [hc])⟩⟩
theorem Fx.tail {ops : Array Oper} (h : Rx P X ops l E (Lp m) M Q) : Fx P X Lp M m 0 m l E (fun l' a' => ∀ w', Hp X.w0 X.F0 (Lp m) M w' → wpListIn (fen X) 0 P ops Q l' a' w') :=
  ⟨fun a hs => ⟨rfl, fun w' hw' => h.out a w' ⟨hs, hw'⟩⟩⟩

/-- A region whose order is drawn: n operations, calls that write among them; the rest in its order. -/
theorem Gx.region_flow {id : Nat} {l : List Oper} (n m : Nat) (Lp : Nat → List As) (hm : P.follows .mixedOrders = true) (hB : flowB l.toArray n = true)
    (h : Fx P X Lp M m n 0 l E (fun l' a' => ∀ w', Hp X.w0 X.F0 (Lp m) M w' → wpListIn (fen X) 0 P l.toArray Q l' a' w')) : Gx P X (.region id l.toArray true) E (Lp 0) M Q := by
  refine ⟨fun a w hs => wpIn_region_any hm ?_⟩
  obtain ⟨A, V, e0, hnl, hA, hcm, hQ⟩ := flow_lex n 0 l a (h.out a hs.1)
  have hu : ∀ k, k ≤ n → unl (Array.replicate l.toArray.size false) k = k := by
    intro k
    induction k with
    | zero => intro _; rfl
    | succ k ih =>
      intro hk
      simp only [unl]
      have hk' : k < l.length := by omega
      rw [ih (by omega)]
      have : (Array.replicate l.toArray.size false).getD k true = false := by simp [hk']
      rw [if_pos this]
  have := flow_any (P := P) (X := X) (Q' := Q) (Cp := fun q => Hp X.w0 X.F0 (Lp q) M) (n := n) (m := m) (A := A) (V := V) hB rfl (fun j o hj ho => by
      have := hA j o hj (by simpa using ho)
      simpa only [Nat.zero_add] using this) (by simpa using hcm) hQ n (Array.replicate l.toArray.size false) a { w with drawn := w.drawn + 1 } (hu n (Nat.le_refl _)) (by
    subst e0
    refine ⟨by simp, fun t _ ht => by have : t < l.length := by simpa using ht
                                      simp [this], fun j oj _ hj => ?_, rfl, rfl, fun _ _ => rfl, fun k _ hk => ?_, 0, Nat.zero_le _, hs.2.drew, fun k _ _ => ?_⟩
    · rw [getD_replicate_false] at hj; cases hj
    · rw [getD_replicate_false] at hk; cases hk
    · rw [getD_replicate_false]; simp)
  rwa [show n + (l.toArray.size - n) = l.toArray.size by simp; omega] at this

/-- A call under a contract that tells all. -/
theorem OpT.call {f : FuncId} {x : Operand} {caps args : List Value} {xs : List Operand} {tys : Array TypeId} {L0 L1 M0 R : List As} {Post : Value → List As → Prop} (hs : Spc P f (args ++ caps) L0 M0 Post)
    (hP : ∀ u L2, Post u L2 → u = v ∧ L2 = L1) (hf : evalO E x = some (.func (.func f) #[] caps.toArray)) (ha : evalL E xs = some args) [hp : PickA L L0 R] [hm : SubsA M0 M R] (hL : L1 ++ R = L') :
    OpT P X ⟨some d, .call ⟨.value x, xs.toArray, tys⟩, ty, pos, af, none⟩ E L L' M v := by
  refine ⟨fun a hst w hw => ?_⟩
  obtain ⟨F, h1, h2, h3, h4⟩ := hw
  obtain ⟨F1, F2, k1, k2, k3, k4⟩ := hp.ok.has h1
  refine ⟨f, _, run_call hs.go w rfl (hst.eval hf) (hst.evalL ha), ?_⟩
  refine (hs.out w F1 k1 (hm.ok.shr h2 k2 k3 (fun b hb => (k4 b).2 (.inl hb)))).mono ?_
  rintro e w' ⟨u, L2, F1', rfl, hp', g1, g2, g3⟩
  obtain ⟨rfl, rfl⟩ := hP u L2 hp'
  subst hL
  exact ⟨rfl, Hp.step h2 h3 h4 k2 k3 k4 g1 g2 g3⟩
/-- A quiet call. -/
theorem OpT.of_quiet {f : FuncId} {x : Operand} {caps args : List Value} {xs : List Operand} {tys : Array TypeId} {M0 : List As} (hs : Spc P f (args ++ caps) [] M0 (ret v))
    (hf : evalO E x = some (.func (.func f) #[] caps.toArray)) (ha : evalL E xs = some args) [hm : SubsA M0 M L] (hL : L = L') :
    OpT P X ⟨some d, .call ⟨.value x, xs.toArray, tys⟩, ty, pos, af, none⟩ E L L' M v :=
  .call (L1 := []) (R := L) hs (fun u L2 h => h) hf ha (hp := ⟨.nil⟩) (hm := hm) hL
end
end Go.Proofs.YtoiebfpafdcbmaaDoor.K
