/- Plain law: a number read sign by sign. -/
import Derived.Test.YtoiebfpafdcbmaaDoorPX
namespace Go.Proofs.YtoiebfpafdcbmaaDoor
open Go Go.RowKit K
set_option linter.unusedVariables false
set_option linter.unusedSimpArgs false

/-- At i stands a number that ends by e. -/
def NumAt (s : List UInt8) (i : Nat) (e : UInt8) (n : Int) (j : Nat) : Prop := i64 n ∧ j = i + (Lib.itoa n).length + 1 ∧ ∃ rest, s.drop i = Lib.itoa n ++ e :: rest
def minusB (s : List UInt8) (i : Nat) : Bool := decide (i < s.length) && decide ((s.getD i 0).toNat = 45)
def fromN (s : List UInt8) (i : Nat) : Nat := if minusB s i = true then i + 1 else i
def dval (l : List UInt8) : Nat := l.foldl (fun a c => a * 10 + (c.toNat - 48)) 0
theorem dval_snoc (l : List UInt8) (c : UInt8) : dval (l ++ [c]) = dval l * 10 + (c.toNat - 48) := by simp [dval]
theorem dval_dec (u : Nat) : dval (Lib.decDigits u) = u := by
  induction u using Nat.strongRecOn with
  | _ u ih =>
    rw [Lib.decDigits]
    split
    · rename_i h
      have : dval [UInt8.ofNat (48 + u)] = (UInt8.ofNat (48 + u)).toNat - 48 := by simp [dval]
      rw [this, digit_nat h]; omega
    · rw [dval_snoc, ih (u / 10) (by omega), digit_nat (by omega)]; omega
theorem dval_append (l r : List UInt8) : dval l ≤ dval (l ++ r) := by
  have h : ∀ (r : List UInt8) (a : Nat), a ≤ r.foldl (fun a c => a * 10 + (c.toNat - 48)) a := by
    intro r
    induction r with
    | nil => intro a; exact Nat.le_refl _
    | cons c r ih => intro a; exact Nat.le_trans (show a ≤ a * 10 + (c.toNat - 48) by omega) (ih _)
  rw [dval, dval, List.foldl_append]
  exact h r _
theorem dval_take (l : List UInt8) (k : Nat) : dval (l.take k) ≤ dval l := by
  have := dval_append (l.take k) (l.drop k)
  rwa [List.take_append_drop] at this
theorem dec_head {u : Nat} (h : (Lib.decDigits u).head? = some 48) : u = 0 := by
  induction u using Nat.strongRecOn with
  | _ u ih =>
    rw [Lib.decDigits] at h
    split at h
    · rename_i hu
      simp only [List.head?_cons, Option.some.injEq] at h
      have := congrArg UInt8.toNat h
      rw [digit_nat hu] at this
      have h48 : (48 : UInt8).toNat = 48 := rfl
      omega
    · rename_i hu
      have hne := dec_ne_nil (u / 10)
      rw [List.head?_append] at h
      cases hd : (Lib.decDigits (u / 10)).head? with
      | none => rw [List.head?_eq_none_iff] at hd; exact absurd hd hne
      | some c =>
        rw [hd] at h
        simp only [Option.some_or, Option.some.injEq] at h
        subst h
        have := ih (u / 10) (by omega) hd
        omega
theorem dec_canon : ∀ (k : Nat) (l : List UInt8), l.length = k → l ≠ [] → (∀ c ∈ l, digB c) → (l.head? = some 48 → l.length = 1) → Lib.decDigits (dval l) = l := by
  intro k
  induction k with
  | zero => intro l hk h0; exact absurd (List.eq_nil_of_length_eq_zero hk) h0
  | succ k ih =>
    intro l hk h0 hd hc
    obtain ⟨m, c, rfl⟩ : ∃ m c, l = m ++ [c] := ⟨l.dropLast, l.getLast h0, (List.dropLast_concat_getLast h0).symm⟩
    have hcd : digB c := hd c (by simp)
    have hce : UInt8.ofNat (48 + (c.toNat - 48)) = c := by
      apply UInt8.toNat_inj.1
      unfold digB at hcd
      rw [digit_nat (by omega)]; omega
    unfold digB at hcd
    by_cases hm : m = []
    · subst hm
      have : dval ([] ++ [c]) = c.toNat - 48 := by simp [dval]
      rw [this, Lib.decDigits, dif_pos (by omega), hce]; rfl
    · have hml : m.length = k := by simpa using hk
      have hmh : m.head? ≠ some 48 := fun h => by
        have h1 : (m ++ [c]).head? = some 48 := by rw [List.head?_append, h]; rfl
        have := hc h1
        have hm1 : 0 < m.length := List.length_pos_iff.2 hm
        simp only [List.length_append, List.length_singleton] at this; omega
      have hmd := ih m hml hm (fun x hx => hd x (by simp [hx])) (fun h => absurd h hmh)
      have hv : dval m ≠ 0 := fun h => by
        rw [h] at hmd
        have : Lib.decDigits 0 = [48] := by rw [Lib.decDigits]; rfl
        rw [this] at hmd
        rw [← hmd] at hmh
        exact hmh rfl
      rw [dval_snoc, dec_step (by omega)]
      rw [show (dval m * 10 + (c.toNat - 48)) / 10 = dval m by omega, show (dval m * 10 + (c.toNat - 48)) % 10 = c.toNat - 48 by omega, hmd, hce]
theorem dec_first (u : Nat) : ∃ c r, Lib.decDigits u = c :: r ∧ digB c := by
  cases h : Lib.decDigits u with
  | nil => exact absurd h (dec_ne_nil u)
  | cons c r => exact ⟨c, r, rfl, dec_digits u c (by rw [h]; simp)⟩
theorem getD_drop {s : List UInt8} {i : Nat} {c : UInt8} {r : List UInt8} (h : s.drop i = c :: r) : i < s.length ∧ s.getD i 0 = c := by
  have hl : i < s.length := by
    rcases Nat.lt_or_ge i s.length with h' | h'
    · exact h'
    · rw [List.drop_of_length_le h'] at h; cases h
  refine ⟨hl, ?_⟩
  rw [List.drop_eq_getElem_cons hl] at h
  simp only [List.cons.injEq] at h
  simp [List.getD, hl, h.1]
theorem num_parts {s : List UInt8} {i j : Nat} {e : UInt8} {n : Int} (h : NumAt s i e n j) : minusB s i = decide (n < 0) ∧ ∃ rest, s.drop (fromN s i) = Lib.decDigits n.natAbs ++ e :: rest := by
  obtain ⟨h1, h2, rest, h3⟩ := h
  rw [itoa_abs] at h3
  by_cases hn : n < 0
  · rw [if_pos hn] at h3
    obtain ⟨h4, h5⟩ := getD_drop h3
    have hm : minusB s i = true := by simp only [minusB, h5, h4, decide_true, Bool.true_and]; rfl
    refine ⟨by rw [hm]; simp [hn], rest, ?_⟩
    rw [fromN, if_pos hm, ← List.drop_drop, h3]; rfl
  · rw [if_neg hn] at h3
    obtain ⟨c, r, h4, h5⟩ := dec_first n.natAbs
    have h3' := h3
    rw [h4] at h3'
    obtain ⟨h6, h7⟩ := getD_drop h3'
    have hm : minusB s i = false := by
      unfold digB at h5
      simp only [minusB, h7]
      rw [show decide (c.toNat = 45) = false from decide_eq_false (by omega), Bool.and_false]
    refine ⟨by rw [hm]; simp [hn], rest, ?_⟩
    rw [fromN, if_neg (by rw [hm]; simp), h3]
/-- k digits stand at f. -/
structure Digs (s : List UInt8) (f k : Nat) : Prop where
  le : f + k ≤ s.length
  dig : ∀ c ∈ (s.drop f).take k, digB c
theorem Digs.zero {s : List UInt8} {f : Nat} (h : f ≤ s.length) : Digs s f 0 := ⟨h, fun c hc => by simp at hc⟩
theorem take_next {s : List UInt8} {f k : Nat} (h : f + k < s.length) : (s.drop f).take (k + 1) = (s.drop f).take k ++ [s.getD (f + k) 0] := by
  rw [List.take_succ_eq_append_getElem (by rw [List.length_drop]; omega)]
  congr 2
  simp [List.getD, h]
theorem Digs.succ {s : List UInt8} {f k : Nat} (h : Digs s f k) (hl : f + k < s.length) (hd : digB (s.getD (f + k) 0)) : Digs s f (k + 1) := ⟨by omega, fun c hc => by
  rw [take_next hl] at hc
  rcases List.mem_append.1 hc with hc | hc
  · exact h.dig c hc
  · obtain rfl := List.mem_singleton.1 hc; exact hd⟩
theorem Digs.len {s : List UInt8} {f k : Nat} (h : Digs s f k) : ((s.drop f).take k).length = k := by
  rw [List.length_take, List.length_drop]; have := h.le; omega
theorem from_le {s : List UInt8} {i : Nat} (h : i ≤ s.length) : fromN s i ≤ s.length := by
  unfold fromN; split
  · rename_i hm
    simp only [minusB, Bool.and_eq_true, decide_eq_true_eq] at hm; omega
  · exact h
/-- So many digits have been read; the number has at least as many. -/
theorem digs_le {s : List UInt8} {i j k : Nat} {e : UInt8} {n : Int} (he : e.toNat < 45) (hd : Digs s (fromN s i) k) (h : NumAt s i e n j) : k ≤ (Lib.decDigits n.natAbs).length ∧ dval ((s.drop (fromN s i)).take k) ≤ n.natAbs := by
  obtain ⟨_, rest, h2⟩ := num_parts h
  have hk : k ≤ (Lib.decDigits n.natAbs).length := by
    rcases Nat.lt_or_ge (Lib.decDigits n.natAbs).length k with h' | h'
    · exfalso
      have hm : e ∈ (s.drop (fromN s i)).take k := by
        rw [h2, List.take_append]
        refine List.mem_append.2 (.inr ?_)
        rw [show k - (Lib.decDigits n.natAbs).length = (k - (Lib.decDigits n.natAbs).length - 1) + 1 by omega]
        simp
      have := hd.dig e hm
      unfold digB at this; omega
    · exact h'
  refine ⟨hk, ?_⟩
  rw [h2, List.take_append_of_le_length hk]
  have := dval_take (Lib.decDigits n.natAbs) k
  rwa [dval_dec] at this
theorem num_over {s : List UInt8} {i k : Nat} {e : UInt8} (he : e.toNat < 45) (hd : Digs s (fromN s i) (k + 1)) (ho : 9223372036854775808 < dval ((s.drop (fromN s i)).take (k + 1))) : ∀ n j, ¬ NumAt s i e n j := fun n j h => by
  have h1 := (digs_le he hd h).2
  have h2 := h.1
  unfold i64 at h2; omega
/-- Where the digits end. -/
theorem num_end {s : List UInt8} {i j k : Nat} {e : UInt8} {n : Int} (he : e.toNat < 45) (hd : Digs s (fromN s i) k) (hx : fromN s i + k < s.length → ¬ digB (s.getD (fromN s i + k) 0)) (h : NumAt s i e n j) :
    0 < k ∧ fromN s i + k < s.length ∧ s.getD (fromN s i + k) 0 = e ∧ minusB s i = decide (n < 0) ∧ dval ((s.drop (fromN s i)).take k) = n.natAbs ∧ (s.getD (fromN s i) 0 = 48 → k = 1 ∧ minusB s i = false) := by
  obtain ⟨hk, _⟩ := digs_le he hd h
  obtain ⟨hm, rest, h2⟩ := num_parts h
  have hkk : k = (Lib.decDigits n.natAbs).length := by
    rcases Nat.lt_or_ge k (Lib.decDigits n.natAbs).length with h' | h'
    · exfalso
      have h3 : s.drop (fromN s i + k) = (Lib.decDigits n.natAbs)[k] :: ((Lib.decDigits n.natAbs).drop (k + 1) ++ e :: rest) := by
        rw [← List.drop_drop, h2, List.drop_append_of_le_length hk, List.drop_eq_getElem_cons h']; rfl
      obtain ⟨h4, h5⟩ := getD_drop h3
      refine hx h4 ?_
      rw [h5]
      exact dec_digits n.natAbs _ (List.getElem_mem _)
    · omega
  have h3 : s.drop (fromN s i + k) = e :: rest := by rw [← List.drop_drop, h2, hkk, List.drop_left]
  obtain ⟨h4, h5⟩ := getD_drop h3
  have h6 := dec_len n.natAbs
  refine ⟨by omega, h4, h5, hm, by rw [h2, hkk, List.take_left, dval_dec], fun h48 => ?_⟩
  obtain ⟨c, r, h7, _⟩ := dec_first n.natAbs
  rw [h7] at h2
  have h8 := (getD_drop h2).2
  rw [h48] at h8
  have h9 : n.natAbs = 0 := dec_head (by rw [h7, ← h8]; rfl)
  have h10 : n = 0 := by omega
  subst h10
  refine ⟨?_, by rw [hm]; rfl⟩
  rw [hkk]
  have : Lib.decDigits (Int.natAbs 0) = [48] := by rw [Lib.decDigits]; rfl
  rw [this]; rfl
theorem num_ok {s : List UInt8} {i k : Nat} {e : UInt8} (hd : Digs s (fromN s i) k) (hk : 0 < k) (hl : fromN s i + k < s.length) (he : s.getD (fromN s i + k) 0 = e) (h0 : s.getD (fromN s i) 0 = 48 → k = 1 ∧ minusB s i = false)
    {n : Int} (hn : n = if minusB s i = true then -(dval ((s.drop (fromN s i)).take k) : Int) else dval ((s.drop (fromN s i)).take k)) (hf : i64 n) : NumAt s i e n (fromN s i + k + 1) := by
  have hlen := hd.len
  have hne : (s.drop (fromN s i)).take k ≠ [] := fun h => by rw [h] at hlen; simp at hlen; omega
  have hhd : ((s.drop (fromN s i)).take k).head? = some (s.getD (fromN s i) 0) := by
    rw [List.head?_take, if_neg (by omega), List.head?_drop]
    simp [List.getD, show fromN s i < s.length by omega]
  have hdec : Lib.decDigits (dval ((s.drop (fromN s i)).take k)) = (s.drop (fromN s i)).take k := dec_canon _ _ rfl hne hd.dig fun h => by
    rw [hhd] at h
    simp only [Option.some.injEq] at h
    rw [hlen]; exact (h0 h).1
  have hrest : s.drop (fromN s i) = (s.drop (fromN s i)).take k ++ e :: s.drop (fromN s i + k + 1) := by
    conv => lhs; rw [← List.take_append_drop k (s.drop (fromN s i))]
    rw [List.drop_drop, List.drop_eq_getElem_cons hl]
    congr 2
    rw [← he]; simp [List.getD, hl]
  cases hm : minusB s i
  · rw [hm] at hn
    simp only [Bool.false_eq_true, if_false] at hn
    have hfr : fromN s i = i := by rw [fromN, if_neg (by rw [hm]; simp)]
    have hit : Lib.itoa n = (s.drop (fromN s i)).take k := by
      rw [itoa_abs, if_neg (by omega), show n.natAbs = dval ((s.drop (fromN s i)).take k) by omega, hdec]
    refine ⟨hf, by rw [hit, hlen, hfr], s.drop (fromN s i + k + 1), ?_⟩
    rw [hit, ← hrest, hfr]
  · rw [hm] at hn
    simp only [if_true] at hn
    have hfr : fromN s i = i + 1 := by rw [fromN, if_pos hm]
    have hpos : dval ((s.drop (fromN s i)).take k) ≠ 0 := fun h => by
      rw [h] at hdec
      have h5 : Lib.decDigits 0 = [48] := by rw [Lib.decDigits]; rfl
      rw [h5] at hdec
      rw [← hdec] at hhd
      simp only [List.head?_cons, Option.some.injEq] at hhd
      have := (h0 hhd.symm).2
      rw [hm] at this; cases this
    have hit : Lib.itoa n = 45 :: (s.drop (fromN s i)).take k := by
      rw [itoa_abs, if_pos (by omega), show n.natAbs = dval ((s.drop (fromN s i)).take k) by omega, hdec]
    refine ⟨hf, by rw [hit, List.length_cons, hlen, hfr]; omega, s.drop (fromN s i + k + 1), ?_⟩
    rw [hit, List.cons_append, ← hrest, hfr]
    simp only [minusB, Bool.and_eq_true, decide_eq_true_eq] at hm
    rw [List.drop_eq_getElem_cons hm.1]
    congr 1
    apply UInt8.toNat_inj.1
    have := hm.2
    simp only [List.getD, List.getElem?_eq_getElem hm.1, Option.getD_some] at this
    rw [this]; rfl
theorem num_at {s : List UInt8} {i j : Nat} {e : UInt8} {n : Int} (h : NumAt s i e n j) : j ≤ s.length ∧ i < j ∧ s.drop i = Lib.itoa n ++ e :: s.drop j := by
  obtain ⟨_, h2, rest, h3⟩ := h
  have hl := congrArg List.length h3
  simp only [List.length_drop, List.length_append, List.length_cons] at hl
  have h4 : s.drop j = rest := by
    rw [h2, Nat.add_assoc, ← List.drop_drop, h3]; simp
  refine ⟨by omega, by omega, by rw [h4, h3]⟩
theorem num_of {s : List UInt8} {i : Nat} {e : UInt8} {n : Int} {r : List UInt8} (hn : i64 n) (h : s.drop i = Lib.itoa n ++ e :: r) : NumAt s i e n (i + (Lib.itoa n).length + 1) := ⟨hn, rfl, r, h⟩
theorem app_cons_inj {e : UInt8} : ∀ {a b x y : List UInt8}, e ∉ a → e ∉ b → a ++ e :: x = b ++ e :: y → a = b ∧ x = y
  | [], [], x, y, _, _, h => by simpa using h
  | [], c :: b, x, y, _, hb, h => by simp only [List.nil_append, List.cons_append, List.cons.injEq] at h; exact absurd (h.1 ▸ List.mem_cons_self) hb
  | c :: a, [], x, y, ha, _, h => by simp only [List.nil_append, List.cons_append, List.cons.injEq] at h; exact absurd (h.1 ▸ List.mem_cons_self) ha
  | c :: a, d :: b, x, y, ha, hb, h => by
    simp only [List.cons_append, List.cons.injEq] at h
    obtain ⟨rfl, h⟩ := h
    obtain ⟨rfl, h2⟩ := app_cons_inj (fun k => ha (List.mem_cons_of_mem _ k)) (fun k => hb (List.mem_cons_of_mem _ k)) h
    exact ⟨rfl, h2⟩
theorem itoa_inj {m n : Int} (hm : i64 m) (hn : i64 n) (h : Lib.itoa m = Lib.itoa n) : m = n := by
  rw [← numI_itoa m hm, ← numI_itoa n hn, h]
/-- A number at a place is one number. -/
theorem num_uniq {s : List UInt8} {i j : Nat} {e : UInt8} {n m : Int} {r : List UInt8} (he : e.toNat < 45) (h : NumAt s i e n j) (hm : i64 m) (h2 : s.drop i = Lib.itoa m ++ e :: r) : m = n ∧ s.drop j = r := by
  obtain ⟨_, _, h3⟩ := num_at h
  rw [h2] at h3
  obtain ⟨h4, h5⟩ := app_cons_inj (itoa_no m e he) (itoa_no n e he) h3
  exact ⟨itoa_inj hm h.1 h4, h5.symm⟩
end Go.Proofs.YtoiebfpafdcbmaaDoor
