/- The states of an arithmetic encoder and what holds in them. Plain Lean. -/
import Derived.Test.YtoiebfpafdcbmaaDoorB7
namespace Go.Proofs.YtoiebfpafdcbmaaDoor
open Go Go.RowKit K
set_option linter.unusedVariables false
set_option linter.unusedSimpArgs false

/-- A quarter is added, or taken away. -/
def xorq (p : Int) : Int := if p / 16384 % 2 = 1 then p - 16384 else p + 16384
def topB (p : Int) : Bool := decide (p / 32768 % 2 = 1)
def midB (p : Int) : Bool := decide (p / 16384 % 2 = 1)

def EncS.shift (e : EncS) : EncS :=
  if strad e.low e.size then { e with low := xorq e.low * 2 % 65536, size := e.size * 2, owed := e.owed + 1 }
  else { e with low := e.low * 2 % 65536, size := e.size * 2, owed := 0, out := e.out ++ topB e.low :: List.replicate e.owed (!topB e.low) }

/-- Within a put: so many shifts may follow. -/
structure EncMid (e : EncS) (k : Nat) : Prop where
  low : 0 ≤ e.low
  size : 1 ≤ e.size
  top : e.low + e.size ≤ 65536
  grow : 16384 < e.size * 2 ^ k
  tot : e.out.length + e.owed + k ≤ 16 * e.n

theorem strad_iff {low size : Int} (h : 0 ≤ low ∧ 1 ≤ size ∧ low + size ≤ 65536) : strad low size = true ↔ low < 32768 ∧ 32768 < low + size := by
  unfold strad
  rw [decide_eq_true_iff]
  omega

theorem EncMid.shift {e : EncS} {k : Nat} (h : EncMid e (k + 1)) (hs : e.size ≤ 16384) : EncMid e.shift k := by
  obtain ⟨h1, h2, h3, h4, h5⟩ := h
  have hg : 16384 < e.size * 2 * 2 ^ k := by
    have : e.size * 2 ^ (k + 1) = e.size * 2 * 2 ^ k := by rw [Int.pow_succ, Int.mul_assoc, Int.mul_comm (2 ^ k) 2]
    omega
  unfold EncS.shift
  by_cases hst : strad e.low e.size = true
  · rw [if_pos hst]
    rw [strad_iff ⟨h1, h2, h3⟩] at hst
    refine ⟨?_, ?_, ?_, hg, ?_⟩ <;> simp only [xorq] <;> omega
  · rw [if_neg hst]
    rw [strad_iff ⟨h1, h2, h3⟩] at hst
    refine ⟨?_, ?_, ?_, hg, ?_⟩ <;> simp only [List.length_append, List.length_cons, List.length_replicate] <;> omega

theorem EncS.shift_ps (e : EncS) : e.shift.ps = e.ps := by unfold EncS.shift; split <;> rfl
theorem EncS.shift_n (e : EncS) : e.shift.n = e.n := by unfold EncS.shift; split <;> rfl
theorem EncS.shift_size (e : EncS) : e.shift.size = e.size * 2 := by unfold EncS.shift; split <;> rfl

/-- Shifted until more than a quarter is left. -/
def EncS.norm : Nat → EncS → EncS
  | 0, e => e
  | k + 1, e => if e.size ≤ 16384 then norm k e.shift else e
theorem EncS.norm_done {e : EncS} (k : Nat) (h : ¬ e.size ≤ 16384) : EncS.norm k e = e := by
  cases k with
  | zero => rfl
  | succ k => simp only [EncS.norm]; rw [if_neg h]

def PsOk (ps : List Int) : Prop := ∀ p ∈ ps, 252 ≤ p ∧ p ≤ 65283
theorem PsOk.getD {ps : List Int} (h : PsOk ps) {i : Nat} (hi : i < ps.length) : 252 ≤ ps.getD i 0 ∧ ps.getD i 0 ≤ 65283 := by
  simp only [List.getD, List.getElem?_eq_getElem hi, Option.getD_some]; exact h _ (List.getElem_mem hi)

theorem step_low (i : Int) (h : 1 ≤ i ∧ i < 256) : stepI i ≤ 256 * i - 252 := by
  unfold stepI
  rw [if_pos (by omega)]
  have h1 : i * i ≤ 255 * i := Int.mul_le_mul_of_nonneg_right (by omega) (by omega)
  have h2 : i * (i + 384) = i * i + i * 384 := Int.mul_add ..
  by_cases h3 : i = 1
  · subst h3; decide
  · omega
theorem less_ok {p : Int} (h : 252 ≤ p ∧ p ≤ 65283) : 252 ≤ lessP p ∧ lessP p ≤ 65283 := by
  have hc : clampP p = p := by unfold clampP; omega
  have hr := stepI_range (p / 256)
  unfold lessP
  rw [hc]
  by_cases h0 : p / 256 = 0
  · rw [h0, show stepI 0 = 0 from rfl]; omega
  · have := step_low (p / 256) (by omega)
    omega
theorem more_ok {p : Int} (h : 252 ≤ p ∧ p ≤ 65283) : 252 ≤ moreP p ∧ moreP p ≤ 65283 := by
  have hc : clampP p = p := by unfold clampP; omega
  have hr := stepI_range (255 - p / 256)
  unfold moreP
  rw [hc]
  by_cases h0 : 255 - p / 256 = 0
  · rw [h0, show stepI 0 = 0 from rfl]; omega
  · have := step_low (255 - p / 256) (by omega)
    omega
theorem learn_ok {ps : List Int} (h : PsOk ps) {c : Nat} (hc : c < ps.length) (b : Bool) : PsOk (learnP ps c b) := by
  intro p hp
  unfold learnP at hp
  rcases List.mem_or_eq_of_mem_set hp with hp | hp
  · exact h p hp
  · subst hp
    have := h.getD hc
    split
    · exact less_ok this
    · exact more_ok this
theorem learn_length (ps : List Int) (c : Nat) (b : Bool) : (learnP ps c b).length = ps.length := by simp [learnP]

/-- Between puts. -/
structure EncOk (e : EncS) : Prop where
  low : 0 ≤ e.low
  size : 16384 < e.size
  top : e.low + e.size ≤ 65536
  ps : PsOk e.ps
  tot : e.out.length + e.owed ≤ 16 * e.n

theorem EncS.new_ok (c : Int) : EncOk (EncS.new c) := ⟨by simp [EncS.new], by simp [EncS.new], by simp [EncS.new], fun p hp => by
  have := List.eq_of_mem_replicate hp
  omega, by simp [EncS.new]⟩

/-- The part of a span that a 0 has. -/
def partI (size p : Int) : Int := size * p / 65536
theorem part_range {size p : Int} (hs : 16384 < size ∧ size ≤ 65536) (hp : 252 ≤ p ∧ p ≤ 65283) : 1 ≤ partI size p ∧ partI size p < size := by
  unfold partI
  have h1 : size * 252 ≤ size * p := Int.mul_le_mul_of_nonneg_left hp.1 (by omega)
  have h2 : size * p ≤ size * 65283 := Int.mul_le_mul_of_nonneg_left hp.2 (by omega)
  omega

/-- A bit's part is taken, and learnt from. -/
def EncS.take (e : EncS) (c : Nat) (b : Bool) : EncS :=
  { e with ps := learnP e.ps c b, n := e.n + 1, low := takeLow e.low (partI e.size (e.ps.getD c 0)) b, size := takeSize e.size (partI e.size (e.ps.getD c 0)) b }
def EncS.put (e : EncS) (c : Nat) (b : Bool) : EncS := EncS.norm 15 (e.take c b)

theorem EncOk.take {e : EncS} (h : EncOk e) {c : Nat} (hc : c < e.ps.length) (b : Bool) : EncMid (e.take c b) 15 := by
  obtain ⟨h1, h2, h3, h4, h5⟩ := h
  have hp := part_range (size := e.size) (p := e.ps.getD c 0) (by omega) (h4.getD hc)
  unfold EncS.take takeLow takeSize
  refine ⟨?_, ?_, ?_, ?_, ?_⟩ <;> cases b <;> simp only [if_true, if_false, Bool.false_eq_true] <;> omega
theorem EncMid.norm_ok {k : Nat} : ∀ {e : EncS}, EncMid e k → PsOk e.ps → EncOk (EncS.norm k e) := by
  induction k with
  | zero => intro e h hp; exact ⟨h.low, by have := h.grow; simpa [EncS.norm] using this, h.top, hp, h.tot⟩
  | succ k ih =>
    intro e h hp
    by_cases hs : e.size ≤ 16384
    · simp only [EncS.norm]; rw [if_pos hs]
      exact ih (h.shift hs) (by rw [EncS.shift_ps]; exact hp)
    · rw [EncS.norm_done _ hs]
      exact ⟨h.low, by omega, h.top, hp, by have := h.tot; omega⟩
theorem EncOk.put {e : EncS} (h : EncOk e) {c : Nat} (hc : c < e.ps.length) (b : Bool) : EncOk (e.put c b) :=
  (h.take hc b).norm_ok (learn_ok h.ps hc b)
theorem EncS.norm_n (k : Nat) : ∀ e : EncS, (EncS.norm k e).n = e.n := by
  induction k with
  | zero => intro e; rfl
  | succ k ih => intro e; simp only [EncS.norm]; split; rw [ih, EncS.shift_n]; rfl
theorem EncS.norm_ps (k : Nat) : ∀ e : EncS, (EncS.norm k e).ps = e.ps := by
  induction k with
  | zero => intro e; rfl
  | succ k ih => intro e; simp only [EncS.norm]; split; rw [ih, EncS.shift_ps]; rfl
theorem EncS.put_n (e : EncS) (c : Nat) (b : Bool) : (e.put c b).n = e.n + 1 := by unfold EncS.put; rw [EncS.norm_n]; rfl
theorem EncS.put_ps (e : EncS) (c : Nat) (b : Bool) : (e.put c b).ps = learnP e.ps c b := by unfold EncS.put; rw [EncS.norm_ps]; rfl
theorem EncS.put_len (e : EncS) (c : Nat) (b : Bool) : (e.put c b).ps.length = e.ps.length := by rw [EncS.put_ps, learn_length]
end Go.Proofs.YtoiebfpafdcbmaaDoor
