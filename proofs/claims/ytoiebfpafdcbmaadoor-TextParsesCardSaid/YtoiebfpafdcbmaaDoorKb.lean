/- The rules of the logic for operations: what an operation yields, what it does to the assertions. No program in sight. -/
import Derived.Test.YtoiebfpafdcbmaaDoorKa
namespace Go.Proofs.YtoiebfpafdcbmaaDoor.K
open Go Go.RowKit
set_option linter.unusedVariables false
set_option linter.unusedSimpArgs false

/-! ### Facts on types, found by their number -/
def fieldOff (P : Program) (s f : Nat) : Option Nat :=
  match P.underlying s with
  | some (.struct fs) => match fs[f]? with
    | some d => match P.info? d.type with
      | some i => if i.size = 0 then none else some d.offset
      | none => none
    | none => none
  | _ => none
class FieldAt (P : Program) (s f : Nat) (k : outParam Nat) : Prop where ok : fieldOff P s f = some k

def sliceTy (P : Program) (t : Nat) : Option (Nat × Nat × Nat) :=
  match P.underlying t with
  | some (.slice e) => match P.info? e with
    | some i => match i.zero with
      | some z => if z.cells.size = i.size ∧ 0 < i.size then some (e, i.size, i.bytes) else none
      | none => none
    | none => none
  | _ => none
class SliceTy (P : Program) (t : Nat) (e sz bs : outParam Nat) : Prop where ok : sliceTy P t = some (e, sz, bs)

theorem SliceTy.out (P : Program) (t : Nat) {e sz bs : Nat} [h : SliceTy P t e sz bs] :
    ∃ i z, P.underlying t = some (.slice e) ∧ P.info? e = some i ∧ i.zero = some z ∧ z.cells.size = sz ∧ i.size = sz ∧ i.bytes = bs ∧ 0 < sz := by
  have h := h.ok
  unfold sliceTy at h
  split at h
  · rename_i e' hu
    split at h
    · rename_i i hi
      split at h
      · rename_i z hz
        split at h
        · rename_i hs
          simp only [Option.some.injEq, Prod.mk.injEq] at h
          obtain ⟨rfl, rfl, rfl⟩ := h
          exact ⟨i, z, hu, hi, hz, hs.1, rfl, rfl, hs.2⟩
        · cases h
      · cases h
    · cases h
  · cases h

def cellTy (P : Program) (t : Nat) : Bool :=
  match P.underlying t with
  | some (.struct _) => false
  | some (.array _ _) => false
  | none => false
  | some _ => match P.info? t with
    | some i => i.size == 1
    | none => false
class CellTy (P : Program) (t : Nat) : Prop where ok : cellTy P t = true

theorem CellTy.out (P : Program) (t : Nat) [h : CellTy P t] : ∃ d i, P.underlying t = some d ∧ P.info? t = some i ∧ i.size = 1 ∧ (∀ fs, d ≠ .struct fs) ∧ ∀ n e, d ≠ .array n e := by
  have h := h.ok
  unfold cellTy at h
  split at h
  · cases h
  · cases h
  · cases h
  · rename_i d h1 h2 _
    split at h
    · rename_i i hi
      exact ⟨_, i, ‹_›, hi, by simpa using h, fun fs e => by subst e; simp_all, fun n e e' => by subst e'; simp_all⟩
    · cases h

def aggTy (P : Program) (t : Nat) : Option Nat :=
  match P.underlying t with
  | some (.struct _) => (P.info? t).map (·.size)
  | some (.array _ _) => (P.info? t).map (·.size)
  | _ => none
class AggTy (P : Program) (t : Nat) (n : outParam Nat) : Prop where ok : aggTy P t = some n

theorem AggTy.out (P : Program) (t : Nat) {n : Nat} [h : AggTy P t n] : ∃ d i, P.underlying t = some d ∧ P.info? t = some i ∧ i.size = n ∧ ((∃ fs, d = .struct fs) ∨ ∃ n e, d = .array n e) := by
  have h := h.ok
  unfold aggTy at h
  split at h
  · rename_i fs hu
    cases hi : P.info? t with
    | none => simp [hi] at h
    | some i => simp [hi] at h; exact ⟨_, i, hu, rfl, h, .inl ⟨_, rfl⟩⟩
  · rename_i m e hu
    cases hi : P.info? t with
    | none => simp [hi] at h
    | some i => simp [hi] at h; exact ⟨_, i, hu, rfl, h, .inr ⟨_, _, rfl⟩⟩
  · cases h

theorem run_isAgg_cell (P : Program) (t : Nat) [CellTy P t] (w : World) : (isAgg t).run P w = .ok false w := by
  obtain ⟨d, i, hu, _, _, h1, h2⟩ := CellTy.out P t
  cases d <;> simp_all [isAgg, run_underlying hu]
theorem run_isAgg_agg (P : Program) (t : Nat) {n : Nat} [AggTy P t n] (w : World) : (isAgg t).run P w = .ok true w := by
  obtain ⟨d, i, hu, _, _, h1 | h1⟩ := AggTy.out P t
  · obtain ⟨fs, rfl⟩ := h1; simp [isAgg, run_underlying hu]
  · obtain ⟨m, e, rfl⟩ := h1; simp [isAgg, run_underlying hu]

class ZeroTy (P : Program) (t : Nat) (z : outParam Value) : Prop where ok : (P.info? t).bind (·.zero) = some z
theorem ZeroTy.out (P : Program) (t : Nat) {z : Value} [h : ZeroTy P t z] (w : World) : (zeroValue t).run P w = .ok z w := by
  have h := h.ok
  cases hi : P.info? t with
  | none => simp [hi] at h
  | some i => simp [hi] at h; simp [zeroValue, typeInfo, hi, h]

class PtrTy (P : Program) (t : Nat) (e : outParam Nat) : Prop where ok : P.underlying t = some (.pointer e)
class StrTy (P : Program) (t : Nat) : Prop where ok : P.underlying t = some .string
class IntTy (P : Program) (t : Nat) (k : outParam IntKind) : Prop where ok : P.underlying t = some (.int k)

/-- Sums of small numbers, worked out. -/
class AddL (a b : Nat) (c : outParam Nat) : Prop where ok : a + b = c
instance (priority := low) AddL.any {a b : Nat} : AddL a b (a + b) := ⟨rfl⟩
instance AddL.zero {a : Nat} : AddL a 0 a := ⟨rfl⟩
instance (priority := high) : AddL 0 0 0 := ⟨rfl⟩
instance (priority := high) : AddL 0 1 1 := ⟨rfl⟩
instance (priority := high) : AddL 0 2 2 := ⟨rfl⟩
instance (priority := high) : AddL 0 3 3 := ⟨rfl⟩
instance (priority := high) : AddL 0 4 4 := ⟨rfl⟩
instance (priority := high) : AddL 0 5 5 := ⟨rfl⟩
instance (priority := high) : AddL 0 6 6 := ⟨rfl⟩
instance (priority := high) : AddL 0 7 7 := ⟨rfl⟩
instance (priority := high) : AddL 0 8 8 := ⟨rfl⟩
instance (priority := high) : AddL 0 9 9 := ⟨rfl⟩
instance (priority := high) : AddL 0 10 10 := ⟨rfl⟩
instance (priority := high) : AddL 0 11 11 := ⟨rfl⟩
instance (priority := high) : AddL 0 12 12 := ⟨rfl⟩
instance (priority := high) : AddL 0 13 13 := ⟨rfl⟩
instance (priority := high) : AddL 0 14 14 := ⟨rfl⟩
instance (priority := high) : AddL 0 15 15 := ⟨rfl⟩
instance (priority := high) : AddL 0 16 16 := ⟨rfl⟩
instance (priority := high) : AddL 0 17 17 := ⟨rfl⟩
instance (priority := high) : AddL 0 18 18 := ⟨rfl⟩
instance (priority := high) : AddL 0 19 19 := ⟨rfl⟩
instance (priority := high) : AddL 0 20 20 := ⟨rfl⟩
instance (priority := high) : AddL 1 0 1 := ⟨rfl⟩
instance (priority := high) : AddL 1 1 2 := ⟨rfl⟩
instance (priority := high) : AddL 1 2 3 := ⟨rfl⟩
instance (priority := high) : AddL 1 3 4 := ⟨rfl⟩
instance (priority := high) : AddL 1 4 5 := ⟨rfl⟩
instance (priority := high) : AddL 1 5 6 := ⟨rfl⟩
instance (priority := high) : AddL 1 6 7 := ⟨rfl⟩
instance (priority := high) : AddL 1 7 8 := ⟨rfl⟩
instance (priority := high) : AddL 1 8 9 := ⟨rfl⟩
instance (priority := high) : AddL 1 9 10 := ⟨rfl⟩
instance (priority := high) : AddL 1 10 11 := ⟨rfl⟩
instance (priority := high) : AddL 1 11 12 := ⟨rfl⟩
instance (priority := high) : AddL 1 12 13 := ⟨rfl⟩
instance (priority := high) : AddL 1 13 14 := ⟨rfl⟩
instance (priority := high) : AddL 1 14 15 := ⟨rfl⟩
instance (priority := high) : AddL 1 15 16 := ⟨rfl⟩
instance (priority := high) : AddL 1 16 17 := ⟨rfl⟩
instance (priority := high) : AddL 1 17 18 := ⟨rfl⟩
instance (priority := high) : AddL 1 18 19 := ⟨rfl⟩
instance (priority := high) : AddL 1 19 20 := ⟨rfl⟩
instance (priority := high) : AddL 1 20 21 := ⟨rfl⟩
instance (priority := high) : AddL 2 0 2 := ⟨rfl⟩
instance (priority := high) : AddL 2 1 3 := ⟨rfl⟩
instance (priority := high) : AddL 2 2 4 := ⟨rfl⟩
instance (priority := high) : AddL 2 3 5 := ⟨rfl⟩
instance (priority := high) : AddL 2 4 6 := ⟨rfl⟩
instance (priority := high) : AddL 2 5 7 := ⟨rfl⟩
instance (priority := high) : AddL 2 6 8 := ⟨rfl⟩
instance (priority := high) : AddL 2 7 9 := ⟨rfl⟩
instance (priority := high) : AddL 2 8 10 := ⟨rfl⟩
instance (priority := high) : AddL 2 9 11 := ⟨rfl⟩
instance (priority := high) : AddL 2 10 12 := ⟨rfl⟩
instance (priority := high) : AddL 2 11 13 := ⟨rfl⟩
instance (priority := high) : AddL 2 12 14 := ⟨rfl⟩
instance (priority := high) : AddL 2 13 15 := ⟨rfl⟩
instance (priority := high) : AddL 2 14 16 := ⟨rfl⟩
instance (priority := high) : AddL 2 15 17 := ⟨rfl⟩
instance (priority := high) : AddL 2 16 18 := ⟨rfl⟩
instance (priority := high) : AddL 2 17 19 := ⟨rfl⟩
instance (priority := high) : AddL 2 18 20 := ⟨rfl⟩
instance (priority := high) : AddL 2 19 21 := ⟨rfl⟩
instance (priority := high) : AddL 2 20 22 := ⟨rfl⟩
instance (priority := high) : AddL 3 0 3 := ⟨rfl⟩
instance (priority := high) : AddL 3 1 4 := ⟨rfl⟩
instance (priority := high) : AddL 3 2 5 := ⟨rfl⟩
instance (priority := high) : AddL 3 3 6 := ⟨rfl⟩
instance (priority := high) : AddL 3 4 7 := ⟨rfl⟩
instance (priority := high) : AddL 3 5 8 := ⟨rfl⟩
instance (priority := high) : AddL 3 6 9 := ⟨rfl⟩
instance (priority := high) : AddL 3 7 10 := ⟨rfl⟩
instance (priority := high) : AddL 3 8 11 := ⟨rfl⟩
instance (priority := high) : AddL 3 9 12 := ⟨rfl⟩
instance (priority := high) : AddL 3 10 13 := ⟨rfl⟩
instance (priority := high) : AddL 3 11 14 := ⟨rfl⟩
instance (priority := high) : AddL 3 12 15 := ⟨rfl⟩
instance (priority := high) : AddL 3 13 16 := ⟨rfl⟩
instance (priority := high) : AddL 3 14 17 := ⟨rfl⟩
instance (priority := high) : AddL 3 15 18 := ⟨rfl⟩
instance (priority := high) : AddL 3 16 19 := ⟨rfl⟩
instance (priority := high) : AddL 3 17 20 := ⟨rfl⟩
instance (priority := high) : AddL 3 18 21 := ⟨rfl⟩
instance (priority := high) : AddL 3 19 22 := ⟨rfl⟩
instance (priority := high) : AddL 3 20 23 := ⟨rfl⟩
instance (priority := high) : AddL 4 0 4 := ⟨rfl⟩
instance (priority := high) : AddL 4 1 5 := ⟨rfl⟩
instance (priority := high) : AddL 4 2 6 := ⟨rfl⟩
instance (priority := high) : AddL 4 3 7 := ⟨rfl⟩
instance (priority := high) : AddL 4 4 8 := ⟨rfl⟩
instance (priority := high) : AddL 4 5 9 := ⟨rfl⟩
instance (priority := high) : AddL 4 6 10 := ⟨rfl⟩
instance (priority := high) : AddL 4 7 11 := ⟨rfl⟩
instance (priority := high) : AddL 4 8 12 := ⟨rfl⟩
instance (priority := high) : AddL 4 9 13 := ⟨rfl⟩
instance (priority := high) : AddL 4 10 14 := ⟨rfl⟩
instance (priority := high) : AddL 4 11 15 := ⟨rfl⟩
instance (priority := high) : AddL 4 12 16 := ⟨rfl⟩
instance (priority := high) : AddL 4 13 17 := ⟨rfl⟩
instance (priority := high) : AddL 4 14 18 := ⟨rfl⟩
instance (priority := high) : AddL 4 15 19 := ⟨rfl⟩
instance (priority := high) : AddL 4 16 20 := ⟨rfl⟩
instance (priority := high) : AddL 4 17 21 := ⟨rfl⟩
instance (priority := high) : AddL 4 18 22 := ⟨rfl⟩
instance (priority := high) : AddL 4 19 23 := ⟨rfl⟩
instance (priority := high) : AddL 4 20 24 := ⟨rfl⟩
instance (priority := high) : AddL 5 0 5 := ⟨rfl⟩
instance (priority := high) : AddL 5 1 6 := ⟨rfl⟩
instance (priority := high) : AddL 5 2 7 := ⟨rfl⟩
instance (priority := high) : AddL 5 3 8 := ⟨rfl⟩
instance (priority := high) : AddL 5 4 9 := ⟨rfl⟩
instance (priority := high) : AddL 5 5 10 := ⟨rfl⟩
instance (priority := high) : AddL 5 6 11 := ⟨rfl⟩
instance (priority := high) : AddL 5 7 12 := ⟨rfl⟩
instance (priority := high) : AddL 5 8 13 := ⟨rfl⟩
instance (priority := high) : AddL 5 9 14 := ⟨rfl⟩
instance (priority := high) : AddL 5 10 15 := ⟨rfl⟩
instance (priority := high) : AddL 5 11 16 := ⟨rfl⟩
instance (priority := high) : AddL 5 12 17 := ⟨rfl⟩
instance (priority := high) : AddL 5 13 18 := ⟨rfl⟩
instance (priority := high) : AddL 5 14 19 := ⟨rfl⟩
instance (priority := high) : AddL 5 15 20 := ⟨rfl⟩
instance (priority := high) : AddL 5 16 21 := ⟨rfl⟩
instance (priority := high) : AddL 5 17 22 := ⟨rfl⟩
instance (priority := high) : AddL 5 18 23 := ⟨rfl⟩
instance (priority := high) : AddL 5 19 24 := ⟨rfl⟩
instance (priority := high) : AddL 5 20 25 := ⟨rfl⟩
instance (priority := high) : AddL 6 0 6 := ⟨rfl⟩
instance (priority := high) : AddL 6 1 7 := ⟨rfl⟩
instance (priority := high) : AddL 6 2 8 := ⟨rfl⟩
instance (priority := high) : AddL 6 3 9 := ⟨rfl⟩
instance (priority := high) : AddL 6 4 10 := ⟨rfl⟩
instance (priority := high) : AddL 6 5 11 := ⟨rfl⟩
instance (priority := high) : AddL 6 6 12 := ⟨rfl⟩
instance (priority := high) : AddL 6 7 13 := ⟨rfl⟩
instance (priority := high) : AddL 6 8 14 := ⟨rfl⟩
instance (priority := high) : AddL 6 9 15 := ⟨rfl⟩
instance (priority := high) : AddL 6 10 16 := ⟨rfl⟩
instance (priority := high) : AddL 6 11 17 := ⟨rfl⟩
instance (priority := high) : AddL 6 12 18 := ⟨rfl⟩
instance (priority := high) : AddL 6 13 19 := ⟨rfl⟩
instance (priority := high) : AddL 6 14 20 := ⟨rfl⟩
instance (priority := high) : AddL 6 15 21 := ⟨rfl⟩
instance (priority := high) : AddL 6 16 22 := ⟨rfl⟩
instance (priority := high) : AddL 6 17 23 := ⟨rfl⟩
instance (priority := high) : AddL 6 18 24 := ⟨rfl⟩
instance (priority := high) : AddL 6 19 25 := ⟨rfl⟩
instance (priority := high) : AddL 6 20 26 := ⟨rfl⟩
instance (priority := high) : AddL 7 0 7 := ⟨rfl⟩
instance (priority := high) : AddL 7 1 8 := ⟨rfl⟩
instance (priority := high) : AddL 7 2 9 := ⟨rfl⟩
instance (priority := high) : AddL 7 3 10 := ⟨rfl⟩
instance (priority := high) : AddL 7 4 11 := ⟨rfl⟩
instance (priority := high) : AddL 7 5 12 := ⟨rfl⟩
instance (priority := high) : AddL 7 6 13 := ⟨rfl⟩
instance (priority := high) : AddL 7 7 14 := ⟨rfl⟩
instance (priority := high) : AddL 7 8 15 := ⟨rfl⟩
instance (priority := high) : AddL 7 9 16 := ⟨rfl⟩
instance (priority := high) : AddL 7 10 17 := ⟨rfl⟩
instance (priority := high) : AddL 7 11 18 := ⟨rfl⟩
instance (priority := high) : AddL 7 12 19 := ⟨rfl⟩
instance (priority := high) : AddL 7 13 20 := ⟨rfl⟩
instance (priority := high) : AddL 7 14 21 := ⟨rfl⟩
instance (priority := high) : AddL 7 15 22 := ⟨rfl⟩
instance (priority := high) : AddL 7 16 23 := ⟨rfl⟩
instance (priority := high) : AddL 7 17 24 := ⟨rfl⟩
instance (priority := high) : AddL 7 18 25 := ⟨rfl⟩
instance (priority := high) : AddL 7 19 26 := ⟨rfl⟩
instance (priority := high) : AddL 7 20 27 := ⟨rfl⟩
instance (priority := high) : AddL 8 0 8 := ⟨rfl⟩
instance (priority := high) : AddL 8 1 9 := ⟨rfl⟩
instance (priority := high) : AddL 8 2 10 := ⟨rfl⟩
instance (priority := high) : AddL 8 3 11 := ⟨rfl⟩
instance (priority := high) : AddL 8 4 12 := ⟨rfl⟩
instance (priority := high) : AddL 8 5 13 := ⟨rfl⟩
instance (priority := high) : AddL 8 6 14 := ⟨rfl⟩
instance (priority := high) : AddL 8 7 15 := ⟨rfl⟩
instance (priority := high) : AddL 8 8 16 := ⟨rfl⟩
instance (priority := high) : AddL 8 9 17 := ⟨rfl⟩
instance (priority := high) : AddL 8 10 18 := ⟨rfl⟩
instance (priority := high) : AddL 8 11 19 := ⟨rfl⟩
instance (priority := high) : AddL 8 12 20 := ⟨rfl⟩
instance (priority := high) : AddL 8 13 21 := ⟨rfl⟩
instance (priority := high) : AddL 8 14 22 := ⟨rfl⟩
instance (priority := high) : AddL 8 15 23 := ⟨rfl⟩
instance (priority := high) : AddL 8 16 24 := ⟨rfl⟩
instance (priority := high) : AddL 8 17 25 := ⟨rfl⟩
instance (priority := high) : AddL 8 18 26 := ⟨rfl⟩
instance (priority := high) : AddL 8 19 27 := ⟨rfl⟩
instance (priority := high) : AddL 8 20 28 := ⟨rfl⟩
instance (priority := high) : AddL 9 0 9 := ⟨rfl⟩
instance (priority := high) : AddL 9 1 10 := ⟨rfl⟩
instance (priority := high) : AddL 9 2 11 := ⟨rfl⟩
instance (priority := high) : AddL 9 3 12 := ⟨rfl⟩
instance (priority := high) : AddL 9 4 13 := ⟨rfl⟩
instance (priority := high) : AddL 9 5 14 := ⟨rfl⟩
instance (priority := high) : AddL 9 6 15 := ⟨rfl⟩
instance (priority := high) : AddL 9 7 16 := ⟨rfl⟩
instance (priority := high) : AddL 9 8 17 := ⟨rfl⟩
instance (priority := high) : AddL 9 9 18 := ⟨rfl⟩
instance (priority := high) : AddL 9 10 19 := ⟨rfl⟩
instance (priority := high) : AddL 9 11 20 := ⟨rfl⟩
instance (priority := high) : AddL 9 12 21 := ⟨rfl⟩
instance (priority := high) : AddL 9 13 22 := ⟨rfl⟩
instance (priority := high) : AddL 9 14 23 := ⟨rfl⟩
instance (priority := high) : AddL 9 15 24 := ⟨rfl⟩
instance (priority := high) : AddL 9 16 25 := ⟨rfl⟩
instance (priority := high) : AddL 9 17 26 := ⟨rfl⟩
instance (priority := high) : AddL 9 18 27 := ⟨rfl⟩
instance (priority := high) : AddL 9 19 28 := ⟨rfl⟩
instance (priority := high) : AddL 9 20 29 := ⟨rfl⟩
instance (priority := high) : AddL 10 0 10 := ⟨rfl⟩
instance (priority := high) : AddL 10 1 11 := ⟨rfl⟩
instance (priority := high) : AddL 10 2 12 := ⟨rfl⟩
instance (priority := high) : AddL 10 3 13 := ⟨rfl⟩
instance (priority := high) : AddL 10 4 14 := ⟨rfl⟩
instance (priority := high) : AddL 10 5 15 := ⟨rfl⟩
instance (priority := high) : AddL 10 6 16 := ⟨rfl⟩
instance (priority := high) : AddL 10 7 17 := ⟨rfl⟩
instance (priority := high) : AddL 10 8 18 := ⟨rfl⟩
instance (priority := high) : AddL 10 9 19 := ⟨rfl⟩
instance (priority := high) : AddL 10 10 20 := ⟨rfl⟩
instance (priority := high) : AddL 10 11 21 := ⟨rfl⟩
instance (priority := high) : AddL 10 12 22 := ⟨rfl⟩
instance (priority := high) : AddL 10 13 23 := ⟨rfl⟩
instance (priority := high) : AddL 10 14 24 := ⟨rfl⟩
instance (priority := high) : AddL 10 15 25 := ⟨rfl⟩
instance (priority := high) : AddL 10 16 26 := ⟨rfl⟩
instance (priority := high) : AddL 10 17 27 := ⟨rfl⟩
instance (priority := high) : AddL 10 18 28 := ⟨rfl⟩
instance (priority := high) : AddL 10 19 29 := ⟨rfl⟩
instance (priority := high) : AddL 10 20 30 := ⟨rfl⟩
instance (priority := high) : AddL 11 0 11 := ⟨rfl⟩
instance (priority := high) : AddL 11 1 12 := ⟨rfl⟩
instance (priority := high) : AddL 11 2 13 := ⟨rfl⟩
instance (priority := high) : AddL 11 3 14 := ⟨rfl⟩
instance (priority := high) : AddL 11 4 15 := ⟨rfl⟩
instance (priority := high) : AddL 11 5 16 := ⟨rfl⟩
instance (priority := high) : AddL 11 6 17 := ⟨rfl⟩
instance (priority := high) : AddL 11 7 18 := ⟨rfl⟩
instance (priority := high) : AddL 11 8 19 := ⟨rfl⟩
instance (priority := high) : AddL 11 9 20 := ⟨rfl⟩
instance (priority := high) : AddL 11 10 21 := ⟨rfl⟩
instance (priority := high) : AddL 11 11 22 := ⟨rfl⟩
instance (priority := high) : AddL 11 12 23 := ⟨rfl⟩
instance (priority := high) : AddL 11 13 24 := ⟨rfl⟩
instance (priority := high) : AddL 11 14 25 := ⟨rfl⟩
instance (priority := high) : AddL 11 15 26 := ⟨rfl⟩
instance (priority := high) : AddL 11 16 27 := ⟨rfl⟩
instance (priority := high) : AddL 11 17 28 := ⟨rfl⟩
instance (priority := high) : AddL 11 18 29 := ⟨rfl⟩
instance (priority := high) : AddL 11 19 30 := ⟨rfl⟩
instance (priority := high) : AddL 11 20 31 := ⟨rfl⟩
instance (priority := high) : AddL 12 0 12 := ⟨rfl⟩
instance (priority := high) : AddL 12 1 13 := ⟨rfl⟩
instance (priority := high) : AddL 12 2 14 := ⟨rfl⟩
instance (priority := high) : AddL 12 3 15 := ⟨rfl⟩
instance (priority := high) : AddL 12 4 16 := ⟨rfl⟩
instance (priority := high) : AddL 12 5 17 := ⟨rfl⟩
instance (priority := high) : AddL 12 6 18 := ⟨rfl⟩
instance (priority := high) : AddL 12 7 19 := ⟨rfl⟩
instance (priority := high) : AddL 12 8 20 := ⟨rfl⟩
instance (priority := high) : AddL 12 9 21 := ⟨rfl⟩
instance (priority := high) : AddL 12 10 22 := ⟨rfl⟩
instance (priority := high) : AddL 12 11 23 := ⟨rfl⟩
instance (priority := high) : AddL 12 12 24 := ⟨rfl⟩
instance (priority := high) : AddL 12 13 25 := ⟨rfl⟩
instance (priority := high) : AddL 12 14 26 := ⟨rfl⟩
instance (priority := high) : AddL 12 15 27 := ⟨rfl⟩
instance (priority := high) : AddL 12 16 28 := ⟨rfl⟩
instance (priority := high) : AddL 12 17 29 := ⟨rfl⟩
instance (priority := high) : AddL 12 18 30 := ⟨rfl⟩
instance (priority := high) : AddL 12 19 31 := ⟨rfl⟩
instance (priority := high) : AddL 12 20 32 := ⟨rfl⟩

/-! ### Assertions -/
/-- A block known whole. -/
def pt (b : Nat) (T : TypeId) (cs : List Value) : As where
  P w F := w.heap[b]? = some (.cells cs.toArray T (0, 0)) ∧ ∀ k, F k ↔ k = b
  loc := fun ⟨h1, h2⟩ e => ⟨(e b ((h2 b).2 rfl)).trans h1, h2⟩
  lt := fun ⟨h1, h2⟩ k hk => by rw [(h2 k).1 hk]; exact lt_of_block h1
  ext := fun ⟨h1, h2⟩ e => ⟨h1, fun k => (e k).symm.trans (h2 k)⟩

theorem own_loc {w w' : World} {e sz n : Nat} {v : Value} {xs : List Value} (h : w.ownsRow 0 e sz v n xs) (hk : ∀ b, v.ownBlock = some b → w'.heap[b]? = w.heap[b]?) : w'.ownsRow 0 e sz v n xs := by
  obtain ⟨h1, h2⟩ := h
  refine ⟨h1, ?_⟩
  rcases h2 with h2 | ⟨g, cap, cur, hv, hg, hh, r⟩
  · exact .inl h2
  · subst hv
    exact .inr ⟨g, cap, cur, rfl, hg, (hk g rfl).trans hh, r⟩

/-- A slice with an array of its own (or nil): n elements of sz cells each. -/
def sl (e sz : Nat) (v : Value) (n : Nat) (xs : List Value) : As where
  P w F := w.ownsRow 0 e sz v n xs ∧ ∀ k, F k ↔ v.ownBlock = some k
  loc := fun ⟨h1, h2⟩ e => ⟨own_loc h1 fun b hb => e b ((h2 b).2 hb), h2⟩
  lt := fun ⟨h1, h2⟩ k hk => (h1.lt k ((h2 k).1 hk)).2
  ext := fun ⟨h1, h2⟩ e => ⟨h1, fun k => (e k).symm.trans (h2 k)⟩

/-- A slice that is read: its elements lie somewhere. -/
def rd (sz : Nat) (v : Value) (n : Nat) (xs : List Value) : As where
  P w F := xs.length = n * sz ∧ ∃ (a : Option Addr) (c : Nat), (v = .slice a n c ∧ n ≤ c) ∧ (n = 0 ∨ ∃ (b o : Nat), a = some ⟨b, o, none⟩ ∧ (∀ j u, xs[j]? = some u → w.cell? ⟨b, o + j, none⟩ = some u) ∧ F b) ∧ ∀ k, F k → k < w.heap.size
  loc := fun {w w' F} ⟨h1, a, c, hv, h, hl⟩ e => ⟨h1, a, c, hv, h.imp id (fun ⟨b, o, ha, hc, hb⟩ => ⟨b, o, ha, fun j u hj => by rw [← hc j u hj]; exact World.cell?_of_block (e b hb), hb⟩), fun k hk => by
    have := e k hk
    rw [Array.getElem?_eq_getElem (hl k hk)] at this
    exact (Array.getElem?_eq_some_iff.1 this).1⟩
  lt := fun ⟨_, _, _, _, _, hl⟩ => hl
  ext := fun ⟨h1, a, c, hv, h, hl⟩ e => ⟨h1, a, c, hv, h.imp id (fun ⟨b, o, ha, hc, hb⟩ => ⟨b, o, ha, hc, (e b).1 hb⟩), fun k hk => hl k ((e k).2 hk)⟩

/-- The address of element j's first cell (k cells behind the slice's begin). -/
def elemPtr (v : Value) (k : Nat) : Value :=
  match v with
  | .slice (some a) _ _ => .pointer (some (a.add k))
  | _ => .pointer none

/-- The assertion gives the cell at p. -/
def As.ld (A : As) (p x : Value) : Prop := ∀ (w : World) F, A.P w F → ∃ a, p = .pointer (some a) ∧ w.cell? a = some x
/-- The assertion gives the cells at p and behind it. -/
def As.lds (A : As) (p : Value) (xs : List Value) : Prop := ∀ (w : World) F, A.P w F → ∃ a : Addr, p = .pointer (some a) ∧ ∀ (j : Nat) u, xs[j]? = some u → w.cell? (a.add j) = some u
/-- A store at p turns the assertion into another. -/
def As.st (A : As) (p x : Value) (A' : As) : Prop :=
  ∀ (w : World) F, A.P w F → ∃ a, p = .pointer (some a) ∧ F a.block ∧ (∃ u, w.cell? a = some u) ∧ w.frozen? a = false ∧ A'.P (w.setCell a x) F
def As.lens (A : As) (v : Value) (n : Nat) : Prop := ∀ (w : World) F, A.P w F → ∃ a c, v = .slice a n c

theorem add_eq (b o j : Nat) : (⟨b, o, none⟩ : Addr).add j = ⟨b, o + j, none⟩ := by
  unfold Addr.add; split
  · rename_i h; subst h; rfl
  · rfl

theorem pt_cell {w : World} {b : Nat} {T : TypeId} {cs : List Value} (h : w.heap[b]? = some (.cells cs.toArray T (0, 0))) (i : Nat) : w.cell? ⟨b, i, none⟩ = cs[i]? := by
  simp [World.cell?, h]

theorem ld_pt {b i : Nat} {T : TypeId} {cs : List Value} {x : Value} (h : cs[i]? = some x) : (pt b T cs).ld (.pointer (some ⟨b, i, none⟩)) x :=
  fun _ _ ⟨h1, _⟩ => ⟨_, rfl, (pt_cell h1 i).trans h⟩
theorem lds_pt {b i m : Nat} {T : TypeId} {cs xs : List Value} (h : (cs.drop i).take m = xs) : (pt b T cs).lds (.pointer (some ⟨b, i, none⟩)) xs := by
  rintro w F ⟨h1, _⟩
  refine ⟨_, rfl, fun j u hj => ?_⟩
  rw [add_eq, pt_cell h1]
  subst h
  rw [List.getElem?_take] at hj
  split at hj
  · rw [List.getElem?_drop] at hj; exact hj
  · cases hj
theorem st_pt {b i : Nat} {T : TypeId} {cs cs' : List Value} {x : Value} (hi : i < cs.length) (h : cs.set i x = cs') : (pt b T cs).st (.pointer (some ⟨b, i, none⟩)) x (pt b T cs') := by
  rintro w F ⟨h1, h2⟩
  refine ⟨_, rfl, (h2 b).2 rfl, ⟨cs[i], by rw [pt_cell h1]; simp [hi]⟩, by simp [World.frozen?, h1], ?_, h2⟩
  have hlt := lt_of_block h1
  subst h
  have h' : w.heap[b] = .cells cs.toArray T (0, 0) := by simpa [Array.getElem?_eq_getElem hlt] using h1
  show (w.heap.modify b _)[b]? = _
  rw [Array.getElem?_eq_getElem (by simpa using hlt), Array.getElem_modify_self, h']
  simp

theorem ld_sl {e sz n j : Nat} {v x : Value} {xs : List Value} (h : xs[j]? = some x) : (sl e sz v n xs).ld (elemPtr v j) x := by
  rintro w F ⟨h1, _⟩
  have hl := h1.1
  rcases h1.2 with ⟨rfl, rfl⟩ | ⟨g, cap, cur, rfl, _⟩
  · have : xs = [] := List.eq_nil_of_length_eq_zero (by simpa using hl)
    subst this; cases h
  · exact ⟨_, rfl, h1.cells rfl j x h⟩
theorem lds_sl {e sz n j m : Nat} {v : Value} {xs ys : List Value} (h : (xs.drop j).take m = ys) (h0 : ys ≠ []) : (sl e sz v n xs).lds (elemPtr v j) ys := by
  rintro w F ⟨h1, _⟩
  have hl := h1.1
  rcases h1.2 with ⟨rfl, rfl⟩ | ⟨g, cap, cur, rfl, _⟩
  · have : xs = [] := List.eq_nil_of_length_eq_zero (by simpa using hl)
    subst this; simp at h; exact (h0 h).elim
  · refine ⟨_, rfl, fun i u hi => ?_⟩
    subst h
    rw [List.getElem?_take] at hi
    split at hi
    · rw [List.getElem?_drop] at hi
      have := h1.cells rfl (j + i) u hi
      rw [add_eq] at this ⊢
      rw [add_eq]; rw [Nat.add_assoc]; exact this
    · cases hi

theorem set_take {l : List Value} {n j : Nat} {x : Value} : (l.set j x).take n = (l.take n).set j x := by
  rw [List.take_set]

theorem st_sl {e sz n j : Nat} {v x : Value} {xs : List Value} (hj : j < xs.length) : (sl e sz v n xs).st (elemPtr v j) x (sl e sz v n (xs.set j x)) := by
  rintro w F ⟨h1, h2⟩
  have hl := h1.1
  rcases h1.2 with ⟨rfl, rfl⟩ | ⟨g, cap, cur, rfl, hb, hg, hn, hm, hs, ht⟩
  · have : xs = [] := List.eq_nil_of_length_eq_zero (by simpa using hl)
    subst this; simp at hj
  · have hjc : j < cur.size := by rw [hs]; exact Nat.lt_of_lt_of_le (by omega) (Nat.mul_le_mul_right sz hn)
    refine ⟨_, rfl, (h2 _).2 (by simp [Value.ownBlock, Addr.add]; split <;> rfl), ?_, ?_, ?_, h2⟩
    · exact ⟨_, h1.cells rfl j xs[j] (by simp [hj])⟩
    · rw [add_eq]; simp [World.frozen?, hg]
    · refine ⟨by simpa using hl, .inr ⟨g, cap, cur.setIfInBounds j x, rfl, hb, ?_, hn, hm, by simpa using hs, ?_⟩⟩
      · rw [add_eq]
        have hlt := lt_of_block hg
        have h' : w.heap[g] = .cells cur e (0, 0) := by simpa [Array.getElem?_eq_getElem hlt] using hg
        show (w.heap.modify g _)[g]? = _
        rw [Array.getElem?_eq_getElem (by simpa using hlt), Array.getElem_modify_self, h']
        simp
      · rw [Array.toList_setIfInBounds, set_take, ht]

theorem ld_rd {sz n j : Nat} {v x : Value} {xs : List Value} (h : xs[j]? = some x) : (rd sz v n xs).ld (elemPtr v j) x := by
  rintro w F ⟨h1, a, c, ⟨rfl, _⟩, h2, _⟩
  rcases h2 with h2 | ⟨b, o, rfl, hc, _⟩
  · have : xs = [] := List.eq_nil_of_length_eq_zero (by rw [h1, h2]; simp)
    subst this; cases h
  · exact ⟨_, rfl, by rw [add_eq]; exact hc j x h⟩

theorem lens_sl {e sz n : Nat} {v : Value} {xs : List Value} : (sl e sz v n xs).lens v n := by
  rintro w F ⟨h1, _⟩
  rcases h1.2 with ⟨rfl, rfl⟩ | ⟨g, cap, cur, rfl, _⟩
  · exact ⟨_, _, rfl⟩
  · exact ⟨_, _, rfl⟩
theorem lens_rd {sz n : Nat} {v : Value} {xs : List Value} : (rd sz v n xs).lens v n := fun _ _ ⟨_, a, c, h, _⟩ => ⟨a, c, h.1⟩

/-- Where an assertion is found: among those of the call's own, or among the shared ones. -/
inductive In : List As → As → Prop
  | here {A L} : In (A :: L) A
  | there {A B L} : In L A → In (B :: L) A
theorem In.of_take {L L' : List As} {A : As} (h : Take L A L') : In L A := by
  induction h with
  | here => exact .here
  | there _ ih => exact .there ih
theorem In.mem {L : List As} {A : As} (h : In L A) : A ∈ L := by
  induction h with
  | here => exact List.mem_cons_self
  | there _ ih => exact List.mem_cons_of_mem _ ih
inductive Inn : List As → List As → As → Prop
  | own {L M A} : In L A → Inn L M A
  | shr {L M A} : In M A → Inn L M A

theorem Has.of_in {w : World} {L : List As} {A : As} (h : In L A) : ∀ {F}, Has w L F → ∃ G, A.P w G := by
  induction h with
  | here => rintro F ⟨F1, _, h1, _⟩; exact ⟨F1, h1⟩
  | there _ ih => rintro F ⟨_, F2, _, h2, _⟩; exact ih h2
theorem Hp.of_inn {w0 w : World} {F0} {L M : List As} {A : As} (h : Inn L M A) (hh : Hp w0 F0 L M w) : ∃ G, A.P w G := by
  obtain ⟨F, h1, h2, _⟩ := hh
  cases h with
  | own h => exact Has.of_in h h1
  | shr h => exact let ⟨G, g, _⟩ := h2 A h.mem; ⟨G, g⟩

end Go.Proofs.YtoiebfpafdcbmaaDoor.K
