/- Plain law: how films are told, step by step; how long what is told is. -/
import Derived.Test.YtoiebfpafdcbmaaDoorPZ
import Derived.Test.YtoiebfpafdcbmaaDoorT4
namespace Go.Proofs.YtoiebfpafdcbmaaDoor
open Go Go.RowKit K
set_option linter.unusedVariables false
set_option linter.unusedSimpArgs false

theorem film_step {s : List UInt8} {n a : Nat} {x : Fr} {r : List Fr} {k : Nat} (h : filmM s n a = (x :: r, k)) : ∃ m j, n = m + 1 ∧ frameM s a = some (x, j) ∧ filmM s m j = (r, k) := by
  cases n with
  | zero => simp [filmM] at h
  | succ m =>
    rw [filmM] at h
    cases hf : frameM s a with
    | none => rw [hf] at h; simp at h
    | some y =>
      obtain ⟨f, j⟩ := y
      rw [hf] at h
      simp only [Prod.mk.injEq, List.cons.injEq] at h
      obtain ⟨⟨rfl, h1⟩, h2⟩ := h
      exact ⟨m, j, rfl, rfl, Prod.ext h1 h2⟩
theorem film_stop {s : List UInt8} {m a k : Nat} (h : filmM s (m + 1) a = ([], k)) : frameM s a = none ∧ k = a := by
  rw [filmM] at h
  cases hf : frameM s a with
  | none =>
    rw [hf] at h
    simp only [Prod.mk.injEq, true_and] at h
    exact ⟨rfl, h.symm⟩
  | some y =>
    obtain ⟨f, j⟩ := y
    rw [hf] at h
    simp at h
theorem plane_len {s : List UInt8} {i : Nat} {p : Pl} {j : Nat} (h : planeM s i = some (p, j)) : p.l.length ≤ 1048576 := by
  obtain ⟨hp, _, _⟩ := plane_yes h
  obtain ⟨hw, hh, hl⟩ := Pl.right_iff.1 hp
  have := mul_sides hw hh
  omega
theorem frame_len {s : List UInt8} {i : Nat} {f : Fr} {j : Nat} (h : frameM s i = some (f, j)) : f.a.l.length ≤ 1099511627776 ∧ f.b.l.length ≤ 1099511627776 ∧ f.c.l.length ≤ 1099511627776 := by
  unfold frameM at h
  split at h
  · cases h
  · rename_i a i1 h1
    split at h
    · cases h
    · rename_i b i2 h2
      split at h
      · cases h
      · rename_i c i3 h3
        simp only [Option.some.injEq, Prod.mk.injEq] at h
        obtain ⟨rfl, _⟩ := h
        have q1 := plane_len h1
        have q2 := plane_len h2
        have q3 := plane_len h3
        exact ⟨by show a.l.length ≤ _; omega, by show b.l.length ≤ _; omega, by show c.l.length ≤ _; omega⟩
theorem giv_zero {L M : List As} [h : InnA L M nilI] : Gives L M (plR zeroP (.slice none 0 0)) := ⟨nilI, h.ok, fun w F hF => rd_of_sl w F hF⟩
end Go.Proofs.YtoiebfpafdcbmaaDoor
