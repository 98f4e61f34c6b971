/- What came in as a slice of numbers can be read: from the row's own words to the logic's. No program in sight. -/
import Derived.Test.YtoiebfpafdcbmaaDoorKk
import Derived.ChangeSlices
namespace Go.Proofs.YtoiebfpafdcbmaaDoor.K
open Go Go.RowKit
set_option linter.unusedVariables false
set_option linter.unusedSimpArgs false

/-- The row's words for a slice of numbers. -/
def IsRow (k : IntKind) (w : World) (a : Option Addr) (len cap : Nat) (zs : List Int) : Prop :=
  (a = none ∧ len = 0 ∧ cap = 0 ∧ zs = []) ∨
  ∃ x, a = some x ∧ len ≤ cap ∧ cap ≤ maxLen ∧ zs.length = cap ∧ (∀ i, i < zs.length → w.cell? (x.add i) = some (.int k (zs.getD i 0))) ∧ ∀ n ∈ zs, (Lit.int k n).wf = true

theorem lt_of_cell {w : World} {a : Addr} {v : Value} (h : w.cell? a = some v) : a.block < w.heap.size := by
  unfold World.cell? at h
  rcases Nat.lt_or_ge a.block w.heap.size with h' | h'
  · exact h'
  · rw [Array.getElem?_eq_none h'] at h; cases h

theorem IsRow.rd {k : IntKind} {w : World} {a : Option Addr} {len cap : Nat} {zs : List Int} (h : IsRow k w a len cap zs) :
    (rd 1 (.slice a len cap) (zs.take len).length ((zs.take len).map (Value.int k))).P w (fun b => ∃ x, a = some x ∧ x.block = b ∧ 0 < len) ∧ (zs.take len).length = len ∧ len ≤ maxLen ∧ ∀ x ∈ zs.take len, (Lit.int k x).wf = true := by
  rcases h with ⟨rfl, rfl, rfl, rfl⟩ | ⟨x, rfl, hl, hm, hz, hc, hw⟩
  · exact ⟨⟨rfl, none, 0, ⟨rfl, Nat.le_refl _⟩, .inl rfl, fun b ⟨_, h, _⟩ => by cases h⟩, rfl, Nat.zero_le _, fun x hx => by cases hx⟩
  · have htl : (zs.take len).length = len := by rw [List.length_take]; omega
    refine ⟨⟨by simp, some x, cap, ⟨by rw [htl], by omega⟩, ?_, ?_⟩, htl, by omega, fun y hy => hw y (List.mem_of_mem_take hy)⟩
    · rcases Nat.eq_zero_or_pos len with h0 | h0
      · exact .inl (by omega)
      · refine .inr ⟨x.block, x.off, ?_, fun j u hj => ?_, ⟨x, rfl, rfl, h0⟩⟩
        · have h1 := hc 0 (by omega)
          have h2 := World.cell?_spot h1
          have h3 : x.add 0 = x := by simp [Addr.add]
          rw [h3] at h2
          cases x; simp only at h2; subst h2; rfl
        · rw [List.getElem?_map, List.getElem?_take] at hj
          split at hj
          · rename_i hjl
            have h1 := hc j (by omega)
            have h2 := World.cell?_spot (hc 0 (by omega))
            have h3 : x.add 0 = x := by simp [Addr.add]
            rw [h3] at h2
            have h4 : x.add j = ⟨x.block, x.off + j, none⟩ := by
              cases x; simp only at h2; subst h2; exact add_eq _ _ _
            rw [← h4, h1]
            rw [List.getElem?_eq_getElem (by omega)] at hj
            simp only [Option.map_some, Option.some.injEq] at hj
            rw [← hj, List.getD, List.getElem?_eq_getElem (by omega)]; rfl
          · cases hj
    · rintro b ⟨y, hy, rfl, h0⟩
      obtain rfl := Option.some.inj hy
      have := lt_of_cell (hc 0 (by omega))
      rwa [Go.ChangeShapes.block_add] at this
theorem shr_one {w : World} {A : As} {F : Nat → Prop} (h : A.P w F) : Shr w [A] (fun _ => False) := fun B hB => by
  obtain rfl := List.mem_singleton.1 hB
  exact ⟨F, h, fun _ _ x => x⟩
theorem has_none (w : World) : Has w [] (fun _ => False) := fun _ x => x
end Go.Proofs.YtoiebfpafdcbmaaDoor.K
