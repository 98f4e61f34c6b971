/- How long what came in is, by the form's own reach. -/
import Derived.Test.YtoiebfpafdcbmaaDoorRu
namespace Go.Proofs.YtoiebfpafdcbmaaDoor
open Go Go.RowKit Go.ChangeShapes Go.WideShapes Go.ChangeAt K Go.Deep
set_option linter.unusedVariables false
set_option linter.unusedSimpArgs false

section
variable {H : Type} {enc : TypeId × Value → H} {P : Program} {w : World} {held : Bool} {fuel : Nat} {t : TypeId} {cs : List Value} {x : DataW H × List MemPlace}
theorem reach_slice {e : TypeId} (ht : P.underlying t = some (.slice e)) (h : trodT enc P w held fuel t cs = some x) {a : Option Addr} {n c : Nat} (hc : cs = [.slice a n c]) (hw : ∀ y ∈ x.1.weights P t, y ≤ reachBytes) : n * P.bytesOf e ≤ reachBytes := by
  rcases open_slice ht h with ⟨rfl, rfl⟩ | ⟨a', len, cap, m, k, D, Pl, rfl, _, _, _, _, rfl, _⟩
  · simp at hc; obtain ⟨_, rfl, _⟩ := hc; simp
  · simp only [List.cons.injEq, Value.slice.injEq, and_true] at hc
    obtain ⟨_, rfl, _⟩ := hc
    simp only [DataW.weights, ht] at hw
    have h1 := hw _ (List.mem_cons_self)
    simp only [List.length_map, List.length_range] at h1
    exact Nat.le_trans (Nat.mul_le_mul_right _ (Nat.le_add_right _ _)) h1
set_option maxRecDepth 100000 in
theorem reach_plane {x : DataW H × List MemPlace} {held : Bool} {fuel : Nat} {c0 c1 : Value} {a : Option Addr} {n c : Nat} (h : trodT enc Tryd.prog w held fuel 37 [c0, c1, .slice a n c] = some x) (hw : ∀ y ∈ x.1.weights Tryd.prog 37, y ≤ reachBytes) : n ≤ 17592186044416 := by
  obtain ⟨ys, k, _, hx, hl, hn, hg⟩ := DataW.trod_struct Tryd.underlying37 h
  have hs : Tryd.prog.cellsOf 22 = 1 := by kernel_rfl
  have hb : Tryd.prog.bytesOf 3 = 8 := by kernel_rfl
  match ys, hn with
  | [y0, y1, y2], _ =>
    have g2 : trodT enc Tryd.prog w held k 22 (([c0, c1, .slice a n c].drop 2).take (Tryd.prog.cellsOf 22)) = [y0, y1, y2][2]? := hg 2 _ rfl
    simp only [hs, List.drop_zero, List.drop_succ_cons, List.take_succ_cons, List.take_zero, List.getElem?_cons_zero, List.getElem?_cons_succ] at g2
    rw [hx] at hw
    simp only [DataW.weights, Tryd.underlying37, List.map_cons, List.map_nil, DataW.weightsEach, List.append_nil, List.mem_append] at hw
    have h1 := reach_slice Tryd.underlying22 g2 rfl (fun y hy => hw y (.inr (.inr hy)))
    rw [hb] at h1
    have : reachBytes = 140737488351232 := rfl
    omega
set_option maxRecDepth 100000 in
theorem reach_frame {x : DataW H × List MemPlace} {held : Bool} {fuel : Nat} {y : FrV} (h : trodT enc Tryd.prog w held fuel 40 y.c = some x) (hw : ∀ z ∈ x.1.weights Tryd.prog 40, z ≤ reachBytes) (hF : ∀ A ∈ frR [y], ∃ F, A.P w F) :
    y.f.a.l.length ≤ 17592186044416 ∧ y.f.b.l.length ≤ 17592186044416 ∧ y.f.c.l.length ≤ 17592186044416 := by
  obtain ⟨ys, n, _, hx, hl, hn, hg⟩ := DataW.trod_struct Tryd.underlying40 h
  have ha : Tryd.prog.cellsOf 38 = 9 := by kernel_rfl
  have hp : Tryd.prog.cellsOf 37 = 3 := by kernel_rfl
  obtain ⟨⟨⟨w0, h0, l0⟩, ⟨w1, h1, l1⟩, ⟨w2, h2, l2⟩⟩, u, v, q⟩ := y
  have F0 := hF (plR ⟨w0, h0, l0⟩ u) (by simp [frR])
  have F1 := hF (plR ⟨w1, h1, l1⟩ v) (by simp [frR])
  have F2 := hF (plR ⟨w2, h2, l2⟩ q) (by simp [frR])
  obtain ⟨a0, k0, rfl⟩ := len_of_rd F0
  obtain ⟨a1, k1, rfl⟩ := len_of_rd F1
  obtain ⟨a2, k2, rfl⟩ := len_of_rd F2
  match ys, hn with
  | [y0], _ =>
    have g0 : trodT enc Tryd.prog w held n 38 (((FrV.mk ⟨⟨w0, h0, l0⟩, ⟨w1, h1, l1⟩, ⟨w2, h2, l2⟩⟩ (.slice a0 l0.length k0) (.slice a1 l1.length k1) (.slice a2 l2.length k2)).c.drop 0).take (Tryd.prog.cellsOf 38)) = [y0][0]? := hg 0 _ rfl
    simp only [FrV.c, frC, plC, List.cons_append, List.nil_append, ha, List.drop_zero, List.drop_succ_cons, List.take_succ_cons, List.take_zero, List.getElem?_cons_zero, List.getElem?_cons_succ] at g0
    obtain ⟨zs, m, _, hz, _, hzl, hgz⟩ := DataW.trod_array Tryd.underlying38 g0
    match zs, hzl with
    | [z0, z1, z2], _ =>
      have k0 := hgz 0 (by decide)
      have k1 := hgz 1 (by decide)
      have k2 := hgz 2 (by decide)
      simp only [hp, Nat.zero_mul, Nat.one_mul, List.drop_zero, List.drop_succ_cons, List.take_succ_cons, List.take_zero, List.getElem?_cons_zero, List.getElem?_cons_succ] at k0 k1 k2
      have e : y0.1 = .agg [z0.1, z1.1, z2.1] := by rw [hz]; rfl
      rw [hx] at hw
      simp only [DataW.weights, Tryd.underlying40, List.map_cons, List.map_nil, DataW.weightsEach, List.append_nil, e, Tryd.underlying38, DataW.weightsAll, List.mem_append] at hw
      exact ⟨reach_plane k0 fun y hy => hw y (.inl hy), reach_plane k1 fun y hy => hw y (.inr (.inl hy)), reach_plane k2 fun y hy => hw y (.inr (.inr hy))⟩
end
end Go.Proofs.YtoiebfpafdcbmaaDoor
