/- Frames and films among what came in; how great they are by the row's own measure. -/
import Derived.Test.YtoiebfpafdcbmaaDoorRt
import Derived.Test.YtoiebfpafdcbmaaDoorL3
namespace Go.Proofs.YtoiebfpafdcbmaaDoor
open Go Go.RowKit Go.ChangeShapes Go.WideShapes Go.ChangeAt K Go.Deep
set_option linter.unusedVariables false
set_option linter.unusedSimpArgs false

namespace bulks
theorem one_le {H : Type} (d : DataW H) : 1 ≤ Rows.uptoBulk d := by
  cases d with
  | lit l => cases l <;> simp [Rows.uptoBulk]
  | _ => simp [Rows.uptoBulk]
theorem part_le {H : Type} {d : DataW H} {l : List (DataW H)} (h : d ∈ l) : Rows.uptoBulk d ≤ Rows.uptoBulkAll l := by
  induction l with
  | nil => cases h
  | cons x r ih =>
    simp only [Rows.uptoBulkAll]
    cases List.mem_cons.1 h with
    | inl e => subst e; omega
    | inr e => have := ih e; omega
theorem append {H : Type} (l r : List (DataW H)) : Rows.uptoBulkAll (l ++ r) = Rows.uptoBulkAll l + Rows.uptoBulkAll r := by
  induction l with
  | nil => simp [Rows.uptoBulkAll]
  | cons x l ih => simp only [List.cons_append, Rows.uptoBulkAll, ih]; omega
theorem length_le {H : Type} (l : List (DataW H)) : l.length ≤ Rows.uptoBulkAll l := by
  induction l with
  | nil => simp [Rows.uptoBulkAll]
  | cons x r ih => have := one_le x; simp only [Rows.uptoBulkAll, List.length_cons]; omega
end bulks
section
variable {H : Type} {enc : TypeId × Value → H} {P : Program} {w : World} {held : Bool} {fuel : Nat} {t : TypeId} {cs : List Value} {x : DataW H × List MemPlace}
theorem bulk_slice {e : TypeId} (ht : P.underlying t = some (.slice e)) (h : trodT enc P w held fuel t cs = some x) {a : Option Addr} {n c : Nat} (hc : cs = [.slice a n c]) : n ≤ Rows.uptoBulk x.1 := by
  rcases open_slice ht h with ⟨rfl, rfl⟩ | ⟨a', len, cap, m, k, D, Pl, rfl, _, _, _, _, rfl, _⟩
  · simp at hc; omega
  · simp only [List.cons.injEq, Value.slice.injEq, and_true] at hc
    have := bulks.length_le ((List.range len).map D)
    simp only [List.length_map, List.length_range] at this
    simp only [Rows.uptoBulk]; omega
theorem bulk_agg {ys : List (DataW H × List MemPlace)} {y : DataW H × List MemPlace} {j : Nat} (h : ys[j]? = some y) : Rows.uptoBulk y.1 ≤ Rows.uptoBulk (.agg (ys.map (·.1)) : DataW H) := by
  have := bulks.part_le (List.mem_map_of_mem (f := (·.1)) (List.mem_of_getElem? h))
  simp only [Rows.uptoBulk]; omega
set_option maxRecDepth 100000 in
theorem bulk_plane {x : DataW H × List MemPlace} {held : Bool} {fuel : Nat} {c0 c1 : Value} {a : Option Addr} {n c : Nat} (h : trodT enc Tryd.prog w held fuel 37 [c0, c1, .slice a n c] = some x) : n ≤ Rows.uptoBulk x.1 := by
  obtain ⟨ys, k, _, hx, hl, hn, hg⟩ := DataW.trod_struct Tryd.underlying37 h
  have hs : Tryd.prog.cellsOf 22 = 1 := by kernel_rfl
  match ys, hn with
  | [y0, y1, y2], _ =>
    have g2 : trodT enc Tryd.prog w held k 22 (([c0, c1, .slice a n c].drop 2).take (Tryd.prog.cellsOf 22)) = [y0, y1, y2][2]? := hg 2 _ rfl
    simp only [hs, List.drop_zero, List.drop_succ_cons, List.take_succ_cons, List.take_zero, List.getElem?_cons_zero, List.getElem?_cons_succ] at g2
    have h1 := bulk_slice Tryd.underlying22 g2 rfl
    have h2 := bulk_agg (ys := [y0, y1, y2]) (j := 2) rfl
    rw [hx]; exact Nat.le_trans h1 h2
theorem len_of_rd {v : Value} {n : Nat} {xs : List Value} (h : ∃ F, (rd 1 v n xs).P w F) : ∃ a c, v = .slice a n c := let ⟨F, h⟩ := h; lens_rd w F h
set_option maxRecDepth 100000 in
/-- A frame among the cells. -/
theorem c_frame {x : DataW H × List MemPlace} {held : Bool} {fuel : Nat} (h : trodT enc Tryd.prog w held fuel 40 cs = some x) :
    ∃ y : FrV, cs = y.c ∧ (y.u.oneCell' = true ∧ y.v.oneCell' = true ∧ y.w.oneCell' = true) ∧ (i64s y.f.a.l ∧ i64s y.f.b.l ∧ i64s y.f.c.l) ∧ (y.f.a.l.length ≤ maxLen ∧ y.f.b.l.length ≤ maxLen ∧ y.f.c.l.length ≤ maxLen) ∧ (∀ A ∈ frR [y], ∃ F, A.P w F) ∧ nums y.f ≤ Rows.uptoBulk x.1 := by
  obtain ⟨ys, n, _, hx, hl, hn, hg⟩ := DataW.trod_struct Tryd.underlying40 h
  have hc : Tryd.prog.cellsOf 40 = 9 := by kernel_rfl
  have ha : Tryd.prog.cellsOf 38 = 9 := by kernel_rfl
  have hp : Tryd.prog.cellsOf 37 = 3 := by kernel_rfl
  rw [hc] at hl
  match cs, hl with
  | [c0, c1, c2, c3, c4, c5, c6, c7, c8], _ =>
    match ys, hn with
    | [y0], _ =>
      have g0 : trodT enc Tryd.prog w held n 38 (([c0, c1, c2, c3, c4, c5, c6, c7, c8].drop 0).take (Tryd.prog.cellsOf 38)) = [y0][0]? := hg 0 _ rfl
      simp only [ha, List.drop_zero, List.drop_succ_cons, List.take_succ_cons, List.take_zero, List.getElem?_cons_zero, List.getElem?_cons_succ] at g0
      obtain ⟨zs, m, _, hz, _, hzl, hgz⟩ := DataW.trod_array Tryd.underlying38 g0
      match zs, hzl with
      | [z0, z1, z2], _ =>
        have k0 := hgz 0 (by decide)
        have k1 := hgz 1 (by decide)
        have k2 := hgz 2 (by decide)
        simp only [hp, Nat.zero_mul, Nat.one_mul, List.drop_zero, List.drop_succ_cons, List.take_succ_cons, List.take_zero, List.getElem?_cons_zero, List.getElem?_cons_succ] at k0 k1 k2
        obtain ⟨p0, v0, e0, o0, F0, _, _, i0, m0⟩ := c_plane k0
        obtain ⟨p1, v1, e1, o1, F1, _, _, i1, m1⟩ := c_plane k1
        obtain ⟨p2, v2, e2, o2, F2, _, _, i2, m2⟩ := c_plane k2
        simp only [plC, List.cons.injEq, and_true] at e0 e1 e2
        obtain ⟨rfl, rfl, rfl⟩ := e0
        obtain ⟨rfl, rfl, rfl⟩ := e1
        obtain ⟨rfl, rfl, rfl⟩ := e2
        have b0 : p0.l.length ≤ Rows.uptoBulk z0.1 := by obtain ⟨a, c, rfl⟩ := len_of_rd F0; exact bulk_plane k0
        have b1 : p1.l.length ≤ Rows.uptoBulk z1.1 := by obtain ⟨a, c, rfl⟩ := len_of_rd F1; exact bulk_plane k1
        have b2 : p2.l.length ≤ Rows.uptoBulk z2.1 := by obtain ⟨a, c, rfl⟩ := len_of_rd F2; exact bulk_plane k2
        have hb : Rows.uptoBulk z0.1 + Rows.uptoBulk z1.1 + Rows.uptoBulk z2.1 ≤ Rows.uptoBulk x.1 := by
          rw [hx]
          have e : y0.1 = .agg [z0.1, z1.1, z2.1] := by rw [hz]; rfl
          have := bulk_agg (ys := [y0]) (j := 0) rfl
          rw [e] at this
          simp only [Rows.uptoBulk, Rows.uptoBulkAll] at this ⊢
          omega
        refine ⟨⟨⟨p0, p1, p2⟩, c2, c5, c8⟩, rfl, ⟨o0, o1, o2⟩, ⟨i0, i1, i2⟩, ⟨m0, m1, m2⟩, fun A hA => ?_, by show p0.l.length + p1.l.length + p2.l.length ≤ _; omega⟩
        simp only [frR, List.flatMap_cons, List.flatMap_nil, List.append_nil, List.mem_cons, List.not_mem_nil, or_false] at hA
        rcases hA with rfl | rfl | rfl
        · exact F0
        · exact F1
        · exact F2
theorem bulk_map {n : Nat} (D : Nat → DataW H) (g : Nat → FrV) (h : ∀ i, i < n → nums (g i).f ≤ Rows.uptoBulk (D i)) : sumN ((List.range n).map g) ≤ Rows.uptoBulkAll ((List.range n).map D) := by
  induction n with
  | zero => simp [sumN]
  | succ n ih =>
    have h1 := ih fun i hi => h i (by omega)
    have h2 := h n (by omega)
    rw [List.range_succ, List.map_append, List.map_append, sumN_append, bulks.append]
    simp only [List.map_cons, List.map_nil, sumN, Rows.uptoBulkAll]; omega
set_option maxRecDepth 100000 in
/-- A film among the cells. -/
theorem c_film {x : DataW H × List MemPlace} {held : Bool} {fuel : Nat} {a : Option Addr} {n c : Nat} (h : trodT enc Tryd.prog w held fuel 45 [.slice a n c] = some x) (hb : Rows.uptoBulk x.1 ≤ 1048576) :
    ∃ l : List FrV, l.length = n ∧ (∀ y ∈ l, y.ok) ∧ sumN l ≤ 1048576 ∧ (∃ F, (rd 9 (.slice a n c) l.length (frsC l)).P w F) ∧ (∀ A ∈ frR l, ∃ F, A.P w F) ∧ n ≤ 1048576 := by
  have hn := bulk_slice Tryd.underlying45 h rfl
  have h9 : Tryd.prog.cellsOf 40 = 9 := by kernel_rfl
  rcases open_slice Tryd.underlying45 h with ⟨hc, _⟩ | ⟨a', len, cap, m, k, D, Pl, hc, _, hl, hm, hmm, rfl, hi⟩
  · simp only [List.cons.injEq, Value.slice.injEq, and_true] at hc
    obtain ⟨rfl, rfl, rfl⟩ := hc
    exact ⟨[], rfl, fun y hy => (by cases hy), Nat.zero_le _, ⟨fun _ => False, rfl, none, 0, ⟨rfl, Nat.le_refl _⟩, .inl rfl, fun b hb => hb.elim⟩, fun A hA => (by cases hA), Nat.zero_le _⟩
  · simp only [List.cons.injEq, Value.slice.injEq, and_true] at hc
    obtain ⟨rfl, rfl, rfl⟩ := hc
    simp only [if_true] at hmm
    subst hmm
    have key : ∀ i, i < n → ∃ y : FrV, (∀ j u, y.c[j]? = some u → w.cell? (a'.add (i * 9 + j)) = some u) ∧ y.ok ∧ (∀ A ∈ frR [y], ∃ F, A.P w F) ∧ nums y.f ≤ Rows.uptoBulk (D i) := fun i hin => by
      obtain ⟨cs', h1, h2⟩ := hi i (by omega)
      obtain ⟨y, rfl, ho, hf, _, hF, hbk⟩ := c_frame h2
      rw [h9] at h1
      obtain ⟨_, h3, h4⟩ := World.cells?_some h1
      have hDi : Rows.uptoBulk (D i) ≤ 1048576 := by
        have := bulks.part_le (List.mem_map_of_mem (f := D) (List.mem_range.2 hin))
        simp only [Rows.uptoBulk] at hb; omega
      have hbk' : nums y.f ≤ Rows.uptoBulk (D i) := hbk
      have hnu : y.f.a.l.length + y.f.b.l.length + y.f.c.l.length ≤ Rows.uptoBulk (D i) := hbk
      refine ⟨y, fun j u hj => ?_, ⟨ho, ⟨by omega, by omega, by omega⟩, hf⟩, hF, hbk⟩
      have hjl : j < 9 := by have := (List.getElem?_eq_some_iff.1 hj).1; exact this
      rw [← Go.Deep.add_add, h4 j hjl, hj]
    have hg : ∃ g : Nat → FrV, ∀ i, i < n → (∀ j u, (g i).c[j]? = some u → w.cell? (a'.add (i * 9 + j)) = some u) ∧ (g i).ok ∧ (∀ A ∈ frR [g i], ∃ F, A.P w F) ∧ nums (g i).f ≤ Rows.uptoBulk (D i) :=
      ⟨fun i => if h : i < n then Classical.choose (key i h) else ⟨zeroF, .slice none 0 0, .slice none 0 0, .slice none 0 0⟩, fun i h => by simp only [h, dif_pos]; exact Classical.choose_spec (key i h)⟩
    obtain ⟨g, hg⟩ := hg
    have hlen : ((List.range n).map g).length = n := by simp
    have hsum := bulk_map D g fun i h => (hg i h).2.2.2
    have hmem : ∀ y ∈ (List.range n).map g, ∃ i, i < n ∧ g i = y := fun y hy => by
      obtain ⟨i, hi, rfl⟩ := List.mem_map.1 hy
      exact ⟨i, List.mem_range.1 hi, rfl⟩
    refine ⟨(List.range n).map g, hlen, fun y hy => ?_, ?_, ?_, fun A hA => ?_, by omega⟩
    · obtain ⟨i, hi, rfl⟩ := hmem y hy
      exact (hg i hi).2.1
    · simp only [Rows.uptoBulk] at hb; omega
    · rcases Nat.eq_zero_or_pos n with h0 | h0
      · exact ⟨fun _ => False, by rw [frsC_length], some a', _, ⟨by rw [hlen], by omega⟩, .inl (by rw [hlen]; exact h0), fun b hb => hb.elim⟩
      · have hcell : ∀ q u, (frsC ((List.range n).map g))[q]? = some u → w.cell? (a'.add q) = some u := fun q u hq => by
          have hql : q < n * 9 := by
            have := (List.getElem?_eq_some_iff.1 hq).1
            rwa [frsC_length, hlen] at this
          have hqi : q / 9 < n := by omega
          have h5 := frsC_sub ((List.range n).map g) (j := q / 9) (by rw [hlen]; exact hqi)
          have h6 : (((frsC ((List.range n).map g)).drop (q / 9 * 9)).take 9)[q % 9]? = some u := by
            rw [List.getElem?_take, if_pos (Nat.mod_lt _ (by decide)), List.getElem?_drop, show q / 9 * 9 + q % 9 = q by omega, hq]
          rw [h5] at h6
          have h7 := (hg (q / 9) hqi).1 (q % 9) u (by simpa using h6)
          rwa [show q / 9 * 9 + q % 9 = q by omega] at h7
        have h0' := hcell 0 ((g 0).c.getD 0 .nilIface) (by
          have h5 := frsC_sub ((List.range n).map g) (j := 0) (by rw [hlen]; exact h0)
          have h6 : (((frsC ((List.range n).map g)).drop (0 * 9)).take 9)[0]? = some ((g 0).c.getD 0 .nilIface) := by rw [h5, List.getElem_map, List.getElem_range]; rfl
          rw [List.getElem?_take, if_pos (by decide), List.getElem?_drop] at h6
          simpa using h6)
        have h8 := World.cell?_spot h0'
        have h9 : a'.add 0 = a' := by simp [Addr.add]
        rw [h9] at h8 h0'
        obtain ⟨bb, oo, pp⟩ := a'
        simp only at h8; subst h8
        refine ⟨fun b => b = bb, by rw [frsC_length], some ⟨bb, oo, none⟩, _, ⟨by rw [hlen], by omega⟩, .inr ⟨bb, oo, rfl, fun q u hq => ?_, rfl⟩, fun b hb => ?_⟩
        · rw [← add_eq]; exact hcell q u hq
        · subst hb; exact lt_of_cell h0'
    · obtain ⟨y, hy, hA'⟩ := List.mem_flatMap.1 hA
      obtain ⟨i, hi, rfl⟩ := hmem y hy
      exact (hg i hi).2.2.1 A (by simpa [frR] using hA')
theorem shrAll_of {Ls : List As} (h : ∀ A ∈ Ls, ∃ F, A.P w F) : ∃ F, (shrAll Ls).P w F :=
  ⟨fun b => b < w.heap.size, fun A hA => let ⟨G, g⟩ := h A hA; ⟨G, g, fun b hb => A.lt g b hb⟩, fun b hb => hb⟩
end
end Go.Proofs.YtoiebfpafdcbmaaDoor
