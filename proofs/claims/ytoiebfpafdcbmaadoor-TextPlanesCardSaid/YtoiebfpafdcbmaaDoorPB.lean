/- Plain law: films of which some frames are no right frames; how long their texts are. -/
import Derived.Test.YtoiebfpafdcbmaaDoorL1
namespace Go.Proofs.YtoiebfpafdcbmaaDoor
open Go Go.RowKit K
set_option linter.unusedVariables false
set_option linter.unusedSimpArgs false

theorem K.OpQ.len_g {P : Program} {X : Cx} {E : List (Nat × Value)} {L M : List As} {d : Nat} {ty : TypeId} {pos : String} {af : Array Edge} {x : Operand} {t e sz bs : TypeId} {v : Value} {n : Nat} {A : As} [SliceTy P t e sz bs] (hv : evalO E x = some v) (hg : Gives L M A) (hl : A.lens v n) :
    OpQ P X ⟨some d, .call ⟨.builtin .len, #[x], #[t]⟩, ty, pos, af, none⟩ E L M (.int .i64 n) :=
  .of fun a ha w hw => by
    obtain ⟨B, hi, hk⟩ := hg
    obtain ⟨G, hG⟩ := hw.of_inn hi
    obtain ⟨G', hG', _⟩ := hk w G hG
    obtain ⟨ad, c, rfl⟩ := hl w G' hG'
    obtain ⟨i, z, hu, _⟩ := SliceTy.out P t
    simp [execOp, resolve, invoke, builtin, Builtin.len_, ha.eval hv, run_underlying hu, goInt]
theorem rowsS_le2 (p : Pl) (hp : p.right = true) (h : i64s p.l) : (rowsS p p.h.toNat).length ≤ 23 * p.l.length := by
  obtain ⟨h1, h2, h3⟩ := Pl.right_iff.1 hp
  have key : ∀ i, i ≤ p.h.toNat → (rowsS p i).length ≤ i * (22 * p.w.toNat + 1) := by
    intro i
    induction i with
    | zero => intro _; simp [rowsS]
    | succ i ih =>
      intro hi
      have := ih (by omega)
      have h4 := rowS_le (p.row i) (i64s_row h i)
      rw [Pl.row_length hp (by omega)] at h4
      rw [rowsS_succ, List.length_append, Nat.succ_mul]
      omega
  have h4 := key _ (Nat.le_refl _)
  have h5 : p.l.length = p.h.toNat * p.w.toNat := by
    have : ((p.h.toNat * p.w.toNat : Nat) : Int) = p.w * p.h := by
      rw [Int.natCast_mul, Int.toNat_of_nonneg (by omega), Int.toNat_of_nonneg (by omega), Int.mul_comm]
    omega
  have h6 : p.h.toNat * (22 * p.w.toNat + 1) ≤ p.h.toNat * (23 * p.w.toNat) := Nat.mul_le_mul_left _ (by omega)
  have h7 : p.h.toNat * (23 * p.w.toNat) = 23 * (p.h.toNat * p.w.toNat) := by rw [Nat.mul_left_comm]
  omega
theorem len_pos {p : Pl} (hp : p.right = true) : 1 ≤ p.l.length := by
  obtain ⟨h1, h2, h3⟩ := Pl.right_iff.1 hp
  have : 1 * 1 ≤ p.w * p.h := Int.mul_le_mul h1.1 h2.1 (by omega) (by omega)
  omega
theorem planeS_le2 (p : Pl) (h : i64s p.l) : (planeS p).length ≤ 74 * p.l.length := by
  unfold planeS
  split
  · rename_i hp
    obtain ⟨h1, h2, h3⟩ := Pl.right_iff.1 hp
    have h4 := rowsS_le2 p hp h
    have h6 := len_pos hp
    have h5 := rowS_le [p.w, p.h] (fun x hx => by simp at hx; rcases hx with rfl | rfl <;> omega)
    simp only [headS, List.length_append, List.length_cons, List.length_nil] at h5 ⊢; omega
  · simp
def nums (f : Fr) : Nat := f.a.l.length + f.b.l.length + f.c.l.length
theorem frameS_le2 (f : Fr) (h : i64s f.a.l ∧ i64s f.b.l ∧ i64s f.c.l) : (frameS f).length ≤ 74 * nums f := by
  have h1 := planeS_le2 f.a h.1
  have h2 := planeS_le2 f.b h.2.1
  have h3 := planeS_le2 f.c h.2.2
  unfold frameS nums; split
  · simp
  · simp only [List.length_append]; omega
/-- How many numbers the frames have. -/
def sumN : List FrV → Nat
  | [] => 0
  | x :: l => nums x.f + sumN l
theorem sumN_append (l k : List FrV) : sumN (l ++ k) = sumN l + sumN k := by
  induction l with
  | nil => simp [sumN]
  | cons x l ih => simp [sumN, ih, Nat.add_assoc]
theorem sumN_take (l : List FrV) {j : Nat} (h : j < l.length) : sumN (l.take (j + 1)) = sumN (l.take j) + nums l[j].f := by
  rw [List.take_succ_eq_append_getElem h, sumN_append]; simp [sumN]
theorem sumN_take_le (l : List FrV) (j : Nat) : sumN (l.take j) ≤ sumN l := by
  have : sumN l = sumN (l.take j) + sumN (l.drop j) := by rw [← sumN_append, List.take_append_drop]
  omega
theorem filmS_le2 (l : List FrV) (h : ∀ x ∈ l, x.ok) : (filmS l).length ≤ 74 * sumN l := by
  induction l with
  | nil => simp [filmS]
  | cons x l ih =>
    have h1 := ih fun y hy => h y (List.mem_cons_of_mem _ hy)
    have h2 := frameS_le2 x.f (h x (by simp)).fit
    simp only [filmS, List.flatMap_cons, List.length_append, sumN] at h1 ⊢; omega
/-- The right frames of a film. -/
def rights (l : List FrV) : List FrV := l.filter fun x => x.f.right
theorem rights_yes (l : List FrV) {j : Nat} (h : j < l.length) (hr : l[j].f.right = true) : rights (l.take (j + 1)) = rights (l.take j) ++ [l[j]] := by
  rw [List.take_succ_eq_append_getElem h, rights, List.filter_append]; simp [hr, rights]
theorem rights_no (l : List FrV) {j : Nat} (h : j < l.length) (hr : l[j].f.right = false) : rights (l.take (j + 1)) = rights (l.take j) := by
  rw [List.take_succ_eq_append_getElem h, rights, List.filter_append]; simp [hr, rights]
theorem rights_le (l : List FrV) (j : Nat) : (rights (l.take j)).length ≤ j := by
  have h1 : (rights (l.take j)).length ≤ (l.take j).length := List.length_filter_le _ _
  have h2 := List.length_take_le j l
  omega
theorem rights_mem {l : List FrV} {x : FrV} (h : x ∈ rights l) : x ∈ l ∧ x.f.right = true := by
  simpa [rights] using h
theorem filmS_rights (l : List FrV) : filmS l = filmT ((rights l).map (·.f)) := by
  induction l with
  | nil => rfl
  | cons x l ih =>
    cases hr : x.f.right
    · have : frameS x.f = [] := (frameS_nil _).2 hr
      simp only [filmS, List.flatMap_cons, this, List.nil_append, rights, List.filter_cons, hr] at ih ⊢
      exact ih
    · simp only [filmS, List.flatMap_cons, rights, List.filter_cons, hr, if_true, filmT, List.map_cons] at ih ⊢
      rw [ih]
theorem rights_film (l : List FrV) (h : ∀ x ∈ l, x.ok) : parseFilm (filmS l) = ((rights l).map (·.f), (filmS l).length) := by
  rw [filmS_rights]
  have := parse_film ((rights l).map (·.f)) [] (fun f hf => by
    obtain ⟨x, hx, rfl⟩ := List.mem_map.1 hf
    exact ⟨(rights_mem hx).2, (h x (rights_mem hx).1).fit⟩) (by simp)
  rw [List.append_nil] at this
  exact this
theorem mem_frR {l : List FrV} {x : FrV} (h : x ∈ l) : plR x.f.a x.u ∈ frR l ∧ plR x.f.b x.v ∈ frR l ∧ plR x.f.c x.w ∈ frR l := by
  refine ⟨?_, ?_, ?_⟩ <;> exact List.mem_flatMap.2 ⟨_, h, by simp⟩
theorem frS_gives {l : List FrV} {j : Nat} (h : j < l.length) : (plS l[j].f.a l[j].u ∈ frS l ∧ plS l[j].f.b l[j].v ∈ frS l ∧ plS l[j].f.c l[j].w ∈ frS l) := frS_mem h
end Go.Proofs.YtoiebfpafdcbmaaDoor
