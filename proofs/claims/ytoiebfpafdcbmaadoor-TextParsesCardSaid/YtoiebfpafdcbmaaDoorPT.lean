/- Plain law of texts: rows, planes. No program in sight. -/
import Derived.Test.YtoiebfpafdcbmaaDoorC2
import Derived.Lib.ItoaLen
namespace Go.Proofs.YtoiebfpafdcbmaaDoor
open Go
set_option linter.unusedVariables false
set_option linter.unusedSimpArgs false

theorem getD_mem {l : List Int} {j : Nat} (h : j < l.length) : l.getD j 0 ∈ l := by simp [List.getD, h]
/-- What stands between numbers. -/
def sepB (j : Nat) : List UInt8 := if j = 0 then [] else [32]
/-- Numbers with blanks between. -/
def rowB : List Int → List UInt8
  | [] => []
  | x :: r => Lib.itoa x ++ r.flatMap fun y => 32 :: Lib.itoa y
def rowS (l : List Int) : List UInt8 := rowB l ++ [10]
theorem rowB_snoc (l : List Int) (x : Int) : rowB (l ++ [x]) = rowB l ++ sepB l.length ++ Lib.itoa x := by
  cases l with
  | nil => simp [rowB, sepB]
  | cons y r => simp [rowB, sepB]
theorem rowB_take_succ (l : List Int) {j : Nat} (h : j < l.length) : rowB (l.take (j + 1)) = rowB (l.take j) ++ sepB j ++ Lib.itoa (l.getD j 0) := by
  rw [List.take_succ_eq_append_getElem h, rowB_snoc, List.length_take, Nat.min_eq_left (by omega)]
  simp [List.getD, h]
theorem itoa_le {x : Int} (h : i64 x) : (Lib.itoa x).length ≤ 21 := Lib.itoa_length_le x h.1 h.2
theorem rowB_le : ∀ (l : List Int), i64s l → (rowB l).length ≤ 22 * l.length
  | [], _ => by simp [rowB]
  | x :: r, h => by
    have h1 := itoa_le (h x List.mem_cons_self)
    have h2 : (r.flatMap fun y => 32 :: Lib.itoa y).length ≤ 22 * r.length := by
      have hr : i64s r := fun y hy => h y (List.mem_cons_of_mem _ hy)
      clear h h1
      induction r with
      | nil => simp
      | cons y r ih =>
        have := itoa_le (hr y List.mem_cons_self)
        have := ih fun z hz => hr z (List.mem_cons_of_mem _ hz)
        simp only [List.flatMap_cons, List.length_append, List.length_cons]; omega
    simp only [rowB, List.length_append, List.length_cons]; omega
theorem rowB_take_le (l : List Int) (j : Nat) (h : i64s l) : (rowB (l.take j)).length ≤ 22 * l.length := by
  have := rowB_le (l.take j) fun x hx => h x (List.mem_of_mem_take hx)
  rw [List.length_take] at this; omega
theorem rowS_le (l : List Int) (h : i64s l) : (rowS l).length ≤ 22 * l.length + 1 := by
  have := rowB_le l h
  simp only [rowS, List.length_append, List.length_cons, List.length_nil]; omega

/-- A plane's first line. -/
def headS (p : Pl) : List UInt8 := [112, 108, 97, 110, 101, 32] ++ rowS [p.w, p.h]
/-- Its first i rows. -/
def rowsS (p : Pl) (i : Nat) : List UInt8 := (List.range i).flatMap fun y => rowS (p.row y)
theorem rowsS_succ (p : Pl) (i : Nat) : rowsS p (i + 1) = rowsS p i ++ rowS (p.row i) := by simp [rowsS, List.range_succ]
/-- A plane as a text. -/
def planeS (p : Pl) : List UInt8 := if p.right then headS p ++ rowsS p p.h.toNat else []
theorem rowsS_le (p : Pl) (hp : p.right = true) (h : i64s p.l) (i : Nat) (hi : i ≤ p.h.toNat) : (rowsS p i).length ≤ 23 * 1048576 := by
  obtain ⟨h1, h2, h3⟩ := Pl.right_iff.1 hp
  have key : ∀ i, i ≤ p.h.toNat → (rowsS p i).length ≤ i * (22 * p.w.toNat + 1) := by
    intro i
    induction i with
    | zero => intro _; simp [rowsS]
    | succ i ih =>
      intro hi
      have := ih (by omega)
      have h4 := rowS_le (p.row i) (i64s_row h i)
      rw [Pl.row_length hp (by omega)] at h4
      rw [rowsS_succ, List.length_append, Nat.succ_mul]
      omega
  have := key i hi
  have h5 : i * (22 * p.w.toNat + 1) ≤ 1024 * (22 * 1024 + 1) := Nat.mul_le_mul (by omega) (by omega)
  omega

theorem planeS_le (p : Pl) (h : i64s p.l) : (planeS p).length ≤ 25 * 1048576 := by
  unfold planeS
  split
  · rename_i hp
    obtain ⟨h1, h2, h3⟩ := Pl.right_iff.1 hp
    have h4 := rowsS_le p hp h p.h.toNat (Nat.le_refl _)
    have h5 := rowS_le [p.w, p.h] (fun x hx => by simp at hx; rcases hx with rfl | rfl <;> omega)
    simp only [headS, List.length_append, List.length_cons, List.length_nil] at h5 ⊢; omega
  · simp
/-- A frame as a text. -/
def frameS (f : Fr) : List UInt8 := if planeS f.a = [] ∨ planeS f.b = [] ∨ planeS f.c = [] then [] else planeS f.a ++ planeS f.b ++ planeS f.c
theorem frameS_a {f : Fr} (h : planeS f.a = []) : frameS f = [] := by rw [frameS, if_pos (.inl h)]
theorem frameS_b {f : Fr} (h : planeS f.b = []) : frameS f = [] := by rw [frameS, if_pos (.inr (.inl h))]
theorem frameS_c {f : Fr} (h : planeS f.c = []) : frameS f = [] := by rw [frameS, if_pos (.inr (.inr h))]
theorem frameS_yes {f : Fr} (h1 : ¬ planeS f.a = []) (h2 : ¬ planeS f.b = []) (h3 : ¬ planeS f.c = []) : frameS f = [] ++ planeS f.a ++ planeS f.b ++ planeS f.c := by
  rw [frameS, if_neg (by simp [h1, h2, h3])]; simp

theorem frameS_le (f : Fr) (h : i64s f.a.l ∧ i64s f.b.l ∧ i64s f.c.l) : (frameS f).length ≤ 75 * 1048576 := by
  have h1 := planeS_le f.a h.1
  have h2 := planeS_le f.b h.2.1
  have h3 := planeS_le f.c h.2.2
  unfold frameS; split
  · simp
  · simp only [List.length_append]; omega
/-! ### Pictures -/
def signs : List UInt8 := [32, 46, 58, 45, 61, 43, 42, 35, 37, 64]
def shadeI (m v : Int) : Nat := (min (max v 0) m * 10 / (m + 1)).toNat
def shadeB (m v : Int) : UInt8 := signs.getD (shadeI m v) 0
theorem shadeI_lt (m v : Int) (h : 1 ≤ m) : 0 ≤ min (max v 0) m * 10 / (m + 1) ∧ min (max v 0) m * 10 / (m + 1) < (signs.length : Nat) := by
  have hx : 0 ≤ min (max v 0) m ∧ min (max v 0) m ≤ m := by omega
  generalize min (max v 0) m = x at hx
  refine ⟨Int.ediv_nonneg (by omega) (by omega), ?_⟩
  show _ < (10 : Int)
  rw [Int.ediv_lt_iff_lt_mul (by omega)]; omega
/-- The first i rows of a picture. -/
def shadeR (p : Pl) (m : Int) (i : Nat) : List UInt8 := (List.range i).flatMap fun y => (p.row y).map (shadeB m) ++ [10]
theorem shadeR_succ (p : Pl) (m : Int) (i : Nat) : shadeR p m (i + 1) = shadeR p m i ++ ((p.row i).map (shadeB m) ++ [10]) := by simp [shadeR, List.range_succ]
def shadesS (p : Pl) (m : Int) : List UInt8 := if p.right = true ∧ 1 ≤ m ∧ m ≤ 65535 then shadeR p m p.h.toNat else []
theorem shadeR_le (p : Pl) (m : Int) (hp : p.right = true) (i : Nat) (hi : i ≤ p.h.toNat) : (shadeR p m i).length ≤ 2 * 1048576 := by
  obtain ⟨h1, h2, h3⟩ := Pl.right_iff.1 hp
  have key : ∀ i, i ≤ p.h.toNat → (shadeR p m i).length ≤ i * (p.w.toNat + 1) := by
    intro i
    induction i with
    | zero => intro _; simp [shadeR]
    | succ i ih =>
      intro hi
      have := ih (by omega)
      have h4 := Pl.row_length hp (y := i) (by omega)
      rw [shadeR_succ, List.length_append, List.length_append, List.length_map, h4, Nat.succ_mul]
      simp; omega
  have := key i hi
  have h5 : i * (p.w.toNat + 1) ≤ 1024 * (1024 + 1) := Nat.mul_le_mul (by omega) (by omega)
  omega
theorem map_take_succ {α : Type} (f : Int → α) (l : List Int) {j : Nat} (h : j < l.length) : (l.take (j + 1)).map f = (l.take j).map f ++ [f (l.getD j 0)] := by
  rw [List.take_succ_eq_append_getElem h, List.map_append]; simp [List.getD, h]
end Go.Proofs.YtoiebfpafdcbmaaDoor
