/- Plain law of texts: what must be answered ahead; pictures. No program in sight. -/
import Derived.Test.YtoiebfpafdcbmaaDoorPV
namespace Go.Proofs.YtoiebfpafdcbmaaDoor
open Go
set_option linter.unusedVariables false
set_option linter.unusedSimpArgs false

/-! ### What must be answered, ahead of everything else -/
abbrev pl0 : Pl := ⟨2, 1, [5, -1]⟩
theorem pl0_right : pl0.right = true := by decide
theorem pl0_fit : i64s pl0.l := fun x hx => by simp [pl0] at hx; rcases hx with rfl | rfl <;> omega
theorem dec_lt10 {u : Nat} (h : u < 10) : Lib.decDigits u = [UInt8.ofNat (48 + u)] := by rw [Lib.decDigits, dif_pos h]
theorem itoa_small {n : Int} (h : 0 ≤ n ∧ n < 10) : Lib.itoa n = [UInt8.ofNat (48 + n.toNat)] := by rw [Lib.itoa, if_neg (by omega), dec_lt10 (by omega)]
theorem itoa_neg1 : Lib.itoa (-1) = [45, 49] := by rw [Lib.itoa, if_pos (by omega)]; rw [dec_lt10 (by decide)]; rfl
theorem pl0_text : planeS pl0 = [112, 108, 97, 110, 101, 32, 50, 32, 49, 10, 53, 32, 45, 49, 10] := by
  have h1 : rowB [2, 1] = [50, 32, 49] := by simp only [rowB, List.flatMap_cons, List.flatMap_nil, itoa_small (n := 2) (by omega), itoa_small (n := 1) (by omega)]; rfl
  have h2 : rowB [5, -1] = [53, 32, 45, 49] := by simp only [rowB, List.flatMap_cons, List.flatMap_nil, itoa_small (n := 5) (by omega), itoa_neg1]; rfl
  have h3 : rowsS pl0 1 = rowB [5, -1] ++ [10] := by simp [rowsS, List.range_succ, rowS, Pl.row, pl0]
  have h4 : headS pl0 = [112, 108, 97, 110, 101, 32] ++ (rowB [2, 1] ++ [10]) := rfl
  rw [planeS, pl0_right, if_pos rfl]
  show headS pl0 ++ rowsS pl0 1 = _
  rw [h3, h4, h1, h2]; rfl
theorem oneP_right (n : Int) : (oneP n).right = true := Pl.right_iff.2 ⟨by simp [oneP], by simp [oneP], by simp [oneP]⟩
theorem oneF_right (n : Int) : (oneF n).right = true := by simp [Fr.right, oneF, oneP_right]
theorem oneF_fit (n : Int) (h : -9223372036854775808 ≤ n ∧ n ≤ 9223372036854775800) : (oneF n).fit := by
  refine ⟨?_, ?_, ?_⟩ <;> (intro x hx; simp [oneF, oneP] at hx; omega)
theorem headS_len (p : Pl) : 7 ≤ (headS p).length := by simp [headS, rowS]
theorem frameS_len {f : Fr} (h : f.right = true) : 21 ≤ (frameS f).length := by
  have hh := h
  rw [frameS_right h]
  simp only [Fr.right, Bool.and_eq_true] at hh
  have h1 := headS_len f.a; have h2 := headS_len f.b; have h3 := headS_len f.c
  simp only [planeS, hh.1.1, hh.1.2, hh.2, if_true, List.length_append]; omega
theorem pl0_shades : shadesS pl0 9 = [43, 32, 10] := by decide
/-! ### Pictures -/
/-- Which sign it is. -/
def whereI (c : UInt8) : Int := if c ∈ signs then (signs.idxOf c : Int) else -1
theorem where_sign {k : Nat} (h : k < 10) : whereI (signs.getD k 0) = k := by
  have : ∀ k : Fin 10, whereI (signs.getD k.1 0) = (k.1 : Int) := by decide
  exact this ⟨k, h⟩
theorem shade_eq (m v : Int) (h : 1 ≤ m) : whereI (shadeB m v) = shadeI m v ∧ 0 ≤ min (max v 0) m * 10 / (m + 1) := by
  have := shadeI_lt m v h
  have hk : shadeI m v < 10 := by
    have e : signs.length = 10 := rfl
    rw [e] at this
    unfold shadeI; omega
  exact ⟨where_sign hk, this.1⟩
theorem shade_low {m v : Int} (h : 1 ≤ m) (hv : v ≤ 0) : shadeI m v = 0 := by
  unfold shadeI
  rw [show min (max v 0) m = 0 by omega]; simp
theorem shade_high {m v : Int} (h : 9 ≤ m) (hv : m ≤ v) : shadeI m v = 9 := by
  unfold shadeI
  rw [show min (max v 0) m = m by omega]
  have : m * 10 / (m + 1) = 9 := by
    have h1 : (m + 1) * 9 ≤ m * 10 := by omega
    have h2 : m * 10 < (m + 1) * 10 := by omega
    have e1 : 9 ≤ m * 10 / (m + 1) := (Int.le_ediv_iff_mul_le (by omega)).2 (by rw [Int.mul_comm]; exact h1)
    have e2 : m * 10 / (m + 1) < 10 := Int.ediv_lt_of_lt_mul (by omega) (by omega)
    omega
  rw [this]; rfl
theorem shade_mono {m v u : Int} (h : 1 ≤ m) (hv : u ≤ v) : shadeI m u ≤ shadeI m v := by
  unfold shadeI
  apply Int.toNat_le_toNat
  exact Int.ediv_le_ediv (by omega) (by omega)
theorem shadeR_len {p : Pl} (m : Int) (hp : p.right = true) : ∀ i, i ≤ p.h.toNat → (shadeR p m i).length = i * (p.w.toNat + 1)
  | 0, _ => by simp [shadeR]
  | i + 1, hi => by
    rw [shadeR_succ, List.length_append, shadeR_len m hp i (by omega), List.length_append, List.length_map, Pl.row_length hp hi, Nat.succ_mul]; rfl
theorem shadeR_at {p : Pl} (m : Int) (hp : p.right = true) : ∀ k, k ≤ p.h.toNat → ∀ y x, y < k → x < p.w.toNat → (shadeR p m k).getD (y * (p.w.toNat + 1) + x) 0 = shadeB m (p.l.getD (y * p.w.toNat + x) 0)
  | 0, _, _, _, hy, _ => absurd hy (Nat.not_lt_zero _)
  | k + 1, hk, y, x, hy, hx => by
    rw [shadeR_succ]
    have hl := shadeR_len m hp k (by omega)
    by_cases e : y < k
    · have : y * (p.w.toNat + 1) + x < (shadeR p m k).length := by
        rw [hl]
        have : (y + 1) * (p.w.toNat + 1) ≤ k * (p.w.toNat + 1) := Nat.mul_le_mul_right _ e
        rw [Nat.succ_mul] at this; omega
      have hh := shadeR_at m hp k (by omega) y x e hx
      rw [← hh]
      simp only [List.getD_eq_getElem?_getD]
      rw [List.getElem?_append_left this]
    · obtain rfl : y = k := by omega
      have hr := Pl.row_length hp (y := y) (by omega)
      have hb := Pl.row_bound hp (y := y) (by omega)
      rw [Nat.succ_mul] at hb
      simp only [List.getD_eq_getElem?_getD]
      rw [List.getElem?_append_right (by rw [hl]; omega), hl, show y * (p.w.toNat + 1) + x - y * (p.w.toNat + 1) = x by omega, List.getElem?_append_left (by rw [List.length_map, hr]; exact hx)]
      rw [List.getElem?_map, Pl.row, List.getElem?_take, if_pos hx, List.getElem?_drop, List.getElem?_eq_getElem (by omega)]
      rfl
theorem prev_facts {j w : Nat} (h : 0 < j % w) (hw : 0 < w) : (j - 1) / w = j / w ∧ (j - 1) % w = j % w - 1 := by
  have h1 := Nat.div_add_mod j w
  have h2 := Nat.mod_lt j hw
  have e : j - 1 = j % w - 1 + w * (j / w) := by omega
  rw [e]
  constructor
  · rw [Nat.add_mul_div_left _ _ hw, Nat.div_eq_of_lt (by omega), Nat.zero_add]
  · rw [Nat.add_mul_mod_self_left, Nat.mod_eq_of_lt (by omega)]
end Go.Proofs.YtoiebfpafdcbmaaDoor
