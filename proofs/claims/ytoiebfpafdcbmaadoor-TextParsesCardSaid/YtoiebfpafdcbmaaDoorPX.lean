/- Plain law: texts made number by number are the texts made row by row; digits. -/
import Derived.Test.YtoiebfpafdcbmaaDoorPW
namespace Go.Proofs.YtoiebfpafdcbmaaDoor
open Go Go.RowKit K
set_option linter.unusedVariables false
set_option linter.unusedSimpArgs false

/-! ### A number's digits, from the last on -/
theorem dec_step {u : Nat} (h : 10 ≤ u) : Lib.decDigits u = Lib.decDigits (u / 10) ++ [UInt8.ofNat (48 + u % 10)] := by rw [Lib.decDigits, dif_neg (by omega)]
def digitsS : List UInt8 := [48, 49, 50, 51, 52, 53, 54, 55, 56, 57]
theorem digit_sub {d : Nat} (h : d < 10) : (digitsS.drop d).take (d + 1 - d) = [UInt8.ofNat (48 + d)] := by
  have : ∀ d, d < 10 → (digitsS.drop d).take (d + 1 - d) = [UInt8.ofNat (48 + d)] := by decide
  exact this d h
theorem itoa_abs (n : Int) : Lib.itoa n = if n < 0 then 45 :: Lib.decDigits n.natAbs else Lib.decDigits n.natAbs := by
  rw [Lib.itoa]; split
  · rfl
  · rw [show n.toNat = n.natAbs by omega]
theorem tmod_abs (m : Int) : (m.tmod 10).natAbs = m.natAbs % 10 := by rw [Int.natAbs_tmod]; rfl
theorem tdiv_abs (m : Int) : (m.tdiv 10).natAbs = m.natAbs / 10 := by rw [Int.natAbs_tdiv]; rfl
theorem dec_len (u : Nat) : 1 ≤ (Lib.decDigits u).length := by
  rw [Lib.decDigits]; split <;> simp

/-! ### Row by row, number by number -/
theorem range_split2 {α : Type} (g : Nat → List α) (h w : Nat) : (List.range (h * w)).flatMap g = (List.range h).flatMap fun y => (List.range w).flatMap fun x => g (y * w + x) := by
  induction h with
  | zero => simp
  | succ h ih =>
    rw [Nat.succ_mul, List.range_succ, List.flatMap_append, List.flatMap_singleton, ← ih]
    rw [List.range_add, List.flatMap_append, List.flatMap_map]
/-- Behind number i: a line's end, or a sign between. -/
def endB (mid : List UInt8) (w i : Nat) : List UInt8 := if (i + 1) % w = 0 then [10] else mid
def flatB (f : Int → List UInt8) (mid : List UInt8) (p : Pl) (j : Nat) : List UInt8 := (List.range j).flatMap fun i => f (p.l.getD i 0) ++ endB mid p.w.toNat i
theorem flatB_succ (f : Int → List UInt8) (mid : List UInt8) (p : Pl) (j : Nat) : flatB f mid p (j + 1) = flatB f mid p j ++ (f (p.l.getD j 0) ++ endB mid p.w.toNat j) := by
  rw [flatB, List.range_succ, List.flatMap_append, List.flatMap_singleton]; rfl
theorem right_len {p : Pl} (hp : p.right = true) : p.l.length = p.h.toNat * p.w.toNat := by
  obtain ⟨h1, h2, h3⟩ := Pl.right_iff.1 hp
  have : ((p.h.toNat * p.w.toNat : Nat) : Int) = p.w * p.h := by
    rw [Int.natCast_mul, Int.toNat_of_nonneg (by omega), Int.toNat_of_nonneg (by omega), Int.mul_comm]
  omega
theorem endB_at (mid : List UInt8) {w y x : Nat} (hx : x < w) : endB mid w (y * w + x) = if x + 1 = w then [10] else mid := by
  have e : (y * w + x + 1) % w = (x + 1) % w := by rw [Nat.add_assoc, Nat.mul_comm, Nat.mul_add_mod]
  rw [endB, e]
  rcases Nat.lt_or_ge (x + 1) w with h | h
  · rw [Nat.mod_eq_of_lt h, if_neg (by omega), if_neg (by omega)]
  · have : x + 1 = w := by omega
    rw [this, Nat.mod_self, if_pos rfl, if_pos rfl]
theorem row_getD {p : Pl} (hp : p.right = true) {y x : Nat} (hx : x < p.w.toNat) : (p.row y).getD x 0 = p.l.getD (y * p.w.toNat + x) 0 := by
  simp only [Pl.row, List.getD, List.getElem?_take, if_pos hx, List.getElem?_drop]
theorem flat_rows (f : Int → List UInt8) (mid : List UInt8) (R : List Int → List UInt8) {p : Pl} (hp : p.right = true)
    (hR : ∀ r : List Int, r.length = p.w.toNat → R r = (List.range p.w.toNat).flatMap fun x => f (r.getD x 0) ++ if x + 1 = p.w.toNat then [10] else mid) :
    (List.range p.h.toNat).flatMap (fun y => R (p.row y)) = flatB f mid p p.l.length := by
  have h : ∀ (l : List Nat) (g k : Nat → List UInt8), (∀ y ∈ l, g y = k y) → l.flatMap g = l.flatMap k := fun l g k e => by
    induction l with
    | nil => rfl
    | cons a l ih => rw [List.flatMap_cons, List.flatMap_cons, e a (by simp), ih fun y hy => e y (by simp [hy])]
  rw [flatB, right_len hp, range_split2]
  refine h _ _ _ fun y hy => ?_
  rw [hR _ (Pl.row_length hp (List.mem_range.1 hy))]
  refine h _ _ _ fun x hx => ?_
  have hx' := List.mem_range.1 hx
  rw [row_getD hp hx', endB_at mid hx']
theorem row_text {r : List Int} {w : Nat} (hw : 1 ≤ w) (hr : r.length = w) : rowS r = (List.range w).flatMap fun x => Lib.itoa (r.getD x 0) ++ if x + 1 = w then [10] else [32] := by
  have key : ∀ j, j < w → ((List.range j).flatMap fun x => Lib.itoa (r.getD x 0) ++ if x + 1 = w then [10] else [32]) = rowB (r.take j) ++ sepB j := by
    intro j
    induction j with
    | zero => intro _; simp [rowB, sepB]
    | succ j ih =>
      intro hj
      rw [List.range_succ, List.flatMap_append, List.flatMap_singleton, ih (by omega), rowB_take_succ r (by omega), if_neg (by omega)]
      simp [sepB]
  have h := key (w - 1) (by omega)
  have e : w = (w - 1) + 1 := by omega
  conv => rhs; rw [e]
  rw [List.range_succ, List.flatMap_append, List.flatMap_singleton, ← e, h, if_pos rfl, rowS]
  have h2 := rowB_take_succ r (j := w - 1) (by omega)
  rw [← e, List.take_of_length_le (by omega)] at h2
  rw [h2]; simp
theorem row_shade {r : List Int} {w : Nat} (m : Int) (hw : 1 ≤ w) (hr : r.length = w) : r.map (shadeB m) ++ [10] = (List.range w).flatMap fun x => [shadeB m (r.getD x 0)] ++ if x + 1 = w then [10] else [] := by
  have key : ∀ j, j < w → ((List.range j).flatMap fun x => [shadeB m (r.getD x 0)] ++ if x + 1 = w then [10] else []) = (r.take j).map (shadeB m) := by
    intro j
    induction j with
    | zero => intro _; simp
    | succ j ih =>
      intro hj
      rw [List.range_succ, List.flatMap_append, List.flatMap_singleton, ih (by omega), map_take_succ _ _ (by omega), if_neg (by omega)]
      simp
  have h := key (w - 1) (by omega)
  have e : w = (w - 1) + 1 := by omega
  conv => rhs; rw [e]
  rw [List.range_succ, List.flatMap_append, List.flatMap_singleton, ← e, h, if_pos rfl]
  have h2 := map_take_succ (shadeB m) r (j := w - 1) (by omega)
  rw [← e, List.take_of_length_le (by omega)] at h2
  rw [h2]; simp
def mid1 : List UInt8 := [32]
theorem plane_flat {p : Pl} (hp : p.right = true) : planeS p = headS p ++ flatB Lib.itoa mid1 p p.l.length := by
  obtain ⟨h1, _, _⟩ := Pl.right_iff.1 hp
  rw [planeS, if_pos hp, ← flat_rows Lib.itoa mid1 rowS hp (fun r hr => row_text (by omega) hr)]; rfl
theorem shade_flat {p : Pl} (m : Int) (hp : p.right = true) : shadeR p m p.h.toNat = flatB (fun v => [shadeB m v]) [] p p.l.length := by
  obtain ⟨h1, _, _⟩ := Pl.right_iff.1 hp
  rw [shadeR, ← flat_rows (fun v => [shadeB m v]) [] (fun r => r.map (shadeB m) ++ [10]) hp (fun r hr => row_shade m (by omega) hr)]
theorem flatB_le (p : Pl) (hz : i64s p.l) (j : Nat) (hj : j ≤ p.l.length) : (flatB Lib.itoa mid1 p j).length ≤ 22 * j := by
  induction j with
  | zero => simp [flatB]
  | succ j ih =>
    have h1 := ih (by omega)
    have h2 := itoa_le (hz _ (getD_mem (show j < p.l.length by omega)))
    have h3 : (endB mid1 p.w.toNat j).length = 1 := by unfold endB mid1; split <;> rfl
    rw [flatB_succ, List.length_append, List.length_append]; omega
theorem flatB_sh (m : Int) (p : Pl) (j : Nat) : (flatB (fun v => [shadeB m v]) [] p j).length ≤ 2 * j := by
  induction j with
  | zero => simp [flatB]
  | succ j ih =>
    have h3 : (endB [] p.w.toNat j).length ≤ 1 := by unfold endB; split <;> simp
    rw [flatB_succ, List.length_append, List.length_append, List.length_singleton]; omega
theorem end_iff {p : Pl} (hp : p.right = true) (j : Nat) : ((j : Int) + 1) % p.w = 0 ↔ (j + 1) % p.w.toNat = 0 := by
  obtain ⟨h1, _, _⟩ := Pl.right_iff.1 hp
  have e : p.w = ((p.w.toNat : Nat) : Int) := (Int.toNat_of_nonneg (by omega)).symm
  have e2 : ((j : Int) + 1) % p.w = (((j + 1) % p.w.toNat : Nat) : Int) := by
    conv => lhs; rw [e]
    rw [Int.natCast_emod]; rfl
  rw [e2]; omega
end Go.Proofs.YtoiebfpafdcbmaaDoor
