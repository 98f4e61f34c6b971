/- The plain law of the arithmetic coder: what is put is told. No program in sight. -/
import Derived.Test.YtoiebfpafdcbmaaDoorBd
namespace Go.Proofs.YtoiebfpafdcbmaaDoor
open Go
set_option linter.unusedVariables false
set_option linter.unusedSimpArgs false

/-! ### Bits as numbers -/
def va (x : Int) (bs : List Bool) : Int := bs.foldl (fun a b => 2 * a + if b then 1 else 0) x
theorem va_append (x : Int) (a b : List Bool) : va x (a ++ b) = va (va x a) b := List.foldl_append ..
theorem va_cons (x : Int) (b : Bool) (r : List Bool) : va x (b :: r) = va (2 * x + if b then 1 else 0) r := rfl
theorem va_nil (x : Int) : va x [] = x := rfl
theorem va_false (x : Int) : ∀ m, va x (List.replicate m false) = x * 2 ^ m
  | 0 => by simp [va_nil]
  | m + 1 => by
    rw [List.replicate_succ, va_cons, va_false _ m, Int.pow_succ]
    simp only [Bool.false_eq_true, if_false, Int.add_zero]
    rw [Int.mul_comm (2 ^ m) 2, ← Int.mul_assoc, Int.mul_comm x 2]
theorem va_true (x : Int) : ∀ m, va x (List.replicate m true) = x * 2 ^ m + (2 ^ m - 1)
  | 0 => by simp [va_nil]
  | m + 1 => by
    rw [List.replicate_succ, va_cons, va_true _ m, Int.pow_succ]
    simp only [if_true]
    have h1 : (2 * x + 1) * 2 ^ m = 2 * (x * 2 ^ m) + 2 ^ m := by rw [Int.add_mul, Int.one_mul, Int.mul_assoc]
    have h2 : x * (2 ^ m * 2) = 2 * (x * 2 ^ m) := by rw [← Int.mul_assoc, Int.mul_comm]
    rw [h1, h2]; omega

/-- How far the coder has come, and where its span begins on that scale. -/
def EncS.S (e : EncS) : Nat := e.out.length + e.owed
def EncS.T (e : EncS) : Int := 65536 * (va 0 e.out * 2 ^ e.owed) + 32768 * (2 ^ e.owed - 1) + e.low
/-- The number that the bits tell lies within the span. -/
def Good (l : List Int) (e : EncS) : Prop := e.T ≤ getV l 0 (e.S + 16) ∧ getV l 0 (e.S + 16) < e.T + e.size

structure Spanned (e : EncS) : Prop where
  low : 0 ≤ e.low
  size : 1 ≤ e.size
  top : e.low + e.size ≤ 65536

theorem shift_S (e : EncS) : e.shift.S = e.S + 1 := by
  unfold EncS.shift EncS.S
  split
  · simp only; omega
  · simp only [List.length_append, List.length_cons, List.length_replicate]; omega
theorem topB_iff {p : Int} (h : 0 ≤ p ∧ p < 65536) : topB p = true ↔ 32768 ≤ p := by
  unfold topB; rw [decide_eq_true_iff]; omega
theorem shift_T {e : EncS} (h : Spanned e) (hs : e.size ≤ 16384) : e.shift.T = 2 * e.T := by
  obtain ⟨h1, h2, h3⟩ := h
  unfold EncS.shift EncS.T
  by_cases hst : strad e.low e.size = true
  · rw [if_pos hst]
    rw [strad_iff ⟨h1, h2, h3⟩] at hst
    simp only
    have hx : xorq e.low = e.low - 16384 := by unfold xorq; rw [if_pos (by omega)]
    rw [hx, Int.pow_succ, ← Int.mul_assoc (va 0 e.out)]
    generalize va 0 e.out * 2 ^ e.owed = Y
    generalize (2 : Int) ^ e.owed = P
    omega
  · rw [if_neg hst]
    rw [strad_iff ⟨h1, h2, h3⟩] at hst
    simp only
    rw [va_append, va_cons]
    cases hb : topB e.low with
    | true =>
      have hl := (topB_iff (by omega)).1 hb
      simp only [Bool.not_true, if_true]
      rw [va_false]
      have h4 : (2 * va 0 e.out + 1) * 2 ^ e.owed = 2 * (va 0 e.out * 2 ^ e.owed) + 2 ^ e.owed := by rw [Int.add_mul, Int.one_mul, Int.mul_assoc]
      rw [h4]
      generalize va 0 e.out * 2 ^ e.owed = Y
      generalize (2 : Int) ^ e.owed = P
      simp only [Int.pow_zero]
      omega
    | false =>
      have hl : ¬ 32768 ≤ e.low := fun h => by have := (topB_iff (p := e.low) (by omega)).2 h; rw [hb] at this; cases this
      simp only [Bool.not_false, Bool.false_eq_true, if_false]
      rw [va_true]
      have h4 : (2 * va 0 e.out + 0) * 2 ^ e.owed = 2 * (va 0 e.out * 2 ^ e.owed) := by rw [Int.add_zero, Int.mul_assoc]
      rw [h4]
      generalize va 0 e.out * 2 ^ e.owed = Y
      generalize (2 : Int) ^ e.owed = P
      simp only [Int.pow_zero]
      omega

theorem getV_succ (l : List Int) (k : Nat) : getV l 0 (k + 1) = getV l 0 k * 2 + bitN l k := by
  simp only [getV, bitN, Nat.zero_add]

theorem good_shift {l : List Int} {e : EncS} (h : Spanned e) (hs : e.size ≤ 16384) (hg : Good l e.shift) : Good l e := by
  unfold Good at *
  rw [shift_T h hs, shift_S, EncS.shift_size, show e.S + 1 + 16 = (e.S + 16) + 1 by omega, getV_succ] at hg
  have hb := bitN_01 l (e.S + 16)
  omega

/-- The decoder stands where the encoder stood. -/
structure Sync (l : List Int) (e : EncS) (d : DecS) : Prop where
  low : d.low = e.low
  size : d.size = e.size
  ps : d.ps = e.ps
  n : d.n = e.n
  i : d.i = e.S + 16
  code : d.code - d.low = getV l 0 (e.S + 16) - e.T

theorem sync_shift {l : List Int} {e : EncS} {d : DecS} (h : Spanned e) (hs : e.size ≤ 16384) (hg : Good l e) (hy : Sync l e d) : Sync l e.shift (d.shift l) := by
  obtain ⟨h1, h2, h3⟩ := h
  obtain ⟨y1, y2, y3, y4, y5, y6⟩ := hy
  have hT := shift_T ⟨h1, h2, h3⟩ hs
  have hlow : (d.shift l).low = e.shift.low := by
    unfold DecS.shift EncS.shift
    simp only [y1, y2]
    split <;> rfl
  refine ⟨hlow, by rw [EncS.shift_size]; show d.size * 2 = _; rw [y2], by rw [EncS.shift_ps]; exact y3, by rw [EncS.shift_n]; exact y4, by rw [shift_S]; show d.i + 1 = _; omega, ?_⟩
  rw [hT, shift_S, show e.S + 1 + 16 = (e.S + 16) + 1 by omega, getV_succ]
  have hb := bitN_01 l (e.S + 16)
  have hgl : 0 ≤ d.code - d.low ∧ d.code - d.low < e.size := by rw [y6]; unfold Good at hg; omega
  unfold DecS.shift
  simp only [y1, y2, y5]
  rw [y1] at y6 hgl
  by_cases hst : strad e.low e.size = true
  · rw [if_pos hst, if_pos hst]
    rw [strad_iff ⟨h1, h2, h3⟩] at hst
    unfold xorq
    omega
  · rw [if_neg hst, if_neg hst]
    rw [strad_iff ⟨h1, h2, h3⟩] at hst
    omega

theorem EncMid.spanned {e : EncS} {k : Nat} (h : EncMid e k) : Spanned e := ⟨h.low, h.size, h.top⟩
theorem good_norm {l : List Int} (k : Nat) : ∀ {e : EncS}, EncMid e k → Good l (EncS.norm k e) → Good l e := by
  induction k with
  | zero => intro e _ h; exact h
  | succ k ih =>
    intro e hm h
    by_cases hs : e.size ≤ 16384
    · simp only [EncS.norm] at h
      rw [if_pos hs] at h
      exact good_shift hm.spanned hs (ih (hm.shift hs) h)
    · rwa [EncS.norm_done _ hs] at h
theorem sync_norm {l : List Int} (k : Nat) : ∀ {e : EncS} {d : DecS}, EncMid e k → Good l (EncS.norm k e) → Sync l e d → Sync l (EncS.norm k e) (DecS.norm l k d) := by
  induction k with
  | zero => intro e d _ _ h; exact h
  | succ k ih =>
    intro e d hm hg hy
    have hge := good_norm (k + 1) hm hg
    by_cases hs : e.size ≤ 16384
    · have hs' : d.size ≤ 16384 := by rw [hy.size]; exact hs
      simp only [EncS.norm, DecS.norm] at hg ⊢
      rw [if_pos hs] at hg
      rw [if_pos hs, if_pos hs']
      exact ih (hm.shift hs) hg (sync_shift hm.spanned hs hge hy)
    · have hs' : ¬ d.size ≤ 16384 := by rw [hy.size]; exact hs
      rw [EncS.norm_done _ hs, DecS.norm_done l _ hs']
      exact hy

theorem take_S (e : EncS) (c : Nat) (b : Bool) : (e.take c b).S = e.S := rfl
theorem take_T (e : EncS) (c : Nat) (b : Bool) : (e.take c b).T = e.T + if b then partI e.size (e.ps.getD c 0) else 0 := by
  unfold EncS.take EncS.T takeLow
  cases b <;> simp only [Bool.false_eq_true, if_true, if_false] <;> omega
theorem good_take {l : List Int} {e : EncS} (h : EncOk e) {c : Nat} (hc : c < e.ps.length) {b : Bool} (hg : Good l (e.take c b)) : Good l e := by
  have hp := part_range (size := e.size) (p := e.ps.getD c 0) ⟨h.size, by have := h.low; have := h.top; omega⟩ (h.ps.getD hc)
  unfold Good at *
  rw [take_T, take_S] at hg
  have hsz : (e.take c b).size = takeSize e.size (partI e.size (e.ps.getD c 0)) b := rfl
  rw [hsz] at hg
  unfold takeSize at hg
  cases b <;> simp only [Bool.false_eq_true, if_true, if_false] at hg <;> omega
theorem sync_take {l : List Int} {e : EncS} {d : DecS} (h : EncOk e) {c : Nat} (hc : c < e.ps.length) {b : Bool} (hg : Good l (e.take c b)) (hy : Sync l e d) : d.bit c = b ∧ Sync l (e.take c b) (d.take c) := by
  obtain ⟨y1, y2, y3, y4, y5, y6⟩ := hy
  have hpt : d.part c = partI e.size (e.ps.getD c 0) := by unfold DecS.part; rw [y2, y3]
  have hb : d.bit c = b := by
    unfold Good at hg
    rw [take_T, take_S] at hg
    have hsz : (e.take c b).size = takeSize e.size (partI e.size (e.ps.getD c 0)) b := rfl
    rw [hsz] at hg
    unfold takeSize at hg
    unfold DecS.bit
    rw [hpt]
    cases b <;> simp only [Bool.false_eq_true, if_true, if_false] at hg
    · exact decide_eq_false (by omega)
    · exact decide_eq_true (by omega)
  refine ⟨hb, ?_⟩
  have hl : (d.take c).low = (e.take c b).low := by
    show takeLow d.low (d.part c) (d.bit c) = takeLow e.low _ b
    rw [hb, hpt, y1]
  refine ⟨hl, ?_, ?_, ?_, y5, ?_⟩
  · show takeSize d.size (d.part c) (d.bit c) = takeSize e.size _ b
    rw [hb, hpt, y2]
  · show learnP d.ps c (d.bit c) = learnP e.ps c b
    rw [hb, y3]
  · show d.n + 1 = e.n + 1
    rw [y4]
  · rw [hl, take_T, take_S]
    show d.code - takeLow e.low (partI e.size (e.ps.getD c 0)) b = _
    unfold takeLow
    cases b <;> simp only [Bool.false_eq_true, if_true, if_false] <;> omega

theorem good_put {l : List Int} {e : EncS} (h : EncOk e) {c : Int} {b : Bool} (hg : Good l (e.putI c b)) : Good l e := by
  unfold EncS.putI at hg
  split at hg
  · rename_i hh
    have hc : 0 ≤ c ∧ c < e.ps.length := by simpa [hasP] using hh
    have hc' : c.toNat < e.ps.length := by omega
    exact good_take h hc' (good_norm 15 (h.take hc' b) hg)
  · exact hg
theorem sync_put {l : List Int} {e : EncS} {d : DecS} (h : EncOk e) {c : Int} (hh : hasP e.ps c = true) {b : Bool} (hg : Good l (e.putI c b)) (hy : Sync l e d) : d.bitI c = b ∧ Sync l (e.putI c b) (d.getI l c) := by
  have hc : 0 ≤ c ∧ c < e.ps.length := by simpa [hasP] using hh
  have hc' : c.toNat < e.ps.length := by omega
  have hhd : hasP d.ps c = true := by rw [hy.ps]; exact hh
  have he : e.putI c b = EncS.norm 15 (e.take c.toNat b) := by unfold EncS.putI; rw [if_pos hh]; rfl
  rw [he] at hg ⊢
  have hgt := good_norm 15 (h.take hc' b) hg
  obtain ⟨h1, h2⟩ := sync_take h hc' hgt hy
  refine ⟨by unfold DecS.bitI; rw [hhd, h1]; rfl, ?_⟩
  unfold DecS.getI
  rw [if_pos hhd]
  exact sync_norm 15 (h.take hc' b) hg h2

/-! ### The end, and the beginning -/
theorem bytes_bit (e : EncS) (i : Nat) : bitOf e.bytes i = e.fin.getD i false := by
  rw [← bitOf_pack]
  unfold bitOf
  have key : e.bytes.getD (i / 8) 0 = (pack e.fin).getD (i / 8) 0 := by
    unfold EncS.bytes
    by_cases h : i / 8 < e.cut
    · simp only [List.getD, List.getElem?_take, if_pos h]
    · have h1 : ((pack e.fin).take e.cut).getD (i / 8) 0 = 0 := by
        simp only [List.getD, List.getElem?_take, if_neg h, Option.getD_none]
      rw [h1]
      by_cases h2 : i / 8 < (pack e.fin).length
      · exact (trimN_spec 0 (pack e.fin) _ (i / 8) (by unfold EncS.cut at h; omega) h2).symm
      · simp only [List.getD, List.getElem?_eq_none (Nat.le_of_not_lt h2), Option.getD_none]
  rw [key]
theorem getV_bytes (e : EncS) : ∀ k, k ≤ e.fin.length → getV e.bytes 0 k = va 0 (e.fin.take k)
  | 0, _ => rfl
  | k + 1, h => by
    rw [getV_succ, getV_bytes e k (by omega), List.take_succ_eq_append_getElem (by omega), va_append, va_cons, va_nil, bitN, bytes_bit]
    simp only [List.getD, List.getElem?_eq_getElem (show k < e.fin.length by omega), Option.getD_some]
    omega
theorem getV_past (e : EncS) : ∀ j, getV e.bytes 0 (e.fin.length + j) = va 0 e.fin * 2 ^ j
  | 0 => by rw [Nat.add_zero, getV_bytes e _ (Nat.le_refl _), List.take_of_length_le (Nat.le_refl _)]; simp
  | j + 1 => by
    have hb : bitN e.bytes (e.fin.length + j) = 0 := by
      unfold bitN
      rw [bytes_bit]
      simp [List.getD, List.getElem?_eq_none (show e.fin.length ≤ e.fin.length + j by omega)]
    rw [show e.fin.length + (j + 1) = (e.fin.length + j) + 1 by omega, getV_succ, getV_past e j, hb, Int.pow_succ, Int.add_zero, Int.mul_assoc]
theorem midB_last {p : Int} (h : 0 ≤ p ∧ p < 65536) (h2 : p % 16384 = 0) : p = (if topB p then 32768 else 0) + (if midB p then 16384 else 0) := by
  unfold topB midB
  simp only [decide_eq_true_eq]
  split <;> split <;> omega
theorem good_end {e : EncS} (h : EncOk e) : Good e.bytes e := by
  obtain ⟨h1, h2, h3, h4, h5⟩ := h
  have hl : e.last = (e.low + 16383) / 16384 * 16384 := rfl
  have hlen : e.fin.length = e.S + 2 := by
    simp [EncS.fin, EncS.S]
    omega
  have hX : getV e.bytes 0 (e.S + 16) = va 0 e.fin * 2 ^ 14 := by
    rw [show e.S + 16 = e.fin.length + 14 by omega]
    exact getV_past e 14
  have hv : va 0 e.fin * 2 ^ 14 = e.T - e.low + e.last := by
    have hm := midB_last (p := e.last) (by omega) (by omega)
    unfold EncS.fin EncS.T
    rw [va_append, va_cons, va_nil, va_append, va_cons]
    cases hb : topB e.last with
    | true =>
      rw [hb] at hm
      simp only [if_true, Bool.not_true] at hm ⊢
      rw [va_false]
      have h6 : (2 * va 0 e.out + 1) * 2 ^ e.owed = 2 * (va 0 e.out * 2 ^ e.owed) + 2 ^ e.owed := by rw [Int.add_mul, Int.one_mul, Int.mul_assoc]
      rw [h6]
      generalize va 0 e.out * 2 ^ e.owed = Y
      generalize (2 : Int) ^ e.owed = P
      split at hm <;> rename_i hc <;> simp only [hc, if_true, if_false, Bool.false_eq_true] <;> omega
    | false =>
      rw [hb] at hm
      simp only [Bool.not_false, Bool.false_eq_true, if_false] at hm ⊢
      rw [va_true]
      have h6 : (2 * va 0 e.out + 0) * 2 ^ e.owed = 2 * (va 0 e.out * 2 ^ e.owed) := by rw [Int.add_zero, Int.mul_assoc]
      rw [h6]
      generalize va 0 e.out * 2 ^ e.owed = Y
      generalize (2 : Int) ^ e.owed = P
      split at hm <;> rename_i hc <;> simp only [hc, if_true, if_false, Bool.false_eq_true] <;> omega
  unfold Good
  rw [hX, hv]
  omega
theorem sync_new (l : List Int) (c : Int) : Sync l (EncS.new c) (DecS.new l c) := by
  refine ⟨rfl, rfl, rfl, rfl, rfl, ?_⟩
  simp [DecS.new, EncS.new, EncS.S, EncS.T, va]
end Go.Proofs.YtoiebfpafdcbmaaDoor
