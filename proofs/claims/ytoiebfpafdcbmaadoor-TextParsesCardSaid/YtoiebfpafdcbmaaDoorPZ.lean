/- Plain law: which texts are planes; a plane's text is one plane's. -/
import Derived.Test.YtoiebfpafdcbmaaDoorPY
namespace Go.Proofs.YtoiebfpafdcbmaaDoor
open Go Go.RowKit K
set_option linter.unusedVariables false
set_option linter.unusedSimpArgs false

theorem idx_split {c : UInt8} : ∀ (l : List UInt8), 0 ≤ Lib.index l [c] → ∃ a r, l = a ++ c :: r ∧ c ∉ a ∧ Lib.index l [c] = a.length := by
  intro l h
  by_cases hc : c ∈ l
  · obtain ⟨a, r, rfl, ha⟩ := List.eq_append_cons_of_mem hc
    exact ⟨a, r, rfl, ha, idx_hit r ha⟩
  · rw [idx_none hc] at h; omega
theorem cut_yes {t : List UInt8} (h : (Lib.cut t [10]).2.2 = true) : ∃ r, t = (Lib.cut t [10]).1 ++ 10 :: r ∧ (10 : UInt8) ∉ (Lib.cut t [10]).1 := by
  unfold Lib.cut at h ⊢
  split at h
  · rename_i h0
    obtain ⟨a, r, rfl, ha, hi⟩ := idx_split t h0
    rw [if_pos h0, hi]
    exact ⟨r, by simp, by simpa using ha⟩
  · cases h
theorem line_yes {s : List UInt8} {i : Nat} (h : lineB s i = true) : s.drop i = lineL s i ++ 10 :: s.drop (lineN s i) ∧ (10 : UInt8) ∉ lineL s i := by
  obtain ⟨r, h1, h2⟩ := cut_yes (t := s.drop i) h
  have h3 := line_at (s := s) (i := i) h2 h1
  rw [h3.2.2.1, h3.2.2.2]
  exact ⟨h1, h2⟩
theorem split_join : ∀ (xs : List Int) (l : List UInt8), Lib.split l [32] = xs.map Lib.itoa → l = rowB xs := by
  intro xs
  induction xs with
  | nil =>
    intro l h
    by_cases hc : (32 : UInt8) ∈ l
    · obtain ⟨a, r, rfl, ha⟩ := List.eq_append_cons_of_mem hc
      rw [split_hit ha] at h; simp at h
    · rw [split_none hc] at h; simp at h
  | cons x xs ih =>
    intro l h
    by_cases hc : (32 : UInt8) ∈ l
    · obtain ⟨a, r, rfl, ha⟩ := List.eq_append_cons_of_mem hc
      rw [split_hit ha] at h
      simp only [List.map_cons, List.cons.injEq] at h
      obtain ⟨rfl, h⟩ := h
      have h2 := ih r h
      cases xs with
      | nil =>
        simp only [List.map_nil] at h
        by_cases hr : (32 : UInt8) ∈ r
        · obtain ⟨a, r', rfl, ha⟩ := List.eq_append_cons_of_mem hr
          rw [split_hit ha] at h; simp at h
        · rw [split_none hr] at h; simp at h
      | cons y ys => rw [rowB_cons, ← h2]
    · rw [split_none hc] at h
      simp only [List.map_cons, List.cons.injEq] at h
      obtain ⟨h1, h2⟩ := h
      have : xs = [] := by
        cases xs with
        | nil => rfl
        | cons y ys => simp at h2
      subst this
      rw [h1]; simp [rowB]
theorem numB_itoa' {w : List UInt8} (h : numB w = true) : Lib.itoa (numI w) = w := by
  simp only [numB, Bool.and_eq_true, decide_eq_true_eq] at h
  exact h.2
theorem nums_yes {l : List UInt8} {n : Int} {ns : List Int} (h : numsM l n = some ns) : l = rowB ns ∧ i64s ns ∧ (ns.length : Int) = n := by
  have hl := numsM_length h
  unfold numsM at h
  split at h
  · rename_i hh
    simp only [Option.some.injEq] at h
    subst h
    refine ⟨split_join _ _ ?_, fun x hx => ?_, hl⟩
    · rw [List.map_map]
      conv => lhs; rw [← List.map_id (Lib.split l [32])]
      exact List.map_congr_left fun w hw => (numB_itoa' (List.all_eq_true.1 hh.2 w hw)).symm
    · obtain ⟨w, _, rfl⟩ := List.mem_map.1 hx
      exact atoiR_fit w
  · cases h
theorem rows_yes (s : List UInt8) (w : Nat) : ∀ (k i : Nat) (l : List Int) (j : Nat), rowsM s w k i = some (l, j) → l.length = k * w ∧ i64s l ∧ s.drop i = ((List.range k).flatMap fun y => rowS ((l.drop (y * w)).take w)) ++ s.drop j := by
  intro k
  induction k with
  | zero =>
    intro i l j h
    simp only [rowsM, Option.some.injEq, Prod.mk.injEq] at h
    obtain ⟨rfl, rfl⟩ := h
    exact ⟨by simp, fun x hx => (by cases hx), by simp⟩
  | succ k ih =>
    intro i l j h
    rw [rowsM] at h
    split at h
    · rename_i ns hb hn
      cases hr : rowsM s w k (lineN s i) with
      | none => rw [hr] at h; cases h
      | some r =>
        obtain ⟨l', j'⟩ := r
        rw [hr] at h
        simp only [Option.map_some, Option.some.injEq, Prod.mk.injEq] at h
        obtain ⟨rfl, rfl⟩ := h
        obtain ⟨h1, h2, h3⟩ := ih _ _ _ hr
        obtain ⟨h4, h5, h6⟩ := nums_yes hn
        obtain ⟨h7, _⟩ := line_yes hb
        have h6' : ns.length = w := by omega
        refine ⟨by rw [List.length_append, h6', h1, Nat.succ_mul, Nat.add_comm], fun x hx => ?_, ?_⟩
        · rcases List.mem_append.1 hx with hx | hx
          · exact h5 x hx
          · exact h2 x hx
        · rw [h7, h4, h3, List.range_succ_eq_map, List.flatMap_cons, List.flatMap_map]
          have e0 : ((ns ++ l').drop (0 * w)).take w = ns := by rw [Nat.zero_mul, List.drop_zero, ← h6']; exact List.take_left
          have e1 : ∀ y, ((ns ++ l').drop ((y + 1) * w)).take w = (l'.drop (y * w)).take w := fun y => by
            rw [Nat.succ_mul, Nat.add_comm, ← List.drop_drop, ← h6', List.drop_left]
          rw [e0]
          simp only [Function.comp_def, Nat.succ_eq_add_one, e1]
          simp [rowS]
    · cases h
theorem newP_cases (a b : Int) : newP a b = ⟨a, b, List.replicate (a * b).toNat 0⟩ ∨ newP a b = ⟨0, 0, []⟩ := by
  unfold newP; split
  · exact .inl rfl
  · exact .inr rfl
/-- A plane that is told is the text's. -/
theorem plane_yes {s : List UInt8} {i : Nat} {p : Pl} {j : Nat} (h : planeM s i = some (p, j)) : p.right = true ∧ i64s p.l ∧ s.drop i = planeS p ++ s.drop j := by
  unfold planeM at h
  split at h
  · rename_i hr
    cases hq : rowsM s (sidesM s i).w (sidesM s i).h.toNat (lineN s i) with
    | none => rw [hq] at h; cases h
    | some r =>
      obtain ⟨l, j'⟩ := r
      rw [hq] at h
      simp only [Option.map_some, Option.some.injEq, Prod.mk.injEq] at h
      obtain ⟨rfl, rfl⟩ := h
      obtain ⟨hw, hh, _⟩ := Pl.right_iff.1 hr
      have hwn : (((sidesM s i).w.toNat : Nat) : Int) = (sidesM s i).w := Int.toNat_of_nonneg (by omega)
      rw [← hwn] at hq
      obtain ⟨h1, h2, h3⟩ := rows_yes s _ _ _ _ _ hq
      have hright : (Pl.mk (sidesM s i).w (sidesM s i).h l).right = true := Pl.right_iff.2 ⟨hw, hh, by
        show (l.length : Int) = _
        rw [h1, Int.natCast_mul, Int.toNat_of_nonneg (by omega), Int.toNat_of_nonneg (by omega), Int.mul_comm]⟩
      refine ⟨hright, h2, ?_⟩
      have hside : ∃ ns, s.drop i = preS ++ rowS ns ++ s.drop (lineN s i) ∧ ns = [(sidesM s i).w, (sidesM s i).h] := by
        unfold sidesM at hr ⊢
        split
        · rename_i hc
          rw [if_pos hc] at hr
          obtain ⟨h7, _⟩ := line_yes hc.1
          have hpre : lineL s i = preS ++ Lib.trimPrefix (lineL s i) preS := by
            have := hc.2
            unfold Lib.hasPrefix at this
            obtain ⟨t, ht⟩ := List.isPrefixOf_iff_prefix.1 this
            rw [Lib.trimPrefix, if_pos hc.2, ← ht, List.drop_left]
          cases hn : numsM (Lib.trimPrefix (lineL s i) preS) 2 with
          | none =>
            rw [hn] at hr
            simp [Pl.right, sideB] at hr
          | some ns =>
            rw [hn] at hr
            obtain ⟨h4, h5, h6⟩ := nums_yes hn
            simp only at hr ⊢
            match ns, h6 with
            | [a, b], _ =>
              simp only [List.getD_cons_zero, List.getD_cons_succ] at hr ⊢
              refine ⟨[a, b], ?_, ?_⟩
              · rw [h7]
                conv => lhs; rw [hpre, h4]
                simp [rowS]
              · rcases newP_cases a b with he | he
                · rw [he]
                · rw [he] at hr; simp [Pl.right, sideB] at hr
        · rename_i hc
          rw [if_neg hc] at hr
          simp [Pl.right, sideB] at hr
      obtain ⟨ns, h8, rfl⟩ := hside
      rw [h8, planeS, if_pos hright, headS, h3, rowsS]
      simp [Pl.row, preS, List.append_assoc]
  · cases h
def tailB (p : Pl) (k : Nat) : List UInt8 := ((List.range p.l.length).drop k).flatMap fun i => Lib.itoa (p.l.getD i 0) ++ endB mid1 p.w.toNat i
theorem tailB_zero (p : Pl) : tailB p 0 = flatB Lib.itoa mid1 p p.l.length := by simp [tailB, flatB]
theorem tailB_step (p : Pl) {k : Nat} (h : k < p.l.length) : tailB p k = (Lib.itoa (p.l.getD k 0) ++ endB mid1 p.w.toNat k) ++ tailB p (k + 1) := by
  rw [tailB, List.drop_eq_getElem_cons (by simpa using h), List.flatMap_cons, List.getElem_range]; rfl
theorem endB_one (w i : Nat) : endB mid1 w i = [if (i + 1) % w = 0 then 10 else 32] := by unfold endB mid1; split <;> rfl
theorem end_lt (w i : Nat) : (if (i + 1) % w = 0 then (10 : UInt8) else 32).toNat < 45 := by split <;> decide
/-- What is read of a plane's text is the plane's; what follows is its rest. -/
theorem peel {w h : Int} {l : List Int} {p : Pl} {X Y : List UInt8} (hp : p.right = true) (hz : i64s p.l) (hw : i64 w) (hh : i64 h) (hl : i64s l) : ∀ (k : Nat), k ≤ p.l.length → k ≤ l.length →
    headS ⟨w, h, l⟩ ++ flatB Lib.itoa mid1 ⟨w, h, l⟩ k ++ X = planeS p ++ Y → w = p.w ∧ h = p.h ∧ X = tailB p k ++ Y := by
  intro k
  induction k generalizing X with
  | zero =>
    intro _ _ e
    obtain ⟨h1, h2, _⟩ := Pl.right_iff.1 hp
    have e1 : headS ⟨w, h, l⟩ = preS ++ (Lib.itoa w ++ 32 :: (Lib.itoa h ++ [10])) := by simp [headS, rowS, rowB, preS]
    have e2 : planeS p = preS ++ (Lib.itoa p.w ++ 32 :: (Lib.itoa p.h ++ 10 :: tailB p 0)) := by rw [plane_flat hp, tailB_zero]; simp [headS, rowS, rowB, preS]
    have e3 : flatB Lib.itoa mid1 ⟨w, h, l⟩ 0 = [] := rfl
    rw [e1, e2, e3, List.append_nil] at e
    simp only [List.append_assoc, List.cons_append, List.nil_append, List.append_cancel_left_eq] at e
    obtain ⟨e4, e5⟩ := app_cons_inj (itoa_no w 32 (by decide)) (itoa_no p.w 32 (by decide)) e
    obtain ⟨e6, e7⟩ := app_cons_inj (itoa_no h 10 (by decide)) (itoa_no p.h 10 (by decide)) e5
    exact ⟨itoa_inj hw ⟨by omega, by omega⟩ e4, itoa_inj hh ⟨by omega, by omega⟩ e6, e7⟩
  | succ k ih =>
    intro hk hkl e
    rw [flatB_succ] at e
    have e' : headS ⟨w, h, l⟩ ++ flatB Lib.itoa mid1 ⟨w, h, l⟩ k ++ ((Lib.itoa (l.getD k 0) ++ endB mid1 w.toNat k) ++ X) = planeS p ++ Y := by
      rw [← e]; simp only [List.append_assoc]
    obtain ⟨rfl, rfl, e1⟩ := ih (by omega) (by omega) e'
    rw [tailB_step p (by omega), endB_one] at e1
    simp only [List.append_assoc, List.cons_append, List.nil_append] at e1
    obtain ⟨_, e3⟩ := app_cons_inj (itoa_no _ _ (end_lt _ _)) (itoa_no _ _ (end_lt _ _)) e1
    exact ⟨rfl, rfl, e3⟩
theorem plane_heads {s : List UInt8} {i : Nat} {p : Pl} {j : Nat} (h : planeM s i = some (p, j)) : s.drop i = preS ++ (Lib.itoa p.w ++ 32 :: (Lib.itoa p.h ++ 10 :: (tailB p 0 ++ s.drop j))) ∧ i64 p.w ∧ i64 p.h := by
  obtain ⟨hp, hz, h1⟩ := plane_yes h
  obtain ⟨hw, hh, _⟩ := Pl.right_iff.1 hp
  refine ⟨?_, ⟨by omega, by omega⟩, ⟨by omega, by omega⟩⟩
  rw [h1, plane_flat hp, tailB_zero]; simp [headS, rowS, rowB, preS]
theorem none_of {s : List UInt8} {i : Nat} (h : ∀ p j, planeM s i = some (p, j) → False) : planeM s i = none := by
  cases e : planeM s i with
  | none => rfl
  | some r => exact (h r.1 r.2 e).elim
theorem plane_short {s : List UInt8} {i : Nat} (hi : i ≤ s.length) (h : (s.length : Int) - i < 6) : planeM s i = none := none_of fun p j e => by
  have := congrArg List.length (plane_heads e).1
  simp only [List.length_drop, List.length_append, preS, List.length_cons] at this; omega
theorem plane_nopre {s : List UInt8} {i : Nat} (h : (s.drop i).take (i + 6 - i) ≠ preS) : planeM s i = none := none_of fun p j e => by
  apply h
  rw [(plane_heads e).1, show i + 6 - i = preS.length by simp [preS]]; exact List.take_left
theorem pre_yes {s : List UInt8} {i : Nat} (h : (s.drop i).take (i + 6 - i) = preS) : s.drop i = preS ++ s.drop (i + 6) := by
  rw [show i + 6 - i = 6 by omega] at h
  conv => lhs; rw [← List.take_append_drop 6 (s.drop i), h]
  rw [List.drop_drop]
theorem pre_drop {s : List UInt8} {i : Nat} {r : List UInt8} (h : s.drop i = preS ++ r) : s.drop (i + 6) = r := by
  rw [← List.drop_drop, h]; rfl
theorem plane_now {s : List UInt8} {i : Nat} (h : ∀ n j, ¬ NumAt s (i + 6) 32 n j) : planeM s i = none := none_of fun p j e => by
  obtain ⟨h1, h2, _⟩ := plane_heads e
  exact h _ _ (num_of h2 (pre_drop h1))
theorem plane_noh {s : List UInt8} {i : Nat} {w : Int} {j1 : Nat} (hw : NumAt s (i + 6) 32 w j1) (h : ∀ n j, ¬ NumAt s j1 10 n j) : planeM s i = none := none_of fun p j e => by
  obtain ⟨h1, h2, h3⟩ := plane_heads e
  obtain ⟨_, h4⟩ := num_uniq (by decide) hw h2 (pre_drop h1)
  exact h _ _ (num_of h3 h4)
theorem head_is {s : List UInt8} {i j1 j2 : Nat} {w h : Int} (l : List Int) (hpre : s.drop i = preS ++ s.drop (i + 6)) (hw : NumAt s (i + 6) 32 w j1) (hh : NumAt s j1 10 h j2) : headS ⟨w, h, l⟩ ++ flatB Lib.itoa mid1 ⟨w, h, l⟩ 0 ++ s.drop j2 = s.drop i := by
  rw [hpre, (num_at hw).2.2, (num_at hh).2.2]
  simp [headS, rowS, rowB, preS, flatB]
theorem plane_sides {s : List UInt8} {i j : Nat} {w h : Int} {l : List Int} {X : List UInt8} {p : Pl} {k : Nat} (hw : i64 w) (hh : i64 h) (hl : i64s l) (hk : k ≤ p.l.length ∧ k ≤ l.length) (hX : headS ⟨w, h, l⟩ ++ flatB Lib.itoa mid1 ⟨w, h, l⟩ k ++ X = s.drop i) (e : planeM s i = some (p, j)) : w = p.w ∧ h = p.h ∧ X = tailB p k ++ s.drop j := by
  obtain ⟨h1, h2, h3⟩ := plane_yes e
  exact peel h1 h2 hw hh hl k hk.1 hk.2 (by rw [hX, h3])
theorem plane_wrong {s : List UInt8} {i : Nat} {w h : Int} {X : List UInt8} (hw : i64 w) (hh : i64 h) (hX : headS ⟨w, h, []⟩ ++ flatB Lib.itoa mid1 ⟨w, h, []⟩ 0 ++ X = s.drop i) (hr : (newP w h).right = false) : planeM s i = none := none_of fun p j e => by
  obtain ⟨rfl, rfl, _⟩ := plane_sides hw hh (fun x hx => by cases hx) ⟨Nat.zero_le _, Nat.zero_le _⟩ hX e
  obtain ⟨h1, h2, _⟩ := Pl.right_iff.1 (plane_yes e).1
  rw [(newP_right h1 h2).1] at hr; cases hr
def endU (w k : Nat) : UInt8 := if (k + 1) % w = 0 then 10 else 32
/-- No number where one is owed: no plane. -/
theorem plane_nonum {s : List UInt8} {i a : Nat} {w h : Int} {l : List Int} {k : Nat} (hw : i64 w) (hh : i64 h) (hl : i64s l) (hr : (Pl.mk w h l).right = true) (hk : k < l.length) (hX : headS ⟨w, h, l⟩ ++ flatB Lib.itoa mid1 ⟨w, h, l⟩ k ++ s.drop a = s.drop i) (hno : ∀ n j, ¬ NumAt s a (endU w.toNat k) n j) : planeM s i = none := none_of fun p j e => by
  have hlen : p.l.length = l.length ∨ p.l.length < l.length ∨ l.length < p.l.length := by omega
  have h0 := plane_sides hw hh (l := l) (k := 0) hl ⟨Nat.zero_le _, Nat.zero_le _⟩ (X := flatB Lib.itoa mid1 ⟨w, h, l⟩ k ++ s.drop a) (by rw [← hX]; simp [flatB]) e
  obtain ⟨hp, hz, _⟩ := plane_yes e
  have e1 := right_len hp
  have e2 := right_len hr
  simp only at e2
  rw [← h0.1, ← h0.2.1, ← e2] at e1
  obtain ⟨rfl, rfl, h1⟩ := plane_sides hw hh hl ⟨by omega, by omega⟩ hX e
  rw [tailB_step p (by omega), endB_one] at h1
  simp only [List.append_assoc, List.cons_append, List.nil_append] at h1
  exact hno _ _ (num_of (hz _ (getD_mem (by omega))) h1)
theorem flatB_set {w h : Int} {l : List Int} {k : Nat} (n : Int) (hk : k < l.length) : flatB Lib.itoa mid1 ⟨w, h, l.set k n⟩ (k + 1) = flatB Lib.itoa mid1 ⟨w, h, l⟩ k ++ (Lib.itoa n ++ [endU w.toNat k]) := by
  rw [flatB_succ, endB_one]
  have e1 : flatB Lib.itoa mid1 ⟨w, h, l.set k n⟩ k = flatB Lib.itoa mid1 ⟨w, h, l⟩ k := by
    unfold flatB
    have : ∀ (m : List Nat) (f g : Nat → List UInt8), (∀ x ∈ m, f x = g x) → m.flatMap f = m.flatMap g := fun m f g hfg => by
      induction m with
      | nil => rfl
      | cons a m ih => rw [List.flatMap_cons, List.flatMap_cons, hfg a (by simp), ih fun y hy => hfg y (by simp [hy])]
    refine this _ _ _ fun x hx => ?_
    have := List.mem_range.1 hx
    show Lib.itoa ((l.set k n).getD x 0) ++ _ = _
    rw [List.getD, List.getElem?_set_ne (by omega)]; rfl
  rw [e1]
  show _ ++ (Lib.itoa ((l.set k n).getD k 0) ++ _) = _
  rw [List.getD, List.getElem?_set_self hk]; rfl
/-- A further number is read. -/
theorem plane_more {s : List UInt8} {i a a' : Nat} {w h n : Int} {l : List Int} {k : Nat} (hk : k < l.length) (hX : headS ⟨w, h, l⟩ ++ flatB Lib.itoa mid1 ⟨w, h, l⟩ k ++ s.drop a = s.drop i) (hn : NumAt s a (endU w.toNat k) n a') :
    headS ⟨w, h, l.set k n⟩ ++ flatB Lib.itoa mid1 ⟨w, h, l.set k n⟩ (k + 1) ++ s.drop a' = s.drop i := by
  rw [flatB_set n hk, ← hX, (num_at hn).2.2]
  show headS ⟨w, h, l⟩ ++ _ ++ _ = _
  simp [List.append_assoc]
/-- All is read. -/
theorem plane_all {s : List UInt8} {i a : Nat} {w h : Int} {l : List Int} (hi : i ≤ s.length) (ha : a ≤ s.length) (hr : (Pl.mk w h l).right = true) (hl : i64s l) (hX : headS ⟨w, h, l⟩ ++ flatB Lib.itoa mid1 ⟨w, h, l⟩ l.length ++ s.drop a = s.drop i) : planeM s i = some (⟨w, h, l⟩, a) := by
  have h1 : s.drop i = planeS ⟨w, h, l⟩ ++ s.drop a := by rw [plane_flat hr, hX]
  have h2 := (plane_at hr hl h1).1
  have h3 := congrArg List.length h1
  simp only [List.length_drop, List.length_append] at h3
  rw [h2]; congr 2; omega
end Go.Proofs.YtoiebfpafdcbmaaDoor
