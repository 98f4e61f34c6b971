/- Plain law of texts: what is printed is read again. No program in sight. -/
import Derived.Test.YtoiebfpafdcbmaaDoorPU
namespace Go.Proofs.YtoiebfpafdcbmaaDoor
open Go
set_option linter.unusedVariables false
set_option linter.unusedSimpArgs false

/-! ### Numbers -/
def digB (c : UInt8) : Prop := 48 ≤ c.toNat ∧ c.toNat ≤ 57
theorem digit_nat {d : Nat} (h : d < 10) : (UInt8.ofNat (48 + d)).toNat = 48 + d := by
  rw [UInt8.toNat_ofNat']; exact Nat.mod_eq_of_lt (by omega)
theorem dec_digits (u : Nat) : ∀ c ∈ Lib.decDigits u, digB c := by
  induction u using Nat.strongRecOn with
  | _ u ih =>
    intro c hc
    rw [Lib.decDigits] at hc
    split at hc
    · rename_i h
      obtain rfl := List.mem_singleton.1 hc
      unfold digB; rw [digit_nat h]; omega
    · rcases List.mem_append.1 hc with h | h
      · exact ih (u / 10) (by omega) c h
      · obtain rfl := List.mem_singleton.1 h
        unfold digB; rw [digit_nat (by omega)]; omega
theorem dec_ne_nil (u : Nat) : Lib.decDigits u ≠ [] := by
  rw [Lib.decDigits]; split <;> simp
theorem parse_snoc : ∀ (l : List UInt8) (acc v : Nat) (c : UInt8), Lib.parseUint10 acc l = .ok v → Lib.parseUint10 acc (l ++ [c]) = Lib.parseUint10 v [c]
  | [], acc, v, c, h => by simp only [Lib.parseUint10] at h; injection h with h; subst h; rfl
  | b :: l, acc, v, c, h => by
    simp only [List.cons_append, Lib.parseUint10] at h ⊢
    split at h
    · rename_i h1
      rw [if_pos h1]
      split at h
      · cases h
      · rename_i h2
        rw [if_neg h2]
        split at h
        · cases h
        · rename_i h3
          rw [if_neg h3]
          exact parse_snoc l _ v c h
    · cases h
theorem parse_dec (u : Nat) (h : u < 9223372036854775809) : Lib.parseUint10 0 (Lib.decDigits u) = .ok u := by
  induction u using Nat.strongRecOn with
  | _ u ih =>
    rw [Lib.decDigits]
    split
    · rename_i h1
      simp only [Lib.parseUint10, digit_nat h1]
      rw [if_pos (by omega), if_neg (by omega), if_neg (by omega)]
      congr 1; omega
    · rename_i h1
      rw [parse_snoc _ _ _ _ (ih (u / 10) (by omega) (by omega))]
      simp only [Lib.parseUint10, digit_nat (show u % 10 < 10 by omega)]
      rw [if_pos (by omega), if_neg (by omega), if_neg (by omega)]
      congr 1; omega
theorem mag_dec (u : Nat) (h : u < 9223372036854775809) : Lib.parseMag (Lib.decDigits u) = .ok u := by
  rw [Lib.parseMag, if_neg (dec_ne_nil u), parse_dec u h]
theorem atoi_itoa (n : Int) (h : i64 n) : Lib.atoiAll (Lib.itoa n) = .ok n := by
  obtain ⟨h1, h2⟩ := h
  unfold Lib.itoa
  split
  · rename_i hn
    simp only [Lib.atoiAll]
    rw [if_pos (by right; rfl), mag_dec _ (by omega)]
    simp only
    rw [if_neg (by simp), if_neg (by omega)]
    congr 1
    show (if UInt8.toNat 45 = 45 then _ else _) = n
    have e : UInt8.toNat 45 = 45 := rfl
    rw [e, if_pos rfl]; omega
  · rename_i hn
    have hd := dec_digits n.toNat
    cases hh : Lib.decDigits n.toNat with
    | nil => exact absurd hh (dec_ne_nil _)
    | cons c r =>
      have hc := hd c (by rw [hh]; exact List.mem_cons_self)
      have hp := mag_dec n.toNat (by omega)
      rw [hh] at hp
      unfold digB at hc
      simp only [Lib.atoiAll]
      rw [if_neg (by omega), hp]
      simp only
      rw [if_neg (by omega), if_neg (by omega), if_neg (by omega)]
      congr 1; omega
theorem numI_itoa (n : Int) (h : i64 n) : numI (Lib.itoa n) = n := by simp only [numI, atoiR, atoi_itoa n h]
theorem numB_itoa (n : Int) (h : i64 n) : numB (Lib.itoa n) = true := by simp [numB, atoiR, atoi_itoa n h]
theorem itoa_bytes (n : Int) : ∀ c ∈ Lib.itoa n, c.toNat = 45 ∨ digB c := by
  intro c hc
  unfold Lib.itoa at hc
  split at hc
  · rcases List.mem_cons.1 hc with rfl | h
    · left; rfl
    · right; exact dec_digits _ c h
  · right; exact dec_digits _ c hc
theorem itoa_no (n : Int) (b : UInt8) (hb : b.toNat < 45) : b ∉ Lib.itoa n := by
  intro h
  rcases itoa_bytes n b h with h | h
  · omega
  · unfold digB at h; omega

/-! ### Cuts -/
theorem idx_none {c : UInt8} : ∀ {l : List UInt8}, c ∉ l → Lib.index l [c] = -1
  | [], _ => rfl
  | b :: l, h => by
    have h1 : ¬ c = b := fun e => h (by subst e; exact List.mem_cons_self)
    have h2 := idx_none (l := l) fun e => h (List.mem_cons_of_mem _ e)
    unfold Lib.index
    rw [if_neg (by simp [h1]), h2]; rfl
theorem idx_hit {c : UInt8} (r : List UInt8) : ∀ {l : List UInt8}, c ∉ l → Lib.index (l ++ c :: r) [c] = l.length
  | [], _ => by rw [List.nil_append]; simp [Lib.index]
  | b :: l, h => by
    have h1 : ¬ c = b := fun e => h (by subst e; exact List.mem_cons_self)
    have h2 := idx_hit r (l := l) fun e => h (List.mem_cons_of_mem _ e)
    rw [List.cons_append]
    unfold Lib.index
    rw [if_neg (by simp [h1]), h2, if_neg (by simp)]
    simp
theorem cut_hit {l r : List UInt8} (h : (10 : UInt8) ∉ l) : Lib.cut (l ++ 10 :: r) [10] = (l, r, true) := by
  unfold Lib.cut
  rw [idx_hit r h, if_pos (by omega)]
  simp
theorem cut_none {l : List UInt8} (h : (10 : UInt8) ∉ l) : (Lib.cut l [10]).2.2 = false := by
  unfold Lib.cut
  rw [idx_none h, if_neg (by omega)]
theorem split_none {c : UInt8} {l : List UInt8} (h : c ∉ l) : Lib.split l [c] = [l] := by
  unfold Lib.split
  rw [Lib.count_miss (idx_none h)]; rfl
theorem split_hit {c : UInt8} {l r : List UInt8} (h : c ∉ l) : Lib.split (l ++ c :: r) [c] = l :: Lib.split r [c] := by
  have hc := Lib.count_hit (s := l ++ c :: r) (sub := [c]) (by simp) (idx_hit r h)
  have e : (l ++ c :: r).drop (l.length + [c].length) = r := by simp
  rw [e] at hc
  unfold Lib.split
  rw [hc, Nat.add_comm 1]
  rw [Lib.splitK, idx_hit r h, if_neg (by simp)]
  simp only [Int.toNat_natCast, Nat.add_zero, e]
  simp
theorem rowB_cons (x y : Int) (r : List Int) : rowB (x :: y :: r) = Lib.itoa x ++ 32 :: rowB (y :: r) := by simp [rowB]
theorem split_row : ∀ (l : List Int), l ≠ [] → Lib.split (rowB l) [32] = l.map Lib.itoa
  | [], h => absurd rfl h
  | [x], _ => by
    have : rowB [x] = Lib.itoa x := by simp [rowB]
    rw [this, split_none (itoa_no x 32 (by decide))]; rfl
  | x :: y :: r, _ => by
    rw [rowB_cons, split_hit (itoa_no x 32 (by decide)), split_row (y :: r) (by simp)]; rfl
theorem rowB_no (l : List Int) : (10 : UInt8) ∉ rowB l := by
  cases l with
  | nil => simp [rowB]
  | cons x r =>
    intro h
    rcases List.mem_append.1 h with h | h
    · exact itoa_no x 10 (by decide) h
    · obtain ⟨y, hy, h⟩ := List.mem_flatMap.1 h
      rcases List.mem_cons.1 h with h | h
      · exact absurd h (by decide)
      · exact itoa_no y 10 (by decide) h
theorem nums_row {l : List Int} (h : i64s l) (h0 : l ≠ []) : numsM (rowB l) l.length = some l := by
  unfold numsM
  rw [split_row l h0, if_pos]
  · rw [List.map_map]
    congr 1
    conv => rhs; rw [← List.map_id l]
    exact List.map_congr_left fun x hx => numI_itoa x (h x hx)
  · refine ⟨by simp, ?_⟩
    rw [List.all_map]
    exact List.all_eq_true.2 fun x hx => numB_itoa x (h x hx)

/-! ### Lines, planes -/
theorem line_at {s : List UInt8} {i : Nat} {l rest : List UInt8} (hl : (10 : UInt8) ∉ l) (h : s.drop i = l ++ 10 :: rest) : lineL s i = l ∧ lineB s i = true ∧ lineN s i = i + (l.length + 1) ∧ s.drop (i + (l.length + 1)) = rest := by
  have hc : Lib.cut (s.drop i) [10] = (l, rest, true) := by rw [h]; exact cut_hit hl
  have h1 : lineL s i = l := by simp only [lineL, hc]
  have h2 : lineB s i = true := by simp only [lineB, hc]
  refine ⟨h1, h2, by rw [lineN, if_pos h2, h1], ?_⟩
  rw [← List.drop_drop, h]; simp
theorem rows_at (s : List UInt8) (w : Nat) (hw : 1 ≤ w) : ∀ (rows : List (List Int)) (i : Nat) (rest : List UInt8), (∀ r ∈ rows, r.length = w ∧ i64s r) → s.drop i = rows.flatMap rowS ++ rest →
    rowsM s w rows.length i = some (rows.flatten, i + (rows.flatMap rowS).length) ∧ s.drop (i + (rows.flatMap rowS).length) = rest
  | [], i, rest, _, h => by simpa [rowsM] using h
  | r :: rows, i, rest, hr, h => by
    obtain ⟨hrl, hri⟩ := hr r List.mem_cons_self
    have hne : r ≠ [] := fun e => by subst e; simp at hrl; omega
    have h' : s.drop i = rowB r ++ 10 :: (rows.flatMap rowS ++ rest) := by rw [h]; simp [rowS]
    obtain ⟨h1, h2, h3, h4⟩ := line_at (rowB_no r) h'
    obtain ⟨h5, h6⟩ := rows_at s w hw rows _ rest (fun q hq => hr q (List.mem_cons_of_mem _ hq)) h4
    have hn := nums_row hri hne
    rw [hrl] at hn
    have e : i + (List.flatMap rowS (r :: rows)).length = i + ((rowB r).length + 1) + (rows.flatMap rowS).length := by simp [rowS]; omega
    rw [e]
    refine ⟨?_, h6⟩
    rw [List.length_cons]
    simp only [rowsM, h1, h2, hn, h3, h5]
    simp
theorem rows_flat (p : Pl) (hp : p.right = true) : ((List.range p.h.toNat).map p.row).flatten = p.l := by
  have key : ∀ k, k ≤ p.h.toNat → ((List.range k).map p.row).flatten = p.l.take (k * p.w.toNat) := by
    intro k
    induction k with
    | zero => intro _; simp
    | succ k ih =>
      intro hk
      rw [List.range_succ, List.map_append, List.flatten_append, ih (by omega), Nat.succ_mul, List.take_add]
      simp [Pl.row]
  rw [key _ (Nat.le_refl _), List.take_of_length_le]
  obtain ⟨h1, h2, h3⟩ := Pl.right_iff.1 hp
  have : ((p.h.toNat * p.w.toNat : Nat) : Int) = p.w * p.h := by
    rw [Int.natCast_mul, Int.toNat_of_nonneg (by omega), Int.toNat_of_nonneg (by omega), Int.mul_comm]
  omega
theorem newP_right {w h : Int} (hw : 1 ≤ w ∧ w ≤ 1024) (hh : 1 ≤ h ∧ h ≤ 1024) : (newP w h).right = true ∧ (newP w h).w = w ∧ (newP w h).h = h := by
  have := mul_sides hw hh
  rw [newP_yes (sideB_iff.2 hw) (sideB_iff.2 hh)]
  exact ⟨Pl.right_iff.2 ⟨hw, hh, by simp only [List.length_replicate]; omega⟩, rfl, rfl⟩
/-- A right plane's text is read as it. -/
theorem plane_at {s : List UInt8} {i : Nat} {p : Pl} {rest : List UInt8} (hp : p.right = true) (hz : i64s p.l) (h : s.drop i = planeS p ++ rest) :
    planeM s i = some (p, i + (planeS p).length) ∧ s.drop (i + (planeS p).length) = rest := by
  obtain ⟨hw, hh, hl⟩ := Pl.right_iff.1 hp
  have hP : planeS p = headS p ++ rowsS p p.h.toNat := by rw [planeS, hp]; rfl
  have hhead : headS p = (preS ++ rowB [p.w, p.h]) ++ [10] := by simp [headS, rowS, preS]
  have hno : (10 : UInt8) ∉ preS ++ rowB [p.w, p.h] := by
    intro e
    rcases List.mem_append.1 e with e | e
    · exact absurd e (by decide)
    · exact rowB_no _ e
  have h' : s.drop i = (preS ++ rowB [p.w, p.h]) ++ 10 :: (rowsS p p.h.toNat ++ rest) := by rw [h, hP, hhead]; simp
  obtain ⟨h1, h2, h3, h4⟩ := line_at hno h'
  have hpre : Lib.hasPrefix (lineL s i) preS = true := by rw [h1]; simp [Lib.hasPrefix]
  have htr : Lib.trimPrefix (lineL s i) preS = rowB [p.w, p.h] := by rw [Lib.trimPrefix, if_pos hpre, h1]; simp
  have hn : numsM (rowB [p.w, p.h]) 2 = some [p.w, p.h] := nums_row (l := [p.w, p.h]) (fun x hx => by simp at hx; rcases hx with rfl | rfl <;> omega) (by simp)
  obtain ⟨n1, n2, n3⟩ := newP_right hw hh
  have hs : sidesM s i = newP p.w p.h := by rw [sidesM, if_pos ⟨h2, hpre⟩, htr, hn]; rfl
  have hrows : rowsS p p.h.toNat = ((List.range p.h.toNat).map p.row).flatMap rowS := by rw [rowsS, List.flatMap_map]
  rw [hrows] at h4
  obtain ⟨h5, h6⟩ := rows_at s p.w.toNat (by omega) ((List.range p.h.toNat).map p.row) _ rest (fun r hr => by
    obtain ⟨y, hy, rfl⟩ := List.mem_map.1 hr
    exact ⟨Pl.row_length hp (List.mem_range.1 hy), i64s_row hz y⟩) h4
  have e : i + (planeS p).length = i + ((preS ++ rowB [p.w, p.h]).length + 1) + (((List.range p.h.toNat).map p.row).flatMap rowS).length := by rw [hP, hhead, hrows]; simp; omega
  rw [e]
  refine ⟨?_, h6⟩
  rw [planeM, hs, if_pos n1, n2, n3, h3]
  rw [List.length_map, List.length_range, Int.toNat_of_nonneg (by omega), rows_flat p hp] at h5
  rw [h5]; rfl
theorem plane_none {s : List UInt8} {i : Nat} (h : (10 : UInt8) ∉ s.drop i) : planeM s i = none := by
  have : lineB s i = false := cut_none h
  have hs : sidesM s i = ⟨0, 0, []⟩ := by rw [sidesM, if_neg]; rw [this]; simp
  rw [planeM, hs, if_neg]; decide
theorem planeS_nil (p : Pl) : planeS p = [] ↔ p.right = false := by
  unfold planeS
  cases p.right <;> simp [headS]
def Fr.right (f : Fr) : Bool := f.a.right && f.b.right && f.c.right
def Fr.fit (f : Fr) : Prop := i64s f.a.l ∧ i64s f.b.l ∧ i64s f.c.l
theorem frameS_right {f : Fr} (h : f.right = true) : frameS f = planeS f.a ++ planeS f.b ++ planeS f.c := by
  simp only [Fr.right, Bool.and_eq_true] at h
  rw [frameS, if_neg]; simp [planeS_nil, h]
theorem frameS_nil (f : Fr) : frameS f = [] ↔ f.right = false := by
  cases h : f.right
  · simp only [Fr.right, Bool.and_eq_false_iff] at h
    simp only [iff_true]
    rcases h with (h | h) | h
    · exact frameS_a ((planeS_nil _).2 h)
    · exact frameS_b ((planeS_nil _).2 h)
    · exact frameS_c ((planeS_nil _).2 h)
  · rw [frameS_right h]
    simp only [Fr.right, Bool.and_eq_true] at h
    have : planeS f.a ≠ [] := fun e => by rw [planeS_nil, h.1.1] at e; cases e
    simp [this]
theorem frame_at {s : List UInt8} {i : Nat} {f : Fr} {rest : List UInt8} (hf : f.right = true) (hz : f.fit) (h : s.drop i = frameS f ++ rest) : frameM s i = some (f, i + (frameS f).length) ∧ s.drop (i + (frameS f).length) = rest := by
  have hfr := frameS_right hf
  simp only [Fr.right, Bool.and_eq_true] at hf
  rw [hfr] at h ⊢
  obtain ⟨h1, h2⟩ := plane_at (rest := planeS f.b ++ planeS f.c ++ rest) hf.1.1 hz.1 (by rw [h]; simp)
  obtain ⟨h3, h4⟩ := plane_at (rest := planeS f.c ++ rest) hf.1.2 hz.2.1 (by rw [h2]; simp)
  obtain ⟨h5, h6⟩ := plane_at (rest := rest) hf.2 hz.2.2 h4
  have e : i + (planeS f.a ++ planeS f.b ++ planeS f.c).length = i + (planeS f.a).length + (planeS f.b).length + (planeS f.c).length := by simp only [List.length_append]; omega
  rw [e]
  exact ⟨by simp only [frameM, h1, h3, h5], h6⟩
theorem frame_none {s : List UInt8} {i : Nat} (h : (10 : UInt8) ∉ s.drop i) : frameM s i = none := by simp only [frameM, plane_none h]
/-- A film's text. -/
def filmT (l : List Fr) : List UInt8 := l.flatMap frameS
theorem film_at (s : List UInt8) : ∀ (l : List Fr) (k i : Nat) (rest : List UInt8), (∀ f ∈ l, f.right = true ∧ f.fit) → (10 : UInt8) ∉ rest → s.drop i = filmT l ++ rest → l.length < k → filmM s k i = (l, i + (filmT l).length)
  | [], k, i, rest, _, hr, h, hk => by
    obtain ⟨k, rfl⟩ : ∃ j, k = j + 1 := ⟨k - 1, by simp at hk; omega⟩
    simp only [filmM, frame_none (by rw [h]; exact hr : (10 : UInt8) ∉ s.drop i)]; simp [filmT]
  | f :: l, k, i, rest, hl, hr, h, hk => by
    obtain ⟨k, rfl⟩ : ∃ j, k = j + 1 := ⟨k - 1, by simp at hk; omega⟩
    obtain ⟨hf, hz⟩ := hl f List.mem_cons_self
    obtain ⟨h1, h2⟩ := frame_at (rest := filmT l ++ rest) hf hz (by rw [h]; simp [filmT])
    have := film_at s l k _ rest (fun g hg => hl g (List.mem_cons_of_mem _ hg)) hr h2 (by simpa using hk)
    simp only [filmM, h1, this]
    simp [filmT]; omega
theorem planeS_pos {p : Pl} (h : p.right = true) : 1 ≤ (planeS p).length := by
  rw [planeS, h]; simp [headS]
theorem frameS_pos {f : Fr} (h : f.right = true) : 1 ≤ (frameS f).length := by
  rcases Nat.eq_zero_or_pos (frameS f).length with e | e
  · have := (frameS_nil f).1 (List.eq_nil_of_length_eq_zero e); rw [h] at this; cases this
  · exact e
theorem filmT_len (l : List Fr) (h : ∀ f ∈ l, f.right = true ∧ f.fit) : l.length ≤ (filmT l).length := by
  induction l with
  | nil => simp
  | cons f l ih =>
    have h1 := frameS_pos (h f List.mem_cons_self).1
    have h2 := ih fun g hg => h g (List.mem_cons_of_mem _ hg)
    simp only [filmT, List.flatMap_cons, List.length_append, List.length_cons] at h2 ⊢; omega
theorem parse_film (l : List Fr) (rest : List UInt8) (h : ∀ f ∈ l, f.right = true ∧ f.fit) (hr : (10 : UInt8) ∉ rest) : parseFilm (filmT l ++ rest) = (l, (filmT l).length) := by
  have h1 := filmT_len l h
  have := film_at (filmT l ++ rest) l ((filmT l ++ rest).length + 1) 0 rest h hr rfl (by rw [List.length_append]; omega)
  rw [parseFilm, this]; simp
theorem parse_frame {f : Fr} (h : f.right = true) (hz : f.fit) : parseFrame (frameS f) = (f, true) := by
  obtain ⟨h1, _⟩ := frame_at (s := frameS f) (i := 0) (rest := []) h hz (by simp)
  simp only [Nat.zero_add] at h1
  simp only [parseFrame, h1, if_true]
theorem parse_plane {p : Pl} (rest : List UInt8) (h : p.right = true) (hz : i64s p.l) : parsePlane (planeS p ++ rest) = (p, (planeS p).length, true) := by
  obtain ⟨h1, _⟩ := plane_at (s := planeS p ++ rest) (i := 0) (rest := rest) h hz (by simp)
  simp only [Nat.zero_add] at h1
  simp only [parsePlane, h1]
end Go.Proofs.YtoiebfpafdcbmaaDoor
