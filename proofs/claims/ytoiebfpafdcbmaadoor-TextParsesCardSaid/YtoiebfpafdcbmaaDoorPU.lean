/- Plain law of texts: what a text is read as. No program in sight. -/
import Derived.Test.YtoiebfpafdcbmaaDoorPT
import Derived.Test.YtoiebfpafdcbmaaDoorTa
namespace Go.Proofs.YtoiebfpafdcbmaaDoor
open Go
set_option linter.unusedVariables false
set_option linter.unusedSimpArgs false

/-- The next line: its bytes; is there a line feed behind it; where it goes on. -/
def lineL (s : List UInt8) (i : Nat) : List UInt8 := (Lib.cut (s.drop i) [10]).1
def lineB (s : List UInt8) (i : Nat) : Bool := (Lib.cut (s.drop i) [10]).2.2
def lineN (s : List UInt8) (i : Nat) : Nat := if lineB s i = true then i + ((lineL s i).length + 1) else i
theorem cut_le (s : List UInt8) : (Lib.cut s [10]).1.length ≤ s.length ∧ ((Lib.cut s [10]).2.2 = true → (Lib.cut s [10]).1.length + 1 ≤ s.length) := by
  unfold Lib.cut
  split
  · rename_i h
    have := Lib.index_room s [10] h
    simp only [List.length_cons, List.length_nil, List.length_take] at this ⊢
    omega
  · simp
theorem lineN_le {s : List UInt8} {i : Nat} (h : i ≤ s.length) : lineN s i ≤ s.length := by
  unfold lineN
  have := cut_le (s.drop i)
  rw [List.length_drop] at this
  split
  · rename_i hb
    have := this.2 hb
    simp only [lineL]; omega
  · exact h
theorem lineL_le (s : List UInt8) (i : Nat) : (lineL s i).length ≤ s.length := by
  have := (cut_le (s.drop i)).1
  rw [List.length_drop] at this
  simp only [lineL]; omega
/-- A number: what it says, and whether it is written so. -/
def numI (s : List UInt8) : Int := (atoiR s).1
def numB (s : List UInt8) : Bool := (atoiR s).2 && decide (Lib.itoa (atoiR s).1 = s)
/-- So many numbers of a line. -/
def numsM (l : List UInt8) (n : Int) : Option (List Int) :=
  if ((Lib.split l [32]).length : Int) = n ∧ (Lib.split l [32]).all numB = true then some ((Lib.split l [32]).map numI) else none
def preS : List UInt8 := [112, 108, 97, 110, 101, 32]
def sidesM (s : List UInt8) (i : Nat) : Pl :=
  if lineB s i = true ∧ Lib.hasPrefix (lineL s i) preS = true then
    match numsM (Lib.trimPrefix (lineL s i) preS) 2 with
    | some n => newP (n.getD 0 0) (n.getD 1 0)
    | none => ⟨0, 0, []⟩
  else ⟨0, 0, []⟩
/-- So many rows. -/
def rowsM (s : List UInt8) (w : Int) : Nat → Nat → Option (List Int × Nat)
  | 0, i => some ([], i)
  | k + 1, i =>
    match lineB s i, numsM (lineL s i) w with
    | true, some ns => (rowsM s w k (lineN s i)).map fun r => (ns ++ r.1, r.2)
    | _, _ => none
def planeM (s : List UInt8) (i : Nat) : Option (Pl × Nat) :=
  if (sidesM s i).right = true then (rowsM s (sidesM s i).w (sidesM s i).h.toNat (lineN s i)).map fun r => (⟨(sidesM s i).w, (sidesM s i).h, r.1⟩, r.2) else none
def frameM (s : List UInt8) (i : Nat) : Option (Fr × Nat) :=
  match planeM s i with
  | none => none
  | some (a, i1) => match planeM s i1 with
    | none => none
    | some (b, i2) => match planeM s i2 with
      | none => none
      | some (c, i3) => some (⟨a, b, c⟩, i3)
theorem numsM_length {l : List UInt8} {n : Int} {ns : List Int} (h : numsM l n = some ns) : (ns.length : Int) = n := by
  unfold numsM at h
  split at h
  · rename_i hh; simp at h; subst h; simpa using hh.1
  · cases h
theorem atoiR_fit (s : List UInt8) : i64 (atoiR s).1 := by
  unfold atoiR
  cases h : Lib.atoiAll s with
  | ok v => exact Lib.atoiAll_bounds h
  | range =>
    simp only [Lib.atoiSat]
    split <;> exact ⟨by simp, by simp⟩
  | _ => exact ⟨by simp, by simp⟩
theorem split_len (l : List UInt8) : ∀ x ∈ Lib.split l [32], x.length ≤ l.length := by
  have key : ∀ k l, ∀ x ∈ Lib.splitK [32] 0 k l, x.length ≤ l.length := by
    intro k
    induction k with
    | zero => intro l x hx; simp [Lib.splitK] at hx; subst hx; exact Nat.le_refl _
    | succ k ih =>
      intro l x hx
      unfold Lib.splitK at hx
      split at hx
      · simp at hx; subst hx; exact Nat.le_refl _
      · rcases List.mem_cons.1 hx with rfl | hx
        · rw [List.length_take]; omega
        · have := ih _ x hx
          rw [List.length_drop] at this; omega
  exact key _ l
theorem split_count (l : List UInt8) : (Lib.split l [32]).length ≤ l.length + 2 := by
  have key : ∀ k l, (Lib.splitK [32] 0 k l).length ≤ k + 1 := by
    intro k
    induction k with
    | zero => intro l; simp [Lib.splitK]
    | succ k ih =>
      intro l
      unfold Lib.splitK
      split
      · simp
      · rw [List.length_cons]; have := ih (l.drop ((Lib.index l [32]).toNat + ([32] : List UInt8).length)); omega
  have := Lib.count_le l [32]
  have := key (Lib.count l [32]) l
  unfold Lib.split; omega
theorem all_take_succ' {l : List (List UInt8)} {p : List UInt8 → Bool} {j : Nat} (hj : j < l.length) : (l.take (j + 1)).all p = ((l.take j).all p && p l[j]) := by
  rw [List.take_succ_eq_append_getElem hj, List.all_append]; simp
theorem fill_step {α : Type} (f : α → Int) (ws : List α) {j : Nat} (hj : j < ws.length) :
    ((ws.take j).map f ++ List.replicate (ws.length - j) 0).set j (f ws[j]) = (ws.take (j + 1)).map f ++ List.replicate (ws.length - (j + 1)) 0 := by
  have e : ws.length - j = (ws.length - (j + 1)) + 1 := by omega
  rw [e, List.replicate_succ, List.take_succ_eq_append_getElem hj, List.map_append, List.set_append_right _ _ (by simp; omega)]
  have : j - (List.map f (List.take j ws)).length = 0 := by simp; omega
  rw [this]; simp
/-! ### What is told of a whole text -/
def zeroP : Pl := ⟨0, 0, []⟩
def zeroF : Fr := ⟨zeroP, zeroP, zeroP⟩
def parsePlane (s : List UInt8) : Pl × Nat × Bool :=
  match planeM s 0 with
  | some (p, n) => (p, n, true)
  | none => (zeroP, 0, false)
def parseFrame (s : List UInt8) : Fr × Bool :=
  match frameM s 0 with
  | some (f, n) => if n = s.length then (f, true) else (zeroF, false)
  | none => (zeroF, false)
def filmM (s : List UInt8) : Nat → Nat → List Fr × Nat
  | 0, i => ([], i)
  | k + 1, i => match frameM s i with
    | none => ([], i)
    | some (f, j) => (f :: (filmM s k j).1, (filmM s k j).2)
def parseFilm (s : List UInt8) : List Fr × Nat := filmM s (s.length + 1) 0
theorem lineN_ge (s : List UInt8) (i : Nat) : i ≤ lineN s i := by unfold lineN; split <;> omega
theorem rowsM_ge (s : List UInt8) (w : Int) : ∀ (k i : Nat) (r : List Int × Nat), rowsM s w k i = some r → i ≤ r.2
  | 0, i, r, h => by simp [rowsM] at h; subst h; exact Nat.le_refl _
  | k + 1, i, r, h => by
    unfold rowsM at h
    split at h
    · cases hh : rowsM s w k (lineN s i) with
      | none => simp [hh] at h
      | some q =>
        simp [hh] at h
        subst h
        have := rowsM_ge s w k _ q hh
        have := lineN_ge s i
        simp only; omega
    · cases h
theorem planeM_gt {s : List UInt8} {i : Nat} {r : Pl × Nat} (h : planeM s i = some r) : i < r.2 := by
  unfold planeM at h
  split at h
  · rename_i hr
    cases hh : rowsM s (sidesM s i).w (sidesM s i).h.toNat (lineN s i) with
    | none => simp [hh] at h
    | some q =>
      simp [hh] at h
      subst h
      have h1 := rowsM_ge s _ _ _ q hh
      have h2 : lineB s i = true := by
        cases hb : lineB s i with
        | true => rfl
        | false =>
          have : sidesM s i = ⟨0, 0, []⟩ := by rw [sidesM, if_neg]; rw [hb]; simp
          rw [this] at hr; cases hr
      have h3 : lineN s i = i + ((lineL s i).length + 1) := if_pos h2
      simp only; omega
  · cases h
theorem frameM_gt {s : List UInt8} {i : Nat} {f : Fr} {j : Nat} (h : frameM s i = some (f, j)) : i < j := by
  unfold frameM at h
  split at h
  · cases h
  · rename_i a i1 h1
    split at h
    · cases h
    · rename_i b i2 h2
      split at h
      · cases h
      · rename_i c i3 h3
        simp at h
        have := planeM_gt h1
        have := planeM_gt h2
        have := planeM_gt h3
        simp only at *; omega
theorem copy_step (d l ns : List Int) {a b : Nat} (hd : d.length = a) (ha : a + ns.length ≤ l.length) (hb : a + ns.length = b) :
    (intsV (d ++ l.drop a)).take a ++ intsV ns ++ (intsV (d ++ l.drop a)).drop (a + ns.length) = intsV (d ++ ns ++ l.drop b) := by
  subst hd; subst hb
  simp only [intsV, List.map_append]
  rw [List.take_left' (by simp), List.append_assoc, List.append_assoc]
  congr 2
  rw [List.drop_append]
  simp
end Go.Proofs.YtoiebfpafdcbmaaDoor
