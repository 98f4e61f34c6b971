/- The plain law of numbers by contexts: what is put is told. No program in sight. -/
import Derived.Test.YtoiebfpafdcbmaaDoorM1
namespace Go.Proofs.YtoiebfpafdcbmaaDoor
open Go
set_option linter.unusedVariables false
set_option linter.unusedSimpArgs false

theorem right_has {s : SetS} {ps : List Int} (h : rightB s ps.length = true) : 0 < s.fs.length ∧ (∀ i, hasP ps (s.follow i) = true) ∧ hasP ps s.data = true ∧ hasP ps s.sign = true := by
  simp only [rightB, Bool.and_eq_true, decide_eq_true_eq, List.all_eq_true] at h
  obtain ⟨h1, ⟨h2, h3⟩, h4⟩ := h
  refine ⟨h2, fun i => ?_, h3, h4⟩
  unfold SetS.follow
  have hlt : min i (s.fs.length - 1) < s.fs.length := by omega
  have := h1 s.fs[min i (s.fs.length - 1)] (List.getElem_mem hlt)
  simpa [List.getD, hlt, hasP, hasB] using this

theorem rounds_ok {e : EncS} (h : EncOk e) (s : SetS) (v : Int) (j : Nat) : EncOk (e.rounds s v j) ∧ (e.rounds s v j).ps.length = e.ps.length :=
  ⟨(Later.rounds h s v j).ok, (Later.rounds h s v j).len⟩
theorem good_rounds_succ {l : List Int} {e : EncS} (h : EncOk e) {s : SetS} {v : Int} {j : Nat} (hg : Good l (e.rounds s v (j + 1))) : Good l ((e.rounds s v j).putI (s.follow j) false) ∧ Good l (e.rounds s v j) := by
  have h1 := (Later.rounds h s v j).putI (s.follow j) false
  have g1 : Good l ((e.rounds s v j).putI (s.follow j) false) := good_put h1.ok hg
  exact ⟨g1, good_put (rounds_ok h s v j).1 g1⟩
theorem good_rounds {l : List Int} {e : EncS} (h : EncOk e) {s : SetS} {v : Int} {n : Nat} (hg : Good l (e.rounds s v n)) : ∀ k, k ≤ n → Good l (e.rounds s v (n - k))
  | 0, _ => hg
  | k + 1, hk => by
    have := good_rounds h hg k (by omega)
    rw [show n - k = (n - (k + 1)) + 1 by omega] at this
    exact (good_rounds_succ h this).2
theorem good_code {l : List Int} {e : EncS} (h : EncOk e) {s : SetS} {v : Int} (hg : Good l (e.code s v)) : Good l (e.rounds s v (digN v)) := by
  unfold EncS.code at hg
  split at hg
  · exact good_put (rounds_ok h s v _).1 hg
  · exact hg

theorem digit_step (v : Int) (n j : Nat) (hj : j < n) : 2 * ((v + 1) / 2 ^ (n - j)) + (if bitV v n j then 1 else 0) = (v + 1) / 2 ^ (n - (j + 1)) := by
  have e : (2 : Int) ^ (n - j) = 2 ^ (n - 1 - j) * 2 := by rw [← Int.pow_succ]; congr 1; omega
  rw [e, ← Int.ediv_ediv_of_nonneg (Int.pow_nonneg (by decide)), show n - (j + 1) = n - 1 - j by omega]
  unfold bitV
  simp only [decide_eq_true_eq]
  generalize (v + 1) / 2 ^ (n - 1 - j) = q
  split <;> omega

theorem sync_rounds {l : List Int} {e : EncS} {d : DecS} {s : SetS} {v : Int} (hE : EncOk e) (hr : rightB s e.ps.length = true) (hv : 0 ≤ v ∧ v ≤ 2199023255550) (hg : Good l (e.rounds s v (digN v))) (hy : Sync l e d) :
    ∀ j, j ≤ digN v → ∃ x, Sync l (e.rounds s v j) x ∧ DecS.loop l s 40 0 1 d = DecS.loop l s (40 - j) j ((v + 1) / 2 ^ (digN v - j)) x := by
  obtain ⟨_, hd, hd1, hd2⟩ := digN_spec v hv
  intro j
  induction j with
  | zero =>
    intro _
    refine ⟨d, hy, ?_⟩
    have h1 : (v + 1) / 2 ^ (digN v - 0) = 1 := by
      rw [Nat.sub_zero]
      rw [Int.pow_succ] at hd2
      have hp : (0 : Int) < 2 ^ digN v := Int.pow_pos (by decide)
      generalize (2 : Int) ^ digN v = P at *
      refine Int.le_antisymm (Int.le_of_lt_add_one ((Int.ediv_lt_iff_lt_mul hp).2 (by omega))) ((Int.le_ediv_iff_mul_le hp).2 (by omega))
    rw [h1]
  | succ j ih =>
    intro hj
    obtain ⟨x, hx, he⟩ := ih (by omega)
    have hgj : Good l (e.rounds s v (j + 1)) := by
      have := good_rounds hE hg (digN v - (j + 1)) (by omega)
      rwa [show digN v - (digN v - (j + 1)) = j + 1 by omega] at this
    have hg1 := (good_rounds_succ hE hgj).1
    obtain ⟨hok, hlen⟩ := rounds_ok hE s v j
    have hl1 := (Later.rounds hE s v j).putI (s.follow j) false
    have hr0 : rightB s (e.rounds s v j).ps.length = true := by rw [hlen]; exact hr
    have hr1 : rightB s ((e.rounds s v j).putI (s.follow j) false).ps.length = true := by rw [hl1.len]; exact hr
    obtain ⟨b1, y1⟩ := sync_put hok ((right_has hr0).2.1 j) hg1 hx
    obtain ⟨b2, y2⟩ := sync_put hl1.ok (right_has hr1).2.2.1 hgj y1
    refine ⟨_, y2, ?_⟩
    rw [he, show 40 - j = (40 - (j + 1)) + 1 by omega, DecS.loop_succ, b1, b2]
    simp only [Bool.false_eq_true, if_false]
    rw [digit_step v (digN v) j (by omega)]

theorem sync_code {l : List Int} {e : EncS} {d : DecS} {s : SetS} {v : Int} (hE : EncOk e) (hr : rightB s e.ps.length = true) (hv : 0 ≤ v ∧ v ≤ 2199023255550) (hg : Good l (e.code s v)) (hy : Sync l e d) :
    (d.tell l s).1 = v ∧ Sync l (e.code s v) (d.tell l s).2 := by
  obtain ⟨_, hd, hd1, hd2⟩ := digN_spec v hv
  obtain ⟨x, hx, he⟩ := sync_rounds hE hr hv (good_code hE hg) hy (digN v) (Nat.le_refl _)
  rw [Nat.sub_self, Int.pow_zero, Int.ediv_one] at he
  obtain ⟨hok, hlen⟩ := rounds_ok hE s v (digN v)
  have hrd : rightB s d.ps.length = true := by rw [hy.ps]; exact hr
  unfold DecS.tell
  rw [if_pos hrd, he]
  unfold EncS.code at hg ⊢
  by_cases h40 : digN v < 40
  · rw [if_pos h40] at hg ⊢
    have hr0 : rightB s (e.rounds s v (digN v)).ps.length = true := by rw [hlen]; exact hr
    obtain ⟨b1, y1⟩ := sync_put hok ((right_has hr0).2.1 (digN v)) hg hx
    rw [show 40 - digN v = (40 - digN v - 1) + 1 by omega, DecS.loop_succ, b1]
    simp only [if_true]
    exact ⟨by omega, y1⟩
  · rw [if_neg h40] at hg ⊢
    rw [show 40 - digN v = 0 by omega]
    simp only [DecS.loop]
    exact ⟨by omega, hx⟩

theorem good_putN {l : List Int} {e : EncS} (h : EncOk e) {s : SetS} {v : Int} (hg : Good l (e.putN s v)) : Good l e := by
  unfold EncS.putN at hg
  split at hg
  · have := good_rounds h (good_code h hg) (digN v) (Nat.le_refl _)
    rwa [Nat.sub_self] at this
  · exact hg
theorem sync_putN {l : List Int} {e : EncS} {d : DecS} {s : SetS} {v : Int} (hE : EncOk e) (hok : e.okN s v = true) (hg : Good l (e.putN s v)) (hy : Sync l e d) :
    (d.tell l s).1 = v ∧ Sync l (e.putN s v) (d.tell l s).2 := by
  have hp : e.putN s v = e.code s v := by unfold EncS.putN; rw [if_pos hok]
  rw [hp] at hg ⊢
  have h2 : mayB v = true ∧ rightB s e.ps.length = true := by simpa [EncS.okN] using hok
  exact sync_code hE h2.2 (by simpa [mayB] using h2.1) hg hy

theorem good_putS {l : List Int} {e : EncS} (h : EncOk e) {s : SetS} {v : Int} (hg : Good l (e.putS s v)) : Good l e := by
  unfold EncS.putS at hg
  split at hg
  · split at hg
    · exact good_putN h hg
    · exact good_putN h (good_put (Later.putN h s _).ok hg)
  · exact hg
theorem sync_putS {l : List Int} {e : EncS} {d : DecS} {s : SetS} {v : Int} (hE : EncOk e) (hok : e.okS s v = true) (hg : Good l (e.putS s v)) (hy : Sync l e d) :
    (d.tellS l s).1 = v ∧ Sync l (e.putS s v) (d.tellS l s).2 := by
  have hokN : e.okN s (max v (-v)) = true := by simp [EncS.okS] at hok; exact hok.2
  have hr : rightB s e.ps.length = true := by simp [EncS.okN] at hokN; exact hokN.2
  unfold EncS.putS at hg ⊢
  rw [if_pos hok] at hg ⊢
  by_cases h0 : v = 0
  · rw [if_pos h0] at hg ⊢
    obtain ⟨h1, h2⟩ := sync_putN hE hokN hg hy
    have ht : d.tellS l s = d.tell l s := by unfold DecS.tellS; rw [if_pos (by rw [h1]; omega)]
    rw [ht]
    exact ⟨by rw [h1]; omega, h2⟩
  · rw [if_neg h0] at hg ⊢
    have hl := Later.putN hE s (max v (-v))
    have hg1 := good_put hl.ok hg
    obtain ⟨h1, h2⟩ := sync_putN hE hokN hg1 hy
    have hr1 : rightB s (e.putN s (max v (-v))).ps.length = true := by rw [hl.len]; exact hr
    obtain ⟨b1, y1⟩ := sync_put hl.ok (right_has hr1).2.2.2 hg h2
    have ht : d.tellS l s = (if (d.tell l s).2.bitI s.sign then -(d.tell l s).1 else (d.tell l s).1, (d.tell l s).2.getI l s.sign) := by unfold DecS.tellS; rw [if_neg (by rw [h1]; omega)]
    rw [ht, b1, h1]
    refine ⟨?_, y1⟩
    simp only [decide_eq_true_eq]
    split <;> omega

/-! ### Lists of numbers -/
def okV (v : Int) : Bool := decide (-2199023255550 ≤ v ∧ v ≤ 2199023255550)
theorem okS_iff {e : EncS} {s : SetS} (hr : rightB s e.ps.length = true) (v : Int) : e.okS s v = okV v := by
  unfold EncS.okS EncS.okN okV mayB
  rw [hr, Bool.and_true]
  by_cases h : -2199023255550 ≤ v ∧ v ≤ 2199023255550
  · simp only [decide_eq_true h, Bool.and_eq_true, decide_eq_true_eq]; omega
  · rw [decide_eq_false h]
    by_cases h1 : -2199023255550 ≤ v
    · simp only [decide_eq_true h1, Bool.true_and]; exact decide_eq_false (by omega)
    · simp only [decide_eq_false h1, Bool.false_and]
def EncS.all (s : SetS) (e : EncS) (l : List Int) : EncS := l.foldl (fun e v => e.putS s v) e
theorem EncS.all_snoc (s : SetS) (e : EncS) (l : List Int) (v : Int) : e.all s (l ++ [v]) = (e.all s l).putS s v := by simp [EncS.all, List.foldl_append]
theorem Later.all {e : EncS} (h : EncOk e) (s : SetS) (l : List Int) : Later e (e.all s l) (82 * l.length) := by
  suffices ∀ (l : List Int) (x : EncS) (k : Nat), Later e x k → Later e (x.all s l) (k + 82 * l.length) by
    have := this l e 0 (.refl h)
    simpa using this
  intro l
  induction l with
  | nil => intro x k hx; exact hx
  | cons v r ih =>
    intro x k hx
    have h1 := Later.putS hx.ok s v
    have : Later e (x.putS s v) (k + 82) := ⟨h1.ok, by have := h1.n; have := hx.n; omega, by have := h1.ge; have := hx.ge; omega, by rw [h1.len, hx.len]⟩
    have h2 := ih (x.putS s v) (k + 82) this
    have e1 : x.all s (v :: r) = (x.putS s v).all s r := rfl
    rw [e1]
    exact h2.mono (by simp; omega)
def DecS.after (l : List Int) (s : SetS) (d : DecS) : Nat → DecS
  | 0 => d
  | j + 1 => ((DecS.after l s d j).tellS l s).2

theorem good_all {l : List Int} {e : EncS} (h : EncOk e) {s : SetS} {vs : List Int} (hg : Good l (e.all s vs)) : ∀ k, k ≤ vs.length → Good l (e.all s (vs.take (vs.length - k)))
  | 0, _ => by rw [Nat.sub_zero, List.take_length]; exact hg
  | k + 1, hk => by
    have := good_all h hg k (by omega)
    rw [show vs.length - k = (vs.length - (k + 1)) + 1 by omega, List.take_succ_eq_append_getElem (by omega), EncS.all_snoc] at this
    exact good_putS (Later.all h s _).ok this
/-- All that is put is told, one by one. -/
theorem sync_all {l : List Int} {e : EncS} {d : DecS} {s : SetS} {vs : List Int} (h : EncOk e) (hr : rightB s e.ps.length = true) (hok : ∀ v ∈ vs, okV v = true) (hg : Good l (e.all s vs)) (hy : Sync l e d) :
    ∀ j, j ≤ vs.length → Sync l (e.all s (vs.take j)) (d.after l s j) ∧ ∀ hj : j < vs.length, ((d.after l s j).tellS l s).1 = vs[j] := by
  have step : ∀ j, (hj : j < vs.length) → Sync l (e.all s (vs.take j)) (d.after l s j) → ((d.after l s j).tellS l s).1 = vs[j] ∧ Sync l (e.all s (vs.take (j + 1))) (d.after l s (j + 1)) := by
    intro j hj hs
    have hL := Later.all h s (vs.take j)
    have hg' : Good l (e.all s (vs.take (j + 1))) := by
      have := good_all h hg (vs.length - (j + 1)) (by omega)
      rwa [show vs.length - (vs.length - (j + 1)) = j + 1 by omega] at this
    rw [List.take_succ_eq_append_getElem hj, EncS.all_snoc] at hg' ⊢
    have hr' : rightB s (e.all s (vs.take j)).ps.length = true := by rw [hL.len]; exact hr
    exact sync_putS hL.ok (by rw [okS_iff hr']; exact hok _ (List.getElem_mem hj)) hg' hs
  intro j
  induction j with
  | zero => intro _; exact ⟨hy, fun hj => (step 0 hj hy).1⟩
  | succ j ih =>
    intro hj
    have hs := (step j (by omega) (ih (by omega)).1).2
    exact ⟨hs, fun hj => (step (j + 1) hj hs).1⟩
end Go.Proofs.YtoiebfpafdcbmaaDoor
