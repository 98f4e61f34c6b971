/- Contracts: planes and frames compared; a frame of three planes of one number each. -/
import Derived.Test.YtoiebfpafdcbmaaDoorC1
namespace Go.Proofs.YtoiebfpafdcbmaaDoor
open Go Go.RowKit K
set_option linter.unusedVariables false
set_option linter.unusedSimpArgs false

theorem lt_cases3 (j : Nat) (h : j ≤ 3) : j = 0 ∨ j = 1 ∨ j = 2 ∨ j = 3 := by omega
theorem plane_same {p q : Pl} (h1 : p.w = q.w) (h2 : p.h = q.h) (h3 : p.l = q.l) : p = q := by cases p; cases q; simp_all
theorem list_same {a b : List Int} (hl : a.length = b.length) (h : ∀ i, i < a.length → a.getD i 0 = b.getD i 0) : a = b :=
  List.ext_getElem hl fun i h1 h2 => by have := h i h1; simpa [List.getD, h1, h2] using this

theorem ref07_Same (p q : Pl) (v u : Value) (hl : p.l.length ≤ 1099511627776) : Spc Tryd.prog 26 [.agg (plC p v).toArray, .agg (plC q u).toArray] [] [rd 1 v p.l.length (intsV p.l), rd 1 u q.l.length (intsV q.l)] (ret (.bool (decide (p = q)))) := by
  refine Spc.intro Tryd.func26 rfl Tryd.ntmps26 (by kernel_rfl) rfl rfl fun w0 F0 => ?_
  -- region 0
  refine Gx.seq_region ?_
  refine Rx.box (vs := plC p v) rfl rfl rfl fun b2 => ?_
  refine Rx.box (vs := plC q u) rfl rfl rfl fun b3 => ?_
  refine Rx.q rfl (.assign rfl) ?_
  refine Rx.next ?_
  refine Gx.seq ?_
  -- region 1
  refine Gx.seq_region ?_
  refine Rx.q rfl (.fieldAddr rfl) ?_
  refine Rx.q rfl (.ld rfl rfl) ?_
  refine Rx.q rfl (.fieldAddr rfl) ?_
  refine Rx.q rfl (.ld rfl rfl) ?_
  refine Rx.q rfl (.neq rfl rfl) ?_
  refine Rx.q rfl (.move rfl) ?_
  refine Rx.split 11 rfl (fun h11 => ?_) (fun h11 => ?_)
  · -- way
    have h11 := of_decide_eq_true h11
    have hno : ¬ p = q := fun e => by subst e; omega
    refine Rx.guard_no rfl rfl rfl rfl rfl ?_
    refine Rx.guard_no rfl rfl rfl rfl rfl ?_
    refine Rx.guard_no rfl rfl rfl rfl rfl ?_
    refine Rx.guard_no rfl rfl rfl rfl rfl ?_
    refine Rx.guard_no rfl rfl rfl rfl rfl ?_
    refine Rx.q rfl (.pick_t rfl rfl) ?_
    refine Rx.q rfl (.move rfl) ?_
    refine Rx.guard_no rfl rfl rfl rfl rfl ?_
    refine Rx.guard_no rfl rfl rfl rfl rfl ?_
    refine Rx.guard_no rfl rfl rfl rfl rfl ?_
    refine Rx.guard_no rfl rfl rfl rfl rfl ?_
    refine Rx.guard_no rfl rfl rfl rfl rfl ?_
    refine Rx.guard_no rfl rfl rfl rfl rfl ?_
    refine Rx.guard_no rfl rfl rfl rfl rfl ?_
    refine Rx.q rfl (.pick_t rfl rfl) ?_
    refine Rx.next ?_
    refine Gx.cond_t rfl ?_
    -- region 2
    refine Gx.seq_region ?_
    refine Rx.q rfl (.assign rfl) ?_
    refine Rx.next ?_
    refine Gx.ret fun aa ww hzz => (then_ret (fin_tmp hzz rfl rfl (⟨congrArg Value.bool (decide_eq_false hno).symm, rfl⟩)))
  · -- way
    have h11 := of_decide_eq_false h11
    refine Rx.guard_yes rfl rfl rfl (Rx.q rfl (.fieldAddr rfl) ?_)
    refine Rx.guard_yes rfl rfl rfl (Rx.q rfl (.ld rfl rfl) ?_)
    refine Rx.guard_yes rfl rfl rfl (Rx.q rfl (.fieldAddr rfl) ?_)
    refine Rx.guard_yes rfl rfl rfl (Rx.q rfl (.ld rfl rfl) ?_)
    refine Rx.guard_yes rfl rfl rfl (Rx.q rfl (.neq rfl rfl) ?_)
    refine Rx.q rfl (.pick_f rfl rfl) ?_
    refine Rx.q rfl (.move rfl) ?_
    refine Rx.split 18 rfl (fun h18 => ?_) (fun h18 => ?_)
    · -- way
      have h18 := of_decide_eq_true h18
      have hno : ¬ p = q := fun e => by subst e; omega
      refine Rx.guard_no rfl rfl rfl rfl rfl ?_
      refine Rx.guard_no rfl rfl rfl rfl rfl ?_
      refine Rx.guard_no rfl rfl rfl rfl rfl ?_
      refine Rx.guard_no rfl rfl rfl rfl rfl ?_
      refine Rx.guard_no rfl rfl rfl rfl rfl ?_
      refine Rx.guard_no rfl rfl rfl rfl rfl ?_
      refine Rx.guard_no rfl rfl rfl rfl rfl ?_
      refine Rx.q rfl (.pick_t rfl rfl) ?_
      refine Rx.next ?_
      refine Gx.cond_t rfl ?_
      -- region 2
      refine Gx.seq_region ?_
      refine Rx.q rfl (.assign rfl) ?_
      refine Rx.next ?_
      refine Gx.ret fun aa ww hzz => (then_ret (fin_tmp hzz rfl rfl (⟨congrArg Value.bool (decide_eq_false hno).symm, rfl⟩)))
    · -- way
      have h18 := of_decide_eq_false h18
      refine Rx.guard_yes rfl rfl rfl (Rx.q rfl (.fieldAddr rfl) ?_)
      refine Rx.guard_yes rfl rfl rfl (Rx.q rfl (.ld rfl rfl) ?_)
      refine Rx.guard_yes rfl rfl rfl (Rx.q rfl (.lens rfl) ?_)
      refine Rx.guard_yes rfl rfl rfl (Rx.q rfl (.fieldAddr rfl) ?_)
      refine Rx.guard_yes rfl rfl rfl (Rx.q rfl (.ld rfl rfl) ?_)
      refine Rx.guard_yes rfl rfl rfl (Rx.q rfl (.lens rfl) ?_)
      refine Rx.guard_yes rfl rfl rfl (Rx.q rfl (.neq rfl rfl) ?_)
      refine Rx.q rfl (.pick_f rfl rfl) ?_
      refine Rx.next ?_
      refine Gx.cond rfl (fun h26 => ?_) (fun h26 => ?_)
      · -- way
        have h26 := of_decide_eq_true h26
        have hno : ¬ p = q := fun e => by subst e; omega
        -- region 2
        refine Gx.seq_region ?_
        refine Rx.q rfl (.assign rfl) ?_
        refine Rx.next ?_
        refine Gx.ret fun aa ww hzz => (then_ret (fin_tmp hzz rfl rfl (⟨congrArg Value.bool (decide_eq_false hno).symm, rfl⟩)))
      · -- way
        have h26 := of_decide_eq_false h26
        have hlen : p.l.length = q.l.length := by omega
        refine Gx.skip fun aa ww hzz => (then_normal (Gx.go hzz ?_))
        refine Gx.seq ?_
        -- region 3
        refine Gx.seq_region ?_
        refine Rx.q rfl (.fieldAddr rfl) ?_
        refine Rx.q rfl (.ld rfl rfl) ?_
        refine Rx.q rfl (.lens rfl) ?_
        refine Rx.q rfl (.move rfl) ?_
        refine Rx.next ?_
        refine Gx.block ?_
        refine Gx.lp (α := Nat) (fun j => j ≤ p.l.length ∧ ∀ i, i < j → p.l.getD i 0 = q.l.getD i 0) (fun j => p.l.length - j) (fun j => [(2, .pointer (some ⟨b2, 0, none⟩)), (3, .pointer (some ⟨b3, 0, none⟩)), (29, .int .i64 p.l.length), (30, .int .i64 j)])
          (fun j => [pt b2 37 (plC p v), pt b3 37 (plC q u)]) (0) (⟨Nat.zero_le _, fun i hi => by omega⟩) ?_ (fun j hx => ?_)
        · exact (.cons rfl (.cons rfl (.cons rfl (.cons rfl .nil))))
        -- region 4
        refine Gx.seq_region ?_
        refine Rx.q rfl (.lss rfl rfl) ?_
        refine Rx.next ?_
        refine Gx.seq ?_
        refine Gx.cond rfl (fun h31 => ?_) (fun h31 => ?_)
        · -- way
          have h31 := of_decide_eq_true h31
          have hj : j < p.l.length := by omega
          refine Gx.skip fun aa ww hzz => (then_normal (Gx.go hzz ?_))
          refine Gx.seq ?_
          refine Gx.block ?_
          -- region 5
          refine Gx.seq_region ?_
          refine Rx.q rfl (.move rfl) ?_
          refine Rx.q rfl (.assign rfl) ?_
          refine Rx.next ?_
          refine Gx.seq ?_
          -- region 6
          refine Gx.region_quiet mixed (by kernel_rfl) ?_
          refine Dx.q rfl (.fieldAddr rfl) ?_
          refine Dx.q rfl (.ld rfl rfl) ?_
          refine Dx.q rfl (.move rfl) ?_
          refine Dx.q rfl (.idx (j := j) rfl rfl (by omega) (by omega)) ?_
          refine Dx.q rfl (.ldi (l := p.l) rfl rfl hj) ?_
          refine Dx.q rfl (.fieldAddr rfl) ?_
          refine Dx.q rfl (.ld rfl rfl) ?_
          refine Dx.q rfl (.move rfl) ?_
          refine Dx.q rfl (.idx (j := j) rfl rfl (by omega) (by omega)) ?_
          refine Dx.q rfl (.ldi (l := q.l) rfl rfl (by omega)) ?_
          refine Dx.q rfl (.neq rfl rfl) ?_
          refine Dx.nextQ ?_
          refine Gx.cond rfl (fun h43 => ?_) (fun h43 => ?_)
          · -- way
            have h43 := of_decide_eq_true h43
            have hno : ¬ p = q := fun e => by subst e; exact h43 rfl
            -- region 7
            refine Gx.seq_region ?_
            refine Rx.q rfl (.assign rfl) ?_
            refine Rx.next ?_
            refine Gx.ret fun aa ww hzz => (blk_ret (then_ret (then_ret (blk_ret (then_ret (fin_tmp hzz rfl rfl (⟨congrArg Value.bool (decide_eq_false hno).symm, rfl⟩)))))))
          · -- way
            have h43 := of_decide_eq_false h43
            refine Gx.skip fun aa ww hzz => (blk_normal (then_normal (Gx.go hzz ?_)))
            -- region 8
            refine Gx.region ?_
            refine Rx.q rfl (.add_ rfl rfl (by omega)) ?_
            refine Rx.q rfl (.move rfl) ?_
            have hnx : ∀ i, i < j + 1 → p.l.getD i 0 = q.l.getD i 0 := fun i hi => by
              rcases Nat.lt_or_ge i j with h | h
              · exact hx.2 i h
              · obtain rfl : i = j := by omega
                exact Decidable.not_not.1 h43
            refine Rx.nil fun aa ww hzz => (then_normal ⟨j + 1, ⟨by omega, hnx⟩, (by omega), hzz.to (.cons rfl (.cons rfl (.cons rfl (.cons rfl .nil))))⟩)
        · -- way
          have h31 := of_decide_eq_false h31
          have hyes : p = q := plane_same (by omega) (by omega) (list_same hlen fun i hi => hx.2 i (by omega))
          refine Gx.exit fun aa ww hzz => (then_exit (then_exit (blk_exit (then_normal (Gx.go hzz ?_)))))
          -- region 9
          refine Gx.seq_region ?_
          refine Rx.q rfl (.assign rfl) ?_
          refine Rx.next ?_
          refine Gx.ret fun aa ww hzz => (fin_tmp hzz rfl rfl (⟨congrArg Value.bool (decide_eq_true hyes).symm, rfl⟩))


/-- A frame's data. -/
structure Fr where
  a : Pl
  b : Pl
  c : Pl
  deriving DecidableEq
abbrev frC (f : Fr) (u v w : Value) : List Value := [.int .i64 f.a.w, .int .i64 f.a.h, u, .int .i64 f.b.w, .int .i64 f.b.h, v, .int .i64 f.c.w, .int .i64 f.c.h, w]
abbrev plR (p : Pl) (v : Value) : As := rd 1 v p.l.length (intsV p.l)
abbrev plS (p : Pl) (v : Value) : As := sl 3 1 v p.l.length (intsV p.l)
theorem Fr.ne_of {f g : Fr} (h : f.a ≠ g.a ∨ f.b ≠ g.b ∨ f.c ≠ g.c) : ¬ f = g := fun e => by subst e; simp at h
theorem Fr.eq_of {f g : Fr} (h1 : f.a = g.a) (h2 : f.b = g.b) (h3 : f.c = g.c) : f = g := by cases f; cases g; simp_all

theorem ref24_Same (f g : Fr) (u v w u' v' w' : Value) (hl : f.a.l.length ≤ 1099511627776 ∧ f.b.l.length ≤ 1099511627776 ∧ f.c.l.length ≤ 1099511627776) : Spc Tryd.prog 29 [.agg (frC f u v w).toArray, .agg (frC g u' v' w').toArray] [] [plR f.a u, plR f.b v, plR f.c w, plR g.a u', plR g.b v', plR g.c w'] (ret (.bool (decide (f = g)))) := by
  refine Spc.intro Tryd.func29 rfl Tryd.ntmps29 (by kernel_rfl) rfl rfl fun w0 F0 => ?_
  -- region 0
  refine Gx.seq_region ?_
  refine Rx.box (vs := frC f u v w) rfl rfl rfl fun b2 => ?_
  refine Rx.box (vs := frC g u' v' w') rfl rfl rfl fun b3 => ?_
  refine Rx.q rfl (.assign rfl) ?_
  refine Rx.next ?_
  refine Gx.seq ?_
  -- region 1
  refine Gx.seq_region ?_
  refine Rx.q rfl (.assign rfl) ?_
  refine Rx.next ?_
  refine Gx.block ?_
  refine Gx.lp (α := Nat) (fun j => j ≤ 3 ∧ (0 < j → f.a = g.a) ∧ (1 < j → f.b = g.b) ∧ (2 < j → f.c = g.c)) (fun j => 3 - j) (fun j => [(2, .pointer (some ⟨b2, 0, none⟩)), (3, .pointer (some ⟨b3, 0, none⟩)), (5, .int .i64 j)])
    (fun j => [pt b2 40 (frC f u v w), pt b3 40 (frC g u' v' w')]) (0) (⟨by omega, fun h => by omega, fun h => by omega, fun h => by omega⟩) ?_ (fun j hx => ?_)
  · exact (.cons rfl (.cons rfl (.cons rfl .nil)))
  obtain ⟨hx, ha, hb, hc⟩ := hx
  rcases lt_cases3 j hx with rfl | rfl | rfl | rfl
  · -- case 0
    refine Gx.seq ?_
    -- region 2
    refine Gx.seq_region ?_
    refine Rx.q rfl (.move rfl) ?_
    refine Rx.q rfl (.lss rfl rfl) ?_
    refine Rx.next ?_
    refine Gx.cond rfl (fun h7 => ?_) (fun h7 => ?_)
    · -- way
      have h7 := of_decide_eq_true h7
      refine Gx.skip fun aa ww hzz => (then_normal (Gx.go hzz ?_))
      refine Gx.seq ?_
      refine Gx.block ?_
      refine Gx.seq ?_
      -- region 4
      refine Gx.region_quiet mixed (by kernel_rfl) ?_
      refine Dx.q rfl (.move rfl) ?_
      refine Dx.q rfl (.fieldAddr rfl) ?_
      refine Dx.q rfl (.idxp (r := 0) rfl rfl (by decide) (by rfl)) ?_
      refine Dx.q rfl (.ldc rfl (by rfl)) ?_
      refine Dx.q rfl (.move rfl) ?_
      refine Dx.q rfl (.fieldAddr rfl) ?_
      refine Dx.q rfl (.idxp (r := 0) rfl rfl (by decide) (by rfl)) ?_
      refine Dx.q rfl (.ldc rfl (by rfl)) ?_
      refine Dx.q rfl (.cal (caps := []) (ref07_Same f.a g.a u u' (by omega)) rfl rfl) ?_
      refine Dx.q rfl (.not rfl) ?_
      refine Dx.nextQ ?_
      refine Gx.cond rfl (fun h19 => ?_) (fun h19 => ?_)
      · -- way
        have h19 := bnot_t h19
        have hno := Fr.ne_of (f := f) (g := g) (.inl (of_decide_eq_false h19))
        -- region 5
        refine Gx.seq_region ?_
        refine Rx.q rfl (.assign rfl) ?_
        refine Rx.next ?_
        refine Gx.ret fun aa ww hzz => (blk_ret (then_ret (then_ret (blk_ret (then_ret (fin_tmp hzz rfl rfl (⟨congrArg Value.bool (decide_eq_false hno).symm, rfl⟩)))))))
      · -- way
        have h19 := bnot_f h19
        refine Gx.skip fun aa ww hzz => (blk_normal (then_normal (Gx.go hzz ?_)))
        -- region 3
        refine Gx.region ?_
        refine Rx.q rfl (.move rfl) ?_
        refine Rx.q rfl (.add_ rfl rfl (by omega)) ?_
        refine Rx.q rfl (.assign rfl) ?_
        refine Rx.nil fun aa ww hzz => (then_normal ⟨1, ⟨by omega, fun _ => of_decide_eq_true h19, fun h => by omega, fun h => by omega⟩, (by omega), hzz.to (.cons rfl (.cons rfl (.cons rfl .nil)))⟩)
    · -- way
      have h7 := of_decide_eq_false h7
      exact absurd (by decide) h7
  · -- case 1
    refine Gx.seq ?_
    -- region 2
    refine Gx.seq_region ?_
    refine Rx.q rfl (.move rfl) ?_
    refine Rx.q rfl (.lss rfl rfl) ?_
    refine Rx.next ?_
    refine Gx.cond rfl (fun h7 => ?_) (fun h7 => ?_)
    · -- way
      have h7 := of_decide_eq_true h7
      refine Gx.skip fun aa ww hzz => (then_normal (Gx.go hzz ?_))
      refine Gx.seq ?_
      refine Gx.block ?_
      refine Gx.seq ?_
      -- region 4
      refine Gx.region_quiet mixed (by kernel_rfl) ?_
      refine Dx.q rfl (.move rfl) ?_
      refine Dx.q rfl (.fieldAddr rfl) ?_
      refine Dx.q rfl (.idxp (r := 3) rfl rfl (by decide) (by rfl)) ?_
      refine Dx.q rfl (.ldc rfl (by rfl)) ?_
      refine Dx.q rfl (.move rfl) ?_
      refine Dx.q rfl (.fieldAddr rfl) ?_
      refine Dx.q rfl (.idxp (r := 3) rfl rfl (by decide) (by rfl)) ?_
      refine Dx.q rfl (.ldc rfl (by rfl)) ?_
      refine Dx.q rfl (.cal (caps := []) (ref07_Same f.b g.b v v' (by omega)) rfl rfl) ?_
      refine Dx.q rfl (.not rfl) ?_
      refine Dx.nextQ ?_
      refine Gx.cond rfl (fun h19 => ?_) (fun h19 => ?_)
      · -- way
        have h19 := bnot_t h19
        have hno := Fr.ne_of (f := f) (g := g) (.inr (.inl (of_decide_eq_false h19)))
        -- region 5
        refine Gx.seq_region ?_
        refine Rx.q rfl (.assign rfl) ?_
        refine Rx.next ?_
        refine Gx.ret fun aa ww hzz => (blk_ret (then_ret (then_ret (blk_ret (then_ret (fin_tmp hzz rfl rfl (⟨congrArg Value.bool (decide_eq_false hno).symm, rfl⟩)))))))
      · -- way
        have h19 := bnot_f h19
        refine Gx.skip fun aa ww hzz => (blk_normal (then_normal (Gx.go hzz ?_)))
        -- region 3
        refine Gx.region ?_
        refine Rx.q rfl (.move rfl) ?_
        refine Rx.q rfl (.add_ rfl rfl (by omega)) ?_
        refine Rx.q rfl (.assign rfl) ?_
        refine Rx.nil fun aa ww hzz => (then_normal ⟨2, ⟨by omega, fun _ => ha (by omega), fun _ => of_decide_eq_true h19, fun h => by omega⟩, (by omega), hzz.to (.cons rfl (.cons rfl (.cons rfl .nil)))⟩)
    · -- way
      have h7 := of_decide_eq_false h7
      exact absurd (by decide) h7
  · -- case 2
    refine Gx.seq ?_
    -- region 2
    refine Gx.seq_region ?_
    refine Rx.q rfl (.move rfl) ?_
    refine Rx.q rfl (.lss rfl rfl) ?_
    refine Rx.next ?_
    refine Gx.cond rfl (fun h7 => ?_) (fun h7 => ?_)
    · -- way
      have h7 := of_decide_eq_true h7
      refine Gx.skip fun aa ww hzz => (then_normal (Gx.go hzz ?_))
      refine Gx.seq ?_
      refine Gx.block ?_
      refine Gx.seq ?_
      -- region 4
      refine Gx.region_quiet mixed (by kernel_rfl) ?_
      refine Dx.q rfl (.move rfl) ?_
      refine Dx.q rfl (.fieldAddr rfl) ?_
      refine Dx.q rfl (.idxp (r := 6) rfl rfl (by decide) (by rfl)) ?_
      refine Dx.q rfl (.ldc rfl (by rfl)) ?_
      refine Dx.q rfl (.move rfl) ?_
      refine Dx.q rfl (.fieldAddr rfl) ?_
      refine Dx.q rfl (.idxp (r := 6) rfl rfl (by decide) (by rfl)) ?_
      refine Dx.q rfl (.ldc rfl (by rfl)) ?_
      refine Dx.q rfl (.cal (caps := []) (ref07_Same f.c g.c w w' (by omega)) rfl rfl) ?_
      refine Dx.q rfl (.not rfl) ?_
      refine Dx.nextQ ?_
      refine Gx.cond rfl (fun h19 => ?_) (fun h19 => ?_)
      · -- way
        have h19 := bnot_t h19
        have hno := Fr.ne_of (f := f) (g := g) (.inr (.inr (of_decide_eq_false h19)))
        -- region 5
        refine Gx.seq_region ?_
        refine Rx.q rfl (.assign rfl) ?_
        refine Rx.next ?_
        refine Gx.ret fun aa ww hzz => (blk_ret (then_ret (then_ret (blk_ret (then_ret (fin_tmp hzz rfl rfl (⟨congrArg Value.bool (decide_eq_false hno).symm, rfl⟩)))))))
      · -- way
        have h19 := bnot_f h19
        refine Gx.skip fun aa ww hzz => (blk_normal (then_normal (Gx.go hzz ?_)))
        -- region 3
        refine Gx.region ?_
        refine Rx.q rfl (.move rfl) ?_
        refine Rx.q rfl (.add_ rfl rfl (by omega)) ?_
        refine Rx.q rfl (.assign rfl) ?_
        refine Rx.nil fun aa ww hzz => (then_normal ⟨3, ⟨by omega, fun _ => ha (by omega), fun _ => hb (by omega), fun _ => of_decide_eq_true h19⟩, (by omega), hzz.to (.cons rfl (.cons rfl (.cons rfl .nil)))⟩)
    · -- way
      have h7 := of_decide_eq_false h7
      exact absurd (by decide) h7
  · -- case 3
    refine Gx.seq ?_
    -- region 2
    refine Gx.seq_region ?_
    refine Rx.q rfl (.move rfl) ?_
    refine Rx.q rfl (.lss rfl rfl) ?_
    refine Rx.next ?_
    refine Gx.cond rfl (fun h7 => ?_) (fun h7 => ?_)
    · -- way
      have h7 := of_decide_eq_true h7
      exact absurd h7 (by decide)
    · -- way
      have h7 := of_decide_eq_false h7
      have hyes := Fr.eq_of (ha (by omega)) (hb (by omega)) (hc (by omega))
      refine Gx.exit fun aa ww hzz => (then_exit (then_exit (blk_exit (then_normal (Gx.go hzz ?_)))))
      -- region 6
      refine Gx.seq_region ?_
      refine Rx.q rfl (.assign rfl) ?_
      refine Rx.next ?_
      refine Gx.ret fun aa ww hzz => (fin_tmp hzz rfl rfl (⟨congrArg Value.bool (decide_eq_true hyes).symm, rfl⟩))


/-- A frame of three planes of one number each. -/
def oneP (n : Int) : Pl := ⟨1, 1, [n]⟩
def oneF (n : Int) : Fr := ⟨oneP n, oneP (n + 1), oneP (n + 2)⟩
def OnePost (n : Int) (x : Value) (L : List As) : Prop := ∃ u v w, x = .agg (frC (oneF n) u v w).toArray ∧ L = [plS (oneF n).a u, plS (oneF n).b v, plS (oneF n).c w] ∧ u.oneCell' = true ∧ v.oneCell' = true ∧ w.oneCell' = true
theorem law25_One (n : Int) (hn : -9223372036854775808 ≤ n ∧ n ≤ 9223372036854775800) : Spc Tryd.prog 48 [.int .i64 n] [] [] (OnePost n) := by
  refine Spc.intro Tryd.func48 rfl Tryd.ntmps48 (by kernel_rfl) rfl rfl fun w0 F0 => ?_
  -- region 0
  refine Gx.seq_region ?_
  refine Rx.alloc (zs := [.int .i64 0, .int .i64 0, .slice none 0 0, .int .i64 0, .int .i64 0, .slice none 0 0, .int .i64 0, .int .i64 0, .slice none 0 0]) rfl rfl fun b2 => ?_
  refine Rx.next ?_
  -- region 1
  refine Gx.seq_region ?_
  refine Rx.alloc (zs := [.int .i64 0, .int .i64 0, .slice none 0 0, .int .i64 0, .int .i64 0, .slice none 0 0, .int .i64 0, .int .i64 0, .slice none 0 0]) rfl rfl fun b3 => ?_
  refine Rx.next ?_
  refine Gx.seq ?_
  -- region 2
  refine Gx.seq_region ?_
  refine Rx.q rfl (.move rfl) ?_
  refine Rx.next ?_
  refine Gx.block ?_
  refine Gx.lpn 3 ?_
  -- region 3
  refine Gx.seq_region ?_
  refine Rx.q rfl (.lss rfl rfl) ?_
  refine Rx.next ?_
  refine Gx.seq ?_
  refine Gx.cond_t rfl ?_
  refine Gx.skip fun aa ww hzz => (then_normal (Gx.go hzz ?_))
  refine Gx.seq ?_
  refine Gx.block ?_
  -- region 4
  refine Gx.seq_region ?_
  refine Rx.q rfl (.move rfl) ?_
  refine Rx.q rfl (.assign rfl) ?_
  refine Rx.next ?_
  -- region 5
  refine Gx.region ?_
  refine Rx.q rfl (.move rfl) ?_
  refine Rx.q rfl (.move rfl) ?_
  refine Rx.q rfl (.move rfl) ?_
  refine Rx.q rfl ((OpQ.add_ rfl rfl (by omega)).val (u := .int .i64 n) (by simp)) ?_
  refine Rx.slice1 rfl rfl rfl rfl rfl fun u12 hu12 => ?_
  refine Rx.one u12 fun hou => ?_
  refine Rx.q rfl (.buildv rfl rfl rfl rfl (by first | rfl | simp only [List.all_cons, List.all_nil, one_int, one_bool, one_str, one_ptr, one_slice, one_func, Bool.and_true, Bool.true_and, *])) ?_
  refine Rx.q rfl (.fieldAddr rfl) ?_
  refine Rx.q rfl (.idxp (r := 0) rfl rfl (by decide) (by rfl)) ?_
  refine Rx.stc rfl rfl (by first | rfl | simp only [List.all_cons, List.all_nil, one_int, one_bool, one_str, one_ptr, one_slice, one_func, Bool.and_true, Bool.true_and, *]) (by rfl) ?_
  refine Rx.nil fun aa ww hzz => (blk_normal (then_normal (Gx.go hzz ?_)))
  -- region 6
  refine Gx.region ?_
  refine Rx.q rfl (.add_ rfl rfl (by omega)) ?_
  refine Rx.q rfl (.move rfl) ?_
  refine Rx.nil fun aa ww hzz => (then_normal (rounds_go (m := 2) hzz ?_))
  -- region 3
  refine Gx.seq_region ?_
  refine Rx.q rfl (.lss rfl rfl) ?_
  refine Rx.next ?_
  refine Gx.seq ?_
  refine Gx.cond_t rfl ?_
  refine Gx.skip fun aa ww hzz => (then_normal (Gx.go hzz ?_))
  refine Gx.seq ?_
  refine Gx.block ?_
  -- region 4
  refine Gx.seq_region ?_
  refine Rx.q rfl (.move rfl) ?_
  refine Rx.q rfl (.assign rfl) ?_
  refine Rx.next ?_
  -- region 5
  refine Gx.region ?_
  refine Rx.q rfl (.move rfl) ?_
  refine Rx.q rfl (.move rfl) ?_
  refine Rx.q rfl (.move rfl) ?_
  refine Rx.q rfl ((OpQ.add_ rfl rfl (by omega)).val (u := .int .i64 (n + 1)) rfl) ?_
  refine Rx.slice1 rfl rfl rfl rfl rfl fun v12 hv12 => ?_
  refine Rx.one v12 fun hov => ?_
  refine Rx.q rfl (.buildv rfl rfl rfl rfl (by first | rfl | simp only [List.all_cons, List.all_nil, one_int, one_bool, one_str, one_ptr, one_slice, one_func, Bool.and_true, Bool.true_and, *])) ?_
  refine Rx.q rfl (.fieldAddr rfl) ?_
  refine Rx.q rfl (.idxp (r := 3) rfl rfl (by decide) (by rfl)) ?_
  refine Rx.stc rfl rfl (by first | rfl | simp only [List.all_cons, List.all_nil, one_int, one_bool, one_str, one_ptr, one_slice, one_func, Bool.and_true, Bool.true_and, *]) (by rfl) ?_
  refine Rx.nil fun aa ww hzz => (blk_normal (then_normal (Gx.go hzz ?_)))
  -- region 6
  refine Gx.region ?_
  refine Rx.q rfl (.add_ rfl rfl (by omega)) ?_
  refine Rx.q rfl (.move rfl) ?_
  refine Rx.nil fun aa ww hzz => (then_normal (rounds_go (m := 1) hzz ?_))
  -- region 3
  refine Gx.seq_region ?_
  refine Rx.q rfl (.lss rfl rfl) ?_
  refine Rx.next ?_
  refine Gx.seq ?_
  refine Gx.cond_t rfl ?_
  refine Gx.skip fun aa ww hzz => (then_normal (Gx.go hzz ?_))
  refine Gx.seq ?_
  refine Gx.block ?_
  -- region 4
  refine Gx.seq_region ?_
  refine Rx.q rfl (.move rfl) ?_
  refine Rx.q rfl (.assign rfl) ?_
  refine Rx.next ?_
  -- region 5
  refine Gx.region ?_
  refine Rx.q rfl (.move rfl) ?_
  refine Rx.q rfl (.move rfl) ?_
  refine Rx.q rfl (.move rfl) ?_
  refine Rx.q rfl ((OpQ.add_ rfl rfl (by omega)).val (u := .int .i64 (n + 2)) rfl) ?_
  refine Rx.slice1 rfl rfl rfl rfl rfl fun w12 hw12 => ?_
  refine Rx.one w12 fun how => ?_
  refine Rx.q rfl (.buildv rfl rfl rfl rfl (by first | rfl | simp only [List.all_cons, List.all_nil, one_int, one_bool, one_str, one_ptr, one_slice, one_func, Bool.and_true, Bool.true_and, *])) ?_
  refine Rx.q rfl (.fieldAddr rfl) ?_
  refine Rx.q rfl (.idxp (r := 6) rfl rfl (by decide) (by rfl)) ?_
  refine Rx.stc rfl rfl (by first | rfl | simp only [List.all_cons, List.all_nil, one_int, one_bool, one_str, one_ptr, one_slice, one_func, Bool.and_true, Bool.true_and, *]) (by rfl) ?_
  refine Rx.nil fun aa ww hzz => (blk_normal (then_normal (Gx.go hzz ?_)))
  -- region 6
  refine Gx.region ?_
  refine Rx.q rfl (.add_ rfl rfl (by omega)) ?_
  refine Rx.q rfl (.move rfl) ?_
  refine Rx.nil fun aa ww hzz => (then_normal (rounds_go (m := 0) hzz ?_))
  -- region 3
  refine Gx.seq_region ?_
  refine Rx.q rfl (.lss rfl rfl) ?_
  refine Rx.next ?_
  refine Gx.seq ?_
  refine Gx.cond_f rfl ?_
  refine Gx.exit fun aa ww hzz => (then_exit (then_exit (blk_exit (then_normal (Gx.go hzz ?_)))))
  -- region 7
  refine Gx.seq_region ?_
  refine Rx.q rfl (.ldc rfl (by rfl)) ?_
  refine Rx.stc rfl rfl (by first | rfl | simp only [List.all_cons, List.all_nil, one_int, one_bool, one_str, one_ptr, one_slice, one_func, Bool.and_true, Bool.true_and, *]) (by rfl) ?_
  refine Rx.next ?_
  refine Gx.ret fun aa ww hzz => (fin_c (L1 := [sl 3 1 u12 1 [.int .i64 n], sl 3 1 v12 1 [.int .i64 (n + 1)], sl 3 1 w12 1 [.int .i64 (n + 2)]]) hzz rfl rfl (by rfl) (⟨u12, v12, w12, rfl, rfl, hou, hov, how⟩))

end Go.Proofs.YtoiebfpafdcbmaaDoor
