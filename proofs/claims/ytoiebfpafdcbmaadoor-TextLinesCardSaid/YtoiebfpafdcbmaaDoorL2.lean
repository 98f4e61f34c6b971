/- The law's own functions: a picture's lines. -/
import Derived.Test.YtoiebfpafdcbmaaDoorL1
namespace Go.Proofs.YtoiebfpafdcbmaaDoor
open Go Go.RowKit K
set_option linter.unusedVariables false
set_option linter.unusedSimpArgs false

theorem pos_facts {p : Pl} (hp : p.right = true) {j : Nat} (hj : j < p.l.length) :
    (j : Int) / p.w = ((j / p.w.toNat : Nat) : Int) ∧ (j : Int) % p.w = ((j % p.w.toNat : Nat) : Int) ∧ j / p.w.toNat < p.h.toNat ∧ j % p.w.toNat < p.w.toNat ∧ j / p.w.toNat * p.w.toNat + j % p.w.toNat = j := by
  obtain ⟨h1, h2, h3⟩ := Pl.right_iff.1 hp
  have e : p.w = ((p.w.toNat : Nat) : Int) := (Int.toNat_of_nonneg (by omega)).symm
  have hl : p.l.length = p.h.toNat * p.w.toNat := by
    have : ((p.h.toNat * p.w.toNat : Nat) : Int) = p.w * p.h := by
      rw [Int.natCast_mul, Int.toNat_of_nonneg (by omega), Int.toNat_of_nonneg (by omega), Int.mul_comm]
    omega
  refine ⟨?_, ?_, ?_, Nat.mod_lt _ (by omega), by rw [Nat.mul_comm]; exact Nat.div_add_mod _ _⟩
  · conv => lhs; rw [e]
    rw [Int.natCast_ediv]
  · conv => lhs; rw [e]
    rw [Int.natCast_emod]
  · exact Nat.div_lt_of_lt_mul (by rw [Nat.mul_comm, ← hl]; exact hj)

theorem law38_TextLines (p : Pl) (v : Value) (m : Int) (ho : v.oneCell' = true) (hz : i64s p.l) (hm : 0 ≤ m ∧ m < 65536) : Spc Tryd.prog 7 [.agg (plC p v).toArray, .int .u16 m] [] [lib, plR p v] (fun u L => u = .bool true ∧ L = []) := by
  refine Spc.intro Tryd.func7 rfl Tryd.ntmps7 (by kernel_rfl) rfl rfl fun w0 F0 => ?_
  -- region 0
  refine Gx.seq_region ?_
  refine Rx.box (vs := plC p v) rfl rfl rfl fun b2 => ?_
  refine Rx.q rfl (.assign rfl) ?_
  refine Rx.next ?_
  refine Gx.seq ?_
  -- region 1
  refine Gx.seq_region ?_
  refine Rx.cal (caps := []) (law38_first) rfl rfl rfl fun v11 L11 hP11 => ?_
  obtain ⟨rfl, rfl⟩ := hP11
  refine Rx.q rfl (.not rfl) ?_
  refine Rx.next ?_
  refine Gx.cond_f rfl ?_
  refine Gx.skip fun aa ww hzz => (then_normal (Gx.go hzz ?_))
  refine Gx.seq ?_
  -- region 3
  refine Gx.seq_region ?_
  refine Rx.q rfl (.fieldAddr rfl) ?_
  refine Rx.q rfl (.ld rfl rfl) ?_
  refine Rx.q rfl (.lens rfl) ?_
  refine Rx.q rfl (.gtr rfl rfl) ?_
  refine Rx.q rfl (.move rfl) ?_
  refine Rx.split 17 rfl (fun h17 => ?_) (fun h17 => ?_)
  · -- way
    have h17 := of_decide_eq_true h17
    refine Rx.guard_no rfl rfl rfl rfl rfl ?_
    refine Rx.guard_no rfl rfl rfl rfl rfl ?_
    refine Rx.guard_no rfl rfl rfl rfl rfl ?_
    refine Rx.q rfl (.pick_t rfl rfl) ?_
    refine Rx.next ?_
    refine Gx.cond_t rfl ?_
    -- region 4
    refine Gx.seq_region ?_
    refine Rx.q rfl (.assign rfl) ?_
    refine Rx.next ?_
    refine Gx.ret fun aa ww hzz => (then_ret (fin_tmp hzz rfl rfl (⟨rfl, rfl⟩)))
  · -- way
    have h17 := of_decide_eq_false h17
    refine Rx.guard_yes rfl rfl rfl (Rx.q rfl (.ldc rfl (by rfl)) ?_)
    refine Rx.guard_yes rfl rfl rfl (Rx.q rfl (.cal (caps := []) (ref07_Right _ _) rfl rfl) ?_)
    refine Rx.guard_yes rfl rfl rfl (Rx.q rfl (.not rfl) ?_)
    refine Rx.q rfl (.pick_f rfl rfl) ?_
    refine Rx.next ?_
    refine Gx.cond rfl (fun h21 => ?_) (fun h21 => ?_)
    · -- way
      have h21 := bnot_t h21
      -- region 4
      refine Gx.seq_region ?_
      refine Rx.q rfl (.assign rfl) ?_
      refine Rx.next ?_
      refine Gx.ret fun aa ww hzz => (then_ret (fin_tmp hzz rfl rfl (⟨rfl, rfl⟩)))
    · -- way
      have h21 := bnot_f h21
      have hp := h21
      obtain ⟨hw, hh, hle⟩ := Pl.right_iff.1 hp
      have hsz := mul_sides hw hh
      have hM : 1 ≤ 1 + m % 65535 ∧ 1 + m % 65535 ≤ 65535 := by omega
      have hS : shadesS p (1 + m % 65535) = shadeR p (1 + m % 65535) p.h.toNat := by rw [shadesS, if_pos ⟨hp, hM.1, hM.2⟩]
      have hlen := shadeR_len (1 + m % 65535) hp p.h.toNat (Nat.le_refl _)
      have hlen2 : ((shadesS p (1 + m % 65535)).length : Int) = (p.w + 1) * p.h := by
        rw [hS, hlen, Int.natCast_mul, Int.toNat_of_nonneg (by omega), Int.mul_comm]
        congr 1; omega
      have hmul : (p.w + 1) * p.h = p.w * p.h + p.h := by rw [Int.add_mul, Int.one_mul]
      refine Gx.skip fun aa ww hzz => (then_normal (Gx.go hzz ?_))
      -- region 5
      refine Gx.seq_region ?_
      refine Rx.q rfl (.move rfl) ?_
      refine Rx.q rfl (.rem_ rfl rfl (by omega)) ?_
      refine Rx.q rfl ((OpQ.convert rfl).val (u := .int .i64 (m % 65535)) (by congr 1; exact wrap_in (by omega))) ?_
      refine Rx.q rfl (.add_ rfl rfl (by omega)) ?_
      refine Rx.q rfl (.assign rfl) ?_
      refine Rx.next ?_
      -- region 6
      refine Gx.seq_region ?_
      refine Rx.q rfl (.ldc rfl (by rfl)) ?_
      refine Rx.q rfl (.move rfl) ?_
      refine Rx.q rfl (.cal (caps := []) (text_Shades p v (1 + m % 65535) (by omega) hz ho) rfl rfl) ?_
      refine Rx.q rfl (.assign rfl) ?_
      refine Rx.next ?_
      refine Gx.seq ?_
      -- region 7
      refine Gx.seq_region ?_
      refine Rx.q rfl (.move rfl) ?_
      refine Rx.q rfl (.len_s rfl) ?_
      refine Rx.q rfl (.fieldAddr rfl) ?_
      refine Rx.q rfl (.ld rfl rfl) ?_
      refine Rx.q rfl (.add_ rfl rfl (by omega)) ?_
      refine Rx.q rfl (.fieldAddr rfl) ?_
      refine Rx.q rfl (.ld rfl rfl) ?_
      refine Rx.q rfl (.mul_ rfl rfl (by omega)) ?_
      refine Rx.q rfl ((OpQ.neq rfl rfl).val (u := .bool false) (congrArg Value.bool (decide_eq_false (by rw [hlen2]; simp)))) ?_
      refine Rx.next ?_
      refine Gx.cond_f rfl ?_
      refine Gx.skip fun aa ww hzz => (then_normal (Gx.go hzz ?_))
      -- region 9
      refine Gx.seq_region ?_
      refine Rx.q rfl (.assign rfl) ?_
      refine Rx.next ?_
      refine Gx.seq ?_
      -- region 10
      refine Gx.seq_region ?_
      refine Rx.q rfl (.fieldAddr rfl) ?_
      refine Rx.q rfl (.ld rfl rfl) ?_
      refine Rx.q rfl (.lens rfl) ?_
      refine Rx.q rfl (.move rfl) ?_
      refine Rx.next ?_
      refine Gx.block ?_
      generalize hMM : 1 + m % 65535 = M at *
      refine Gx.lp (α := Nat) (fun j => j ≤ p.l.length) (fun j => p.l.length - j) (fun j => [(2, .pointer (some ⟨b2, 0, none⟩)), (5, .int .i64 M), (6, str (shadesS p M)), (7, .func (.func 32) #[] #[]), (39, v), (40, .int .i64 p.l.length), (41, .int .i64 j)])
        (fun j => [pt b2 37 (plC p v)]) (0) (Nat.zero_le _) ?_ (fun j hx => ?_)
      · exact (.cons rfl (.cons rfl (.cons rfl (.cons rfl (.cons rfl (.cons rfl (.cons rfl .nil)))))))
      -- region 11
      refine Gx.seq_region ?_
      refine Rx.q rfl (.lss rfl rfl) ?_
      refine Rx.next ?_
      refine Gx.seq ?_
      refine Gx.cond rfl (fun h42 => ?_) (fun h42 => ?_)
      · -- way
        have h42 := of_decide_eq_true h42
        have hj : j < p.l.length := by omega
        obtain ⟨e1, e2, hq, hr, hqr⟩ := pos_facts hp hj
        have hb : (j / p.w.toNat + 1) * (p.w.toNat + 1) ≤ p.h.toNat * (p.w.toNat + 1) := Nat.mul_le_mul_right _ hq
        rw [Nat.succ_mul] at hb
        have hbl : j / p.w.toNat * (p.w.toNat + 1) + j % p.w.toNat < (shadesS p M).length := by rw [hS, hlen]; omega
        have hbl2 : (shadesS p M).length ≤ 1025 * 1024 := by rw [hS, hlen]; exact Nat.le_trans (Nat.mul_le_mul (by omega : p.h.toNat ≤ 1024) (by omega : p.w.toNat + 1 ≤ 1025)) (by omega)
        have e3 : (j : Int) / p.w * (p.w + 1) = ((j / p.w.toNat * (p.w.toNat + 1) : Nat) : Int) := by
          rw [e1, Int.natCast_mul]; congr 1; omega
        have hat := shadeR_at M hp p.h.toNat (Nat.le_refl _) _ _ hq hr
        rw [← hS, hqr] at hat
        have hk := (shade_eq M (p.l.getD j 0) hM.1).1
        refine Gx.skip fun aa ww hzz => (then_normal (Gx.go hzz ?_))
        refine Gx.seq ?_
        refine Gx.block ?_
        -- region 12
        refine Gx.seq_region ?_
        refine Rx.q rfl (.move rfl) ?_
        refine Rx.q rfl (.idx (j := j) rfl rfl (by omega) (by omega)) ?_
        refine Rx.q rfl (.ldi (l := p.l) rfl rfl hj) ?_
        refine Rx.q rfl (.assign rfl) ?_
        refine Rx.q rfl (.assign rfl) ?_
        refine Rx.next ?_
        refine Gx.seq ?_
        -- region 13
        refine Gx.region_quiet mixed (by kernel_rfl) ?_
        refine Dx.q rfl (.move rfl) ?_
        refine Dx.q rfl (.move rfl) ?_
        refine Dx.q rfl (.move rfl) ?_
        refine Dx.q rfl (.fieldAddr rfl) ?_
        refine Dx.q rfl (.ld rfl rfl) ?_
        refine Dx.q rfl (.quo_ rfl rfl (by omega)) ?_
        refine Dx.q rfl (.fieldAddr rfl) ?_
        refine Dx.q rfl (.ld rfl rfl) ?_
        refine Dx.q rfl (.add_ rfl rfl (by omega)) ?_
        refine Dx.q rfl (.mul_ rfl rfl (by rw [e3]; omega)) ?_
        refine Dx.q rfl (.move rfl) ?_
        refine Dx.q rfl (.fieldAddr rfl) ?_
        refine Dx.q rfl (.ld rfl rfl) ?_
        refine Dx.q rfl (.rem_ rfl rfl (by omega)) ?_
        refine Dx.q rfl (.add_ rfl rfl (by rw [e3, e2]; omega)) ?_
        refine Dx.q rfl (.idx_s (p := shadesS p M) (j := j / p.w.toNat * (p.w.toNat + 1) + j % p.w.toNat) rfl rfl (by rw [e3, e2]; omega) (by rw [e3, e2]; omega)) ?_
        refine Dx.q rfl ((OpQ.cal (caps := []) (law38_where _) rfl rfl).val (u := .int .i64 (shadeI M (p.l.getD j 0))) (by rw [hat, hk])) ?_
        refine Dx.q rfl (.assign rfl) ?_
        refine Dx.nextQ ?_
        refine Gx.seq ?_
        -- region 14
        refine Gx.region_quiet mixed (by kernel_rfl) ?_
        refine Dx.q rfl (.move rfl) ?_
        refine Dx.q rfl ((OpQ.lss rfl rfl).val (u := .bool false) (congrArg Value.bool (decide_eq_false (by omega)))) ?_
        refine Dx.q rfl (.move rfl) ?_
        refine Dx.guard_yes rfl rfl rfl (Dx.q rfl (.move rfl) ?_)
        refine Dx.guard_yes rfl rfl rfl (Dx.q rfl (.leq rfl rfl) ?_)
        refine Dx.guard_yes rfl rfl rfl (Dx.q rfl (.move rfl) ?_)
        refine Dx.split 68 rfl (fun h68 => ?_) (fun h68 => ?_)
        · -- way
          have h68 := of_decide_eq_true h68
          refine Dx.guard_yes rfl rfl rfl (Dx.q rfl (.move rfl) ?_)
          refine Dx.guard_yes rfl rfl rfl (Dx.q rfl ((OpQ.neq rfl rfl).val (u := .bool false) (congrArg Value.bool (decide_eq_false (by rw [shade_low hM.1 h68]; simp)))) ?_)
          refine Dx.guard_yes rfl rfl rfl (Dx.q rfl (.pick_t rfl rfl) ?_)
          refine Dx.q rfl (.pick_f rfl rfl) ?_
          refine Dx.q rfl (.move rfl) ?_
          refine Dx.guard_yes rfl rfl rfl (Dx.q rfl (.move rfl) ?_)
          refine Dx.guard_yes rfl rfl rfl (Dx.q rfl (.move rfl) ?_)
          refine Dx.guard_yes rfl rfl rfl (Dx.q rfl (.geq rfl rfl) ?_)
          refine Dx.guard_yes rfl rfl rfl (Dx.q rfl (.move rfl) ?_)
          refine Dx.split 77 rfl (fun h77 => ?_) (fun h77 => ?_)
          · -- way
            have h77 := of_decide_eq_true h77
            refine Dx.guard_yes rfl rfl rfl (Dx.q rfl (.move rfl) ?_)
            refine Dx.guard_yes rfl rfl rfl (Dx.q rfl (.geq rfl rfl) ?_)
            refine Dx.guard_yes rfl rfl rfl (Dx.q rfl (.pick_t rfl rfl) ?_)
            refine Dx.guard_yes rfl rfl rfl (Dx.q rfl (.move rfl) ?_)
            refine Dx.split 81 rfl (fun h81 => ?_) (fun h81 => ?_)
            · -- way
              have h81 := of_decide_eq_true h81
              refine Dx.guard_yes rfl rfl rfl (Dx.q rfl (.move rfl) ?_)
              refine Dx.guard_yes rfl rfl rfl (Dx.q rfl ((OpQ.neq rfl rfl).val (u := .bool false) (congrArg Value.bool (decide_eq_false (by rw [shade_high h81 h77]; simp)))) ?_)
              refine Dx.guard_yes rfl rfl rfl (Dx.q rfl (.pick_t rfl rfl) ?_)
              refine Dx.q rfl (.pick_f rfl rfl) ?_
              refine Dx.q rfl (.move rfl) ?_
              refine Dx.guard_yes rfl rfl rfl (Dx.q rfl (.move rfl) ?_)
              refine Dx.guard_yes rfl rfl rfl (Dx.q rfl (.fieldAddr rfl) ?_)
              refine Dx.guard_yes rfl rfl rfl (Dx.q rfl (.ld rfl rfl) ?_)
              refine Dx.guard_yes rfl rfl rfl (Dx.q rfl (.rem_ rfl rfl (by omega)) ?_)
              refine Dx.guard_yes rfl rfl rfl (Dx.q rfl (.gtr rfl rfl) ?_)
              refine Dx.guard_yes rfl rfl rfl (Dx.q rfl (.move rfl) ?_)
              refine Dx.split 92 rfl (fun h92 => ?_) (fun h92 => ?_)
              · -- way
                have h92 := of_decide_eq_true h92
                refine Dx.guard_yes rfl rfl rfl (Dx.q rfl (.move rfl) ?_)
                refine Dx.guard_yes rfl rfl rfl (Dx.q rfl (.fieldAddr rfl) ?_)
                refine Dx.guard_yes rfl rfl rfl (Dx.q rfl (.ld rfl rfl) ?_)
                refine Dx.guard_yes rfl rfl rfl (Dx.q rfl (.move rfl) ?_)
                refine Dx.guard_yes rfl rfl rfl (Dx.q rfl (.sub_ rfl rfl (by omega)) ?_)
                refine Dx.guard_yes rfl rfl rfl (Dx.q rfl (.idx (j := j - 1) rfl rfl (by rw [e2] at h92; omega) (by omega)) ?_)
                refine Dx.guard_yes rfl rfl rfl (Dx.q rfl (.ldi (l := p.l) rfl rfl (by omega)) ?_)
                refine Dx.guard_yes rfl rfl rfl (Dx.q rfl (.geq rfl rfl) ?_)
                refine Dx.guard_yes rfl rfl rfl (Dx.q rfl (.pick_t rfl rfl) ?_)
                refine Dx.guard_yes rfl rfl rfl (Dx.q rfl (.move rfl) ?_)
                refine Dx.split 102 rfl (fun h102 => ?_) (fun h102 => ?_)
                · -- way
                  have h102 := of_decide_eq_true h102
                  have hj1 : 0 < j % p.w.toNat := by omega
                  have hjp : 0 < j := by
                    rcases Nat.eq_zero_or_pos j with e | e
                    · subst e; simp at hj1
                    · exact e
                  obtain ⟨f1, f2, fq, fr, fqr⟩ := pos_facts hp (j := j - 1) (by omega)
                  have hprev : (j - 1) / p.w.toNat = j / p.w.toNat ∧ (j - 1) % p.w.toNat = j % p.w.toNat - 1 := prev_facts hj1 (by omega)
                  have hat2 := shadeR_at M hp p.h.toNat (Nat.le_refl _) _ _ fq fr
                  rw [← hS, fqr, hprev.1, hprev.2] at hat2
                  have hk2 := (shade_eq M (p.l.getD (j - 1) 0) hM.1).1
                  have hmono := shade_mono hM.1 h102
                  refine Dx.guard_yes rfl rfl rfl (Dx.q rfl (.move rfl) ?_)
                  refine Dx.guard_yes rfl rfl rfl (Dx.q rfl (.move rfl) ?_)
                  refine Dx.guard_yes rfl rfl rfl (Dx.q rfl (.move rfl) ?_)
                  refine Dx.guard_yes rfl rfl rfl (Dx.q rfl (.move rfl) ?_)
                  refine Dx.guard_yes rfl rfl rfl (Dx.q rfl (.fieldAddr rfl) ?_)
                  refine Dx.guard_yes rfl rfl rfl (Dx.q rfl (.ld rfl rfl) ?_)
                  refine Dx.guard_yes rfl rfl rfl (Dx.q rfl (.quo_ rfl rfl (by omega)) ?_)
                  refine Dx.guard_yes rfl rfl rfl (Dx.q rfl (.fieldAddr rfl) ?_)
                  refine Dx.guard_yes rfl rfl rfl (Dx.q rfl (.ld rfl rfl) ?_)
                  refine Dx.guard_yes rfl rfl rfl (Dx.q rfl (.add_ rfl rfl (by omega)) ?_)
                  refine Dx.guard_yes rfl rfl rfl (Dx.q rfl (.mul_ rfl rfl (by rw [e3]; omega)) ?_)
                  refine Dx.guard_yes rfl rfl rfl (Dx.q rfl (.move rfl) ?_)
                  refine Dx.guard_yes rfl rfl rfl (Dx.q rfl (.fieldAddr rfl) ?_)
                  refine Dx.guard_yes rfl rfl rfl (Dx.q rfl (.ld rfl rfl) ?_)
                  refine Dx.guard_yes rfl rfl rfl (Dx.q rfl (.rem_ rfl rfl (by omega)) ?_)
                  refine Dx.guard_yes rfl rfl rfl (Dx.q rfl (.add_ rfl rfl (by rw [e3, e2]; omega)) ?_)
                  refine Dx.guard_yes rfl rfl rfl (Dx.q rfl (.sub_ rfl rfl (by rw [e3, e2]; omega)) ?_)
                  refine Dx.guard_yes rfl rfl rfl (Dx.q rfl (.idx_s (p := shadesS p M) (j := j / p.w.toNat * (p.w.toNat + 1) + (j % p.w.toNat - 1)) rfl rfl (by rw [e3, e2]; omega) (by rw [e3, e2]; omega)) ?_)
                  refine Dx.guard_yes rfl rfl rfl (Dx.q rfl ((OpQ.cal (caps := []) (law38_where _) rfl rfl).val (u := .int .i64 (shadeI M (p.l.getD (j - 1) 0))) (by rw [hat2, hk2])) ?_)
                  refine Dx.guard_yes rfl rfl rfl (Dx.q rfl ((OpQ.lss rfl rfl).val (u := .bool false) (congrArg Value.bool (decide_eq_false (by omega)))) ?_)
                  refine Dx.guard_yes rfl rfl rfl (Dx.q rfl (.pick_t rfl rfl) ?_)
                  refine Dx.q rfl (.pick_f rfl rfl) ?_
                  refine Dx.nextQ ?_
                  refine Gx.cond_f rfl ?_
                  refine Gx.skip fun aa ww hzz => (blk_normal (then_normal (Gx.go hzz ?_)))
                  -- region 16
                  refine Gx.region ?_
                  refine Rx.q rfl (.add_ rfl rfl (by omega)) ?_
                  refine Rx.q rfl (.move rfl) ?_
                  refine Rx.nil fun aa ww hzz => (then_normal ⟨j + 1, by omega, (by omega), hzz.to (.cons rfl (.cons rfl (.cons rfl (.cons rfl (.cons rfl (.cons rfl (.cons rfl .nil)))))))⟩)
                · -- way
                  have h102 := of_decide_eq_false h102
                  refine Dx.guard_no rfl rfl rfl rfl rfl ?_
                  refine Dx.guard_no rfl rfl rfl rfl rfl ?_
                  refine Dx.guard_no rfl rfl rfl rfl rfl ?_
                  refine Dx.guard_no rfl rfl rfl rfl rfl ?_
                  refine Dx.guard_no rfl rfl rfl rfl rfl ?_
                  refine Dx.guard_no rfl rfl rfl rfl rfl ?_
                  refine Dx.guard_no rfl rfl rfl rfl rfl ?_
                  refine Dx.guard_no rfl rfl rfl rfl rfl ?_
                  refine Dx.guard_no rfl rfl rfl rfl rfl ?_
                  refine Dx.guard_no rfl rfl rfl rfl rfl ?_
                  refine Dx.guard_no rfl rfl rfl rfl rfl ?_
                  refine Dx.guard_no rfl rfl rfl rfl rfl ?_
                  refine Dx.guard_no rfl rfl rfl rfl rfl ?_
                  refine Dx.guard_no rfl rfl rfl rfl rfl ?_
                  refine Dx.guard_no rfl rfl rfl rfl rfl ?_
                  refine Dx.guard_no rfl rfl rfl rfl rfl ?_
                  refine Dx.guard_no rfl rfl rfl rfl rfl ?_
                  refine Dx.guard_no rfl rfl rfl rfl rfl ?_
                  refine Dx.guard_no rfl rfl rfl rfl rfl ?_
                  refine Dx.guard_no rfl rfl rfl rfl rfl ?_
                  refine Dx.guard_yes rfl rfl rfl (Dx.q rfl (.pick_f rfl rfl) ?_)
                  refine Dx.q rfl (.pick_f rfl rfl) ?_
                  refine Dx.nextQ ?_
                  refine Gx.cond_f rfl ?_
                  refine Gx.skip fun aa ww hzz => (blk_normal (then_normal (Gx.go hzz ?_)))
                  -- region 16
                  refine Gx.region ?_
                  refine Rx.q rfl (.add_ rfl rfl (by omega)) ?_
                  refine Rx.q rfl (.move rfl) ?_
                  refine Rx.nil fun aa ww hzz => (then_normal ⟨j + 1, by omega, (by omega), hzz.to (.cons rfl (.cons rfl (.cons rfl (.cons rfl (.cons rfl (.cons rfl (.cons rfl .nil)))))))⟩)
              · -- way
                have h92 := of_decide_eq_false h92
                refine Dx.guard_no rfl rfl rfl rfl rfl ?_
                refine Dx.guard_no rfl rfl rfl rfl rfl ?_
                refine Dx.guard_no rfl rfl rfl rfl rfl ?_
                refine Dx.guard_no rfl rfl rfl rfl rfl ?_
                refine Dx.guard_no rfl rfl rfl rfl rfl ?_
                refine Dx.guard_no rfl rfl rfl rfl rfl ?_
                refine Dx.guard_no rfl rfl rfl rfl rfl ?_
                refine Dx.guard_no rfl rfl rfl rfl rfl ?_
                refine Dx.guard_yes rfl rfl rfl (Dx.q rfl (.pick_f rfl rfl) ?_)
                refine Dx.guard_yes rfl rfl rfl (Dx.q rfl (.move rfl) ?_)
                refine Dx.guard_no rfl rfl rfl rfl rfl ?_
                refine Dx.guard_no rfl rfl rfl rfl rfl ?_
                refine Dx.guard_no rfl rfl rfl rfl rfl ?_
                refine Dx.guard_no rfl rfl rfl rfl rfl ?_
                refine Dx.guard_no rfl rfl rfl rfl rfl ?_
                refine Dx.guard_no rfl rfl rfl rfl rfl ?_
                refine Dx.guard_no rfl rfl rfl rfl rfl ?_
                refine Dx.guard_no rfl rfl rfl rfl rfl ?_
                refine Dx.guard_no rfl rfl rfl rfl rfl ?_
                refine Dx.guard_no rfl rfl rfl rfl rfl ?_
                refine Dx.guard_no rfl rfl rfl rfl rfl ?_
                refine Dx.guard_no rfl rfl rfl rfl rfl ?_
                refine Dx.guard_no rfl rfl rfl rfl rfl ?_
                refine Dx.guard_no rfl rfl rfl rfl rfl ?_
                refine Dx.guard_no rfl rfl rfl rfl rfl ?_
                refine Dx.guard_no rfl rfl rfl rfl rfl ?_
                refine Dx.guard_no rfl rfl rfl rfl rfl ?_
                refine Dx.guard_no rfl rfl rfl rfl rfl ?_
                refine Dx.guard_no rfl rfl rfl rfl rfl ?_
                refine Dx.guard_no rfl rfl rfl rfl rfl ?_
                refine Dx.guard_yes rfl rfl rfl (Dx.q rfl (.pick_f rfl rfl) ?_)
                refine Dx.q rfl (.pick_f rfl rfl) ?_
                refine Dx.nextQ ?_
                refine Gx.cond_f rfl ?_
                refine Gx.skip fun aa ww hzz => (blk_normal (then_normal (Gx.go hzz ?_)))
                -- region 16
                refine Gx.region ?_
                refine Rx.q rfl (.add_ rfl rfl (by omega)) ?_
                refine Rx.q rfl (.move rfl) ?_
                refine Rx.nil fun aa ww hzz => (then_normal ⟨j + 1, by omega, (by omega), hzz.to (.cons rfl (.cons rfl (.cons rfl (.cons rfl (.cons rfl (.cons rfl (.cons rfl .nil)))))))⟩)
            · -- way
              have h81 := of_decide_eq_false h81
              refine Dx.guard_no rfl rfl rfl rfl rfl ?_
              refine Dx.guard_no rfl rfl rfl rfl rfl ?_
              refine Dx.guard_yes rfl rfl rfl (Dx.q rfl (.pick_f rfl rfl) ?_)
              refine Dx.q rfl (.pick_f rfl rfl) ?_
              refine Dx.q rfl (.move rfl) ?_
              refine Dx.guard_yes rfl rfl rfl (Dx.q rfl (.move rfl) ?_)
              refine Dx.guard_yes rfl rfl rfl (Dx.q rfl (.fieldAddr rfl) ?_)
              refine Dx.guard_yes rfl rfl rfl (Dx.q rfl (.ld rfl rfl) ?_)
              refine Dx.guard_yes rfl rfl rfl (Dx.q rfl (.rem_ rfl rfl (by omega)) ?_)
              refine Dx.guard_yes rfl rfl rfl (Dx.q rfl (.gtr rfl rfl) ?_)
              refine Dx.guard_yes rfl rfl rfl (Dx.q rfl (.move rfl) ?_)
              refine Dx.split 92 rfl (fun h92 => ?_) (fun h92 => ?_)
              · -- way
                have h92 := of_decide_eq_true h92
                refine Dx.guard_yes rfl rfl rfl (Dx.q rfl (.move rfl) ?_)
                refine Dx.guard_yes rfl rfl rfl (Dx.q rfl (.fieldAddr rfl) ?_)
                refine Dx.guard_yes rfl rfl rfl (Dx.q rfl (.ld rfl rfl) ?_)
                refine Dx.guard_yes rfl rfl rfl (Dx.q rfl (.move rfl) ?_)
                refine Dx.guard_yes rfl rfl rfl (Dx.q rfl (.sub_ rfl rfl (by omega)) ?_)
                refine Dx.guard_yes rfl rfl rfl (Dx.q rfl (.idx (j := j - 1) rfl rfl (by rw [e2] at h92; omega) (by omega)) ?_)
                refine Dx.guard_yes rfl rfl rfl (Dx.q rfl (.ldi (l := p.l) rfl rfl (by omega)) ?_)
                refine Dx.guard_yes rfl rfl rfl (Dx.q rfl (.geq rfl rfl) ?_)
                refine Dx.guard_yes rfl rfl rfl (Dx.q rfl (.pick_t rfl rfl) ?_)
                refine Dx.guard_yes rfl rfl rfl (Dx.q rfl (.move rfl) ?_)
                refine Dx.split 102 rfl (fun h102 => ?_) (fun h102 => ?_)
                · -- way
                  have h102 := of_decide_eq_true h102
                  have hj1 : 0 < j % p.w.toNat := by omega
                  have hjp : 0 < j := by
                    rcases Nat.eq_zero_or_pos j with e | e
                    · subst e; simp at hj1
                    · exact e
                  obtain ⟨f1, f2, fq, fr, fqr⟩ := pos_facts hp (j := j - 1) (by omega)
                  have hprev : (j - 1) / p.w.toNat = j / p.w.toNat ∧ (j - 1) % p.w.toNat = j % p.w.toNat - 1 := prev_facts hj1 (by omega)
                  have hat2 := shadeR_at M hp p.h.toNat (Nat.le_refl _) _ _ fq fr
                  rw [← hS, fqr, hprev.1, hprev.2] at hat2
                  have hk2 := (shade_eq M (p.l.getD (j - 1) 0) hM.1).1
                  have hmono := shade_mono hM.1 h102
                  refine Dx.guard_yes rfl rfl rfl (Dx.q rfl (.move rfl) ?_)
                  refine Dx.guard_yes rfl rfl rfl (Dx.q rfl (.move rfl) ?_)
                  refine Dx.guard_yes rfl rfl rfl (Dx.q rfl (.move rfl) ?_)
                  refine Dx.guard_yes rfl rfl rfl (Dx.q rfl (.move rfl) ?_)
                  refine Dx.guard_yes rfl rfl rfl (Dx.q rfl (.fieldAddr rfl) ?_)
                  refine Dx.guard_yes rfl rfl rfl (Dx.q rfl (.ld rfl rfl) ?_)
                  refine Dx.guard_yes rfl rfl rfl (Dx.q rfl (.quo_ rfl rfl (by omega)) ?_)
                  refine Dx.guard_yes rfl rfl rfl (Dx.q rfl (.fieldAddr rfl) ?_)
                  refine Dx.guard_yes rfl rfl rfl (Dx.q rfl (.ld rfl rfl) ?_)
                  refine Dx.guard_yes rfl rfl rfl (Dx.q rfl (.add_ rfl rfl (by omega)) ?_)
                  refine Dx.guard_yes rfl rfl rfl (Dx.q rfl (.mul_ rfl rfl (by rw [e3]; omega)) ?_)
                  refine Dx.guard_yes rfl rfl rfl (Dx.q rfl (.move rfl) ?_)
                  refine Dx.guard_yes rfl rfl rfl (Dx.q rfl (.fieldAddr rfl) ?_)
                  refine Dx.guard_yes rfl rfl rfl (Dx.q rfl (.ld rfl rfl) ?_)
                  refine Dx.guard_yes rfl rfl rfl (Dx.q rfl (.rem_ rfl rfl (by omega)) ?_)
                  refine Dx.guard_yes rfl rfl rfl (Dx.q rfl (.add_ rfl rfl (by rw [e3, e2]; omega)) ?_)
                  refine Dx.guard_yes rfl rfl rfl (Dx.q rfl (.sub_ rfl rfl (by rw [e3, e2]; omega)) ?_)
                  refine Dx.guard_yes rfl rfl rfl (Dx.q rfl (.idx_s (p := shadesS p M) (j := j / p.w.toNat * (p.w.toNat + 1) + (j % p.w.toNat - 1)) rfl rfl (by rw [e3, e2]; omega) (by rw [e3, e2]; omega)) ?_)
                  refine Dx.guard_yes rfl rfl rfl (Dx.q rfl ((OpQ.cal (caps := []) (law38_where _) rfl rfl).val (u := .int .i64 (shadeI M (p.l.getD (j - 1) 0))) (by rw [hat2, hk2])) ?_)
                  refine Dx.guard_yes rfl rfl rfl (Dx.q rfl ((OpQ.lss rfl rfl).val (u := .bool false) (congrArg Value.bool (decide_eq_false (by omega)))) ?_)
                  refine Dx.guard_yes rfl rfl rfl (Dx.q rfl (.pick_t rfl rfl) ?_)
                  refine Dx.q rfl (.pick_f rfl rfl) ?_
                  refine Dx.nextQ ?_
                  refine Gx.cond_f rfl ?_
                  refine Gx.skip fun aa ww hzz => (blk_normal (then_normal (Gx.go hzz ?_)))
                  -- region 16
                  refine Gx.region ?_
                  refine Rx.q rfl (.add_ rfl rfl (by omega)) ?_
                  refine Rx.q rfl (.move rfl) ?_
                  refine Rx.nil fun aa ww hzz => (then_normal ⟨j + 1, by omega, (by omega), hzz.to (.cons rfl (.cons rfl (.cons rfl (.cons rfl (.cons rfl (.cons rfl (.cons rfl .nil)))))))⟩)
                · -- way
                  have h102 := of_decide_eq_false h102
                  refine Dx.guard_no rfl rfl rfl rfl rfl ?_
                  refine Dx.guard_no rfl rfl rfl rfl rfl ?_
                  refine Dx.guard_no rfl rfl rfl rfl rfl ?_
                  refine Dx.guard_no rfl rfl rfl rfl rfl ?_
                  refine Dx.guard_no rfl rfl rfl rfl rfl ?_
                  refine Dx.guard_no rfl rfl rfl rfl rfl ?_
                  refine Dx.guard_no rfl rfl rfl rfl rfl ?_
                  refine Dx.guard_no rfl rfl rfl rfl rfl ?_
                  refine Dx.guard_no rfl rfl rfl rfl rfl ?_
                  refine Dx.guard_no rfl rfl rfl rfl rfl ?_
                  refine Dx.guard_no rfl rfl rfl rfl rfl ?_
                  refine Dx.guard_no rfl rfl rfl rfl rfl ?_
                  refine Dx.guard_no rfl rfl rfl rfl rfl ?_
                  refine Dx.guard_no rfl rfl rfl rfl rfl ?_
                  refine Dx.guard_no rfl rfl rfl rfl rfl ?_
                  refine Dx.guard_no rfl rfl rfl rfl rfl ?_
                  refine Dx.guard_no rfl rfl rfl rfl rfl ?_
                  refine Dx.guard_no rfl rfl rfl rfl rfl ?_
                  refine Dx.guard_no rfl rfl rfl rfl rfl ?_
                  refine Dx.guard_no rfl rfl rfl rfl rfl ?_
                  refine Dx.guard_yes rfl rfl rfl (Dx.q rfl (.pick_f rfl rfl) ?_)
                  refine Dx.q rfl (.pick_f rfl rfl) ?_
                  refine Dx.nextQ ?_
                  refine Gx.cond_f rfl ?_
                  refine Gx.skip fun aa ww hzz => (blk_normal (then_normal (Gx.go hzz ?_)))
                  -- region 16
                  refine Gx.region ?_
                  refine Rx.q rfl (.add_ rfl rfl (by omega)) ?_
                  refine Rx.q rfl (.move rfl) ?_
                  refine Rx.nil fun aa ww hzz => (then_normal ⟨j + 1, by omega, (by omega), hzz.to (.cons rfl (.cons rfl (.cons rfl (.cons rfl (.cons rfl (.cons rfl (.cons rfl .nil)))))))⟩)
              · -- way
                have h92 := of_decide_eq_false h92
                refine Dx.guard_no rfl rfl rfl rfl rfl ?_
                refine Dx.guard_no rfl rfl rfl rfl rfl ?_
                refine Dx.guard_no rfl rfl rfl rfl rfl ?_
                refine Dx.guard_no rfl rfl rfl rfl rfl ?_
                refine Dx.guard_no rfl rfl rfl rfl rfl ?_
                refine Dx.guard_no rfl rfl rfl rfl rfl ?_
                refine Dx.guard_no rfl rfl rfl rfl rfl ?_
                refine Dx.guard_no rfl rfl rfl rfl rfl ?_
                refine Dx.guard_yes rfl rfl rfl (Dx.q rfl (.pick_f rfl rfl) ?_)
                refine Dx.guard_yes rfl rfl rfl (Dx.q rfl (.move rfl) ?_)
                refine Dx.guard_no rfl rfl rfl rfl rfl ?_
                refine Dx.guard_no rfl rfl rfl rfl rfl ?_
                refine Dx.guard_no rfl rfl rfl rfl rfl ?_
                refine Dx.guard_no rfl rfl rfl rfl rfl ?_
                refine Dx.guard_no rfl rfl rfl rfl rfl ?_
                refine Dx.guard_no rfl rfl rfl rfl rfl ?_
                refine Dx.guard_no rfl rfl rfl rfl rfl ?_
                refine Dx.guard_no rfl rfl rfl rfl rfl ?_
                refine Dx.guard_no rfl rfl rfl rfl rfl ?_
                refine Dx.guard_no rfl rfl rfl rfl rfl ?_
                refine Dx.guard_no rfl rfl rfl rfl rfl ?_
                refine Dx.guard_no rfl rfl rfl rfl rfl ?_
                refine Dx.guard_no rfl rfl rfl rfl rfl ?_
                refine Dx.guard_no rfl rfl rfl rfl rfl ?_
                refine Dx.guard_no rfl rfl rfl rfl rfl ?_
                refine Dx.guard_no rfl rfl rfl rfl rfl ?_
                refine Dx.guard_no rfl rfl rfl rfl rfl ?_
                refine Dx.guard_no rfl rfl rfl rfl rfl ?_
                refine Dx.guard_no rfl rfl rfl rfl rfl ?_
                refine Dx.guard_no rfl rfl rfl rfl rfl ?_
                refine Dx.guard_yes rfl rfl rfl (Dx.q rfl (.pick_f rfl rfl) ?_)
                refine Dx.q rfl (.pick_f rfl rfl) ?_
                refine Dx.nextQ ?_
                refine Gx.cond_f rfl ?_
                refine Gx.skip fun aa ww hzz => (blk_normal (then_normal (Gx.go hzz ?_)))
                -- region 16
                refine Gx.region ?_
                refine Rx.q rfl (.add_ rfl rfl (by omega)) ?_
                refine Rx.q rfl (.move rfl) ?_
                refine Rx.nil fun aa ww hzz => (then_normal ⟨j + 1, by omega, (by omega), hzz.to (.cons rfl (.cons rfl (.cons rfl (.cons rfl (.cons rfl (.cons rfl (.cons rfl .nil)))))))⟩)
          · -- way
            have h77 := of_decide_eq_false h77
            refine Dx.guard_no rfl rfl rfl rfl rfl ?_
            refine Dx.guard_no rfl rfl rfl rfl rfl ?_
            refine Dx.guard_yes rfl rfl rfl (Dx.q rfl (.pick_f rfl rfl) ?_)
            refine Dx.guard_yes rfl rfl rfl (Dx.q rfl (.move rfl) ?_)
            refine Dx.guard_no rfl rfl rfl rfl rfl ?_
            refine Dx.guard_no rfl rfl rfl rfl rfl ?_
            refine Dx.guard_yes rfl rfl rfl (Dx.q rfl (.pick_f rfl rfl) ?_)
            refine Dx.q rfl (.pick_f rfl rfl) ?_
            refine Dx.q rfl (.move rfl) ?_
            refine Dx.guard_yes rfl rfl rfl (Dx.q rfl (.move rfl) ?_)
            refine Dx.guard_yes rfl rfl rfl (Dx.q rfl (.fieldAddr rfl) ?_)
            refine Dx.guard_yes rfl rfl rfl (Dx.q rfl (.ld rfl rfl) ?_)
            refine Dx.guard_yes rfl rfl rfl (Dx.q rfl (.rem_ rfl rfl (by omega)) ?_)
            refine Dx.guard_yes rfl rfl rfl (Dx.q rfl (.gtr rfl rfl) ?_)
            refine Dx.guard_yes rfl rfl rfl (Dx.q rfl (.move rfl) ?_)
            refine Dx.split 92 rfl (fun h92 => ?_) (fun h92 => ?_)
            · -- way
              have h92 := of_decide_eq_true h92
              refine Dx.guard_yes rfl rfl rfl (Dx.q rfl (.move rfl) ?_)
              refine Dx.guard_yes rfl rfl rfl (Dx.q rfl (.fieldAddr rfl) ?_)
              refine Dx.guard_yes rfl rfl rfl (Dx.q rfl (.ld rfl rfl) ?_)
              refine Dx.guard_yes rfl rfl rfl (Dx.q rfl (.move rfl) ?_)
              refine Dx.guard_yes rfl rfl rfl (Dx.q rfl (.sub_ rfl rfl (by omega)) ?_)
              refine Dx.guard_yes rfl rfl rfl (Dx.q rfl (.idx (j := j - 1) rfl rfl (by rw [e2] at h92; omega) (by omega)) ?_)
              refine Dx.guard_yes rfl rfl rfl (Dx.q rfl (.ldi (l := p.l) rfl rfl (by omega)) ?_)
              refine Dx.guard_yes rfl rfl rfl (Dx.q rfl (.geq rfl rfl) ?_)
              refine Dx.guard_yes rfl rfl rfl (Dx.q rfl (.pick_t rfl rfl) ?_)
              refine Dx.guard_yes rfl rfl rfl (Dx.q rfl (.move rfl) ?_)
              refine Dx.split 102 rfl (fun h102 => ?_) (fun h102 => ?_)
              · -- way
                have h102 := of_decide_eq_true h102
                have hj1 : 0 < j % p.w.toNat := by omega
                have hjp : 0 < j := by
                  rcases Nat.eq_zero_or_pos j with e | e
                  · subst e; simp at hj1
                  · exact e
                obtain ⟨f1, f2, fq, fr, fqr⟩ := pos_facts hp (j := j - 1) (by omega)
                have hprev : (j - 1) / p.w.toNat = j / p.w.toNat ∧ (j - 1) % p.w.toNat = j % p.w.toNat - 1 := prev_facts hj1 (by omega)
                have hat2 := shadeR_at M hp p.h.toNat (Nat.le_refl _) _ _ fq fr
                rw [← hS, fqr, hprev.1, hprev.2] at hat2
                have hk2 := (shade_eq M (p.l.getD (j - 1) 0) hM.1).1
                have hmono := shade_mono hM.1 h102
                refine Dx.guard_yes rfl rfl rfl (Dx.q rfl (.move rfl) ?_)
                refine Dx.guard_yes rfl rfl rfl (Dx.q rfl (.move rfl) ?_)
                refine Dx.guard_yes rfl rfl rfl (Dx.q rfl (.move rfl) ?_)
                refine Dx.guard_yes rfl rfl rfl (Dx.q rfl (.move rfl) ?_)
                refine Dx.guard_yes rfl rfl rfl (Dx.q rfl (.fieldAddr rfl) ?_)
                refine Dx.guard_yes rfl rfl rfl (Dx.q rfl (.ld rfl rfl) ?_)
                refine Dx.guard_yes rfl rfl rfl (Dx.q rfl (.quo_ rfl rfl (by omega)) ?_)
                refine Dx.guard_yes rfl rfl rfl (Dx.q rfl (.fieldAddr rfl) ?_)
                refine Dx.guard_yes rfl rfl rfl (Dx.q rfl (.ld rfl rfl) ?_)
                refine Dx.guard_yes rfl rfl rfl (Dx.q rfl (.add_ rfl rfl (by omega)) ?_)
                refine Dx.guard_yes rfl rfl rfl (Dx.q rfl (.mul_ rfl rfl (by rw [e3]; omega)) ?_)
                refine Dx.guard_yes rfl rfl rfl (Dx.q rfl (.move rfl) ?_)
                refine Dx.guard_yes rfl rfl rfl (Dx.q rfl (.fieldAddr rfl) ?_)
                refine Dx.guard_yes rfl rfl rfl (Dx.q rfl (.ld rfl rfl) ?_)
                refine Dx.guard_yes rfl rfl rfl (Dx.q rfl (.rem_ rfl rfl (by omega)) ?_)
                refine Dx.guard_yes rfl rfl rfl (Dx.q rfl (.add_ rfl rfl (by rw [e3, e2]; omega)) ?_)
                refine Dx.guard_yes rfl rfl rfl (Dx.q rfl (.sub_ rfl rfl (by rw [e3, e2]; omega)) ?_)
                refine Dx.guard_yes rfl rfl rfl (Dx.q rfl (.idx_s (p := shadesS p M) (j := j / p.w.toNat * (p.w.toNat + 1) + (j % p.w.toNat - 1)) rfl rfl (by rw [e3, e2]; omega) (by rw [e3, e2]; omega)) ?_)
                refine Dx.guard_yes rfl rfl rfl (Dx.q rfl ((OpQ.cal (caps := []) (law38_where _) rfl rfl).val (u := .int .i64 (shadeI M (p.l.getD (j - 1) 0))) (by rw [hat2, hk2])) ?_)
                refine Dx.guard_yes rfl rfl rfl (Dx.q rfl ((OpQ.lss rfl rfl).val (u := .bool false) (congrArg Value.bool (decide_eq_false (by omega)))) ?_)
                refine Dx.guard_yes rfl rfl rfl (Dx.q rfl (.pick_t rfl rfl) ?_)
                refine Dx.q rfl (.pick_f rfl rfl) ?_
                refine Dx.nextQ ?_
                refine Gx.cond_f rfl ?_
                refine Gx.skip fun aa ww hzz => (blk_normal (then_normal (Gx.go hzz ?_)))
                -- region 16
                refine Gx.region ?_
                refine Rx.q rfl (.add_ rfl rfl (by omega)) ?_
                refine Rx.q rfl (.move rfl) ?_
                refine Rx.nil fun aa ww hzz => (then_normal ⟨j + 1, by omega, (by omega), hzz.to (.cons rfl (.cons rfl (.cons rfl (.cons rfl (.cons rfl (.cons rfl (.cons rfl .nil)))))))⟩)
              · -- way
                have h102 := of_decide_eq_false h102
                refine Dx.guard_no rfl rfl rfl rfl rfl ?_
                refine Dx.guard_no rfl rfl rfl rfl rfl ?_
                refine Dx.guard_no rfl rfl rfl rfl rfl ?_
                refine Dx.guard_no rfl rfl rfl rfl rfl ?_
                refine Dx.guard_no rfl rfl rfl rfl rfl ?_
                refine Dx.guard_no rfl rfl rfl rfl rfl ?_
                refine Dx.guard_no rfl rfl rfl rfl rfl ?_
                refine Dx.guard_no rfl rfl rfl rfl rfl ?_
                refine Dx.guard_no rfl rfl rfl rfl rfl ?_
                refine Dx.guard_no rfl rfl rfl rfl rfl ?_
                refine Dx.guard_no rfl rfl rfl rfl rfl ?_
                refine Dx.guard_no rfl rfl rfl rfl rfl ?_
                refine Dx.guard_no rfl rfl rfl rfl rfl ?_
                refine Dx.guard_no rfl rfl rfl rfl rfl ?_
                refine Dx.guard_no rfl rfl rfl rfl rfl ?_
                refine Dx.guard_no rfl rfl rfl rfl rfl ?_
                refine Dx.guard_no rfl rfl rfl rfl rfl ?_
                refine Dx.guard_no rfl rfl rfl rfl rfl ?_
                refine Dx.guard_no rfl rfl rfl rfl rfl ?_
                refine Dx.guard_no rfl rfl rfl rfl rfl ?_
                refine Dx.guard_yes rfl rfl rfl (Dx.q rfl (.pick_f rfl rfl) ?_)
                refine Dx.q rfl (.pick_f rfl rfl) ?_
                refine Dx.nextQ ?_
                refine Gx.cond_f rfl ?_
                refine Gx.skip fun aa ww hzz => (blk_normal (then_normal (Gx.go hzz ?_)))
                -- region 16
                refine Gx.region ?_
                refine Rx.q rfl (.add_ rfl rfl (by omega)) ?_
                refine Rx.q rfl (.move rfl) ?_
                refine Rx.nil fun aa ww hzz => (then_normal ⟨j + 1, by omega, (by omega), hzz.to (.cons rfl (.cons rfl (.cons rfl (.cons rfl (.cons rfl (.cons rfl (.cons rfl .nil)))))))⟩)
            · -- way
              have h92 := of_decide_eq_false h92
              refine Dx.guard_no rfl rfl rfl rfl rfl ?_
              refine Dx.guard_no rfl rfl rfl rfl rfl ?_
              refine Dx.guard_no rfl rfl rfl rfl rfl ?_
              refine Dx.guard_no rfl rfl rfl rfl rfl ?_
              refine Dx.guard_no rfl rfl rfl rfl rfl ?_
              refine Dx.guard_no rfl rfl rfl rfl rfl ?_
              refine Dx.guard_no rfl rfl rfl rfl rfl ?_
              refine Dx.guard_no rfl rfl rfl rfl rfl ?_
              refine Dx.guard_yes rfl rfl rfl (Dx.q rfl (.pick_f rfl rfl) ?_)
              refine Dx.guard_yes rfl rfl rfl (Dx.q rfl (.move rfl) ?_)
              refine Dx.guard_no rfl rfl rfl rfl rfl ?_
              refine Dx.guard_no rfl rfl rfl rfl rfl ?_
              refine Dx.guard_no rfl rfl rfl rfl rfl ?_
              refine Dx.guard_no rfl rfl rfl rfl rfl ?_
              refine Dx.guard_no rfl rfl rfl rfl rfl ?_
              refine Dx.guard_no rfl rfl rfl rfl rfl ?_
              refine Dx.guard_no rfl rfl rfl rfl rfl ?_
              refine Dx.guard_no rfl rfl rfl rfl rfl ?_
              refine Dx.guard_no rfl rfl rfl rfl rfl ?_
              refine Dx.guard_no rfl rfl rfl rfl rfl ?_
              refine Dx.guard_no rfl rfl rfl rfl rfl ?_
              refine Dx.guard_no rfl rfl rfl rfl rfl ?_
              refine Dx.guard_no rfl rfl rfl rfl rfl ?_
              refine Dx.guard_no rfl rfl rfl rfl rfl ?_
              refine Dx.guard_no rfl rfl rfl rfl rfl ?_
              refine Dx.guard_no rfl rfl rfl rfl rfl ?_
              refine Dx.guard_no rfl rfl rfl rfl rfl ?_
              refine Dx.guard_no rfl rfl rfl rfl rfl ?_
              refine Dx.guard_no rfl rfl rfl rfl rfl ?_
              refine Dx.guard_no rfl rfl rfl rfl rfl ?_
              refine Dx.guard_yes rfl rfl rfl (Dx.q rfl (.pick_f rfl rfl) ?_)
              refine Dx.q rfl (.pick_f rfl rfl) ?_
              refine Dx.nextQ ?_
              refine Gx.cond_f rfl ?_
              refine Gx.skip fun aa ww hzz => (blk_normal (then_normal (Gx.go hzz ?_)))
              -- region 16
              refine Gx.region ?_
              refine Rx.q rfl (.add_ rfl rfl (by omega)) ?_
              refine Rx.q rfl (.move rfl) ?_
              refine Rx.nil fun aa ww hzz => (then_normal ⟨j + 1, by omega, (by omega), hzz.to (.cons rfl (.cons rfl (.cons rfl (.cons rfl (.cons rfl (.cons rfl (.cons rfl .nil)))))))⟩)
        · -- way
          have h68 := of_decide_eq_false h68
          refine Dx.guard_no rfl rfl rfl rfl rfl ?_
          refine Dx.guard_no rfl rfl rfl rfl rfl ?_
          refine Dx.guard_yes rfl rfl rfl (Dx.q rfl (.pick_f rfl rfl) ?_)
          refine Dx.q rfl (.pick_f rfl rfl) ?_
          refine Dx.q rfl (.move rfl) ?_
          refine Dx.guard_yes rfl rfl rfl (Dx.q rfl (.move rfl) ?_)
          refine Dx.guard_yes rfl rfl rfl (Dx.q rfl (.move rfl) ?_)
          refine Dx.guard_yes rfl rfl rfl (Dx.q rfl (.geq rfl rfl) ?_)
          refine Dx.guard_yes rfl rfl rfl (Dx.q rfl (.move rfl) ?_)
          refine Dx.split 77 rfl (fun h77 => ?_) (fun h77 => ?_)
          · -- way
            have h77 := of_decide_eq_true h77
            refine Dx.guard_yes rfl rfl rfl (Dx.q rfl (.move rfl) ?_)
            refine Dx.guard_yes rfl rfl rfl (Dx.q rfl (.geq rfl rfl) ?_)
            refine Dx.guard_yes rfl rfl rfl (Dx.q rfl (.pick_t rfl rfl) ?_)
            refine Dx.guard_yes rfl rfl rfl (Dx.q rfl (.move rfl) ?_)
            refine Dx.split 81 rfl (fun h81 => ?_) (fun h81 => ?_)
            · -- way
              have h81 := of_decide_eq_true h81
              refine Dx.guard_yes rfl rfl rfl (Dx.q rfl (.move rfl) ?_)
              refine Dx.guard_yes rfl rfl rfl (Dx.q rfl ((OpQ.neq rfl rfl).val (u := .bool false) (congrArg Value.bool (decide_eq_false (by rw [shade_high h81 h77]; simp)))) ?_)
              refine Dx.guard_yes rfl rfl rfl (Dx.q rfl (.pick_t rfl rfl) ?_)
              refine Dx.q rfl (.pick_f rfl rfl) ?_
              refine Dx.q rfl (.move rfl) ?_
              refine Dx.guard_yes rfl rfl rfl (Dx.q rfl (.move rfl) ?_)
              refine Dx.guard_yes rfl rfl rfl (Dx.q rfl (.fieldAddr rfl) ?_)
              refine Dx.guard_yes rfl rfl rfl (Dx.q rfl (.ld rfl rfl) ?_)
              refine Dx.guard_yes rfl rfl rfl (Dx.q rfl (.rem_ rfl rfl (by omega)) ?_)
              refine Dx.guard_yes rfl rfl rfl (Dx.q rfl (.gtr rfl rfl) ?_)
              refine Dx.guard_yes rfl rfl rfl (Dx.q rfl (.move rfl) ?_)
              refine Dx.split 92 rfl (fun h92 => ?_) (fun h92 => ?_)
              · -- way
                have h92 := of_decide_eq_true h92
                refine Dx.guard_yes rfl rfl rfl (Dx.q rfl (.move rfl) ?_)
                refine Dx.guard_yes rfl rfl rfl (Dx.q rfl (.fieldAddr rfl) ?_)
                refine Dx.guard_yes rfl rfl rfl (Dx.q rfl (.ld rfl rfl) ?_)
                refine Dx.guard_yes rfl rfl rfl (Dx.q rfl (.move rfl) ?_)
                refine Dx.guard_yes rfl rfl rfl (Dx.q rfl (.sub_ rfl rfl (by omega)) ?_)
                refine Dx.guard_yes rfl rfl rfl (Dx.q rfl (.idx (j := j - 1) rfl rfl (by rw [e2] at h92; omega) (by omega)) ?_)
                refine Dx.guard_yes rfl rfl rfl (Dx.q rfl (.ldi (l := p.l) rfl rfl (by omega)) ?_)
                refine Dx.guard_yes rfl rfl rfl (Dx.q rfl (.geq rfl rfl) ?_)
                refine Dx.guard_yes rfl rfl rfl (Dx.q rfl (.pick_t rfl rfl) ?_)
                refine Dx.guard_yes rfl rfl rfl (Dx.q rfl (.move rfl) ?_)
                refine Dx.split 102 rfl (fun h102 => ?_) (fun h102 => ?_)
                · -- way
                  have h102 := of_decide_eq_true h102
                  have hj1 : 0 < j % p.w.toNat := by omega
                  have hjp : 0 < j := by
                    rcases Nat.eq_zero_or_pos j with e | e
                    · subst e; simp at hj1
                    · exact e
                  obtain ⟨f1, f2, fq, fr, fqr⟩ := pos_facts hp (j := j - 1) (by omega)
                  have hprev : (j - 1) / p.w.toNat = j / p.w.toNat ∧ (j - 1) % p.w.toNat = j % p.w.toNat - 1 := prev_facts hj1 (by omega)
                  have hat2 := shadeR_at M hp p.h.toNat (Nat.le_refl _) _ _ fq fr
                  rw [← hS, fqr, hprev.1, hprev.2] at hat2
                  have hk2 := (shade_eq M (p.l.getD (j - 1) 0) hM.1).1
                  have hmono := shade_mono hM.1 h102
                  refine Dx.guard_yes rfl rfl rfl (Dx.q rfl (.move rfl) ?_)
                  refine Dx.guard_yes rfl rfl rfl (Dx.q rfl (.move rfl) ?_)
                  refine Dx.guard_yes rfl rfl rfl (Dx.q rfl (.move rfl) ?_)
                  refine Dx.guard_yes rfl rfl rfl (Dx.q rfl (.move rfl) ?_)
                  refine Dx.guard_yes rfl rfl rfl (Dx.q rfl (.fieldAddr rfl) ?_)
                  refine Dx.guard_yes rfl rfl rfl (Dx.q rfl (.ld rfl rfl) ?_)
                  refine Dx.guard_yes rfl rfl rfl (Dx.q rfl (.quo_ rfl rfl (by omega)) ?_)
                  refine Dx.guard_yes rfl rfl rfl (Dx.q rfl (.fieldAddr rfl) ?_)
                  refine Dx.guard_yes rfl rfl rfl (Dx.q rfl (.ld rfl rfl) ?_)
                  refine Dx.guard_yes rfl rfl rfl (Dx.q rfl (.add_ rfl rfl (by omega)) ?_)
                  refine Dx.guard_yes rfl rfl rfl (Dx.q rfl (.mul_ rfl rfl (by rw [e3]; omega)) ?_)
                  refine Dx.guard_yes rfl rfl rfl (Dx.q rfl (.move rfl) ?_)
                  refine Dx.guard_yes rfl rfl rfl (Dx.q rfl (.fieldAddr rfl) ?_)
                  refine Dx.guard_yes rfl rfl rfl (Dx.q rfl (.ld rfl rfl) ?_)
                  refine Dx.guard_yes rfl rfl rfl (Dx.q rfl (.rem_ rfl rfl (by omega)) ?_)
                  refine Dx.guard_yes rfl rfl rfl (Dx.q rfl (.add_ rfl rfl (by rw [e3, e2]; omega)) ?_)
                  refine Dx.guard_yes rfl rfl rfl (Dx.q rfl (.sub_ rfl rfl (by rw [e3, e2]; omega)) ?_)
                  refine Dx.guard_yes rfl rfl rfl (Dx.q rfl (.idx_s (p := shadesS p M) (j := j / p.w.toNat * (p.w.toNat + 1) + (j % p.w.toNat - 1)) rfl rfl (by rw [e3, e2]; omega) (by rw [e3, e2]; omega)) ?_)
                  refine Dx.guard_yes rfl rfl rfl (Dx.q rfl ((OpQ.cal (caps := []) (law38_where _) rfl rfl).val (u := .int .i64 (shadeI M (p.l.getD (j - 1) 0))) (by rw [hat2, hk2])) ?_)
                  refine Dx.guard_yes rfl rfl rfl (Dx.q rfl ((OpQ.lss rfl rfl).val (u := .bool false) (congrArg Value.bool (decide_eq_false (by omega)))) ?_)
                  refine Dx.guard_yes rfl rfl rfl (Dx.q rfl (.pick_t rfl rfl) ?_)
                  refine Dx.q rfl (.pick_f rfl rfl) ?_
                  refine Dx.nextQ ?_
                  refine Gx.cond_f rfl ?_
                  refine Gx.skip fun aa ww hzz => (blk_normal (then_normal (Gx.go hzz ?_)))
                  -- region 16
                  refine Gx.region ?_
                  refine Rx.q rfl (.add_ rfl rfl (by omega)) ?_
                  refine Rx.q rfl (.move rfl) ?_
                  refine Rx.nil fun aa ww hzz => (then_normal ⟨j + 1, by omega, (by omega), hzz.to (.cons rfl (.cons rfl (.cons rfl (.cons rfl (.cons rfl (.cons rfl (.cons rfl .nil)))))))⟩)
                · -- way
                  have h102 := of_decide_eq_false h102
                  refine Dx.guard_no rfl rfl rfl rfl rfl ?_
                  refine Dx.guard_no rfl rfl rfl rfl rfl ?_
                  refine Dx.guard_no rfl rfl rfl rfl rfl ?_
                  refine Dx.guard_no rfl rfl rfl rfl rfl ?_
                  refine Dx.guard_no rfl rfl rfl rfl rfl ?_
                  refine Dx.guard_no rfl rfl rfl rfl rfl ?_
                  refine Dx.guard_no rfl rfl rfl rfl rfl ?_
                  refine Dx.guard_no rfl rfl rfl rfl rfl ?_
                  refine Dx.guard_no rfl rfl rfl rfl rfl ?_
                  refine Dx.guard_no rfl rfl rfl rfl rfl ?_
                  refine Dx.guard_no rfl rfl rfl rfl rfl ?_
                  refine Dx.guard_no rfl rfl rfl rfl rfl ?_
                  refine Dx.guard_no rfl rfl rfl rfl rfl ?_
                  refine Dx.guard_no rfl rfl rfl rfl rfl ?_
                  refine Dx.guard_no rfl rfl rfl rfl rfl ?_
                  refine Dx.guard_no rfl rfl rfl rfl rfl ?_
                  refine Dx.guard_no rfl rfl rfl rfl rfl ?_
                  refine Dx.guard_no rfl rfl rfl rfl rfl ?_
                  refine Dx.guard_no rfl rfl rfl rfl rfl ?_
                  refine Dx.guard_no rfl rfl rfl rfl rfl ?_
                  refine Dx.guard_yes rfl rfl rfl (Dx.q rfl (.pick_f rfl rfl) ?_)
                  refine Dx.q rfl (.pick_f rfl rfl) ?_
                  refine Dx.nextQ ?_
                  refine Gx.cond_f rfl ?_
                  refine Gx.skip fun aa ww hzz => (blk_normal (then_normal (Gx.go hzz ?_)))
                  -- region 16
                  refine Gx.region ?_
                  refine Rx.q rfl (.add_ rfl rfl (by omega)) ?_
                  refine Rx.q rfl (.move rfl) ?_
                  refine Rx.nil fun aa ww hzz => (then_normal ⟨j + 1, by omega, (by omega), hzz.to (.cons rfl (.cons rfl (.cons rfl (.cons rfl (.cons rfl (.cons rfl (.cons rfl .nil)))))))⟩)
              · -- way
                have h92 := of_decide_eq_false h92
                refine Dx.guard_no rfl rfl rfl rfl rfl ?_
                refine Dx.guard_no rfl rfl rfl rfl rfl ?_
                refine Dx.guard_no rfl rfl rfl rfl rfl ?_
                refine Dx.guard_no rfl rfl rfl rfl rfl ?_
                refine Dx.guard_no rfl rfl rfl rfl rfl ?_
                refine Dx.guard_no rfl rfl rfl rfl rfl ?_
                refine Dx.guard_no rfl rfl rfl rfl rfl ?_
                refine Dx.guard_no rfl rfl rfl rfl rfl ?_
                refine Dx.guard_yes rfl rfl rfl (Dx.q rfl (.pick_f rfl rfl) ?_)
                refine Dx.guard_yes rfl rfl rfl (Dx.q rfl (.move rfl) ?_)
                refine Dx.guard_no rfl rfl rfl rfl rfl ?_
                refine Dx.guard_no rfl rfl rfl rfl rfl ?_
                refine Dx.guard_no rfl rfl rfl rfl rfl ?_
                refine Dx.guard_no rfl rfl rfl rfl rfl ?_
                refine Dx.guard_no rfl rfl rfl rfl rfl ?_
                refine Dx.guard_no rfl rfl rfl rfl rfl ?_
                refine Dx.guard_no rfl rfl rfl rfl rfl ?_
                refine Dx.guard_no rfl rfl rfl rfl rfl ?_
                refine Dx.guard_no rfl rfl rfl rfl rfl ?_
                refine Dx.guard_no rfl rfl rfl rfl rfl ?_
                refine Dx.guard_no rfl rfl rfl rfl rfl ?_
                refine Dx.guard_no rfl rfl rfl rfl rfl ?_
                refine Dx.guard_no rfl rfl rfl rfl rfl ?_
                refine Dx.guard_no rfl rfl rfl rfl rfl ?_
                refine Dx.guard_no rfl rfl rfl rfl rfl ?_
                refine Dx.guard_no rfl rfl rfl rfl rfl ?_
                refine Dx.guard_no rfl rfl rfl rfl rfl ?_
                refine Dx.guard_no rfl rfl rfl rfl rfl ?_
                refine Dx.guard_no rfl rfl rfl rfl rfl ?_
                refine Dx.guard_no rfl rfl rfl rfl rfl ?_
                refine Dx.guard_yes rfl rfl rfl (Dx.q rfl (.pick_f rfl rfl) ?_)
                refine Dx.q rfl (.pick_f rfl rfl) ?_
                refine Dx.nextQ ?_
                refine Gx.cond_f rfl ?_
                refine Gx.skip fun aa ww hzz => (blk_normal (then_normal (Gx.go hzz ?_)))
                -- region 16
                refine Gx.region ?_
                refine Rx.q rfl (.add_ rfl rfl (by omega)) ?_
                refine Rx.q rfl (.move rfl) ?_
                refine Rx.nil fun aa ww hzz => (then_normal ⟨j + 1, by omega, (by omega), hzz.to (.cons rfl (.cons rfl (.cons rfl (.cons rfl (.cons rfl (.cons rfl (.cons rfl .nil)))))))⟩)
            · -- way
              have h81 := of_decide_eq_false h81
              refine Dx.guard_no rfl rfl rfl rfl rfl ?_
              refine Dx.guard_no rfl rfl rfl rfl rfl ?_
              refine Dx.guard_yes rfl rfl rfl (Dx.q rfl (.pick_f rfl rfl) ?_)
              refine Dx.q rfl (.pick_f rfl rfl) ?_
              refine Dx.q rfl (.move rfl) ?_
              refine Dx.guard_yes rfl rfl rfl (Dx.q rfl (.move rfl) ?_)
              refine Dx.guard_yes rfl rfl rfl (Dx.q rfl (.fieldAddr rfl) ?_)
              refine Dx.guard_yes rfl rfl rfl (Dx.q rfl (.ld rfl rfl) ?_)
              refine Dx.guard_yes rfl rfl rfl (Dx.q rfl (.rem_ rfl rfl (by omega)) ?_)
              refine Dx.guard_yes rfl rfl rfl (Dx.q rfl (.gtr rfl rfl) ?_)
              refine Dx.guard_yes rfl rfl rfl (Dx.q rfl (.move rfl) ?_)
              refine Dx.split 92 rfl (fun h92 => ?_) (fun h92 => ?_)
              · -- way
                have h92 := of_decide_eq_true h92
                refine Dx.guard_yes rfl rfl rfl (Dx.q rfl (.move rfl) ?_)
                refine Dx.guard_yes rfl rfl rfl (Dx.q rfl (.fieldAddr rfl) ?_)
                refine Dx.guard_yes rfl rfl rfl (Dx.q rfl (.ld rfl rfl) ?_)
                refine Dx.guard_yes rfl rfl rfl (Dx.q rfl (.move rfl) ?_)
                refine Dx.guard_yes rfl rfl rfl (Dx.q rfl (.sub_ rfl rfl (by omega)) ?_)
                refine Dx.guard_yes rfl rfl rfl (Dx.q rfl (.idx (j := j - 1) rfl rfl (by rw [e2] at h92; omega) (by omega)) ?_)
                refine Dx.guard_yes rfl rfl rfl (Dx.q rfl (.ldi (l := p.l) rfl rfl (by omega)) ?_)
                refine Dx.guard_yes rfl rfl rfl (Dx.q rfl (.geq rfl rfl) ?_)
                refine Dx.guard_yes rfl rfl rfl (Dx.q rfl (.pick_t rfl rfl) ?_)
                refine Dx.guard_yes rfl rfl rfl (Dx.q rfl (.move rfl) ?_)
                refine Dx.split 102 rfl (fun h102 => ?_) (fun h102 => ?_)
                · -- way
                  have h102 := of_decide_eq_true h102
                  have hj1 : 0 < j % p.w.toNat := by omega
                  have hjp : 0 < j := by
                    rcases Nat.eq_zero_or_pos j with e | e
                    · subst e; simp at hj1
                    · exact e
                  obtain ⟨f1, f2, fq, fr, fqr⟩ := pos_facts hp (j := j - 1) (by omega)
                  have hprev : (j - 1) / p.w.toNat = j / p.w.toNat ∧ (j - 1) % p.w.toNat = j % p.w.toNat - 1 := prev_facts hj1 (by omega)
                  have hat2 := shadeR_at M hp p.h.toNat (Nat.le_refl _) _ _ fq fr
                  rw [← hS, fqr, hprev.1, hprev.2] at hat2
                  have hk2 := (shade_eq M (p.l.getD (j - 1) 0) hM.1).1
                  have hmono := shade_mono hM.1 h102
                  refine Dx.guard_yes rfl rfl rfl (Dx.q rfl (.move rfl) ?_)
                  refine Dx.guard_yes rfl rfl rfl (Dx.q rfl (.move rfl) ?_)
                  refine Dx.guard_yes rfl rfl rfl (Dx.q rfl (.move rfl) ?_)
                  refine Dx.guard_yes rfl rfl rfl (Dx.q rfl (.move rfl) ?_)
                  refine Dx.guard_yes rfl rfl rfl (Dx.q rfl (.fieldAddr rfl) ?_)
                  refine Dx.guard_yes rfl rfl rfl (Dx.q rfl (.ld rfl rfl) ?_)
                  refine Dx.guard_yes rfl rfl rfl (Dx.q rfl (.quo_ rfl rfl (by omega)) ?_)
                  refine Dx.guard_yes rfl rfl rfl (Dx.q rfl (.fieldAddr rfl) ?_)
                  refine Dx.guard_yes rfl rfl rfl (Dx.q rfl (.ld rfl rfl) ?_)
                  refine Dx.guard_yes rfl rfl rfl (Dx.q rfl (.add_ rfl rfl (by omega)) ?_)
                  refine Dx.guard_yes rfl rfl rfl (Dx.q rfl (.mul_ rfl rfl (by rw [e3]; omega)) ?_)
                  refine Dx.guard_yes rfl rfl rfl (Dx.q rfl (.move rfl) ?_)
                  refine Dx.guard_yes rfl rfl rfl (Dx.q rfl (.fieldAddr rfl) ?_)
                  refine Dx.guard_yes rfl rfl rfl (Dx.q rfl (.ld rfl rfl) ?_)
                  refine Dx.guard_yes rfl rfl rfl (Dx.q rfl (.rem_ rfl rfl (by omega)) ?_)
                  refine Dx.guard_yes rfl rfl rfl (Dx.q rfl (.add_ rfl rfl (by rw [e3, e2]; omega)) ?_)
                  refine Dx.guard_yes rfl rfl rfl (Dx.q rfl (.sub_ rfl rfl (by rw [e3, e2]; omega)) ?_)
                  refine Dx.guard_yes rfl rfl rfl (Dx.q rfl (.idx_s (p := shadesS p M) (j := j / p.w.toNat * (p.w.toNat + 1) + (j % p.w.toNat - 1)) rfl rfl (by rw [e3, e2]; omega) (by rw [e3, e2]; omega)) ?_)
                  refine Dx.guard_yes rfl rfl rfl (Dx.q rfl ((OpQ.cal (caps := []) (law38_where _) rfl rfl).val (u := .int .i64 (shadeI M (p.l.getD (j - 1) 0))) (by rw [hat2, hk2])) ?_)
                  refine Dx.guard_yes rfl rfl rfl (Dx.q rfl ((OpQ.lss rfl rfl).val (u := .bool false) (congrArg Value.bool (decide_eq_false (by omega)))) ?_)
                  refine Dx.guard_yes rfl rfl rfl (Dx.q rfl (.pick_t rfl rfl) ?_)
                  refine Dx.q rfl (.pick_f rfl rfl) ?_
                  refine Dx.nextQ ?_
                  refine Gx.cond_f rfl ?_
                  refine Gx.skip fun aa ww hzz => (blk_normal (then_normal (Gx.go hzz ?_)))
                  -- region 16
                  refine Gx.region ?_
                  refine Rx.q rfl (.add_ rfl rfl (by omega)) ?_
                  refine Rx.q rfl (.move rfl) ?_
                  refine Rx.nil fun aa ww hzz => (then_normal ⟨j + 1, by omega, (by omega), hzz.to (.cons rfl (.cons rfl (.cons rfl (.cons rfl (.cons rfl (.cons rfl (.cons rfl .nil)))))))⟩)
                · -- way
                  have h102 := of_decide_eq_false h102
                  refine Dx.guard_no rfl rfl rfl rfl rfl ?_
                  refine Dx.guard_no rfl rfl rfl rfl rfl ?_
                  refine Dx.guard_no rfl rfl rfl rfl rfl ?_
                  refine Dx.guard_no rfl rfl rfl rfl rfl ?_
                  refine Dx.guard_no rfl rfl rfl rfl rfl ?_
                  refine Dx.guard_no rfl rfl rfl rfl rfl ?_
                  refine Dx.guard_no rfl rfl rfl rfl rfl ?_
                  refine Dx.guard_no rfl rfl rfl rfl rfl ?_
                  refine Dx.guard_no rfl rfl rfl rfl rfl ?_
                  refine Dx.guard_no rfl rfl rfl rfl rfl ?_
                  refine Dx.guard_no rfl rfl rfl rfl rfl ?_
                  refine Dx.guard_no rfl rfl rfl rfl rfl ?_
                  refine Dx.guard_no rfl rfl rfl rfl rfl ?_
                  refine Dx.guard_no rfl rfl rfl rfl rfl ?_
                  refine Dx.guard_no rfl rfl rfl rfl rfl ?_
                  refine Dx.guard_no rfl rfl rfl rfl rfl ?_
                  refine Dx.guard_no rfl rfl rfl rfl rfl ?_
                  refine Dx.guard_no rfl rfl rfl rfl rfl ?_
                  refine Dx.guard_no rfl rfl rfl rfl rfl ?_
                  refine Dx.guard_no rfl rfl rfl rfl rfl ?_
                  refine Dx.guard_yes rfl rfl rfl (Dx.q rfl (.pick_f rfl rfl) ?_)
                  refine Dx.q rfl (.pick_f rfl rfl) ?_
                  refine Dx.nextQ ?_
                  refine Gx.cond_f rfl ?_
                  refine Gx.skip fun aa ww hzz => (blk_normal (then_normal (Gx.go hzz ?_)))
                  -- region 16
                  refine Gx.region ?_
                  refine Rx.q rfl (.add_ rfl rfl (by omega)) ?_
                  refine Rx.q rfl (.move rfl) ?_
                  refine Rx.nil fun aa ww hzz => (then_normal ⟨j + 1, by omega, (by omega), hzz.to (.cons rfl (.cons rfl (.cons rfl (.cons rfl (.cons rfl (.cons rfl (.cons rfl .nil)))))))⟩)
              · -- way
                have h92 := of_decide_eq_false h92
                refine Dx.guard_no rfl rfl rfl rfl rfl ?_
                refine Dx.guard_no rfl rfl rfl rfl rfl ?_
                refine Dx.guard_no rfl rfl rfl rfl rfl ?_
                refine Dx.guard_no rfl rfl rfl rfl rfl ?_
                refine Dx.guard_no rfl rfl rfl rfl rfl ?_
                refine Dx.guard_no rfl rfl rfl rfl rfl ?_
                refine Dx.guard_no rfl rfl rfl rfl rfl ?_
                refine Dx.guard_no rfl rfl rfl rfl rfl ?_
                refine Dx.guard_yes rfl rfl rfl (Dx.q rfl (.pick_f rfl rfl) ?_)
                refine Dx.guard_yes rfl rfl rfl (Dx.q rfl (.move rfl) ?_)
                refine Dx.guard_no rfl rfl rfl rfl rfl ?_
                refine Dx.guard_no rfl rfl rfl rfl rfl ?_
                refine Dx.guard_no rfl rfl rfl rfl rfl ?_
                refine Dx.guard_no rfl rfl rfl rfl rfl ?_
                refine Dx.guard_no rfl rfl rfl rfl rfl ?_
                refine Dx.guard_no rfl rfl rfl rfl rfl ?_
                refine Dx.guard_no rfl rfl rfl rfl rfl ?_
                refine Dx.guard_no rfl rfl rfl rfl rfl ?_
                refine Dx.guard_no rfl rfl rfl rfl rfl ?_
                refine Dx.guard_no rfl rfl rfl rfl rfl ?_
                refine Dx.guard_no rfl rfl rfl rfl rfl ?_
                refine Dx.guard_no rfl rfl rfl rfl rfl ?_
                refine Dx.guard_no rfl rfl rfl rfl rfl ?_
                refine Dx.guard_no rfl rfl rfl rfl rfl ?_
                refine Dx.guard_no rfl rfl rfl rfl rfl ?_
                refine Dx.guard_no rfl rfl rfl rfl rfl ?_
                refine Dx.guard_no rfl rfl rfl rfl rfl ?_
                refine Dx.guard_no rfl rfl rfl rfl rfl ?_
                refine Dx.guard_no rfl rfl rfl rfl rfl ?_
                refine Dx.guard_no rfl rfl rfl rfl rfl ?_
                refine Dx.guard_yes rfl rfl rfl (Dx.q rfl (.pick_f rfl rfl) ?_)
                refine Dx.q rfl (.pick_f rfl rfl) ?_
                refine Dx.nextQ ?_
                refine Gx.cond_f rfl ?_
                refine Gx.skip fun aa ww hzz => (blk_normal (then_normal (Gx.go hzz ?_)))
                -- region 16
                refine Gx.region ?_
                refine Rx.q rfl (.add_ rfl rfl (by omega)) ?_
                refine Rx.q rfl (.move rfl) ?_
                refine Rx.nil fun aa ww hzz => (then_normal ⟨j + 1, by omega, (by omega), hzz.to (.cons rfl (.cons rfl (.cons rfl (.cons rfl (.cons rfl (.cons rfl (.cons rfl .nil)))))))⟩)
          · -- way
            have h77 := of_decide_eq_false h77
            refine Dx.guard_no rfl rfl rfl rfl rfl ?_
            refine Dx.guard_no rfl rfl rfl rfl rfl ?_
            refine Dx.guard_yes rfl rfl rfl (Dx.q rfl (.pick_f rfl rfl) ?_)
            refine Dx.guard_yes rfl rfl rfl (Dx.q rfl (.move rfl) ?_)
            refine Dx.guard_no rfl rfl rfl rfl rfl ?_
            refine Dx.guard_no rfl rfl rfl rfl rfl ?_
            refine Dx.guard_yes rfl rfl rfl (Dx.q rfl (.pick_f rfl rfl) ?_)
            refine Dx.q rfl (.pick_f rfl rfl) ?_
            refine Dx.q rfl (.move rfl) ?_
            refine Dx.guard_yes rfl rfl rfl (Dx.q rfl (.move rfl) ?_)
            refine Dx.guard_yes rfl rfl rfl (Dx.q rfl (.fieldAddr rfl) ?_)
            refine Dx.guard_yes rfl rfl rfl (Dx.q rfl (.ld rfl rfl) ?_)
            refine Dx.guard_yes rfl rfl rfl (Dx.q rfl (.rem_ rfl rfl (by omega)) ?_)
            refine Dx.guard_yes rfl rfl rfl (Dx.q rfl (.gtr rfl rfl) ?_)
            refine Dx.guard_yes rfl rfl rfl (Dx.q rfl (.move rfl) ?_)
            refine Dx.split 92 rfl (fun h92 => ?_) (fun h92 => ?_)
            · -- way
              have h92 := of_decide_eq_true h92
              refine Dx.guard_yes rfl rfl rfl (Dx.q rfl (.move rfl) ?_)
              refine Dx.guard_yes rfl rfl rfl (Dx.q rfl (.fieldAddr rfl) ?_)
              refine Dx.guard_yes rfl rfl rfl (Dx.q rfl (.ld rfl rfl) ?_)
              refine Dx.guard_yes rfl rfl rfl (Dx.q rfl (.move rfl) ?_)
              refine Dx.guard_yes rfl rfl rfl (Dx.q rfl (.sub_ rfl rfl (by omega)) ?_)
              refine Dx.guard_yes rfl rfl rfl (Dx.q rfl (.idx (j := j - 1) rfl rfl (by rw [e2] at h92; omega) (by omega)) ?_)
              refine Dx.guard_yes rfl rfl rfl (Dx.q rfl (.ldi (l := p.l) rfl rfl (by omega)) ?_)
              refine Dx.guard_yes rfl rfl rfl (Dx.q rfl (.geq rfl rfl) ?_)
              refine Dx.guard_yes rfl rfl rfl (Dx.q rfl (.pick_t rfl rfl) ?_)
              refine Dx.guard_yes rfl rfl rfl (Dx.q rfl (.move rfl) ?_)
              refine Dx.split 102 rfl (fun h102 => ?_) (fun h102 => ?_)
              · -- way
                have h102 := of_decide_eq_true h102
                have hj1 : 0 < j % p.w.toNat := by omega
                have hjp : 0 < j := by
                  rcases Nat.eq_zero_or_pos j with e | e
                  · subst e; simp at hj1
                  · exact e
                obtain ⟨f1, f2, fq, fr, fqr⟩ := pos_facts hp (j := j - 1) (by omega)
                have hprev : (j - 1) / p.w.toNat = j / p.w.toNat ∧ (j - 1) % p.w.toNat = j % p.w.toNat - 1 := prev_facts hj1 (by omega)
                have hat2 := shadeR_at M hp p.h.toNat (Nat.le_refl _) _ _ fq fr
                rw [← hS, fqr, hprev.1, hprev.2] at hat2
                have hk2 := (shade_eq M (p.l.getD (j - 1) 0) hM.1).1
                have hmono := shade_mono hM.1 h102
                refine Dx.guard_yes rfl rfl rfl (Dx.q rfl (.move rfl) ?_)
                refine Dx.guard_yes rfl rfl rfl (Dx.q rfl (.move rfl) ?_)
                refine Dx.guard_yes rfl rfl rfl (Dx.q rfl (.move rfl) ?_)
                refine Dx.guard_yes rfl rfl rfl (Dx.q rfl (.move rfl) ?_)
                refine Dx.guard_yes rfl rfl rfl (Dx.q rfl (.fieldAddr rfl) ?_)
                refine Dx.guard_yes rfl rfl rfl (Dx.q rfl (.ld rfl rfl) ?_)
                refine Dx.guard_yes rfl rfl rfl (Dx.q rfl (.quo_ rfl rfl (by omega)) ?_)
                refine Dx.guard_yes rfl rfl rfl (Dx.q rfl (.fieldAddr rfl) ?_)
                refine Dx.guard_yes rfl rfl rfl (Dx.q rfl (.ld rfl rfl) ?_)
                refine Dx.guard_yes rfl rfl rfl (Dx.q rfl (.add_ rfl rfl (by omega)) ?_)
                refine Dx.guard_yes rfl rfl rfl (Dx.q rfl (.mul_ rfl rfl (by rw [e3]; omega)) ?_)
                refine Dx.guard_yes rfl rfl rfl (Dx.q rfl (.move rfl) ?_)
                refine Dx.guard_yes rfl rfl rfl (Dx.q rfl (.fieldAddr rfl) ?_)
                refine Dx.guard_yes rfl rfl rfl (Dx.q rfl (.ld rfl rfl) ?_)
                refine Dx.guard_yes rfl rfl rfl (Dx.q rfl (.rem_ rfl rfl (by omega)) ?_)
                refine Dx.guard_yes rfl rfl rfl (Dx.q rfl (.add_ rfl rfl (by rw [e3, e2]; omega)) ?_)
                refine Dx.guard_yes rfl rfl rfl (Dx.q rfl (.sub_ rfl rfl (by rw [e3, e2]; omega)) ?_)
                refine Dx.guard_yes rfl rfl rfl (Dx.q rfl (.idx_s (p := shadesS p M) (j := j / p.w.toNat * (p.w.toNat + 1) + (j % p.w.toNat - 1)) rfl rfl (by rw [e3, e2]; omega) (by rw [e3, e2]; omega)) ?_)
                refine Dx.guard_yes rfl rfl rfl (Dx.q rfl ((OpQ.cal (caps := []) (law38_where _) rfl rfl).val (u := .int .i64 (shadeI M (p.l.getD (j - 1) 0))) (by rw [hat2, hk2])) ?_)
                refine Dx.guard_yes rfl rfl rfl (Dx.q rfl ((OpQ.lss rfl rfl).val (u := .bool false) (congrArg Value.bool (decide_eq_false (by omega)))) ?_)
                refine Dx.guard_yes rfl rfl rfl (Dx.q rfl (.pick_t rfl rfl) ?_)
                refine Dx.q rfl (.pick_f rfl rfl) ?_
                refine Dx.nextQ ?_
                refine Gx.cond_f rfl ?_
                refine Gx.skip fun aa ww hzz => (blk_normal (then_normal (Gx.go hzz ?_)))
                -- region 16
                refine Gx.region ?_
                refine Rx.q rfl (.add_ rfl rfl (by omega)) ?_
                refine Rx.q rfl (.move rfl) ?_
                refine Rx.nil fun aa ww hzz => (then_normal ⟨j + 1, by omega, (by omega), hzz.to (.cons rfl (.cons rfl (.cons rfl (.cons rfl (.cons rfl (.cons rfl (.cons rfl .nil)))))))⟩)
              · -- way
                have h102 := of_decide_eq_false h102
                refine Dx.guard_no rfl rfl rfl rfl rfl ?_
                refine Dx.guard_no rfl rfl rfl rfl rfl ?_
                refine Dx.guard_no rfl rfl rfl rfl rfl ?_
                refine Dx.guard_no rfl rfl rfl rfl rfl ?_
                refine Dx.guard_no rfl rfl rfl rfl rfl ?_
                refine Dx.guard_no rfl rfl rfl rfl rfl ?_
                refine Dx.guard_no rfl rfl rfl rfl rfl ?_
                refine Dx.guard_no rfl rfl rfl rfl rfl ?_
                refine Dx.guard_no rfl rfl rfl rfl rfl ?_
                refine Dx.guard_no rfl rfl rfl rfl rfl ?_
                refine Dx.guard_no rfl rfl rfl rfl rfl ?_
                refine Dx.guard_no rfl rfl rfl rfl rfl ?_
                refine Dx.guard_no rfl rfl rfl rfl rfl ?_
                refine Dx.guard_no rfl rfl rfl rfl rfl ?_
                refine Dx.guard_no rfl rfl rfl rfl rfl ?_
                refine Dx.guard_no rfl rfl rfl rfl rfl ?_
                refine Dx.guard_no rfl rfl rfl rfl rfl ?_
                refine Dx.guard_no rfl rfl rfl rfl rfl ?_
                refine Dx.guard_no rfl rfl rfl rfl rfl ?_
                refine Dx.guard_no rfl rfl rfl rfl rfl ?_
                refine Dx.guard_yes rfl rfl rfl (Dx.q rfl (.pick_f rfl rfl) ?_)
                refine Dx.q rfl (.pick_f rfl rfl) ?_
                refine Dx.nextQ ?_
                refine Gx.cond_f rfl ?_
                refine Gx.skip fun aa ww hzz => (blk_normal (then_normal (Gx.go hzz ?_)))
                -- region 16
                refine Gx.region ?_
                refine Rx.q rfl (.add_ rfl rfl (by omega)) ?_
                refine Rx.q rfl (.move rfl) ?_
                refine Rx.nil fun aa ww hzz => (then_normal ⟨j + 1, by omega, (by omega), hzz.to (.cons rfl (.cons rfl (.cons rfl (.cons rfl (.cons rfl (.cons rfl (.cons rfl .nil)))))))⟩)
            · -- way
              have h92 := of_decide_eq_false h92
              refine Dx.guard_no rfl rfl rfl rfl rfl ?_
              refine Dx.guard_no rfl rfl rfl rfl rfl ?_
              refine Dx.guard_no rfl rfl rfl rfl rfl ?_
              refine Dx.guard_no rfl rfl rfl rfl rfl ?_
              refine Dx.guard_no rfl rfl rfl rfl rfl ?_
              refine Dx.guard_no rfl rfl rfl rfl rfl ?_
              refine Dx.guard_no rfl rfl rfl rfl rfl ?_
              refine Dx.guard_no rfl rfl rfl rfl rfl ?_
              refine Dx.guard_yes rfl rfl rfl (Dx.q rfl (.pick_f rfl rfl) ?_)
              refine Dx.guard_yes rfl rfl rfl (Dx.q rfl (.move rfl) ?_)
              refine Dx.guard_no rfl rfl rfl rfl rfl ?_
              refine Dx.guard_no rfl rfl rfl rfl rfl ?_
              refine Dx.guard_no rfl rfl rfl rfl rfl ?_
              refine Dx.guard_no rfl rfl rfl rfl rfl ?_
              refine Dx.guard_no rfl rfl rfl rfl rfl ?_
              refine Dx.guard_no rfl rfl rfl rfl rfl ?_
              refine Dx.guard_no rfl rfl rfl rfl rfl ?_
              refine Dx.guard_no rfl rfl rfl rfl rfl ?_
              refine Dx.guard_no rfl rfl rfl rfl rfl ?_
              refine Dx.guard_no rfl rfl rfl rfl rfl ?_
              refine Dx.guard_no rfl rfl rfl rfl rfl ?_
              refine Dx.guard_no rfl rfl rfl rfl rfl ?_
              refine Dx.guard_no rfl rfl rfl rfl rfl ?_
              refine Dx.guard_no rfl rfl rfl rfl rfl ?_
              refine Dx.guard_no rfl rfl rfl rfl rfl ?_
              refine Dx.guard_no rfl rfl rfl rfl rfl ?_
              refine Dx.guard_no rfl rfl rfl rfl rfl ?_
              refine Dx.guard_no rfl rfl rfl rfl rfl ?_
              refine Dx.guard_no rfl rfl rfl rfl rfl ?_
              refine Dx.guard_no rfl rfl rfl rfl rfl ?_
              refine Dx.guard_yes rfl rfl rfl (Dx.q rfl (.pick_f rfl rfl) ?_)
              refine Dx.q rfl (.pick_f rfl rfl) ?_
              refine Dx.nextQ ?_
              refine Gx.cond_f rfl ?_
              refine Gx.skip fun aa ww hzz => (blk_normal (then_normal (Gx.go hzz ?_)))
              -- region 16
              refine Gx.region ?_
              refine Rx.q rfl (.add_ rfl rfl (by omega)) ?_
              refine Rx.q rfl (.move rfl) ?_
              refine Rx.nil fun aa ww hzz => (then_normal ⟨j + 1, by omega, (by omega), hzz.to (.cons rfl (.cons rfl (.cons rfl (.cons rfl (.cons rfl (.cons rfl (.cons rfl .nil)))))))⟩)
      · -- way
        have h42 := of_decide_eq_false h42
        refine Gx.exit fun aa ww hzz => (then_exit (then_exit (blk_exit (then_normal (Gx.go hzz ?_)))))
        -- region 17
        refine Gx.seq_region ?_
        refine Rx.q rfl (.assign rfl) ?_
        refine Rx.next ?_
        refine Gx.ret fun aa ww hzz => (fin_tmp hzz rfl rfl (⟨rfl, rfl⟩))

end Go.Proofs.YtoiebfpafdcbmaaDoor
