/- Contracts of the document's answer for texts: planes, frames, pictures. -/
import Derived.Test.YtoiebfpafdcbmaaDoorU1
namespace Go.Proofs.YtoiebfpafdcbmaaDoor
open Go Go.RowKit K
set_option linter.unusedVariables false
set_option linter.unusedSimpArgs false

theorem plane_head (p : Pl) : headS p = [112, 108, 97, 110, 101, 32] ++ Lib.itoa p.w ++ [32] ++ Lib.itoa p.h ++ [10] := by
  simp [headS, rowS, rowB]
theorem ref38_Plane (p : Pl) (v : Value) (ho : v.oneCell' = true) (hl : p.l.length ≤ 1099511627776) (hz : i64s p.l) : Spc Tryd.prog 18 [.agg (plC p v).toArray] [] [plR p v] (ret (str (planeS p))) := by
  refine Spc.intro Tryd.func18 rfl Tryd.ntmps18 (by kernel_rfl) rfl rfl fun w0 F0 => ?_
  -- region 0
  refine Gx.seq_region ?_
  refine Rx.box (vs := plC p v) rfl rfl rfl fun b1 => ?_
  refine Rx.q rfl (.assign rfl) ?_
  refine Rx.next ?_
  refine Gx.seq ?_
  -- region 1
  refine Gx.seq_region ?_
  refine Rx.q rfl (.ldc rfl (by rfl)) ?_
  refine Rx.q rfl (.cal (caps := []) (ref07_Right _ _) rfl rfl) ?_
  refine Rx.q rfl (.not rfl) ?_
  refine Rx.next ?_
  refine Gx.cond rfl (fun h8 => ?_) (fun h8 => ?_)
  · -- way
    have h8 := bnot_t h8
    have hno : planeS p = [] := (planeS_nil p).2 h8
    -- region 2
    refine Gx.seq_region ?_
    refine Rx.q rfl (.assign rfl) ?_
    refine Rx.next ?_
    refine Gx.ret fun aa ww hzz => (then_ret (fin_tmp hzz rfl rfl (by rw [hno]; exact ⟨rfl, rfl⟩)))
  · -- way
    have h8 := bnot_f h8
    have hp := h8
    obtain ⟨hw, hh, hle⟩ := Pl.right_iff.1 hp
    have hsz := mul_sides hw hh
    have hiw : i64 p.w := ⟨by omega, by omega⟩
    have hih : i64 p.h := ⟨by omega, by omega⟩
    have hlw := itoa_le hiw
    have hlh := itoa_le hih
    have hhd := plane_head p
    have hhl : (headS p).length ≤ 60 := by rw [hhd]; simp only [List.length_append, List.length_cons, List.length_nil]; omega
    have hpf := plane_flat hp
    refine Gx.skip fun aa ww hzz => (then_normal (Gx.go hzz ?_))
    refine Gx.seq ?_
    -- region 3
    refine Gx.region_tail 9 mixed (by kernel_rfl) ?_
    refine Dx.q rfl (.fieldAddr rfl) ?_
    refine Dx.q rfl (.ld rfl rfl) ?_
    refine Dx.q rfl (.cal (caps := []) (ref38_Num _ (by assumption)) rfl rfl) ?_
    refine Dx.q rfl (.cat_s rfl rfl (by first | omega | (simp only [List.length_append, List.length_cons, List.length_nil]; omega))) ?_
    refine Dx.q rfl (.cat_s rfl rfl (by first | omega | (simp only [List.length_append, List.length_cons, List.length_nil]; omega))) ?_
    refine Dx.q rfl (.fieldAddr rfl) ?_
    refine Dx.q rfl (.ld rfl rfl) ?_
    refine Dx.q rfl (.cal (caps := []) (ref38_Num _ (by assumption)) rfl rfl) ?_
    refine Dx.q rfl (.cat_s rfl rfl (by first | omega | (simp only [List.length_append, List.length_cons, List.length_nil]; omega))) ?_
    refine Dx.tail ?_
    refine Rx.q rfl (.cat_s rfl rfl (by first | omega | (simp only [List.length_append, List.length_cons, List.length_nil]; omega))) ?_
    refine Rx.s2b rfl (by simp only [List.length_append, List.length_cons, List.length_nil]; omega) rfl fun v19 => ?_
    rw [← hhd]
    refine Rx.q rfl (.assign rfl) ?_
    refine Rx.next ?_
    refine Gx.seq ?_
    -- region 4
    refine Gx.seq_region ?_
    refine Rx.q rfl (.fieldAddr rfl) ?_
    refine Rx.q rfl (.ld rfl rfl) ?_
    refine Rx.q rfl (.lens rfl) ?_
    refine Rx.q rfl (.move rfl) ?_
    refine Rx.next ?_
    refine Gx.block ?_
    refine Gx.castL (L' := [sq 5 v19 (headS p ++ flatB Lib.itoa mid1 p 0), pt b1 37 (plC p v)]) (by simp [flatB]) ?_
    refine Gx.lp (α := Value × Nat) (fun x => x.2 ≤ p.l.length) (fun x => p.l.length - x.2) (fun x => [(1, .pointer (some ⟨b1, 0, none⟩)), (3, x.1), (21, v), (22, .int .i64 p.l.length), (23, .int .i64 x.2)])
      (fun x => [sq 5 x.1 (headS p ++ flatB Lib.itoa mid1 p x.2), pt b1 37 (plC p v)]) ((v19, 0)) (Nat.zero_le _) ?_ (fun x hx => ?_)
    · exact (.cons rfl (.cons rfl (.cons rfl (.cons rfl (.cons rfl .nil)))))
    obtain ⟨q, j⟩ := x
    simp only at hx ⊢
    -- region 5
    refine Gx.seq_region ?_
    refine Rx.q rfl (.lss rfl rfl) ?_
    refine Rx.next ?_
    refine Gx.seq ?_
    refine Gx.cond rfl (fun h24 => ?_) (fun h24 => ?_)
    · -- way
      have h24 := of_decide_eq_true h24
      have hj : j < p.l.length := by omega
      have hij := hz _ (getD_mem hj)
      have hlj := itoa_le hij
      have hfl := flatB_le p hz j (by omega)
      have hei := end_iff hp j
      have hpos : 0 < (Lib.itoa (p.l.getD j 0)).length := by
        rw [itoa_abs]; have := dec_len (p.l.getD j 0).natAbs
        split
        · simp
        · omega
      refine Gx.skip fun aa ww hzz => (then_normal (Gx.go hzz ?_))
      refine Gx.seq ?_
      refine Gx.block ?_
      -- region 6
      refine Gx.seq_region ?_
      refine Rx.q rfl (.move rfl) ?_
      refine Rx.q rfl (.idx (j := j) rfl rfl (by omega) (by omega)) ?_
      refine Rx.q rfl (.ldi (l := p.l) rfl rfl hj) ?_
      refine Rx.q rfl (.assign rfl) ?_
      refine Rx.q rfl (.assign rfl) ?_
      refine Rx.next ?_
      -- region 7
      refine Gx.seq_region ?_
      refine Rx.q rfl (.move rfl) ?_
      refine Rx.q rfl (.move rfl) ?_
      refine Rx.q rfl (.cal (caps := []) (ref38_Num _ (by assumption)) rfl rfl) ?_
      refine Rx.app_sq rfl rfl rfl (by simp only [List.length_append]; omega) hpos rfl fun v31 => ?_
      refine Rx.q rfl (.assign rfl) ?_
      refine Rx.next ?_
      -- region 8
      refine Gx.seq_region ?_
      refine Rx.q rfl (.move rfl) ?_
      refine Rx.q rfl (.add_ rfl rfl (by omega)) ?_
      refine Rx.q rfl (.fieldAddr rfl) ?_
      refine Rx.q rfl (.ld rfl rfl) ?_
      refine Rx.q rfl (.rem_ rfl rfl (by omega)) ?_
      refine Rx.q rfl (.eql rfl rfl) ?_
      refine Rx.next ?_
      refine Gx.cond rfl (fun h37 => ?_) (fun h37 => ?_)
      · -- way
        have h37 := of_decide_eq_true h37
        have he : endB mid1 p.w.toNat j = [10] := if_pos (hei.1 h37)
        have hnx : headS p ++ flatB Lib.itoa mid1 p j ++ Lib.itoa (p.l.getD j 0) ++ [10] = headS p ++ flatB Lib.itoa mid1 p (j + 1) := by rw [flatB_succ, he]; simp only [List.append_assoc]
        -- region 9
        refine Gx.region ?_
        refine Rx.q rfl (.move rfl) ?_
        refine Rx.slice1 rfl rfl rfl rfl rfl fun v39 hv39 => ?_
        refine Rx.one v39 fun ho39 => ?_
        refine Rx.app_bq (l := [10]) rfl rfl (.own .here) (cells_sl (xs := bytesU [10])) rfl rfl (by simp only [List.length_append, List.length_cons, List.length_nil]; omega) (by decide) rfl fun v40 => ?_
        rw [hnx]
        refine Rx.q rfl (.assign rfl) ?_
        refine Rx.nil fun aa ww hzz => (blk_normal (then_normal (Gx.go hzz ?_)))
        -- region 11
        refine Gx.region ?_
        refine Rx.q rfl (.add_ rfl rfl (by omega)) ?_
        refine Rx.q rfl (.move rfl) ?_
        refine Rx.nil fun aa ww hzz => (then_normal ⟨(v40, j + 1), by show j + 1 ≤ p.l.length; omega, (by omega), hzz.to (.cons rfl (.cons rfl (.cons rfl (.cons rfl (.cons rfl .nil)))))⟩)
      · -- way
        have h37 := of_decide_eq_false h37
        have he : endB mid1 p.w.toNat j = [32] := if_neg fun h => h37 (hei.2 h)
        have hnx : headS p ++ flatB Lib.itoa mid1 p j ++ Lib.itoa (p.l.getD j 0) ++ [32] = headS p ++ flatB Lib.itoa mid1 p (j + 1) := by rw [flatB_succ, he]; simp only [List.append_assoc]
        -- region 10
        refine Gx.region ?_
        refine Rx.q rfl (.move rfl) ?_
        refine Rx.slice1 rfl rfl rfl rfl rfl fun v42 hv42 => ?_
        refine Rx.one v42 fun ho42 => ?_
        refine Rx.app_bq (l := [32]) rfl rfl (.own .here) (cells_sl (xs := bytesU [32])) rfl rfl (by simp only [List.length_append, List.length_cons, List.length_nil]; omega) (by decide) rfl fun v43 => ?_
        rw [hnx]
        refine Rx.q rfl (.assign rfl) ?_
        refine Rx.nil fun aa ww hzz => (blk_normal (then_normal (Gx.go hzz ?_)))
        -- region 11
        refine Gx.region ?_
        refine Rx.q rfl (.add_ rfl rfl (by omega)) ?_
        refine Rx.q rfl (.move rfl) ?_
        refine Rx.nil fun aa ww hzz => (then_normal ⟨(v43, j + 1), by show j + 1 ≤ p.l.length; omega, (by omega), hzz.to (.cons rfl (.cons rfl (.cons rfl (.cons rfl (.cons rfl .nil)))))⟩)
    · -- way
      have h24 := of_decide_eq_false h24
      obtain rfl : j = p.l.length := by omega
      rw [← hpf]
      refine Gx.exit fun aa ww hzz => (then_exit (then_exit (blk_exit (then_normal (Gx.go hzz ?_)))))
      -- region 12
      refine Gx.seq_region ?_
      refine Rx.q rfl (.move rfl) ?_
      refine Rx.q rfl (.b2s rfl) ?_
      refine Rx.q rfl (.assign rfl) ?_
      refine Rx.next ?_
      refine Gx.ret fun aa ww hzz => (fin_tmp hzz rfl rfl (⟨rfl, rfl⟩))


theorem ref38_Frame (f : Fr) (u v w : Value) (ou : u.oneCell' = true) (ov : v.oneCell' = true) (ow : w.oneCell' = true) (hl : f.a.l.length ≤ 1099511627776 ∧ f.b.l.length ≤ 1099511627776 ∧ f.c.l.length ≤ 1099511627776) (hz : i64s f.a.l ∧ i64s f.b.l ∧ i64s f.c.l) : Spc Tryd.prog 22 [.agg (frC f u v w).toArray] [] [plR f.a u, plR f.b v, plR f.c w] (ret (str (frameS f))) := by
  refine Spc.intro Tryd.func22 rfl Tryd.ntmps22 (by kernel_rfl) rfl rfl fun w0 F0 => ?_
  have ha := planeS_le f.a hz.1
  have hb := planeS_le f.b hz.2.1
  have hc := planeS_le f.c hz.2.2
  -- region 0
  refine Gx.seq_region ?_
  refine Rx.box (vs := frC f u v w) rfl rfl rfl fun b1 => ?_
  refine Rx.q rfl (.assign rfl) ?_
  refine Rx.next ?_
  refine Gx.seq ?_
  -- region 1
  refine Gx.region_quiet mixed (by kernel_rfl) ?_
  refine Dx.q rfl (.fieldAddr rfl) ?_
  refine Dx.q rfl (.idxp (r := 0) rfl rfl (by decide) (by rfl)) ?_
  refine Dx.q rfl (.ldc rfl (by rfl)) ?_
  refine Dx.q rfl (.cal (caps := []) (ref38_Plane f.a u ou hl.1 hz.1) rfl rfl) ?_
  refine Dx.q rfl (.fieldAddr rfl) ?_
  refine Dx.q rfl (.idxp (r := 3) rfl rfl (by decide) (by rfl)) ?_
  refine Dx.q rfl (.ldc rfl (by rfl)) ?_
  refine Dx.q rfl (.cal (caps := []) (ref38_Plane f.b v ov hl.2.1 hz.2.1) rfl rfl) ?_
  refine Dx.q rfl (.fieldAddr rfl) ?_
  refine Dx.q rfl (.idxp (r := 6) rfl rfl (by decide) (by rfl)) ?_
  refine Dx.q rfl (.ldc rfl (by rfl)) ?_
  refine Dx.q rfl (.cal (caps := []) (ref38_Plane f.c w ow hl.2.2 hz.2.2) rfl rfl) ?_
  refine Dx.q rfl (.assign rfl) ?_
  refine Dx.q rfl (.assign rfl) ?_
  refine Dx.q rfl (.assign rfl) ?_
  refine Dx.nextQ ?_
  refine Gx.seq ?_
  -- region 2
  refine Gx.seq_region ?_
  refine Rx.q rfl (.move rfl) ?_
  refine Rx.q rfl (.eql_s rfl rfl) ?_
  refine Rx.q rfl (.move rfl) ?_
  refine Rx.split 20 rfl (fun h20 => ?_) (fun h20 => ?_)
  · -- way
    have h20 := of_decide_eq_true h20
    have hno := frameS_a h20
    refine Rx.guard_no rfl rfl rfl rfl rfl ?_
    refine Rx.guard_no rfl rfl rfl rfl rfl ?_
    refine Rx.q rfl (.pick_t rfl rfl) ?_
    refine Rx.q rfl (.move rfl) ?_
    refine Rx.guard_no rfl rfl rfl rfl rfl ?_
    refine Rx.guard_no rfl rfl rfl rfl rfl ?_
    refine Rx.q rfl (.pick_t rfl rfl) ?_
    refine Rx.next ?_
    refine Gx.cond_t rfl ?_
    -- region 3
    refine Gx.seq_region ?_
    refine Rx.q rfl (.assign rfl) ?_
    refine Rx.next ?_
    refine Gx.ret fun aa ww hzz => (then_ret (fin_tmp hzz rfl rfl (by rw [hno]; exact ⟨rfl, rfl⟩)))
  · -- way
    have h20 := of_decide_eq_false h20
    refine Rx.guard_yes rfl rfl rfl (Rx.q rfl (.move rfl) ?_)
    refine Rx.guard_yes rfl rfl rfl (Rx.q rfl (.eql_s rfl rfl) ?_)
    refine Rx.q rfl (.pick_f rfl rfl) ?_
    refine Rx.q rfl (.move rfl) ?_
    refine Rx.split 24 rfl (fun h24 => ?_) (fun h24 => ?_)
    · -- way
      have h24 := of_decide_eq_true h24
      have hno := frameS_b h24
      refine Rx.guard_no rfl rfl rfl rfl rfl ?_
      refine Rx.guard_no rfl rfl rfl rfl rfl ?_
      refine Rx.q rfl (.pick_t rfl rfl) ?_
      refine Rx.next ?_
      refine Gx.cond_t rfl ?_
      -- region 3
      refine Gx.seq_region ?_
      refine Rx.q rfl (.assign rfl) ?_
      refine Rx.next ?_
      refine Gx.ret fun aa ww hzz => (then_ret (fin_tmp hzz rfl rfl (by rw [hno]; exact ⟨rfl, rfl⟩)))
    · -- way
      have h24 := of_decide_eq_false h24
      refine Rx.guard_yes rfl rfl rfl (Rx.q rfl (.move rfl) ?_)
      refine Rx.guard_yes rfl rfl rfl (Rx.q rfl (.eql_s rfl rfl) ?_)
      refine Rx.q rfl (.pick_f rfl rfl) ?_
      refine Rx.next ?_
      refine Gx.cond rfl (fun h27 => ?_) (fun h27 => ?_)
      · -- way
        have h27 := of_decide_eq_true h27
        have hno := frameS_c h27
        -- region 3
        refine Gx.seq_region ?_
        refine Rx.q rfl (.assign rfl) ?_
        refine Rx.next ?_
        refine Gx.ret fun aa ww hzz => (then_ret (fin_tmp hzz rfl rfl (by rw [hno]; exact ⟨rfl, rfl⟩)))
      · -- way
        have h27 := of_decide_eq_false h27
        have hyes : frameS f = planeS f.a ++ planeS f.b ++ planeS f.c := by
          have e := frameS_yes h20 h24 h27
          rwa [List.nil_append] at e
        refine Gx.skip fun aa ww hzz => (then_normal (Gx.go hzz ?_))
        -- region 4
        refine Gx.seq_region ?_
        refine Rx.q rfl (.move rfl) ?_
        refine Rx.q rfl (.move rfl) ?_
        refine Rx.q rfl (.cat_s rfl rfl (by first | omega | (simp only [List.length_append, List.length_cons, List.length_nil]; omega))) ?_
        refine Rx.q rfl (.move rfl) ?_
        refine Rx.q rfl (.cat_s rfl rfl (by first | omega | (simp only [List.length_append, List.length_cons, List.length_nil]; omega))) ?_
        refine Rx.q rfl (.assign rfl) ?_
        refine Rx.next ?_
        refine Gx.ret fun aa ww hzz => (fin_tmp hzz rfl rfl (by rw [hyes]; exact ⟨rfl, rfl⟩))


theorem ref38_Shades (p : Pl) (v : Value) (m : Int) (hl : p.l.length ≤ 1099511627776) (hz : i64s p.l) (ho : v.oneCell' = true) : Spc Tryd.prog 20 [.agg (plC p v).toArray, .int .i64 m] [] [plR p v] (ret (str (shadesS p m))) := by
  refine Spc.intro Tryd.func20 rfl Tryd.ntmps20 (by kernel_rfl) rfl rfl fun w0 F0 => ?_
  -- region 0
  refine Gx.seq_region ?_
  refine Rx.box (vs := plC p v) rfl rfl rfl fun b2 => ?_
  refine Rx.q rfl (.assign rfl) ?_
  refine Rx.next ?_
  refine Gx.seq ?_
  -- region 1
  refine Gx.seq_region ?_
  refine Rx.q rfl (.ldc rfl (by rfl)) ?_
  refine Rx.q rfl (.cal (caps := []) (ref07_Right _ _) rfl rfl) ?_
  refine Rx.q rfl (.not rfl) ?_
  refine Rx.q rfl (.move rfl) ?_
  refine Rx.split 11 rfl (fun h11 => ?_) (fun h11 => ?_)
  · -- way
    have h11 := bnot_t h11
    have hno : shadesS p m = [] := by rw [shadesS, if_neg]; rw [h11]; simp
    refine Rx.guard_no rfl rfl rfl rfl rfl ?_
    refine Rx.guard_no rfl rfl rfl rfl rfl ?_
    refine Rx.q rfl (.pick_t rfl rfl) ?_
    refine Rx.q rfl (.move rfl) ?_
    refine Rx.guard_no rfl rfl rfl rfl rfl ?_
    refine Rx.guard_no rfl rfl rfl rfl rfl ?_
    refine Rx.q rfl (.pick_t rfl rfl) ?_
    refine Rx.next ?_
    refine Gx.cond_t rfl ?_
    -- region 2
    refine Gx.seq_region ?_
    refine Rx.q rfl (.assign rfl) ?_
    refine Rx.next ?_
    refine Gx.ret fun aa ww hzz => (then_ret (fin_tmp hzz rfl rfl (by rw [hno]; exact ⟨rfl, rfl⟩)))
  · -- way
    have h11 := bnot_f h11
    refine Rx.guard_yes rfl rfl rfl (Rx.q rfl (.move rfl) ?_)
    refine Rx.guard_yes rfl rfl rfl (Rx.q rfl (.lss rfl rfl) ?_)
    refine Rx.q rfl (.pick_f rfl rfl) ?_
    refine Rx.q rfl (.move rfl) ?_
    refine Rx.split 15 rfl (fun h15 => ?_) (fun h15 => ?_)
    · -- way
      have h15 := of_decide_eq_true h15
      have hno : shadesS p m = [] := by rw [shadesS, if_neg]; omega
      refine Rx.guard_no rfl rfl rfl rfl rfl ?_
      refine Rx.guard_no rfl rfl rfl rfl rfl ?_
      refine Rx.q rfl (.pick_t rfl rfl) ?_
      refine Rx.next ?_
      refine Gx.cond_t rfl ?_
      -- region 2
      refine Gx.seq_region ?_
      refine Rx.q rfl (.assign rfl) ?_
      refine Rx.next ?_
      refine Gx.ret fun aa ww hzz => (then_ret (fin_tmp hzz rfl rfl (by rw [hno]; exact ⟨rfl, rfl⟩)))
    · -- way
      have h15 := of_decide_eq_false h15
      refine Rx.guard_yes rfl rfl rfl (Rx.q rfl (.move rfl) ?_)
      refine Rx.guard_yes rfl rfl rfl (Rx.q rfl (.gtr rfl rfl) ?_)
      refine Rx.q rfl (.pick_f rfl rfl) ?_
      refine Rx.next ?_
      refine Gx.cond rfl (fun h18 => ?_) (fun h18 => ?_)
      · -- way
        have h18 := of_decide_eq_true h18
        have hno : shadesS p m = [] := by rw [shadesS, if_neg]; omega
        -- region 2
        refine Gx.seq_region ?_
        refine Rx.q rfl (.assign rfl) ?_
        refine Rx.next ?_
        refine Gx.ret fun aa ww hzz => (then_ret (fin_tmp hzz rfl rfl (by rw [hno]; exact ⟨rfl, rfl⟩)))
      · -- way
        have h18 := of_decide_eq_false h18
        have hp := h11
        obtain ⟨hw, hh, hle⟩ := Pl.right_iff.1 hp
        have hsz := mul_sides hw hh
        have hyes : shadesS p m = flatB (fun v => [shadeB m v]) [] p p.l.length := by rw [shadesS, if_pos ⟨hp, by omega, by omega⟩, shade_flat m hp]
        refine Gx.skip fun aa ww hzz => (then_normal (Gx.go hzz ?_))
        -- region 3
        refine Gx.seq_region ?_
        refine Rx.q rfl (.assign rfl) ?_
        refine Rx.next ?_
        refine Gx.seq ?_
        -- region 4
        refine Gx.seq_region ?_
        refine Rx.q rfl (.fieldAddr rfl) ?_
        refine Rx.q rfl (.ld rfl rfl) ?_
        refine Rx.q rfl (.lens rfl) ?_
        refine Rx.q rfl (.move rfl) ?_
        refine Rx.next ?_
        refine Gx.block ?_
        refine Gx.nilQ (e := 5) ?_
        refine Gx.castL (L' := [sq 5 (.slice none 0 0) (flatB (fun v => [shadeB m v]) [] p 0), pt b2 37 (plC p v)]) rfl ?_
        refine Gx.lp (α := Value × Nat) (fun x => x.2 ≤ p.l.length) (fun x => p.l.length - x.2) (fun x => [(1, .int .i64 m), (2, .pointer (some ⟨b2, 0, none⟩)), (5, x.1), (20, v), (21, .int .i64 p.l.length), (22, .int .i64 x.2)])
          (fun x => [sq 5 x.1 (flatB (fun v => [shadeB m v]) [] p x.2), pt b2 37 (plC p v)]) ((.slice none 0 0, 0)) (Nat.zero_le _) ?_ (fun x hx => ?_)
        · exact (.cons rfl (.cons rfl (.cons rfl (.cons rfl (.cons rfl (.cons rfl .nil))))))
        obtain ⟨q, j⟩ := x
        simp only at hx ⊢
        -- region 5
        refine Gx.seq_region ?_
        refine Rx.q rfl (.lss rfl rfl) ?_
        refine Rx.next ?_
        refine Gx.seq ?_
        refine Gx.cond rfl (fun h23 => ?_) (fun h23 => ?_)
        · -- way
          have h23 := of_decide_eq_true h23
          have hj : j < p.l.length := by omega
          have hij := hz _ (getD_mem hj)
          have hfl := flatB_sh m p j
          have hei := end_iff hp j
          unfold i64 at hij
          refine Gx.skip fun aa ww hzz => (then_normal (Gx.go hzz ?_))
          refine Gx.seq ?_
          refine Gx.block ?_
          -- region 6
          refine Gx.seq_region ?_
          refine Rx.q rfl (.move rfl) ?_
          refine Rx.q rfl (.idx (j := j) rfl rfl (by omega) (by omega)) ?_
          refine Rx.q rfl (.ldi (l := p.l) rfl rfl hj) ?_
          refine Rx.q rfl (.assign rfl) ?_
          refine Rx.q rfl (.assign rfl) ?_
          refine Rx.next ?_
          refine Gx.seq ?_
          -- region 7
          refine Gx.seq_region ?_
          refine Rx.q rfl (.move rfl) ?_
          refine Rx.q rfl (.lss rfl rfl) ?_
          refine Rx.next ?_
          refine Gx.cond rfl (fun h28 => ?_) (fun h28 => ?_)
          · -- way
            have h28 := of_decide_eq_true h28
            -- region 8
            refine Gx.region ?_
            refine Rx.q rfl (.assign rfl) ?_
            refine Rx.next ?_
            refine Gx.seq ?_
            -- region 9
            refine Gx.seq_region ?_
            refine Rx.q rfl (.move rfl) ?_
            refine Rx.q rfl (.move rfl) ?_
            refine Rx.q rfl (.gtr rfl rfl) ?_
            refine Rx.next ?_
            refine Gx.cond rfl (fun h31 => ?_) (fun h31 => ?_)
            · -- way
              have h31 := of_decide_eq_true h31
              have h7 : m = min (max (p.l.getD j 0) 0) m := by omega
              -- region 10
              refine Gx.region ?_
              refine Rx.q rfl (.move rfl) ?_
              refine Rx.q rfl (.assign rfl) ?_
              refine Rx.next ?_
              -- region 11
              refine Gx.seq_region ?_
              refine Rx.q rfl (.move rfl) ?_
              refine Rx.q rfl (.move rfl) ?_
              refine Rx.q rfl (.mul_ rfl rfl (by omega)) ?_
              refine Rx.q rfl (.move rfl) ?_
              refine Rx.q rfl (.add_ rfl rfl (by omega)) ?_
              refine Rx.q rfl ((OpQ.quo_ rfl rfl (by omega)).val (u := .int .i64 (min (max (p.l.getD j 0) 0) m * 10 / (m + 1))) (by rw [← h7])) ?_
              refine Rx.q rfl (.idx_s (p := signs) (j := shadeI m (p.l.getD j 0)) rfl rfl (shadeI_lt m _ (by omega)) rfl) ?_
              refine Rx.slice1 rfl rfl rfl rfl rfl fun v40 hv40 => ?_
              refine Rx.one v40 fun ho40 => ?_
              refine Rx.app_bq (l := [shadeB m (p.l.getD j 0)]) rfl rfl (.own .here) (cells_sl (xs := bytesU [shadeB m (p.l.getD j 0)])) rfl rfl (by simp only [List.length_append, List.length_cons, List.length_nil]; omega) (Nat.succ_pos _) rfl fun v41 => ?_
              refine Rx.q rfl (.assign rfl) ?_
              refine Rx.next ?_
              -- region 12
              refine Gx.seq_region ?_
              refine Rx.q rfl (.move rfl) ?_
              refine Rx.q rfl (.add_ rfl rfl (by omega)) ?_
              refine Rx.q rfl (.fieldAddr rfl) ?_
              refine Rx.q rfl (.ld rfl rfl) ?_
              refine Rx.q rfl (.rem_ rfl rfl (by omega)) ?_
              refine Rx.q rfl (.eql rfl rfl) ?_
              refine Rx.next ?_
              refine Gx.cond rfl (fun h47 => ?_) (fun h47 => ?_)
              · -- way
                have h47 := of_decide_eq_true h47
                have he : endB [] p.w.toNat j = [10] := if_pos (hei.1 h47)
                have hnx : flatB (fun v => [shadeB m v]) [] p j ++ [shadeB m (p.l.getD j 0)] ++ [10] = flatB (fun v => [shadeB m v]) [] p (j + 1) := by rw [flatB_succ, he]; simp only [List.append_assoc]
                -- region 13
                refine Gx.region ?_
                refine Rx.q rfl (.move rfl) ?_
                refine Rx.slice1 rfl rfl rfl rfl rfl fun v49 hv49 => ?_
                refine Rx.one v49 fun ho49 => ?_
                refine Rx.app_bq (l := [10]) rfl rfl (.own .here) (cells_sl (xs := bytesU [10])) rfl rfl (by simp only [List.length_append, List.length_cons, List.length_nil]; omega) (by decide) rfl fun v50 => ?_
                rw [hnx]
                refine Rx.q rfl (.assign rfl) ?_
                refine Rx.nil fun aa ww hzz => (blk_normal (then_normal (Gx.go hzz ?_)))
                -- region 14
                refine Gx.region ?_
                refine Rx.q rfl (.add_ rfl rfl (by omega)) ?_
                refine Rx.q rfl (.move rfl) ?_
                refine Rx.nil fun aa ww hzz => (then_normal ⟨(v50, j + 1), by show j + 1 ≤ p.l.length; omega, (by omega), hzz.to (.cons rfl (.cons rfl (.cons rfl (.cons rfl (.cons rfl (.cons rfl .nil))))))⟩)
              · -- way
                have h47 := of_decide_eq_false h47
                have he : endB [] p.w.toNat j = [] := if_neg fun h => h47 (hei.2 h)
                have hnx : flatB (fun v => [shadeB m v]) [] p j ++ [shadeB m (p.l.getD j 0)] = flatB (fun v => [shadeB m v]) [] p (j + 1) := by rw [flatB_succ, he]; simp only [List.append_nil]
                rw [hnx]
                refine Gx.skip fun aa ww hzz => (blk_normal (then_normal (Gx.go hzz ?_)))
                -- region 14
                refine Gx.region ?_
                refine Rx.q rfl (.add_ rfl rfl (by omega)) ?_
                refine Rx.q rfl (.move rfl) ?_
                refine Rx.nil fun aa ww hzz => (then_normal ⟨(v41, j + 1), by show j + 1 ≤ p.l.length; omega, (by omega), hzz.to (.cons rfl (.cons rfl (.cons rfl (.cons rfl (.cons rfl (.cons rfl .nil))))))⟩)
            · -- way
              have h31 := of_decide_eq_false h31
              have h7 : 0 = min (max (p.l.getD j 0) 0) m := by omega
              refine Gx.skip fun aa ww hzz => (then_normal (Gx.go hzz ?_))
              -- region 11
              refine Gx.seq_region ?_
              refine Rx.q rfl (.move rfl) ?_
              refine Rx.q rfl (.move rfl) ?_
              refine Rx.q rfl (.mul_ rfl rfl (by omega)) ?_
              refine Rx.q rfl (.move rfl) ?_
              refine Rx.q rfl (.add_ rfl rfl (by omega)) ?_
              refine Rx.q rfl ((OpQ.quo_ rfl rfl (by omega)).val (u := .int .i64 (min (max (p.l.getD j 0) 0) m * 10 / (m + 1))) (by rw [← h7])) ?_
              refine Rx.q rfl (.idx_s (p := signs) (j := shadeI m (p.l.getD j 0)) rfl rfl (shadeI_lt m _ (by omega)) rfl) ?_
              refine Rx.slice1 rfl rfl rfl rfl rfl fun v40 hv40 => ?_
              refine Rx.one v40 fun ho40 => ?_
              refine Rx.app_bq (l := [shadeB m (p.l.getD j 0)]) rfl rfl (.own .here) (cells_sl (xs := bytesU [shadeB m (p.l.getD j 0)])) rfl rfl (by simp only [List.length_append, List.length_cons, List.length_nil]; omega) (Nat.succ_pos _) rfl fun v41 => ?_
              refine Rx.q rfl (.assign rfl) ?_
              refine Rx.next ?_
              -- region 12
              refine Gx.seq_region ?_
              refine Rx.q rfl (.move rfl) ?_
              refine Rx.q rfl (.add_ rfl rfl (by omega)) ?_
              refine Rx.q rfl (.fieldAddr rfl) ?_
              refine Rx.q rfl (.ld rfl rfl) ?_
              refine Rx.q rfl (.rem_ rfl rfl (by omega)) ?_
              refine Rx.q rfl (.eql rfl rfl) ?_
              refine Rx.next ?_
              refine Gx.cond rfl (fun h47 => ?_) (fun h47 => ?_)
              · -- way
                have h47 := of_decide_eq_true h47
                have he : endB [] p.w.toNat j = [10] := if_pos (hei.1 h47)
                have hnx : flatB (fun v => [shadeB m v]) [] p j ++ [shadeB m (p.l.getD j 0)] ++ [10] = flatB (fun v => [shadeB m v]) [] p (j + 1) := by rw [flatB_succ, he]; simp only [List.append_assoc]
                -- region 13
                refine Gx.region ?_
                refine Rx.q rfl (.move rfl) ?_
                refine Rx.slice1 rfl rfl rfl rfl rfl fun v49 hv49 => ?_
                refine Rx.one v49 fun ho49 => ?_
                refine Rx.app_bq (l := [10]) rfl rfl (.own .here) (cells_sl (xs := bytesU [10])) rfl rfl (by simp only [List.length_append, List.length_cons, List.length_nil]; omega) (by decide) rfl fun v50 => ?_
                rw [hnx]
                refine Rx.q rfl (.assign rfl) ?_
                refine Rx.nil fun aa ww hzz => (blk_normal (then_normal (Gx.go hzz ?_)))
                -- region 14
                refine Gx.region ?_
                refine Rx.q rfl (.add_ rfl rfl (by omega)) ?_
                refine Rx.q rfl (.move rfl) ?_
                refine Rx.nil fun aa ww hzz => (then_normal ⟨(v50, j + 1), by show j + 1 ≤ p.l.length; omega, (by omega), hzz.to (.cons rfl (.cons rfl (.cons rfl (.cons rfl (.cons rfl (.cons rfl .nil))))))⟩)
              · -- way
                have h47 := of_decide_eq_false h47
                have he : endB [] p.w.toNat j = [] := if_neg fun h => h47 (hei.2 h)
                have hnx : flatB (fun v => [shadeB m v]) [] p j ++ [shadeB m (p.l.getD j 0)] = flatB (fun v => [shadeB m v]) [] p (j + 1) := by rw [flatB_succ, he]; simp only [List.append_nil]
                rw [hnx]
                refine Gx.skip fun aa ww hzz => (blk_normal (then_normal (Gx.go hzz ?_)))
                -- region 14
                refine Gx.region ?_
                refine Rx.q rfl (.add_ rfl rfl (by omega)) ?_
                refine Rx.q rfl (.move rfl) ?_
                refine Rx.nil fun aa ww hzz => (then_normal ⟨(v41, j + 1), by show j + 1 ≤ p.l.length; omega, (by omega), hzz.to (.cons rfl (.cons rfl (.cons rfl (.cons rfl (.cons rfl (.cons rfl .nil))))))⟩)
          · -- way
            have h28 := of_decide_eq_false h28
            refine Gx.skip fun aa ww hzz => (then_normal (Gx.go hzz ?_))
            refine Gx.seq ?_
            -- region 9
            refine Gx.seq_region ?_
            refine Rx.q rfl (.move rfl) ?_
            refine Rx.q rfl (.move rfl) ?_
            refine Rx.q rfl (.gtr rfl rfl) ?_
            refine Rx.next ?_
            refine Gx.cond rfl (fun h31 => ?_) (fun h31 => ?_)
            · -- way
              have h31 := of_decide_eq_true h31
              have h7 : m = min (max (p.l.getD j 0) 0) m := by omega
              -- region 10
              refine Gx.region ?_
              refine Rx.q rfl (.move rfl) ?_
              refine Rx.q rfl (.assign rfl) ?_
              refine Rx.next ?_
              -- region 11
              refine Gx.seq_region ?_
              refine Rx.q rfl (.move rfl) ?_
              refine Rx.q rfl (.move rfl) ?_
              refine Rx.q rfl (.mul_ rfl rfl (by omega)) ?_
              refine Rx.q rfl (.move rfl) ?_
              refine Rx.q rfl (.add_ rfl rfl (by omega)) ?_
              refine Rx.q rfl ((OpQ.quo_ rfl rfl (by omega)).val (u := .int .i64 (min (max (p.l.getD j 0) 0) m * 10 / (m + 1))) (by rw [← h7])) ?_
              refine Rx.q rfl (.idx_s (p := signs) (j := shadeI m (p.l.getD j 0)) rfl rfl (shadeI_lt m _ (by omega)) rfl) ?_
              refine Rx.slice1 rfl rfl rfl rfl rfl fun v40 hv40 => ?_
              refine Rx.one v40 fun ho40 => ?_
              refine Rx.app_bq (l := [shadeB m (p.l.getD j 0)]) rfl rfl (.own .here) (cells_sl (xs := bytesU [shadeB m (p.l.getD j 0)])) rfl rfl (by simp only [List.length_append, List.length_cons, List.length_nil]; omega) (Nat.succ_pos _) rfl fun v41 => ?_
              refine Rx.q rfl (.assign rfl) ?_
              refine Rx.next ?_
              -- region 12
              refine Gx.seq_region ?_
              refine Rx.q rfl (.move rfl) ?_
              refine Rx.q rfl (.add_ rfl rfl (by omega)) ?_
              refine Rx.q rfl (.fieldAddr rfl) ?_
              refine Rx.q rfl (.ld rfl rfl) ?_
              refine Rx.q rfl (.rem_ rfl rfl (by omega)) ?_
              refine Rx.q rfl (.eql rfl rfl) ?_
              refine Rx.next ?_
              refine Gx.cond rfl (fun h47 => ?_) (fun h47 => ?_)
              · -- way
                have h47 := of_decide_eq_true h47
                have he : endB [] p.w.toNat j = [10] := if_pos (hei.1 h47)
                have hnx : flatB (fun v => [shadeB m v]) [] p j ++ [shadeB m (p.l.getD j 0)] ++ [10] = flatB (fun v => [shadeB m v]) [] p (j + 1) := by rw [flatB_succ, he]; simp only [List.append_assoc]
                -- region 13
                refine Gx.region ?_
                refine Rx.q rfl (.move rfl) ?_
                refine Rx.slice1 rfl rfl rfl rfl rfl fun v49 hv49 => ?_
                refine Rx.one v49 fun ho49 => ?_
                refine Rx.app_bq (l := [10]) rfl rfl (.own .here) (cells_sl (xs := bytesU [10])) rfl rfl (by simp only [List.length_append, List.length_cons, List.length_nil]; omega) (by decide) rfl fun v50 => ?_
                rw [hnx]
                refine Rx.q rfl (.assign rfl) ?_
                refine Rx.nil fun aa ww hzz => (blk_normal (then_normal (Gx.go hzz ?_)))
                -- region 14
                refine Gx.region ?_
                refine Rx.q rfl (.add_ rfl rfl (by omega)) ?_
                refine Rx.q rfl (.move rfl) ?_
                refine Rx.nil fun aa ww hzz => (then_normal ⟨(v50, j + 1), by show j + 1 ≤ p.l.length; omega, (by omega), hzz.to (.cons rfl (.cons rfl (.cons rfl (.cons rfl (.cons rfl (.cons rfl .nil))))))⟩)
              · -- way
                have h47 := of_decide_eq_false h47
                have he : endB [] p.w.toNat j = [] := if_neg fun h => h47 (hei.2 h)
                have hnx : flatB (fun v => [shadeB m v]) [] p j ++ [shadeB m (p.l.getD j 0)] = flatB (fun v => [shadeB m v]) [] p (j + 1) := by rw [flatB_succ, he]; simp only [List.append_nil]
                rw [hnx]
                refine Gx.skip fun aa ww hzz => (blk_normal (then_normal (Gx.go hzz ?_)))
                -- region 14
                refine Gx.region ?_
                refine Rx.q rfl (.add_ rfl rfl (by omega)) ?_
                refine Rx.q rfl (.move rfl) ?_
                refine Rx.nil fun aa ww hzz => (then_normal ⟨(v41, j + 1), by show j + 1 ≤ p.l.length; omega, (by omega), hzz.to (.cons rfl (.cons rfl (.cons rfl (.cons rfl (.cons rfl (.cons rfl .nil))))))⟩)
            · -- way
              have h31 := of_decide_eq_false h31
              have h7 : p.l.getD j 0 = min (max (p.l.getD j 0) 0) m := by omega
              refine Gx.skip fun aa ww hzz => (then_normal (Gx.go hzz ?_))
              -- region 11
              refine Gx.seq_region ?_
              refine Rx.q rfl (.move rfl) ?_
              refine Rx.q rfl (.move rfl) ?_
              refine Rx.q rfl (.mul_ rfl rfl (by omega)) ?_
              refine Rx.q rfl (.move rfl) ?_
              refine Rx.q rfl (.add_ rfl rfl (by omega)) ?_
              refine Rx.q rfl ((OpQ.quo_ rfl rfl (by omega)).val (u := .int .i64 (min (max (p.l.getD j 0) 0) m * 10 / (m + 1))) (by rw [← h7])) ?_
              refine Rx.q rfl (.idx_s (p := signs) (j := shadeI m (p.l.getD j 0)) rfl rfl (shadeI_lt m _ (by omega)) rfl) ?_
              refine Rx.slice1 rfl rfl rfl rfl rfl fun v40 hv40 => ?_
              refine Rx.one v40 fun ho40 => ?_
              refine Rx.app_bq (l := [shadeB m (p.l.getD j 0)]) rfl rfl (.own .here) (cells_sl (xs := bytesU [shadeB m (p.l.getD j 0)])) rfl rfl (by simp only [List.length_append, List.length_cons, List.length_nil]; omega) (Nat.succ_pos _) rfl fun v41 => ?_
              refine Rx.q rfl (.assign rfl) ?_
              refine Rx.next ?_
              -- region 12
              refine Gx.seq_region ?_
              refine Rx.q rfl (.move rfl) ?_
              refine Rx.q rfl (.add_ rfl rfl (by omega)) ?_
              refine Rx.q rfl (.fieldAddr rfl) ?_
              refine Rx.q rfl (.ld rfl rfl) ?_
              refine Rx.q rfl (.rem_ rfl rfl (by omega)) ?_
              refine Rx.q rfl (.eql rfl rfl) ?_
              refine Rx.next ?_
              refine Gx.cond rfl (fun h47 => ?_) (fun h47 => ?_)
              · -- way
                have h47 := of_decide_eq_true h47
                have he : endB [] p.w.toNat j = [10] := if_pos (hei.1 h47)
                have hnx : flatB (fun v => [shadeB m v]) [] p j ++ [shadeB m (p.l.getD j 0)] ++ [10] = flatB (fun v => [shadeB m v]) [] p (j + 1) := by rw [flatB_succ, he]; simp only [List.append_assoc]
                -- region 13
                refine Gx.region ?_
                refine Rx.q rfl (.move rfl) ?_
                refine Rx.slice1 rfl rfl rfl rfl rfl fun v49 hv49 => ?_
                refine Rx.one v49 fun ho49 => ?_
                refine Rx.app_bq (l := [10]) rfl rfl (.own .here) (cells_sl (xs := bytesU [10])) rfl rfl (by simp only [List.length_append, List.length_cons, List.length_nil]; omega) (by decide) rfl fun v50 => ?_
                rw [hnx]
                refine Rx.q rfl (.assign rfl) ?_
                refine Rx.nil fun aa ww hzz => (blk_normal (then_normal (Gx.go hzz ?_)))
                -- region 14
                refine Gx.region ?_
                refine Rx.q rfl (.add_ rfl rfl (by omega)) ?_
                refine Rx.q rfl (.move rfl) ?_
                refine Rx.nil fun aa ww hzz => (then_normal ⟨(v50, j + 1), by show j + 1 ≤ p.l.length; omega, (by omega), hzz.to (.cons rfl (.cons rfl (.cons rfl (.cons rfl (.cons rfl (.cons rfl .nil))))))⟩)
              · -- way
                have h47 := of_decide_eq_false h47
                have he : endB [] p.w.toNat j = [] := if_neg fun h => h47 (hei.2 h)
                have hnx : flatB (fun v => [shadeB m v]) [] p j ++ [shadeB m (p.l.getD j 0)] = flatB (fun v => [shadeB m v]) [] p (j + 1) := by rw [flatB_succ, he]; simp only [List.append_nil]
                rw [hnx]
                refine Gx.skip fun aa ww hzz => (blk_normal (then_normal (Gx.go hzz ?_)))
                -- region 14
                refine Gx.region ?_
                refine Rx.q rfl (.add_ rfl rfl (by omega)) ?_
                refine Rx.q rfl (.move rfl) ?_
                refine Rx.nil fun aa ww hzz => (then_normal ⟨(v41, j + 1), by show j + 1 ≤ p.l.length; omega, (by omega), hzz.to (.cons rfl (.cons rfl (.cons rfl (.cons rfl (.cons rfl (.cons rfl .nil))))))⟩)
        · -- way
          have h23 := of_decide_eq_false h23
          obtain rfl : j = p.l.length := by omega
          rw [← hyes]
          refine Gx.exit fun aa ww hzz => (then_exit (then_exit (blk_exit (then_normal (Gx.go hzz ?_)))))
          -- region 15
          refine Gx.seq_region ?_
          refine Rx.q rfl (.move rfl) ?_
          refine Rx.q rfl (.b2s rfl) ?_
          refine Rx.q rfl (.assign rfl) ?_
          refine Rx.next ?_
          refine Gx.ret fun aa ww hzz => (fin_tmp hzz rfl rfl (⟨rfl, rfl⟩))

end Go.Proofs.YtoiebfpafdcbmaaDoor
