/- The law's own functions: the texts of any planes. -/
import Derived.Test.YtoiebfpafdcbmaaDoorPB
import Derived.Test.YtoiebfpafdcbmaaDoorU2
namespace Go.Proofs.YtoiebfpafdcbmaaDoor
open Go Go.RowKit K
set_option linter.unusedVariables false
set_option linter.unusedSimpArgs false

theorem law38_TextPlanes (f : Fr) (u v w : Value) (m : Int) (ou : u.oneCell' = true) (ov : v.oneCell' = true) (ow : w.oneCell' = true) (hl : f.a.l.length ≤ 17592186044416 ∧ f.b.l.length ≤ 17592186044416 ∧ f.c.l.length ≤ 17592186044416) (hz : i64s f.a.l ∧ i64s f.b.l ∧ i64s f.c.l) : Spc Tryd.prog 4 [.agg (frC f u v w).toArray, .int .i64 m] [] [lib, plR f.a u, plR f.b v, plR f.c w, shrAll (frR [FrV.mk f u v w, FrV.mk f u v w])] (fun x L => x = .bool true ∧ L = []) := by
  refine Spc.intro Tryd.func4 rfl Tryd.ntmps4 (by kernel_rfl) rfl rfl fun w0 F0 => ?_
  -- region 0
  refine Gx.seq_region ?_
  refine Rx.box (vs := frC f u v w) rfl rfl rfl fun b2 => ?_
  refine Rx.q rfl (.assign rfl) ?_
  refine Rx.next ?_
  refine Gx.seq ?_
  -- region 1
  refine Gx.seq_region ?_
  refine Rx.cal (caps := []) (law38_first) rfl rfl rfl fun v10 L10 hP10 => ?_
  obtain ⟨rfl, rfl⟩ := hP10
  refine Rx.q rfl (.not rfl) ?_
  refine Rx.next ?_
  refine Gx.cond_f rfl ?_
  refine Gx.skip fun aa ww hzz => (then_normal (Gx.go hzz ?_))
  -- region 3
  refine Gx.seq_region ?_
  refine Rx.q rfl (.assign rfl) ?_
  refine Rx.next ?_
  refine Gx.seq ?_
  -- region 4
  refine Gx.seq_region ?_
  refine Rx.q rfl (.fieldAddr rfl) ?_
  refine Rx.q rfl (.ldc rfl (by rfl)) ?_
  refine Rx.q rfl (.move rfl) ?_
  refine Rx.next ?_
  refine Gx.block ?_
  refine Gx.lpn 3 ?_
  -- region 5
  refine Gx.seq_region ?_
  refine Rx.q rfl (.lss rfl rfl) ?_
  refine Rx.next ?_
  refine Gx.seq ?_
  refine Gx.cond_t rfl ?_
  refine Gx.skip fun aa ww hzz => (then_normal (Gx.go hzz ?_))
  refine Gx.seq ?_
  refine Gx.block ?_
  -- region 6
  refine Gx.seq_region ?_
  refine Rx.q rfl (.idx_aa (j := 0) (us := plC f.a u) rfl rfl (by decide) rfl rfl) ?_
  refine Rx.alloc (zs := [.int .i64 0, .int .i64 0, .slice none 0 0]) rfl rfl fun b7 => ?_
  refine Rx.stc rfl rfl (by first | rfl | simp only [List.all_cons, List.all_nil, one_int, one_bool, one_str, one_ptr, one_slice, one_func, Bool.and_true, Bool.true_and, *]) (by rfl) ?_
  refine Rx.next ?_
  -- region 7
  refine Gx.region ?_
  refine Rx.q rfl (.move rfl) ?_
  refine Rx.q rfl (.fieldAddr rfl) ?_
  refine Rx.q rfl (.ld rfl rfl) ?_
  refine Rx.q rfl (.lens rfl) ?_
  refine Rx.q rfl (.add_ rfl rfl (by omega)) ?_
  refine Rx.q rfl (.assign rfl) ?_
  refine Rx.nil fun aa ww hzz => (blk_normal (then_normal (Gx.go hzz ?_)))
  -- region 8
  refine Gx.region ?_
  refine Rx.q rfl (.add_ rfl rfl (by omega)) ?_
  refine Rx.q rfl (.move rfl) ?_
  refine Rx.nil fun aa ww hzz => (then_normal (rounds_go (m := 2) hzz ?_))
  -- region 5
  refine Gx.seq_region ?_
  refine Rx.q rfl (.lss rfl rfl) ?_
  refine Rx.next ?_
  refine Gx.seq ?_
  refine Gx.cond_t rfl ?_
  refine Gx.skip fun aa ww hzz => (then_normal (Gx.go hzz ?_))
  refine Gx.seq ?_
  refine Gx.block ?_
  -- region 6
  refine Gx.seq_region ?_
  refine Rx.q rfl (.idx_aa (j := 1) (us := plC f.b v) rfl rfl (by decide) rfl rfl) ?_
  refine Rx.alloc (zs := [.int .i64 0, .int .i64 0, .slice none 0 0]) rfl rfl fun b7 => ?_
  refine Rx.stc rfl rfl (by first | rfl | simp only [List.all_cons, List.all_nil, one_int, one_bool, one_str, one_ptr, one_slice, one_func, Bool.and_true, Bool.true_and, *]) (by rfl) ?_
  refine Rx.next ?_
  -- region 7
  refine Gx.region ?_
  refine Rx.q rfl (.move rfl) ?_
  refine Rx.q rfl (.fieldAddr rfl) ?_
  refine Rx.q rfl (.ld rfl rfl) ?_
  refine Rx.q rfl (.lens rfl) ?_
  refine Rx.q rfl (.add_ rfl rfl (by omega)) ?_
  refine Rx.q rfl (.assign rfl) ?_
  refine Rx.nil fun aa ww hzz => (blk_normal (then_normal (Gx.go hzz ?_)))
  -- region 8
  refine Gx.region ?_
  refine Rx.q rfl (.add_ rfl rfl (by omega)) ?_
  refine Rx.q rfl (.move rfl) ?_
  refine Rx.nil fun aa ww hzz => (then_normal (rounds_go (m := 1) hzz ?_))
  -- region 5
  refine Gx.seq_region ?_
  refine Rx.q rfl (.lss rfl rfl) ?_
  refine Rx.next ?_
  refine Gx.seq ?_
  refine Gx.cond_t rfl ?_
  refine Gx.skip fun aa ww hzz => (then_normal (Gx.go hzz ?_))
  refine Gx.seq ?_
  refine Gx.block ?_
  -- region 6
  refine Gx.seq_region ?_
  refine Rx.q rfl (.idx_aa (j := 2) (us := plC f.c w) rfl rfl (by decide) rfl rfl) ?_
  refine Rx.alloc (zs := [.int .i64 0, .int .i64 0, .slice none 0 0]) rfl rfl fun b7 => ?_
  refine Rx.stc rfl rfl (by first | rfl | simp only [List.all_cons, List.all_nil, one_int, one_bool, one_str, one_ptr, one_slice, one_func, Bool.and_true, Bool.true_and, *]) (by rfl) ?_
  refine Rx.next ?_
  -- region 7
  refine Gx.region ?_
  refine Rx.q rfl (.move rfl) ?_
  refine Rx.q rfl (.fieldAddr rfl) ?_
  refine Rx.q rfl (.ld rfl rfl) ?_
  refine Rx.q rfl (.lens rfl) ?_
  refine Rx.q rfl (.add_ rfl rfl (by omega)) ?_
  refine Rx.q rfl (.assign rfl) ?_
  refine Rx.nil fun aa ww hzz => (blk_normal (then_normal (Gx.go hzz ?_)))
  -- region 8
  refine Gx.region ?_
  refine Rx.q rfl (.add_ rfl rfl (by omega)) ?_
  refine Rx.q rfl (.move rfl) ?_
  refine Rx.nil fun aa ww hzz => (then_normal (rounds_go (m := 0) hzz ?_))
  -- region 5
  refine Gx.seq_region ?_
  refine Rx.q rfl (.lss rfl rfl) ?_
  refine Rx.next ?_
  refine Gx.seq ?_
  refine Gx.cond_f rfl ?_
  refine Gx.exit fun aa ww hzz => (then_exit (then_exit (blk_exit (then_normal (Gx.go hzz ?_)))))
  refine Gx.seq ?_
  -- region 9
  refine Gx.seq_region ?_
  refine Rx.q rfl (.move rfl) ?_
  refine Rx.q rfl (.gtr rfl rfl) ?_
  refine Rx.next ?_
  refine Gx.cond rfl (fun h24 => ?_) (fun h24 => ?_)
  · -- way
    have h24 := of_decide_eq_true h24
    -- region 10
    refine Gx.seq_region ?_
    refine Rx.q rfl (.assign rfl) ?_
    refine Rx.next ?_
    refine Gx.ret fun aa ww hzz => (then_ret (fin_tmp hzz rfl rfl (⟨rfl, rfl⟩)))
  · -- way
    have h24 := of_decide_eq_false h24
    have hl2 : f.a.l.length ≤ 1099511627776 ∧ f.b.l.length ≤ 1099511627776 ∧ f.c.l.length ≤ 1099511627776 := ⟨by omega, by omega, by omega⟩
    have hfl := frameS_le f hz
    refine Gx.skip fun aa ww hzz => (then_normal (Gx.go hzz ?_))
    refine Gx.seq ?_
    -- region 11
    refine Gx.seq_region ?_
    refine Rx.q rfl (.fieldAddr rfl) ?_
    refine Rx.q rfl (.ldc rfl (by rfl)) ?_
    refine Rx.q rfl (.move rfl) ?_
    refine Rx.next ?_
    refine Gx.block ?_
    refine Gx.lpn 3 ?_
    -- region 12
    refine Gx.seq_region ?_
    refine Rx.q rfl (.lss rfl rfl) ?_
    refine Rx.next ?_
    refine Gx.seq ?_
    refine Gx.cond_t rfl ?_
    refine Gx.skip fun aa ww hzz => (then_normal (Gx.go hzz ?_))
    refine Gx.seq ?_
    refine Gx.block ?_
    -- region 13
    refine Gx.seq_region ?_
    refine Rx.q rfl (.idx_aa (j := 0) (us := plC f.a u) rfl rfl (by decide) rfl rfl) ?_
    refine Rx.alloc (zs := [.int .i64 0, .int .i64 0, .slice none 0 0]) rfl rfl fun b9 => ?_
    refine Rx.stc rfl rfl (by first | rfl | simp only [List.all_cons, List.all_nil, one_int, one_bool, one_str, one_ptr, one_slice, one_func, Bool.and_true, Bool.true_and, *]) (by rfl) ?_
    refine Rx.next ?_
    refine Gx.seq ?_
    -- region 14
    refine Gx.region_quiet mixed (by kernel_rfl) ?_
    refine Dx.q rfl (.ldc rfl (by rfl)) ?_
    refine Dx.q rfl (.cal (caps := []) (text_Plane f.a u ou hl2.1 hz.1) rfl rfl) ?_
    refine Dx.q rfl (.ldc rfl (by rfl)) ?_
    refine Dx.q rfl (.cal (caps := []) (ref38_Plane f.a u ou hl2.1 hz.1) rfl rfl) ?_
    refine Dx.q rfl ((OpQ.neq_s rfl rfl).val (u := .bool false) (congrArg Value.bool (decide_eq_false (by simp)))) ?_
    refine Dx.q rfl (.move rfl) ?_
    refine Dx.guard_yes rfl rfl rfl (Dx.q rfl (.ldc rfl (by rfl)) ?_)
    refine Dx.guard_yes rfl rfl rfl (Dx.q rfl (.move rfl) ?_)
    refine Dx.guard_yes rfl rfl rfl (Dx.q rfl (.cal (caps := []) (text_Shades f.a u m hl2.1 hz.1 ou) rfl rfl) ?_)
    refine Dx.guard_yes rfl rfl rfl (Dx.q rfl (.ldc rfl (by rfl)) ?_)
    refine Dx.guard_yes rfl rfl rfl (Dx.q rfl (.move rfl) ?_)
    refine Dx.guard_yes rfl rfl rfl (Dx.q rfl (.cal (caps := []) (ref38_Shades f.a u m hl2.1 hz.1 ou) rfl rfl) ?_)
    refine Dx.guard_yes rfl rfl rfl (Dx.q rfl ((OpQ.neq_s rfl rfl).val (u := .bool false) (congrArg Value.bool (decide_eq_false (by simp)))) ?_)
    refine Dx.q rfl (.pick_f rfl rfl) ?_
    refine Dx.nextQ ?_
    refine Gx.cond_f rfl ?_
    refine Gx.skip fun aa ww hzz => (blk_normal (then_normal (Gx.go hzz ?_)))
    -- region 16
    refine Gx.region ?_
    refine Rx.q rfl (.add_ rfl rfl (by omega)) ?_
    refine Rx.q rfl (.move rfl) ?_
    refine Rx.nil fun aa ww hzz => (then_normal (rounds_go (m := 2) hzz ?_))
    -- region 12
    refine Gx.seq_region ?_
    refine Rx.q rfl (.lss rfl rfl) ?_
    refine Rx.next ?_
    refine Gx.seq ?_
    refine Gx.cond_t rfl ?_
    refine Gx.skip fun aa ww hzz => (then_normal (Gx.go hzz ?_))
    refine Gx.seq ?_
    refine Gx.block ?_
    -- region 13
    refine Gx.seq_region ?_
    refine Rx.q rfl (.idx_aa (j := 1) (us := plC f.b v) rfl rfl (by decide) rfl rfl) ?_
    refine Rx.alloc (zs := [.int .i64 0, .int .i64 0, .slice none 0 0]) rfl rfl fun b9 => ?_
    refine Rx.stc rfl rfl (by first | rfl | simp only [List.all_cons, List.all_nil, one_int, one_bool, one_str, one_ptr, one_slice, one_func, Bool.and_true, Bool.true_and, *]) (by rfl) ?_
    refine Rx.next ?_
    refine Gx.seq ?_
    -- region 14
    refine Gx.region_quiet mixed (by kernel_rfl) ?_
    refine Dx.q rfl (.ldc rfl (by rfl)) ?_
    refine Dx.q rfl (.cal (caps := []) (text_Plane f.b v ov hl2.2.1 hz.2.1) rfl rfl) ?_
    refine Dx.q rfl (.ldc rfl (by rfl)) ?_
    refine Dx.q rfl (.cal (caps := []) (ref38_Plane f.b v ov hl2.2.1 hz.2.1) rfl rfl) ?_
    refine Dx.q rfl ((OpQ.neq_s rfl rfl).val (u := .bool false) (congrArg Value.bool (decide_eq_false (by simp)))) ?_
    refine Dx.q rfl (.move rfl) ?_
    refine Dx.guard_yes rfl rfl rfl (Dx.q rfl (.ldc rfl (by rfl)) ?_)
    refine Dx.guard_yes rfl rfl rfl (Dx.q rfl (.move rfl) ?_)
    refine Dx.guard_yes rfl rfl rfl (Dx.q rfl (.cal (caps := []) (text_Shades f.b v m hl2.2.1 hz.2.1 ov) rfl rfl) ?_)
    refine Dx.guard_yes rfl rfl rfl (Dx.q rfl (.ldc rfl (by rfl)) ?_)
    refine Dx.guard_yes rfl rfl rfl (Dx.q rfl (.move rfl) ?_)
    refine Dx.guard_yes rfl rfl rfl (Dx.q rfl (.cal (caps := []) (ref38_Shades f.b v m hl2.2.1 hz.2.1 ov) rfl rfl) ?_)
    refine Dx.guard_yes rfl rfl rfl (Dx.q rfl ((OpQ.neq_s rfl rfl).val (u := .bool false) (congrArg Value.bool (decide_eq_false (by simp)))) ?_)
    refine Dx.q rfl (.pick_f rfl rfl) ?_
    refine Dx.nextQ ?_
    refine Gx.cond_f rfl ?_
    refine Gx.skip fun aa ww hzz => (blk_normal (then_normal (Gx.go hzz ?_)))
    -- region 16
    refine Gx.region ?_
    refine Rx.q rfl (.add_ rfl rfl (by omega)) ?_
    refine Rx.q rfl (.move rfl) ?_
    refine Rx.nil fun aa ww hzz => (then_normal (rounds_go (m := 1) hzz ?_))
    -- region 12
    refine Gx.seq_region ?_
    refine Rx.q rfl (.lss rfl rfl) ?_
    refine Rx.next ?_
    refine Gx.seq ?_
    refine Gx.cond_t rfl ?_
    refine Gx.skip fun aa ww hzz => (then_normal (Gx.go hzz ?_))
    refine Gx.seq ?_
    refine Gx.block ?_
    -- region 13
    refine Gx.seq_region ?_
    refine Rx.q rfl (.idx_aa (j := 2) (us := plC f.c w) rfl rfl (by decide) rfl rfl) ?_
    refine Rx.alloc (zs := [.int .i64 0, .int .i64 0, .slice none 0 0]) rfl rfl fun b9 => ?_
    refine Rx.stc rfl rfl (by first | rfl | simp only [List.all_cons, List.all_nil, one_int, one_bool, one_str, one_ptr, one_slice, one_func, Bool.and_true, Bool.true_and, *]) (by rfl) ?_
    refine Rx.next ?_
    refine Gx.seq ?_
    -- region 14
    refine Gx.region_quiet mixed (by kernel_rfl) ?_
    refine Dx.q rfl (.ldc rfl (by rfl)) ?_
    refine Dx.q rfl (.cal (caps := []) (text_Plane f.c w ow hl2.2.2 hz.2.2) rfl rfl) ?_
    refine Dx.q rfl (.ldc rfl (by rfl)) ?_
    refine Dx.q rfl (.cal (caps := []) (ref38_Plane f.c w ow hl2.2.2 hz.2.2) rfl rfl) ?_
    refine Dx.q rfl ((OpQ.neq_s rfl rfl).val (u := .bool false) (congrArg Value.bool (decide_eq_false (by simp)))) ?_
    refine Dx.q rfl (.move rfl) ?_
    refine Dx.guard_yes rfl rfl rfl (Dx.q rfl (.ldc rfl (by rfl)) ?_)
    refine Dx.guard_yes rfl rfl rfl (Dx.q rfl (.move rfl) ?_)
    refine Dx.guard_yes rfl rfl rfl (Dx.q rfl (.cal (caps := []) (text_Shades f.c w m hl2.2.2 hz.2.2 ow) rfl rfl) ?_)
    refine Dx.guard_yes rfl rfl rfl (Dx.q rfl (.ldc rfl (by rfl)) ?_)
    refine Dx.guard_yes rfl rfl rfl (Dx.q rfl (.move rfl) ?_)
    refine Dx.guard_yes rfl rfl rfl (Dx.q rfl (.cal (caps := []) (ref38_Shades f.c w m hl2.2.2 hz.2.2 ow) rfl rfl) ?_)
    refine Dx.guard_yes rfl rfl rfl (Dx.q rfl ((OpQ.neq_s rfl rfl).val (u := .bool false) (congrArg Value.bool (decide_eq_false (by simp)))) ?_)
    refine Dx.q rfl (.pick_f rfl rfl) ?_
    refine Dx.nextQ ?_
    refine Gx.cond_f rfl ?_
    refine Gx.skip fun aa ww hzz => (blk_normal (then_normal (Gx.go hzz ?_)))
    -- region 16
    refine Gx.region ?_
    refine Rx.q rfl (.add_ rfl rfl (by omega)) ?_
    refine Rx.q rfl (.move rfl) ?_
    refine Rx.nil fun aa ww hzz => (then_normal (rounds_go (m := 0) hzz ?_))
    -- region 12
    refine Gx.seq_region ?_
    refine Rx.q rfl (.lss rfl rfl) ?_
    refine Rx.next ?_
    refine Gx.seq ?_
    refine Gx.cond_f rfl ?_
    refine Gx.exit fun aa ww hzz => (then_exit (then_exit (blk_exit (then_normal (Gx.go hzz ?_)))))
    -- region 17
    refine Gx.region_ax (α := Unit) (fun y => True) (fun y => [(4, .bool true)]) (fun y => []) [pt b2 40 (frC f u v w)] mixed ?_ (fun y hy => ?_)
    · -- orders
      refine Ax.fl 0 rfl (by kernel_rfl) (by kernel_rfl) (by kernel_rfl) rfl rfl (.ldc rfl (by rfl)) ?_
      refine Ax.fl 2 rfl (by kernel_rfl) (by kernel_rfl) (by kernel_rfl) rfl rfl (.ldc rfl (by rfl)) ?_
      refine Ax.one 1 (by kernel_rfl) rfl ?_
      -- first 1
      refine Rx.q rfl (.cal (caps := []) (text_Frame f u v w ou ov ow hl2 hz) rfl rfl) ?_
      refine Ax.back ?_
      refine Ax.one 3 (by kernel_rfl) rfl ?_
      -- first 3
      refine Rx.q rfl (.cal (caps := []) (ref38_Frame f u v w ou ov ow hl2 hz) rfl rfl) ?_
      refine Ax.back ?_
      refine Ax.fl 4 rfl (by kernel_rfl) (by kernel_rfl) (by kernel_rfl) rfl rfl ((OpQ.eql_s rfl rfl).val (u := .bool true) (congrArg Value.bool (decide_eq_true rfl))) ?_
      refine Ax.fl 5 rfl (by kernel_rfl) (by kernel_rfl) (by kernel_rfl) rfl rfl (.move rfl) ?_
      refine Ax.fl_yes 6 rfl (by kernel_rfl) (by kernel_rfl) (by kernel_rfl) rfl rfl rfl rfl rfl (.ldc rfl (by rfl)) ?_
      refine Ax.fl_yes 7 rfl (by kernel_rfl) (by kernel_rfl) (by kernel_rfl) rfl rfl rfl rfl rfl (.ldc rfl (by rfl)) ?_
      refine Ax.fl_yes 10 rfl (by kernel_rfl) (by kernel_rfl) (by kernel_rfl) rfl rfl rfl rfl rfl (.ldc rfl (by rfl)) ?_
      refine Ax.fl_yes 12 rfl (by kernel_rfl) (by kernel_rfl) (by kernel_rfl) rfl rfl rfl rfl rfl (.ldc rfl (by rfl)) ?_
      refine Ax.one 8 (by kernel_rfl) rfl ?_
      -- first 8
      refine Rx.guard_yes rfl rfl rfl (Rx.sliceN (uss := [frC f u v w, frC f u v w]) rfl rfl rfl (by simp) rfl rfl fun v53 hv53 => ?_)
      refine Ax.back ?_
      refine Ax.one 9 (by kernel_rfl) rfl ?_
      -- first 9
      refine Rx.guard_yes rfl rfl rfl (Rx.q rfl (OpQ.call (caps := []) (M0 := [lib, rd 9 v53 2 (frsC [FrV.mk f u v w, FrV.mk f u v w]), shrAll (frR [FrV.mk f u v w, FrV.mk f u v w])]) (text_Film v53 [FrV.mk f u v w, FrV.mk f u v w] (by simp) (two_ok ⟨⟨ou, ov, ow⟩, hl2, hz⟩ ⟨⟨ou, ov, ow⟩, hl2, hz⟩) (by simp only [filmS, List.flatMap_cons, List.flatMap_nil, List.append_nil, List.length_append]; omega)) rfl rfl (.cons (Inn.gives (.shr .here)) (.cons (RdOf.ok (v := v53)) (.cons (Inn.gives (.shr (.there (.there (.there (.there .here)))))) .nil)))) ?_)
      refine Ax.back ?_
      refine Ax.one 11 (by kernel_rfl) rfl ?_
      -- first 11
      refine Rx.guard_yes rfl rfl rfl (Rx.q rfl (.cal (caps := []) (ref38_Frame f u v w ou ov ow hl2 hz) rfl rfl) ?_)
      refine Ax.back ?_
      refine Ax.one 13 (by kernel_rfl) rfl ?_
      -- first 13
      refine Rx.guard_yes rfl rfl rfl (Rx.q rfl (.cal (caps := []) (ref38_Frame f u v w ou ov ow hl2 hz) rfl rfl) ?_)
      refine Ax.back ?_
      refine Ax.fl_yes 14 rfl (by kernel_rfl) (by kernel_rfl) (by kernel_rfl) rfl rfl rfl rfl rfl (.cat_s rfl rfl (by first | omega | (simp only [List.length_append, List.length_cons, List.length_nil]; omega))) ?_
      refine Ax.fl_yes 15 rfl (by kernel_rfl) (by kernel_rfl) (by kernel_rfl) rfl rfl rfl rfl rfl ((OpQ.eql_s rfl rfl).val (u := .bool true) (congrArg Value.bool (decide_eq_true (by simp [filmS])))) ?_
      refine Ax.fl 16 rfl (by kernel_rfl) (by kernel_rfl) (by kernel_rfl) rfl rfl (.pick_t rfl rfl) ?_
      refine Ax.fl 17 rfl (by kernel_rfl) (by kernel_rfl) (by kernel_rfl) rfl rfl (.assign rfl) ?_
      refine Ax.fin (by kernel_rfl) fun aa ww hzz => ⟨(), trivial, hzz.to (.cons rfl .nil)⟩
    refine Gx.ret fun aa ww hzz => (fin_tmp hzz rfl rfl (⟨rfl, rfl⟩))

end Go.Proofs.YtoiebfpafdcbmaaDoor
