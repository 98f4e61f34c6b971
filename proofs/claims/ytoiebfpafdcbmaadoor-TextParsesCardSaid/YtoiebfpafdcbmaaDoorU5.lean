/- Contracts of the document's answer for texts: a frame that is next. -/
import Derived.Test.YtoiebfpafdcbmaaDoorU4
namespace Go.Proofs.YtoiebfpafdcbmaaDoor
open Go Go.RowKit K
set_option linter.unusedVariables false
set_option linter.unusedSimpArgs false

theorem ref38_RFrame (b : Nat) (s : List UInt8) (i : Nat) (hs : s.length ≤ 4000000000) (hi : i ≤ s.length) : Spc Tryd.prog 28 [.pointer (some ⟨b, 0, none⟩)] [rdr b s i] [] (fun x L => ∃ u v w f j ok, x = .tuple #[.agg (frC f u v w).toArray, .bool ok] ∧ L = [rdr b s j, plS f.a u, plS f.b v, plS f.c w] ∧ (u.oneCell' = true ∧ v.oneCell' = true ∧ w.oneCell' = true) ∧ j ≤ s.length ∧ (ok = true ∧ frameM s i = some (f, j) ∨ ok = false ∧ frameM s i = none ∧ f = zeroF)) := by
  refine Spc.intro Tryd.func28 rfl Tryd.ntmps28 (by kernel_rfl) rfl rfl fun w0 F0 => ?_
  -- region 0
  refine Gx.seq_region ?_
  refine Rx.alloc (zs := [.int .i64 0, .int .i64 0, .slice none 0 0, .int .i64 0, .int .i64 0, .slice none 0 0, .int .i64 0, .int .i64 0, .slice none 0 0]) rfl rfl fun b2 => ?_
  refine Rx.q rfl (.assign rfl) ?_
  refine Rx.next ?_
  -- region 1
  refine Gx.seq_region ?_
  refine Rx.alloc (zs := [.int .i64 0, .int .i64 0, .slice none 0 0, .int .i64 0, .int .i64 0, .slice none 0 0, .int .i64 0, .int .i64 0, .slice none 0 0]) rfl rfl fun b4 => ?_
  refine Rx.next ?_
  refine Gx.seq ?_
  -- region 2
  refine Gx.seq_region ?_
  refine Rx.q rfl (.assign rfl) ?_
  refine Rx.next ?_
  refine Gx.block ?_
  refine Gx.lpn 3 ?_
  refine Gx.seq ?_
  -- region 3
  refine Gx.seq_region ?_
  refine Rx.q rfl (.move rfl) ?_
  refine Rx.q rfl (.lss rfl rfl) ?_
  refine Rx.next ?_
  refine Gx.cond_t rfl ?_
  refine Gx.skip fun aa ww hzz => (then_normal (Gx.go hzz ?_))
  refine Gx.seq ?_
  refine Gx.block ?_
  -- region 5
  refine Gx.seq_region ?_
  refine Rx.q rfl (.move rfl) ?_
  refine Rx.cal (caps := []) (ref38_RPlane b s i hs hi) rfl rfl rfl fun v14 L14 hP14 => ?_
  obtain ⟨u, p0, i1, ok0, rfl, rfl, hou, hi1, hm0⟩ := hP14
  refine Rx.q rfl (.move rfl) ?_
  refine Rx.q rfl (.extract rfl rfl) ?_
  refine Rx.q rfl (.extract rfl rfl) ?_
  refine Rx.alloc (zs := [.int .i64 0, .int .i64 0, .slice none 0 0]) rfl rfl fun b6 => ?_
  refine Rx.stc rfl rfl (by first | rfl | simp only [List.all_cons, List.all_nil, one_int, one_bool, one_str, one_ptr, one_slice, one_func, Bool.and_true, Bool.true_and, *]) (by rfl) ?_
  refine Rx.q rfl (.assign rfl) ?_
  refine Rx.next ?_
  refine Gx.seq ?_
  -- region 6
  refine Gx.seq_region ?_
  refine Rx.q rfl (.move rfl) ?_
  refine Rx.q rfl (.not rfl) ?_
  refine Rx.next ?_
  refine Gx.cond rfl (fun h18 => ?_) (fun h18 => ?_)
  · -- way
    have h18 := bnot_t h18
    have hno : frameM s i = none := by
      rcases hm0 with ⟨h, _⟩ | ⟨_, h, _⟩
      · rw [h18] at h; cases h
      · simp only [frameM, h]
    -- region 7
    refine Gx.seq_region ?_
    refine Rx.q rfl (.build (cs := [.int .i64 0, .int .i64 0, .slice none 0 0, .int .i64 0, .int .i64 0, .slice none 0 0, .int .i64 0, .int .i64 0, .slice none 0 0]) rfl rfl) ?_
    refine Rx.stc rfl rfl (by first | rfl | simp only [List.all_cons, List.all_nil, one_int, one_bool, one_str, one_ptr, one_slice, one_func, Bool.and_true, Bool.true_and, *]) (by rfl) ?_
    refine Rx.q rfl (.assign rfl) ?_
    refine Rx.next ?_
    refine Gx.nilS (e := 3) (sz := 1) (Gx.nilS (e := 3) (sz := 1) (Gx.nilS (e := 3) (sz := 1) ?_))
    refine Gx.ret fun aa ww hzz => (then_ret (blk_ret (then_ret (then_ret (blk_ret (then_ret (fin_ct (L1 := [rdr b s i1, nilI, nilI, nilI]) hzz rfl rfl (by rfl) rfl (⟨_, _, _, zeroF, _, _, rfl, rfl, ⟨rfl, rfl, rfl⟩, by assumption, .inr ⟨rfl, hno, rfl⟩⟩))))))))
  · -- way
    have h18 := bnot_f h18
    have hy0 : planeM s i = some (p0, i1) := by
      rcases hm0 with ⟨_, h⟩ | ⟨h, _⟩
      · exact h
      · rw [h18] at h; cases h
    refine Gx.skip fun aa ww hzz => (then_normal (Gx.go hzz ?_))
    -- region 8
    refine Gx.region ?_
    refine Rx.q rfl (.move rfl) ?_
    refine Rx.q rfl (.ldc rfl (by rfl)) ?_
    refine Rx.q rfl (.fieldAddr rfl) ?_
    refine Rx.q rfl (.idxp (r := 0) rfl rfl (by decide) (by rfl)) ?_
    refine Rx.stc rfl rfl (by first | rfl | simp only [List.all_cons, List.all_nil, one_int, one_bool, one_str, one_ptr, one_slice, one_func, Bool.and_true, Bool.true_and, *]) (by rfl) ?_
    refine Rx.nil fun aa ww hzz => (blk_normal (then_normal (Gx.go hzz ?_)))
    -- region 4
    refine Gx.region ?_
    refine Rx.q rfl (.move rfl) ?_
    refine Rx.q rfl (.add_ rfl rfl (by omega)) ?_
    refine Rx.q rfl (.assign rfl) ?_
    refine Rx.nil fun aa ww hzz => (then_normal (rounds_go (m := 2) hzz ?_))
    refine Gx.seq ?_
    -- region 3
    refine Gx.seq_region ?_
    refine Rx.q rfl (.move rfl) ?_
    refine Rx.q rfl (.lss rfl rfl) ?_
    refine Rx.next ?_
    refine Gx.cond_t rfl ?_
    refine Gx.skip fun aa ww hzz => (then_normal (Gx.go hzz ?_))
    refine Gx.seq ?_
    refine Gx.block ?_
    -- region 5
    refine Gx.seq_region ?_
    refine Rx.q rfl (.move rfl) ?_
    refine Rx.cal (caps := []) (ref38_RPlane b s i1 hs hi1) rfl rfl rfl fun v14 L14 hP14 => ?_
    obtain ⟨v, p1, i2, ok1, rfl, rfl, hov, hi2, hm1⟩ := hP14
    refine Rx.q rfl (.move rfl) ?_
    refine Rx.q rfl (.extract rfl rfl) ?_
    refine Rx.q rfl (.extract rfl rfl) ?_
    refine Rx.alloc (zs := [.int .i64 0, .int .i64 0, .slice none 0 0]) rfl rfl fun b6 => ?_
    refine Rx.stc rfl rfl (by first | rfl | simp only [List.all_cons, List.all_nil, one_int, one_bool, one_str, one_ptr, one_slice, one_func, Bool.and_true, Bool.true_and, *]) (by rfl) ?_
    refine Rx.q rfl (.assign rfl) ?_
    refine Rx.next ?_
    refine Gx.seq ?_
    -- region 6
    refine Gx.seq_region ?_
    refine Rx.q rfl (.move rfl) ?_
    refine Rx.q rfl (.not rfl) ?_
    refine Rx.next ?_
    refine Gx.cond rfl (fun h18 => ?_) (fun h18 => ?_)
    · -- way
      have h18 := bnot_t h18
      have hno : frameM s i = none := by
        rcases hm1 with ⟨h, _⟩ | ⟨_, h, _⟩
        · rw [h18] at h; cases h
        · simp only [frameM, hy0, h]
      -- region 7
      refine Gx.seq_region ?_
      refine Rx.q rfl (.build (cs := [.int .i64 0, .int .i64 0, .slice none 0 0, .int .i64 0, .int .i64 0, .slice none 0 0, .int .i64 0, .int .i64 0, .slice none 0 0]) rfl rfl) ?_
      refine Rx.stc rfl rfl (by first | rfl | simp only [List.all_cons, List.all_nil, one_int, one_bool, one_str, one_ptr, one_slice, one_func, Bool.and_true, Bool.true_and, *]) (by rfl) ?_
      refine Rx.q rfl (.assign rfl) ?_
      refine Rx.next ?_
      refine Gx.nilS (e := 3) (sz := 1) (Gx.nilS (e := 3) (sz := 1) (Gx.nilS (e := 3) (sz := 1) ?_))
      refine Gx.ret fun aa ww hzz => (then_ret (blk_ret (then_ret (then_ret (blk_ret (then_ret (fin_ct (L1 := [rdr b s i2, nilI, nilI, nilI]) hzz rfl rfl (by rfl) rfl (⟨_, _, _, zeroF, _, _, rfl, rfl, ⟨rfl, rfl, rfl⟩, by assumption, .inr ⟨rfl, hno, rfl⟩⟩))))))))
    · -- way
      have h18 := bnot_f h18
      have hy1 : planeM s i1 = some (p1, i2) := by
        rcases hm1 with ⟨_, h⟩ | ⟨h, _⟩
        · exact h
        · rw [h18] at h; cases h
      refine Gx.skip fun aa ww hzz => (then_normal (Gx.go hzz ?_))
      -- region 8
      refine Gx.region ?_
      refine Rx.q rfl (.move rfl) ?_
      refine Rx.q rfl (.ldc rfl (by rfl)) ?_
      refine Rx.q rfl (.fieldAddr rfl) ?_
      refine Rx.q rfl (.idxp (r := 3) rfl rfl (by decide) (by rfl)) ?_
      refine Rx.stc rfl rfl (by first | rfl | simp only [List.all_cons, List.all_nil, one_int, one_bool, one_str, one_ptr, one_slice, one_func, Bool.and_true, Bool.true_and, *]) (by rfl) ?_
      refine Rx.nil fun aa ww hzz => (blk_normal (then_normal (Gx.go hzz ?_)))
      -- region 4
      refine Gx.region ?_
      refine Rx.q rfl (.move rfl) ?_
      refine Rx.q rfl (.add_ rfl rfl (by omega)) ?_
      refine Rx.q rfl (.assign rfl) ?_
      refine Rx.nil fun aa ww hzz => (then_normal (rounds_go (m := 1) hzz ?_))
      refine Gx.seq ?_
      -- region 3
      refine Gx.seq_region ?_
      refine Rx.q rfl (.move rfl) ?_
      refine Rx.q rfl (.lss rfl rfl) ?_
      refine Rx.next ?_
      refine Gx.cond_t rfl ?_
      refine Gx.skip fun aa ww hzz => (then_normal (Gx.go hzz ?_))
      refine Gx.seq ?_
      refine Gx.block ?_
      -- region 5
      refine Gx.seq_region ?_
      refine Rx.q rfl (.move rfl) ?_
      refine Rx.cal (caps := []) (ref38_RPlane b s i2 hs hi2) rfl rfl rfl fun v14 L14 hP14 => ?_
      obtain ⟨w, p2, i3, ok2, rfl, rfl, how, hi3, hm2⟩ := hP14
      refine Rx.q rfl (.move rfl) ?_
      refine Rx.q rfl (.extract rfl rfl) ?_
      refine Rx.q rfl (.extract rfl rfl) ?_
      refine Rx.alloc (zs := [.int .i64 0, .int .i64 0, .slice none 0 0]) rfl rfl fun b6 => ?_
      refine Rx.stc rfl rfl (by first | rfl | simp only [List.all_cons, List.all_nil, one_int, one_bool, one_str, one_ptr, one_slice, one_func, Bool.and_true, Bool.true_and, *]) (by rfl) ?_
      refine Rx.q rfl (.assign rfl) ?_
      refine Rx.next ?_
      refine Gx.seq ?_
      -- region 6
      refine Gx.seq_region ?_
      refine Rx.q rfl (.move rfl) ?_
      refine Rx.q rfl (.not rfl) ?_
      refine Rx.next ?_
      refine Gx.cond rfl (fun h18 => ?_) (fun h18 => ?_)
      · -- way
        have h18 := bnot_t h18
        have hno : frameM s i = none := by
          rcases hm2 with ⟨h, _⟩ | ⟨_, h, _⟩
          · rw [h18] at h; cases h
          · simp only [frameM, hy0, hy1, h]
        -- region 7
        refine Gx.seq_region ?_
        refine Rx.q rfl (.build (cs := [.int .i64 0, .int .i64 0, .slice none 0 0, .int .i64 0, .int .i64 0, .slice none 0 0, .int .i64 0, .int .i64 0, .slice none 0 0]) rfl rfl) ?_
        refine Rx.stc rfl rfl (by first | rfl | simp only [List.all_cons, List.all_nil, one_int, one_bool, one_str, one_ptr, one_slice, one_func, Bool.and_true, Bool.true_and, *]) (by rfl) ?_
        refine Rx.q rfl (.assign rfl) ?_
        refine Rx.next ?_
        refine Gx.nilS (e := 3) (sz := 1) (Gx.nilS (e := 3) (sz := 1) (Gx.nilS (e := 3) (sz := 1) ?_))
        refine Gx.ret fun aa ww hzz => (then_ret (blk_ret (then_ret (then_ret (blk_ret (then_ret (fin_ct (L1 := [rdr b s i3, nilI, nilI, nilI]) hzz rfl rfl (by rfl) rfl (⟨_, _, _, zeroF, _, _, rfl, rfl, ⟨rfl, rfl, rfl⟩, by assumption, .inr ⟨rfl, hno, rfl⟩⟩))))))))
      · -- way
        have h18 := bnot_f h18
        have hy2 : planeM s i2 = some (p2, i3) := by
          rcases hm2 with ⟨_, h⟩ | ⟨h, _⟩
          · exact h
          · rw [h18] at h; cases h
        have hyes : frameM s i = some (⟨p0, p1, p2⟩, i3) := by simp only [frameM, hy0, hy1, hy2]
        refine Gx.skip fun aa ww hzz => (then_normal (Gx.go hzz ?_))
        -- region 8
        refine Gx.region ?_
        refine Rx.q rfl (.move rfl) ?_
        refine Rx.q rfl (.ldc rfl (by rfl)) ?_
        refine Rx.q rfl (.fieldAddr rfl) ?_
        refine Rx.q rfl (.idxp (r := 6) rfl rfl (by decide) (by rfl)) ?_
        refine Rx.stc rfl rfl (by first | rfl | simp only [List.all_cons, List.all_nil, one_int, one_bool, one_str, one_ptr, one_slice, one_func, Bool.and_true, Bool.true_and, *]) (by rfl) ?_
        refine Rx.nil fun aa ww hzz => (blk_normal (then_normal (Gx.go hzz ?_)))
        -- region 4
        refine Gx.region ?_
        refine Rx.q rfl (.move rfl) ?_
        refine Rx.q rfl (.add_ rfl rfl (by omega)) ?_
        refine Rx.q rfl (.assign rfl) ?_
        refine Rx.nil fun aa ww hzz => (then_normal (rounds_go (m := 0) hzz ?_))
        refine Gx.seq ?_
        -- region 3
        refine Gx.seq_region ?_
        refine Rx.q rfl (.move rfl) ?_
        refine Rx.q rfl (.lss rfl rfl) ?_
        refine Rx.next ?_
        refine Gx.cond_f rfl ?_
        refine Gx.exit fun aa ww hzz => (then_exit (then_exit (blk_exit (then_normal (Gx.go hzz ?_)))))
        -- region 9
        refine Gx.seq_region ?_
        refine Rx.q rfl (.ldc rfl (by rfl)) ?_
        refine Rx.stc rfl rfl (by first | rfl | simp only [List.all_cons, List.all_nil, one_int, one_bool, one_str, one_ptr, one_slice, one_func, Bool.and_true, Bool.true_and, *]) (by rfl) ?_
        refine Rx.q rfl (.assign rfl) ?_
        refine Rx.next ?_
        refine Gx.ret fun aa ww hzz => (fin_ct (L1 := [rdr b s i3, plS p0 u, plS p1 v, plS p2 w]) hzz rfl rfl (by rfl) rfl (⟨_, _, _, ⟨p0, p1, p2⟩, _, _, rfl, rfl, ⟨hou, hov, how⟩, hi3, .inl ⟨rfl, hyes⟩⟩))

end Go.Proofs.YtoiebfpafdcbmaaDoor
