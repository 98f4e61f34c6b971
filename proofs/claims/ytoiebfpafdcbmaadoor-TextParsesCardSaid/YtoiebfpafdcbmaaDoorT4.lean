/- Contracts of layer text: planes, frames, films of texts. -/
import Derived.Test.YtoiebfpafdcbmaaDoorT3
namespace Go.Proofs.YtoiebfpafdcbmaaDoor
open Go Go.RowKit K
set_option linter.unusedVariables false
set_option linter.unusedSimpArgs false

abbrev nilI : As := sl 3 1 (.slice none 0 0) 0 []
theorem text_frame (b : Nat) (s : List UInt8) (i : Nat) (hs : s.length ≤ 4000000000) (hi : i ≤ s.length) : Spc Tryd.prog 59 [.pointer (some ⟨b, 0, none⟩)] [scn b s i] [lib] (fun x L => ∃ u v w f j ok, x = .tuple #[.agg (frC f u v w).toArray, .bool ok] ∧ L = [scn b s j, plS f.a u, plS f.b v, plS f.c w] ∧ (u.oneCell' = true ∧ v.oneCell' = true ∧ w.oneCell' = true) ∧ j ≤ s.length ∧ (ok = true ∧ frameM s i = some (f, j) ∨ ok = false ∧ frameM s i = none)) := by
  refine Spc.intro Tryd.func59 rfl Tryd.ntmps59 (by kernel_rfl) rfl rfl fun w0 F0 => ?_
  -- region 0
  refine Gx.seq_region ?_
  refine Rx.alloc (zs := [.int .i64 0, .int .i64 0, .slice none 0 0, .int .i64 0, .int .i64 0, .slice none 0 0, .int .i64 0, .int .i64 0, .slice none 0 0]) rfl rfl fun b2 => ?_
  refine Rx.q rfl (.assign rfl) ?_
  refine Rx.next ?_
  -- region 1
  refine Gx.seq_region ?_
  refine Rx.alloc (zs := [.int .i64 0, .int .i64 0, .slice none 0 0, .int .i64 0, .int .i64 0, .slice none 0 0, .int .i64 0, .int .i64 0, .slice none 0 0]) rfl rfl fun b4 => ?_
  refine Rx.next ?_
  refine Gx.seq ?_
  -- region 2
  refine Gx.seq_region ?_
  refine Rx.q rfl (.move rfl) ?_
  refine Rx.next ?_
  refine Gx.block ?_
  refine Gx.lpn 3 ?_
  -- region 3
  refine Gx.seq_region ?_
  refine Rx.q rfl (.lss rfl rfl) ?_
  refine Rx.next ?_
  refine Gx.seq ?_
  refine Gx.cond_t rfl ?_
  refine Gx.skip fun aa ww hzz => (then_normal (Gx.go hzz ?_))
  refine Gx.seq ?_
  refine Gx.block ?_
  -- region 4
  refine Gx.seq_region ?_
  refine Rx.q rfl (.move rfl) ?_
  refine Rx.q rfl (.assign rfl) ?_
  refine Rx.next ?_
  -- region 5
  refine Gx.seq_region ?_
  refine Rx.q rfl (.move rfl) ?_
  refine Rx.cal (caps := []) (text_plane b s i hs hi) rfl rfl rfl fun v13 L13 hP13 => ?_
  obtain ⟨u, p0, i1, ok0, rfl, rfl, hou, hi1, hm0⟩ := hP13
  refine Rx.q rfl (.move rfl) ?_
  refine Rx.q rfl (.extract rfl rfl) ?_
  refine Rx.q rfl (.extract rfl rfl) ?_
  refine Rx.alloc (zs := [.int .i64 0, .int .i64 0, .slice none 0 0]) rfl rfl fun b6 => ?_
  refine Rx.stc rfl rfl (by first | rfl | simp only [List.all_cons, List.all_nil, one_int, one_bool, one_str, one_ptr, one_slice, one_func, Bool.and_true, Bool.true_and, *]) (by rfl) ?_
  refine Rx.q rfl (.assign rfl) ?_
  refine Rx.next ?_
  refine Gx.seq ?_
  -- region 6
  refine Gx.seq_region ?_
  refine Rx.q rfl (.move rfl) ?_
  refine Rx.q rfl (.not rfl) ?_
  refine Rx.next ?_
  refine Gx.cond rfl (fun h17 => ?_) (fun h17 => ?_)
  · -- way
    have h17 := bnot_t h17
    have hno : frameM s i = none := by
      rcases hm0 with ⟨h, _⟩ | ⟨_, h⟩
      · rw [h17] at h; cases h
      · simp only [frameM, h]
    -- region 7
    refine Gx.seq_region ?_
    refine Rx.q rfl (.build (cs := [.int .i64 0, .int .i64 0, .slice none 0 0, .int .i64 0, .int .i64 0, .slice none 0 0, .int .i64 0, .int .i64 0, .slice none 0 0]) rfl rfl) ?_
    refine Rx.stc rfl rfl (by first | rfl | simp only [List.all_cons, List.all_nil, one_int, one_bool, one_str, one_ptr, one_slice, one_func, Bool.and_true, Bool.true_and, *]) (by rfl) ?_
    refine Rx.q rfl (.assign rfl) ?_
    refine Rx.next ?_
    refine Gx.nilS (e := 3) (sz := 1) (Gx.nilS (e := 3) (sz := 1) (Gx.nilS (e := 3) (sz := 1) ?_))
    refine Gx.ret fun aa ww hzz => (then_ret (blk_ret (then_ret (then_ret (blk_ret (then_ret (fin_ct (L1 := [scn b s i1, nilI, nilI, nilI]) hzz rfl rfl (by rfl) rfl (⟨_, _, _, zeroF, _, _, rfl, rfl, ⟨rfl, rfl, rfl⟩, by assumption, .inr ⟨rfl, hno⟩⟩))))))))
  · -- way
    have h17 := bnot_f h17
    have hy0 : planeM s i = some (p0, i1) := by
      rcases hm0 with ⟨_, h⟩ | ⟨h, _⟩
      · exact h
      · rw [h17] at h; cases h
    refine Gx.skip fun aa ww hzz => (then_normal (Gx.go hzz ?_))
    -- region 8
    refine Gx.region ?_
    refine Rx.q rfl (.move rfl) ?_
    refine Rx.q rfl (.ldc rfl (by rfl)) ?_
    refine Rx.q rfl (.fieldAddr rfl) ?_
    refine Rx.q rfl (.idxp (r := 0) rfl rfl (by decide) (by rfl)) ?_
    refine Rx.stc rfl rfl (by first | rfl | simp only [List.all_cons, List.all_nil, one_int, one_bool, one_str, one_ptr, one_slice, one_func, Bool.and_true, Bool.true_and, *]) (by rfl) ?_
    refine Rx.nil fun aa ww hzz => (blk_normal (then_normal (Gx.go hzz ?_)))
    -- region 9
    refine Gx.region ?_
    refine Rx.q rfl (.add_ rfl rfl (by omega)) ?_
    refine Rx.q rfl (.move rfl) ?_
    refine Rx.nil fun aa ww hzz => (then_normal (rounds_go (m := 2) hzz ?_))
    -- region 3
    refine Gx.seq_region ?_
    refine Rx.q rfl (.lss rfl rfl) ?_
    refine Rx.next ?_
    refine Gx.seq ?_
    refine Gx.cond_t rfl ?_
    refine Gx.skip fun aa ww hzz => (then_normal (Gx.go hzz ?_))
    refine Gx.seq ?_
    refine Gx.block ?_
    -- region 4
    refine Gx.seq_region ?_
    refine Rx.q rfl (.move rfl) ?_
    refine Rx.q rfl (.assign rfl) ?_
    refine Rx.next ?_
    -- region 5
    refine Gx.seq_region ?_
    refine Rx.q rfl (.move rfl) ?_
    refine Rx.cal (caps := []) (text_plane b s i1 hs hi1) rfl rfl rfl fun v13 L13 hP13 => ?_
    obtain ⟨v, p1, i2, ok1, rfl, rfl, hov, hi2, hm1⟩ := hP13
    refine Rx.q rfl (.move rfl) ?_
    refine Rx.q rfl (.extract rfl rfl) ?_
    refine Rx.q rfl (.extract rfl rfl) ?_
    refine Rx.alloc (zs := [.int .i64 0, .int .i64 0, .slice none 0 0]) rfl rfl fun b6 => ?_
    refine Rx.stc rfl rfl (by first | rfl | simp only [List.all_cons, List.all_nil, one_int, one_bool, one_str, one_ptr, one_slice, one_func, Bool.and_true, Bool.true_and, *]) (by rfl) ?_
    refine Rx.q rfl (.assign rfl) ?_
    refine Rx.next ?_
    refine Gx.seq ?_
    -- region 6
    refine Gx.seq_region ?_
    refine Rx.q rfl (.move rfl) ?_
    refine Rx.q rfl (.not rfl) ?_
    refine Rx.next ?_
    refine Gx.cond rfl (fun h17 => ?_) (fun h17 => ?_)
    · -- way
      have h17 := bnot_t h17
      have hno : frameM s i = none := by
        rcases hm1 with ⟨h, _⟩ | ⟨_, h⟩
        · rw [h17] at h; cases h
        · simp only [frameM, hy0, h]
      -- region 7
      refine Gx.seq_region ?_
      refine Rx.q rfl (.build (cs := [.int .i64 0, .int .i64 0, .slice none 0 0, .int .i64 0, .int .i64 0, .slice none 0 0, .int .i64 0, .int .i64 0, .slice none 0 0]) rfl rfl) ?_
      refine Rx.stc rfl rfl (by first | rfl | simp only [List.all_cons, List.all_nil, one_int, one_bool, one_str, one_ptr, one_slice, one_func, Bool.and_true, Bool.true_and, *]) (by rfl) ?_
      refine Rx.q rfl (.assign rfl) ?_
      refine Rx.next ?_
      refine Gx.nilS (e := 3) (sz := 1) (Gx.nilS (e := 3) (sz := 1) (Gx.nilS (e := 3) (sz := 1) ?_))
      refine Gx.ret fun aa ww hzz => (then_ret (blk_ret (then_ret (then_ret (blk_ret (then_ret (fin_ct (L1 := [scn b s i2, nilI, nilI, nilI]) hzz rfl rfl (by rfl) rfl (⟨_, _, _, zeroF, _, _, rfl, rfl, ⟨rfl, rfl, rfl⟩, by assumption, .inr ⟨rfl, hno⟩⟩))))))))
    · -- way
      have h17 := bnot_f h17
      have hy1 : planeM s i1 = some (p1, i2) := by
        rcases hm1 with ⟨_, h⟩ | ⟨h, _⟩
        · exact h
        · rw [h17] at h; cases h
      refine Gx.skip fun aa ww hzz => (then_normal (Gx.go hzz ?_))
      -- region 8
      refine Gx.region ?_
      refine Rx.q rfl (.move rfl) ?_
      refine Rx.q rfl (.ldc rfl (by rfl)) ?_
      refine Rx.q rfl (.fieldAddr rfl) ?_
      refine Rx.q rfl (.idxp (r := 3) rfl rfl (by decide) (by rfl)) ?_
      refine Rx.stc rfl rfl (by first | rfl | simp only [List.all_cons, List.all_nil, one_int, one_bool, one_str, one_ptr, one_slice, one_func, Bool.and_true, Bool.true_and, *]) (by rfl) ?_
      refine Rx.nil fun aa ww hzz => (blk_normal (then_normal (Gx.go hzz ?_)))
      -- region 9
      refine Gx.region ?_
      refine Rx.q rfl (.add_ rfl rfl (by omega)) ?_
      refine Rx.q rfl (.move rfl) ?_
      refine Rx.nil fun aa ww hzz => (then_normal (rounds_go (m := 1) hzz ?_))
      -- region 3
      refine Gx.seq_region ?_
      refine Rx.q rfl (.lss rfl rfl) ?_
      refine Rx.next ?_
      refine Gx.seq ?_
      refine Gx.cond_t rfl ?_
      refine Gx.skip fun aa ww hzz => (then_normal (Gx.go hzz ?_))
      refine Gx.seq ?_
      refine Gx.block ?_
      -- region 4
      refine Gx.seq_region ?_
      refine Rx.q rfl (.move rfl) ?_
      refine Rx.q rfl (.assign rfl) ?_
      refine Rx.next ?_
      -- region 5
      refine Gx.seq_region ?_
      refine Rx.q rfl (.move rfl) ?_
      refine Rx.cal (caps := []) (text_plane b s i2 hs hi2) rfl rfl rfl fun v13 L13 hP13 => ?_
      obtain ⟨w, p2, i3, ok2, rfl, rfl, how, hi3, hm2⟩ := hP13
      refine Rx.q rfl (.move rfl) ?_
      refine Rx.q rfl (.extract rfl rfl) ?_
      refine Rx.q rfl (.extract rfl rfl) ?_
      refine Rx.alloc (zs := [.int .i64 0, .int .i64 0, .slice none 0 0]) rfl rfl fun b6 => ?_
      refine Rx.stc rfl rfl (by first | rfl | simp only [List.all_cons, List.all_nil, one_int, one_bool, one_str, one_ptr, one_slice, one_func, Bool.and_true, Bool.true_and, *]) (by rfl) ?_
      refine Rx.q rfl (.assign rfl) ?_
      refine Rx.next ?_
      refine Gx.seq ?_
      -- region 6
      refine Gx.seq_region ?_
      refine Rx.q rfl (.move rfl) ?_
      refine Rx.q rfl (.not rfl) ?_
      refine Rx.next ?_
      refine Gx.cond rfl (fun h17 => ?_) (fun h17 => ?_)
      · -- way
        have h17 := bnot_t h17
        have hno : frameM s i = none := by
          rcases hm2 with ⟨h, _⟩ | ⟨_, h⟩
          · rw [h17] at h; cases h
          · simp only [frameM, hy0, hy1, h]
        -- region 7
        refine Gx.seq_region ?_
        refine Rx.q rfl (.build (cs := [.int .i64 0, .int .i64 0, .slice none 0 0, .int .i64 0, .int .i64 0, .slice none 0 0, .int .i64 0, .int .i64 0, .slice none 0 0]) rfl rfl) ?_
        refine Rx.stc rfl rfl (by first | rfl | simp only [List.all_cons, List.all_nil, one_int, one_bool, one_str, one_ptr, one_slice, one_func, Bool.and_true, Bool.true_and, *]) (by rfl) ?_
        refine Rx.q rfl (.assign rfl) ?_
        refine Rx.next ?_
        refine Gx.nilS (e := 3) (sz := 1) (Gx.nilS (e := 3) (sz := 1) (Gx.nilS (e := 3) (sz := 1) ?_))
        refine Gx.ret fun aa ww hzz => (then_ret (blk_ret (then_ret (then_ret (blk_ret (then_ret (fin_ct (L1 := [scn b s i3, nilI, nilI, nilI]) hzz rfl rfl (by rfl) rfl (⟨_, _, _, zeroF, _, _, rfl, rfl, ⟨rfl, rfl, rfl⟩, by assumption, .inr ⟨rfl, hno⟩⟩))))))))
      · -- way
        have h17 := bnot_f h17
        have hy2 : planeM s i2 = some (p2, i3) := by
          rcases hm2 with ⟨_, h⟩ | ⟨h, _⟩
          · exact h
          · rw [h17] at h; cases h
        have hyes : frameM s i = some (⟨p0, p1, p2⟩, i3) := by simp only [frameM, hy0, hy1, hy2]
        refine Gx.skip fun aa ww hzz => (then_normal (Gx.go hzz ?_))
        -- region 8
        refine Gx.region ?_
        refine Rx.q rfl (.move rfl) ?_
        refine Rx.q rfl (.ldc rfl (by rfl)) ?_
        refine Rx.q rfl (.fieldAddr rfl) ?_
        refine Rx.q rfl (.idxp (r := 6) rfl rfl (by decide) (by rfl)) ?_
        refine Rx.stc rfl rfl (by first | rfl | simp only [List.all_cons, List.all_nil, one_int, one_bool, one_str, one_ptr, one_slice, one_func, Bool.and_true, Bool.true_and, *]) (by rfl) ?_
        refine Rx.nil fun aa ww hzz => (blk_normal (then_normal (Gx.go hzz ?_)))
        -- region 9
        refine Gx.region ?_
        refine Rx.q rfl (.add_ rfl rfl (by omega)) ?_
        refine Rx.q rfl (.move rfl) ?_
        refine Rx.nil fun aa ww hzz => (then_normal (rounds_go (m := 0) hzz ?_))
        -- region 3
        refine Gx.seq_region ?_
        refine Rx.q rfl (.lss rfl rfl) ?_
        refine Rx.next ?_
        refine Gx.seq ?_
        refine Gx.cond_f rfl ?_
        refine Gx.exit fun aa ww hzz => (then_exit (then_exit (blk_exit (then_normal (Gx.go hzz ?_)))))
        -- region 10
        refine Gx.seq_region ?_
        refine Rx.q rfl (.ldc rfl (by rfl)) ?_
        refine Rx.stc rfl rfl (by first | rfl | simp only [List.all_cons, List.all_nil, one_int, one_bool, one_str, one_ptr, one_slice, one_func, Bool.and_true, Bool.true_and, *]) (by rfl) ?_
        refine Rx.q rfl (.assign rfl) ?_
        refine Rx.next ?_
        refine Gx.ret fun aa ww hzz => (fin_ct (L1 := [scn b s i3, plS p0 u, plS p1 v, plS p2 w]) hzz rfl rfl (by rfl) rfl (⟨_, _, _, ⟨p0, p1, p2⟩, _, _, rfl, rfl, ⟨hou, hov, how⟩, hi3, .inl ⟨rfl, hyes⟩⟩))


theorem text_ParsePlane (s : List UInt8) (hs : s.length ≤ 4000000000) : Spc Tryd.prog 24 [str s] [] [lib] (fun u L => ∃ v, u = .tuple #[.agg (plC (parsePlane s).1 v).toArray, .int .i64 (parsePlane s).2.1, .bool (parsePlane s).2.2] ∧ L = [plS (parsePlane s).1 v] ∧ v.oneCell' = true) := by
  refine Spc.intro Tryd.func24 rfl Tryd.ntmps24 (by kernel_rfl) rfl rfl fun w0 F0 => ?_
  -- region 0
  refine Gx.seq_region ?_
  refine Rx.alloc (zs := [.int .i64 0, .int .i64 0, .slice none 0 0]) rfl rfl fun b2 => ?_
  refine Rx.q rfl (.assign rfl) ?_
  refine Rx.q rfl (.assign rfl) ?_
  refine Rx.next ?_
  -- region 1
  refine Gx.seq_region ?_
  refine Rx.q rfl (.move rfl) ?_
  refine Rx.q rfl (.build (cs := [str s, .int .i64 0]) rfl rfl) ?_
  refine Rx.box (vs := [str s, .int .i64 ((0 : Nat) : Int)]) rfl rfl rfl fun b10 => ?_
  refine Rx.q rfl (.assign rfl) ?_
  refine Rx.next ?_
  -- region 2
  refine Gx.seq_region ?_
  refine Rx.q rfl (.move rfl) ?_
  refine Rx.cal (caps := []) (text_plane b10 s 0 hs (Nat.zero_le _)) rfl rfl rfl fun v13 L13 hP13 => ?_
  obtain ⟨v13, p, j, ok, rfl, rfl, ho13, hj, hm⟩ := hP13
  refine Rx.q rfl (.move rfl) ?_
  refine Rx.q rfl (.extract rfl rfl) ?_
  refine Rx.q rfl (.extract rfl rfl) ?_
  refine Rx.alloc (zs := [.int .i64 0, .int .i64 0, .slice none 0 0]) rfl rfl fun b6 => ?_
  refine Rx.stc rfl rfl (by first | rfl | simp only [List.all_cons, List.all_nil, one_int, one_bool, one_str, one_ptr, one_slice, one_func, Bool.and_true, Bool.true_and, *]) (by rfl) ?_
  refine Rx.q rfl (.assign rfl) ?_
  refine Rx.next ?_
  refine Gx.seq ?_
  -- region 3
  refine Gx.seq_region ?_
  refine Rx.q rfl (.move rfl) ?_
  refine Rx.q rfl (.not rfl) ?_
  refine Rx.next ?_
  refine Gx.cond rfl (fun h17 => ?_) (fun h17 => ?_)
  · -- way
    have h17 := bnot_t h17
    have hno : parsePlane s = (zeroP, 0, false) := by
      rcases hm with ⟨h, _⟩ | ⟨_, h⟩
      · rw [h17] at h; cases h
      · simp only [parsePlane, h]
    -- region 4
    refine Gx.seq_region ?_
    refine Rx.q rfl (.build (cs := [.int .i64 0, .int .i64 0, .slice none 0 0]) rfl rfl) ?_
    refine Rx.stc rfl rfl (by first | rfl | simp only [List.all_cons, List.all_nil, one_int, one_bool, one_str, one_ptr, one_slice, one_func, Bool.and_true, Bool.true_and, *]) (by rfl) ?_
    refine Rx.q rfl (.assign rfl) ?_
    refine Rx.q rfl (.assign rfl) ?_
    refine Rx.next ?_
    refine Gx.nilS (e := 3) (sz := 1) ?_
    refine Gx.ret fun aa ww hzz => (then_ret (fin_ctt (L1 := [nilI]) hzz rfl rfl (by rfl) rfl rfl (by rw [hno]; exact ⟨_, rfl, rfl, rfl⟩)))
  · -- way
    have h17 := bnot_f h17
    have hyes : parsePlane s = (p, j, true) := by
      rcases hm with ⟨_, h⟩ | ⟨h, _⟩
      · simp only [parsePlane, h]
      · rw [h17] at h; cases h
    refine Gx.skip fun aa ww hzz => (then_normal (Gx.go hzz ?_))
    -- region 5
    refine Gx.region_ax (α := Unit) (fun y => True) (fun y => [(2, .pointer (some ⟨b2, 0, none⟩)), (3, .int .i64 j), (4, .bool true)]) (fun y => [pt b2 37 (plC p v13), plS p v13]) [pt b6 37 (plC p v13), scn b10 s j] mixed ?_ (fun y hy => ?_)
    · -- orders
      refine Ax.fl 0 rfl (by kernel_rfl) (by kernel_rfl) (by kernel_rfl) rfl rfl (.ldc rfl (by rfl)) ?_
      refine Ax.fl 1 rfl (by kernel_rfl) (by kernel_rfl) (by kernel_rfl) rfl rfl (.move rfl) ?_
      refine Ax.float 2 rfl (by kernel_rfl) (by kernel_rfl) (by kernel_rfl) rfl (.nilCheck rfl) ?_
      refine Ax.fl 3 rfl (by kernel_rfl) (by kernel_rfl) (by kernel_rfl) rfl rfl (.fieldAddr rfl) ?_
      refine Ax.fl 4 rfl (by kernel_rfl) (by kernel_rfl) (by kernel_rfl) rfl rfl (.ld rfl rfl) ?_
      refine Ax.one 5 (by kernel_rfl) rfl ?_
      -- first 5
      refine Rx.stc rfl rfl (by first | rfl | simp only [List.all_cons, List.all_nil, one_int, one_bool, one_str, one_ptr, one_slice, one_func, Bool.and_true, Bool.true_and, *]) (by rfl) ?_
      refine Ax.back ?_
      refine Ax.fl 6 rfl (by kernel_rfl) (by kernel_rfl) (by kernel_rfl) rfl rfl (.assign rfl) ?_
      refine Ax.fl 7 rfl (by kernel_rfl) (by kernel_rfl) (by kernel_rfl) rfl rfl (.assign rfl) ?_
      refine Ax.fin (by kernel_rfl) fun aa ww hzz => ⟨(), trivial, hzz.to (.cons rfl (.cons rfl (.cons rfl .nil)))⟩
    refine Gx.ret fun aa ww hzz => (fin_ctt hzz rfl rfl (by rfl) rfl rfl (by rw [hyes]; exact ⟨v13, rfl, rfl, ho13⟩))


theorem text_ParseFrame (s : List UInt8) (hs : s.length ≤ 4000000000) : Spc Tryd.prog 27 [str s] [] [lib] (fun x L => ∃ u v w, x = .tuple #[.agg (frC (parseFrame s).1 u v w).toArray, .bool (parseFrame s).2] ∧ L = [plS (parseFrame s).1.a u, plS (parseFrame s).1.b v, plS (parseFrame s).1.c w] ∧ u.oneCell' = true ∧ v.oneCell' = true ∧ w.oneCell' = true) := by
  refine Spc.intro Tryd.func27 rfl Tryd.ntmps27 (by kernel_rfl) rfl rfl fun w0 F0 => ?_
  -- region 0
  refine Gx.seq_region ?_
  refine Rx.alloc (zs := [.int .i64 0, .int .i64 0, .slice none 0 0, .int .i64 0, .int .i64 0, .slice none 0 0, .int .i64 0, .int .i64 0, .slice none 0 0]) rfl rfl fun b2 => ?_
  refine Rx.q rfl (.assign rfl) ?_
  refine Rx.next ?_
  -- region 1
  refine Gx.seq_region ?_
  refine Rx.q rfl (.move rfl) ?_
  refine Rx.q rfl (.build (cs := [str s, .int .i64 0]) rfl rfl) ?_
  refine Rx.box (vs := [str s, .int .i64 ((0 : Nat) : Int)]) rfl rfl rfl fun b9 => ?_
  refine Rx.q rfl (.assign rfl) ?_
  refine Rx.next ?_
  -- region 2
  refine Gx.seq_region ?_
  refine Rx.q rfl (.move rfl) ?_
  refine Rx.cal (caps := []) (text_frame b9 s 0 hs (Nat.zero_le _)) rfl rfl rfl fun v12 L12 hP12 => ?_
  obtain ⟨u12, v12, w12, f, j, ok, rfl, rfl, ⟨hou, hov, how⟩, hj, hm⟩ := hP12
  refine Rx.q rfl (.move rfl) ?_
  refine Rx.q rfl (.extract rfl rfl) ?_
  refine Rx.q rfl (.extract rfl rfl) ?_
  refine Rx.alloc (zs := [.int .i64 0, .int .i64 0, .slice none 0 0, .int .i64 0, .int .i64 0, .slice none 0 0, .int .i64 0, .int .i64 0, .slice none 0 0]) rfl rfl fun b5 => ?_
  refine Rx.stc rfl rfl (by first | rfl | simp only [List.all_cons, List.all_nil, one_int, one_bool, one_str, one_ptr, one_slice, one_func, Bool.and_true, Bool.true_and, *]) (by rfl) ?_
  refine Rx.q rfl (.assign rfl) ?_
  refine Rx.next ?_
  refine Gx.seq ?_
  -- region 3
  refine Gx.seq_region ?_
  refine Rx.q rfl (.move rfl) ?_
  refine Rx.q rfl (.not rfl) ?_
  refine Rx.q rfl (.move rfl) ?_
  refine Rx.split 17 rfl (fun h17 => ?_) (fun h17 => ?_)
  · -- way
    have h17 := bnot_t h17
    have hno : parseFrame s = (zeroF, false) := by
      rcases hm with ⟨h, _⟩ | ⟨_, h⟩
      · rw [h17] at h; cases h
      · simp only [parseFrame, h]
    refine Rx.guard_no rfl rfl rfl rfl rfl ?_
    refine Rx.guard_no rfl rfl rfl rfl rfl ?_
    refine Rx.guard_no rfl rfl rfl rfl rfl ?_
    refine Rx.guard_no rfl rfl rfl rfl rfl ?_
    refine Rx.guard_no rfl rfl rfl rfl rfl ?_
    refine Rx.guard_no rfl rfl rfl rfl rfl ?_
    refine Rx.guard_no rfl rfl rfl rfl rfl ?_
    refine Rx.q rfl (.pick_t rfl rfl) ?_
    refine Rx.next ?_
    refine Gx.cond_t rfl ?_
    -- region 4
    refine Gx.seq_region ?_
    refine Rx.q rfl (.build (cs := [.int .i64 0, .int .i64 0, .slice none 0 0, .int .i64 0, .int .i64 0, .slice none 0 0, .int .i64 0, .int .i64 0, .slice none 0 0]) rfl rfl) ?_
    refine Rx.stc rfl rfl (by first | rfl | simp only [List.all_cons, List.all_nil, one_int, one_bool, one_str, one_ptr, one_slice, one_func, Bool.and_true, Bool.true_and, *]) (by rfl) ?_
    refine Rx.q rfl (.assign rfl) ?_
    refine Rx.next ?_
    refine Gx.nilS (e := 3) (sz := 1) (Gx.nilS (e := 3) (sz := 1) (Gx.nilS (e := 3) (sz := 1) ?_))
    refine Gx.ret fun aa ww hzz => (then_ret (fin_ct (L1 := [nilI, nilI, nilI]) hzz rfl rfl (by rfl) rfl (by rw [hno]; exact ⟨_, _, _, rfl, rfl, rfl, rfl, rfl⟩)))
  · -- way
    have h17 := bnot_f h17
    have hy0 : frameM s 0 = some (f, j) := by
      rcases hm with ⟨_, h⟩ | ⟨h, _⟩
      · exact h
      · rw [h17] at h; cases h
    refine Rx.guard_yes rfl rfl rfl (Rx.q rfl (.move rfl) ?_)
    refine Rx.guard_yes rfl rfl rfl (Rx.q rfl (.nilCheck rfl) ?_)
    refine Rx.guard_yes rfl rfl rfl (Rx.q rfl (.fieldAddr rfl) ?_)
    refine Rx.guard_yes rfl rfl rfl (Rx.q rfl (.ld rfl rfl) ?_)
    refine Rx.guard_yes rfl rfl rfl (Rx.q rfl (.move rfl) ?_)
    refine Rx.guard_yes rfl rfl rfl (Rx.q rfl (.len_s rfl) ?_)
    refine Rx.guard_yes rfl rfl rfl (Rx.q rfl (.neq rfl rfl) ?_)
    refine Rx.q rfl (.pick_f rfl rfl) ?_
    refine Rx.next ?_
    refine Gx.cond rfl (fun h25 => ?_) (fun h25 => ?_)
    · -- way
      have h25 := of_decide_eq_true h25
      have hno : parseFrame s = (zeroF, false) := by simp only [parseFrame, hy0]; rw [if_neg (by omega)]
      -- region 4
      refine Gx.seq_region ?_
      refine Rx.q rfl (.build (cs := [.int .i64 0, .int .i64 0, .slice none 0 0, .int .i64 0, .int .i64 0, .slice none 0 0, .int .i64 0, .int .i64 0, .slice none 0 0]) rfl rfl) ?_
      refine Rx.stc rfl rfl (by first | rfl | simp only [List.all_cons, List.all_nil, one_int, one_bool, one_str, one_ptr, one_slice, one_func, Bool.and_true, Bool.true_and, *]) (by rfl) ?_
      refine Rx.q rfl (.assign rfl) ?_
      refine Rx.next ?_
      refine Gx.nilS (e := 3) (sz := 1) (Gx.nilS (e := 3) (sz := 1) (Gx.nilS (e := 3) (sz := 1) ?_))
      refine Gx.ret fun aa ww hzz => (then_ret (fin_ct (L1 := [nilI, nilI, nilI]) hzz rfl rfl (by rfl) rfl (by rw [hno]; exact ⟨_, _, _, rfl, rfl, rfl, rfl, rfl⟩)))
    · -- way
      have h25 := of_decide_eq_false h25
      have hyes : parseFrame s = (f, true) := by simp only [parseFrame, hy0]; rw [if_pos (by omega)]
      refine Gx.skip fun aa ww hzz => (then_normal (Gx.go hzz ?_))
      -- region 5
      refine Gx.seq_region ?_
      refine Rx.q rfl (.ldc rfl (by rfl)) ?_
      refine Rx.stc rfl rfl (by first | rfl | simp only [List.all_cons, List.all_nil, one_int, one_bool, one_str, one_ptr, one_slice, one_func, Bool.and_true, Bool.true_and, *]) (by rfl) ?_
      refine Rx.q rfl (.assign rfl) ?_
      refine Rx.next ?_
      refine Gx.ret fun aa ww hzz => (fin_ct (L1 := [plS f.a u12, plS f.b v12, plS f.c w12]) hzz rfl rfl (by rfl) rfl (by rw [hyes]; exact ⟨u12, v12, w12, rfl, rfl, hou, hov, how⟩))


theorem text_ParseFilm (s : List UInt8) (hs : s.length ≤ 400000000) : Spc Tryd.prog 30 [str s] [] [lib] (fun x L => ∃ v l, x = .tuple #[v, .int .i64 (parseFilm s).2] ∧ L = [sl 40 9 v l.length (frsC l), bag (frS l)] ∧ l.map (·.f) = (parseFilm s).1 ∧ ∀ y ∈ l, y.u.oneCell' = true ∧ y.v.oneCell' = true ∧ y.w.oneCell' = true) := by
  refine Spc.intro Tryd.func30 rfl Tryd.ntmps30 (by kernel_rfl) rfl rfl fun w0 F0 => ?_
  -- region 0
  refine Gx.seq_region ?_
  refine Rx.q rfl (.assign rfl) ?_
  refine Rx.q rfl (.assign rfl) ?_
  refine Rx.next ?_
  -- region 1
  refine Gx.seq_region ?_
  refine Rx.q rfl (.move rfl) ?_
  refine Rx.q rfl (.build (cs := [str s, .int .i64 0]) rfl rfl) ?_
  refine Rx.box (vs := [str s, .int .i64 ((0 : Nat) : Int)]) rfl rfl rfl fun b11 => ?_
  refine Rx.q rfl (.assign rfl) ?_
  refine Rx.next ?_
  -- region 2
  refine Gx.seq_region ?_
  refine Rx.q rfl (.assign rfl) ?_
  refine Rx.next ?_
  -- region 3
  refine Gx.seq_region ?_
  refine Rx.q rfl (.assign rfl) ?_
  refine Rx.next ?_
  refine Gx.block ?_
  refine Gx.nilS (e := 40) (sz := 9) (Gx.bagNil ?_)
  refine Gx.castL (L' := [bag (frS []), sl 40 9 (.slice none 0 0) ([] : List FrV).length (frsC []), scn b11 s 0]) rfl ?_
  refine Gx.lp (α := List FrV × Value × Nat) (fun x => x.1.length ≤ x.2.2 ∧ x.2.2 ≤ s.length ∧ parseFilm s = (x.1.map (·.f) ++ (filmM s (s.length + 1 - x.1.length) x.2.2).1, (filmM s (s.length + 1 - x.1.length) x.2.2).2) ∧ ∀ y ∈ x.1, y.u.oneCell' = true ∧ y.v.oneCell' = true ∧ y.w.oneCell' = true) (fun x => s.length - x.2.2) (fun x => [(4, .pointer (some ⟨b11, 0, none⟩)), (5, x.2.1), (6, .int .i64 x.2.2)])
    (fun x => [bag (frS x.1), sl 40 9 x.2.1 x.1.length (frsC x.1), scn b11 s x.2.2]) (([], .slice none 0 0, 0)) (⟨Nat.le_refl _, Nat.zero_le _, by simp [parseFilm], fun y hy => by cases hy⟩) ?_ (fun x hx => ?_)
  · exact (.cons rfl (.cons rfl (.cons rfl .nil)))
  obtain ⟨l, q, i⟩ := x
  obtain ⟨hli, his, hpf, hol⟩ := hx
  simp only at hli his hpf hol ⊢
  have hfu : s.length + 1 - l.length = (s.length - l.length) + 1 := by omega
  refine Gx.seq ?_
  refine Gx.block ?_
  -- region 5
  refine Gx.seq_region ?_
  refine Rx.q rfl (.move rfl) ?_
  refine Rx.cal (caps := []) (text_frame b11 s i (by omega) his) rfl rfl rfl fun v18 L18 hP18 => ?_
  obtain ⟨u18, v18, w18, f, j, ok, rfl, rfl, ⟨hou, hov, how⟩, hj, hm⟩ := hP18
  refine Rx.q rfl (.move rfl) ?_
  refine Rx.q rfl (.extract rfl rfl) ?_
  refine Rx.q rfl (.extract rfl rfl) ?_
  refine Rx.alloc (zs := [.int .i64 0, .int .i64 0, .slice none 0 0, .int .i64 0, .int .i64 0, .slice none 0 0, .int .i64 0, .int .i64 0, .slice none 0 0]) rfl rfl fun b7 => ?_
  refine Rx.stc rfl rfl (by first | rfl | simp only [List.all_cons, List.all_nil, one_int, one_bool, one_str, one_ptr, one_slice, one_func, Bool.and_true, Bool.true_and, *]) (by rfl) ?_
  refine Rx.q rfl (.assign rfl) ?_
  refine Rx.next ?_
  refine Gx.seq ?_
  -- region 6
  refine Gx.seq_region ?_
  refine Rx.q rfl (.move rfl) ?_
  refine Rx.q rfl (.not rfl) ?_
  refine Rx.next ?_
  refine Gx.cond rfl (fun h22 => ?_) (fun h22 => ?_)
  · -- way
    have h22 := bnot_t h22
    have hno : frameM s i = none := by
      rcases hm with ⟨h, _⟩ | ⟨_, h⟩
      · rw [h22] at h; cases h
      · exact h
    have hpf2 : parseFilm s = (l.map (·.f), i) := by rw [hpf, hfu, filmM, hno]; simp
    -- region 7
    refine Gx.seq_region ?_
    refine Rx.q rfl (.move rfl) ?_
    refine Rx.q rfl (.move rfl) ?_
    refine Rx.q rfl (.assign rfl) ?_
    refine Rx.q rfl (.assign rfl) ?_
    refine Rx.next ?_
    refine Gx.ret fun aa ww hzz => (then_ret (blk_ret (then_ret (then_ret (blk_ret (fin_two (L1 := [sl 40 9 q l.length (frsC l), bag (frS l)]) hzz rfl rfl rfl (⟨q, l, by rw [hpf2], rfl, by rw [hpf2], hol⟩)))))))
  · -- way
    have h22 := bnot_f h22
    have hyes : frameM s i = some (f, j) := by
      rcases hm with ⟨_, h⟩ | ⟨h, _⟩
      · exact h
      · rw [h22] at h; cases h
    have hgt := frameM_gt hyes
    refine Gx.skip fun aa ww hzz => (then_normal (Gx.go hzz ?_))
    -- region 8
    refine Gx.region ?_
    refine Rx.q rfl (.move rfl) ?_
    refine Rx.q rfl (.ldc rfl (by rfl)) ?_
    refine Rx.sliceN (uss := [frC f u18 v18 w18]) rfl rfl rfl (by simp) rfl rfl fun v27 hv27 => ?_
    refine Rx.castL (L' := sl 40 9 v27 1 (frC f u18 v18 w18) :: _) rfl ?_
    refine Rx.app rfl rfl ⟨rfl, rfl⟩ (by rfl) (by simp only [List.all_cons, List.all_nil, one_int, hou, hov, how, Bool.and_true]) (by omega) rfl fun v28 hv28 => ?_
    rw [show frsC l ++ frC f u18 v18 w18 = frsC (l ++ [FrV.mk f u18 v18 w18]) by rw [frsC_snoc]]
    refine Rx.bagIn (frS l) [plS f.a u18, plS f.b v18, plS f.c w18] ?_
    rw [← frS_snoc l (FrV.mk f u18 v18 w18), show l.length + 1 = (l ++ [FrV.mk f u18 v18 w18]).length by simp]
    refine Rx.q rfl (.assign rfl) ?_
    refine Rx.nil fun aa ww hzz => (blk_normal (then_normal (Gx.go hzz ?_)))
    -- region 4
    refine Gx.region ?_
    refine Rx.q rfl (.move rfl) ?_
    refine Rx.q rfl (.nilCheck rfl) ?_
    refine Rx.q rfl (.fieldAddr rfl) ?_
    refine Rx.q rfl (.ld rfl rfl) ?_
    refine Rx.q rfl (.assign rfl) ?_
    have hpf3 : parseFilm s = ((l ++ [FrV.mk f u18 v18 w18]).map (·.f) ++ (filmM s (s.length + 1 - (l ++ [FrV.mk f u18 v18 w18]).length) j).1, (filmM s (s.length + 1 - (l ++ [FrV.mk f u18 v18 w18]).length) j).2) := by
      rw [hpf, hfu, filmM, hyes]
      simp [show s.length + 1 - (l.length + 1) = s.length - l.length by omega]
    have hol3 : ∀ y ∈ l ++ [FrV.mk f u18 v18 w18], y.u.oneCell' = true ∧ y.v.oneCell' = true ∧ y.w.oneCell' = true := fun y hy => by
      rcases List.mem_append.1 hy with h | h
      · exact hol y h
      · obtain rfl := List.mem_singleton.1 h
        exact ⟨hou, hov, how⟩
    refine Rx.nil fun aa ww hzz => (then_normal ⟨(l ++ [FrV.mk f u18 v18 w18], v28, j), ⟨by simp; omega, hj, hpf3, hol3⟩, (by simp only; omega), hzz.to (.cons rfl (.cons rfl (.cons rfl .nil)))⟩)

end Go.Proofs.YtoiebfpafdcbmaaDoor
