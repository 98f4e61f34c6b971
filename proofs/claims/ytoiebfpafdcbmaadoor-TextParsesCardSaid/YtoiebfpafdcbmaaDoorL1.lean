/- The law's own functions: what must be answered ahead of everything else; pictures have lines. -/
import Derived.Test.YtoiebfpafdcbmaaDoorT4
import Derived.Test.YtoiebfpafdcbmaaDoorPW
namespace Go.Proofs.YtoiebfpafdcbmaaDoor
open Go Go.RowKit K
set_option linter.unusedVariables false
set_option linter.unusedSimpArgs false

theorem law38_where (c : UInt8) : Spc Tryd.prog 32 [.int .u8 c.toNat] [] [] (ret (.int .i64 (whereI c))) := by
  refine Spc.intro Tryd.func32 rfl Tryd.ntmps32 (by kernel_rfl) rfl rfl fun w0 F0 => ?_
  -- region 0
  refine Gx.seq_region ?_
  refine Rx.q rfl (.assign rfl) ?_
  refine Rx.next ?_
  refine Gx.seq ?_
  -- region 1
  refine Gx.seq_region ?_
  refine Rx.q rfl (.move rfl) ?_
  refine Rx.next ?_
  refine Gx.block ?_
  refine Gx.lp (α := Nat) (fun j => j ≤ 10 ∧ ∀ i, i < j → signs.getD i 0 ≠ c) (fun j => 10 - j) (fun j => [(0, .int .u8 c.toNat), (4, .int .i64 j)])
    (fun j => []) (0) (⟨by omega, fun i hi => by omega⟩) ?_ (fun j hx => ?_)
  · exact (.cons rfl (.cons rfl .nil))
  -- region 2
  refine Gx.seq_region ?_
  refine Rx.q rfl (.lss rfl rfl) ?_
  refine Rx.next ?_
  refine Gx.seq ?_
  refine Gx.cond rfl (fun h5 => ?_) (fun h5 => ?_)
  · -- way
    have h5 := of_decide_eq_true h5
    have hj : j < 10 := by omega
    refine Gx.skip fun aa ww hzz => (then_normal (Gx.go hzz ?_))
    refine Gx.seq ?_
    refine Gx.block ?_
    -- region 3
    refine Gx.seq_region ?_
    refine Rx.q rfl (.move rfl) ?_
    refine Rx.q rfl (.assign rfl) ?_
    refine Rx.next ?_
    -- region 4
    refine Gx.seq_region ?_
    refine Rx.q rfl (.move rfl) ?_
    refine Rx.q rfl (.idx_s (p := signs) (j := j) rfl rfl ⟨by omega, by show (j : Int) < ((10 : Nat) : Int); omega⟩ (by simp)) ?_
    refine Rx.q rfl (.move rfl) ?_
    refine Rx.q rfl (.eql rfl rfl) ?_
    refine Rx.next ?_
    refine Gx.cond rfl (fun h10 => ?_) (fun h10 => ?_)
    · -- way
      have h10 := of_decide_eq_true h10
      have hc : signs.getD j 0 = c := UInt8.toNat_inj.1 (by omega)
      -- region 5
      refine Gx.seq_region ?_
      refine Rx.q rfl (.move rfl) ?_
      refine Rx.q rfl (.assign rfl) ?_
      refine Rx.next ?_
      refine Gx.ret fun aa ww hzz => (blk_ret (then_ret (then_ret (blk_ret (then_ret (fin_tmp hzz rfl rfl (by rw [← hc, where_sign hj]; exact ⟨rfl, rfl⟩)))))))
    · -- way
      have h10 := of_decide_eq_false h10
      refine Gx.skip fun aa ww hzz => (blk_normal (then_normal (Gx.go hzz ?_)))
      -- region 6
      refine Gx.region ?_
      refine Rx.q rfl (.add_ rfl rfl (by omega)) ?_
      refine Rx.q rfl (.move rfl) ?_
      have hnx : ∀ i, i < j + 1 → signs.getD i 0 ≠ c := fun i hi => by
        rcases Nat.lt_or_ge i j with h | h
        · exact hx.2 i h
        · obtain rfl : i = j := by omega
          intro e; rw [e] at h10; exact h10 rfl
      refine Rx.nil fun aa ww hzz => (then_normal ⟨j + 1, ⟨by omega, hnx⟩, (by omega), hzz.to (.cons rfl (.cons rfl .nil))⟩)
  · -- way
    have h5 := of_decide_eq_false h5
    have hno : whereI c = -1 := by
      rw [whereI, if_neg]
      intro hm
      obtain ⟨i, hi, e⟩ := List.mem_iff_getElem.1 hm
      have h10' : i < 10 := hi
      refine hx.2 i (by omega) ?_
      simp [List.getD, hi, e]
    refine Gx.exit fun aa ww hzz => (then_exit (then_exit (blk_exit (then_normal (Gx.go hzz ?_)))))
    -- region 7
    refine Gx.seq_region ?_
    refine Rx.q rfl (.assign rfl) ?_
    refine Rx.next ?_
    refine Gx.ret fun aa ww hzz => (fin_tmp hzz rfl rfl (by rw [hno]; exact ⟨rfl, rfl⟩))


/-- Two frames of one number each. -/
def film2 : List Fr := [oneF 1, oneF 2]
theorem film2_ok : ∀ f ∈ film2, f.right = true ∧ f.fit := fun f hf => by
  simp [film2] at hf
  rcases hf with rfl | rfl
  · exact ⟨oneF_right 1, oneF_fit 1 (by omega)⟩
  · exact ⟨oneF_right 2, oneF_fit 2 (by omega)⟩
theorem filmS_T (l : List FrV) : filmS l = filmT (l.map (·.f)) := by simp [filmS, filmT, List.flatMap_map]
theorem film2_len : 20 < (filmT film2).length ∧ (filmT film2).length ≤ 150 * 1048576 := by
  have h1 := frameS_len (oneF_right 1)
  have h2 := frameS_le (oneF 1) (oneF_fit 1 (by omega))
  have h3 := frameS_le (oneF 2) (oneF_fit 2 (by omega))
  simp only [filmT, film2, List.flatMap_cons, List.flatMap_nil, List.append_nil, List.length_append]; omega
theorem one_len (n : Int) : (oneF n).a.l.length = 1 ∧ (oneF n).b.l.length = 1 ∧ (oneF n).c.l.length = 1 := ⟨rfl, rfl, rfl⟩
theorem one_ok {n : Int} {u v w : Value} (h : -9223372036854775808 ≤ n ∧ n ≤ 9223372036854775800) (hu : u.oneCell' = true) (hv : v.oneCell' = true) (hw : w.oneCell' = true) : (FrV.mk (oneF n) u v w).ok :=
  ⟨⟨hu, hv, hw⟩, ⟨by show 1 ≤ _; omega, by show 1 ≤ _; omega, by show 1 ≤ _; omega⟩, oneF_fit n h⟩
theorem two_ok {x y : FrV} (hx : x.ok) (hy : y.ok) : ∀ z ∈ [x, y], z.ok := fun z hz => by
  simp at hz; rcases hz with rfl | rfl <;> assumption

theorem law38_first : Spc Tryd.prog 16 [] [] [lib] (fun u L => u = .bool true ∧ L = []) := by
  refine Spc.intro Tryd.func16 rfl Tryd.ntmps16 (by kernel_rfl) rfl rfl fun w0 F0 => ?_
  -- region 0
  refine Gx.seq_region ?_
  refine Rx.q rfl (.assign rfl) ?_
  refine Rx.next ?_
  -- region 1
  refine Gx.seq_region ?_
  refine Rx.slice1 rfl rfl rfl rfl rfl fun v10 hv10 => ?_
  refine Rx.one v10 fun ho10 => ?_
  refine Rx.castL (L' := [plS pl0 v10]) rfl ?_
  refine Rx.q rfl (.buildv rfl rfl rfl rfl (by first | rfl | simp only [List.all_cons, List.all_nil, one_int, one_bool, one_str, one_ptr, one_slice, one_func, Bool.and_true, Bool.true_and, *])) ?_
  refine Rx.alloc (zs := [.int .i64 0, .int .i64 0, .slice none 0 0]) rfl rfl fun b1 => ?_
  refine Rx.stc rfl rfl (by first | rfl | simp only [List.all_cons, List.all_nil, one_int, one_bool, one_str, one_ptr, one_slice, one_func, Bool.and_true, Bool.true_and, *]) (by rfl) ?_
  refine Rx.next ?_
  -- region 2
  refine Gx.seq_region ?_
  refine Rx.q rfl (.ldc rfl (by rfl)) ?_
  refine Rx.q rfl (.cal (caps := []) (text_Plane pl0 v10 ho10 (by decide) pl0_fit) rfl rfl) ?_
  refine Rx.q rfl (.assign rfl) ?_
  refine Rx.next ?_
  -- region 3
  refine Gx.seq_region ?_
  refine Rx.q rfl (.move rfl) ?_
  refine Rx.q rfl (.cat_s (q := [120]) rfl rfl (by rw [pl0_text]; simp)) ?_
  refine Rx.cal (caps := []) (text_ParsePlane (planeS pl0 ++ [120]) (by rw [pl0_text]; simp)) rfl rfl rfl fun v17 L17 hP17 => ?_
  obtain ⟨v17, rfl, rfl, ho17⟩ := hP17
  rw [parse_plane [120] pl0_right pl0_fit]
  dsimp only
  refine Rx.q rfl (.move rfl) ?_
  refine Rx.q rfl (.extract rfl rfl) ?_
  refine Rx.q rfl (.extract rfl rfl) ?_
  refine Rx.q rfl (.extract rfl rfl) ?_
  refine Rx.alloc (zs := [.int .i64 0, .int .i64 0, .slice none 0 0]) rfl rfl fun b3 => ?_
  refine Rx.stc rfl rfl (by first | rfl | simp only [List.all_cons, List.all_nil, one_int, one_bool, one_str, one_ptr, one_slice, one_func, Bool.and_true, Bool.true_and, *]) (by rfl) ?_
  refine Rx.q rfl (.assign rfl) ?_
  refine Rx.q rfl (.assign rfl) ?_
  refine Rx.next ?_
  -- region 4
  refine Gx.seq_region ?_
  refine Rx.cal (caps := []) (law25_One 7 (by omega)) rfl rfl rfl fun v22 L22 hP22 => ?_
  obtain ⟨u22, v22, w22, rfl, rfl, hou22, hov22, how22⟩ := hP22
  refine Rx.q rfl (.cal (caps := []) (text_Frame (oneF 7) u22 v22 w22 hou22 hov22 how22 (by decide) (oneF_fit 7 (by omega))) rfl rfl) ?_
  refine Rx.cal (caps := []) (text_ParseFrame (frameS (oneF 7)) (by have := frameS_le (oneF 7) (oneF_fit 7 (by omega)); omega)) rfl rfl rfl fun v24 L24 hP24 => ?_
  obtain ⟨u24, v24, w24, rfl, rfl, hou24, hov24, how24⟩ := hP24
  rw [parse_frame (oneF_right 7) (oneF_fit 7 (by omega))]
  dsimp only
  refine Rx.q rfl (.move rfl) ?_
  refine Rx.q rfl (.extract rfl rfl) ?_
  refine Rx.q rfl (.extract rfl rfl) ?_
  refine Rx.alloc (zs := [.int .i64 0, .int .i64 0, .slice none 0 0, .int .i64 0, .int .i64 0, .slice none 0 0, .int .i64 0, .int .i64 0, .slice none 0 0]) rfl rfl fun b6 => ?_
  refine Rx.stc rfl rfl (by first | rfl | simp only [List.all_cons, List.all_nil, one_int, one_bool, one_str, one_ptr, one_slice, one_func, Bool.and_true, Bool.true_and, *]) (by rfl) ?_
  refine Rx.q rfl (.assign rfl) ?_
  refine Rx.next ?_
  -- region 5
  refine Gx.seq_region ?_
  refine Rx.cal (caps := []) (law25_One 1 (by omega)) rfl rfl rfl fun v28 L28 hP28 => ?_
  obtain ⟨u28, v28, w28, rfl, rfl, hou28, hov28, how28⟩ := hP28
  refine Rx.cal (caps := []) (law25_One 2 (by omega)) rfl rfl rfl fun v29 L29 hP29 => ?_
  obtain ⟨u29, v29, w29, rfl, rfl, hou29, hov29, how29⟩ := hP29
  refine Rx.sliceN (uss := [frC (oneF 1) u28 v28 w28, frC (oneF 2) u29 v29 w29]) rfl rfl rfl (by simp) rfl rfl fun v30 hv30 => ?_
  refine Rx.bagUp [plS (oneF 1).a u28, plS (oneF 1).b v28, plS (oneF 1).c w28, plS (oneF 2).a u29, plS (oneF 2).b v29, plS (oneF 2).c w29] ?_
  have hpf : parseFilm (filmS [FrV.mk (oneF 1) u28 v28 w28, FrV.mk (oneF 2) u29 v29 w29] ++ [112]) = (film2, (filmT film2).length) := by rw [filmS_T]; exact parse_film film2 [112] film2_ok (by decide)
  have hfl := film2_len
  have hfs : filmS [FrV.mk (oneF 1) u28 v28 w28, FrV.mk (oneF 2) u29 v29 w29] = filmT film2 := filmS_T _
  refine Rx.q rfl (OpQ.call (caps := []) (M0 := [lib, rd 9 v30 2 (frsC [FrV.mk (oneF 1) u28 v28 w28, FrV.mk (oneF 2) u29 v29 w29]), shrAll (frR [FrV.mk (oneF 1) u28 v28 w28, FrV.mk (oneF 2) u29 v29 w29])]) (text_Film v30 [FrV.mk (oneF 1) u28 v28 w28, FrV.mk (oneF 2) u29 v29 w29] (by simp) (two_ok (one_ok (by omega) hou28 hov28 how28) (one_ok (by omega) hou29 hov29 how29)) (by rw [hfs]; omega)) rfl rfl (.cons (Inn.gives (.shr .here)) (.cons (RdOf.ok (v := v30)) (.cons (giv_all_bag (B := [plS (oneF 1).a u28, plS (oneF 1).b v28, plS (oneF 1).c w28, plS (oneF 2).a u29, plS (oneF 2).b v29, plS (oneF 2).c w29]) (frS_R [FrV.mk (oneF 1) u28 v28 w28, FrV.mk (oneF 2) u29 v29 w29])) .nil)))) ?_
  refine Rx.q rfl (.cat_s (q := [112]) rfl rfl (by rw [hfs]; simp; omega)) ?_
  refine Rx.cal (caps := []) (text_ParseFilm (filmS [FrV.mk (oneF 1) u28 v28 w28, FrV.mk (oneF 2) u29 v29 w29] ++ [112]) (by rw [hfs]; simp; omega)) rfl rfl rfl fun v33 L33 hP33 => ?_
  obtain ⟨v33, l33, rfl, rfl, hl33, ho33⟩ := hP33
  rw [hpf]
  rw [hpf] at hl33
  dsimp only
  have hlen : l33.length = 2 := by have := congrArg List.length hl33; simpa [film2] using this
  refine Rx.q rfl (.move rfl) ?_
  refine Rx.q rfl (.extract rfl rfl) ?_
  refine Rx.q rfl (.extract rfl rfl) ?_
  refine Rx.q rfl (.assign rfl) ?_
  refine Rx.q rfl (.assign rfl) ?_
  refine Rx.next ?_
  -- region 6
  refine Gx.region_ax (α := Unit) (fun y => True) (fun y => [(0, .bool true)]) (fun y => []) [pt b1 37 (plC pl0 v10), pt b3 37 (plC pl0 v17), pt b6 40 (frC (oneF 7) u24 v24 w24), sl 40 9 v33 l33.length (frsC l33)] mixed ?_ (fun y hy => ?_)
  · -- orders
    refine Ax.fl 0 rfl (by kernel_rfl) (by kernel_rfl) (by kernel_rfl) rfl rfl (.move rfl) ?_
    refine Ax.fl 1 rfl (by kernel_rfl) (by kernel_rfl) (by kernel_rfl) rfl rfl ((OpQ.eql_s (q := [112, 108, 97, 110, 101, 32, 50, 32, 49, 10, 53, 32, 45, 49, 10]) rfl rfl).val (u := .bool true) (congrArg Value.bool (decide_eq_true pl0_text))) ?_
    refine Ax.fl 2 rfl (by kernel_rfl) (by kernel_rfl) (by kernel_rfl) rfl rfl (.move rfl) ?_
    refine Ax.fl_yes 3 rfl (by kernel_rfl) (by kernel_rfl) (by kernel_rfl) rfl rfl rfl rfl rfl (.move rfl) ?_
    refine Ax.fl 4 rfl (by kernel_rfl) (by kernel_rfl) (by kernel_rfl) rfl rfl (.pick_t rfl rfl) ?_
    refine Ax.fl 5 rfl (by kernel_rfl) (by kernel_rfl) (by kernel_rfl) rfl rfl (.move rfl) ?_
    refine Ax.fl_yes 6 rfl (by kernel_rfl) (by kernel_rfl) (by kernel_rfl) rfl rfl rfl rfl rfl (.move rfl) ?_
    refine Ax.fl_yes 7 rfl (by kernel_rfl) (by kernel_rfl) (by kernel_rfl) rfl rfl rfl rfl rfl (.move rfl) ?_
    refine Ax.fl_yes 8 rfl (by kernel_rfl) (by kernel_rfl) (by kernel_rfl) rfl rfl rfl rfl rfl (.len_s rfl) ?_
    refine Ax.fl_yes 9 rfl (by kernel_rfl) (by kernel_rfl) (by kernel_rfl) rfl rfl rfl rfl rfl ((OpQ.eql rfl rfl).val (u := .bool true) (congrArg Value.bool (decide_eq_true rfl))) ?_
    refine Ax.fl 10 rfl (by kernel_rfl) (by kernel_rfl) (by kernel_rfl) rfl rfl (.pick_t rfl rfl) ?_
    refine Ax.fl 11 rfl (by kernel_rfl) (by kernel_rfl) (by kernel_rfl) rfl rfl (.move rfl) ?_
    refine Ax.fl_yes 12 rfl (by kernel_rfl) (by kernel_rfl) (by kernel_rfl) rfl rfl rfl rfl rfl (.ldc rfl (by rfl)) ?_
    refine Ax.fl_yes 13 rfl (by kernel_rfl) (by kernel_rfl) (by kernel_rfl) rfl rfl rfl rfl rfl (.ldc rfl (by rfl)) ?_
    refine Ax.one 14 (by kernel_rfl) rfl ?_
    -- first 14
    refine Rx.guard_yes rfl rfl rfl (Rx.q rfl ((OpQ.cal (caps := []) (ref07_Same pl0 pl0 v10 v17 (by decide)) rfl rfl).val (u := .bool true) (congrArg Value.bool (decide_eq_true rfl))) ?_)
    refine Ax.back ?_
    refine Ax.fl 15 rfl (by kernel_rfl) (by kernel_rfl) (by kernel_rfl) rfl rfl (.pick_t rfl rfl) ?_
    refine Ax.fl 16 rfl (by kernel_rfl) (by kernel_rfl) (by kernel_rfl) rfl rfl (.move rfl) ?_
    refine Ax.fl_yes 17 rfl (by kernel_rfl) (by kernel_rfl) (by kernel_rfl) rfl rfl rfl rfl rfl (.move rfl) ?_
    refine Ax.fl 18 rfl (by kernel_rfl) (by kernel_rfl) (by kernel_rfl) rfl rfl (.pick_t rfl rfl) ?_
    refine Ax.fl 19 rfl (by kernel_rfl) (by kernel_rfl) (by kernel_rfl) rfl rfl (.move rfl) ?_
    refine Ax.fl_yes 20 rfl (by kernel_rfl) (by kernel_rfl) (by kernel_rfl) rfl rfl rfl rfl rfl (.ldc rfl (by rfl)) ?_
    refine Ax.one 21 (by kernel_rfl) rfl ?_
    -- first 21
    refine Rx.guard_yes rfl rfl rfl (Rx.cal (caps := []) (law25_One 7 (by omega)) rfl rfl rfl fun v57 L57 hP57 => ?_)
    obtain ⟨u57, v57, w57, rfl, rfl, hou57, hov57, how57⟩ := hP57
    refine Ax.back ?_
    refine Ax.one 22 (by kernel_rfl) rfl ?_
    -- first 22
    refine Rx.guard_yes rfl rfl rfl (Rx.q rfl ((OpQ.cal (caps := []) (ref24_Same (oneF 7) (oneF 7) u24 v24 w24 u57 v57 w57 (by decide)) rfl rfl).val (u := .bool true) (congrArg Value.bool (decide_eq_true rfl))) ?_)
    refine Ax.back ?_
    refine Ax.fl 23 rfl (by kernel_rfl) (by kernel_rfl) (by kernel_rfl) rfl rfl (.pick_t rfl rfl) ?_
    refine Ax.fl 24 rfl (by kernel_rfl) (by kernel_rfl) (by kernel_rfl) rfl rfl (.move rfl) ?_
    refine Ax.fl_yes 25 rfl (by kernel_rfl) (by kernel_rfl) (by kernel_rfl) rfl rfl rfl rfl rfl (.move rfl) ?_
    refine Ax.fl_yes 26 rfl (by kernel_rfl) (by kernel_rfl) (by kernel_rfl) rfl rfl rfl rfl rfl (.lens rfl) ?_
    refine Ax.fl_yes 27 rfl (by kernel_rfl) (by kernel_rfl) (by kernel_rfl) rfl rfl rfl rfl rfl ((OpQ.eql rfl rfl).val (u := .bool true) (congrArg Value.bool (decide_eq_true (by omega)))) ?_
    refine Ax.fl 28 rfl (by kernel_rfl) (by kernel_rfl) (by kernel_rfl) rfl rfl (.pick_t rfl rfl) ?_
    refine Ax.fl 29 rfl (by kernel_rfl) (by kernel_rfl) (by kernel_rfl) rfl rfl (.move rfl) ?_
    refine Ax.fl_yes 30 rfl (by kernel_rfl) (by kernel_rfl) (by kernel_rfl) rfl rfl rfl rfl rfl (.move rfl) ?_
    refine Ax.fl_yes 31 rfl (by kernel_rfl) (by kernel_rfl) (by kernel_rfl) rfl rfl rfl rfl rfl ((OpQ.gtr rfl rfl).val (u := .bool true) (congrArg Value.bool (decide_eq_true (by omega)))) ?_
    refine Ax.fl 32 rfl (by kernel_rfl) (by kernel_rfl) (by kernel_rfl) rfl rfl (.pick_t rfl rfl) ?_
    refine Ax.fl 33 rfl (by kernel_rfl) (by kernel_rfl) (by kernel_rfl) rfl rfl (.move rfl) ?_
    refine Ax.fl_yes 34 rfl (by kernel_rfl) (by kernel_rfl) (by kernel_rfl) rfl rfl rfl rfl rfl (.ldc rfl (by rfl)) ?_
    refine Ax.one 35 (by kernel_rfl) rfl ?_
    -- first 35
    refine Rx.guard_yes rfl rfl rfl (Rx.q rfl (.cal (caps := []) (text_Shades pl0 v10 9 (by decide) pl0_fit ho10) rfl rfl) ?_)
    refine Ax.back ?_
    refine Ax.fl_yes 36 rfl (by kernel_rfl) (by kernel_rfl) (by kernel_rfl) rfl rfl rfl rfl rfl ((OpQ.eql_s (q := [43, 32, 10]) rfl rfl).val (u := .bool true) (congrArg Value.bool (decide_eq_true pl0_shades))) ?_
    refine Ax.fl 37 rfl (by kernel_rfl) (by kernel_rfl) (by kernel_rfl) rfl rfl (.pick_t rfl rfl) ?_
    refine Ax.fl 38 rfl (by kernel_rfl) (by kernel_rfl) (by kernel_rfl) rfl rfl (.assign rfl) ?_
    refine Ax.fin (by kernel_rfl) fun aa ww hzz => ⟨(), trivial, hzz.to (.cons rfl .nil)⟩
  refine Gx.ret fun aa ww hzz => (fin_tmp hzz rfl rfl (⟨rfl, rfl⟩))

end Go.Proofs.YtoiebfpafdcbmaaDoor
