/- Contracts of layer text: planes, frames and films as texts, pictures. -/
import Derived.Test.YtoiebfpafdcbmaaDoorC2
import Derived.Test.YtoiebfpafdcbmaaDoorTb
import Derived.Test.YtoiebfpafdcbmaaDoorTa
import Derived.Test.YtoiebfpafdcbmaaDoorPT
namespace Go.Proofs.YtoiebfpafdcbmaaDoor
open Go Go.RowKit K
set_option linter.unusedVariables false
set_option linter.unusedSimpArgs false


theorem text_row (v : Value) (l : List Int) (hl : l.length ≤ 1099511627776) (hi : i64s l) : Spc Tryd.prog 51 [v] [] [lib, rd 1 v l.length (intsV l)] (ret (str (rowS l))) := by
  refine Spc.intro Tryd.func51 rfl Tryd.ntmps51 (by kernel_rfl) rfl rfl fun w0 F0 => ?_
  -- region 0
  refine Gx.seq_region ?_
  refine Rx.q rfl (.assign rfl) ?_
  refine Rx.next ?_
  -- region 1
  refine Gx.seq_region ?_
  refine Rx.alloc (zs := [.pointer none, .slice none 0 0]) rfl rfl fun b3 => ?_
  refine bld_newR ?_
  refine Rx.next ?_
  refine Gx.seq ?_
  -- region 2
  refine Gx.seq_region ?_
  refine Rx.q rfl (.move rfl) ?_
  refine Rx.q rfl (.lens rfl) ?_
  refine Rx.q rfl (.move rfl) ?_
  refine Rx.next ?_
  refine Gx.block ?_
  refine Gx.castL (L' := [bld b3 (rowB (l.take 0))]) rfl ?_
  refine Gx.lp (α := Nat) (fun j => j ≤ l.length) (fun j => l.length - j) (fun j => [(3, .pointer (some ⟨b3, 0, none⟩)), (6, v), (7, .int .i64 l.length), (8, .int .i64 j)])
    (fun j => [bld b3 (rowB (l.take j))]) (0) (Nat.zero_le _) ?_ (fun j hx => ?_)
  · exact (.cons rfl (.cons rfl (.cons rfl (.cons rfl .nil))))
  have hlen := rowB_take_le l j hi
  -- region 3
  refine Gx.seq_region ?_
  refine Rx.q rfl (.lss rfl rfl) ?_
  refine Rx.next ?_
  refine Gx.seq ?_
  refine Gx.cond rfl (fun h9 => ?_) (fun h9 => ?_)
  · -- way
    have h9 := of_decide_eq_true h9
    have hj : j < l.length := by omega
    have hz := hi _ (getD_mem hj)
    have hzl := Lib.itoa_length_le _ hz.1 hz.2
    refine Gx.skip fun aa ww hzz => (then_normal (Gx.go hzz ?_))
    refine Gx.seq ?_
    refine Gx.block ?_
    -- region 4
    refine Gx.seq_region ?_
    refine Rx.q rfl (.move rfl) ?_
    refine Rx.q rfl (.idx (j := j) rfl rfl (by omega) (by omega)) ?_
    refine Rx.q rfl (.ldi (l := l) rfl rfl hj) ?_
    refine Rx.q rfl (.assign rfl) ?_
    refine Rx.q rfl (.assign rfl) ?_
    refine Rx.next ?_
    refine Gx.join (α := List UInt8) (fun y => y = rowB (l.take j) ++ sepB j ∧ y.length ≤ (rowB (l.take j)).length + 1) (fun y => [(3, .pointer (some ⟨b3, 0, none⟩)), (5, .int .i64 (l.getD j 0)), (6, v), (7, .int .i64 l.length), (8, .int .i64 j)]) (fun y => [bld b3 y]) ?_ (fun y hy => ?_)
    · -- region 5
      refine Gx.seq_region ?_
      refine Rx.q rfl (.move rfl) ?_
      refine Rx.q rfl (.gtr rfl rfl) ?_
      refine Rx.next ?_
      refine Gx.cond rfl (fun h14 => ?_) (fun h14 => ?_)
      · -- way
        have h14 := of_decide_eq_true h14
        -- region 6
        refine Gx.region ?_
        refine Rx.sbByte 32 rfl rfl rfl (by first | omega | (simp only [List.length_append, List.length_cons, List.length_nil]; omega)) rfl ?_
        refine Rx.nil fun aa ww hzz => (then_normal ⟨rowB (l.take j) ++ [32], ⟨by rw [sepB, if_neg (by omega)], by simp⟩, hzz.to (.cons rfl (.cons rfl (.cons rfl (.cons rfl (.cons rfl .nil)))))⟩)
      · -- way
        have h14 := of_decide_eq_false h14
        refine Gx.skip fun aa ww hzz => (then_normal ⟨rowB (l.take j), ⟨by rw [sepB, if_pos (by omega), List.append_nil], by simp⟩, hzz.to (.cons rfl (.cons rfl (.cons rfl (.cons rfl (.cons rfl .nil)))))⟩)
    -- region 7
    refine Gx.region ?_
    refine Rx.q rfl (.move rfl) ?_
    refine Rx.q rfl (.cal (caps := []) (lib_Itoa _ (by omega)) rfl rfl) ?_
    refine Rx.sbStr rfl rfl (by first | omega | (simp only [List.length_append, List.length_cons, List.length_nil]; omega)) rfl ?_
    rw [show y ++ Lib.itoa (l.getD j 0) = rowB (l.take (j + 1)) by rw [hy.1, rowB_take_succ l hj]]
    refine Rx.nil fun aa ww hzz => (blk_normal (then_normal (Gx.go hzz ?_)))
    -- region 8
    refine Gx.region ?_
    refine Rx.q rfl (.add_ rfl rfl (by omega)) ?_
    refine Rx.q rfl (.move rfl) ?_
    refine Rx.nil fun aa ww hzz => (then_normal ⟨j + 1, by omega, (by omega), hzz.to (.cons rfl (.cons rfl (.cons rfl (.cons rfl .nil))))⟩)
  · -- way
    have h9 := of_decide_eq_false h9
    obtain rfl : j = l.length := by omega
    rw [List.take_length] at hlen ⊢
    refine Gx.exit fun aa ww hzz => (then_exit (then_exit (blk_exit (then_normal (Gx.go hzz ?_)))))
    -- region 9
    refine Gx.seq_region ?_
    refine Rx.sbText rfl rfl rfl ?_
    refine Rx.q rfl (.cat_s rfl rfl (by first | omega | (simp only [List.length_append, List.length_cons, List.length_nil]; omega))) ?_
    refine Rx.q rfl (.assign rfl) ?_
    refine Rx.next ?_
    refine Gx.ret fun aa ww hzz => (fin_tmp hzz rfl rfl (⟨rfl, rfl⟩))


theorem text_Plane (p : Pl) (v : Value) (ho : v.oneCell' = true) (hl : p.l.length ≤ 1099511627776) (hz : i64s p.l) : Spc Tryd.prog 17 [.agg (plC p v).toArray] [] [lib, plR p v] (ret (str (planeS p))) := by
  refine Spc.intro Tryd.func17 rfl Tryd.ntmps17 (by kernel_rfl) rfl rfl fun w0 F0 => ?_
  -- region 0
  refine Gx.seq_region ?_
  refine Rx.box (vs := plC p v) rfl rfl rfl fun b1 => ?_
  refine Rx.q rfl (.assign rfl) ?_
  refine Rx.next ?_
  refine Gx.seq ?_
  -- region 1
  refine Gx.seq_region ?_
  refine Rx.q rfl (.ldc rfl (by rfl)) ?_
  refine Rx.q rfl (.cal (caps := []) (plane_Right _ _) rfl rfl) ?_
  refine Rx.q rfl (.not rfl) ?_
  refine Rx.next ?_
  refine Gx.cond rfl (fun h8 => ?_) (fun h8 => ?_)
  · -- way
    have h8 := bnot_t h8
    -- region 2
    refine Gx.seq_region ?_
    refine Rx.q rfl (.assign rfl) ?_
    refine Rx.next ?_
    refine Gx.ret fun aa ww hzz => (then_ret (fin_tmp hzz rfl rfl (by rw [planeS, h8]; exact ⟨rfl, rfl⟩)))
  · -- way
    have h8 := bnot_f h8
    obtain ⟨hw, hh, hle⟩ := Pl.right_iff.1 h8
    have hsz := mul_sides hw hh
    have hwh : i64s [p.w, p.h] := fun x hx => by simp at hx; rcases hx with rfl | rfl <;> omega
    have hrl := rowS_le _ hwh
    have hre := fun i hi' => rowsS_le p h8 hz i hi'
    refine Gx.skip fun aa ww hzz => (then_normal (Gx.go hzz ?_))
    -- region 3
    refine Gx.seq_region ?_
    refine Rx.alloc (zs := [.pointer none, .slice none 0 0]) rfl rfl fun b3 => ?_
    refine bld_newR ?_
    refine Rx.next ?_
    -- region 4
    refine Gx.seq_region ?_
    refine Rx.q rfl (.fieldAddr rfl) ?_
    refine Rx.q rfl (.ld rfl rfl) ?_
    refine Rx.q rfl (.fieldAddr rfl) ?_
    refine Rx.q rfl (.ld rfl rfl) ?_
    refine Rx.slice1 rfl rfl rfl rfl rfl fun v13 hv13 => ?_
    refine Rx.one v13 fun ho13 => ?_
    refine Rx.castL (L' := sl 3 1 v13 [p.w, p.h].length (intsV [p.w, p.h]) :: bld b3 [] :: [pt b1 37 (plC p v)]) rfl ?_
    refine Rx.q rfl (.cal (caps := []) (text_row v13 [p.w, p.h] (by simp) hwh) rfl rfl) ?_
    refine Rx.q rfl (.cat_s (p := [112, 108, 97, 110, 101, 32]) rfl rfl (by simp at hrl ⊢; omega)) ?_
    refine Rx.sbStr rfl rfl (by simp at hrl ⊢; omega) rfl ?_
    refine Rx.castL (L' := bld b3 (headS p ++ rowsS p 0) :: sl 3 1 v13 [p.w, p.h].length (intsV [p.w, p.h]) :: [pt b1 37 (plC p v)]) (by simp [headS, rowsS]) ?_
    refine Rx.next ?_
    refine Gx.seq ?_
    -- region 5
    refine Gx.seq_region ?_
    refine Rx.q rfl (.ldc rfl (by rfl)) ?_
    refine Rx.cal (caps := []) (plane_Rows _ _ (by first | rfl | assumption)) rfl rfl rfl fun v18 L18 hP18 => ?_
    obtain ⟨b18, rfl, rfl⟩ := hP18
    refine Rx.next ?_
    refine Gx.block ?_
    refine Gx.rangeAll (plane_rows p v b18 h8) (fun i => [bld b3 (headS p ++ rowsS p i)]) ([lib, plR p v]) (ps := [19, 20]) rfl rfl rfl (fun _ _ => rfl) (fun b => SubsA.ok) (fun i hi u hx l r w0 F0 hr => ?_) (fun dfr aa ww hzz => (blk_normal (then_normal (Gx.go hzz ?_))))
    · -- a round
      have hle1 := hre i (by omega)
      have hle2 := rowS_le (p.row i) (i64s_row hz i)
      have hle3 := Pl.row_length h8 hi
      -- region 6
      refine Gx.region ?_
      refine Rx.q rfl (.assign rfl) ?_
      refine Rx.nil fun aa ww hzz => ⟨rfl, _, _, hzz, ?_⟩
      refine Gx.block ?_
      -- region 7
      refine Gx.region ?_
      refine Rx.q rfl (.move rfl) ?_
      refine Rx.q rfl (.cal (caps := []) (text_row u (p.row i) (by omega) (i64s_row hz i)) rfl rfl) ?_
      refine Rx.sbStr rfl rfl (by simp only [headS, List.length_append, List.length_cons, List.length_nil] at hrl ⊢; omega) rfl ?_
      rw [show headS p ++ rowsS p i ++ rowS (p.row i) = headS p ++ rowsS p (i + 1) by rw [rowsS_succ, List.append_assoc]]
      refine Rx.nil fun aa ww hzz => (blk_normal (round_next hzz ⟨rfl, rfl⟩))
    -- region 8
    refine Gx.seq_region ?_
    refine Rx.sbText rfl rfl rfl ?_
    refine Rx.q rfl (.assign rfl) ?_
    refine Rx.next ?_
    refine Gx.ret fun aa ww hzz => (fin_tmp hzz rfl rfl (by rw [planeS, h8]; exact ⟨rfl, rfl⟩))


theorem text_Frame (f : Fr) (u v w : Value) (ou : u.oneCell' = true) (ov : v.oneCell' = true) (ow : w.oneCell' = true) (hl : f.a.l.length ≤ 1099511627776 ∧ f.b.l.length ≤ 1099511627776 ∧ f.c.l.length ≤ 1099511627776) (hz : i64s f.a.l ∧ i64s f.b.l ∧ i64s f.c.l) : Spc Tryd.prog 21 [.agg (frC f u v w).toArray] [] [lib, plR f.a u, plR f.b v, plR f.c w] (ret (str (frameS f))) := by
  refine Spc.intro Tryd.func21 rfl Tryd.ntmps21 (by kernel_rfl) rfl rfl fun w0 F0 => ?_
  have ha := planeS_le f.a hz.1
  have hb := planeS_le f.b hz.2.1
  have hc := planeS_le f.c hz.2.2
  -- region 0
  refine Gx.seq_region ?_
  refine Rx.box (vs := frC f u v w) rfl rfl rfl fun b1 => ?_
  refine Rx.q rfl (.assign rfl) ?_
  refine Rx.next ?_
  -- region 1
  refine Gx.seq_region ?_
  refine Rx.q rfl (.assign rfl) ?_
  refine Rx.next ?_
  refine Gx.seq ?_
  -- region 2
  refine Gx.seq_region ?_
  refine Rx.q rfl (.fieldAddr rfl) ?_
  refine Rx.q rfl (.ldc rfl (by rfl)) ?_
  refine Rx.q rfl (.move rfl) ?_
  refine Rx.next ?_
  refine Gx.block ?_
  refine Gx.lpn 3 ?_
  -- region 3
  refine Gx.seq_region ?_
  refine Rx.q rfl (.lss rfl rfl) ?_
  refine Rx.next ?_
  refine Gx.seq ?_
  refine Gx.cond_t rfl ?_
  refine Gx.skip fun aa ww hzz => (then_normal (Gx.go hzz ?_))
  refine Gx.seq ?_
  refine Gx.block ?_
  -- region 4
  refine Gx.seq_region ?_
  refine Rx.q rfl (.idx_aa (j := 0) (us := plC f.a u) rfl rfl (by decide) rfl rfl) ?_
  refine Rx.alloc (zs := [.int .i64 0, .int .i64 0, .slice none 0 0]) rfl rfl fun b5 => ?_
  refine Rx.stc rfl rfl (by first | rfl | simp only [List.all_cons, List.all_nil, one_int, one_bool, one_str, one_ptr, one_slice, one_func, Bool.and_true, Bool.true_and, *]) (by rfl) ?_
  refine Rx.next ?_
  -- region 5
  refine Gx.seq_region ?_
  refine Rx.q rfl (.ldc rfl (by rfl)) ?_
  refine Rx.q rfl (.cal (caps := []) (text_Plane f.a u ou hl.1 hz.1) rfl rfl) ?_
  refine Rx.q rfl (.assign rfl) ?_
  refine Rx.next ?_
  refine Gx.seq ?_
  -- region 6
  refine Gx.seq_region ?_
  refine Rx.q rfl (.move rfl) ?_
  refine Rx.q rfl (.eql_s rfl rfl) ?_
  refine Rx.next ?_
  refine Gx.cond rfl (fun h15 => ?_) (fun h15 => ?_)
  · -- way
    have h15 := of_decide_eq_true h15
    have hno := frameS_a h15
    -- region 7
    refine Gx.seq_region ?_
    refine Rx.q rfl (.assign rfl) ?_
    refine Rx.next ?_
    refine Gx.ret fun aa ww hzz => (then_ret (blk_ret (then_ret (then_ret (blk_ret (then_ret (fin_tmp hzz rfl rfl (by rw [hno]; exact ⟨rfl, rfl⟩))))))))
  · -- way
    have h15 := of_decide_eq_false h15
    have h0 := h15
    refine Gx.skip fun aa ww hzz => (then_normal (Gx.go hzz ?_))
    -- region 8
    refine Gx.region ?_
    refine Rx.q rfl (.move rfl) ?_
    refine Rx.q rfl (.move rfl) ?_
    refine Rx.q rfl (.cat_s rfl rfl (by first | omega | (simp only [List.length_append, List.length_cons, List.length_nil]; omega))) ?_
    refine Rx.q rfl (.assign rfl) ?_
    refine Rx.nil fun aa ww hzz => (blk_normal (then_normal (Gx.go hzz ?_)))
    -- region 9
    refine Gx.region ?_
    refine Rx.q rfl (.add_ rfl rfl (by omega)) ?_
    refine Rx.q rfl (.move rfl) ?_
    refine Rx.nil fun aa ww hzz => (then_normal (rounds_go (m := 2) hzz ?_))
    -- region 3
    refine Gx.seq_region ?_
    refine Rx.q rfl (.lss rfl rfl) ?_
    refine Rx.next ?_
    refine Gx.seq ?_
    refine Gx.cond_t rfl ?_
    refine Gx.skip fun aa ww hzz => (then_normal (Gx.go hzz ?_))
    refine Gx.seq ?_
    refine Gx.block ?_
    -- region 4
    refine Gx.seq_region ?_
    refine Rx.q rfl (.idx_aa (j := 1) (us := plC f.b v) rfl rfl (by decide) rfl rfl) ?_
    refine Rx.alloc (zs := [.int .i64 0, .int .i64 0, .slice none 0 0]) rfl rfl fun b5 => ?_
    refine Rx.stc rfl rfl (by first | rfl | simp only [List.all_cons, List.all_nil, one_int, one_bool, one_str, one_ptr, one_slice, one_func, Bool.and_true, Bool.true_and, *]) (by rfl) ?_
    refine Rx.next ?_
    -- region 5
    refine Gx.seq_region ?_
    refine Rx.q rfl (.ldc rfl (by rfl)) ?_
    refine Rx.q rfl (.cal (caps := []) (text_Plane f.b v ov hl.2.1 hz.2.1) rfl rfl) ?_
    refine Rx.q rfl (.assign rfl) ?_
    refine Rx.next ?_
    refine Gx.seq ?_
    -- region 6
    refine Gx.seq_region ?_
    refine Rx.q rfl (.move rfl) ?_
    refine Rx.q rfl (.eql_s rfl rfl) ?_
    refine Rx.next ?_
    refine Gx.cond rfl (fun h15 => ?_) (fun h15 => ?_)
    · -- way
      have h15 := of_decide_eq_true h15
      have hno := frameS_b h15
      -- region 7
      refine Gx.seq_region ?_
      refine Rx.q rfl (.assign rfl) ?_
      refine Rx.next ?_
      refine Gx.ret fun aa ww hzz => (then_ret (blk_ret (then_ret (then_ret (blk_ret (then_ret (fin_tmp hzz rfl rfl (by rw [hno]; exact ⟨rfl, rfl⟩))))))))
    · -- way
      have h15 := of_decide_eq_false h15
      have h1 := h15
      refine Gx.skip fun aa ww hzz => (then_normal (Gx.go hzz ?_))
      -- region 8
      refine Gx.region ?_
      refine Rx.q rfl (.move rfl) ?_
      refine Rx.q rfl (.move rfl) ?_
      refine Rx.q rfl (.cat_s rfl rfl (by first | omega | (simp only [List.length_append, List.length_cons, List.length_nil]; omega))) ?_
      refine Rx.q rfl (.assign rfl) ?_
      refine Rx.nil fun aa ww hzz => (blk_normal (then_normal (Gx.go hzz ?_)))
      -- region 9
      refine Gx.region ?_
      refine Rx.q rfl (.add_ rfl rfl (by omega)) ?_
      refine Rx.q rfl (.move rfl) ?_
      refine Rx.nil fun aa ww hzz => (then_normal (rounds_go (m := 1) hzz ?_))
      -- region 3
      refine Gx.seq_region ?_
      refine Rx.q rfl (.lss rfl rfl) ?_
      refine Rx.next ?_
      refine Gx.seq ?_
      refine Gx.cond_t rfl ?_
      refine Gx.skip fun aa ww hzz => (then_normal (Gx.go hzz ?_))
      refine Gx.seq ?_
      refine Gx.block ?_
      -- region 4
      refine Gx.seq_region ?_
      refine Rx.q rfl (.idx_aa (j := 2) (us := plC f.c w) rfl rfl (by decide) rfl rfl) ?_
      refine Rx.alloc (zs := [.int .i64 0, .int .i64 0, .slice none 0 0]) rfl rfl fun b5 => ?_
      refine Rx.stc rfl rfl (by first | rfl | simp only [List.all_cons, List.all_nil, one_int, one_bool, one_str, one_ptr, one_slice, one_func, Bool.and_true, Bool.true_and, *]) (by rfl) ?_
      refine Rx.next ?_
      -- region 5
      refine Gx.seq_region ?_
      refine Rx.q rfl (.ldc rfl (by rfl)) ?_
      refine Rx.q rfl (.cal (caps := []) (text_Plane f.c w ow hl.2.2 hz.2.2) rfl rfl) ?_
      refine Rx.q rfl (.assign rfl) ?_
      refine Rx.next ?_
      refine Gx.seq ?_
      -- region 6
      refine Gx.seq_region ?_
      refine Rx.q rfl (.move rfl) ?_
      refine Rx.q rfl (.eql_s rfl rfl) ?_
      refine Rx.next ?_
      refine Gx.cond rfl (fun h15 => ?_) (fun h15 => ?_)
      · -- way
        have h15 := of_decide_eq_true h15
        have hno := frameS_c h15
        -- region 7
        refine Gx.seq_region ?_
        refine Rx.q rfl (.assign rfl) ?_
        refine Rx.next ?_
        refine Gx.ret fun aa ww hzz => (then_ret (blk_ret (then_ret (then_ret (blk_ret (then_ret (fin_tmp hzz rfl rfl (by rw [hno]; exact ⟨rfl, rfl⟩))))))))
      · -- way
        have h15 := of_decide_eq_false h15
        refine Gx.skip fun aa ww hzz => (then_normal (Gx.go hzz ?_))
        -- region 8
        refine Gx.region ?_
        refine Rx.q rfl (.move rfl) ?_
        refine Rx.q rfl (.move rfl) ?_
        refine Rx.q rfl (.cat_s rfl rfl (by first | omega | (simp only [List.length_append, List.length_cons, List.length_nil]; omega))) ?_
        refine Rx.q rfl (.assign rfl) ?_
        refine Rx.nil fun aa ww hzz => (blk_normal (then_normal (Gx.go hzz ?_)))
        -- region 9
        refine Gx.region ?_
        refine Rx.q rfl (.add_ rfl rfl (by omega)) ?_
        refine Rx.q rfl (.move rfl) ?_
        refine Rx.nil fun aa ww hzz => (then_normal (rounds_go (m := 0) hzz ?_))
        -- region 3
        refine Gx.seq_region ?_
        refine Rx.q rfl (.lss rfl rfl) ?_
        refine Rx.next ?_
        refine Gx.seq ?_
        refine Gx.cond_f rfl ?_
        refine Gx.exit fun aa ww hzz => (then_exit (then_exit (blk_exit (then_normal (Gx.go hzz ?_)))))
        -- region 10
        refine Gx.seq_region ?_
        refine Rx.q rfl (.move rfl) ?_
        refine Rx.q rfl (.assign rfl) ?_
        refine Rx.next ?_
        refine Gx.ret fun aa ww hzz => (fin_tmp hzz rfl rfl (by rw [frameS_yes h0 h1 h15]; exact ⟨rfl, rfl⟩))


theorem text_Shades (p : Pl) (v : Value) (m : Int) (hl : p.l.length ≤ 1099511627776) (hz : i64s p.l) (ho : v.oneCell' = true) : Spc Tryd.prog 19 [.agg (plC p v).toArray, .int .i64 m] [] [plR p v] (ret (str (shadesS p m))) := by
  refine Spc.intro Tryd.func19 rfl Tryd.ntmps19 (by kernel_rfl) rfl rfl fun w0 F0 => ?_
  -- region 0
  refine Gx.seq_region ?_
  refine Rx.box (vs := plC p v) rfl rfl rfl fun b2 => ?_
  refine Rx.box (vs := [.int .i64 m]) rfl rfl rfl fun b3 => ?_
  refine Rx.q rfl (.assign rfl) ?_
  refine Rx.next ?_
  refine Gx.seq ?_
  -- region 1
  refine Gx.seq_region ?_
  refine Rx.q rfl (.ldc rfl (by rfl)) ?_
  refine Rx.q rfl (.cal (caps := []) (plane_Right _ _) rfl rfl) ?_
  refine Rx.q rfl (.not rfl) ?_
  refine Rx.q rfl (.move rfl) ?_
  refine Rx.split 13 rfl (fun h13 => ?_) (fun h13 => ?_)
  · -- way
    have h13 := bnot_t h13
    have hno : shadesS p m = [] := by rw [shadesS, if_neg]; rw [h13]; simp
    refine Rx.guard_no rfl rfl rfl rfl rfl ?_
    refine Rx.guard_no rfl rfl rfl rfl rfl ?_
    refine Rx.q rfl (.pick_t rfl rfl) ?_
    refine Rx.q rfl (.move rfl) ?_
    refine Rx.guard_no rfl rfl rfl rfl rfl ?_
    refine Rx.guard_no rfl rfl rfl rfl rfl ?_
    refine Rx.q rfl (.pick_t rfl rfl) ?_
    refine Rx.next ?_
    refine Gx.cond_t rfl ?_
    -- region 2
    refine Gx.seq_region ?_
    refine Rx.q rfl (.assign rfl) ?_
    refine Rx.next ?_
    refine Gx.ret fun aa ww hzz => (then_ret (fin_tmp hzz rfl rfl (by rw [hno]; exact ⟨rfl, rfl⟩)))
  · -- way
    have h13 := bnot_f h13
    refine Rx.guard_yes rfl rfl rfl (Rx.q rfl (.ld rfl rfl) ?_)
    refine Rx.guard_yes rfl rfl rfl (Rx.q rfl (.lss rfl rfl) ?_)
    refine Rx.q rfl (.pick_f rfl rfl) ?_
    refine Rx.q rfl (.move rfl) ?_
    refine Rx.split 17 rfl (fun h17 => ?_) (fun h17 => ?_)
    · -- way
      have h17 := of_decide_eq_true h17
      have hno : shadesS p m = [] := by rw [shadesS, if_neg]; omega
      refine Rx.guard_no rfl rfl rfl rfl rfl ?_
      refine Rx.guard_no rfl rfl rfl rfl rfl ?_
      refine Rx.q rfl (.pick_t rfl rfl) ?_
      refine Rx.next ?_
      refine Gx.cond_t rfl ?_
      -- region 2
      refine Gx.seq_region ?_
      refine Rx.q rfl (.assign rfl) ?_
      refine Rx.next ?_
      refine Gx.ret fun aa ww hzz => (then_ret (fin_tmp hzz rfl rfl (by rw [hno]; exact ⟨rfl, rfl⟩)))
    · -- way
      have h17 := of_decide_eq_false h17
      refine Rx.guard_yes rfl rfl rfl (Rx.q rfl (.ld rfl rfl) ?_)
      refine Rx.guard_yes rfl rfl rfl (Rx.q rfl (.gtr rfl rfl) ?_)
      refine Rx.q rfl (.pick_f rfl rfl) ?_
      refine Rx.next ?_
      refine Gx.cond rfl (fun h20 => ?_) (fun h20 => ?_)
      · -- way
        have h20 := of_decide_eq_true h20
        have hno : shadesS p m = [] := by rw [shadesS, if_neg]; omega
        -- region 2
        refine Gx.seq_region ?_
        refine Rx.q rfl (.assign rfl) ?_
        refine Rx.next ?_
        refine Gx.ret fun aa ww hzz => (then_ret (fin_tmp hzz rfl rfl (by rw [hno]; exact ⟨rfl, rfl⟩)))
      · -- way
        have h20 := of_decide_eq_false h20
        have hyes : shadesS p m = shadeR p m p.h.toNat := by rw [shadesS, if_pos ⟨h13, by omega, by omega⟩]
        obtain ⟨hw, hh, hle⟩ := Pl.right_iff.1 h13
        have hre := fun i hi' => shadeR_le p m h13 i hi'
        refine Gx.skip fun aa ww hzz => (then_normal (Gx.go hzz ?_))
        -- region 3
        refine Gx.seq_region ?_
        refine Rx.alloc (zs := [.pointer none, .slice none 0 0]) rfl rfl fun b5 => ?_
        refine bld_newR ?_
        refine Rx.castL (L' := bld b5 (shadeR p m 0) :: pt b3 3 [.int .i64 m] :: [pt b2 37 (plC p v)]) rfl ?_
        refine Rx.next ?_
        refine Gx.seq ?_
        -- region 4
        refine Gx.seq_region ?_
        refine Rx.q rfl (.ldc rfl (by rfl)) ?_
        refine Rx.cal (caps := []) (plane_Rows _ _ (by first | rfl | assumption)) rfl rfl rfl fun v22 L22 hP22 => ?_
        obtain ⟨b22, rfl, rfl⟩ := hP22
        refine Rx.next ?_
        refine Gx.block ?_
        refine Gx.rangeAll (plane_rows p v b22 h13) (fun i => [bld b5 (shadeR p m i), pt b3 3 [.int .i64 m]]) ([]) (ps := [23, 24]) rfl rfl rfl (fun _ _ => rfl) (fun b => SubsA.ok) (fun i hi u hx l r w0 F0 hr => ?_) (fun dfr aa ww hzz => (blk_normal (then_normal (Gx.go hzz ?_))))
        · -- a round
          have hle1 := hre i (by omega)
          have hle3 := Pl.row_length h13 hi
          -- region 5
          refine Gx.region ?_
          refine Rx.q rfl (.assign rfl) ?_
          refine Rx.nil fun aa ww hzz => ⟨rfl, _, _, hzz, ?_⟩
          refine Gx.block ?_
          refine Gx.seq ?_
          -- region 6
          refine Gx.seq_region ?_
          refine Rx.q rfl (.move rfl) ?_
          refine Rx.q rfl (.lens rfl) ?_
          refine Rx.q rfl (.move rfl) ?_
          refine Rx.next ?_
          refine Gx.block ?_
          refine Gx.castL (L' := K.lp l { r with state := .busy } :: bld b5 (shadeR p m i ++ ((p.row i).take 0).map (shadeB m)) :: pt b3 3 [.int .i64 m] :: [sl 3 1 u (p.row i).length (intsV (p.row i))]) (by simp) ?_
          refine Gx.lp (α := Nat) (fun j => j ≤ (p.row i).length) (fun j => (p.row i).length - j) (fun j => [(3, .pointer (some ⟨b3, 0, none⟩)), (5, .pointer (some ⟨b5, 0, none⟩)), (25, u), (26, .int .i64 (p.row i).length), (27, .int .i64 j)])
            (fun j => [bld b5 (shadeR p m i ++ ((p.row i).take j).map (shadeB m)), K.lp l { r with state := .busy }, pt b3 3 [.int .i64 m], sl 3 1 u (p.row i).length (intsV (p.row i))]) (0) (Nat.zero_le _) ?_ (fun j hx => ?_)
          · exact (.cons rfl (.cons rfl (.cons rfl (.cons rfl (.cons rfl .nil)))))
          -- region 7
          refine Gx.seq_region ?_
          refine Rx.q rfl (.lss rfl rfl) ?_
          refine Rx.next ?_
          refine Gx.seq ?_
          refine Gx.cond rfl (fun h28 => ?_) (fun h28 => ?_)
          · -- way
            have h28 := of_decide_eq_true h28
            have hj : j < (p.row i).length := by omega
            have hmj : (((p.row i).take j).map (shadeB m)).length ≤ 1024 := by rw [List.length_map, List.length_take]; omega
            refine Gx.skip fun aa ww hzz => (then_normal (Gx.go hzz ?_))
            refine Gx.seq ?_
            refine Gx.block ?_
            -- region 8
            refine Gx.seq_region ?_
            refine Rx.q rfl (.idx (j := j) rfl rfl (by omega) (by omega)) ?_
            refine Rx.q rfl (.ldi (l := p.row i) rfl rfl hj) ?_
            refine Rx.q rfl (.assign rfl) ?_
            refine Rx.next ?_
            -- region 9
            refine Gx.region ?_
            refine Rx.q rfl (.move rfl) ?_
            refine Rx.q rfl ((OpQ.max rfl rfl).val (u := .int .i64 (max ((p.row i).getD j 0) 0)) (by congr 1; split <;> omega)) ?_
            refine Rx.q rfl (.ld rfl rfl) ?_
            refine Rx.q rfl ((OpQ.min rfl rfl).val (u := .int .i64 (min (max ((p.row i).getD j 0) 0) m)) (by congr 1; split <;> omega)) ?_
            refine Rx.q rfl (.mul_ rfl rfl (by omega)) ?_
            refine Rx.q rfl (.ld rfl rfl) ?_
            refine Rx.q rfl (.add_ rfl rfl (by omega)) ?_
            refine Rx.q rfl (.quo_ rfl rfl (by omega)) ?_
            refine Rx.q rfl (.idx_s (p := signs) (j := shadeI m ((p.row i).getD j 0)) rfl rfl (shadeI_lt m _ (by omega)) rfl) ?_
            refine Rx.sbByte (signs.getD (shadeI m ((p.row i).getD j 0)) 0) rfl rfl rfl (by first | omega | (simp only [List.length_append, List.length_cons, List.length_nil]; omega)) rfl ?_
            rw [show shadeR p m i ++ ((p.row i).take j).map (shadeB m) ++ [signs.getD (shadeI m ((p.row i).getD j 0)) 0] = shadeR p m i ++ ((p.row i).take (j + 1)).map (shadeB m) by rw [map_take_succ _ _ hj, List.append_assoc]; rfl]
            refine Rx.nil fun aa ww hzz => (blk_normal (then_normal (Gx.go hzz ?_)))
            -- region 10
            refine Gx.region ?_
            refine Rx.q rfl (.add_ rfl rfl (by omega)) ?_
            refine Rx.q rfl (.move rfl) ?_
            refine Rx.nil fun aa ww hzz => (then_normal ⟨j + 1, by omega, (by omega), hzz.to (.cons rfl (.cons rfl (.cons rfl (.cons rfl (.cons rfl .nil)))))⟩)
          · -- way
            have h28 := of_decide_eq_false h28
            obtain rfl : j = (p.row i).length := by omega
            have hmj : ((p.row i).map (shadeB m)).length ≤ 1024 := by rw [List.length_map]; omega
            rw [List.take_length]
            refine Gx.exit fun aa ww hzz => (then_exit (then_exit (blk_exit (then_normal (Gx.go hzz ?_)))))
            -- region 11
            refine Gx.region ?_
            refine Rx.sbByte 10 rfl rfl rfl (by first | omega | (simp only [List.length_append, List.length_cons, List.length_nil]; omega)) rfl ?_
            rw [show shadeR p m i ++ (p.row i).map (shadeB m) ++ [10] = shadeR p m (i + 1) by rw [shadeR_succ, List.append_assoc]]
            refine Rx.nil fun aa ww hzz => (blk_normal (round_next hzz ⟨rfl, rfl⟩))
        -- region 12
        refine Gx.seq_region ?_
        refine Rx.sbText rfl rfl rfl ?_
        refine Rx.q rfl (.assign rfl) ?_
        refine Rx.next ?_
        refine Gx.ret fun aa ww hzz => (fin_tmp hzz rfl rfl (by rw [hyes]; exact ⟨rfl, rfl⟩))

end Go.Proofs.YtoiebfpafdcbmaaDoor
