/- Contracts of layer text: what a text is read as. -/
import Derived.Test.YtoiebfpafdcbmaaDoorT2
import Derived.Test.YtoiebfpafdcbmaaDoorPU
import Derived.Test.YtoiebfpafdcbmaaDoorKo
namespace Go.Proofs.YtoiebfpafdcbmaaDoor
open Go Go.RowKit K
set_option linter.unusedVariables false
set_option linter.unusedSimpArgs false

/-- A scanner at block b. -/
abbrev scn (b : Nat) (s : List UInt8) (i : Nat) : As := pt b 108 [str s, .int .i64 i]

theorem text_line (b : Nat) (s : List UInt8) (i : Nat) (hs : s.length ≤ 4000000000) (hi : i ≤ s.length) : Spc Tryd.prog 84 [.pointer (some ⟨b, 0, none⟩)] [scn b s i] [lib] (fun u L => u = .tuple #[str (lineL s i), .bool (lineB s i)] ∧ L = [scn b s (lineN s i)]) := by
  refine Spc.intro Tryd.func84 rfl Tryd.ntmps84 (by kernel_rfl) rfl rfl fun w0 F0 => ?_
  have hle := lineL_le s i
  -- region 0
  refine Gx.seq_region ?_
  refine Rx.q rfl (.assign rfl) ?_
  refine Rx.q rfl (.assign rfl) ?_
  refine Rx.next ?_
  refine Gx.seq ?_
  -- region 1
  refine Gx.region_quiet mixed (by kernel_rfl) ?_
  refine Dx.q rfl (.move rfl) ?_
  refine Dx.q rfl (.nilCheck rfl) ?_
  refine Dx.q rfl (.fieldAddr rfl) ?_
  refine Dx.q rfl (.ld rfl rfl) ?_
  refine Dx.q rfl (.move rfl) ?_
  refine Dx.q rfl (.nilCheck rfl) ?_
  refine Dx.q rfl (.fieldAddr rfl) ?_
  refine Dx.q rfl (.ld rfl rfl) ?_
  refine Dx.q rfl (.sub_sl (l := i) rfl rfl rfl hi) ?_
  refine Dx.q rfl (.cal (caps := []) (lib_Cut (s.drop i) [10] (by rw [List.length_drop]; omega)) rfl rfl) ?_
  refine Dx.q rfl (.move rfl) ?_
  refine Dx.q rfl (.extract rfl rfl) ?_
  refine Dx.q rfl (.extract rfl rfl) ?_
  refine Dx.q rfl (.extract rfl rfl) ?_
  refine Dx.q rfl (.assign rfl) ?_
  refine Dx.q rfl (.assign rfl) ?_
  refine Dx.q rfl (.assign rfl) ?_
  refine Dx.nextQ ?_
  refine Gx.seq ?_
  -- region 2
  refine Gx.seq_region ?_
  refine Rx.q rfl (.move rfl) ?_
  refine Rx.next ?_
  refine Gx.cond rfl (fun h21 => ?_) (fun h21 => ?_)
  · -- way
    have e : lineN s i = i + ((lineL s i).length + 1) := if_pos h21
    -- region 3
    refine Gx.region ?_
    refine Rx.q rfl (.move rfl) ?_
    refine Rx.q rfl (.nilCheck rfl) ?_
    refine Rx.q rfl (.fieldAddr rfl) ?_
    refine Rx.q rfl (.ld rfl rfl) ?_
    refine Rx.q rfl (.move rfl) ?_
    refine Rx.q rfl (.len_s rfl) ?_
    refine Rx.q rfl (.add_ rfl rfl (by have := (cut_le (s.drop i)).1; rw [List.length_drop] at this; omega)) ?_
    refine Rx.q rfl ((OpQ.add_ rfl rfl (by have := (cut_le (s.drop i)).1; rw [List.length_drop] at this; omega)).val (u := .int .i64 ((i + ((lineL s i).length + 1) : Nat) : Int)) (by simp [lineL])) ?_
    refine Rx.q rfl (.nilCheck rfl) ?_
    refine Rx.q rfl (.fieldAddr rfl) ?_
    refine Rx.st rfl rfl (by first | rfl | assumption) ?_
    refine Rx.next ?_
    -- region 4
    refine Gx.seq_region ?_
    refine Rx.q rfl (.move rfl) ?_
    refine Rx.q rfl (.move rfl) ?_
    refine Rx.q rfl (.assign rfl) ?_
    refine Rx.q rfl (.assign rfl) ?_
    refine Rx.next ?_
    refine Gx.ret fun aa ww hzz => (fin_two (L1 := [scn b s (i + ((lineL s i).length + 1))]) hzz rfl rfl rfl (⟨rfl, by rw [e]⟩))
  · -- way
    have e : lineN s i = i := if_neg (by rw [lineB, h21]; simp)
    refine Gx.skip fun aa ww hzz => (then_normal (Gx.go hzz ?_))
    -- region 4
    refine Gx.seq_region ?_
    refine Rx.q rfl (.move rfl) ?_
    refine Rx.q rfl (.move rfl) ?_
    refine Rx.q rfl (.assign rfl) ?_
    refine Rx.q rfl (.assign rfl) ?_
    refine Rx.next ?_
    refine Gx.ret fun aa ww hzz => (fin_two (L1 := [scn b s i]) hzz rfl rfl rfl (⟨rfl, by rw [e]⟩))


theorem text_number_ok (s : List UInt8) (h : s.length ≤ 4000000000) (h1 : (atoiR s).2 = true) : Spc Tryd.prog 101 [str s] [] [lib] (ret (.tuple #[.int .i64 (numI s), .bool (numB s)])) := by
  refine Spc.intro Tryd.func101 rfl Tryd.ntmps101 (by kernel_rfl) rfl rfl fun w0 F0 => ?_
  have hf := atoiR_fit s
  -- region 0
  refine Gx.seq_region ?_
  refine Rx.q rfl (.assign rfl) ?_
  refine Rx.q rfl (.assign rfl) ?_
  refine Rx.next ?_
  -- region 1
  refine Gx.seq_region ?_
  refine Rx.q rfl (.move rfl) ?_
  refine Rx.cal (caps := []) (lib_Atoi s (by omega)) rfl rfl rfl fun v8 L8 hP8 => ?_
  obtain ⟨⟨e, rfl, he⟩, rfl⟩ := hP8
  rcases he with ⟨_, rfl⟩ | ⟨h2, _⟩
  case inr => rw [h1] at h2; cases h2
  refine Rx.q rfl (.move rfl) ?_
  refine Rx.q rfl (.extract rfl rfl) ?_
  refine Rx.q rfl (.extract rfl rfl) ?_
  refine Rx.q rfl (.assign rfl) ?_
  refine Rx.q rfl (.assign rfl) ?_
  refine Rx.next ?_
  -- region 2
  refine Gx.seq_region ?_
  refine Rx.q rfl (.move rfl) ?_
  refine Rx.q rfl (.move rfl) ?_
  refine Rx.q rfl (.eqnil_e (by kernel_rfl) rfl) ?_
  refine Rx.q rfl (.move rfl) ?_
  refine Rx.guard_yes rfl rfl rfl (Rx.q rfl (.move rfl) ?_)
  refine Rx.guard_yes rfl rfl rfl (Rx.q rfl (.cal (caps := []) (lib_Itoa (atoiR s).1 hf) rfl rfl) ?_)
  refine Rx.guard_yes rfl rfl rfl (Rx.q rfl (.move rfl) ?_)
  refine Rx.guard_yes rfl rfl rfl (Rx.q rfl (.eql_s rfl rfl) ?_)
  refine Rx.q rfl (.pick_t rfl rfl) ?_
  refine Rx.q rfl (.assign rfl) ?_
  refine Rx.q rfl (.assign rfl) ?_
  refine Rx.next ?_
  refine Gx.ret fun aa ww hzz => (fin_two hzz rfl rfl rfl (⟨by rw [numI, numB, h1, Bool.true_and], rfl⟩))

theorem text_number_no (s : List UInt8) (h : s.length ≤ 4000000000) (h1 : (atoiR s).2 = false) : Spc Tryd.prog 101 [str s] [] [lib] (ret (.tuple #[.int .i64 (numI s), .bool (numB s)])) := by
  refine Spc.intro Tryd.func101 rfl Tryd.ntmps101 (by kernel_rfl) rfl rfl fun w0 F0 => ?_
  have hf := atoiR_fit s
  -- region 0
  refine Gx.seq_region ?_
  refine Rx.q rfl (.assign rfl) ?_
  refine Rx.q rfl (.assign rfl) ?_
  refine Rx.next ?_
  -- region 1
  refine Gx.seq_region ?_
  refine Rx.q rfl (.move rfl) ?_
  refine Rx.cal (caps := []) (lib_Atoi s (by omega)) rfl rfl rfl fun v8 L8 hP8 => ?_
  obtain ⟨⟨e, rfl, he⟩, rfl⟩ := hP8
  rcases he with ⟨h2, _⟩ | ⟨_, tp, pv, rfl⟩
  case inl => rw [h1] at h2; cases h2
  refine Rx.q rfl (.move rfl) ?_
  refine Rx.q rfl (.extract rfl rfl) ?_
  refine Rx.q rfl (.extract rfl rfl) ?_
  refine Rx.q rfl (.assign rfl) ?_
  refine Rx.q rfl (.assign rfl) ?_
  refine Rx.next ?_
  -- region 2
  refine Gx.seq_region ?_
  refine Rx.q rfl (.move rfl) ?_
  refine Rx.q rfl (.move rfl) ?_
  refine Rx.q rfl (.eqnil_i (by kernel_rfl) rfl) ?_
  refine Rx.q rfl (.move rfl) ?_
  refine Rx.guard_no rfl rfl rfl rfl rfl ?_
  refine Rx.guard_no rfl rfl rfl rfl rfl ?_
  refine Rx.guard_no rfl rfl rfl rfl rfl ?_
  refine Rx.guard_no rfl rfl rfl rfl rfl ?_
  refine Rx.q rfl (.pick_f rfl rfl) ?_
  refine Rx.q rfl (.assign rfl) ?_
  refine Rx.q rfl (.assign rfl) ?_
  refine Rx.next ?_
  refine Gx.ret fun aa ww hzz => (fin_two hzz rfl rfl rfl (⟨by rw [numI, numB, h1, Bool.false_and], rfl⟩))

theorem text_number (s : List UInt8) (h : s.length ≤ 4000000000) : Spc Tryd.prog 101 [str s] [] [lib] (ret (.tuple #[.int .i64 (numI s), .bool (numB s)])) := by
  cases h1 : (atoiR s).2
  · exact text_number_no s h h1
  · exact text_number_ok s h h1

theorem text_numbers (l : List UInt8) (n : Int) (h : l.length ≤ 4000000000) : Spc Tryd.prog 85 [str l, .int .i64 n] [] [lib] (fun u L => ∃ v, u = .tuple #[v, .bool (numsM l n).isSome] ∧ L = [sl 3 1 v ((numsM l n).getD []).length (intsV ((numsM l n).getD []))] ∧ v.oneCell' = true) := by
  refine Spc.intro Tryd.func85 rfl Tryd.ntmps85 (by kernel_rfl) rfl rfl fun w0 F0 => ?_
  have hc := split_count l
  -- region 0
  refine Gx.seq_region ?_
  refine Rx.q rfl (.assign rfl) ?_
  refine Rx.q rfl (.assign rfl) ?_
  refine Rx.next ?_
  -- region 1
  refine Gx.seq_region ?_
  refine Rx.q rfl (.move rfl) ?_
  refine Rx.cal (caps := []) (lib_Split l [32] (by omega) (by simp)) rfl rfl rfl fun v13 L13 hP13 => ?_
  obtain ⟨rfl, hns⟩ := hP13
  refine Rx.q rfl (.assign rfl) ?_
  refine Rx.next ?_
  refine Gx.seq ?_
  -- region 2
  refine Gx.seq_region ?_
  refine Rx.q rfl (.move rfl) ?_
  refine Rx.q rfl (.lens rfl) ?_
  refine Rx.q rfl (.move rfl) ?_
  refine Rx.q rfl (.neq rfl rfl) ?_
  refine Rx.next ?_
  refine Gx.cond rfl (fun h17 => ?_) (fun h17 => ?_)
  · -- way
    have h17 := of_decide_eq_true h17
    have hno : numsM l n = none := by rw [numsM, if_neg]; intro hh; exact h17 hh.1
    -- region 3
    refine Gx.seq_region ?_
    refine Rx.q rfl (.assign rfl) ?_
    refine Rx.q rfl (.assign rfl) ?_
    refine Rx.next ?_
    refine Gx.nilS (e := 3) (sz := 1) ?_
    refine Gx.ret fun aa ww hzz => (then_ret (fin_two (L1 := [sl 3 1 (.slice none 0 0) 0 []]) hzz rfl rfl rfl (by rw [hno]; exact ⟨_, rfl, rfl, rfl⟩)))
  · -- way
    have h17 := of_decide_eq_false h17
    have hn : ((Lib.split l [32]).length : Int) = n := Decidable.not_not.1 h17
    refine Gx.skip fun aa ww hzz => (then_normal (Gx.go hzz ?_))
    -- region 4
    refine Gx.seq_region ?_
    refine Rx.q rfl (.move rfl) ?_
    refine Rx.makeSlice rfl rfl (by omega) rfl fun v19 hv19 => ?_
    rw [made_ints, show n.toNat = (Lib.split l [32]).length by omega]
    refine Rx.one v19 fun ho19 => ?_
    refine Rx.q rfl (.assign rfl) ?_
    refine Rx.next ?_
    refine Gx.seq ?_
    -- region 5
    refine Gx.seq_region ?_
    refine Rx.q rfl (.move rfl) ?_
    refine Rx.q rfl (.lens rfl) ?_
    refine Rx.q rfl (.move rfl) ?_
    refine Rx.next ?_
    refine Gx.block ?_
    refine Gx.castL (L' := [sl 3 1 v19 (Lib.split l [32]).length (intsV (((Lib.split l [32]).take 0).map numI ++ List.replicate ((Lib.split l [32]).length - 0) 0)), sl 9 1 v13 (Lib.split l [32]).length ((Lib.split l [32]).map str)]) rfl ?_
    refine Gx.lp (α := Nat) (fun j => j ≤ (Lib.split l [32]).length ∧ ((Lib.split l [32]).take j).all numB = true) (fun j => (Lib.split l [32]).length - j) (fun j => [(1, .int .i64 n), (7, v19), (20, v13), (21, .int .i64 (Lib.split l [32]).length), (22, .int .i64 j)])
      (fun j => [sl 3 1 v19 (Lib.split l [32]).length (intsV (((Lib.split l [32]).take j).map numI ++ List.replicate ((Lib.split l [32]).length - j) 0)), sl 9 1 v13 (Lib.split l [32]).length ((Lib.split l [32]).map str)]) (0) (⟨Nat.zero_le _, rfl⟩) ?_ (fun j hx => ?_)
    · exact (.cons rfl (.cons rfl (.cons rfl (.cons rfl (.cons rfl .nil)))))
    -- region 6
    refine Gx.seq_region ?_
    refine Rx.q rfl (.lss rfl rfl) ?_
    refine Rx.next ?_
    refine Gx.seq ?_
    refine Gx.cond rfl (fun h23 => ?_) (fun h23 => ?_)
    · -- way
      have h23 := of_decide_eq_true h23
      have hj : j < (Lib.split l [32]).length := by omega
      have hle := split_len l _ (List.getElem_mem hj)
      refine Gx.skip fun aa ww hzz => (then_normal (Gx.go hzz ?_))
      refine Gx.seq ?_
      refine Gx.block ?_
      -- region 7
      refine Gx.seq_region ?_
      refine Rx.q rfl (.move rfl) ?_
      refine Rx.q rfl (.idx (j := j) rfl rfl (by omega) (by omega)) ?_
      refine Rx.q rfl (.lds (u := str (Lib.split l [32])[j]) rfl (by simp [hj])) ?_
      refine Rx.q rfl (.assign rfl) ?_
      refine Rx.q rfl (.assign rfl) ?_
      refine Rx.next ?_
      -- region 8
      refine Gx.seq_region ?_
      refine Rx.q rfl (.move rfl) ?_
      refine Rx.q rfl (.cal (caps := []) (text_number (Lib.split l [32])[j] (by omega)) rfl rfl) ?_
      refine Rx.q rfl (.move rfl) ?_
      refine Rx.q rfl (.extract rfl rfl) ?_
      refine Rx.q rfl (.extract rfl rfl) ?_
      refine Rx.q rfl (.assign rfl) ?_
      refine Rx.q rfl (.assign rfl) ?_
      refine Rx.next ?_
      refine Gx.seq ?_
      -- region 9
      refine Gx.seq_region ?_
      refine Rx.q rfl (.move rfl) ?_
      refine Rx.q rfl (.not rfl) ?_
      refine Rx.next ?_
      refine Gx.cond rfl (fun h33 => ?_) (fun h33 => ?_)
      · -- way
        have h33 := bnot_t h33
        have hno : numsM l n = none := by
          rw [numsM, if_neg]; intro hh
          have := List.all_eq_true.1 hh.2 _ (List.getElem_mem hj)
          rw [h33] at this; cases this
        -- region 10
        refine Gx.seq_region ?_
        refine Rx.q rfl (.assign rfl) ?_
        refine Rx.q rfl (.assign rfl) ?_
        refine Rx.next ?_
        refine Gx.nilS (e := 3) (sz := 1) ?_
        refine Gx.ret fun aa ww hzz => (then_ret (blk_ret (then_ret (then_ret (blk_ret (then_ret (fin_two (L1 := [sl 3 1 (.slice none 0 0) 0 []]) hzz rfl rfl rfl (by rw [hno]; exact ⟨_, rfl, rfl, rfl⟩))))))))
      · -- way
        have h33 := bnot_f h33
        refine Gx.skip fun aa ww hzz => (then_normal (Gx.go hzz ?_))
        -- region 11
        refine Gx.region ?_
        refine Rx.q rfl (.move rfl) ?_
        refine Rx.q rfl (.move rfl) ?_
        refine Rx.q rfl (.move rfl) ?_
        refine Rx.q rfl (.idx (j := j) rfl rfl (by omega) (by omega)) ?_
        refine Rx.sti (l := ((Lib.split l [32]).take j).map numI ++ List.replicate ((Lib.split l [32]).length - j) 0) rfl rfl rfl (by simp; omega) ?_
        rw [fill_step numI (Lib.split l [32]) hj]
        refine Rx.nil fun aa ww hzz => (blk_normal (then_normal (Gx.go hzz ?_)))
        -- region 12
        refine Gx.region ?_
        refine Rx.q rfl (.add_ rfl rfl (by omega)) ?_
        refine Rx.q rfl (.move rfl) ?_
        refine Rx.nil fun aa ww hzz => (then_normal ⟨j + 1, ⟨by omega, by rw [all_take_succ' hj, hx.2, h33]; rfl⟩, (by omega), hzz.to (.cons rfl (.cons rfl (.cons rfl (.cons rfl (.cons rfl .nil)))))⟩)
    · -- way
      have h23 := of_decide_eq_false h23
      obtain rfl : j = (Lib.split l [32]).length := by omega
      have hx2 := hx.2
      rw [List.take_length] at hx2
      have hyes : numsM l n = some ((Lib.split l [32]).map numI) := by rw [numsM, if_pos ⟨hn, hx2⟩]
      refine Gx.exit fun aa ww hzz => (then_exit (then_exit (blk_exit (then_normal (Gx.go hzz ?_)))))
      -- region 13
      refine Gx.seq_region ?_
      refine Rx.q rfl (.move rfl) ?_
      refine Rx.q rfl (.assign rfl) ?_
      refine Rx.q rfl (.assign rfl) ?_
      refine Rx.next ?_
      refine Gx.ret fun aa ww hzz => (fin_two (L1 := [sl 3 1 v19 (Lib.split l [32]).length (intsV (((Lib.split l [32]).take (Lib.split l [32]).length).map numI ++ List.replicate ((Lib.split l [32]).length - (Lib.split l [32]).length) 0))]) hzz rfl rfl rfl (by rw [hyes]; exact ⟨_, rfl, by simp, ho19⟩))


theorem text_sides (b : Nat) (s : List UInt8) (i : Nat) (hs : s.length ≤ 4000000000) (hi : i ≤ s.length) : Spc Tryd.prog 83 [.pointer (some ⟨b, 0, none⟩)] [scn b s i] [lib] (fun u L => ∃ v, u = .tuple #[.agg (plC (sidesM s i) v).toArray, .bool (sidesM s i).right] ∧ L = [scn b s (lineN s i), plS (sidesM s i) v] ∧ v.oneCell' = true) := by
  refine Spc.intro Tryd.func83 rfl Tryd.ntmps83 (by kernel_rfl) rfl rfl fun w0 F0 => ?_
  have hle := lineL_le s i
  have hz : (⟨0, 0, []⟩ : Pl).right = false := rfl
  -- region 0
  refine Gx.seq_region ?_
  refine Rx.alloc (zs := [.int .i64 0, .int .i64 0, .slice none 0 0]) rfl rfl fun b2 => ?_
  refine Rx.q rfl (.assign rfl) ?_
  refine Rx.next ?_
  -- region 1
  refine Gx.seq_region ?_
  refine Rx.q rfl (.move rfl) ?_
  refine Rx.cal (caps := []) (text_line b s i hs hi) rfl rfl rfl fun v13 L13 hP13 => ?_
  obtain ⟨rfl, rfl⟩ := hP13
  refine Rx.q rfl (.move rfl) ?_
  refine Rx.q rfl (.extract rfl rfl) ?_
  refine Rx.q rfl (.extract rfl rfl) ?_
  refine Rx.q rfl (.assign rfl) ?_
  refine Rx.q rfl (.assign rfl) ?_
  refine Rx.next ?_
  -- region 2
  refine Gx.seq_region ?_
  refine Rx.q rfl (.move rfl) ?_
  refine Rx.q rfl (.cal (caps := []) (lib_CutPrefix (lineL s i) preS) rfl rfl) ?_
  refine Rx.q rfl (.move rfl) ?_
  refine Rx.q rfl (.extract rfl rfl) ?_
  refine Rx.q rfl (.extract rfl rfl) ?_
  refine Rx.q rfl (.assign rfl) ?_
  refine Rx.q rfl (.assign rfl) ?_
  refine Rx.next ?_
  refine Gx.seq ?_
  -- region 3
  refine Gx.seq_region ?_
  refine Rx.q rfl (.move rfl) ?_
  refine Rx.q rfl (.not rfl) ?_
  refine Rx.q rfl (.move rfl) ?_
  refine Rx.split 23 rfl (fun h23 => ?_) (fun h23 => ?_)
  · -- way
    have h23 := bnot_t h23
    have hno : sidesM s i = ⟨0, 0, []⟩ := by rw [sidesM, if_neg]; rw [h23]; simp
    refine Rx.guard_no rfl rfl rfl rfl rfl ?_
    refine Rx.guard_no rfl rfl rfl rfl rfl ?_
    refine Rx.q rfl (.pick_t rfl rfl) ?_
    refine Rx.next ?_
    refine Gx.cond_t rfl ?_
    -- region 4
    refine Gx.seq_region ?_
    refine Rx.q rfl (.build (cs := [.int .i64 0, .int .i64 0, .slice none 0 0]) rfl rfl) ?_
    refine Rx.stc rfl rfl (by first | rfl | simp only [List.all_cons, List.all_nil, one_int, one_bool, one_str, one_ptr, one_slice, one_func, Bool.and_true, Bool.true_and, *]) (by rfl) ?_
    refine Rx.q rfl (.assign rfl) ?_
    refine Rx.next ?_
    refine Gx.nilS (e := 3) (sz := 1) ?_
    refine Gx.ret fun aa ww hzz => (then_ret (fin_ct (L1 := [scn b s (lineN s i), sl 3 1 (.slice none 0 0) 0 []]) hzz rfl rfl (by rfl) rfl (by rw [hno]; exact ⟨_, rfl, rfl, rfl⟩)))
  · -- way
    have h23 := bnot_f h23
    refine Rx.guard_yes rfl rfl rfl (Rx.q rfl (.move rfl) ?_)
    refine Rx.guard_yes rfl rfl rfl (Rx.q rfl (.not rfl) ?_)
    refine Rx.q rfl (.pick_f rfl rfl) ?_
    refine Rx.next ?_
    refine Gx.cond rfl (fun h26 => ?_) (fun h26 => ?_)
    · -- way
      have h26 := bnot_t h26
      have hno : sidesM s i = ⟨0, 0, []⟩ := by rw [sidesM, if_neg]; rw [h26]; simp
      -- region 4
      refine Gx.seq_region ?_
      refine Rx.q rfl (.build (cs := [.int .i64 0, .int .i64 0, .slice none 0 0]) rfl rfl) ?_
      refine Rx.stc rfl rfl (by first | rfl | simp only [List.all_cons, List.all_nil, one_int, one_bool, one_str, one_ptr, one_slice, one_func, Bool.and_true, Bool.true_and, *]) (by rfl) ?_
      refine Rx.q rfl (.assign rfl) ?_
      refine Rx.next ?_
      refine Gx.nilS (e := 3) (sz := 1) ?_
      refine Gx.ret fun aa ww hzz => (then_ret (fin_ct (L1 := [scn b s (lineN s i), sl 3 1 (.slice none 0 0) 0 []]) hzz rfl rfl (by rfl) rfl (by rw [hno]; exact ⟨_, rfl, rfl, rfl⟩)))
    · -- way
      have h26 := bnot_f h26
      have hyes : sidesM s i = match numsM (Lib.trimPrefix (lineL s i) preS) 2 with | some n => newP (n.getD 0 0) (n.getD 1 0) | none => ⟨0, 0, []⟩ := if_pos ⟨h23, h26⟩
      have hle2 : (Lib.trimPrefix (lineL s i) preS).length ≤ (lineL s i).length := by
        unfold Lib.trimPrefix; split <;> (try rw [List.length_drop]) <;> omega
      refine Gx.skip fun aa ww hzz => (then_normal (Gx.go hzz ?_))
      -- region 5
      refine Gx.seq_region ?_
      refine Rx.q rfl (.move rfl) ?_
      refine Rx.cal (caps := []) (text_numbers (Lib.trimPrefix (lineL s i) preS) 2 (by omega)) rfl rfl rfl fun v30 L30 hP30 => ?_
      obtain ⟨v30, rfl, rfl, ho30⟩ := hP30
      refine Rx.q rfl (.move rfl) ?_
      refine Rx.q rfl (.extract rfl rfl) ?_
      refine Rx.q rfl (.extract rfl rfl) ?_
      refine Rx.q rfl (.assign rfl) ?_
      refine Rx.q rfl (.assign rfl) ?_
      refine Rx.next ?_
      refine Gx.seq ?_
      -- region 6
      refine Gx.seq_region ?_
      refine Rx.q rfl (.move rfl) ?_
      refine Rx.q rfl (.not rfl) ?_
      refine Rx.next ?_
      refine Gx.cond rfl (fun h34 => ?_) (fun h34 => ?_)
      · -- way
        have h34 := bnot_t h34
        have hn : numsM (Lib.trimPrefix (lineL s i) preS) 2 = none := by simpa using h34
        have hno : sidesM s i = ⟨0, 0, []⟩ := by rw [hyes, hn]
        -- region 7
        refine Gx.seq_region ?_
        refine Rx.q rfl (.build (cs := [.int .i64 0, .int .i64 0, .slice none 0 0]) rfl rfl) ?_
        refine Rx.stc rfl rfl (by first | rfl | simp only [List.all_cons, List.all_nil, one_int, one_bool, one_str, one_ptr, one_slice, one_func, Bool.and_true, Bool.true_and, *]) (by rfl) ?_
        refine Rx.q rfl (.assign rfl) ?_
        refine Rx.next ?_
        refine Gx.nilS (e := 3) (sz := 1) ?_
        refine Gx.ret fun aa ww hzz => (then_ret (fin_ct (L1 := [scn b s (lineN s i), sl 3 1 (.slice none 0 0) 0 []]) hzz rfl rfl (by rfl) rfl (by rw [hno]; exact ⟨_, rfl, rfl, rfl⟩)))
      · -- way
        have h34 := bnot_f h34
        obtain ⟨ns, hn⟩ := Option.isSome_iff_exists.1 h34
        have hl2 := numsM_length hn
        have hyes2 : sidesM s i = newP (ns.getD 0 0) (ns.getD 1 0) := by rw [hyes, hn]
        rw [hn, Option.getD_some]
        refine Gx.skip fun aa ww hzz => (then_normal (Gx.go hzz ?_))
        -- region 8
        refine Gx.region_ax (α := Nat × Value) (fun y => y.2.oneCell' = true) (fun y => [(2, .pointer (some ⟨b2, 0, none⟩)), (10, .pointer (some ⟨y.1, 0, none⟩))]) (fun y => [pt y.1 37 (plC (sidesM s i) y.2), plS (sidesM s i) y.2, scn b s (lineN s i), pt b2 37 [.int .i64 0, .int .i64 0, .slice none 0 0]]) [sl 3 1 v30 ns.length (intsV ns)] mixed ?_ (fun y hy => ?_)
        · -- orders
          refine Ax.fl 0 rfl (by kernel_rfl) (by kernel_rfl) (by kernel_rfl) rfl rfl (.move rfl) ?_
          refine Ax.fl 1 rfl (by kernel_rfl) (by kernel_rfl) (by kernel_rfl) rfl rfl (.idx (j := 0) rfl rfl (by omega) rfl) ?_
          refine Ax.fl 2 rfl (by kernel_rfl) (by kernel_rfl) (by kernel_rfl) rfl rfl (.ldi (l := ns) rfl rfl (by omega)) ?_
          refine Ax.fl 3 rfl (by kernel_rfl) (by kernel_rfl) (by kernel_rfl) rfl rfl (.move rfl) ?_
          refine Ax.fl 4 rfl (by kernel_rfl) (by kernel_rfl) (by kernel_rfl) rfl rfl (.idx (j := 1) rfl rfl (by omega) rfl) ?_
          refine Ax.fl 5 rfl (by kernel_rfl) (by kernel_rfl) (by kernel_rfl) rfl rfl (.ldi (l := ns) rfl rfl (by omega)) ?_
          refine Ax.two 6 7 (by kernel_rfl) rfl rfl ?_ ?_
          · -- first 6
            refine Rx.cal (caps := []) (plane_New (ns.getD 0 0) (ns.getD 1 0)) rfl rfl rfl fun v42 L42 hP42 => ?_
            obtain ⟨v42, rfl, rfl, ho42⟩ := hP42
            rw [← hyes2]
            refine Ax.back ?_
            refine Ax.one 7 (by kernel_rfl) rfl ?_
            -- first 7
            refine Rx.alloc (zs := [.int .i64 0, .int .i64 0, .slice none 0 0]) rfl rfl fun b10 => ?_
            refine Ax.back ?_
            refine Ax.one 8 (by kernel_rfl) rfl ?_
            -- first 8
            refine Rx.stc rfl rfl (by first | rfl | simp only [List.all_cons, List.all_nil, one_int, one_bool, one_str, one_ptr, one_slice, one_func, Bool.and_true, Bool.true_and, *]) (by rfl) ?_
            refine Ax.back ?_
            refine Ax.fin (by kernel_rfl) fun aa ww hzz => ⟨(b10, v42), ho42, hzz.to (.cons rfl (.cons rfl .nil))⟩
          · -- first 7
            refine Rx.alloc (zs := [.int .i64 0, .int .i64 0, .slice none 0 0]) rfl rfl fun b10 => ?_
            refine Ax.back ?_
            refine Ax.one 6 (by kernel_rfl) rfl ?_
            -- first 6
            refine Rx.cal (caps := []) (plane_New (ns.getD 0 0) (ns.getD 1 0)) rfl rfl rfl fun v42 L42 hP42 => ?_
            obtain ⟨v42, rfl, rfl, ho42⟩ := hP42
            rw [← hyes2]
            refine Ax.back ?_
            refine Ax.one 8 (by kernel_rfl) rfl ?_
            -- first 8
            refine Rx.stc rfl rfl (by first | rfl | simp only [List.all_cons, List.all_nil, one_int, one_bool, one_str, one_ptr, one_slice, one_func, Bool.and_true, Bool.true_and, *]) (by rfl) ?_
            refine Ax.back ?_
            refine Ax.fin (by kernel_rfl) fun aa ww hzz => ⟨(b10, v42), ho42, hzz.to (.cons rfl (.cons rfl .nil))⟩
        refine Gx.seq ?_
        -- region 9
        refine Gx.region_tail 3 mixed (by kernel_rfl) ?_
        refine Dx.q rfl (.ldc rfl (by rfl)) ?_
        refine Dx.q rfl (.ldc rfl (by rfl)) ?_
        refine Dx.q rfl (.cal (caps := []) (plane_Right (sidesM s i) y.2) rfl rfl) ?_
        refine Dx.tail ?_
        refine Rx.stc rfl rfl (by first | rfl | simp only [List.all_cons, List.all_nil, one_int, one_bool, one_str, one_ptr, one_slice, one_func, Bool.and_true, Bool.true_and, *]) (by rfl) ?_
        refine Rx.q rfl (.assign rfl) ?_
        refine Rx.next ?_
        refine Gx.ret fun aa ww hzz => (fin_ct hzz rfl rfl (by rfl) rfl (⟨y.2, rfl, rfl, hy⟩))


theorem text_plane (b : Nat) (s : List UInt8) (i : Nat) (hs : s.length ≤ 4000000000) (hi : i ≤ s.length) : Spc Tryd.prog 56 [.pointer (some ⟨b, 0, none⟩)] [scn b s i] [lib] (fun u L => ∃ v p j ok, u = .tuple #[.agg (plC p v).toArray, .bool ok] ∧ L = [scn b s j, plS p v] ∧ v.oneCell' = true ∧ j ≤ s.length ∧ (ok = true ∧ planeM s i = some (p, j) ∨ ok = false ∧ planeM s i = none)) := by
  refine Spc.intro Tryd.func56 rfl Tryd.ntmps56 (by kernel_rfl) rfl rfl fun w0 F0 => ?_
  -- region 0
  refine Gx.seq_region ?_
  refine Rx.alloc (zs := [.int .i64 0, .int .i64 0, .slice none 0 0]) rfl rfl fun b2 => ?_
  refine Rx.q rfl (.assign rfl) ?_
  refine Rx.next ?_
  -- region 1
  refine Gx.seq_region ?_
  refine Rx.q rfl (.move rfl) ?_
  refine Rx.cal (caps := []) (text_sides b s i hs hi) rfl rfl rfl fun v13 L13 hP13 => ?_
  obtain ⟨v13, rfl, rfl, ho13⟩ := hP13
  have hb1 := lineN_le hi
  refine Rx.q rfl (.move rfl) ?_
  refine Rx.q rfl (.extract rfl rfl) ?_
  refine Rx.q rfl (.extract rfl rfl) ?_
  refine Rx.alloc (zs := [.int .i64 0, .int .i64 0, .slice none 0 0]) rfl rfl fun b4 => ?_
  refine Rx.stc rfl rfl (by first | rfl | simp only [List.all_cons, List.all_nil, one_int, one_bool, one_str, one_ptr, one_slice, one_func, Bool.and_true, Bool.true_and, *]) (by rfl) ?_
  refine Rx.q rfl (.assign rfl) ?_
  refine Rx.next ?_
  refine Gx.seq ?_
  -- region 2
  refine Gx.seq_region ?_
  refine Rx.q rfl (.move rfl) ?_
  refine Rx.q rfl (.not rfl) ?_
  refine Rx.next ?_
  refine Gx.cond rfl (fun h17 => ?_) (fun h17 => ?_)
  · -- way
    have h17 := bnot_t h17
    have hno : planeM s i = none := if_neg (by rw [h17]; simp)
    -- region 3
    refine Gx.seq_region ?_
    refine Rx.q rfl (.build (cs := [.int .i64 0, .int .i64 0, .slice none 0 0]) rfl rfl) ?_
    refine Rx.stc rfl rfl (by first | rfl | simp only [List.all_cons, List.all_nil, one_int, one_bool, one_str, one_ptr, one_slice, one_func, Bool.and_true, Bool.true_and, *]) (by rfl) ?_
    refine Rx.q rfl (.assign rfl) ?_
    refine Rx.next ?_
    refine Gx.nilS (e := 3) (sz := 1) ?_
    refine Gx.ret fun aa ww hzz => (then_ret (fin_ct (L1 := [scn b s (lineN s i), sl 3 1 (.slice none 0 0) 0 []]) hzz rfl rfl (by rfl) rfl (⟨_, ⟨0, 0, []⟩, _, _, rfl, rfl, rfl, hb1, .inr ⟨rfl, hno⟩⟩)))
  · -- way
    have h17 := bnot_f h17
    obtain ⟨hw, hh, hle⟩ := Pl.right_iff.1 h17
    have hyes : planeM s i = (rowsM s (sidesM s i).w (sidesM s i).h.toNat (lineN s i)).map fun r => (⟨(sidesM s i).w, (sidesM s i).h, r.1⟩, r.2) := if_pos h17
    have hsz := mul_sides hw hh
    have hlen : (sidesM s i).l.length = (sidesM s i).h.toNat * (sidesM s i).w.toNat := by
      have : (((sidesM s i).h.toNat * (sidesM s i).w.toNat : Nat) : Int) = (sidesM s i).w * (sidesM s i).h := by
        rw [Int.natCast_mul, Int.toNat_of_nonneg (by omega), Int.toNat_of_nonneg (by omega), Int.mul_comm]
      omega
    generalize hp0 : sidesM s i = p0 at *
    refine Gx.skip fun aa ww hzz => (then_normal (Gx.go hzz ?_))
    refine Gx.seq ?_
    -- region 4
    refine Gx.seq_region ?_
    refine Rx.q rfl (.fieldAddr rfl) ?_
    refine Rx.q rfl (.ld rfl rfl) ?_
    refine Rx.q rfl (.move rfl) ?_
    refine Rx.next ?_
    refine Gx.block ?_
    refine Gx.castL (L' := [pt b4 37 (plC p0 v13), scn b s (lineN s i), sl 3 1 v13 p0.l.length (intsV (([] : List Int) ++ p0.l.drop (0 * p0.w.toNat))), pt b2 37 [.int .i64 0, .int .i64 0, .slice none 0 0]]) (by simp) ?_
    refine Gx.lp (α := Nat × List Int × Nat) (fun x => x.1 ≤ p0.h.toNat ∧ x.2.1.length = x.1 * p0.w.toNat ∧ x.2.2 ≤ s.length ∧ rowsM s p0.w p0.h.toNat (lineN s i) = (rowsM s p0.w (p0.h.toNat - x.1) x.2.2).map fun r => (x.2.1 ++ r.1, r.2)) (fun x => p0.h.toNat - x.1) (fun x => [(0, .pointer (some ⟨b, 0, none⟩)), (2, .pointer (some ⟨b2, 0, none⟩)), (4, .pointer (some ⟨b4, 0, none⟩)), (20, .int .i64 p0.h), (21, .int .i64 x.1)])
      (fun x => [pt b4 37 (plC p0 v13), scn b s x.2.2, sl 3 1 v13 p0.l.length (intsV (x.2.1 ++ p0.l.drop (x.1 * p0.w.toNat))), pt b2 37 [.int .i64 0, .int .i64 0, .slice none 0 0]]) ((0, [], lineN s i)) (⟨Nat.zero_le _, by simp, hb1, by simp⟩) ?_ (fun x hx => ?_)
    · exact (.cons rfl (.cons rfl (.cons rfl (.cons rfl (.cons rfl .nil)))))
    obtain ⟨y, done, k⟩ := x
    obtain ⟨hy, hd, hk, hr⟩ := hx
    simp only at hy hd hk hr ⊢
    -- region 5
    refine Gx.seq_region ?_
    refine Rx.q rfl (.lss rfl rfl) ?_
    refine Rx.next ?_
    refine Gx.seq ?_
    refine Gx.cond rfl (fun h22 => ?_) (fun h22 => ?_)
    · -- way
      have h22 := of_decide_eq_true h22
      have hy2 : y < p0.h.toNat := by omega
      have hkl := lineL_le s k
      have hk2 := lineN_le hk
      have hstep : p0.h.toNat - y = (p0.h.toNat - (y + 1)) + 1 := by omega
      refine Gx.skip fun aa ww hzz => (then_normal (Gx.go hzz ?_))
      refine Gx.seq ?_
      refine Gx.block ?_
      -- region 6
      refine Gx.seq_region ?_
      refine Rx.q rfl (.move rfl) ?_
      refine Rx.q rfl (.assign rfl) ?_
      refine Rx.next ?_
      -- region 7
      refine Gx.seq_region ?_
      refine Rx.q rfl (.move rfl) ?_
      refine Rx.cal (caps := []) (text_line b s k hs hk) rfl rfl rfl fun v26 L26 hP26 => ?_
      obtain ⟨rfl, rfl⟩ := hP26
      refine Rx.q rfl (.move rfl) ?_
      refine Rx.q rfl (.extract rfl rfl) ?_
      refine Rx.q rfl (.extract rfl rfl) ?_
      refine Rx.q rfl (.assign rfl) ?_
      refine Rx.q rfl (.assign rfl) ?_
      refine Rx.next ?_
      -- region 8
      refine Gx.seq_region ?_
      refine Rx.q rfl (.move rfl) ?_
      refine Rx.q rfl (.fieldAddr rfl) ?_
      refine Rx.q rfl (.ld rfl rfl) ?_
      refine Rx.cal (caps := []) (text_numbers (lineL s k) p0.w (by omega)) rfl rfl rfl fun v33 L33 hP33 => ?_
      obtain ⟨v33, rfl, rfl, ho33⟩ := hP33
      refine Rx.q rfl (.move rfl) ?_
      refine Rx.q rfl (.extract rfl rfl) ?_
      refine Rx.q rfl (.extract rfl rfl) ?_
      refine Rx.q rfl (.assign rfl) ?_
      refine Rx.q rfl (.assign rfl) ?_
      refine Rx.next ?_
      refine Gx.seq ?_
      -- region 9
      refine Gx.seq_region ?_
      refine Rx.q rfl (.move rfl) ?_
      refine Rx.q rfl (.not rfl) ?_
      refine Rx.q rfl (.move rfl) ?_
      refine Rx.split 38 rfl (fun h38 => ?_) (fun h38 => ?_)
      · -- way
        have h38 := bnot_t h38
        have hno : planeM s i = none := by rw [hyes, hr, hstep, rowsM, h38]; rfl
        refine Rx.guard_no rfl rfl rfl rfl rfl ?_
        refine Rx.guard_no rfl rfl rfl rfl rfl ?_
        refine Rx.q rfl (.pick_t rfl rfl) ?_
        refine Rx.next ?_
        refine Gx.cond_t rfl ?_
        -- region 10
        refine Gx.seq_region ?_
        refine Rx.q rfl (.build (cs := [.int .i64 0, .int .i64 0, .slice none 0 0]) rfl rfl) ?_
        refine Rx.stc rfl rfl (by first | rfl | simp only [List.all_cons, List.all_nil, one_int, one_bool, one_str, one_ptr, one_slice, one_func, Bool.and_true, Bool.true_and, *]) (by rfl) ?_
        refine Rx.q rfl (.assign rfl) ?_
        refine Rx.next ?_
        refine Gx.nilS (e := 3) (sz := 1) ?_
        refine Gx.ret fun aa ww hzz => (then_ret (blk_ret (then_ret (then_ret (blk_ret (then_ret (fin_ct (L1 := [scn b s (lineN s k), sl 3 1 (.slice none 0 0) 0 []]) hzz rfl rfl (by rfl) rfl (⟨_, ⟨0, 0, []⟩, _, _, rfl, rfl, rfl, hk2, .inr ⟨rfl, hno⟩⟩))))))))
      · -- way
        have h38 := bnot_f h38
        refine Rx.guard_yes rfl rfl rfl (Rx.q rfl (.move rfl) ?_)
        refine Rx.guard_yes rfl rfl rfl (Rx.q rfl (.not rfl) ?_)
        refine Rx.q rfl (.pick_f rfl rfl) ?_
        refine Rx.next ?_
        refine Gx.cond rfl (fun h41 => ?_) (fun h41 => ?_)
        · -- way
          have h41 := bnot_t h41
          have hno : planeM s i = none := by
            rw [hyes, hr, hstep, rowsM, h38]
            have : numsM (lineL s k) p0.w = none := by simpa using h41
            rw [this]; rfl
          -- region 10
          refine Gx.seq_region ?_
          refine Rx.q rfl (.build (cs := [.int .i64 0, .int .i64 0, .slice none 0 0]) rfl rfl) ?_
          refine Rx.stc rfl rfl (by first | rfl | simp only [List.all_cons, List.all_nil, one_int, one_bool, one_str, one_ptr, one_slice, one_func, Bool.and_true, Bool.true_and, *]) (by rfl) ?_
          refine Rx.q rfl (.assign rfl) ?_
          refine Rx.next ?_
          refine Gx.nilS (e := 3) (sz := 1) ?_
          refine Gx.ret fun aa ww hzz => (then_ret (blk_ret (then_ret (then_ret (blk_ret (then_ret (fin_ct (L1 := [scn b s (lineN s k), sl 3 1 (.slice none 0 0) 0 []]) hzz rfl rfl (by rfl) rfl (⟨_, ⟨0, 0, []⟩, _, _, rfl, rfl, rfl, hk2, .inr ⟨rfl, hno⟩⟩))))))))
        · -- way
          have h41 := bnot_f h41
          obtain ⟨ns, hn⟩ := Option.isSome_iff_exists.1 h41
          have hnl := numsM_length hn
          rw [hn, Option.getD_some]
          have e1 : ((y * p0.w.toNat : Nat) : Int) = y * p0.w := by rw [Int.natCast_mul, Int.toNat_of_nonneg (by omega)]
          have e2 : (y + 1) * p0.w.toNat ≤ p0.l.length := by rw [hlen]; exact Nat.mul_le_mul_right _ hy2
          have e3 := e2
          rw [Nat.succ_mul] at e3
          refine Gx.skip fun aa ww hzz => (then_normal (Gx.go hzz ?_))
          -- region 11
          refine Gx.region ?_
          refine Rx.q rfl (.fieldAddr rfl) ?_
          refine Rx.q rfl (.ld rfl rfl) ?_
          refine Rx.q rfl (.move rfl) ?_
          refine Rx.q rfl (.fieldAddr rfl) ?_
          refine Rx.q rfl (.ld rfl rfl) ?_
          refine Rx.q rfl (.mul_ rfl rfl (by omega)) ?_
          refine Rx.q rfl (.sub_l (l := y * p0.w.toNat) rfl rfl e1.symm (by omega)) ?_
          refine Rx.q rfl (.move rfl) ?_
          refine Rx.copy (a := y * p0.w.toNat) (m := ns.length) (ys := intsV ns) rfl rfl ⟨rfl, rfl⟩ (by omega) (by simp) (one_ints _) rfl ?_
          rw [copy_step done p0.l ns hd (by omega) (by rw [Nat.succ_mul]; omega : y * p0.w.toNat + ns.length = (y + 1) * p0.w.toNat)]
          refine Rx.nil fun aa ww hzz => (blk_normal (then_normal (Gx.go hzz ?_)))
          -- region 12
          refine Gx.region ?_
          refine Rx.q rfl (.add_ rfl rfl (by omega)) ?_
          refine Rx.q rfl (.move rfl) ?_
          have hr2 : rowsM s p0.w p0.h.toNat (lineN s i) = (rowsM s p0.w (p0.h.toNat - (y + 1)) (lineN s k)).map fun r => (done ++ ns ++ r.1, r.2) := by
            rw [hr, hstep, rowsM, h38, hn]
            simp only [Option.map_map]
            congr 1; funext r; simp
          refine Rx.nil fun aa ww hzz => (then_normal ⟨(y + 1, done ++ ns, lineN s k), ⟨by simp only; omega, by simp only [List.length_append, hd, Nat.succ_mul]; omega, hk2, hr2⟩, (by simp only; omega), hzz.to (.cons rfl (.cons rfl (.cons rfl (.cons rfl (.cons rfl .nil)))))⟩)
    · -- way
      have h22 := of_decide_eq_false h22
      obtain rfl : y = p0.h.toNat := by omega
      have hfin : planeM s i = some (⟨p0.w, p0.h, done⟩, k) := by rw [hyes, hr, Nat.sub_self, rowsM]; simp
      have hdl : done.length = p0.l.length := by rw [hd, hlen]
      rw [← hlen, List.drop_length, List.append_nil, ← hdl]
      refine Gx.exit fun aa ww hzz => (then_exit (then_exit (blk_exit (then_normal (Gx.go hzz ?_)))))
      -- region 13
      refine Gx.seq_region ?_
      refine Rx.q rfl (.ldc rfl (by rfl)) ?_
      refine Rx.stc rfl rfl (by first | rfl | simp only [List.all_cons, List.all_nil, one_int, one_bool, one_str, one_ptr, one_slice, one_func, Bool.and_true, Bool.true_and, *]) (by rfl) ?_
      refine Rx.q rfl (.assign rfl) ?_
      refine Rx.next ?_
      refine Gx.ret fun aa ww hzz => (fin_ct hzz rfl rfl (by rfl) rfl (⟨v13, ⟨p0.w, p0.h, done⟩, k, _, rfl, rfl, ho13, hk, .inl ⟨rfl, hfin⟩⟩))

end Go.Proofs.YtoiebfpafdcbmaaDoor
