/- Contracts of the document's answer for texts: numbers, planes, frames, pictures. -/
import Derived.Test.YtoiebfpafdcbmaaDoorPX
import Derived.Test.YtoiebfpafdcbmaaDoorL1
import Derived.Test.YtoiebfpafdcbmaaDoorKp
namespace Go.Proofs.YtoiebfpafdcbmaaDoor
open Go Go.RowKit K
set_option linter.unusedVariables false
set_option linter.unusedSimpArgs false

theorem ref38_Num (n : Int) (hn : i64 n) : Spc Tryd.prog 54 [.int .i64 n] [] [] (ret (str (Lib.itoa n))) := by
  refine Spc.intro Tryd.func54 rfl Tryd.ntmps54 (by kernel_rfl) rfl rfl fun w0 F0 => ?_
  have hn' := hn
  unfold i64 at hn'
  have hL : (Lib.decDigits n.natAbs).length ≤ 21 := by
    have := itoa_le hn
    rw [itoa_abs] at this
    split at this
    · simp only [List.length_cons] at this; omega
    · exact this
  -- region 0
  refine Gx.seq_region ?_
  refine Rx.q rfl (.assign rfl) ?_
  refine Rx.next ?_
  -- region 1
  refine Gx.seq_region ?_
  refine Rx.q rfl (.assign rfl) ?_
  refine Rx.next ?_
  -- region 2
  refine Gx.seq_region ?_
  refine Rx.q rfl (.move rfl) ?_
  refine Rx.q rfl (.lss rfl rfl) ?_
  refine Rx.q rfl (.assign rfl) ?_
  refine Rx.next ?_
  refine Gx.seq ?_
  refine Gx.block ?_
  refine Gx.lp (α := Int × List UInt8 × Int) (fun x => (-9223372036854775808 ≤ x.1 ∧ x.1 ≤ 9223372036854775807) ∧ Lib.decDigits n.natAbs = Lib.decDigits x.1.natAbs ++ x.2.1) (fun x => x.1.natAbs) (fun x => [(0, .int .i64 x.1), (3, str x.2.1), (4, .bool (decide (n < 0)))])
    (fun x => []) ((n, [], 0)) (⟨by omega, by simp⟩) ?_ (fun x hx => ?_)
  · exact (.cons rfl (.cons rfl (.cons rfl .nil)))
  obtain ⟨m, s, dd⟩ := x
  obtain ⟨hm, hs⟩ := hx
  simp only at hm hs ⊢
  have hd1 := tmod_abs m
  have hd2 := tdiv_abs m
  have hd3 : m.natAbs % 10 < 10 := Nat.mod_lt _ (by decide)
  have hl : s.length ≤ 21 := by
    have h1 := congrArg List.length hs
    rw [List.length_append] at h1; omega
  refine Gx.block ?_
  -- region 3
  refine Gx.seq_region ?_
  refine Rx.q rfl (.move rfl) ?_
  refine Rx.q rfl (.rem rfl rfl (by decide)) ?_
  refine Rx.q rfl (.assign rfl) ?_
  refine Rx.next ?_
  refine Gx.seq ?_
  -- region 4
  refine Gx.seq_region ?_
  refine Rx.q rfl (.move rfl) ?_
  refine Rx.q rfl (.lss rfl rfl) ?_
  refine Rx.next ?_
  refine Gx.cond rfl (fun h11 => ?_) (fun h11 => ?_)
  · -- way
    have h11 := of_decide_eq_true h11
    -- region 5
    refine Gx.region ?_
    refine Rx.q rfl (.move rfl) ?_
    refine Rx.q rfl ((OpQ.neg_ rfl (by omega)).val (u := .int .i64 ((m.natAbs % 10 : Nat) : Int)) (by congr 1; omega)) ?_
    refine Rx.q rfl (.assign rfl) ?_
    refine Rx.next ?_
    -- region 6
    refine Gx.seq_region ?_
    refine Rx.q rfl (.move rfl) ?_
    refine Rx.q rfl (.move rfl) ?_
    refine Rx.q rfl (.add_ rfl rfl (by omega)) ?_
    refine Rx.q rfl ((OpQ.sub_slh (p := digitsS) (l := m.natAbs % 10) (h := m.natAbs % 10 + 1) rfl rfl rfl rfl rfl ⟨by omega, by show _ ≤ 10; omega⟩).val (u := str [UInt8.ofNat (48 + m.natAbs % 10)]) (congrArg str (digit_sub hd3))) ?_
    refine Rx.q rfl (.move rfl) ?_
    refine Rx.q rfl (.cat_s rfl rfl (by first | omega | (simp only [List.length_append, List.length_cons, List.length_nil]; omega))) ?_
    refine Rx.q rfl (.assign rfl) ?_
    refine Rx.next ?_
    -- region 7
    refine Gx.seq_region ?_
    refine Rx.q rfl (.move rfl) ?_
    refine Rx.q rfl ((OpQ.quo rfl rfl (by decide)).val (u := .int .i64 (m.tdiv 10)) (by congr 1; exact wrap_in (by omega))) ?_
    refine Rx.q rfl (.assign rfl) ?_
    refine Rx.next ?_
    -- region 8
    refine Gx.seq_region ?_
    refine Rx.q rfl (.move rfl) ?_
    refine Rx.q rfl (.eql rfl rfl) ?_
    refine Rx.next ?_
    refine Gx.cond rfl (fun h23 => ?_) (fun h23 => ?_)
    · -- way
      have h23 := of_decide_eq_true h23
      have hfin : [UInt8.ofNat (48 + m.natAbs % 10)] ++ s = Lib.decDigits n.natAbs := by
        rw [hs, Lib.decDigits, dif_pos (by omega), Nat.mod_eq_of_lt (by omega)]
      rw [hfin]
      refine Gx.exit fun aa ww hzz => (blk_pass rfl (then_exit (blk_exit (then_normal (Gx.go hzz ?_)))))
      refine Gx.seq ?_
      -- region 9
      refine Gx.seq_region ?_
      refine Rx.q rfl (.move rfl) ?_
      refine Rx.next ?_
      refine Gx.cond rfl (fun h24 => ?_) (fun h24 => ?_)
      · -- way
        -- region 10
        refine Gx.seq_region ?_
        refine Rx.q rfl (.move rfl) ?_
        refine Rx.q rfl (.cat_s rfl rfl (by first | omega | (simp only [List.length_append, List.length_cons, List.length_nil]; omega))) ?_
        refine Rx.q rfl (.assign rfl) ?_
        refine Rx.next ?_
        refine Gx.ret fun aa ww hzz => (then_ret (fin_tmp hzz rfl rfl (by rw [itoa_abs, if_pos (of_decide_eq_true h24)]; exact ⟨rfl, rfl⟩)))
      · -- way
        refine Gx.skip fun aa ww hzz => (then_normal (Gx.go hzz ?_))
        -- region 11
        refine Gx.seq_region ?_
        refine Rx.q rfl (.move rfl) ?_
        refine Rx.q rfl (.assign rfl) ?_
        refine Rx.next ?_
        refine Gx.ret fun aa ww hzz => (fin_tmp hzz rfl rfl (by rw [itoa_abs, if_neg (of_decide_eq_false h24)]; exact ⟨rfl, rfl⟩))
    · -- way
      have h23 := of_decide_eq_false h23
      have hnx : Lib.decDigits n.natAbs = Lib.decDigits (m.tdiv 10).natAbs ++ ([UInt8.ofNat (48 + m.natAbs % 10)] ++ s) := by
        rw [hs, tdiv_abs, dec_step (by omega), List.append_assoc]
      refine Gx.skip fun aa ww hzz => (blk_normal (then_normal ⟨(m.tdiv 10, [UInt8.ofNat (48 + m.natAbs % 10)] ++ s, 0), ⟨by show -9223372036854775808 ≤ m.tdiv 10 ∧ m.tdiv 10 ≤ 9223372036854775807; omega, hnx⟩, by show (m.tdiv 10).natAbs < m.natAbs; omega, hzz.to (.cons rfl (.cons rfl (.cons rfl .nil)))⟩))
  · -- way
    have h11 := of_decide_eq_false h11
    have e9 : m.tmod 10 = ((m.natAbs % 10 : Nat) : Int) := by omega
    rw [e9]
    refine Gx.skip fun aa ww hzz => (then_normal (Gx.go hzz ?_))
    -- region 6
    refine Gx.seq_region ?_
    refine Rx.q rfl (.move rfl) ?_
    refine Rx.q rfl (.move rfl) ?_
    refine Rx.q rfl (.add_ rfl rfl (by omega)) ?_
    refine Rx.q rfl ((OpQ.sub_slh (p := digitsS) (l := m.natAbs % 10) (h := m.natAbs % 10 + 1) rfl rfl rfl rfl rfl ⟨by omega, by show _ ≤ 10; omega⟩).val (u := str [UInt8.ofNat (48 + m.natAbs % 10)]) (congrArg str (digit_sub hd3))) ?_
    refine Rx.q rfl (.move rfl) ?_
    refine Rx.q rfl (.cat_s rfl rfl (by first | omega | (simp only [List.length_append, List.length_cons, List.length_nil]; omega))) ?_
    refine Rx.q rfl (.assign rfl) ?_
    refine Rx.next ?_
    -- region 7
    refine Gx.seq_region ?_
    refine Rx.q rfl (.move rfl) ?_
    refine Rx.q rfl ((OpQ.quo rfl rfl (by decide)).val (u := .int .i64 (m.tdiv 10)) (by congr 1; exact wrap_in (by omega))) ?_
    refine Rx.q rfl (.assign rfl) ?_
    refine Rx.next ?_
    -- region 8
    refine Gx.seq_region ?_
    refine Rx.q rfl (.move rfl) ?_
    refine Rx.q rfl (.eql rfl rfl) ?_
    refine Rx.next ?_
    refine Gx.cond rfl (fun h23 => ?_) (fun h23 => ?_)
    · -- way
      have h23 := of_decide_eq_true h23
      have hfin : [UInt8.ofNat (48 + m.natAbs % 10)] ++ s = Lib.decDigits n.natAbs := by
        rw [hs, Lib.decDigits, dif_pos (by omega), Nat.mod_eq_of_lt (by omega)]
      rw [hfin]
      refine Gx.exit fun aa ww hzz => (blk_pass rfl (then_exit (blk_exit (then_normal (Gx.go hzz ?_)))))
      refine Gx.seq ?_
      -- region 9
      refine Gx.seq_region ?_
      refine Rx.q rfl (.move rfl) ?_
      refine Rx.next ?_
      refine Gx.cond rfl (fun h24 => ?_) (fun h24 => ?_)
      · -- way
        -- region 10
        refine Gx.seq_region ?_
        refine Rx.q rfl (.move rfl) ?_
        refine Rx.q rfl (.cat_s rfl rfl (by first | omega | (simp only [List.length_append, List.length_cons, List.length_nil]; omega))) ?_
        refine Rx.q rfl (.assign rfl) ?_
        refine Rx.next ?_
        refine Gx.ret fun aa ww hzz => (then_ret (fin_tmp hzz rfl rfl (by rw [itoa_abs, if_pos (of_decide_eq_true h24)]; exact ⟨rfl, rfl⟩)))
      · -- way
        refine Gx.skip fun aa ww hzz => (then_normal (Gx.go hzz ?_))
        -- region 11
        refine Gx.seq_region ?_
        refine Rx.q rfl (.move rfl) ?_
        refine Rx.q rfl (.assign rfl) ?_
        refine Rx.next ?_
        refine Gx.ret fun aa ww hzz => (fin_tmp hzz rfl rfl (by rw [itoa_abs, if_neg (of_decide_eq_false h24)]; exact ⟨rfl, rfl⟩))
    · -- way
      have h23 := of_decide_eq_false h23
      have hnx : Lib.decDigits n.natAbs = Lib.decDigits (m.tdiv 10).natAbs ++ ([UInt8.ofNat (48 + m.natAbs % 10)] ++ s) := by
        rw [hs, tdiv_abs, dec_step (by omega), List.append_assoc]
      refine Gx.skip fun aa ww hzz => (blk_normal (then_normal ⟨(m.tdiv 10, [UInt8.ofNat (48 + m.natAbs % 10)] ++ s, 0), ⟨by show -9223372036854775808 ≤ m.tdiv 10 ∧ m.tdiv 10 ≤ 9223372036854775807; omega, hnx⟩, by show (m.tdiv 10).natAbs < m.natAbs; omega, hzz.to (.cons rfl (.cons rfl (.cons rfl .nil)))⟩))

end Go.Proofs.YtoiebfpafdcbmaaDoor
