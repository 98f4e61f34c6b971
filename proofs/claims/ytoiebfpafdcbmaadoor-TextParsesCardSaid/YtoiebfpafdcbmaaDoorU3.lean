/- Contracts of the document's answer for texts: a number that is next. -/
import Derived.Test.YtoiebfpafdcbmaaDoorU2
import Derived.Test.YtoiebfpafdcbmaaDoorPY
namespace Go.Proofs.YtoiebfpafdcbmaaDoor
open Go Go.RowKit K
set_option linter.unusedVariables false
set_option linter.unusedSimpArgs false

theorem wrap_u8 {p : Int} (h : 0 ≤ p ∧ p < 256) : IntKind.u8.wrap p = p := by
  have : IntKind.u8.wrap p = p % 256 := rfl
  omega
/-- A reader at block b. -/
abbrev rdr (b : Nat) (s : List UInt8) (i : Nat) : As := pt b 51 [str s, .int .i64 i]
abbrev digsAt (s : List UInt8) (i k : Nat) : List UInt8 := (s.drop (fromN s i)).take k

theorem ref38_number (b : Nat) (s : List UInt8) (i : Nat) (e : UInt8) (hs : s.length ≤ 4000000000) (hi : i ≤ s.length) (he : e.toNat < 45) : Spc Tryd.prog 57 [.pointer (some ⟨b, 0, none⟩), .int .u8 e.toNat] [rdr b s i] [] (fun u L => ∃ n j ok, u = .tuple #[.int .i64 n, .bool ok] ∧ L = [rdr b s j] ∧ (ok = true ∧ NumAt s i e n j ∨ ok = false ∧ n = 0 ∧ j = i ∧ ∀ n' j', ¬ NumAt s i e n' j')) := by
  refine Spc.intro Tryd.func57 rfl Tryd.ntmps57 (by kernel_rfl) rfl rfl fun w0 F0 => ?_
  have hfl := from_le hi
  -- region 0
  refine Gx.seq_region ?_
  refine Rx.q rfl (.assign rfl) ?_
  refine Rx.q rfl (.assign rfl) ?_
  refine Rx.next ?_
  -- region 1
  refine Gx.seq_region ?_
  refine Rx.q rfl (.assign rfl) ?_
  refine Rx.next ?_
  -- region 2
  refine Gx.seq_region ?_
  refine Rx.q rfl (.move rfl) ?_
  refine Rx.q rfl (.nilCheck rfl) ?_
  refine Rx.q rfl (.fieldAddr rfl) ?_
  refine Rx.q rfl (.ld rfl rfl) ?_
  refine Rx.q rfl (.assign rfl) ?_
  refine Rx.next ?_
  refine Gx.join (α := Bool) (fun y => y = minusB s i) (fun y => [(0, .pointer (some ⟨b, 0, none⟩)), (1, .int .u8 e.toNat), (6, .int .i64 0), (7, .int .i64 i), (8, .bool y)]) (fun y => [rdr b s i]) ?_ (fun y hy => ?_)
  · -- region 3
    refine Gx.region ?_
    refine Rx.q rfl (.move rfl) ?_
    refine Rx.q rfl (.move rfl) ?_
    refine Rx.q rfl (.nilCheck rfl) ?_
    refine Rx.q rfl (.fieldAddr rfl) ?_
    refine Rx.q rfl (.ld rfl rfl) ?_
    refine Rx.q rfl (.len_s rfl) ?_
    refine Rx.q rfl (.lss rfl rfl) ?_
    refine Rx.q rfl (.move rfl) ?_
    refine Rx.split 22 rfl (fun h22 => ?_) (fun h22 => ?_)
    · -- way
      have h22 := of_decide_eq_true h22
      refine Rx.guard_yes rfl rfl rfl (Rx.q rfl (.move rfl) ?_)
      refine Rx.guard_yes rfl rfl rfl (Rx.q rfl (.nilCheck rfl) ?_)
      refine Rx.guard_yes rfl rfl rfl (Rx.q rfl (.fieldAddr rfl) ?_)
      refine Rx.guard_yes rfl rfl rfl (Rx.q rfl (.ld rfl rfl) ?_)
      refine Rx.guard_yes rfl rfl rfl (Rx.q rfl (.move rfl) ?_)
      refine Rx.guard_yes rfl rfl rfl (Rx.q rfl (.idx_s (p := s) (j := i) rfl rfl (by omega) (by simp)) ?_)
      refine Rx.guard_yes rfl rfl rfl (Rx.q rfl (.eql rfl rfl) ?_)
      refine Rx.q rfl (.pick_t rfl rfl) ?_
      refine Rx.q rfl (.assign rfl) ?_
      refine Rx.nil fun aa ww hzz => (then_normal ⟨decide (((s.getD i 0).toNat : Int) = 45), by simp only [minusB]; rw [decide_eq_true (show i < s.length by omega), Bool.true_and]; exact decide_eq_decide.2 (by omega), hzz.to (.cons rfl (.cons rfl (.cons rfl (.cons rfl (.cons rfl .nil)))))⟩)
    · -- way
      have h22 := of_decide_eq_false h22
      refine Rx.guard_no rfl rfl rfl rfl rfl ?_
      refine Rx.guard_no rfl rfl rfl rfl rfl ?_
      refine Rx.guard_no rfl rfl rfl rfl rfl ?_
      refine Rx.guard_no rfl rfl rfl rfl rfl ?_
      refine Rx.guard_no rfl rfl rfl rfl rfl ?_
      refine Rx.guard_no rfl rfl rfl rfl rfl ?_
      refine Rx.guard_no rfl rfl rfl rfl rfl ?_
      refine Rx.q rfl (.pick_f rfl rfl) ?_
      refine Rx.q rfl (.assign rfl) ?_
      refine Rx.nil fun aa ww hzz => (then_normal ⟨false, by simp only [minusB]; rw [decide_eq_false (show ¬ i < s.length by omega), Bool.false_and], hzz.to (.cons rfl (.cons rfl (.cons rfl (.cons rfl (.cons rfl .nil)))))⟩)
  subst hy
  refine Gx.join (α := Nat) (fun y => y = fromN s i) (fun y => [(0, .pointer (some ⟨b, 0, none⟩)), (1, .int .u8 e.toNat), (6, .int .i64 0), (7, .int .i64 y), (8, .bool (minusB s i))]) (fun y => [rdr b s i]) ?_ (fun y hy => ?_)
  · -- region 4
    refine Gx.seq_region ?_
    refine Rx.q rfl (.move rfl) ?_
    refine Rx.next ?_
    refine Gx.cond rfl (fun h31 => ?_) (fun h31 => ?_)
    · -- way
      -- region 5
      refine Gx.region ?_
      refine Rx.q rfl (.move rfl) ?_
      refine Rx.q rfl (.add_ rfl rfl (by omega)) ?_
      refine Rx.q rfl (.assign rfl) ?_
      refine Rx.nil fun aa ww hzz => (then_normal ⟨i + 1, by rw [fromN, if_pos h31], hzz.to (.cons rfl (.cons rfl (.cons rfl (.cons rfl (.cons rfl .nil)))))⟩)
    · -- way
      refine Gx.skip fun aa ww hzz => (then_normal ⟨i, by rw [fromN, if_neg (by rw [h31]; simp)], hzz.to (.cons rfl (.cons rfl (.cons rfl (.cons rfl (.cons rfl .nil)))))⟩)
  subst hy
  -- region 6
  refine Gx.seq_region ?_
  refine Rx.q rfl (.move rfl) ?_
  refine Rx.q rfl (.assign rfl) ?_
  refine Rx.next ?_
  refine Gx.join (α := Nat) (fun k => Digs s (fromN s i) k ∧ dval (digsAt s i k) ≤ 9223372036854775808 ∧ (fromN s i + k < s.length → ¬ digB (s.getD (fromN s i + k) 0))) (fun k => [(0, .pointer (some ⟨b, 0, none⟩)), (1, .int .u8 e.toNat), (6, .int .i64 (-(dval (digsAt s i k) : Int))), (7, .int .i64 (fromN s i + k : Nat)), (8, .bool (minusB s i)), (9, .int .i64 (fromN s i))]) (fun k => [rdr b s i]) ?_ (fun y hy => ?_)
  · refine Gx.block ?_
    refine Gx.lp (α := Nat) (fun k => Digs s (fromN s i) k ∧ dval (digsAt s i k) ≤ 9223372036854775808) (fun k => s.length - (fromN s i + k)) (fun k => [(0, .pointer (some ⟨b, 0, none⟩)), (1, .int .u8 e.toNat), (6, .int .i64 (-(dval (digsAt s i k) : Int))), (7, .int .i64 (fromN s i + k : Nat)), (8, .bool (minusB s i)), (9, .int .i64 (fromN s i))])
      (fun k => [rdr b s i]) (0) (⟨Digs.zero hfl, Nat.zero_le _⟩) ?_ (fun k hx => ?_)
    · exact (.cons rfl (.cons rfl (.cons rfl (.cons rfl (.cons rfl (.cons rfl .nil))))))
    obtain ⟨hD, hv⟩ := hx
    have hle := hD.le
    refine Gx.seq ?_
    -- region 7
    refine Gx.seq_region ?_
    refine Rx.q rfl (.move rfl) ?_
    refine Rx.q rfl (.move rfl) ?_
    refine Rx.q rfl (.nilCheck rfl) ?_
    refine Rx.q rfl (.fieldAddr rfl) ?_
    refine Rx.q rfl (.ld rfl rfl) ?_
    refine Rx.q rfl (.len_s rfl) ?_
    refine Rx.q rfl (.lss rfl rfl) ?_
    refine Rx.q rfl (.move rfl) ?_
    refine Rx.split 42 rfl (fun h42 => ?_) (fun h42 => ?_)
    · -- way
      have h42 := of_decide_eq_true h42
      refine Rx.guard_yes rfl rfl rfl (Rx.q rfl (.move rfl) ?_)
      refine Rx.guard_yes rfl rfl rfl (Rx.q rfl (.nilCheck rfl) ?_)
      refine Rx.guard_yes rfl rfl rfl (Rx.q rfl (.fieldAddr rfl) ?_)
      refine Rx.guard_yes rfl rfl rfl (Rx.q rfl (.ld rfl rfl) ?_)
      refine Rx.guard_yes rfl rfl rfl (Rx.q rfl (.move rfl) ?_)
      refine Rx.guard_yes rfl rfl rfl (Rx.q rfl (.idx_s (p := s) (j := fromN s i + k) rfl rfl (by omega) (Int.toNat_natCast _)) ?_)
      refine Rx.guard_yes rfl rfl rfl (Rx.q rfl (.geq rfl rfl) ?_)
      refine Rx.q rfl (.pick_t rfl rfl) ?_
      refine Rx.q rfl (.move rfl) ?_
      refine Rx.split 51 rfl (fun h51 => ?_) (fun h51 => ?_)
      · -- way
        have h51 := of_decide_eq_true h51
        refine Rx.guard_yes rfl rfl rfl (Rx.q rfl (.move rfl) ?_)
        refine Rx.guard_yes rfl rfl rfl (Rx.q rfl (.nilCheck rfl) ?_)
        refine Rx.guard_yes rfl rfl rfl (Rx.q rfl (.fieldAddr rfl) ?_)
        refine Rx.guard_yes rfl rfl rfl (Rx.q rfl (.ld rfl rfl) ?_)
        refine Rx.guard_yes rfl rfl rfl (Rx.q rfl (.move rfl) ?_)
        refine Rx.guard_yes rfl rfl rfl (Rx.q rfl (.idx_s (p := s) (j := fromN s i + k) rfl rfl (by omega) (Int.toNat_natCast _)) ?_)
        refine Rx.guard_yes rfl rfl rfl (Rx.q rfl (.leq rfl rfl) ?_)
        refine Rx.q rfl (.pick_t rfl rfl) ?_
        refine Rx.next ?_
        refine Gx.cond rfl (fun h59 => ?_) (fun h59 => ?_)
        · -- way
          have h59 := of_decide_eq_true h59
          have hl : fromN s i + k < s.length := by omega
          have hdig : digB (s.getD (fromN s i + k) 0) := ⟨by omega, by omega⟩
          have hsn : dval (digsAt s i (k + 1)) = dval (digsAt s i k) * 10 + ((s.getD (fromN s i + k) 0).toNat - 48) := by rw [digsAt, take_next hl, dval_snoc]
          unfold digB at hdig
          refine Gx.skip fun aa ww hzz => (then_normal (Gx.go hzz ?_))
          refine Gx.block ?_
          -- region 8
          refine Gx.seq_region ?_
          refine Rx.q rfl (.move rfl) ?_
          refine Rx.q rfl (.nilCheck rfl) ?_
          refine Rx.q rfl (.fieldAddr rfl) ?_
          refine Rx.q rfl (.ld rfl rfl) ?_
          refine Rx.q rfl (.move rfl) ?_
          refine Rx.q rfl (.idx_s (p := s) (j := fromN s i + k) rfl rfl (by omega) (Int.toNat_natCast _)) ?_
          refine Rx.q rfl ((OpQ.sub rfl rfl).val (u := .int .u8 (((s.getD (fromN s i + k) 0).toNat : Int) - 48)) (by congr 1; exact wrap_u8 (by omega))) ?_
          refine Rx.q rfl ((OpQ.convert rfl).val (u := .int .i64 (((s.getD (fromN s i + k) 0).toNat : Int) - 48)) (by congr 1; exact wrap_in (by omega))) ?_
          refine Rx.q rfl (.assign rfl) ?_
          refine Rx.next ?_
          refine Gx.seq ?_
          -- region 9
          refine Gx.seq_region ?_
          refine Rx.q rfl (.move rfl) ?_
          refine Rx.q rfl (.lss rfl rfl) ?_
          refine Rx.q rfl (.move rfl) ?_
          refine Rx.split 70 rfl (fun h70 => ?_) (fun h70 => ?_)
          · -- way
            have h70 := of_decide_eq_true h70
            have hno : ∀ n' j', ¬ NumAt s i e n' j' := num_over he (hD.succ hl hdig) (by show _ < dval (digsAt s i (k + 1)); omega)
            refine Rx.guard_no rfl rfl rfl rfl rfl ?_
            refine Rx.guard_no rfl rfl rfl rfl rfl ?_
            refine Rx.guard_no rfl rfl rfl rfl rfl ?_
            refine Rx.guard_un rfl rfl rfl rfl ?_
            refine Rx.guard_un rfl rfl rfl rfl ?_
            refine Rx.guard_no rfl rfl rfl rfl rfl ?_
            refine Rx.q rfl (.pick_t rfl rfl) ?_
            refine Rx.next ?_
            refine Gx.cond_t rfl ?_
            -- region 10
            refine Gx.seq_region ?_
            refine Rx.q rfl (.assign rfl) ?_
            refine Rx.q rfl (.assign rfl) ?_
            refine Rx.next ?_
            refine Gx.ret fun aa ww hzz => (then_ret (blk_ret (then_ret (blk_ret (then_ret (fin_two hzz rfl rfl rfl (⟨_, _, _, rfl, rfl, .inr ⟨rfl, rfl, rfl, hno⟩⟩)))))))
          · -- way
            have h70 := of_decide_eq_false h70
            refine Rx.guard_yes rfl rfl rfl (Rx.q rfl (.move rfl) ?_)
            refine Rx.guard_yes rfl rfl rfl (Rx.q rfl (.eql rfl rfl) ?_)
            refine Rx.guard_yes rfl rfl rfl (Rx.q rfl (.move rfl) ?_)
            refine Rx.split 73 rfl (fun h73 => ?_) (fun h73 => ?_)
            · -- way
              have h73 := of_decide_eq_true h73
              refine Rx.guard_yes rfl rfl rfl (Rx.q rfl (.move rfl) ?_)
              refine Rx.guard_yes rfl rfl rfl (Rx.q rfl (.gtr rfl rfl) ?_)
              refine Rx.guard_yes rfl rfl rfl (Rx.q rfl (.pick_t rfl rfl) ?_)
              refine Rx.q rfl (.pick_f rfl rfl) ?_
              refine Rx.next ?_
              refine Gx.cond rfl (fun h77 => ?_) (fun h77 => ?_)
              · -- way
                have h77 := of_decide_eq_true h77
                have hno : ∀ n' j', ¬ NumAt s i e n' j' := num_over he (hD.succ hl hdig) (by show _ < dval (digsAt s i (k + 1)); omega)
                -- region 10
                refine Gx.seq_region ?_
                refine Rx.q rfl (.assign rfl) ?_
                refine Rx.q rfl (.assign rfl) ?_
                refine Rx.next ?_
                refine Gx.ret fun aa ww hzz => (then_ret (blk_ret (then_ret (blk_ret (then_ret (fin_two hzz rfl rfl rfl (⟨_, _, _, rfl, rfl, .inr ⟨rfl, rfl, rfl, hno⟩⟩)))))))
              · -- way
                have h77 := of_decide_eq_false h77
                refine Gx.skip fun aa ww hzz => (then_normal (Gx.go hzz ?_))
                -- region 11
                refine Gx.seq_region ?_
                refine Rx.q rfl (.move rfl) ?_
                refine Rx.q rfl (.mul_ rfl rfl (by omega)) ?_
                refine Rx.q rfl (.move rfl) ?_
                refine Rx.q rfl ((OpQ.sub_ rfl rfl (by omega)).val (u := .int .i64 (-(dval (digsAt s i (k + 1)) : Int))) (by congr 1; omega)) ?_
                refine Rx.q rfl (.assign rfl) ?_
                refine Rx.next ?_
                -- region 12
                refine Gx.region ?_
                refine Rx.q rfl (.move rfl) ?_
                refine Rx.q rfl (.add_ rfl rfl (by omega)) ?_
                refine Rx.q rfl (.assign rfl) ?_
                refine Rx.nil fun aa ww hzz => (blk_normal (then_normal ⟨k + 1, ⟨hD.succ hl hdig, by omega⟩, (by omega), hzz.to (.cons rfl (.cons rfl (.cons rfl (.cons rfl (.cons rfl (.cons rfl .nil))))))⟩))
            · -- way
              have h73 := of_decide_eq_false h73
              refine Rx.guard_no rfl rfl rfl rfl rfl ?_
              refine Rx.guard_no rfl rfl rfl rfl rfl ?_
              refine Rx.guard_yes rfl rfl rfl (Rx.q rfl (.pick_f rfl rfl) ?_)
              refine Rx.q rfl (.pick_f rfl rfl) ?_
              refine Rx.next ?_
              refine Gx.cond_f rfl ?_
              refine Gx.skip fun aa ww hzz => (then_normal (Gx.go hzz ?_))
              -- region 11
              refine Gx.seq_region ?_
              refine Rx.q rfl (.move rfl) ?_
              refine Rx.q rfl (.mul_ rfl rfl (by omega)) ?_
              refine Rx.q rfl (.move rfl) ?_
              refine Rx.q rfl ((OpQ.sub_ rfl rfl (by omega)).val (u := .int .i64 (-(dval (digsAt s i (k + 1)) : Int))) (by congr 1; omega)) ?_
              refine Rx.q rfl (.assign rfl) ?_
              refine Rx.next ?_
              -- region 12
              refine Gx.region ?_
              refine Rx.q rfl (.move rfl) ?_
              refine Rx.q rfl (.add_ rfl rfl (by omega)) ?_
              refine Rx.q rfl (.assign rfl) ?_
              refine Rx.nil fun aa ww hzz => (blk_normal (then_normal ⟨k + 1, ⟨hD.succ hl hdig, by omega⟩, (by omega), hzz.to (.cons rfl (.cons rfl (.cons rfl (.cons rfl (.cons rfl (.cons rfl .nil))))))⟩))
        · -- way
          have h59 := of_decide_eq_false h59
          refine Gx.exit fun aa ww hzz => (then_exit (then_exit (blk_exit (then_normal ⟨k, ⟨hD, hv, fun _ h => by unfold digB at h; omega⟩, hzz.to (.cons rfl (.cons rfl (.cons rfl (.cons rfl (.cons rfl (.cons rfl .nil))))))⟩))))
      · -- way
        have h51 := of_decide_eq_false h51
        refine Rx.guard_no rfl rfl rfl rfl rfl ?_
        refine Rx.guard_no rfl rfl rfl rfl rfl ?_
        refine Rx.guard_no rfl rfl rfl rfl rfl ?_
        refine Rx.guard_no rfl rfl rfl rfl rfl ?_
        refine Rx.guard_no rfl rfl rfl rfl rfl ?_
        refine Rx.guard_no rfl rfl rfl rfl rfl ?_
        refine Rx.guard_no rfl rfl rfl rfl rfl ?_
        refine Rx.q rfl (.pick_f rfl rfl) ?_
        refine Rx.next ?_
        refine Gx.cond_f rfl ?_
        refine Gx.exit fun aa ww hzz => (then_exit (then_exit (blk_exit (then_normal ⟨k, ⟨hD, hv, fun _ h => by unfold digB at h; omega⟩, hzz.to (.cons rfl (.cons rfl (.cons rfl (.cons rfl (.cons rfl (.cons rfl .nil))))))⟩))))
    · -- way
      have h42 := of_decide_eq_false h42
      refine Rx.guard_no rfl rfl rfl rfl rfl ?_
      refine Rx.guard_no rfl rfl rfl rfl rfl ?_
      refine Rx.guard_no rfl rfl rfl rfl rfl ?_
      refine Rx.guard_no rfl rfl rfl rfl rfl ?_
      refine Rx.guard_no rfl rfl rfl rfl rfl ?_
      refine Rx.guard_no rfl rfl rfl rfl rfl ?_
      refine Rx.guard_no rfl rfl rfl rfl rfl ?_
      refine Rx.q rfl (.pick_f rfl rfl) ?_
      refine Rx.q rfl (.move rfl) ?_
      refine Rx.guard_no rfl rfl rfl rfl rfl ?_
      refine Rx.guard_no rfl rfl rfl rfl rfl ?_
      refine Rx.guard_no rfl rfl rfl rfl rfl ?_
      refine Rx.guard_no rfl rfl rfl rfl rfl ?_
      refine Rx.guard_no rfl rfl rfl rfl rfl ?_
      refine Rx.guard_no rfl rfl rfl rfl rfl ?_
      refine Rx.guard_no rfl rfl rfl rfl rfl ?_
      refine Rx.q rfl (.pick_f rfl rfl) ?_
      refine Rx.next ?_
      refine Gx.cond_f rfl ?_
      refine Gx.exit fun aa ww hzz => (then_exit (then_exit (blk_exit (then_normal ⟨k, ⟨hD, hv, fun h => by omega⟩, hzz.to (.cons rfl (.cons rfl (.cons rfl (.cons rfl (.cons rfl (.cons rfl .nil))))))⟩))))
  obtain ⟨hD, hv, hx13⟩ := hy
  have hle := hD.le
  rename Nat => k
  refine Gx.seq ?_
  -- region 13
  refine Gx.seq_region ?_
  refine Rx.q rfl (.move rfl) ?_
  refine Rx.q rfl (.move rfl) ?_
  refine Rx.q rfl (.eql rfl rfl) ?_
  refine Rx.q rfl (.move rfl) ?_
  refine Rx.split 87 rfl (fun h87 => ?_) (fun h87 => ?_)
  · -- way
    have h87 := of_decide_eq_true h87
    have hno : ∀ n' j', ¬ NumAt s i e n' j' := fun n' j' h => by
      obtain ⟨q1, q2, q3, q4, q5, q6⟩ := num_end he hD hx13 h
      omega
    refine Rx.guard_no rfl rfl rfl rfl rfl ?_
    refine Rx.guard_no rfl rfl rfl rfl rfl ?_
    refine Rx.guard_no rfl rfl rfl rfl rfl ?_
    refine Rx.guard_no rfl rfl rfl rfl rfl ?_
    refine Rx.guard_no rfl rfl rfl rfl rfl ?_
    refine Rx.guard_no rfl rfl rfl rfl rfl ?_
    refine Rx.guard_no rfl rfl rfl rfl rfl ?_
    refine Rx.q rfl (.pick_t rfl rfl) ?_
    refine Rx.q rfl (.move rfl) ?_
    refine Rx.guard_no rfl rfl rfl rfl rfl ?_
    refine Rx.guard_no rfl rfl rfl rfl rfl ?_
    refine Rx.guard_no rfl rfl rfl rfl rfl ?_
    refine Rx.guard_no rfl rfl rfl rfl rfl ?_
    refine Rx.guard_no rfl rfl rfl rfl rfl ?_
    refine Rx.guard_no rfl rfl rfl rfl rfl ?_
    refine Rx.guard_no rfl rfl rfl rfl rfl ?_
    refine Rx.guard_no rfl rfl rfl rfl rfl ?_
    refine Rx.q rfl (.pick_t rfl rfl) ?_
    refine Rx.q rfl (.move rfl) ?_
    refine Rx.guard_no rfl rfl rfl rfl rfl ?_
    refine Rx.guard_no rfl rfl rfl rfl rfl ?_
    refine Rx.guard_no rfl rfl rfl rfl rfl ?_
    refine Rx.guard_no rfl rfl rfl rfl rfl ?_
    refine Rx.guard_no rfl rfl rfl rfl rfl ?_
    refine Rx.guard_no rfl rfl rfl rfl rfl ?_
    refine Rx.guard_no rfl rfl rfl rfl rfl ?_
    refine Rx.guard_no rfl rfl rfl rfl rfl ?_
    refine Rx.guard_un rfl rfl rfl rfl ?_
    refine Rx.guard_un rfl rfl rfl rfl ?_
    refine Rx.guard_un rfl rfl rfl rfl ?_
    refine Rx.guard_un rfl rfl rfl rfl ?_
    refine Rx.guard_un rfl rfl rfl rfl ?_
    refine Rx.guard_un rfl rfl rfl rfl ?_
    refine Rx.guard_un rfl rfl rfl rfl ?_
    refine Rx.guard_no rfl rfl rfl rfl rfl ?_
    refine Rx.q rfl (.pick_t rfl rfl) ?_
    refine Rx.next ?_
    refine Gx.cond_t rfl ?_
    -- region 14
    refine Gx.seq_region ?_
    refine Rx.q rfl (.assign rfl) ?_
    refine Rx.q rfl (.assign rfl) ?_
    refine Rx.next ?_
    refine Gx.ret fun aa ww hzz => (then_ret (fin_two hzz rfl rfl rfl (⟨_, _, _, rfl, rfl, .inr ⟨rfl, rfl, rfl, hno⟩⟩)))
  · -- way
    have h87 := of_decide_eq_false h87
    refine Rx.guard_yes rfl rfl rfl (Rx.q rfl (.move rfl) ?_)
    refine Rx.guard_yes rfl rfl rfl (Rx.q rfl (.move rfl) ?_)
    refine Rx.guard_yes rfl rfl rfl (Rx.q rfl (.nilCheck rfl) ?_)
    refine Rx.guard_yes rfl rfl rfl (Rx.q rfl (.fieldAddr rfl) ?_)
    refine Rx.guard_yes rfl rfl rfl (Rx.q rfl (.ld rfl rfl) ?_)
    refine Rx.guard_yes rfl rfl rfl (Rx.q rfl (.len_s rfl) ?_)
    refine Rx.guard_yes rfl rfl rfl (Rx.q rfl (.geq rfl rfl) ?_)
    refine Rx.q rfl (.pick_f rfl rfl) ?_
    refine Rx.q rfl (.move rfl) ?_
    refine Rx.split 96 rfl (fun h96 => ?_) (fun h96 => ?_)
    · -- way
      have h96 := of_decide_eq_true h96
      have hno : ∀ n' j', ¬ NumAt s i e n' j' := fun n' j' h => by
        obtain ⟨q1, q2, q3, q4, q5, q6⟩ := num_end he hD hx13 h
        omega
      refine Rx.guard_no rfl rfl rfl rfl rfl ?_
      refine Rx.guard_no rfl rfl rfl rfl rfl ?_
      refine Rx.guard_no rfl rfl rfl rfl rfl ?_
      refine Rx.guard_no rfl rfl rfl rfl rfl ?_
      refine Rx.guard_no rfl rfl rfl rfl rfl ?_
      refine Rx.guard_no rfl rfl rfl rfl rfl ?_
      refine Rx.guard_no rfl rfl rfl rfl rfl ?_
      refine Rx.guard_no rfl rfl rfl rfl rfl ?_
      refine Rx.q rfl (.pick_t rfl rfl) ?_
      refine Rx.q rfl (.move rfl) ?_
      refine Rx.guard_no rfl rfl rfl rfl rfl ?_
      refine Rx.guard_no rfl rfl rfl rfl rfl ?_
      refine Rx.guard_no rfl rfl rfl rfl rfl ?_
      refine Rx.guard_no rfl rfl rfl rfl rfl ?_
      refine Rx.guard_no rfl rfl rfl rfl rfl ?_
      refine Rx.guard_no rfl rfl rfl rfl rfl ?_
      refine Rx.guard_no rfl rfl rfl rfl rfl ?_
      refine Rx.guard_no rfl rfl rfl rfl rfl ?_
      refine Rx.guard_un rfl rfl rfl rfl ?_
      refine Rx.guard_un rfl rfl rfl rfl ?_
      refine Rx.guard_un rfl rfl rfl rfl ?_
      refine Rx.guard_un rfl rfl rfl rfl ?_
      refine Rx.guard_un rfl rfl rfl rfl ?_
      refine Rx.guard_un rfl rfl rfl rfl ?_
      refine Rx.guard_un rfl rfl rfl rfl ?_
      refine Rx.guard_no rfl rfl rfl rfl rfl ?_
      refine Rx.q rfl (.pick_t rfl rfl) ?_
      refine Rx.next ?_
      refine Gx.cond_t rfl ?_
      -- region 14
      refine Gx.seq_region ?_
      refine Rx.q rfl (.assign rfl) ?_
      refine Rx.q rfl (.assign rfl) ?_
      refine Rx.next ?_
      refine Gx.ret fun aa ww hzz => (then_ret (fin_two hzz rfl rfl rfl (⟨_, _, _, rfl, rfl, .inr ⟨rfl, rfl, rfl, hno⟩⟩)))
    · -- way
      have h96 := of_decide_eq_false h96
      refine Rx.guard_yes rfl rfl rfl (Rx.q rfl (.move rfl) ?_)
      refine Rx.guard_yes rfl rfl rfl (Rx.q rfl (.nilCheck rfl) ?_)
      refine Rx.guard_yes rfl rfl rfl (Rx.q rfl (.fieldAddr rfl) ?_)
      refine Rx.guard_yes rfl rfl rfl (Rx.q rfl (.ld rfl rfl) ?_)
      refine Rx.guard_yes rfl rfl rfl (Rx.q rfl (.move rfl) ?_)
      refine Rx.guard_yes rfl rfl rfl (Rx.q rfl (.idx_s (p := s) (j := fromN s i + k) rfl rfl (by omega) (Int.toNat_natCast _)) ?_)
      refine Rx.guard_yes rfl rfl rfl (Rx.q rfl (.move rfl) ?_)
      refine Rx.guard_yes rfl rfl rfl (Rx.q rfl (.neq rfl rfl) ?_)
      refine Rx.q rfl (.pick_f rfl rfl) ?_
      refine Rx.q rfl (.move rfl) ?_
      refine Rx.split 106 rfl (fun h106 => ?_) (fun h106 => ?_)
      · -- way
        have h106 := of_decide_eq_true h106
        have hno : ∀ n' j', ¬ NumAt s i e n' j' := fun n' j' h => by
          obtain ⟨q1, q2, q3, q4, q5, q6⟩ := num_end he hD hx13 h
          rw [q3] at h106; exact h106 rfl
        refine Rx.guard_no rfl rfl rfl rfl rfl ?_
        refine Rx.guard_no rfl rfl rfl rfl rfl ?_
        refine Rx.guard_no rfl rfl rfl rfl rfl ?_
        refine Rx.guard_no rfl rfl rfl rfl rfl ?_
        refine Rx.guard_no rfl rfl rfl rfl rfl ?_
        refine Rx.guard_no rfl rfl rfl rfl rfl ?_
        refine Rx.guard_no rfl rfl rfl rfl rfl ?_
        refine Rx.guard_no rfl rfl rfl rfl rfl ?_
        refine Rx.guard_un rfl rfl rfl rfl ?_
        refine Rx.guard_un rfl rfl rfl rfl ?_
        refine Rx.guard_un rfl rfl rfl rfl ?_
        refine Rx.guard_un rfl rfl rfl rfl ?_
        refine Rx.guard_un rfl rfl rfl rfl ?_
        refine Rx.guard_un rfl rfl rfl rfl ?_
        refine Rx.guard_un rfl rfl rfl rfl ?_
        refine Rx.guard_no rfl rfl rfl rfl rfl ?_
        refine Rx.q rfl (.pick_t rfl rfl) ?_
        refine Rx.next ?_
        refine Gx.cond_t rfl ?_
        -- region 14
        refine Gx.seq_region ?_
        refine Rx.q rfl (.assign rfl) ?_
        refine Rx.q rfl (.assign rfl) ?_
        refine Rx.next ?_
        refine Gx.ret fun aa ww hzz => (then_ret (fin_two hzz rfl rfl rfl (⟨_, _, _, rfl, rfl, .inr ⟨rfl, rfl, rfl, hno⟩⟩)))
      · -- way
        have h106 := of_decide_eq_false h106
        have hend : s.getD (fromN s i + k) 0 = e := UInt8.toNat_inj.1 (by omega)
        refine Rx.guard_yes rfl rfl rfl (Rx.q rfl (.move rfl) ?_)
        refine Rx.guard_yes rfl rfl rfl (Rx.q rfl (.nilCheck rfl) ?_)
        refine Rx.guard_yes rfl rfl rfl (Rx.q rfl (.fieldAddr rfl) ?_)
        refine Rx.guard_yes rfl rfl rfl (Rx.q rfl (.ld rfl rfl) ?_)
        refine Rx.guard_yes rfl rfl rfl (Rx.q rfl (.move rfl) ?_)
        refine Rx.guard_yes rfl rfl rfl (Rx.q rfl (.idx_s (p := s) (j := fromN s i) rfl rfl (by omega) (by simp)) ?_)
        refine Rx.guard_yes rfl rfl rfl (Rx.q rfl (.eql rfl rfl) ?_)
        refine Rx.guard_yes rfl rfl rfl (Rx.q rfl (.move rfl) ?_)
        refine Rx.split 114 rfl (fun h114 => ?_) (fun h114 => ?_)
        · -- way
          have h114 := of_decide_eq_true h114
          have h48 : s.getD (fromN s i) 0 = 48 := UInt8.toNat_inj.1 (by show _ = 48; omega)
          refine Rx.guard_yes rfl rfl rfl (Rx.q rfl (.move rfl) ?_)
          refine Rx.guard_yes rfl rfl rfl (Rx.q rfl (.move rfl) ?_)
          refine Rx.guard_yes rfl rfl rfl (Rx.q rfl (.add_ rfl rfl (by omega)) ?_)
          refine Rx.guard_yes rfl rfl rfl (Rx.q rfl (.gtr rfl rfl) ?_)
          refine Rx.guard_yes rfl rfl rfl (Rx.q rfl (.move rfl) ?_)
          refine Rx.split 119 rfl (fun h119 => ?_) (fun h119 => ?_)
          · -- way
            have h119 := of_decide_eq_true h119
            have hno : ∀ n' j', ¬ NumAt s i e n' j' := fun n' j' h => by
              obtain ⟨q1, q2, q3, q4, q5, q6⟩ := num_end he hD hx13 h
              have := (q6 h48).1
              omega
            refine Rx.guard_no rfl rfl rfl rfl rfl ?_
            refine Rx.guard_yes rfl rfl rfl (Rx.q rfl (.pick_t rfl rfl) ?_)
            refine Rx.guard_yes rfl rfl rfl (Rx.q rfl (.pick_t rfl rfl) ?_)
            refine Rx.q rfl (.pick_f rfl rfl) ?_
            refine Rx.next ?_
            refine Gx.cond_t rfl ?_
            -- region 14
            refine Gx.seq_region ?_
            refine Rx.q rfl (.assign rfl) ?_
            refine Rx.q rfl (.assign rfl) ?_
            refine Rx.next ?_
            refine Gx.ret fun aa ww hzz => (then_ret (fin_two hzz rfl rfl rfl (⟨_, _, _, rfl, rfl, .inr ⟨rfl, rfl, rfl, hno⟩⟩)))
          · -- way
            have h119 := of_decide_eq_false h119
            refine Rx.guard_yes rfl rfl rfl (Rx.q rfl (.move rfl) ?_)
            refine Rx.guard_yes rfl rfl rfl (Rx.q rfl (.pick_f rfl rfl) ?_)
            refine Rx.guard_yes rfl rfl rfl (Rx.q rfl (.pick_t rfl rfl) ?_)
            refine Rx.q rfl (.pick_f rfl rfl) ?_
            refine Rx.next ?_
            refine Gx.cond rfl (fun h123 => ?_) (fun h123 => ?_)
            · -- way
              have hno : ∀ n' j', ¬ NumAt s i e n' j' := fun n' j' h => by
                obtain ⟨q1, q2, q3, q4, q5, q6⟩ := num_end he hD hx13 h
                rw [(q6 h48).2] at h123; cases h123
              -- region 14
              refine Gx.seq_region ?_
              refine Rx.q rfl (.assign rfl) ?_
              refine Rx.q rfl (.assign rfl) ?_
              refine Rx.next ?_
              refine Gx.ret fun aa ww hzz => (then_ret (fin_two hzz rfl rfl rfl (⟨_, _, _, rfl, rfl, .inr ⟨rfl, rfl, rfl, hno⟩⟩)))
            · -- way
              have hlz : s.getD (fromN s i) 0 = 48 → k = 1 ∧ minusB s i = false := fun _ => ⟨by omega, h123⟩
              refine Gx.skip fun aa ww hzz => (then_normal (Gx.go hzz ?_))
              refine Gx.seq ?_
              -- region 15
              refine Gx.seq_region ?_
              refine Rx.q rfl (.move rfl) ?_
              refine Rx.q rfl (.not rfl) ?_
              refine Rx.next ?_
              refine Gx.cond rfl (fun h125 => ?_) (fun h125 => ?_)
              · -- way
                have h125 := bnot_t h125
                refine Gx.seq ?_
                -- region 16
                refine Gx.seq_region ?_
                refine Rx.q rfl (.move rfl) ?_
                refine Rx.q rfl (.eql rfl rfl) ?_
                refine Rx.next ?_
                refine Gx.cond rfl (fun h127 => ?_) (fun h127 => ?_)
                · -- way
                  have h127 := of_decide_eq_true h127
                  have hno : ∀ n' j', ¬ NumAt s i e n' j' := fun n' j' h => by
                    obtain ⟨q1, q2, q3, q4, q5, q6⟩ := num_end he hD hx13 h
                    rw [h125] at q4
                    have q7 : ¬ n' < 0 := of_decide_eq_false q4.symm
                    have q8 := h.1
                    unfold i64 at q8
                    have q9 : dval (digsAt s i k) = n'.natAbs := q5
                    omega
                  -- region 17
                  refine Gx.seq_region ?_
                  refine Rx.q rfl (.assign rfl) ?_
                  refine Rx.q rfl (.assign rfl) ?_
                  refine Rx.next ?_
                  refine Gx.ret fun aa ww hzz => (then_ret (then_ret (fin_two hzz rfl rfl rfl (⟨_, _, _, rfl, rfl, .inr ⟨rfl, rfl, rfl, hno⟩⟩))))
                · -- way
                  have h127 := of_decide_eq_false h127
                  have hok := num_ok hD (by omega) (by omega) hend hlz (n := - -(dval (digsAt s i k) : Int)) (by rw [h125]; simp) ⟨by omega, by omega⟩
                  refine Gx.skip fun aa ww hzz => (then_normal (Gx.go hzz ?_))
                  -- region 18
                  refine Gx.region ?_
                  refine Rx.q rfl (.move rfl) ?_
                  refine Rx.q rfl (.neg_ rfl (by omega)) ?_
                  refine Rx.q rfl (.assign rfl) ?_
                  refine Rx.next ?_
                  -- region 19
                  refine Gx.seq_region ?_
                  refine Rx.q rfl (.move rfl) ?_
                  refine Rx.q rfl (.move rfl) ?_
                  refine Rx.q rfl (.add_ rfl rfl (by omega)) ?_
                  refine Rx.q rfl (.nilCheck rfl) ?_
                  refine Rx.q rfl (.fieldAddr rfl) ?_
                  refine Rx.st rfl rfl (by first | rfl | assumption) ?_
                  refine Rx.next ?_
                  -- region 20
                  refine Gx.seq_region ?_
                  refine Rx.q rfl (.move rfl) ?_
                  refine Rx.q rfl (.assign rfl) ?_
                  refine Rx.q rfl (.assign rfl) ?_
                  refine Rx.next ?_
                  refine Gx.castL (L' := [rdr b s (fromN s i + k + 1)]) rfl ?_
                  refine Gx.ret fun aa ww hzz => (fin_two hzz rfl rfl rfl (⟨_, fromN s i + k + 1, _, rfl, rfl, .inl ⟨rfl, hok⟩⟩))
              · -- way
                have h125 := bnot_f h125
                have hok := num_ok hD (by omega) (by omega) hend hlz (n := -(dval (digsAt s i k) : Int)) (by rw [h125]; simp) ⟨by omega, by omega⟩
                refine Gx.skip fun aa ww hzz => (then_normal (Gx.go hzz ?_))
                -- region 19
                refine Gx.seq_region ?_
                refine Rx.q rfl (.move rfl) ?_
                refine Rx.q rfl (.move rfl) ?_
                refine Rx.q rfl (.add_ rfl rfl (by omega)) ?_
                refine Rx.q rfl (.nilCheck rfl) ?_
                refine Rx.q rfl (.fieldAddr rfl) ?_
                refine Rx.st rfl rfl (by first | rfl | assumption) ?_
                refine Rx.next ?_
                -- region 20
                refine Gx.seq_region ?_
                refine Rx.q rfl (.move rfl) ?_
                refine Rx.q rfl (.assign rfl) ?_
                refine Rx.q rfl (.assign rfl) ?_
                refine Rx.next ?_
                refine Gx.castL (L' := [rdr b s (fromN s i + k + 1)]) rfl ?_
                refine Gx.ret fun aa ww hzz => (fin_two hzz rfl rfl rfl (⟨_, fromN s i + k + 1, _, rfl, rfl, .inl ⟨rfl, hok⟩⟩))
        · -- way
          have h114 := of_decide_eq_false h114
          have hlz : s.getD (fromN s i) 0 = 48 → k = 1 ∧ minusB s i = false := fun h => by
            rw [h] at h114; exact absurd rfl h114
          refine Rx.guard_no rfl rfl rfl rfl rfl ?_
          refine Rx.guard_no rfl rfl rfl rfl rfl ?_
          refine Rx.guard_no rfl rfl rfl rfl rfl ?_
          refine Rx.guard_no rfl rfl rfl rfl rfl ?_
          refine Rx.guard_no rfl rfl rfl rfl rfl ?_
          refine Rx.guard_un rfl rfl rfl rfl ?_
          refine Rx.guard_no rfl rfl rfl rfl rfl ?_
          refine Rx.guard_yes rfl rfl rfl (Rx.q rfl (.pick_f rfl rfl) ?_)
          refine Rx.q rfl (.pick_f rfl rfl) ?_
          refine Rx.next ?_
          refine Gx.cond_f rfl ?_
          refine Gx.skip fun aa ww hzz => (then_normal (Gx.go hzz ?_))
          refine Gx.seq ?_
          -- region 15
          refine Gx.seq_region ?_
          refine Rx.q rfl (.move rfl) ?_
          refine Rx.q rfl (.not rfl) ?_
          refine Rx.next ?_
          refine Gx.cond rfl (fun h125 => ?_) (fun h125 => ?_)
          · -- way
            have h125 := bnot_t h125
            refine Gx.seq ?_
            -- region 16
            refine Gx.seq_region ?_
            refine Rx.q rfl (.move rfl) ?_
            refine Rx.q rfl (.eql rfl rfl) ?_
            refine Rx.next ?_
            refine Gx.cond rfl (fun h127 => ?_) (fun h127 => ?_)
            · -- way
              have h127 := of_decide_eq_true h127
              have hno : ∀ n' j', ¬ NumAt s i e n' j' := fun n' j' h => by
                obtain ⟨q1, q2, q3, q4, q5, q6⟩ := num_end he hD hx13 h
                rw [h125] at q4
                have q7 : ¬ n' < 0 := of_decide_eq_false q4.symm
                have q8 := h.1
                unfold i64 at q8
                have q9 : dval (digsAt s i k) = n'.natAbs := q5
                omega
              -- region 17
              refine Gx.seq_region ?_
              refine Rx.q rfl (.assign rfl) ?_
              refine Rx.q rfl (.assign rfl) ?_
              refine Rx.next ?_
              refine Gx.ret fun aa ww hzz => (then_ret (then_ret (fin_two hzz rfl rfl rfl (⟨_, _, _, rfl, rfl, .inr ⟨rfl, rfl, rfl, hno⟩⟩))))
            · -- way
              have h127 := of_decide_eq_false h127
              have hok := num_ok hD (by omega) (by omega) hend hlz (n := - -(dval (digsAt s i k) : Int)) (by rw [h125]; simp) ⟨by omega, by omega⟩
              refine Gx.skip fun aa ww hzz => (then_normal (Gx.go hzz ?_))
              -- region 18
              refine Gx.region ?_
              refine Rx.q rfl (.move rfl) ?_
              refine Rx.q rfl (.neg_ rfl (by omega)) ?_
              refine Rx.q rfl (.assign rfl) ?_
              refine Rx.next ?_
              -- region 19
              refine Gx.seq_region ?_
              refine Rx.q rfl (.move rfl) ?_
              refine Rx.q rfl (.move rfl) ?_
              refine Rx.q rfl (.add_ rfl rfl (by omega)) ?_
              refine Rx.q rfl (.nilCheck rfl) ?_
              refine Rx.q rfl (.fieldAddr rfl) ?_
              refine Rx.st rfl rfl (by first | rfl | assumption) ?_
              refine Rx.next ?_
              -- region 20
              refine Gx.seq_region ?_
              refine Rx.q rfl (.move rfl) ?_
              refine Rx.q rfl (.assign rfl) ?_
              refine Rx.q rfl (.assign rfl) ?_
              refine Rx.next ?_
              refine Gx.castL (L' := [rdr b s (fromN s i + k + 1)]) rfl ?_
              refine Gx.ret fun aa ww hzz => (fin_two hzz rfl rfl rfl (⟨_, fromN s i + k + 1, _, rfl, rfl, .inl ⟨rfl, hok⟩⟩))
          · -- way
            have h125 := bnot_f h125
            have hok := num_ok hD (by omega) (by omega) hend hlz (n := -(dval (digsAt s i k) : Int)) (by rw [h125]; simp) ⟨by omega, by omega⟩
            refine Gx.skip fun aa ww hzz => (then_normal (Gx.go hzz ?_))
            -- region 19
            refine Gx.seq_region ?_
            refine Rx.q rfl (.move rfl) ?_
            refine Rx.q rfl (.move rfl) ?_
            refine Rx.q rfl (.add_ rfl rfl (by omega)) ?_
            refine Rx.q rfl (.nilCheck rfl) ?_
            refine Rx.q rfl (.fieldAddr rfl) ?_
            refine Rx.st rfl rfl (by first | rfl | assumption) ?_
            refine Rx.next ?_
            -- region 20
            refine Gx.seq_region ?_
            refine Rx.q rfl (.move rfl) ?_
            refine Rx.q rfl (.assign rfl) ?_
            refine Rx.q rfl (.assign rfl) ?_
            refine Rx.next ?_
            refine Gx.castL (L' := [rdr b s (fromN s i + k + 1)]) rfl ?_
            refine Gx.ret fun aa ww hzz => (fin_two hzz rfl rfl rfl (⟨_, fromN s i + k + 1, _, rfl, rfl, .inl ⟨rfl, hok⟩⟩))

/-- What is read of a number: one answer. -/
def NumR (s : List UInt8) (i : Nat) (e : UInt8) (n : Int) (j : Nat) (ok : Bool) : Prop := ok = true ∧ NumAt s i e n j ∨ ok = false ∧ n = 0 ∧ j = i ∧ ∀ n' j', ¬ NumAt s i e n' j'
theorem num_some (s : List UInt8) (i : Nat) (e : UInt8) : ∃ n j ok, NumR s i e n j ok := by
  by_cases h : ∃ n j, NumAt s i e n j
  · obtain ⟨n, j, h⟩ := h; exact ⟨n, j, true, .inl ⟨rfl, h⟩⟩
  · exact ⟨0, i, false, .inr ⟨rfl, rfl, rfl, fun n j k => h ⟨n, j, k⟩⟩⟩
theorem ref38_numR (b : Nat) (s : List UInt8) (i : Nat) (e : UInt8) {n : Int} {j : Nat} {ok : Bool} (hs : s.length ≤ 4000000000) (hi : i ≤ s.length) (he : e.toNat < 45) (h : NumR s i e n j ok) :
    Spc Tryd.prog 57 [.pointer (some ⟨b, 0, none⟩), .int .u8 e.toNat] [rdr b s i] [] (fun u L => u = .tuple #[.int .i64 n, .bool ok] ∧ L = [rdr b s j]) :=
  (ref38_number b s i e hs hi he).mono fun u L ⟨n2, j2, ok2, hu, hL, h2⟩ => by
    rcases h with ⟨rfl, h⟩ | ⟨rfl, rfl, rfl, h⟩ <;> rcases h2 with ⟨rfl, h2⟩ | ⟨rfl, rfl, rfl, h2⟩
    · obtain ⟨_, _, h3⟩ := num_at h2
      obtain ⟨e1, _⟩ := num_uniq he h h2.1 h3
      subst e1
      have : j2 = j := by rw [h2.2.1, h.2.1]
      subst this
      exact ⟨hu, hL⟩
    · exact absurd h (h2 _ _)
    · exact absurd h2 (h _ _)
    · exact ⟨hu, hL⟩
end Go.Proofs.YtoiebfpafdcbmaaDoor
