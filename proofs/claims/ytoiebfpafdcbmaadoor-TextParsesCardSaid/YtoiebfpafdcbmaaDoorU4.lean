/- Contracts of the document's answer for texts: a plane that is next. -/
import Derived.Test.YtoiebfpafdcbmaaDoorU3
import Derived.Test.YtoiebfpafdcbmaaDoorPZ
import Derived.Test.YtoiebfpafdcbmaaDoorT4
namespace Go.Proofs.YtoiebfpafdcbmaaDoor
open Go Go.RowKit K
set_option linter.unusedVariables false
set_option linter.unusedSimpArgs false

theorem ref38_RPlane (b : Nat) (s : List UInt8) (i : Nat) (hs : s.length ≤ 4000000000) (hi : i ≤ s.length) : Spc Tryd.prog 25 [.pointer (some ⟨b, 0, none⟩)] [rdr b s i] [] (fun u L => ∃ v p j ok, u = .tuple #[.agg (plC p v).toArray, .bool ok] ∧ L = [rdr b s j, plS p v] ∧ v.oneCell' = true ∧ j ≤ s.length ∧ (ok = true ∧ planeM s i = some (p, j) ∨ ok = false ∧ planeM s i = none ∧ p = zeroP)) := by
  refine Spc.intro Tryd.func25 rfl Tryd.ntmps25 (by kernel_rfl) rfl rfl fun w0 F0 => ?_
  -- region 0
  refine Gx.seq_region ?_
  refine Rx.alloc (zs := [.int .i64 0, .int .i64 0, .slice none 0 0]) rfl rfl fun b2 => ?_
  refine Rx.q rfl (.assign rfl) ?_
  refine Rx.next ?_
  refine Gx.seq ?_
  refine Gx.seq ?_
  -- region 1
  refine Gx.region_quiet mixed (by kernel_rfl) ?_
  refine Dx.q rfl (.move rfl) ?_
  refine Dx.q rfl (.nilCheck rfl) ?_
  refine Dx.q rfl (.fieldAddr rfl) ?_
  refine Dx.q rfl (.ld rfl rfl) ?_
  refine Dx.q rfl (.len_s rfl) ?_
  refine Dx.q rfl (.move rfl) ?_
  refine Dx.q rfl (.nilCheck rfl) ?_
  refine Dx.q rfl (.fieldAddr rfl) ?_
  refine Dx.q rfl (.ld rfl rfl) ?_
  refine Dx.q rfl (.sub_ rfl rfl (by omega)) ?_
  refine Dx.q rfl (.lss rfl rfl) ?_
  refine Dx.q rfl (.move rfl) ?_
  refine Dx.split 21 rfl (fun h21 => ?_) (fun h21 => ?_)
  · -- way
    have h21 := of_decide_eq_true h21
    have hno := plane_short hi h21
    refine Dx.guard_no rfl rfl rfl rfl rfl ?_
    refine Dx.guard_no rfl rfl rfl rfl rfl ?_
    refine Dx.guard_no rfl rfl rfl rfl rfl ?_
    refine Dx.guard_no rfl rfl rfl rfl rfl ?_
    refine Dx.guard_no rfl rfl rfl rfl rfl ?_
    refine Dx.guard_no rfl rfl rfl rfl rfl ?_
    refine Dx.guard_no rfl rfl rfl rfl rfl ?_
    refine Dx.guard_no rfl rfl rfl rfl rfl ?_
    refine Dx.guard_no rfl rfl rfl rfl rfl ?_
    refine Dx.guard_no rfl rfl rfl rfl rfl ?_
    refine Dx.guard_no rfl rfl rfl rfl rfl ?_
    refine Dx.guard_no rfl rfl rfl rfl rfl ?_
    refine Dx.guard_no rfl rfl rfl rfl rfl ?_
    refine Dx.guard_no rfl rfl rfl rfl rfl ?_
    refine Dx.guard_no rfl rfl rfl rfl rfl ?_
    refine Dx.q rfl (.pick_t rfl rfl) ?_
    refine Dx.nextQ ?_
    refine Gx.cond_t rfl ?_
    -- region 2
    refine Gx.seq_region ?_
    refine Rx.q rfl (.build (cs := [.int .i64 0, .int .i64 0, .slice none 0 0]) rfl rfl) ?_
    refine Rx.stc rfl rfl (by first | rfl | simp only [List.all_cons, List.all_nil, one_int, one_bool, one_str, one_ptr, one_slice, one_func, Bool.and_true, Bool.true_and, *]) (by rfl) ?_
    refine Rx.q rfl (.assign rfl) ?_
    refine Rx.next ?_
    refine Gx.nilS (e := 3) (sz := 1) ?_
    refine Gx.ret fun aa ww hzz => (then_ret (fin_ct (L1 := [rdr b s i, nilI]) hzz rfl rfl (by rfl) rfl (⟨_, zeroP, _, _, rfl, rfl, rfl, hi, .inr ⟨rfl, hno, rfl⟩⟩)))
  · -- way
    have h21 := of_decide_eq_false h21
    refine Dx.guard_yes rfl rfl rfl (Dx.q rfl (.move rfl) ?_)
    refine Dx.guard_yes rfl rfl rfl (Dx.q rfl (.nilCheck rfl) ?_)
    refine Dx.guard_yes rfl rfl rfl (Dx.q rfl (.fieldAddr rfl) ?_)
    refine Dx.guard_yes rfl rfl rfl (Dx.q rfl (.ld rfl rfl) ?_)
    refine Dx.guard_yes rfl rfl rfl (Dx.q rfl (.move rfl) ?_)
    refine Dx.guard_yes rfl rfl rfl (Dx.q rfl (.nilCheck rfl) ?_)
    refine Dx.guard_yes rfl rfl rfl (Dx.q rfl (.fieldAddr rfl) ?_)
    refine Dx.guard_yes rfl rfl rfl (Dx.q rfl (.ld rfl rfl) ?_)
    refine Dx.guard_yes rfl rfl rfl (Dx.q rfl (.move rfl) ?_)
    refine Dx.guard_yes rfl rfl rfl (Dx.q rfl (.nilCheck rfl) ?_)
    refine Dx.guard_yes rfl rfl rfl (Dx.q rfl (.fieldAddr rfl) ?_)
    refine Dx.guard_yes rfl rfl rfl (Dx.q rfl (.ld rfl rfl) ?_)
    refine Dx.guard_yes rfl rfl rfl (Dx.q rfl (.add_ rfl rfl (by omega)) ?_)
    refine Dx.guard_yes rfl rfl rfl (Dx.q rfl (.sub_slh (p := s) (l := i) (h := i + 6) rfl rfl rfl rfl rfl (by omega)) ?_)
    refine Dx.guard_yes rfl rfl rfl (Dx.q rfl (.neq_s rfl rfl) ?_)
    refine Dx.q rfl (.pick_f rfl rfl) ?_
    refine Dx.nextQ ?_
    refine Gx.cond rfl (fun h37 => ?_) (fun h37 => ?_)
    · -- way
      have h37 := of_decide_eq_true h37
      have hno := plane_nopre (s := s) (i := i) h37
      -- region 2
      refine Gx.seq_region ?_
      refine Rx.q rfl (.build (cs := [.int .i64 0, .int .i64 0, .slice none 0 0]) rfl rfl) ?_
      refine Rx.stc rfl rfl (by first | rfl | simp only [List.all_cons, List.all_nil, one_int, one_bool, one_str, one_ptr, one_slice, one_func, Bool.and_true, Bool.true_and, *]) (by rfl) ?_
      refine Rx.q rfl (.assign rfl) ?_
      refine Rx.next ?_
      refine Gx.nilS (e := 3) (sz := 1) ?_
      refine Gx.ret fun aa ww hzz => (then_ret (fin_ct (L1 := [rdr b s i, nilI]) hzz rfl rfl (by rfl) rfl (⟨_, zeroP, _, _, rfl, rfl, rfl, hi, .inr ⟨rfl, hno, rfl⟩⟩)))
    · -- way
      have h37 := of_decide_eq_false h37
      have hpre := pre_yes (s := s) (i := i) (Decidable.not_not.1 h37)
      obtain ⟨w, j1, ok1, hn1⟩ := num_some s (i + 6) 32
      refine Gx.skip fun aa ww hzz => (then_normal (Gx.go hzz ?_))
      -- region 3
      refine Gx.seq_region ?_
      refine Rx.q rfl (.move rfl) ?_
      refine Rx.q rfl (.nilCheck rfl) ?_
      refine Rx.q rfl (.fieldAddr rfl) ?_
      refine Rx.q rfl (.ld rfl rfl) ?_
      refine Rx.q rfl (.add_ rfl rfl (by omega)) ?_
      refine Rx.q rfl (.nilCheck rfl) ?_
      refine Rx.q rfl (.fieldAddr rfl) ?_
      refine Rx.st rfl rfl (by first | rfl | assumption) ?_
      refine Rx.castL (L' := [rdr b s (i + 6), pt b2 37 [.int .i64 0, .int .i64 0, .slice none 0 0]]) rfl ?_
      refine Rx.next ?_
      -- region 4
      refine Gx.seq_region ?_
      refine Rx.q rfl (.move rfl) ?_
      refine Rx.cal (caps := []) (ref38_numR b s (i + 6) 32 hs (by omega) (by decide) hn1) rfl rfl rfl fun v48 L48 hP48 => ?_
      obtain ⟨rfl, rfl⟩ := hP48
      refine Rx.q rfl (.move rfl) ?_
      refine Rx.q rfl (.extract rfl rfl) ?_
      refine Rx.q rfl (.extract rfl rfl) ?_
      refine Rx.q rfl (.assign rfl) ?_
      refine Rx.q rfl (.assign rfl) ?_
      refine Rx.next ?_
      refine Gx.seq ?_
      -- region 5
      refine Gx.seq_region ?_
      refine Rx.q rfl (.move rfl) ?_
      refine Rx.q rfl (.not rfl) ?_
      refine Rx.next ?_
      refine Gx.cond rfl (fun h52 => ?_) (fun h52 => ?_)
      · -- way
        have h52 := bnot_t h52
        have hbad : j1 = i + 6 ∧ ∀ n j, ¬ NumAt s (i + 6) 32 n j := by
          rcases hn1 with ⟨e, _⟩ | ⟨_, _, e, h⟩
          · rw [h52] at e; cases e
          · exact ⟨e, h⟩
        have hno := plane_now hbad.2
        -- region 6
        refine Gx.seq_region ?_
        refine Rx.q rfl (.build (cs := [.int .i64 0, .int .i64 0, .slice none 0 0]) rfl rfl) ?_
        refine Rx.stc rfl rfl (by first | rfl | simp only [List.all_cons, List.all_nil, one_int, one_bool, one_str, one_ptr, one_slice, one_func, Bool.and_true, Bool.true_and, *]) (by rfl) ?_
        refine Rx.q rfl (.assign rfl) ?_
        refine Rx.next ?_
        refine Gx.nilS (e := 3) (sz := 1) ?_
        refine Gx.ret fun aa ww hzz => (then_ret (fin_ct (L1 := [rdr b s j1, nilI]) hzz rfl rfl (by rfl) rfl (⟨_, zeroP, j1, _, rfl, rfl, rfl, (by omega), .inr ⟨rfl, hno, rfl⟩⟩)))
      · -- way
        have h52 := bnot_f h52
        have hw1 : NumAt s (i + 6) 32 w j1 := by
          rcases hn1 with ⟨_, h⟩ | ⟨e, _⟩
          · exact h
          · rw [h52] at e; cases e
        obtain ⟨hj1, _, _⟩ := num_at hw1
        obtain ⟨h, j2, ok2, hn2⟩ := num_some s j1 10
        refine Gx.skip fun aa ww hzz => (then_normal (Gx.go hzz ?_))
        -- region 7
        refine Gx.seq_region ?_
        refine Rx.q rfl (.move rfl) ?_
        refine Rx.cal (caps := []) (ref38_numR b s j1 10 hs hj1 (by decide) hn2) rfl rfl rfl fun v56 L56 hP56 => ?_
        obtain ⟨rfl, rfl⟩ := hP56
        refine Rx.q rfl (.move rfl) ?_
        refine Rx.q rfl (.extract rfl rfl) ?_
        refine Rx.q rfl (.extract rfl rfl) ?_
        refine Rx.q rfl (.assign rfl) ?_
        refine Rx.q rfl (.assign rfl) ?_
        refine Rx.next ?_
        refine Gx.seq ?_
        -- region 8
        refine Gx.seq_region ?_
        refine Rx.q rfl (.move rfl) ?_
        refine Rx.q rfl (.not rfl) ?_
        refine Rx.next ?_
        refine Gx.cond rfl (fun h60 => ?_) (fun h60 => ?_)
        · -- way
          have h60 := bnot_t h60
          have hbad : j2 = j1 ∧ ∀ n j, ¬ NumAt s j1 10 n j := by
            rcases hn2 with ⟨e, _⟩ | ⟨_, _, e, h⟩
            · rw [h60] at e; cases e
            · exact ⟨e, h⟩
          have hno := plane_noh hw1 hbad.2
          -- region 9
          refine Gx.seq_region ?_
          refine Rx.q rfl (.build (cs := [.int .i64 0, .int .i64 0, .slice none 0 0]) rfl rfl) ?_
          refine Rx.stc rfl rfl (by first | rfl | simp only [List.all_cons, List.all_nil, one_int, one_bool, one_str, one_ptr, one_slice, one_func, Bool.and_true, Bool.true_and, *]) (by rfl) ?_
          refine Rx.q rfl (.assign rfl) ?_
          refine Rx.next ?_
          refine Gx.nilS (e := 3) (sz := 1) ?_
          refine Gx.ret fun aa ww hzz => (then_ret (fin_ct (L1 := [rdr b s j2, nilI]) hzz rfl rfl (by rfl) rfl (⟨_, zeroP, j2, _, rfl, rfl, rfl, (by omega), .inr ⟨rfl, hno, rfl⟩⟩)))
        · -- way
          have h60 := bnot_f h60
          have hh1 : NumAt s j1 10 h j2 := by
            rcases hn2 with ⟨_, h⟩ | ⟨e, _⟩
            · exact h
            · rw [h60] at e; cases e
          obtain ⟨hj2, _, _⟩ := num_at hh1
          have hhd := head_is [] hpre hw1 hh1
          refine Gx.skip fun aa ww hzz => (then_normal (Gx.go hzz ?_))
          -- region 10
          refine Gx.seq_region ?_
          refine Rx.q rfl (.move rfl) ?_
          refine Rx.q rfl (.move rfl) ?_
          refine Rx.cal (caps := []) (ref07_New w h) rfl rfl rfl fun v64 L64 hP64 => ?_
          obtain ⟨v64, rfl, rfl, ho64⟩ := hP64
          refine Rx.alloc (zs := [.int .i64 0, .int .i64 0, .slice none 0 0]) rfl rfl fun b7 => ?_
          refine Rx.stc rfl rfl (by first | rfl | simp only [List.all_cons, List.all_nil, one_int, one_bool, one_str, one_ptr, one_slice, one_func, Bool.and_true, Bool.true_and, *]) (by rfl) ?_
          refine Rx.next ?_
          refine Gx.seq ?_
          -- region 11
          refine Gx.seq_region ?_
          refine Rx.q rfl (.ldc rfl (by rfl)) ?_
          refine Rx.q rfl (.cal (caps := []) (ref07_Right _ _) rfl rfl) ?_
          refine Rx.q rfl (.not rfl) ?_
          refine Rx.next ?_
          refine Gx.cond rfl (fun h67 => ?_) (fun h67 => ?_)
          · -- way
            have h67 := bnot_t h67
            have hno := plane_wrong hw1.1 hh1.1 hhd h67
            -- region 12
            refine Gx.seq_region ?_
            refine Rx.q rfl (.build (cs := [.int .i64 0, .int .i64 0, .slice none 0 0]) rfl rfl) ?_
            refine Rx.stc rfl rfl (by first | rfl | simp only [List.all_cons, List.all_nil, one_int, one_bool, one_str, one_ptr, one_slice, one_func, Bool.and_true, Bool.true_and, *]) (by rfl) ?_
            refine Rx.q rfl (.assign rfl) ?_
            refine Rx.next ?_
            refine Gx.nilS (e := 3) (sz := 1) ?_
            refine Gx.ret fun aa ww hzz => (then_ret (fin_ct (L1 := [rdr b s j2, nilI]) hzz rfl rfl (by rfl) rfl (⟨_, zeroP, j2, _, rfl, rfl, rfl, hj2, .inr ⟨rfl, hno, rfl⟩⟩)))
          · -- way
            have h67 := bnot_f h67
            have hN : newP w h = ⟨w, h, List.replicate (w * h).toNat 0⟩ := by
              rcases newP_cases w h with e | e
              · exact e
              · rw [e] at h67; simp [Pl.right, sideB] at h67
            rw [hN] at h67 ⊢
            obtain ⟨hw, hh, hle⟩ := Pl.right_iff.1 h67
            simp only at hw hh hle
            have hsz := mul_sides hw hh
            generalize hL0 : List.replicate (w * h).toNat (0 : Int) = l0 at *
            have hle' : (l0.length : Int) = w * h := hle
            have hl0 : i64s l0 := fun x hx => by rw [← hL0] at hx; rw [List.eq_of_mem_replicate hx]; exact ⟨by decide, by decide⟩
            refine Gx.skip fun aa ww hzz => (then_normal (Gx.go hzz ?_))
            refine Gx.seq ?_
            -- region 13
            refine Gx.seq_region ?_
            refine Rx.q rfl (.fieldAddr rfl) ?_
            refine Rx.q rfl (.ld rfl rfl) ?_
            refine Rx.q rfl (.lens rfl) ?_
            refine Rx.q rfl (.move rfl) ?_
            refine Rx.next ?_
            refine Gx.block ?_
            refine Gx.castL (L' := [pt b7 37 [.int .i64 w, .int .i64 h, v64], sl 3 1 v64 l0.length (intsV l0), rdr b s j2, pt b2 37 [.int .i64 0, .int .i64 0, .slice none 0 0]]) rfl ?_
            refine Gx.lp (α := Nat × List Int × Nat) (fun x => x.1 ≤ l0.length ∧ x.2.1.length = l0.length ∧ i64s x.2.1 ∧ x.2.2 ≤ s.length ∧ headS ⟨w, h, x.2.1⟩ ++ flatB Lib.itoa mid1 ⟨w, h, x.2.1⟩ x.1 ++ s.drop x.2.2 = s.drop i) (fun x => l0.length - x.1) (fun x => [(0, .pointer (some ⟨b, 0, none⟩)), (2, .pointer (some ⟨b2, 0, none⟩)), (4, .int .i64 w), (7, .pointer (some ⟨b7, 0, none⟩)), (71, .int .i64 l0.length), (72, .int .i64 x.1)])
              (fun x => [rdr b s x.2.2, pt b7 37 [.int .i64 w, .int .i64 h, v64], sl 3 1 v64 l0.length (intsV x.2.1), pt b2 37 [.int .i64 0, .int .i64 0, .slice none 0 0]]) ((0, l0, j2)) (⟨Nat.zero_le _, rfl, hl0, hj2, hhd⟩) ?_ (fun x hx => ?_)
            · exact (.cons rfl (.cons rfl (.cons rfl (.cons rfl (.cons rfl (.cons rfl .nil))))))
            obtain ⟨k, l, a⟩ := x
            obtain ⟨hk, hll, hlz, ha, hX⟩ := hx
            simp only at hk hll hlz ha hX ⊢
            -- region 14
            refine Gx.seq_region ?_
            refine Rx.q rfl (.lss rfl rfl) ?_
            refine Rx.next ?_
            refine Gx.seq ?_
            refine Gx.cond rfl (fun h73 => ?_) (fun h73 => ?_)
            · -- way
              have h73 := of_decide_eq_true h73
              have hk2 : k < l0.length := by omega
              have hwe : w = ((w.toNat : Nat) : Int) := (Int.toNat_of_nonneg (by omega)).symm
              have hrem : ((k : Int) + 1) % w = (((k + 1) % w.toNat : Nat) : Int) := by
                conv => lhs; rw [hwe]
                rw [Int.natCast_emod]; rfl
              refine Gx.skip fun aa ww hzz => (then_normal (Gx.go hzz ?_))
              refine Gx.seq ?_
              refine Gx.block ?_
              -- region 15
              refine Gx.seq_region ?_
              refine Rx.q rfl (.move rfl) ?_
              refine Rx.q rfl (.assign rfl) ?_
              refine Rx.next ?_
              -- region 16
              refine Gx.seq_region ?_
              refine Rx.q rfl (.assign rfl) ?_
              refine Rx.next ?_
              refine Gx.join (α := Int) (fun y => y = ((endU w.toNat k).toNat : Int)) (fun y => [(0, .pointer (some ⟨b, 0, none⟩)), (2, .pointer (some ⟨b2, 0, none⟩)), (4, .int .i64 w), (7, .pointer (some ⟨b7, 0, none⟩)), (8, .int .i64 k), (9, .int .u8 y), (71, .int .i64 l0.length), (72, .int .i64 k)]) (fun y => [rdr b s a, pt b7 37 [.int .i64 w, .int .i64 h, v64], sl 3 1 v64 l0.length (intsV l), pt b2 37 [.int .i64 0, .int .i64 0, .slice none 0 0]]) ?_ (fun y hy => ?_)
              · -- region 17
                refine Gx.seq_region ?_
                refine Rx.q rfl (.move rfl) ?_
                refine Rx.q rfl (.add_ rfl rfl (by omega)) ?_
                refine Rx.q rfl (.move rfl) ?_
                refine Rx.q rfl (.rem_ rfl rfl (by omega)) ?_
                refine Rx.q rfl (.eql rfl rfl) ?_
                refine Rx.next ?_
                refine Gx.cond rfl (fun h79 => ?_) (fun h79 => ?_)
                · -- way
                  have h79 := of_decide_eq_true h79
                  -- region 18
                  refine Gx.region ?_
                  refine Rx.q rfl (.assign rfl) ?_
                  refine Rx.nil fun aa ww hzz => (then_normal ⟨10, by rw [endU, if_pos (by omega)]; rfl, hzz.to (.cons rfl (.cons rfl (.cons rfl (.cons rfl (.cons rfl (.cons rfl (.cons rfl (.cons rfl .nil))))))))⟩)
                · -- way
                  have h79 := of_decide_eq_false h79
                  refine Gx.skip fun aa ww hzz => (then_normal ⟨32, by rw [endU, if_neg (by omega)]; rfl, hzz.to (.cons rfl (.cons rfl (.cons rfl (.cons rfl (.cons rfl (.cons rfl (.cons rfl (.cons rfl .nil))))))))⟩)
              subst hy
              have hee : (endU w.toNat k).toNat < 45 := end_lt _ _
              obtain ⟨n1, j3, ok3, hn3⟩ := num_some s a (endU w.toNat k)
              -- region 19
              refine Gx.region_ax (α := Unit) (fun y => True) (fun y => [(0, .pointer (some ⟨b, 0, none⟩)), (2, .pointer (some ⟨b2, 0, none⟩)), (4, .int .i64 w), (5, .bool ok3), (7, .pointer (some ⟨b7, 0, none⟩)), (71, .int .i64 l0.length), (72, .int .i64 k)]) (fun y => [rdr b s j3, pt b7 37 [.int .i64 w, .int .i64 h, v64], sl 3 1 v64 l0.length (intsV (l.set k n1)), pt b2 37 [.int .i64 0, .int .i64 0, .slice none 0 0]]) [pt b7 37 [.int .i64 w, .int .i64 h, v64]] mixed ?_ (fun y hy => ?_)
              · -- orders
                refine Ax.fl 0 rfl (by kernel_rfl) (by kernel_rfl) (by kernel_rfl) rfl rfl (.fieldAddr rfl) ?_
                refine Ax.fl 1 rfl (by kernel_rfl) (by kernel_rfl) (by kernel_rfl) rfl rfl (.ld rfl rfl) ?_
                refine Ax.fl 2 rfl (by kernel_rfl) (by kernel_rfl) (by kernel_rfl) rfl rfl (.move rfl) ?_
                refine Ax.fl 3 rfl (by kernel_rfl) (by kernel_rfl) (by kernel_rfl) rfl rfl (.move rfl) ?_
                refine Ax.fl 4 rfl (by kernel_rfl) (by kernel_rfl) (by kernel_rfl) rfl rfl (.move rfl) ?_
                refine Ax.one 5 (by kernel_rfl) rfl ?_
                -- first 5
                refine Rx.cal (caps := []) (ref38_numR b s a (endU w.toNat k) hs ha hee hn3) rfl rfl rfl fun v86 L86 hP86 => ?_
                obtain ⟨rfl, rfl⟩ := hP86
                refine Ax.back ?_
                refine Ax.fl 6 rfl (by kernel_rfl) (by kernel_rfl) (by kernel_rfl) rfl rfl (.move rfl) ?_
                refine Ax.fl 7 rfl (by kernel_rfl) (by kernel_rfl) (by kernel_rfl) rfl rfl (.extract rfl rfl) ?_
                refine Ax.fl 8 rfl (by kernel_rfl) (by kernel_rfl) (by kernel_rfl) rfl rfl (.extract rfl rfl) ?_
                refine Ax.one 9 (by kernel_rfl) rfl ?_
                -- first 9
                refine Rx.q rfl (.idx (j := k) rfl rfl (by omega) (by omega)) ?_
                refine Ax.back ?_
                refine Ax.one 10 (by kernel_rfl) rfl ?_
                -- first 10
                refine Rx.sti rfl rfl rfl (by omega) ?_
                refine Ax.back ?_
                refine Ax.fl 11 rfl (by kernel_rfl) (by kernel_rfl) (by kernel_rfl) rfl rfl (.assign rfl) ?_
                refine Ax.fin (by kernel_rfl) fun aa ww hzz => ⟨(), trivial, hzz.to (.cons rfl (.cons rfl (.cons rfl (.cons rfl (.cons rfl (.cons rfl (.cons rfl .nil)))))))⟩
              -- region 20
              refine Gx.seq_region ?_
              refine Rx.q rfl (.move rfl) ?_
              refine Rx.q rfl (.not rfl) ?_
              refine Rx.next ?_
              refine Gx.cond rfl (fun h91 => ?_) (fun h91 => ?_)
              · -- way
                have h91 := bnot_t h91
                have hbad : j3 = a ∧ ∀ n j, ¬ NumAt s a (endU w.toNat k) n j := by
                  rcases hn3 with ⟨e, _⟩ | ⟨_, _, e, h⟩
                  · rw [h91] at e; cases e
                  · exact ⟨e, h⟩
                have hno := plane_nonum hw1.1 hh1.1 hlz (Pl.right_iff.2 ⟨hw, hh, by show (l.length : Int) = w * h; rw [← hle', hll]⟩) (by omega) hX hbad.2
                -- region 21
                refine Gx.seq_region ?_
                refine Rx.q rfl (.build (cs := [.int .i64 0, .int .i64 0, .slice none 0 0]) rfl rfl) ?_
                refine Rx.stc rfl rfl (by first | rfl | simp only [List.all_cons, List.all_nil, one_int, one_bool, one_str, one_ptr, one_slice, one_func, Bool.and_true, Bool.true_and, *]) (by rfl) ?_
                refine Rx.q rfl (.assign rfl) ?_
                refine Rx.next ?_
                refine Gx.nilS (e := 3) (sz := 1) ?_
                refine Gx.ret fun aa ww hzz => (blk_ret (then_ret (then_ret (blk_ret (then_ret (fin_ct (L1 := [rdr b s j3, nilI]) hzz rfl rfl (by rfl) rfl (⟨_, zeroP, j3, _, rfl, rfl, rfl, (by omega), .inr ⟨rfl, hno, rfl⟩⟩)))))))
              · -- way
                have h91 := bnot_f h91
                have hn4 : NumAt s a (endU w.toNat k) n1 j3 := by
                  rcases hn3 with ⟨_, h⟩ | ⟨e, _⟩
                  · exact h
                  · rw [h91] at e; cases e
                obtain ⟨hj3, _, _⟩ := num_at hn4
                have hX2 := plane_more (by omega) hX hn4
                have hlz2 : i64s (l.set k n1) := fun x hx => by
                  rcases List.mem_or_eq_of_mem_set hx with hx | rfl
                  · exact hlz x hx
                  · exact hn4.1
                refine Gx.skip fun aa ww hzz => (blk_normal (then_normal (Gx.go hzz ?_)))
                -- region 22
                refine Gx.region ?_
                refine Rx.q rfl (.add_ rfl rfl (by omega)) ?_
                refine Rx.q rfl (.move rfl) ?_
                refine Rx.nil fun aa ww hzz => (then_normal ⟨(k + 1, l.set k n1, j3), ⟨by show k + 1 ≤ l0.length; omega, by rw [List.length_set]; exact hll, hlz2, hj3, hX2⟩, (by show l0.length - (k + 1) < l0.length - k; omega), hzz.to (.cons rfl (.cons rfl (.cons rfl (.cons rfl (.cons rfl (.cons rfl .nil))))))⟩)
            · -- way
              have h73 := of_decide_eq_false h73
              obtain rfl : k = l0.length := by omega
              have hright : (Pl.mk w h l).right = true := Pl.right_iff.2 ⟨hw, hh, by show (l.length : Int) = w * h; rw [← hle', hll]⟩
              rw [← hll] at hX
              have hyes := plane_all hi ha hright hlz hX
              rw [← hll]
              refine Gx.exit fun aa ww hzz => (then_exit (then_exit (blk_exit (then_normal (Gx.go hzz ?_)))))
              -- region 23
              refine Gx.seq_region ?_
              refine Rx.q rfl (.ldc rfl (by rfl)) ?_
              refine Rx.stc rfl rfl (by first | rfl | simp only [List.all_cons, List.all_nil, one_int, one_bool, one_str, one_ptr, one_slice, one_func, Bool.and_true, Bool.true_and, *]) (by rfl) ?_
              refine Rx.q rfl (.assign rfl) ?_
              refine Rx.next ?_
              refine Gx.ret fun aa ww hzz => (fin_ct hzz rfl rfl (by rfl) rfl (⟨v64, ⟨w, h, l⟩, a, _, rfl, rfl, ho64, ha, .inl ⟨rfl, hyes⟩⟩))

end Go.Proofs.YtoiebfpafdcbmaaDoor
