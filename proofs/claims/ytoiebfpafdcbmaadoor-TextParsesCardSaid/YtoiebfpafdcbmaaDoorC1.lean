/- Contracts of layer plane: what is a plane, rows; the document's own plane. -/
import Derived.Test.YtoiebfpafdcbmaaDoorC0
namespace Go.Proofs.YtoiebfpafdcbmaaDoor
open Go Go.RowKit K
set_option linter.unusedVariables false
set_option linter.unusedSimpArgs false

/-- A plane's data. -/
structure Pl where
  w : Int
  h : Int
  l : List Int
  deriving DecidableEq
/-- .. as a value, its numbers behind v. -/
abbrev plC (p : Pl) (v : Value) : List Value := [.int .i64 p.w, .int .i64 p.h, v]
def sideB (n : Int) : Bool := decide (1 ≤ n ∧ n ≤ 1024)
def Pl.right (p : Pl) : Bool := sideB p.w && sideB p.h && decide ((p.l.length : Int) = p.w * p.h)
theorem sideB_iff {n : Int} : sideB n = true ↔ 1 ≤ n ∧ n ≤ 1024 := by simp [sideB]
theorem Pl.right_iff {p : Pl} : p.right = true ↔ (1 ≤ p.w ∧ p.w ≤ 1024) ∧ (1 ≤ p.h ∧ p.h ≤ 1024) ∧ (p.l.length : Int) = p.w * p.h := by
  simp only [Pl.right, Bool.and_eq_true, sideB_iff, decide_eq_true_eq, and_assoc]
theorem mul_sides {a b : Int} (ha : 1 ≤ a ∧ a ≤ 1024) (hb : 1 ≤ b ∧ b ≤ 1024) : 1 ≤ a * b ∧ a * b ≤ 1048576 := by
  have h1 : a * b ≤ 1024 * 1024 := Int.mul_le_mul ha.2 hb.2 (by omega) (by omega)
  have h2 : 1 * 1 ≤ a * b := Int.mul_le_mul ha.1 hb.1 (by omega) (by omega)
  omega

theorem plane_side (n : Int) : Spc Tryd.prog 78 [.int .i64 n] [] [] (ret (.bool (sideB n))) := by
  refine Spc.intro Tryd.func78 rfl Tryd.ntmps78 (by kernel_rfl) rfl rfl fun w0 F0 => ?_
  -- region 0
  refine Gx.seq_region ?_
  refine Rx.q rfl (.assign rfl) ?_
  refine Rx.next ?_
  -- region 1
  refine Gx.seq_region ?_
  refine Rx.q rfl (.move rfl) ?_
  refine Rx.q rfl (.geq rfl rfl) ?_
  refine Rx.q rfl (.move rfl) ?_
  refine Rx.split 5 rfl (fun h5 => ?_) (fun h5 => ?_)
  · -- way
    have h5 := of_decide_eq_true h5
    refine Rx.guard_yes rfl rfl rfl (Rx.q rfl (.move rfl) ?_)
    refine Rx.guard_yes rfl rfl rfl (Rx.q rfl (.leq rfl rfl) ?_)
    refine Rx.q rfl (.pick_t rfl rfl) ?_
    refine Rx.q rfl (.assign rfl) ?_
    refine Rx.next ?_
    refine Gx.ret fun aa ww hzz => (fin_tmp hzz rfl rfl (⟨congrArg Value.bool (decide_eq_decide.2 ⟨fun h => ⟨by omega, by omega⟩, fun h => by omega⟩), rfl⟩))
  · -- way
    have h5 := of_decide_eq_false h5
    refine Rx.guard_no rfl rfl rfl rfl rfl ?_
    refine Rx.guard_no rfl rfl rfl rfl rfl ?_
    refine Rx.q rfl (.pick_f rfl rfl) ?_
    refine Rx.q rfl (.assign rfl) ?_
    refine Rx.next ?_
    refine Gx.ret fun aa ww hzz => (fin_tmp hzz rfl rfl (⟨congrArg Value.bool (decide_eq_false (by omega)).symm, rfl⟩))


theorem plane_Right (p : Pl) (v : Value) : Spc Tryd.prog 49 [.agg (plC p v).toArray] [] [rd 1 v p.l.length (intsV p.l)] (ret (.bool p.right)) := by
  refine Spc.intro Tryd.func49 rfl Tryd.ntmps49 (by kernel_rfl) rfl rfl fun w0 F0 => ?_
  -- region 0
  refine Gx.seq_region ?_
  refine Rx.box (vs := plC p v) rfl rfl rfl fun b1 => ?_
  refine Rx.q rfl (.assign rfl) ?_
  refine Rx.next ?_
  -- region 1
  refine Gx.seq_region ?_
  refine Rx.q rfl (.fieldAddr rfl) ?_
  refine Rx.q rfl (.ld rfl rfl) ?_
  refine Rx.q rfl (.cal (caps := []) (plane_side _) rfl rfl) ?_
  refine Rx.q rfl (.move rfl) ?_
  refine Rx.split 6 rfl (fun h6 => ?_) (fun h6 => ?_)
  · -- way
    refine Rx.guard_yes rfl rfl rfl (Rx.q rfl (.fieldAddr rfl) ?_)
    refine Rx.guard_yes rfl rfl rfl (Rx.q rfl (.ld rfl rfl) ?_)
    refine Rx.guard_yes rfl rfl rfl (Rx.q rfl (.cal (caps := []) (plane_side _) rfl rfl) ?_)
    refine Rx.q rfl (.pick_t rfl rfl) ?_
    refine Rx.q rfl (.move rfl) ?_
    refine Rx.split 11 rfl (fun h11 => ?_) (fun h11 => ?_)
    · -- way
      have h3 := mul_sides (sideB_iff.1 h6) (sideB_iff.1 h11)
      refine Rx.guard_yes rfl rfl rfl (Rx.q rfl (.fieldAddr rfl) ?_)
      refine Rx.guard_yes rfl rfl rfl (Rx.q rfl (.ld rfl rfl) ?_)
      refine Rx.guard_yes rfl rfl rfl (Rx.q rfl (.lens rfl) ?_)
      refine Rx.guard_yes rfl rfl rfl (Rx.q rfl (.fieldAddr rfl) ?_)
      refine Rx.guard_yes rfl rfl rfl (Rx.q rfl (.ld rfl rfl) ?_)
      refine Rx.guard_yes rfl rfl rfl (Rx.q rfl (.fieldAddr rfl) ?_)
      refine Rx.guard_yes rfl rfl rfl (Rx.q rfl (.ld rfl rfl) ?_)
      refine Rx.guard_yes rfl rfl rfl (Rx.q rfl (.mul_ rfl rfl (by omega)) ?_)
      refine Rx.guard_yes rfl rfl rfl (Rx.q rfl (.eql rfl rfl) ?_)
      refine Rx.q rfl (.pick_t rfl rfl) ?_
      refine Rx.q rfl (.assign rfl) ?_
      refine Rx.next ?_
      refine Gx.ret fun aa ww hzz => (fin_tmp hzz rfl rfl (⟨congrArg Value.bool (by rw [Pl.right, h6, h11]; rfl), rfl⟩))
    · -- way
      refine Rx.guard_no rfl rfl rfl rfl rfl ?_
      refine Rx.guard_no rfl rfl rfl rfl rfl ?_
      refine Rx.guard_no rfl rfl rfl rfl rfl ?_
      refine Rx.guard_no rfl rfl rfl rfl rfl ?_
      refine Rx.guard_no rfl rfl rfl rfl rfl ?_
      refine Rx.guard_no rfl rfl rfl rfl rfl ?_
      refine Rx.guard_no rfl rfl rfl rfl rfl ?_
      refine Rx.guard_no rfl rfl rfl rfl rfl ?_
      refine Rx.guard_no rfl rfl rfl rfl rfl ?_
      refine Rx.q rfl (.pick_f rfl rfl) ?_
      refine Rx.q rfl (.assign rfl) ?_
      refine Rx.next ?_
      refine Gx.ret fun aa ww hzz => (fin_tmp hzz rfl rfl (⟨congrArg Value.bool (by rw [Pl.right, h6, h11]; rfl), rfl⟩))
  · -- way
    refine Rx.guard_no rfl rfl rfl rfl rfl ?_
    refine Rx.guard_no rfl rfl rfl rfl rfl ?_
    refine Rx.guard_no rfl rfl rfl rfl rfl ?_
    refine Rx.q rfl (.pick_f rfl rfl) ?_
    refine Rx.q rfl (.move rfl) ?_
    refine Rx.guard_no rfl rfl rfl rfl rfl ?_
    refine Rx.guard_no rfl rfl rfl rfl rfl ?_
    refine Rx.guard_no rfl rfl rfl rfl rfl ?_
    refine Rx.guard_no rfl rfl rfl rfl rfl ?_
    refine Rx.guard_no rfl rfl rfl rfl rfl ?_
    refine Rx.guard_no rfl rfl rfl rfl rfl ?_
    refine Rx.guard_no rfl rfl rfl rfl rfl ?_
    refine Rx.guard_no rfl rfl rfl rfl rfl ?_
    refine Rx.guard_no rfl rfl rfl rfl rfl ?_
    refine Rx.q rfl (.pick_f rfl rfl) ?_
    refine Rx.q rfl (.assign rfl) ?_
    refine Rx.next ?_
    refine Gx.ret fun aa ww hzz => (fin_tmp hzz rfl rfl (⟨congrArg Value.bool (by rw [Pl.right, h6]; rfl), rfl⟩))


theorem ref07_Right (p : Pl) (v : Value) : Spc Tryd.prog 31 [.agg (plC p v).toArray] [] [rd 1 v p.l.length (intsV p.l)] (ret (.bool p.right)) := by
  refine Spc.intro Tryd.func31 rfl Tryd.ntmps31 (by kernel_rfl) rfl rfl fun w0 F0 => ?_
  -- region 0
  refine Gx.seq_region ?_
  refine Rx.box (vs := plC p v) rfl rfl rfl fun b1 => ?_
  refine Rx.q rfl (.assign rfl) ?_
  refine Rx.next ?_
  -- region 1
  refine Gx.seq_region ?_
  refine Rx.q rfl (.fieldAddr rfl) ?_
  refine Rx.q rfl (.ld rfl rfl) ?_
  refine Rx.q rfl (.geq rfl rfl) ?_
  refine Rx.q rfl (.move rfl) ?_
  refine Rx.split 6 rfl (fun h6 => ?_) (fun h6 => ?_)
  · -- way
    have h6 := of_decide_eq_true h6
    refine Rx.guard_yes rfl rfl rfl (Rx.q rfl (.fieldAddr rfl) ?_)
    refine Rx.guard_yes rfl rfl rfl (Rx.q rfl (.ld rfl rfl) ?_)
    refine Rx.guard_yes rfl rfl rfl (Rx.q rfl (.leq rfl rfl) ?_)
    refine Rx.q rfl (.pick_t rfl rfl) ?_
    refine Rx.q rfl (.move rfl) ?_
    refine Rx.split 11 rfl (fun h11 => ?_) (fun h11 => ?_)
    · -- way
      have h11 := of_decide_eq_true h11
      refine Rx.guard_yes rfl rfl rfl (Rx.q rfl (.fieldAddr rfl) ?_)
      refine Rx.guard_yes rfl rfl rfl (Rx.q rfl (.ld rfl rfl) ?_)
      refine Rx.guard_yes rfl rfl rfl (Rx.q rfl (.geq rfl rfl) ?_)
      refine Rx.q rfl (.pick_t rfl rfl) ?_
      refine Rx.q rfl (.move rfl) ?_
      refine Rx.split 16 rfl (fun h16 => ?_) (fun h16 => ?_)
      · -- way
        have h16 := of_decide_eq_true h16
        refine Rx.guard_yes rfl rfl rfl (Rx.q rfl (.fieldAddr rfl) ?_)
        refine Rx.guard_yes rfl rfl rfl (Rx.q rfl (.ld rfl rfl) ?_)
        refine Rx.guard_yes rfl rfl rfl (Rx.q rfl (.leq rfl rfl) ?_)
        refine Rx.q rfl (.pick_t rfl rfl) ?_
        refine Rx.q rfl (.move rfl) ?_
        refine Rx.split 21 rfl (fun h21 => ?_) (fun h21 => ?_)
        · -- way
          have h21 := of_decide_eq_true h21
          have h3 := mul_sides (a := p.w) (b := p.h) ⟨h6, h11⟩ ⟨h16, h21⟩
          refine Rx.guard_yes rfl rfl rfl (Rx.q rfl (.fieldAddr rfl) ?_)
          refine Rx.guard_yes rfl rfl rfl (Rx.q rfl (.ld rfl rfl) ?_)
          refine Rx.guard_yes rfl rfl rfl (Rx.q rfl (.lens rfl) ?_)
          refine Rx.guard_yes rfl rfl rfl (Rx.q rfl (.fieldAddr rfl) ?_)
          refine Rx.guard_yes rfl rfl rfl (Rx.q rfl (.ld rfl rfl) ?_)
          refine Rx.guard_yes rfl rfl rfl (Rx.q rfl (.fieldAddr rfl) ?_)
          refine Rx.guard_yes rfl rfl rfl (Rx.q rfl (.ld rfl rfl) ?_)
          refine Rx.guard_yes rfl rfl rfl (Rx.q rfl (.mul_ rfl rfl (by omega)) ?_)
          refine Rx.guard_yes rfl rfl rfl (Rx.q rfl (.eql rfl rfl) ?_)
          refine Rx.q rfl (.pick_t rfl rfl) ?_
          refine Rx.q rfl (.assign rfl) ?_
          refine Rx.next ?_
          refine Gx.ret fun aa ww hzz => (fin_tmp hzz rfl rfl (⟨congrArg Value.bool (by rw [Pl.right, sideB_iff.2 ⟨h6, h11⟩, sideB_iff.2 ⟨h16, h21⟩, Bool.true_and, Bool.true_and]), rfl⟩))
        · -- way
          have h21 := of_decide_eq_false h21
          refine Rx.guard_no rfl rfl rfl rfl rfl ?_
          refine Rx.guard_no rfl rfl rfl rfl rfl ?_
          refine Rx.guard_no rfl rfl rfl rfl rfl ?_
          refine Rx.guard_no rfl rfl rfl rfl rfl ?_
          refine Rx.guard_no rfl rfl rfl rfl rfl ?_
          refine Rx.guard_no rfl rfl rfl rfl rfl ?_
          refine Rx.guard_no rfl rfl rfl rfl rfl ?_
          refine Rx.guard_no rfl rfl rfl rfl rfl ?_
          refine Rx.guard_no rfl rfl rfl rfl rfl ?_
          refine Rx.q rfl (.pick_f rfl rfl) ?_
          refine Rx.q rfl (.assign rfl) ?_
          refine Rx.next ?_
          refine Gx.ret fun aa ww hzz => (fin_tmp hzz rfl rfl (⟨congrArg Value.bool (Eq.symm (by rw [← Bool.not_eq_true, Pl.right_iff]; intro h; omega)), rfl⟩))
      · -- way
        have h16 := of_decide_eq_false h16
        refine Rx.guard_no rfl rfl rfl rfl rfl ?_
        refine Rx.guard_no rfl rfl rfl rfl rfl ?_
        refine Rx.guard_no rfl rfl rfl rfl rfl ?_
        refine Rx.q rfl (.pick_f rfl rfl) ?_
        refine Rx.q rfl (.move rfl) ?_
        refine Rx.guard_no rfl rfl rfl rfl rfl ?_
        refine Rx.guard_no rfl rfl rfl rfl rfl ?_
        refine Rx.guard_no rfl rfl rfl rfl rfl ?_
        refine Rx.guard_no rfl rfl rfl rfl rfl ?_
        refine Rx.guard_no rfl rfl rfl rfl rfl ?_
        refine Rx.guard_no rfl rfl rfl rfl rfl ?_
        refine Rx.guard_no rfl rfl rfl rfl rfl ?_
        refine Rx.guard_no rfl rfl rfl rfl rfl ?_
        refine Rx.guard_no rfl rfl rfl rfl rfl ?_
        refine Rx.q rfl (.pick_f rfl rfl) ?_
        refine Rx.q rfl (.assign rfl) ?_
        refine Rx.next ?_
        refine Gx.ret fun aa ww hzz => (fin_tmp hzz rfl rfl (⟨congrArg Value.bool (Eq.symm (by rw [← Bool.not_eq_true, Pl.right_iff]; intro h; omega)), rfl⟩))
    · -- way
      have h11 := of_decide_eq_false h11
      refine Rx.guard_no rfl rfl rfl rfl rfl ?_
      refine Rx.guard_no rfl rfl rfl rfl rfl ?_
      refine Rx.guard_no rfl rfl rfl rfl rfl ?_
      refine Rx.q rfl (.pick_f rfl rfl) ?_
      refine Rx.q rfl (.move rfl) ?_
      refine Rx.guard_no rfl rfl rfl rfl rfl ?_
      refine Rx.guard_no rfl rfl rfl rfl rfl ?_
      refine Rx.guard_no rfl rfl rfl rfl rfl ?_
      refine Rx.q rfl (.pick_f rfl rfl) ?_
      refine Rx.q rfl (.move rfl) ?_
      refine Rx.guard_no rfl rfl rfl rfl rfl ?_
      refine Rx.guard_no rfl rfl rfl rfl rfl ?_
      refine Rx.guard_no rfl rfl rfl rfl rfl ?_
      refine Rx.guard_no rfl rfl rfl rfl rfl ?_
      refine Rx.guard_no rfl rfl rfl rfl rfl ?_
      refine Rx.guard_no rfl rfl rfl rfl rfl ?_
      refine Rx.guard_no rfl rfl rfl rfl rfl ?_
      refine Rx.guard_no rfl rfl rfl rfl rfl ?_
      refine Rx.guard_no rfl rfl rfl rfl rfl ?_
      refine Rx.q rfl (.pick_f rfl rfl) ?_
      refine Rx.q rfl (.assign rfl) ?_
      refine Rx.next ?_
      refine Gx.ret fun aa ww hzz => (fin_tmp hzz rfl rfl (⟨congrArg Value.bool (Eq.symm (by rw [← Bool.not_eq_true, Pl.right_iff]; intro h; omega)), rfl⟩))
  · -- way
    have h6 := of_decide_eq_false h6
    refine Rx.guard_no rfl rfl rfl rfl rfl ?_
    refine Rx.guard_no rfl rfl rfl rfl rfl ?_
    refine Rx.guard_no rfl rfl rfl rfl rfl ?_
    refine Rx.q rfl (.pick_f rfl rfl) ?_
    refine Rx.q rfl (.move rfl) ?_
    refine Rx.guard_no rfl rfl rfl rfl rfl ?_
    refine Rx.guard_no rfl rfl rfl rfl rfl ?_
    refine Rx.guard_no rfl rfl rfl rfl rfl ?_
    refine Rx.q rfl (.pick_f rfl rfl) ?_
    refine Rx.q rfl (.move rfl) ?_
    refine Rx.guard_no rfl rfl rfl rfl rfl ?_
    refine Rx.guard_no rfl rfl rfl rfl rfl ?_
    refine Rx.guard_no rfl rfl rfl rfl rfl ?_
    refine Rx.q rfl (.pick_f rfl rfl) ?_
    refine Rx.q rfl (.move rfl) ?_
    refine Rx.guard_no rfl rfl rfl rfl rfl ?_
    refine Rx.guard_no rfl rfl rfl rfl rfl ?_
    refine Rx.guard_no rfl rfl rfl rfl rfl ?_
    refine Rx.guard_no rfl rfl rfl rfl rfl ?_
    refine Rx.guard_no rfl rfl rfl rfl rfl ?_
    refine Rx.guard_no rfl rfl rfl rfl rfl ?_
    refine Rx.guard_no rfl rfl rfl rfl rfl ?_
    refine Rx.guard_no rfl rfl rfl rfl rfl ?_
    refine Rx.guard_no rfl rfl rfl rfl rfl ?_
    refine Rx.q rfl (.pick_f rfl rfl) ?_
    refine Rx.q rfl (.assign rfl) ?_
    refine Rx.next ?_
    refine Gx.ret fun aa ww hzz => (fin_tmp hzz rfl rfl (⟨congrArg Value.bool (Eq.symm (by rw [← Bool.not_eq_true, Pl.right_iff]; intro h; omega)), rfl⟩))


/-- A plane of noughts, or none. -/
def newP (w h : Int) : Pl := if sideB w && sideB h then ⟨w, h, List.replicate (w * h).toNat 0⟩ else ⟨0, 0, []⟩
theorem newP_yes {w h : Int} (hw : sideB w = true) (hh : sideB h = true) : newP w h = ⟨w, h, List.replicate (w * h).toNat 0⟩ := by simp [newP, hw, hh]
theorem newP_no {w h : Int} (h0 : (sideB w && sideB h) = false) : newP w h = ⟨0, 0, []⟩ := by simp [newP, h0]
def NewPost (w h : Int) (u : Value) (L : List As) : Prop := ∃ v, u = .agg (plC (newP w h) v).toArray ∧ L = [sl 3 1 v (newP w h).l.length (intsV (newP w h).l)] ∧ v.oneCell' = true

theorem plane_New (w h : Int) : Spc Tryd.prog 98 [.int .i64 w, .int .i64 h] [] [] (NewPost w h) := by
  refine Spc.intro Tryd.func98 rfl Tryd.ntmps98 (by kernel_rfl) rfl rfl fun w0 F0 => ?_
  -- region 0
  refine Gx.seq_region ?_
  refine Rx.alloc (zs := [.int .i64 0, .int .i64 0, .slice none 0 0]) rfl rfl fun b4 => ?_
  refine Rx.next ?_
  refine Gx.seq ?_
  -- region 1
  refine Gx.seq_region ?_
  refine Rx.q rfl (.move rfl) ?_
  refine Rx.q rfl (.cal (caps := []) (plane_side _) rfl rfl) ?_
  refine Rx.q rfl (.not rfl) ?_
  refine Rx.q rfl (.move rfl) ?_
  refine Rx.split 8 rfl (fun h8 => ?_) (fun h8 => ?_)
  · -- way
    have h8 := bnot_t h8
    have h0 : (sideB w && sideB h) = false := by rw [h8]; rfl
    refine Rx.guard_no rfl rfl rfl rfl rfl ?_
    refine Rx.guard_no rfl rfl rfl rfl rfl ?_
    refine Rx.guard_no rfl rfl rfl rfl rfl ?_
    refine Rx.q rfl (.pick_t rfl rfl) ?_
    refine Rx.next ?_
    refine Gx.cond_t rfl ?_
    -- region 2
    refine Gx.seq_region ?_
    refine Rx.q rfl (.build (cs := [.int .i64 0, .int .i64 0, .slice none 0 0]) rfl rfl) ?_
    refine Rx.stc rfl rfl (by first | rfl | simp only [List.all_cons, List.all_nil, one_int, one_bool, one_str, one_ptr, one_slice, one_func, Bool.and_true, Bool.true_and, *]) (by rfl) ?_
    refine Rx.next ?_
    refine Gx.nilS (e := 3) (sz := 1) ?_
    refine Gx.ret fun aa ww hzz => (then_ret (fin_c (L1 := [sl 3 1 (.slice none 0 0) 0 []]) hzz rfl rfl (by rfl) (by rw [NewPost, newP_no h0]; exact ⟨_, rfl, rfl, rfl⟩)))
  · -- way
    have h8 := bnot_f h8
    refine Rx.guard_yes rfl rfl rfl (Rx.q rfl (.move rfl) ?_)
    refine Rx.guard_yes rfl rfl rfl (Rx.q rfl (.cal (caps := []) (plane_side _) rfl rfl) ?_)
    refine Rx.guard_yes rfl rfl rfl (Rx.q rfl (.not rfl) ?_)
    refine Rx.q rfl (.pick_f rfl rfl) ?_
    refine Rx.next ?_
    refine Gx.cond rfl (fun h12 => ?_) (fun h12 => ?_)
    · -- way
      have h12 := bnot_t h12
      have h0 : (sideB w && sideB h) = false := by rw [h12, Bool.and_false]
      -- region 2
      refine Gx.seq_region ?_
      refine Rx.q rfl (.build (cs := [.int .i64 0, .int .i64 0, .slice none 0 0]) rfl rfl) ?_
      refine Rx.stc rfl rfl (by first | rfl | simp only [List.all_cons, List.all_nil, one_int, one_bool, one_str, one_ptr, one_slice, one_func, Bool.and_true, Bool.true_and, *]) (by rfl) ?_
      refine Rx.next ?_
      refine Gx.nilS (e := 3) (sz := 1) ?_
      refine Gx.ret fun aa ww hzz => (then_ret (fin_c (L1 := [sl 3 1 (.slice none 0 0) 0 []]) hzz rfl rfl (by rfl) (by rw [NewPost, newP_no h0]; exact ⟨_, rfl, rfl, rfl⟩)))
    · -- way
      have h12 := bnot_f h12
      have h3 := mul_sides (sideB_iff.1 h8) (sideB_iff.1 h12)
      refine Gx.skip fun aa ww hzz => (then_normal (Gx.go hzz ?_))
      -- region 3
      refine Gx.seq_region ?_
      refine Rx.q rfl (.move rfl) ?_
      refine Rx.q rfl (.move rfl) ?_
      refine Rx.q rfl (.move rfl) ?_
      refine Rx.q rfl (.move rfl) ?_
      refine Rx.q rfl (.mul_ rfl rfl (by omega)) ?_
      refine Rx.makeSlice rfl rfl (by omega) rfl fun v19 hv19 => ?_
      rw [made_ints]
      refine Rx.one v19 fun ho19 => ?_
      refine Rx.q rfl (.buildv rfl rfl rfl rfl (by first | rfl | simp only [List.all_cons, List.all_nil, one_int, one_bool, one_str, one_ptr, one_slice, one_func, Bool.and_true, Bool.true_and, *])) ?_
      refine Rx.stc rfl rfl (by first | rfl | simp only [List.all_cons, List.all_nil, one_int, one_bool, one_str, one_ptr, one_slice, one_func, Bool.and_true, Bool.true_and, *]) (by rfl) ?_
      refine Rx.next ?_
      refine Gx.ret fun aa ww hzz => (fin_c (L1 := [sl 3 1 v19 (w * h).toNat (intsV (List.replicate (w * h).toNat 0))]) hzz rfl rfl (by rfl) (by rw [NewPost, newP_yes h8 h12]; exact ⟨v19, rfl, by rw [List.length_replicate], ho19⟩))

theorem ref07_New (w h : Int) : Spc Tryd.prog 58 [.int .i64 w, .int .i64 h] [] [] (NewPost w h) := by
  refine Spc.intro Tryd.func58 rfl Tryd.ntmps58 (by kernel_rfl) rfl rfl fun w0 F0 => ?_
  have key : ∀ a b : Int, (a < 1 ∨ 1024 < a) ∨ (b < 1 ∨ 1024 < b) → (sideB a && sideB b) = false := fun a b hh => by
    rw [← Bool.not_eq_true, Bool.and_eq_true, sideB_iff, sideB_iff]; omega
  -- region 0
  refine Gx.seq_region ?_
  refine Rx.alloc (zs := [.int .i64 0, .int .i64 0, .slice none 0 0]) rfl rfl fun b4 => ?_
  refine Rx.next ?_
  refine Gx.seq ?_
  -- region 1
  refine Gx.seq_region ?_
  refine Rx.q rfl (.move rfl) ?_
  refine Rx.q rfl (.lss rfl rfl) ?_
  refine Rx.q rfl (.move rfl) ?_
  refine Rx.split 7 rfl (fun h7 => ?_) (fun h7 => ?_)
  · -- way
    have h7 := of_decide_eq_true h7
    have h0 := key w h (by omega)
    refine Rx.guard_no rfl rfl rfl rfl rfl ?_
    refine Rx.guard_no rfl rfl rfl rfl rfl ?_
    refine Rx.q rfl (.pick_t rfl rfl) ?_
    refine Rx.q rfl (.move rfl) ?_
    refine Rx.guard_no rfl rfl rfl rfl rfl ?_
    refine Rx.guard_no rfl rfl rfl rfl rfl ?_
    refine Rx.q rfl (.pick_t rfl rfl) ?_
    refine Rx.q rfl (.move rfl) ?_
    refine Rx.guard_no rfl rfl rfl rfl rfl ?_
    refine Rx.guard_no rfl rfl rfl rfl rfl ?_
    refine Rx.q rfl (.pick_t rfl rfl) ?_
    refine Rx.next ?_
    refine Gx.cond_t rfl ?_
    -- region 2
    refine Gx.seq_region ?_
    refine Rx.q rfl (.build (cs := [.int .i64 0, .int .i64 0, .slice none 0 0]) rfl rfl) ?_
    refine Rx.stc rfl rfl (by first | rfl | simp only [List.all_cons, List.all_nil, one_int, one_bool, one_str, one_ptr, one_slice, one_func, Bool.and_true, Bool.true_and, *]) (by rfl) ?_
    refine Rx.next ?_
    refine Gx.nilS (e := 3) (sz := 1) ?_
    refine Gx.ret fun aa ww hzz => (then_ret (fin_c (L1 := [sl 3 1 (.slice none 0 0) 0 []]) hzz rfl rfl (by rfl) (by rw [NewPost, newP_no h0]; exact ⟨_, rfl, rfl, rfl⟩)))
  · -- way
    have h7 := of_decide_eq_false h7
    refine Rx.guard_yes rfl rfl rfl (Rx.q rfl (.move rfl) ?_)
    refine Rx.guard_yes rfl rfl rfl (Rx.q rfl (.gtr rfl rfl) ?_)
    refine Rx.q rfl (.pick_f rfl rfl) ?_
    refine Rx.q rfl (.move rfl) ?_
    refine Rx.split 11 rfl (fun h11 => ?_) (fun h11 => ?_)
    · -- way
      have h11 := of_decide_eq_true h11
      have h0 := key w h (by omega)
      refine Rx.guard_no rfl rfl rfl rfl rfl ?_
      refine Rx.guard_no rfl rfl rfl rfl rfl ?_
      refine Rx.q rfl (.pick_t rfl rfl) ?_
      refine Rx.q rfl (.move rfl) ?_
      refine Rx.guard_no rfl rfl rfl rfl rfl ?_
      refine Rx.guard_no rfl rfl rfl rfl rfl ?_
      refine Rx.q rfl (.pick_t rfl rfl) ?_
      refine Rx.next ?_
      refine Gx.cond_t rfl ?_
      -- region 2
      refine Gx.seq_region ?_
      refine Rx.q rfl (.build (cs := [.int .i64 0, .int .i64 0, .slice none 0 0]) rfl rfl) ?_
      refine Rx.stc rfl rfl (by first | rfl | simp only [List.all_cons, List.all_nil, one_int, one_bool, one_str, one_ptr, one_slice, one_func, Bool.and_true, Bool.true_and, *]) (by rfl) ?_
      refine Rx.next ?_
      refine Gx.nilS (e := 3) (sz := 1) ?_
      refine Gx.ret fun aa ww hzz => (then_ret (fin_c (L1 := [sl 3 1 (.slice none 0 0) 0 []]) hzz rfl rfl (by rfl) (by rw [NewPost, newP_no h0]; exact ⟨_, rfl, rfl, rfl⟩)))
    · -- way
      have h11 := of_decide_eq_false h11
      refine Rx.guard_yes rfl rfl rfl (Rx.q rfl (.move rfl) ?_)
      refine Rx.guard_yes rfl rfl rfl (Rx.q rfl (.lss rfl rfl) ?_)
      refine Rx.q rfl (.pick_f rfl rfl) ?_
      refine Rx.q rfl (.move rfl) ?_
      refine Rx.split 15 rfl (fun h15 => ?_) (fun h15 => ?_)
      · -- way
        have h15 := of_decide_eq_true h15
        have h0 := key w h (by omega)
        refine Rx.guard_no rfl rfl rfl rfl rfl ?_
        refine Rx.guard_no rfl rfl rfl rfl rfl ?_
        refine Rx.q rfl (.pick_t rfl rfl) ?_
        refine Rx.next ?_
        refine Gx.cond_t rfl ?_
        -- region 2
        refine Gx.seq_region ?_
        refine Rx.q rfl (.build (cs := [.int .i64 0, .int .i64 0, .slice none 0 0]) rfl rfl) ?_
        refine Rx.stc rfl rfl (by first | rfl | simp only [List.all_cons, List.all_nil, one_int, one_bool, one_str, one_ptr, one_slice, one_func, Bool.and_true, Bool.true_and, *]) (by rfl) ?_
        refine Rx.next ?_
        refine Gx.nilS (e := 3) (sz := 1) ?_
        refine Gx.ret fun aa ww hzz => (then_ret (fin_c (L1 := [sl 3 1 (.slice none 0 0) 0 []]) hzz rfl rfl (by rfl) (by rw [NewPost, newP_no h0]; exact ⟨_, rfl, rfl, rfl⟩)))
      · -- way
        have h15 := of_decide_eq_false h15
        refine Rx.guard_yes rfl rfl rfl (Rx.q rfl (.move rfl) ?_)
        refine Rx.guard_yes rfl rfl rfl (Rx.q rfl (.gtr rfl rfl) ?_)
        refine Rx.q rfl (.pick_f rfl rfl) ?_
        refine Rx.next ?_
        refine Gx.cond rfl (fun h18 => ?_) (fun h18 => ?_)
        · -- way
          have h18 := of_decide_eq_true h18
          have h0 := key w h (by omega)
          -- region 2
          refine Gx.seq_region ?_
          refine Rx.q rfl (.build (cs := [.int .i64 0, .int .i64 0, .slice none 0 0]) rfl rfl) ?_
          refine Rx.stc rfl rfl (by first | rfl | simp only [List.all_cons, List.all_nil, one_int, one_bool, one_str, one_ptr, one_slice, one_func, Bool.and_true, Bool.true_and, *]) (by rfl) ?_
          refine Rx.next ?_
          refine Gx.nilS (e := 3) (sz := 1) ?_
          refine Gx.ret fun aa ww hzz => (then_ret (fin_c (L1 := [sl 3 1 (.slice none 0 0) 0 []]) hzz rfl rfl (by rfl) (by rw [NewPost, newP_no h0]; exact ⟨_, rfl, rfl, rfl⟩)))
        · -- way
          have h18 := of_decide_eq_false h18
          have h3 := mul_sides (a := w) (b := h) ⟨by omega, by omega⟩ ⟨by omega, by omega⟩
          refine Gx.skip fun aa ww hzz => (then_normal (Gx.go hzz ?_))
          -- region 3
          refine Gx.seq_region ?_
          refine Rx.q rfl (.move rfl) ?_
          refine Rx.q rfl (.move rfl) ?_
          refine Rx.q rfl (.move rfl) ?_
          refine Rx.q rfl (.move rfl) ?_
          refine Rx.q rfl (.mul_ rfl rfl (by omega)) ?_
          refine Rx.makeSlice rfl rfl (by omega) rfl fun v25 hv25 => ?_
          rw [made_ints]
          refine Rx.one v25 fun ho25 => ?_
          refine Rx.q rfl (.buildv rfl rfl rfl rfl (by first | rfl | simp only [List.all_cons, List.all_nil, one_int, one_bool, one_str, one_ptr, one_slice, one_func, Bool.and_true, Bool.true_and, *])) ?_
          refine Rx.stc rfl rfl (by first | rfl | simp only [List.all_cons, List.all_nil, one_int, one_bool, one_str, one_ptr, one_slice, one_func, Bool.and_true, Bool.true_and, *]) (by rfl) ?_
          refine Rx.next ?_
          refine Gx.ret fun aa ww hzz => (fin_c (L1 := [sl 3 1 v25 (w * h).toNat (intsV (List.replicate (w * h).toNat 0))]) hzz rfl rfl (by rfl) (by rw [NewPost, newP_yes (sideB_iff.2 (by omega)) (sideB_iff.2 (by omega))]; exact ⟨v25, rfl, by rw [List.length_replicate], ho25⟩))


/-- Row y. -/
def Pl.row (p : Pl) (y : Nat) : List Int := (p.l.drop (y * p.w.toNat)).take p.w.toNat
theorem Pl.row_bound {p : Pl} (hp : p.right = true) {y : Nat} (hy : y < p.h.toNat) : (y + 1) * p.w.toNat ≤ p.l.length := by
  obtain ⟨h1, h2, h3⟩ := Pl.right_iff.1 hp
  have e : p.l.length = p.h.toNat * p.w.toNat := by
    have : ((p.h.toNat * p.w.toNat : Nat) : Int) = p.w * p.h := by
      rw [Int.natCast_mul, Int.toNat_of_nonneg (by omega), Int.toNat_of_nonneg (by omega), Int.mul_comm]
    omega
  rw [e]; exact Nat.mul_le_mul_right _ hy
theorem Pl.row_length {p : Pl} (hp : p.right = true) {y : Nat} (hy : y < p.h.toNat) : (p.row y).length = p.w.toNat := by
  have := Pl.row_bound hp hy
  rw [Nat.succ_mul] at this
  simp only [Pl.row, List.length_take, List.length_drop]; omega
theorem i64s_row {p : Pl} (h : i64s p.l) (y : Nat) : i64s (p.row y) := fun x hx => h x (List.mem_of_mem_drop (List.mem_of_mem_take hx))

theorem plane_Rows (p : Pl) (v : Value) (ho : v.oneCell' = true) : Spc Tryd.prog 52 [.agg (plC p v).toArray] [] [] (fun u L => ∃ b, u = .func (.func 81) #[] #[.pointer (some ⟨b, 0, none⟩)] ∧ L = [pt b 37 (plC p v)]) := by
  refine Spc.intro Tryd.func52 rfl Tryd.ntmps52 (by kernel_rfl) rfl rfl fun w0 F0 => ?_
  -- region 0
  refine Gx.seq_region ?_
  refine Rx.box (vs := plC p v) rfl rfl rfl fun b1 => ?_
  refine Rx.q rfl (.assign rfl) ?_
  refine Rx.next ?_
  -- region 1
  refine Gx.seq_region ?_
  refine Rx.q rfl (.makeFunc rfl) ?_
  refine Rx.q rfl (.assign rfl) ?_
  refine Rx.next ?_
  refine Gx.ret fun aa ww hzz => (fin_tmp hzz rfl rfl (⟨_, rfl, rfl⟩))

theorem plane_Rows_go (p : Pl) (v : Value) (b : Nat) (hp : p.right = true) (l : Nat) (C : Nat → As) (M0 : List As) (hy : ∀ i, i < p.h.toNat → ∀ u : Value, noSlice u = noSlice u → YSpc Tryd.prog l [.int .i64 i, u] [C i, sl 3 1 u (p.row i).length (intsV (p.row i))] M0 (fun u L => u = .bool true ∧ L = [C (i + 1)])) : Spc Tryd.prog 81 [.func (.yield l) #[] #[], .pointer (some ⟨b, 0, none⟩)] [C 0] (pt b 37 (plC p v) :: rd 1 v p.l.length (intsV p.l) :: M0) (fun u L => L = [C p.h.toNat]) := by
  refine Spc.intro Tryd.func81 rfl Tryd.ntmps81 (by kernel_rfl) rfl rfl fun w0 F0 => ?_
  obtain ⟨h1, h2, h3⟩ := Pl.right_iff.1 hp
  have hm := mul_sides h1 h2
  refine Gx.seq ?_
  -- region 0
  refine Gx.seq_region ?_
  refine Rx.q rfl (.ldc rfl (by rfl)) ?_
  refine Rx.q rfl ((OpQ.cal (caps := []) (plane_Right p v) rfl rfl).val (u := .bool true) (by rw [hp])) ?_
  refine Rx.q rfl (.not rfl) ?_
  refine Rx.next ?_
  refine Gx.cond_f rfl ?_
  refine Gx.skip fun aa ww hzz => (then_normal (Gx.go hzz ?_))
  -- region 1
  refine Gx.seq_region ?_
  refine Rx.q rfl (.fieldAddr rfl) ?_
  refine Rx.q rfl (.ld rfl rfl) ?_
  refine Rx.q rfl (.move rfl) ?_
  refine Rx.next ?_
  refine Gx.block ?_
  refine Gx.lp (α := Nat) (fun j => j ≤ p.h.toNat) (fun j => p.h.toNat - j) (fun j => [(0, .func (.yield l) #[] #[]), (1, .pointer (some ⟨b, 0, none⟩)), (8, .int .i64 p.h), (9, .int .i64 j)])
    (fun j => [C j]) (0) (Nat.zero_le _) ?_ (fun j hx => ?_)
  · exact (.cons rfl (.cons rfl (.cons rfl (.cons rfl .nil))))
  -- region 2
  refine Gx.seq_region ?_
  refine Rx.q rfl (.lss rfl rfl) ?_
  refine Rx.next ?_
  refine Gx.seq ?_
  refine Gx.cond rfl (fun h10 => ?_) (fun h10 => ?_)
  · -- way
    have h10 := of_decide_eq_true h10
    have hj : j < p.h.toNat := by omega
    have hb := Pl.row_bound hp hj
    have e1 : ((j * p.w.toNat : Nat) : Int) = j * p.w := by rw [Int.natCast_mul, Int.toNat_of_nonneg (by omega)]
    have e2 : (((j + 1) * p.w.toNat : Nat) : Int) = (j + 1) * p.w := by rw [Int.natCast_mul, Int.toNat_of_nonneg (by omega)]; rfl
    have hb2 : j * p.w.toNat ≤ (j + 1) * p.w.toNat := Nat.mul_le_mul_right _ (by omega)
    refine Gx.skip fun aa ww hzz => (then_normal (Gx.go hzz ?_))
    refine Gx.seq ?_
    refine Gx.block ?_
    -- region 3
    refine Gx.seq_region ?_
    refine Rx.q rfl (.move rfl) ?_
    refine Rx.q rfl (.assign rfl) ?_
    refine Rx.next ?_
    -- region 4
    refine Gx.seq_region ?_
    refine Rx.q rfl (.move rfl) ?_
    refine Rx.q rfl (.move rfl) ?_
    refine Rx.q rfl (.fieldAddr rfl) ?_
    refine Rx.q rfl (.ld rfl rfl) ?_
    refine Rx.q rfl (.move rfl) ?_
    refine Rx.q rfl (.fieldAddr rfl) ?_
    refine Rx.q rfl (.ld rfl rfl) ?_
    refine Rx.q rfl (.mul_ rfl rfl (by omega)) ?_
    refine Rx.q rfl (.move rfl) ?_
    refine Rx.q rfl (.add_ rfl rfl (by omega)) ?_
    refine Rx.q rfl (.fieldAddr rfl) ?_
    refine Rx.q rfl (.ld rfl rfl) ?_
    refine Rx.q rfl (.mul_ rfl rfl (by omega)) ?_
    refine Rx.q rfl (.sub_lh (l := j * p.w.toNat) (h := (j + 1) * p.w.toNat) rfl rfl rfl e1.symm e2.symm (by omega)) ?_
    refine Rx.call (caps := []) (slices_Clone_int (subV v (j * p.w.toNat) ((j + 1) * p.w.toNat) 1) (p.row j).length (intsV (p.row j)) (one_ints _) (by rw [List.length_map, Nat.mul_one]) (by rw [Pl.row_length hp hj]; omega)) rfl rfl .nil (.cons (giv_sub _ _ (by omega) (by rw [Nat.succ_mul, Pl.row_length hp hj]; omega) (by rw [ints_sub, Pl.row_length hp hj]; rfl)) .nil) rfl fun v26 L26 hP26 => ?_
    obtain ⟨v26, rfl, rfl⟩ := hP26
    refine Rx.yield (hy j hj v26 rfl) rfl rfl rfl fun v27 L27 hP27 => ?_
    obtain ⟨rfl, rfl⟩ := hP27
    refine Rx.q rfl (.not rfl) ?_
    refine Rx.next ?_
    refine Gx.cond_f rfl ?_
    refine Gx.skip fun aa ww hzz => (blk_normal (then_normal (Gx.go hzz ?_)))
    -- region 5
    refine Gx.region ?_
    refine Rx.q rfl (.add_ rfl rfl (by omega)) ?_
    refine Rx.q rfl (.move rfl) ?_
    refine Rx.nil fun aa ww hzz => (then_normal ⟨j + 1, by omega, by omega, hzz.to (.cons rfl (.cons rfl (.cons rfl (.cons rfl .nil))))⟩)
  · -- way
    have h10 := of_decide_eq_false h10
    obtain rfl : j = p.h.toNat := by omega
    refine Gx.exit fun aa ww hzz => (then_exit (then_exit (blk_exit (fin_end hzz rfl (by exact rfl)))))

theorem plane_rows (p : Pl) (v : Value) (b : Nat) (hp : p.right = true) : ItAll Tryd.prog 81 [.pointer (some ⟨b, 0, none⟩)] [pt b 37 (plC p v), rd 1 v p.l.length (intsV p.l)] p.h.toNat (fun _ u => noSlice u = noSlice u) (fun i u => [.int .i64 i, u]) (fun i u => [sl 3 1 u (p.row i).length (intsV (p.row i))]) :=
  ⟨fun l C M0 hy => plane_Rows_go p v b hp l C M0 hy⟩
end Go.Proofs.YtoiebfpafdcbmaaDoor
