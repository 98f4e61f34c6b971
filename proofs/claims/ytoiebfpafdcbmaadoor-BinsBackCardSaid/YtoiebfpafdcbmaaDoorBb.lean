/- Contracts of layer bins: its small functions. -/
import Derived.Test.YtoiebfpafdcbmaaDoorSh
import Derived.Lib.ItoaNum
namespace Go.Proofs.YtoiebfpafdcbmaaDoor
open Go Go.RowKit K
set_option linter.unusedVariables false
set_option linter.unusedSimpArgs false

structure SetS where
  fs : List Int
  data : Int
  sign : Int
/-- The set as a value, its slice of contexts being fv. -/
abbrev setC (s : SetS) (fv : Value) : List Value := [fv, .int .i64 s.data, .int .i64 s.sign]

def mayB (v : Int) : Bool := decide (0 ≤ v ∧ v ≤ 2199023255550)
def hasB (n : Int) (c : Int) : Bool := decide (0 ≤ c ∧ c < n)
def rightB (s : SetS) (n : Int) : Bool := s.fs.all (hasB n) && (decide (0 < s.fs.length) && hasB n s.data && hasB n s.sign)

theorem bins_may (v : Int) : Spc Tryd.prog 60 [.int .i64 v] [] [] (ret (.bool (mayB v))) := by
  refine Spc.intro Tryd.func60 rfl Tryd.ntmps60 (by kernel_rfl) rfl rfl fun w0 F0 => ?_
  refine Gx.seq_region ?_
  refine Rx.q rfl (.assign rfl) ?_
  refine Rx.next ?_
  refine Gx.seq_region ?_
  refine Rx.q rfl (.move rfl) ?_
  refine Rx.q rfl (.geq rfl rfl) ?_
  refine Rx.q rfl (.move rfl) ?_
  refine Rx.split 5 rfl (fun h5 => ?_) (fun h5 => ?_)
  · refine Rx.guard_yes rfl rfl rfl (Rx.q rfl (.move rfl) ?_)
    refine Rx.guard_yes rfl rfl rfl (Rx.q rfl (.leq rfl rfl) ?_)
    refine Rx.q rfl (.pick_t rfl rfl) ?_
    refine Rx.q rfl (.assign rfl) ?_
    refine Rx.next ?_
    have h5 := of_decide_eq_true h5
    refine Gx.ret fun a w hs => (fin_tmp hs rfl rfl ⟨congrArg Value.bool (decide_eq_decide.2 ⟨fun h => ⟨by omega, by omega⟩, fun h => by omega⟩), rfl⟩)
  · refine Rx.guard_no rfl rfl rfl rfl rfl ?_
    refine Rx.guard_no rfl rfl rfl rfl rfl ?_
    refine Rx.q rfl (.pick_f rfl rfl) ?_
    refine Rx.q rfl (.assign rfl) ?_
    refine Rx.next ?_
    have h5 := of_decide_eq_false h5
    refine Gx.ret fun a w hs => (fin_tmp hs rfl rfl ⟨congrArg Value.bool (decide_eq_false (by omega)).symm, rfl⟩)

theorem bins_has (b : Nat) (T : TypeId) (n c : Int) : Spc Tryd.prog 86 [.int .i64 c, .pointer (some ⟨b, 0, none⟩)] [] [pt b T [.int .i64 n]] (ret (.bool (hasB n c))) := by
  refine Spc.intro Tryd.func86 rfl Tryd.ntmps86 (by kernel_rfl) rfl rfl fun w0 F0 => ?_
  refine Gx.seq_region ?_
  refine Rx.q rfl (.assign rfl) ?_
  refine Rx.next ?_
  refine Gx.seq_region ?_
  refine Rx.q rfl (.move rfl) ?_
  refine Rx.q rfl (.geq rfl rfl) ?_
  refine Rx.q rfl (.move rfl) ?_
  refine Rx.split 6 rfl (fun h6 => ?_) (fun h6 => ?_)
  · refine Rx.guard_yes rfl rfl rfl (Rx.q rfl (.move rfl) ?_)
    refine Rx.guard_yes rfl rfl rfl (Rx.q rfl (.ld rfl rfl) ?_)
    refine Rx.guard_yes rfl rfl rfl (Rx.q rfl (.lss rfl rfl) ?_)
    refine Rx.q rfl (.pick_t rfl rfl) ?_
    refine Rx.q rfl (.assign rfl) ?_
    refine Rx.next ?_
    have h6 := of_decide_eq_true h6
    refine Gx.ret fun a w hs => (fin_tmp hs rfl rfl ⟨congrArg Value.bool (decide_eq_decide.2 ⟨fun h => ⟨by omega, by omega⟩, fun h => by omega⟩), rfl⟩)
  · refine Rx.guard_no rfl rfl rfl rfl rfl ?_
    refine Rx.guard_no rfl rfl rfl rfl rfl ?_
    refine Rx.guard_no rfl rfl rfl rfl rfl ?_
    refine Rx.q rfl (.pick_f rfl rfl) ?_
    refine Rx.q rfl (.assign rfl) ?_
    refine Rx.next ?_
    have h6 := of_decide_eq_false h6
    refine Gx.ret fun a w hs => (fin_tmp hs rfl rfl ⟨congrArg Value.bool (decide_eq_false (by omega)).symm, rfl⟩)

theorem all_take_succ {fs : List Int} {p : Int → Bool} {j : Nat} (hj : j < fs.length) : (fs.take (j + 1)).all p = ((fs.take j).all p && p (fs.getD j 0)) := by
  rw [List.take_succ_eq_append_getElem hj, List.all_append]
  simp only [List.all_cons, List.all_nil, Bool.and_true]
  congr 2; simp [List.getD, hj]

theorem bins_right (s : SetS) (fv : Value) (n : Int) (hl : s.fs.length ≤ 2 ^ 40) : Spc Tryd.prog 61 [.agg (setC s fv).toArray, .int .i64 n] [] [rd 1 fv s.fs.length (intsV s.fs)] (fun u L => u = .bool (rightB s n) ∧ L = []) := by
  refine Spc.intro Tryd.func61 rfl Tryd.ntmps61 (by kernel_rfl) rfl rfl fun w0 F0 => ?_
  refine Gx.seq_region ?_
  refine Rx.box (vs := setC s fv) rfl rfl rfl fun b2 => ?_
  refine Rx.box (vs := [.int .i64 n]) rfl rfl rfl fun b3 => ?_
  refine Rx.q rfl (.assign rfl) ?_
  refine Rx.next ?_
  refine Gx.seq_region ?_
  refine Rx.q rfl (.makeFunc rfl) ?_
  refine Rx.q rfl (.assign rfl) ?_
  refine Rx.next ?_
  refine Gx.seq ?_
  refine Gx.seq_region ?_
  refine Rx.q rfl (.fieldAddr rfl) ?_
  refine Rx.q rfl (.ld rfl rfl) ?_
  refine Rx.q rfl (.lens rfl) ?_
  refine Rx.q rfl (.move rfl) ?_
  refine Rx.next ?_
  refine Gx.block ?_
  refine Gx.lp (α := Nat) (fun j => j ≤ s.fs.length ∧ (s.fs.take j).all (hasB n) = true) (fun j => s.fs.length - j)
    (fun j => [(2, .pointer (some ⟨b2, 0, none⟩)), (5, .func (.func 86) #[] #[.pointer (some ⟨b3, 0, none⟩)]), (10, fv), (11, .int .i64 s.fs.length), (12, .int .i64 j)])
    (fun j => [pt b3 3 [.int .i64 n], pt b2 25 (setC s fv)]) 0 ⟨by omega, rfl⟩ ?_ (fun j hj => ?_)
  · exact .cons rfl (.cons rfl (.cons rfl (.cons rfl (.cons rfl .nil))))
  refine Gx.seq_region ?_
  refine Rx.q rfl (.lss rfl rfl) ?_
  refine Rx.next ?_
  refine Gx.seq ?_
  refine Gx.cond rfl (fun h => ?_) (fun h => ?_)
  · have h := of_decide_eq_true h
    have hj' : j < s.fs.length := by omega
    refine Gx.skip fun a w hs => (then_normal (Gx.go hs ?_))
    refine Gx.seq ?_
    refine Gx.block ?_
    refine Gx.seq_region ?_
    refine Rx.q rfl (.idx (j := j) rfl rfl (by omega) (by omega)) ?_
    refine Rx.q rfl (.ldi (l := s.fs) rfl rfl hj') ?_
    refine Rx.q rfl (.assign rfl) ?_
    refine Rx.next ?_
    refine Gx.seq_region ?_
    refine Rx.q rfl (.move rfl) ?_
    refine Rx.q rfl (.move rfl) ?_
    refine Rx.q rfl (.cal (caps := [.pointer (some ⟨b3, 0, none⟩)]) (bins_has b3 3 n (s.fs.getD j 0)) rfl rfl) ?_
    refine Rx.q rfl (.not rfl) ?_
    refine Rx.next ?_
    refine Gx.cond rfl (fun h => ?_) (fun h => ?_)
    · have hno : rightB s n = false := by
        have : s.fs.all (hasB n) = false := by
          rw [List.all_eq_false]
          refine ⟨s.fs.getD j 0, ?_, by simpa using h⟩
          simp [List.getD, hj']
        simp [rightB, this]
      refine Gx.seq_region ?_
      refine Rx.q rfl (.assign rfl) ?_
      refine Rx.next ?_
      refine Gx.ret fun a w hs => (blk_ret (then_ret (then_ret (blk_ret (then_ret (fin_tmp hs rfl rfl ⟨by rw [hno], rfl⟩))))))
    · refine Gx.skip fun a w hs => (blk_normal (then_normal (Gx.go hs ?_)))
      refine Gx.region ?_
      refine Rx.q rfl ((OpQ.add_ rfl rfl (by omega)).val (u := .int .i64 (j + 1 : Nat)) (by simp)) ?_
      refine Rx.q rfl (.move rfl) ?_
      refine Rx.nil fun a w hs => (then_normal ⟨j + 1, ⟨by omega, by rw [all_take_succ hj', hj.2]; simpa using h⟩, by omega, hs.to (.cons rfl (.cons rfl (.cons rfl (.cons rfl (.cons rfl .nil)))))⟩)
  · have h := of_decide_eq_false h
    have hall : s.fs.all (hasB n) = true := by
      have := hj.2
      rwa [List.take_of_length_le (by omega)] at this
    refine Gx.exit fun a w hs => (then_exit (then_exit (blk_exit (then_normal (Gx.go hs ?_)))))
    refine Gx.seq_region ?_
    refine Rx.q rfl (.fieldAddr rfl) ?_
    refine Rx.q rfl (.ld rfl rfl) ?_
    refine Rx.q rfl (.lens rfl) ?_
    refine Rx.q rfl (.gtr rfl rfl) ?_
    refine Rx.q rfl (.move rfl) ?_
    refine Rx.split 25 rfl (fun h25 => ?_) (fun h25 => ?_)
    · have h25 := of_decide_eq_true h25
      refine Rx.guard_yes rfl rfl rfl (Rx.q rfl (.move rfl) ?_)
      refine Rx.guard_yes rfl rfl rfl (Rx.q rfl (.fieldAddr rfl) ?_)
      refine Rx.guard_yes rfl rfl rfl (Rx.q rfl (.ld rfl rfl) ?_)
      refine Rx.guard_yes rfl rfl rfl (Rx.q rfl (.cal (caps := [.pointer (some ⟨b3, 0, none⟩)]) (bins_has b3 3 n s.data) rfl rfl) ?_)
      refine Rx.q rfl (.pick_t rfl rfl) ?_
      refine Rx.q rfl (.move rfl) ?_
      refine Rx.split 31 rfl (fun h31 => ?_) (fun h31 => ?_)
      · refine Rx.guard_yes rfl rfl rfl (Rx.q rfl (.move rfl) ?_)
        refine Rx.guard_yes rfl rfl rfl (Rx.q rfl (.fieldAddr rfl) ?_)
        refine Rx.guard_yes rfl rfl rfl (Rx.q rfl (.ld rfl rfl) ?_)
        refine Rx.guard_yes rfl rfl rfl (Rx.q rfl (.cal (caps := [.pointer (some ⟨b3, 0, none⟩)]) (bins_has b3 3 n s.sign) rfl rfl) ?_)
        refine Rx.q rfl (.pick_t rfl rfl) ?_
        refine Rx.q rfl (.assign rfl) ?_
        refine Rx.next ?_
        refine Gx.ret fun a w hs => (fin_tmp hs rfl rfl ⟨by simp [rightB, hall, h31, show 0 < s.fs.length by omega], rfl⟩)
      · refine Rx.guard_no rfl rfl rfl rfl rfl ?_
        refine Rx.guard_no rfl rfl rfl rfl rfl ?_
        refine Rx.guard_no rfl rfl rfl rfl rfl ?_
        refine Rx.guard_no rfl rfl rfl rfl rfl ?_
        refine Rx.q rfl (.pick_f rfl rfl) ?_
        refine Rx.q rfl (.assign rfl) ?_
        refine Rx.next ?_
        refine Gx.ret fun a w hs => (fin_tmp hs rfl rfl ⟨by simp [rightB, h31], rfl⟩)
    · have h25 := of_decide_eq_false h25
      refine Rx.guard_no rfl rfl rfl rfl rfl ?_
      refine Rx.guard_no rfl rfl rfl rfl rfl ?_
      refine Rx.guard_no rfl rfl rfl rfl rfl ?_
      refine Rx.guard_no rfl rfl rfl rfl rfl ?_
      refine Rx.q rfl (.pick_f rfl rfl) ?_
      refine Rx.q rfl (.move rfl) ?_
      refine Rx.guard_no rfl rfl rfl rfl rfl ?_
      refine Rx.guard_no rfl rfl rfl rfl rfl ?_
      refine Rx.guard_no rfl rfl rfl rfl rfl ?_
      refine Rx.guard_no rfl rfl rfl rfl rfl ?_
      refine Rx.q rfl (.pick_f rfl rfl) ?_
      refine Rx.q rfl (.assign rfl) ?_
      refine Rx.next ?_
      refine Gx.ret fun a w hs => (fin_tmp hs rfl rfl ⟨by simp [rightB, show ¬ 0 < s.fs.length by omega], rfl⟩)

/-- The context that tells whether it goes on behind digit i. -/
def SetS.follow (s : SetS) (i : Nat) : Int := s.fs.getD (min i (s.fs.length - 1)) 0
theorem bins_follow (s : SetS) (fv : Value) (i : Nat) (hi : i ≤ 2 ^ 40) (hl : 0 < s.fs.length ∧ s.fs.length ≤ 2 ^ 40) : Spc Tryd.prog 64 [.agg (setC s fv).toArray, .int .i64 i] [] [rd 1 fv s.fs.length (intsV s.fs)] (fun u L => u = .int .i64 (s.follow i) ∧ L = []) := by
  refine Spc.intro Tryd.func64 rfl Tryd.ntmps64 (by kernel_rfl) rfl rfl fun w0 F0 => ?_
  refine Gx.seq_region ?_
  refine Rx.box (vs := setC s fv) rfl rfl rfl fun b2 => ?_
  refine Rx.q rfl (.assign rfl) ?_
  refine Rx.next ?_
  refine Gx.seq_region ?_
  refine Rx.q rfl (.fieldAddr rfl) ?_
  refine Rx.q rfl (.ld rfl rfl) ?_
  refine Rx.q rfl (.move rfl) ?_
  refine Rx.q rfl (.fieldAddr rfl) ?_
  refine Rx.q rfl (.ld rfl rfl) ?_
  refine Rx.q rfl (.lens rfl) ?_
  refine Rx.q rfl (.sub_ rfl rfl (by omega)) ?_
  refine Rx.q rfl ((OpQ.min rfl rfl).val (u := .int .i64 (min i (s.fs.length - 1) : Nat)) (by congr 1; split <;> omega)) ?_
  refine Rx.q rfl (.idx (j := min i (s.fs.length - 1)) rfl rfl (by omega) (by omega)) ?_
  refine Rx.q rfl (.ldi (l := s.fs) rfl rfl (by omega)) ?_
  refine Rx.q rfl (.assign rfl) ?_
  refine Rx.next ?_
  refine Gx.ret fun a w hs => (fin_tmp hs rfl rfl ⟨rfl, rfl⟩)

/-- How many digits of a number are coded. -/
def digN (v : Int) : Nat := Lib.bitLen (v + 1).toNat - 1
theorem digN_spec (v : Int) (h : 0 ≤ v ∧ v ≤ 2199023255550) : 1 ≤ Lib.bitLen (v + 1).toNat ∧ digN v ≤ 40 ∧ (2 : Int) ^ digN v ≤ v + 1 ∧ v + 1 < 2 ^ (digN v + 1) := by
  obtain ⟨h1, h2, h3⟩ := Lib.bitLenAux_bounds 64 (v + 1).toNat (by omega) (by omega)
  change 1 ≤ Lib.bitLen (v + 1).toNat at h1
  change 2 ^ (Lib.bitLen (v + 1).toNat - 1) ≤ (v + 1).toNat at h2
  change (v + 1).toNat < 2 ^ Lib.bitLen (v + 1).toNat at h3
  have e : Lib.bitLen (v + 1).toNat = digN v + 1 := by unfold digN; omega
  rw [e] at h3
  have h2' : 2 ^ digN v ≤ (v + 1).toNat := h2
  refine ⟨h1, ?_, ?_, ?_⟩
  · rcases Nat.lt_or_ge 40 (digN v) with hh | hh
    · have : (2 : Nat) ^ 41 ≤ 2 ^ digN v := Nat.pow_le_pow_right (by decide) hh
      omega
    · exact hh
  · have : ((2 ^ digN v : Nat) : Int) ≤ ((v + 1).toNat : Int) := by exact_mod_cast h2'
    rw [Int.toNat_of_nonneg (by omega)] at this
    exact_mod_cast this
  · have : ((v + 1).toNat : Int) < ((2 ^ (digN v + 1) : Nat) : Int) := by exact_mod_cast h3
    rw [Int.toNat_of_nonneg (by omega)] at this
    exact_mod_cast this
theorem bins_digits (v : Int) (h : 0 ≤ v ∧ v ≤ 2199023255550) : Spc Tryd.prog 63 [.int .i64 v] [] [] (ret (.int .i64 (digN v))) := by
  have hb : 1 ≤ Lib.bitLen (v + 1).toNat ∧ Lib.bitLen (v + 1).toNat ≤ 64 := by
    have := digN_spec v h
    unfold digN at this
    omega
  refine Spc.intro Tryd.func63 rfl Tryd.ntmps63 (by kernel_rfl) rfl rfl fun w0 F0 => ?_
  refine Gx.seq_region ?_
  refine Rx.q rfl (.assign rfl) ?_
  refine Rx.next ?_
  refine Gx.seq_region ?_
  refine Rx.q rfl (.move rfl) ?_
  refine Rx.q rfl ((OpQ.convert rfl).val (u := .int .u64 v) (by congr 1; exact wrap_u64 (by omega))) ?_
  refine Rx.q rfl ((OpQ.add rfl rfl).val (u := .int .u64 (v + 1)) (by congr 1; exact wrap_u64 (by omega))) ?_
  refine Rx.q rfl (.cal (caps := []) (math_bits_Len (v + 1) (by omega)) rfl rfl) ?_
  refine Rx.q rfl ((OpQ.sub_ rfl rfl (by omega)).val (u := .int .i64 (digN v)) (by congr 1; unfold digN; omega)) ?_
  refine Rx.q rfl (.assign rfl) ?_
  refine Rx.next ?_
  refine Gx.ret fun a w hs => (fin_tmp hs rfl rfl ⟨rfl, rfl⟩)
end Go.Proofs.YtoiebfpafdcbmaaDoor
