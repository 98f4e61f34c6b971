/- Contracts of the small functions of the layers lut and arith: numbers alone. -/
import Derived.Test.YtoiebfpafdcbmaaDoorTy
import Derived.Test.YtoiebfpafdcbmaaDoorKg
namespace Go.Proofs.YtoiebfpafdcbmaaDoor
open Go Go.RowKit K
set_option linter.unusedVariables false
set_option linter.unusedSimpArgs false

/-! ### lut -/
def clampP (p : Int) : Int := min (max p 0) 65535
def stepI (i : Int) : Int := if 0 ≤ i ∧ i < 256 then i * (i + 384) / 96 else 0
def lessP (p : Int) : Int := clampP p - stepI (clampP p / 256)
def moreP (p : Int) : Int := clampP p + stepI (255 - clampP p / 256)

theorem clampP_range (p : Int) : 0 ≤ clampP p ∧ clampP p ≤ 65535 := by unfold clampP; omega
theorem stepI_range (i : Int) : 0 ≤ stepI i ∧ stepI i ≤ 1697 := by
  unfold stepI
  split
  · rename_i h
    have h1 : i * (i + 384) ≤ 255 * 639 := Int.mul_le_mul (by omega) (by omega) (by omega) (by omega)
    have h2 : 0 ≤ i * (i + 384) := Int.mul_nonneg (by omega) (by omega)
    omega
  · omega

theorem lut_clamp (p : Int) : Spc Tryd.prog 104 [.int .i64 p] [] [] (ret (.int .i64 (clampP p))) := by
  refine Spc.intro Tryd.func104 rfl Tryd.ntmps104 (by kernel_rfl) rfl rfl fun w0 F0 => ?_
  refine Gx.seq_region ?_
  refine Rx.q rfl (.assign rfl) ?_
  refine Rx.next ?_
  refine Gx.seq_region ?_
  refine Rx.q rfl (.move rfl) ?_
  refine Rx.q rfl (.max rfl rfl) ?_
  refine Rx.q rfl ((OpQ.min rfl rfl).val (u := .int .i64 (clampP p)) (by unfold clampP; congr 1; split <;> split <;> omega)) ?_
  refine Rx.q rfl (.assign rfl) ?_
  refine Rx.next ?_
  refine Gx.ret fun a w hs => fin_tmp hs rfl rfl ⟨rfl, rfl⟩

theorem lut_Step (i : Int) : Spc Tryd.prog 105 [.int .i64 i] [] [] (ret (.int .i64 (stepI i))) := by
  refine Spc.intro Tryd.func105 rfl Tryd.ntmps105 (by kernel_rfl) rfl rfl fun w0 F0 => ?_
  refine Gx.seq_region ?_
  refine Rx.q rfl (.assign rfl) ?_
  refine Rx.next ?_
  refine Gx.seq ?_
  refine Gx.seq_region ?_
  refine Rx.q rfl (.move rfl) ?_
  refine Rx.q rfl (.lss rfl rfl) ?_
  refine Rx.q rfl (.move rfl) ?_
  refine Rx.split 5 rfl (fun h => ?_) (fun h => ?_)
  · refine Rx.guard_no rfl rfl rfl rfl rfl ?_
    refine Rx.guard_no rfl rfl rfl rfl rfl ?_
    refine Rx.q rfl (.pick_t rfl rfl) ?_
    refine Rx.next ?_
    refine Gx.cond_t rfl ?_
    refine Gx.seq_region ?_
    refine Rx.q rfl (.assign rfl) ?_
    refine Rx.next ?_
    have h := of_decide_eq_true h
    refine Gx.ret fun a w hs => (then_ret (fin_tmp hs rfl rfl ⟨by unfold stepI; rw [if_neg (by omega)], rfl⟩))
  · have h := of_decide_eq_false h
    refine Rx.guard_yes rfl rfl rfl ?_
    refine Rx.q rfl (.move rfl) ?_
    refine Rx.guard_yes rfl rfl rfl ?_
    refine Rx.q rfl (.geq rfl rfl) ?_
    refine Rx.q rfl (.pick_f rfl rfl) ?_
    refine Rx.next ?_
    refine Gx.cond rfl (fun h' => ?_) (fun h' => ?_)
    · have h' := of_decide_eq_true h'
      refine Gx.seq_region ?_
      refine Rx.q rfl (.assign rfl) ?_
      refine Rx.next ?_
      refine Gx.ret fun a w hs => (then_ret (fin_tmp hs rfl rfl ⟨by unfold stepI; rw [if_neg (by omega)], rfl⟩))
    · have h' := of_decide_eq_false h'
      have h1 : i * (i + 384) ≤ 255 * 639 := Int.mul_le_mul (by omega) (by omega) (by omega) (by omega)
      have h2 : 0 ≤ i * (i + 384) := Int.mul_nonneg (by omega) (by omega)
      refine Gx.skip fun a w hs => (then_normal (Gx.go hs ?_))
      refine Gx.seq_region ?_
      refine Rx.q rfl (.move rfl) ?_
      refine Rx.q rfl (.move rfl) ?_
      refine Rx.q rfl (.add_ rfl rfl (by omega)) ?_
      refine Rx.q rfl (.mul_ rfl rfl (by omega)) ?_
      refine Rx.q rfl (.quo_ rfl rfl (by omega)) ?_
      refine Rx.q rfl (.assign rfl) ?_
      refine Rx.next ?_
      refine Gx.ret fun a w hs => fin_tmp hs rfl rfl ⟨by unfold stepI; rw [if_pos (by omega)], rfl⟩

theorem shr8 (p : Int) : (Value.int .i64 (p / 2 ^ (min (Int.toNat 8) IntKind.i64.bits))) = .int .i64 (p / 256) := rfl

theorem lut_Less (p : Int) : Spc Tryd.prog 88 [.int .i64 p] [] [] (ret (.int .i64 (lessP p))) := by
  refine Spc.intro Tryd.func88 rfl Tryd.ntmps88 (by kernel_rfl) rfl rfl fun w0 F0 => ?_
  have h1 := clampP_range p
  have h2 := stepI_range (clampP p / 256)
  refine Gx.seq_region ?_
  refine Rx.q rfl (.assign rfl) ?_
  refine Rx.next ?_
  refine Gx.seq_region ?_
  refine Rx.q rfl (.move rfl) ?_
  refine Rx.q rfl (.cal (caps := []) (lut_clamp p) rfl rfl) ?_
  refine Rx.q rfl (.assign rfl) ?_
  refine Rx.next ?_
  refine Gx.seq_region ?_
  refine Rx.q rfl (.move rfl) ?_
  refine Rx.q rfl (.move rfl) ?_
  refine Rx.q rfl ((OpQ.shr rfl rfl (by omega)).val (shr8 _)) ?_
  refine Rx.q rfl (.cal (caps := []) (lut_Step _) rfl rfl) ?_
  refine Rx.q rfl (.sub_ rfl rfl (by omega)) ?_
  refine Rx.q rfl (.assign rfl) ?_
  refine Rx.next ?_
  refine Gx.ret fun a w hs => fin_tmp hs rfl rfl ⟨rfl, rfl⟩

theorem lut_More (p : Int) : Spc Tryd.prog 89 [.int .i64 p] [] [] (ret (.int .i64 (moreP p))) := by
  refine Spc.intro Tryd.func89 rfl Tryd.ntmps89 (by kernel_rfl) rfl rfl fun w0 F0 => ?_
  have h1 := clampP_range p
  have h2 := stepI_range (255 - clampP p / 256)
  refine Gx.seq_region ?_
  refine Rx.q rfl (.assign rfl) ?_
  refine Rx.next ?_
  refine Gx.seq_region ?_
  refine Rx.q rfl (.move rfl) ?_
  refine Rx.q rfl (.cal (caps := []) (lut_clamp p) rfl rfl) ?_
  refine Rx.q rfl (.assign rfl) ?_
  refine Rx.next ?_
  refine Gx.seq_region ?_
  refine Rx.q rfl (.move rfl) ?_
  refine Rx.q rfl (.move rfl) ?_
  refine Rx.q rfl ((OpQ.shr rfl rfl (by omega)).val (shr8 _)) ?_
  refine Rx.q rfl (.sub_ rfl rfl (by omega)) ?_
  refine Rx.q rfl (.cal (caps := []) (lut_Step _) rfl rfl) ?_
  refine Rx.q rfl (.add_ rfl rfl (by omega)) ?_
  refine Rx.q rfl (.assign rfl) ?_
  refine Rx.next ?_
  refine Gx.ret fun a w hs => fin_tmp hs rfl rfl ⟨rfl, rfl⟩
end Go.Proofs.YtoiebfpafdcbmaaDoor
