/- Contracts of layer arith: the encoder shifts, puts, and tells its chances and its count. -/
import Derived.Test.YtoiebfpafdcbmaaDoorA1
namespace Go.Proofs.YtoiebfpafdcbmaaDoor
open Go Go.RowKit K
set_option linter.unusedVariables false
set_option linter.unusedSimpArgs false

theorem xorq_v {p : Int} (h : 0 ≤ p ∧ p < 2 ^ 62) : Value.int .i64 (IntKind.i64.wrap ((BitVec.ofInt IntKind.i64.bits p ^^^ BitVec.ofInt IntKind.i64.bits 16384).toNat : Int)) = .int .i64 (xorq p) := by
  have := xor_pow (p := p) 14 (by omega) (by omega)
  congr 1
theorem neq_bit {p : Int} (k : Nat) (h : 0 ≤ p ∧ p < 2 ^ 62) (hk : k < 63) :
    Value.bool (decide (IntKind.i64.wrap ((BitVec.ofInt IntKind.i64.bits p &&& BitVec.ofInt IntKind.i64.bits ((2 ^ k : Nat) : Int)).toNat : Int) ≠ 0)) = .bool (decide (p / ((2 ^ k : Nat) : Int) % 2 = 1)) := by
  rw [bit_i64 k (by omega) hk]
  congr 1
  refine decide_eq_decide.2 ?_
  have h0 : ((2 ^ k : Nat) : Int) ≠ 0 := by have := Nat.two_pow_pos k; omega
  constructor
  · intro hh
    by_cases h2 : p / ((2 ^ k : Nat) : Int) % 2 = 1
    · exact h2
    · rw [if_neg h2] at hh; exact absurd rfl hh
  · intro hh; rw [if_pos hh]; exact h0

theorem arith_Encoder_shift (p : Nat) (e : EncS) (k : Nat) (h : EncMid e (k + 1)) (hs : e.size ≤ 16384) (hn : e.n ≤ 2 ^ 32) :
    Spc Tryd.prog 70 [.pointer (some ⟨p, 0, none⟩)] [enc p e] [] (fun u L => u = .tuple #[] ∧ L = [enc p e.shift]) := by
  obtain ⟨h1, h2, h3, h4, h5⟩ := h
  refine Spc.intro Tryd.func70 rfl Tryd.ntmps70 (by kernel_rfl) rfl rfl fun w0 F0 => ?_
  refine enc_opn (p := p) (e := e) fun v q hv => ?_
  refine Gx.seq ?_
  refine Gx.seq_region ?_
  refine Rx.q rfl (.move rfl) ?_
  refine Rx.q rfl (.nilCheck rfl) ?_
  refine Rx.q rfl (.fieldAddr rfl) ?_
  refine Rx.q rfl (.ldn rfl rfl rfl) ?_
  refine Rx.q rfl (.cal (caps := []) (arith_span_straddles e.low e.size (by omega)) rfl rfl) ?_
  refine Rx.next ?_
  refine Gx.cond rfl (fun h => ?_) (fun h => ?_)
  · have hx : 0 ≤ xorq e.low ∧ xorq e.low < 2 ^ 59 := by unfold xorq; split <;> omega
    refine Gx.seq_region ?_
    refine Rx.q rfl (.move rfl) ?_
    refine Rx.q rfl (.nilCheck rfl) ?_
    refine Rx.q rfl (.fieldAddr rfl) ?_
    refine Rx.q rfl (.fieldAddr rfl) ?_
    refine Rx.q rfl (.ld rfl rfl) ?_
    refine Rx.q rfl ((OpQ.xor rfl rfl).val (xorq_v (by omega))) ?_
    refine Rx.q rfl (.nilCheck rfl) ?_
    refine Rx.q rfl (.fieldAddr rfl) ?_
    refine Rx.q rfl (.fieldAddr rfl) ?_
    refine Rx.st rfl rfl rfl ?_
    refine Rx.next ?_
    refine Gx.region ?_
    refine Rx.q rfl (.move rfl) ?_
    refine Rx.q rfl (.nilCheck rfl) ?_
    refine Rx.q rfl (.fieldAddr rfl) ?_
    refine Rx.q rfl (.ld rfl rfl) ?_
    refine Rx.q rfl ((OpQ.add_ rfl rfl (by omega)).val (u := .int .i64 (e.owed + 1 : Nat)) (by simp)) ?_
    refine Rx.q rfl (.nilCheck rfl) ?_
    refine Rx.q rfl (.fieldAddr rfl) ?_
    refine Rx.st rfl rfl rfl ?_
    refine Rx.nil fun a w hs => (then_normal (Gx.go hs ?_))
    refine Gx.region ?_
    refine Rx.q rfl (.move rfl) ?_
    refine Rx.q rfl (.nilCheck rfl) ?_
    refine Rx.q rfl (.fieldAddr rfl) ?_
    refine Rx.cal (caps := []) (arith_span_double p 2 77 [v, .int .i64 e.n, .int .i64 (xorq e.low), .int .i64 e.size, .int .i64 (e.owed + 1 : Nat), .pointer (some ⟨q, 0, none⟩)] (xorq e.low) e.size rfl rfl (by omega)) rfl rfl rfl ?_
    rintro u L1 ⟨rfl, rfl⟩
    have he : e.shift = { e with low := xorq e.low * 2 % 65536, size := e.size * 2, owed := e.owed + 1 } := by unfold EncS.shift; rw [if_pos h]
    rw [he]
    refine Rx.castL (L' := encL p { e with low := xorq e.low * 2 % 65536, size := e.size * 2, owed := e.owed + 1 } (v, q)) rfl ?_
    refine Rx.nil fun a w hs => (fin_end (enc_shut (p := p) (e := { e with low := xorq e.low * 2 % 65536, size := e.size * 2, owed := e.owed + 1 }) v q hv hs) rfl ⟨rfl, rfl⟩)
  · refine Gx.seq ?_
    refine Gx.region_tail 15 mixed (by kernel_rfl) ?_
    refine Dx.q rfl (.move rfl) ?_
    refine Dx.q rfl (.nilCheck rfl) ?_
    refine Dx.q rfl (.fieldAddr rfl) ?_
    refine Dx.q rfl (.ld rfl rfl) ?_
    refine Dx.q rfl (.move rfl) ?_
    refine Dx.q rfl (.nilCheck rfl) ?_
    refine Dx.q rfl (.fieldAddr rfl) ?_
    refine Dx.q rfl (.fieldAddr rfl) ?_
    refine Dx.q rfl (.ld rfl rfl) ?_
    refine Dx.q rfl (.and rfl rfl) ?_
    refine Dx.q rfl ((OpQ.neq rfl rfl).val (u := .bool (topB e.low)) (neq_bit 15 (by omega) (by omega))) ?_
    refine Dx.q rfl (.move rfl) ?_
    refine Dx.q rfl (.nilCheck rfl) ?_
    refine Dx.q rfl (.fieldAddr rfl) ?_
    refine Dx.q rfl (.ld rfl rfl) ?_
    refine Dx.tail ?_
    refine Rx.cal (caps := []) (arith_write q e.out (topB e.low) e.owed (by omega)) rfl rfl rfl ?_
    rintro u L1 ⟨rfl, rfl⟩
    refine Rx.nil fun a w hs => (then_normal (Gx.go hs ?_))
    refine Gx.region ?_
    refine Rx.q rfl (.move rfl) ?_
    refine Rx.q rfl (.nilCheck rfl) ?_
    refine Rx.q rfl (.fieldAddr rfl) ?_
    refine Rx.st rfl rfl rfl ?_
    refine Rx.nil fun a w hs => (then_normal (Gx.go hs ?_))
    refine Gx.region ?_
    refine Rx.q rfl (.move rfl) ?_
    refine Rx.q rfl (.nilCheck rfl) ?_
    refine Rx.q rfl (.fieldAddr rfl) ?_
    refine Rx.cal (caps := []) (arith_span_double p 2 77 [v, .int .i64 e.n, .int .i64 e.low, .int .i64 e.size, .int .i64 0, .pointer (some ⟨q, 0, none⟩)] e.low e.size rfl rfl (by omega)) rfl rfl rfl ?_
    rintro u L1 ⟨rfl, rfl⟩
    have he : e.shift = { e with low := e.low * 2 % 65536, size := e.size * 2, owed := 0, out := e.out ++ topB e.low :: List.replicate e.owed (!topB e.low) } := by unfold EncS.shift; rw [if_neg (by simp [h])]
    rw [he]
    refine Rx.castL (L' := [pt p 77 [v, .int .i64 e.n, .int .i64 (e.low * 2 % 65536), .int .i64 (e.size * 2), .int .i64 (0 : Nat), .pointer (some ⟨q, 0, none⟩)], wr q (e.out ++ topB e.low :: List.replicate e.owed (!topB e.low)), sl 3 1 v e.ps.length (intsV e.ps)]) rfl ?_
    refine Rx.nil fun a w hs => (fin_end (enc_shut (p := p) (e := { e with low := e.low * 2 % 65536, size := e.size * 2, owed := 0, out := e.out ++ topB e.low :: List.replicate e.owed (!topB e.low) }) v q hv hs) rfl ⟨rfl, rfl⟩)

/-- What a put does, whether the context is there or not. -/
def EncS.putI (e : EncS) (c : Int) (b : Bool) : EncS := if hasP e.ps c then e.put c.toNat b else e

theorem arith_Encoder_Put (p : Nat) (e : EncS) (c : Int) (b : Bool) (h : EncOk e) (hn : e.n ≤ 2 ^ 30) (hl : e.ps.length ≤ 64) :
    Spc Tryd.prog 37 [.pointer (some ⟨p, 0, none⟩), .int .i64 c, .bool b] [enc p e] [] (fun u L => u = .bool (hasP e.ps c) ∧ L = [enc p (e.putI c b)]) := by
  obtain ⟨h1, h2, h3, h4, h5⟩ := id h
  refine Spc.intro Tryd.func37 rfl Tryd.ntmps37 (by kernel_rfl) rfl rfl fun w0 F0 => ?_
  refine enc_opn (p := p) (e := e) fun v q hv => ?_
  refine Gx.seq_region ?_
  refine Rx.q rfl (.assign rfl) ?_
  refine Rx.next ?_
  refine Gx.seq ?_
  refine Gx.seq_region ?_
  refine Rx.q rfl (.move rfl) ?_
  refine Rx.q rfl (.eqnil_s rfl) ?_
  refine Rx.q rfl (.move rfl) ?_
  refine Rx.guard_yes rfl rfl rfl (Rx.q rfl (.move rfl) ?_)
  refine Rx.guard_yes rfl rfl rfl (Rx.q rfl (.nilCheck rfl) ?_)
  refine Rx.guard_yes rfl rfl rfl (Rx.q rfl (.fieldAddr rfl) ?_)
  refine Rx.guard_yes rfl rfl rfl (Rx.q rfl (.move rfl) ?_)
  refine Rx.guard_yes rfl rfl rfl (Rx.q rfl (.cal (caps := []) (arith_model_has p 0 77 3 [v, .int .i64 e.n, .int .i64 e.low, .int .i64 e.size, .int .i64 e.owed, .pointer (some ⟨q, 0, none⟩)] v e.ps c rfl) rfl rfl) ?_)
  refine Rx.guard_yes rfl rfl rfl (Rx.q rfl (.not rfl) ?_)
  refine Rx.q rfl (.pick_f rfl rfl) ?_
  refine Rx.next ?_
  refine Gx.cond rfl (fun hh => ?_) (fun hh => ?_)
  · have hh : hasP e.ps c = false := by simpa using hh
    refine Gx.seq_region ?_
    refine Rx.q rfl (.assign rfl) ?_
    refine Rx.next ?_
    refine Gx.ret fun a w hs => (then_ret (fin_tmp (L1 := [enc p e]) (enc_shut (p := p) (e := e) v q hv hs) rfl rfl ⟨by rw [hh], by simp [EncS.putI, hh]⟩))
  · have hh : hasP e.ps c = true := by simpa using hh
    have hc : 0 ≤ c ∧ c < e.ps.length := by simpa [hasP] using hh
    obtain ⟨c, rfl⟩ : ∃ k : Nat, c = k := ⟨c.toNat, by omega⟩
    have hcl : c < e.ps.length := by omega
    have hp := h4.getD hcl
    have hpr := part_range (size := e.size) (p := e.ps.getD c 0) (by omega) hp
    have hm1 : e.size * 252 ≤ e.size * e.ps.getD c 0 := Int.mul_le_mul_of_nonneg_left hp.1 (by omega)
    have hm2 : e.size * e.ps.getD c 0 ≤ e.size * 65283 := Int.mul_le_mul_of_nonneg_left hp.2 (by omega)
    refine Gx.skip fun a w hs => (then_normal (Gx.go hs ?_))
    refine Gx.seq ?_
    refine Gx.region_tail 17 mixed (by kernel_rfl) ?_
    refine Dx.q rfl (.move rfl) ?_
    refine Dx.q rfl (.nilCheck rfl) ?_
    refine Dx.q rfl (.fieldAddr rfl) ?_
    refine Dx.q rfl (.move rfl) ?_
    refine Dx.q rfl (.nilCheck rfl) ?_
    refine Dx.q rfl (.fieldAddr rfl) ?_
    refine Dx.q rfl (.ldn rfl rfl rfl) ?_
    refine Dx.q rfl (.move rfl) ?_
    refine Dx.q rfl (.nilCheck rfl) ?_
    refine Dx.q rfl (.fieldAddr rfl) ?_
    refine Dx.q rfl (.fieldAddr rfl) ?_
    refine Dx.q rfl (.ld rfl rfl) ?_
    refine Dx.q rfl (.move rfl) ?_
    refine Dx.q rfl (.idx (j := c) rfl rfl (by omega) (by omega)) ?_
    refine Dx.q rfl (.ldi (l := e.ps) rfl rfl hcl) ?_
    refine Dx.q rfl (.cal (caps := []) (arith_span_part e.low e.size (e.ps.getD c 0) (by omega)) rfl rfl) ?_
    refine Dx.q rfl (.move rfl) ?_
    refine Dx.tail ?_
    refine Rx.cal (caps := []) (arith_span_take p 2 77 [v, .int .i64 e.n, .int .i64 e.low, .int .i64 e.size, .int .i64 e.owed, .pointer (some ⟨q, 0, none⟩)] e.low e.size (partI e.size (e.ps.getD c 0)) b rfl rfl (by omega)) rfl rfl rfl ?_
    rintro u L1 ⟨rfl, rfl⟩
    refine Rx.castL (L' := [pt p 77 [v, .int .i64 e.n, .int .i64 (takeLow e.low (partI e.size (e.ps.getD c 0)) b), .int .i64 (takeSize e.size (partI e.size (e.ps.getD c 0)) b), .int .i64 e.owed, .pointer (some ⟨q, 0, none⟩)], sl 3 1 v e.ps.length (intsV e.ps), wr q e.out]) rfl ?_
    refine Rx.nil fun a w hs => (then_normal (Gx.go hs ?_))
    refine Gx.seq_region ?_
    refine Rx.q rfl (.move rfl) ?_
    refine Rx.q rfl (.nilCheck rfl) ?_
    refine Rx.q rfl (.fieldAddr rfl) ?_
    refine Rx.q rfl (.move rfl) ?_
    refine Rx.q rfl (.move rfl) ?_
    refine Rx.cal (caps := []) (arith_model_learn p 0 77 3 [v, .int .i64 e.n, .int .i64 (takeLow e.low (partI e.size (e.ps.getD c 0)) b), .int .i64 (takeSize e.size (partI e.size (e.ps.getD c 0)) b), .int .i64 e.owed, .pointer (some ⟨q, 0, none⟩)] v e.ps e.n c b rfl rfl hcl (by omega)) rfl rfl rfl ?_
    rintro u L1 ⟨rfl, rfl⟩
    refine Rx.next ?_
    refine Gx.seq ?_
    refine Gx.block ?_
    refine Gx.castL (L' := [pt p 77 [v, .int .i64 (e.take c b).n, .int .i64 (e.take c b).low, .int .i64 (e.take c b).size, .int .i64 (e.take c b).owed, .pointer (some ⟨q, 0, none⟩)], sl 3 1 v (e.take c b).ps.length (intsV (e.take c b).ps), wr q (e.take c b).out]) rfl ?_
    refine Gx.shut (f := encL p (e.take c b)) (φ := fun x => x.1.oneCell' = true) (v, q) hv ?_
    have hmid := h.take hcl b
    refine Gx.lp (α := EncS × Nat) (fun x => EncMid x.1 x.2 ∧ x.1.n = e.n + 1 ∧ EncS.norm x.2 x.1 = e.put c b) (fun x => x.2) (fun x => [(0, .pointer (some ⟨p, 0, none⟩))]) (fun x => [enc p x.1]) (e.take c b, 15) ⟨hmid, rfl, rfl⟩ ?_ ?_
    · exact .cons rfl .nil
    rintro ⟨x, k⟩ ⟨hx, hxn, hxe⟩
    simp only at hx hxn hxe
    refine enc_opn (p := p) (e := x) fun v q hv => ?_
    refine Gx.seq ?_
    refine Gx.seq_region ?_
    refine Rx.q rfl (.move rfl) ?_
    refine Rx.q rfl (.nilCheck rfl) ?_
    refine Rx.q rfl (.fieldAddr rfl) ?_
    refine Rx.q rfl (.fieldAddr rfl) ?_
    refine Rx.q rfl (.ld rfl rfl) ?_
    refine Rx.q rfl (.leq rfl rfl) ?_
    refine Rx.next ?_
    refine Gx.cond rfl (fun h => ?_) (fun h => ?_)
    · have h := of_decide_eq_true h
      obtain ⟨k, rfl⟩ : ∃ j, k = j + 1 := by
        cases k with
        | zero => have := hx.grow; omega
        | succ j => exact ⟨j, rfl⟩
      refine Gx.skip fun a w hs => (then_normal (Gx.go hs ?_))
      refine Gx.shut (f := encL p x) (φ := fun x => x.1.oneCell' = true) (v, q) hv ?_
      refine Gx.block ?_
      refine Gx.region ?_
      refine Rx.q rfl (.move rfl) ?_
      refine Rx.cal (caps := []) (arith_Encoder_shift p x k hx h (by omega)) rfl rfl rfl ?_
      rintro u L1 ⟨rfl, rfl⟩
      refine Rx.nil fun a w hs => (blk_normal (then_normal ⟨(x.shift, k), ⟨hx.shift h, by rw [EncS.shift_n]; exact hxn, ?_⟩, Nat.lt_succ_self k, hs.to (.cons rfl .nil)⟩))
      simp only [EncS.norm] at hxe
      rw [if_pos h] at hxe
      exact hxe
    · have h := of_decide_eq_false h
      rw [EncS.norm_done _ h] at hxe
      subst hxe
      refine Gx.exit fun a w hs => (then_exit (then_exit (blk_exit (then_normal (Gx.go hs ?_)))))
      refine Gx.seq_region ?_
      refine Rx.q rfl (.assign rfl) ?_
      refine Rx.next ?_
      refine Gx.ret fun a w hs => (fin_tmp (L1 := [enc p (e.put c b)]) (enc_shut (p := p) (e := e.put c b) v q hv hs) rfl rfl ⟨by rw [hh], by simp [EncS.putI, hh]⟩)

theorem arith_Encoder_Count (p : Nat) (e : EncS) : Spc Tryd.prog 15 [.pointer (some ⟨p, 0, none⟩)] [] [enc p e] (ret (.int .i64 e.n)) := by
  refine Spc.intro Tryd.func15 rfl Tryd.ntmps15 (by kernel_rfl) rfl rfl fun w0 F0 => ?_
  refine enc_opnM (p := p) (e := e) fun v q hv => ?_
  refine Gx.seq_region ?_
  refine Rx.q rfl (.assign rfl) ?_
  refine Rx.next ?_
  refine Gx.seq ?_
  refine Gx.seq_region ?_
  refine Rx.q rfl (.move rfl) ?_
  refine Rx.q rfl (.eqnil_s rfl) ?_
  refine Rx.next ?_
  refine Gx.cond_f rfl ?_
  refine Gx.skip fun a w hs => (then_normal (Gx.go hs ?_))
  refine Gx.seq_region ?_
  refine Rx.q rfl (.move rfl) ?_
  refine Rx.q rfl (.nilCheck rfl) ?_
  refine Rx.q rfl (.fieldAddr rfl) ?_
  refine Rx.q rfl (.fieldAddr rfl) ?_
  refine Rx.q rfl (.ld rfl rfl) ?_
  refine Rx.q rfl (.assign rfl) ?_
  refine Rx.next ?_
  refine Gx.ret fun a w hs => (fin_tmp hs rfl rfl ⟨rfl, rfl⟩)

theorem arith_Encoder_Chances (p : Nat) (e : EncS) (hl : e.ps.length ≤ 64) : Spc Tryd.prog 62 [.pointer (some ⟨p, 0, none⟩)] [] [enc p e] (fun u L => ∃ u', u = u' ∧ L = [sl 3 1 u' e.ps.length (intsV e.ps)]) := by
  refine Spc.intro Tryd.func62 rfl Tryd.ntmps62 (by kernel_rfl) rfl rfl fun w0 F0 => ?_
  refine enc_opnM (p := p) (e := e) fun v q hv => ?_
  refine Gx.seq_region ?_
  refine Rx.q rfl (.assign rfl) ?_
  refine Rx.next ?_
  refine Gx.seq ?_
  refine Gx.seq_region ?_
  refine Rx.q rfl (.move rfl) ?_
  refine Rx.q rfl (.eqnil_s rfl) ?_
  refine Rx.next ?_
  refine Gx.cond_f rfl ?_
  refine Gx.skip fun a w hs => (then_normal (Gx.go hs ?_))
  refine Gx.seq_region ?_
  refine Rx.q rfl (.move rfl) ?_
  refine Rx.q rfl (.nilCheck rfl) ?_
  refine Rx.q rfl (.fieldAddr rfl) ?_
  refine Rx.q rfl (.fieldAddr rfl) ?_
  refine Rx.q rfl (.ld rfl rfl) ?_
  refine Rx.cal (caps := []) (slices_Clone_int v e.ps.length (intsV e.ps) (one_ints _) (by simp) (by omega)) rfl rfl rfl ?_
  rintro u L1 ⟨u', rfl, rfl⟩
  refine Rx.q rfl (.assign rfl) ?_
  refine Rx.next ?_
  refine Gx.ret fun a w hs => (fin_tmp hs rfl rfl ⟨_, rfl, rfl⟩)
end Go.Proofs.YtoiebfpafdcbmaaDoor
