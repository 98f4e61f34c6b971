/- Contracts of layer arith: the decoder. -/
import Derived.Test.YtoiebfpafdcbmaaDoorB9
import Derived.Test.YtoiebfpafdcbmaaDoorKj
namespace Go.Proofs.YtoiebfpafdcbmaaDoor
open Go Go.RowKit K
set_option linter.unusedVariables false
set_option linter.unusedSimpArgs false

structure DecS where
  ps : List Int
  n : Nat
  low : Int
  size : Int
  code : Int
  i : Nat
  over : Nat

def bitN (l : List Int) (i : Nat) : Int := if bitOf l i then 1 else 0
def DecS.shift (l : List Int) (d : DecS) : DecS :=
  { d with low := (if strad d.low d.size then xorq d.low else d.low) * 2 % 65536, size := d.size * 2,
           code := (if strad d.low d.size then xorq d.code else d.code) * 2 % 65536 + bitN l d.i, i := d.i + 1, over := d.over + ovr l d.i 1 }

structure DecMid (d : DecS) (k : Nat) : Prop where
  low : 0 ≤ d.low
  size : 1 ≤ d.size
  top : d.low + d.size ≤ 65536
  grow : 16384 < d.size * 2 ^ k
  code : 0 ≤ d.code ∧ d.code < 65536
  tot : d.i + k ≤ 16 * d.n + 16
  over : d.over ≤ d.i

theorem bitN_01 (l : List Int) (i : Nat) : 0 ≤ bitN l i ∧ bitN l i ≤ 1 := by unfold bitN; split <;> omega
theorem xorq_range {p : Int} (h : 0 ≤ p ∧ p < 65536) : 0 ≤ xorq p ∧ xorq p < 65536 := by unfold xorq; split <;> omega
theorem DecMid.shift {d : DecS} {k : Nat} (l : List Int) (h : DecMid d (k + 1)) (hs : d.size ≤ 16384) : DecMid (d.shift l) k := by
  obtain ⟨h1, h2, h3, h4, h5, h6, h7⟩ := h
  have hg : 16384 < d.size * 2 * 2 ^ k := by
    have : d.size * 2 ^ (k + 1) = d.size * 2 * 2 ^ k := by rw [Int.pow_succ, Int.mul_assoc, Int.mul_comm (2 ^ k) 2]
    omega
  have hb := bitN_01 l d.i
  have ho := ovr_le l d.i 1
  have hx := xorq_range h5
  unfold DecS.shift
  by_cases hst : strad d.low d.size = true
  · rw [if_pos hst, if_pos hst]
    rw [strad_iff ⟨h1, h2, h3⟩] at hst
    refine ⟨?_, ?_, ?_, hg, ?_, ?_, ?_⟩ <;> simp only <;> try omega
    unfold xorq; omega
  · rw [if_neg hst, if_neg hst]
    rw [strad_iff ⟨h1, h2, h3⟩] at hst
    refine ⟨?_, ?_, ?_, hg, ?_, ?_, ?_⟩ <;> simp only <;> omega
theorem DecS.shift_n (l : List Int) (d : DecS) : (d.shift l).n = d.n := rfl
theorem DecS.shift_ps (l : List Int) (d : DecS) : (d.shift l).ps = d.ps := rfl

def DecS.norm (l : List Int) : Nat → DecS → DecS
  | 0, d => d
  | k + 1, d => if d.size ≤ 16384 then norm l k (d.shift l) else d
theorem DecS.norm_done {d : DecS} (l : List Int) (k : Nat) (h : ¬ d.size ≤ 16384) : DecS.norm l k d = d := by
  cases k with
  | zero => rfl
  | succ k => simp only [DecS.norm]; rw [if_neg h]

structure DecOk (d : DecS) : Prop where
  low : 0 ≤ d.low
  size : 16384 < d.size
  top : d.low + d.size ≤ 65536
  ps : PsOk d.ps
  code : 0 ≤ d.code ∧ d.code < 65536
  tot : d.i ≤ 16 * d.n + 16
  over : d.over ≤ d.i
def DecS.part (d : DecS) (c : Nat) : Int := partI d.size (d.ps.getD c 0)
def DecS.bit (d : DecS) (c : Nat) : Bool := decide (d.part c ≤ d.code - d.low)
def DecS.take (d : DecS) (c : Nat) : DecS :=
  { d with ps := learnP d.ps c (d.bit c), n := d.n + 1, low := takeLow d.low (d.part c) (d.bit c), size := takeSize d.size (d.part c) (d.bit c) }
def DecS.get (l : List Int) (d : DecS) (c : Nat) : DecS := DecS.norm l 15 (d.take c)
theorem DecOk.take {d : DecS} (h : DecOk d) {c : Nat} (hc : c < d.ps.length) : DecMid (d.take c) 15 := by
  obtain ⟨h1, h2, h3, h4, h5, h6, h7⟩ := h
  have hp := part_range (size := d.size) (p := d.ps.getD c 0) (by omega) (h4.getD hc)
  unfold DecS.take takeLow takeSize DecS.part
  refine ⟨?_, ?_, ?_, ?_, h5, ?_, h7⟩ <;> cases d.bit c <;> simp only [if_true, if_false, Bool.false_eq_true] <;> omega
theorem DecMid.norm_ok (l : List Int) {k : Nat} : ∀ {d : DecS}, DecMid d k → PsOk d.ps → DecOk (DecS.norm l k d) := by
  induction k with
  | zero => intro d h hp; exact ⟨h.low, by have := h.grow; simpa [DecS.norm] using this, h.top, hp, h.code, h.tot, h.over⟩
  | succ k ih =>
    intro d h hp
    by_cases hs : d.size ≤ 16384
    · simp only [DecS.norm]; rw [if_pos hs]
      exact ih (h.shift l hs) hp
    · rw [DecS.norm_done l _ hs]
      exact ⟨h.low, by omega, h.top, hp, h.code, by have := h.tot; omega, h.over⟩
theorem DecOk.get {d : DecS} (l : List Int) (h : DecOk d) {c : Nat} (hc : c < d.ps.length) : DecOk (d.get l c) :=
  (h.take hc).norm_ok l (learn_ok h.ps hc _)
theorem DecS.norm_n (l : List Int) (k : Nat) : ∀ d : DecS, (DecS.norm l k d).n = d.n := by
  induction k with
  | zero => intro d; rfl
  | succ k ih => intro d; simp only [DecS.norm]; split; rw [ih]; rfl; rfl
theorem DecS.norm_ps (l : List Int) (k : Nat) : ∀ d : DecS, (DecS.norm l k d).ps = d.ps := by
  induction k with
  | zero => intro d; rfl
  | succ k ih => intro d; simp only [DecS.norm]; split; rw [ih]; rfl; rfl
theorem DecS.get_n (l : List Int) (d : DecS) (c : Nat) : (d.get l c).n = d.n + 1 := by unfold DecS.get; rw [DecS.norm_n]; rfl
theorem DecS.get_len (l : List Int) (d : DecS) (c : Nat) : (d.get l c).ps.length = d.ps.length := by
  unfold DecS.get
  rw [DecS.norm_ps]
  exact learn_length ..

abbrev decL (p : Nat) (l : List Int) (d : DecS) (x : Value × Nat) : List As :=
  [pt p 82 [x.1, .int .i64 d.n, .int .i64 d.low, .int .i64 d.size, .int .i64 d.code, .pointer (some ⟨x.2, 0, none⟩)], sl 3 1 x.1 d.ps.length (intsV d.ps), rdr x.2 l d.i d.over]
/-- The decoder of these bytes at block p is in this state. -/
abbrev dec (p : Nat) (l : List Int) (d : DecS) : As := As.ex (decL p l d) (fun x => x.1.oneCell' = true)

section
variable {P : Program} {X : Cx} {E : List (Nat × Value)} {L L1 M : List As} {Q : Exit → Act → World → Prop} {a : Act} {w : World} {p : Nat} {l : List Int} {d : DecS}
theorem dec_opn {c : Code} [ht : TakeA L (dec p l d) L1] (h : ∀ (v : Value) (q : Nat), v.oneCell' = true → Gx P X c E (pt p 82 [v, .int .i64 d.n, .int .i64 d.low, .int .i64 d.size, .int .i64 d.code, .pointer (some ⟨q, 0, none⟩)] :: sl 3 1 v d.ps.length (intsV d.ps) :: rdr q l d.i d.over :: L1) M Q) : Gx P X c E L M Q :=
  Gx.opn (ht := ht) fun v hv => h v.1 v.2 hv
theorem dec_opnM {c : Code} {M1 : List As} [ht : TakeA M (dec p l d) M1] (h : ∀ (v : Value) (q : Nat), v.oneCell' = true → Gx P X c E L (pt p 82 [v, .int .i64 d.n, .int .i64 d.low, .int .i64 d.size, .int .i64 d.code, .pointer (some ⟨q, 0, none⟩)] :: sl 3 1 v d.ps.length (intsV d.ps) :: rdr q l d.i d.over :: M1) Q) : Gx P X c E L M Q :=
  Gx.opnM (ht := ht) fun v hv => h v.1 v.2 hv
theorem dec_shut (v : Value) (q : Nat) (hv : v.oneCell' = true) [ht : PickA L [pt p 82 [v, .int .i64 d.n, .int .i64 d.low, .int .i64 d.size, .int .i64 d.code, .pointer (some ⟨q, 0, none⟩)], sl 3 1 v d.ps.length (intsV d.ps), rdr q l d.i d.over] L1]
    (hs : St X E L M a w) : St X E (dec p l d :: L1) M a w := hs.shut (f := decL p l d) (v, q) hv (ht := ht)
end

theorem getV_one (l : List Int) (i : Nat) : getV l i 1 = bitN l i := by simp [getV, bitN]
theorem or_bit {p b : Int} (h : 0 ≤ p ∧ p < 2 ^ 62) (he : p % 2 = 0) (hb : 0 ≤ b ∧ b ≤ 1) :
    Value.int .i64 (IntKind.i64.wrap ((BitVec.ofInt IntKind.i64.bits p ||| BitVec.ofInt IntKind.i64.bits b).toNat : Int)) = .int .i64 (p + b) := by
  rw [or_i64 (by omega) (by omega)]
  congr 1
  have e : p.toNat ||| b.toNat = p.toNat + b.toNat := by
    rcases (show b = 0 ∨ b = 1 by omega) with rfl | rfl
    · simp
    · have := nat_or_pow 0 p.toNat
      rw [Nat.pow_zero, Nat.div_one, if_neg (by omega)] at this
      exact this
  rw [e]; omega

theorem arith_Decoder_shift (p : Nat) (l : List Int) (d : DecS) (k : Nat) (h : DecMid d (k + 1)) (hs : d.size ≤ 16384) (hn : d.n ≤ 2 ^ 32) (hl : BytesOk l) (hll : l.length ≤ 2 ^ 40) :
    Spc Tryd.prog 77 [.pointer (some ⟨p, 0, none⟩)] [dec p l d] [] (fun u L => u = .tuple #[] ∧ L = [dec p l (d.shift l)]) := by
  obtain ⟨h1, h2, h3, h4, h5, h6, h7⟩ := h
  refine Spc.intro Tryd.func77 rfl Tryd.ntmps77 (by kernel_rfl) rfl rfl fun w0 F0 => ?_
  refine dec_opn (p := p) (l := l) (d := d) fun v q hv => ?_
  refine Gx.join (α := Int × Int) (fun x => x = (if strad d.low d.size then xorq d.low else d.low, if strad d.low d.size then xorq d.code else d.code)) (fun _ => [(0, .pointer (some ⟨p, 0, none⟩))])
    (fun x => [pt p 82 [v, .int .i64 d.n, .int .i64 x.1, .int .i64 d.size, .int .i64 x.2, .pointer (some ⟨q, 0, none⟩)], sl 3 1 v d.ps.length (intsV d.ps), rdr q l d.i d.over]) ?_ ?_
  · refine Gx.seq_region ?_
    refine Rx.q rfl (.move rfl) ?_
    refine Rx.q rfl (.nilCheck rfl) ?_
    refine Rx.q rfl (.fieldAddr rfl) ?_
    refine Rx.q rfl (.ldn rfl rfl rfl) ?_
    refine Rx.q rfl (.cal (caps := []) (arith_span_straddles d.low d.size (by omega)) rfl rfl) ?_
    refine Rx.next ?_
    refine Gx.cond rfl (fun h => ?_) (fun h => ?_)
    · refine Gx.seq_region ?_
      refine Rx.q rfl (.move rfl) ?_
      refine Rx.q rfl (.nilCheck rfl) ?_
      refine Rx.q rfl (.fieldAddr rfl) ?_
      refine Rx.q rfl (.fieldAddr rfl) ?_
      refine Rx.q rfl (.ld rfl rfl) ?_
      refine Rx.q rfl ((OpQ.xor rfl rfl).val (xorq_v (by omega))) ?_
      refine Rx.q rfl (.nilCheck rfl) ?_
      refine Rx.q rfl (.fieldAddr rfl) ?_
      refine Rx.q rfl (.fieldAddr rfl) ?_
      refine Rx.st rfl rfl rfl ?_
      refine Rx.next ?_
      refine Gx.region ?_
      refine Rx.q rfl (.move rfl) ?_
      refine Rx.q rfl (.nilCheck rfl) ?_
      refine Rx.q rfl (.fieldAddr rfl) ?_
      refine Rx.q rfl (.ld rfl rfl) ?_
      refine Rx.q rfl ((OpQ.xor rfl rfl).val (xorq_v (by omega))) ?_
      refine Rx.q rfl (.nilCheck rfl) ?_
      refine Rx.q rfl (.fieldAddr rfl) ?_
      refine Rx.st rfl rfl rfl ?_
      refine Rx.nil fun a w hs => (then_normal ⟨(xorq d.low, xorq d.code), by rw [if_pos h, if_pos h], hs.to (.cons rfl .nil)⟩)
    · refine Gx.skip fun a w hs => (then_normal ⟨(d.low, d.code), by rw [if_neg (by simp [h]), if_neg (by simp [h])], hs.to (.cons rfl .nil)⟩)
  · rintro ⟨low, code⟩ he
    have hlow : 0 ≤ low ∧ low < 65536 := by
      have := congrArg Prod.fst he
      simp only at this
      rw [this]; split
      · exact xorq_range (by omega)
      · omega
    have hcode : 0 ≤ code ∧ code < 65536 := by
      have := congrArg Prod.snd he
      simp only at this
      rw [this]; split
      · exact xorq_range (by omega)
      · omega
    refine Gx.seq_region ?_
    refine Rx.q rfl (.move rfl) ?_
    refine Rx.q rfl (.nilCheck rfl) ?_
    refine Rx.q rfl (.fieldAddr rfl) ?_
    refine Rx.cal (caps := []) (arith_span_double p 2 82 [v, .int .i64 d.n, .int .i64 low, .int .i64 d.size, .int .i64 code, .pointer (some ⟨q, 0, none⟩)] low d.size rfl rfl (by omega)) rfl rfl rfl ?_
    rintro u L1 ⟨rfl, rfl⟩
    refine Rx.castL (L' := [pt p 82 [v, .int .i64 d.n, .int .i64 (low * 2 % 65536), .int .i64 (d.size * 2), .int .i64 code, .pointer (some ⟨q, 0, none⟩)], sl 3 1 v d.ps.length (intsV d.ps), rdr q l (d.i + 0) (d.over + ovr l d.i 0)]) (by rw [ovr_zero]; rfl) ?_
    refine Rx.next ?_
    refine Gx.to (E1 := [(0, .pointer (some ⟨p, 0, none⟩))]) (L1 := [rdr q l (d.i + 0) (d.over + ovr l d.i 0), pt p 82 [v, .int .i64 d.n, .int .i64 (low * 2 % 65536), .int .i64 (d.size * 2), .int .i64 code, .pointer (some ⟨q, 0, none⟩)], sl 3 1 v d.ps.length (intsV d.ps)]) (.cons rfl .nil) ?_
    refine Gx.region_flow 14 1 (fun k => [rdr q l (d.i + k) (d.over + ovr l d.i k), pt p 82 [v, .int .i64 d.n, .int .i64 (low * 2 % 65536), .int .i64 (d.size * 2), .int .i64 code, .pointer (some ⟨q, 0, none⟩)], sl 3 1 v d.ps.length (intsV d.ps)]) mixed (by kernel_rfl) ?_
    refine Fx.q rfl rfl (fun _ _ => .move rfl) ?_
    refine Fx.q rfl rfl (fun _ _ => .move rfl) ?_
    refine Fx.q rfl rfl (fun _ _ => .nilCheck rfl) ?_
    refine Fx.q rfl rfl (fun _ _ => .fieldAddr rfl) ?_
    refine Fx.q rfl rfl (fun _ _ => .ld rfl rfl) ?_
    refine Fx.q rfl rfl (fun _ _ => (OpQ.shl rfl rfl (by omega)).val (shl1 (by omega))) ?_
    refine Fx.q rfl rfl (fun _ _ => (OpQ.and rfl rfl).val (mask16 (by omega))) ?_
    refine Fx.q rfl rfl (fun _ _ => .move rfl) ?_
    refine Fx.q rfl rfl (fun _ _ => .nilCheck rfl) ?_
    refine Fx.q rfl rfl (fun _ _ => .fieldAddr rfl) ?_
    refine Fx.q rfl rfl (fun _ _ => .ld rfl rfl) ?_
    have ho1 := ovr_le l d.i 1
    refine Fx.c rfl rfl (OpT.call (caps := []) (bits_Reader_Get q l (d.i + 0) (d.over + ovr l d.i 0) 1 hl (by rw [ovr_zero]; omega)) (fun u L2 h => h) rfl rfl (by rw [ovr_zero]; rfl)) ?_
    have hb := bitN_01 l d.i
    refine Fx.q rfl rfl (fun _ _ => (OpQ.convert rfl).val (u := .int .i64 (bitN l d.i)) (by
      rw [show clampN 1 = 1 from rfl, Nat.add_zero, getV_one]; congr 1; rw [IntKind.wrap_i64]; omega)) ?_
    refine Fx.q rfl rfl (fun _ _ => (OpQ.or rfl rfl).val (or_bit (by omega) (by omega) hb)) ?_
    refine Fx.tail ?_
    refine Rx.q rfl (.nilCheck rfl) ?_
    refine Rx.q rfl (.fieldAddr rfl) ?_
    refine Rx.st rfl rfl rfl ?_
    refine Rx.nil fun a w hs => ?_
    have hs' := dec_shut (p := p) (l := l) (d := { d with low := low * 2 % 65536, size := d.size * 2, code := code * 2 % 65536 + bitN l d.i, i := d.i + 1, over := d.over + ovr l d.i 1 }) v q hv hs
    refine fin_end (L1 := [dec p l { d with low := low * 2 % 65536, size := d.size * 2, code := code * 2 % 65536 + bitN l d.i, i := d.i + 1, over := d.over + ovr l d.i 1 }]) hs' rfl ⟨rfl, ?_⟩
    have e1 : low = _ := congrArg Prod.fst he
    have e2 : code = _ := congrArg Prod.snd he
    simp only at e1 e2
    rw [DecS.shift, ← e1, ← e2]

def DecS.getI (l : List Int) (d : DecS) (c : Int) : DecS := if hasP d.ps c then d.get l c.toNat else d
def DecS.bitI (d : DecS) (c : Int) : Bool := hasP d.ps c && d.bit c.toNat

theorem arith_Decoder_Get (p : Nat) (l : List Int) (d : DecS) (c : Int) (h : DecOk d) (hn : d.n ≤ 2 ^ 30) (hl : BytesOk l) (hll : l.length ≤ 2 ^ 40) (hpl : d.ps.length ≤ 64) :
    Spc Tryd.prog 47 [.pointer (some ⟨p, 0, none⟩), .int .i64 c] [dec p l d] [] (fun u L => u = .bool (d.bitI c) ∧ L = [dec p l (d.getI l c)]) := by
  obtain ⟨h1, h2, h3, h4, h5, h6, h7⟩ := id h
  refine Spc.intro Tryd.func47 rfl Tryd.ntmps47 (by kernel_rfl) rfl rfl fun w0 F0 => ?_
  refine dec_opn (p := p) (l := l) (d := d) fun v q hv => ?_
  refine Gx.seq_region ?_
  refine Rx.q rfl (.assign rfl) ?_
  refine Rx.next ?_
  refine Gx.seq ?_
  refine Gx.seq_region ?_
  refine Rx.q rfl (.move rfl) ?_
  refine Rx.q rfl (.eqnil_s rfl) ?_
  refine Rx.q rfl (.move rfl) ?_
  refine Rx.guard_yes rfl rfl rfl (Rx.q rfl (.move rfl) ?_)
  refine Rx.guard_yes rfl rfl rfl (Rx.q rfl (.nilCheck rfl) ?_)
  refine Rx.guard_yes rfl rfl rfl (Rx.q rfl (.fieldAddr rfl) ?_)
  refine Rx.guard_yes rfl rfl rfl (Rx.q rfl (.move rfl) ?_)
  refine Rx.guard_yes rfl rfl rfl (Rx.q rfl (.cal (caps := []) (arith_model_has p 0 82 3 [v, .int .i64 d.n, .int .i64 d.low, .int .i64 d.size, .int .i64 d.code, .pointer (some ⟨q, 0, none⟩)] v d.ps c rfl) rfl rfl) ?_)
  refine Rx.guard_yes rfl rfl rfl (Rx.q rfl (.not rfl) ?_)
  refine Rx.q rfl (.pick_f rfl rfl) ?_
  refine Rx.next ?_
  refine Gx.cond rfl (fun hh => ?_) (fun hh => ?_)
  · have hh : hasP d.ps c = false := by simpa using hh
    refine Gx.seq_region ?_
    refine Rx.q rfl (.assign rfl) ?_
    refine Rx.next ?_
    refine Gx.ret fun a w hs => (then_ret (fin_tmp (L1 := [dec p l d]) (dec_shut (p := p) (l := l) (d := d) v q hv hs) rfl rfl ⟨by simp [DecS.bitI, hh], by simp [DecS.getI, hh]⟩))
  · have hh : hasP d.ps c = true := by simpa using hh
    have hc : 0 ≤ c ∧ c < d.ps.length := by simpa [hasP] using hh
    obtain ⟨c, rfl⟩ : ∃ k : Nat, c = k := ⟨c.toNat, by omega⟩
    have hcl : c < d.ps.length := by omega
    have hp := h4.getD hcl
    have hpr := part_range (size := d.size) (p := d.ps.getD c 0) (by omega) hp
    have hm1 : d.size * 252 ≤ d.size * d.ps.getD c 0 := Int.mul_le_mul_of_nonneg_left hp.1 (by omega)
    have hm2 : d.size * d.ps.getD c 0 ≤ d.size * 65283 := Int.mul_le_mul_of_nonneg_left hp.2 (by omega)
    have hpe : d.part c = partI d.size (d.ps.getD c 0) := rfl
    refine Gx.skip fun a w hs => (then_normal (Gx.go hs ?_))
    refine Gx.seq ?_
    refine Gx.region_quiet mixed (by kernel_rfl) ?_
    refine Dx.q rfl (.move rfl) ?_
    refine Dx.q rfl (.nilCheck rfl) ?_
    refine Dx.q rfl (.fieldAddr rfl) ?_
    refine Dx.q rfl (.ldn rfl rfl rfl) ?_
    refine Dx.q rfl (.move rfl) ?_
    refine Dx.q rfl (.nilCheck rfl) ?_
    refine Dx.q rfl (.fieldAddr rfl) ?_
    refine Dx.q rfl (.fieldAddr rfl) ?_
    refine Dx.q rfl (.ld rfl rfl) ?_
    refine Dx.q rfl (.move rfl) ?_
    refine Dx.q rfl (.idx (j := c) rfl rfl (by omega) (by omega)) ?_
    refine Dx.q rfl (.ldi (l := d.ps) rfl rfl hcl) ?_
    refine Dx.q rfl ((OpQ.cal (caps := []) (arith_span_part d.low d.size (d.ps.getD c 0) (by omega)) rfl rfl).val (u := .int .i64 (d.part c)) rfl) ?_
    refine Dx.q rfl (.assign rfl) ?_
    refine Dx.nilQ fun a w hs => (then_normal (Gx.go hs ?_))
    refine Gx.seq ?_
    refine Gx.region_quiet mixed (by kernel_rfl) ?_
    refine Dx.q rfl (.move rfl) ?_
    refine Dx.q rfl (.nilCheck rfl) ?_
    refine Dx.q rfl (.fieldAddr rfl) ?_
    refine Dx.q rfl (.ld rfl rfl) ?_
    refine Dx.q rfl (.move rfl) ?_
    refine Dx.q rfl (.nilCheck rfl) ?_
    refine Dx.q rfl (.fieldAddr rfl) ?_
    refine Dx.q rfl (.fieldAddr rfl) ?_
    refine Dx.q rfl (.ld rfl rfl) ?_
    refine Dx.q rfl (.sub_ rfl rfl (by omega)) ?_
    refine Dx.q rfl (.move rfl) ?_
    refine Dx.q rfl ((OpQ.geq rfl rfl).val (u := .bool (d.bit c)) rfl) ?_
    refine Dx.q rfl (.assign rfl) ?_
    refine Dx.nilQ fun a w hs => (then_normal (Gx.go hs ?_))
    refine Gx.seq_region ?_
    refine Rx.q rfl (.move rfl) ?_
    refine Rx.q rfl (.nilCheck rfl) ?_
    refine Rx.q rfl (.fieldAddr rfl) ?_
    refine Rx.q rfl (.move rfl) ?_
    refine Rx.q rfl (.move rfl) ?_
    refine Rx.cal (caps := []) (arith_span_take p 2 82 [v, .int .i64 d.n, .int .i64 d.low, .int .i64 d.size, .int .i64 d.code, .pointer (some ⟨q, 0, none⟩)] d.low d.size (d.part c) (d.bit c) rfl rfl (by omega)) rfl rfl rfl ?_
    rintro u L1 ⟨rfl, rfl⟩
    refine Rx.castL (L' := [pt p 82 [v, .int .i64 d.n, .int .i64 (takeLow d.low (d.part c) (d.bit c)), .int .i64 (takeSize d.size (d.part c) (d.bit c)), .int .i64 d.code, .pointer (some ⟨q, 0, none⟩)], sl 3 1 v d.ps.length (intsV d.ps), rdr q l d.i d.over]) rfl ?_
    refine Rx.next ?_
    refine Gx.seq_region ?_
    refine Rx.q rfl (.move rfl) ?_
    refine Rx.q rfl (.nilCheck rfl) ?_
    refine Rx.q rfl (.fieldAddr rfl) ?_
    refine Rx.q rfl (.move rfl) ?_
    refine Rx.q rfl (.move rfl) ?_
    refine Rx.cal (caps := []) (arith_model_learn p 0 82 3 [v, .int .i64 d.n, .int .i64 (takeLow d.low (d.part c) (d.bit c)), .int .i64 (takeSize d.size (d.part c) (d.bit c)), .int .i64 d.code, .pointer (some ⟨q, 0, none⟩)] v d.ps d.n c (d.bit c) rfl rfl hcl (by omega)) rfl rfl rfl ?_
    rintro u L1 ⟨rfl, rfl⟩
    refine Rx.next ?_
    refine Gx.seq ?_
    refine Gx.block ?_
    refine Gx.castL (L' := [pt p 82 [v, .int .i64 (d.take c).n, .int .i64 (d.take c).low, .int .i64 (d.take c).size, .int .i64 (d.take c).code, .pointer (some ⟨q, 0, none⟩)], sl 3 1 v (d.take c).ps.length (intsV (d.take c).ps), rdr q l (d.take c).i (d.take c).over]) rfl ?_
    refine Gx.shut (f := decL p l (d.take c)) (φ := fun x => x.1.oneCell' = true) (v, q) hv ?_
    have hmid := h.take hcl
    refine Gx.lp (α := DecS × Nat) (fun x => DecMid x.1 x.2 ∧ x.1.n = d.n + 1 ∧ DecS.norm l x.2 x.1 = d.get l c) (fun x => x.2) (fun x => [(0, .pointer (some ⟨p, 0, none⟩)), (6, .bool (d.bit c))]) (fun x => [dec p l x.1]) (d.take c, 15) ⟨hmid, rfl, rfl⟩ ?_ ?_
    · exact .cons rfl (.cons rfl .nil)
    rintro ⟨x, k⟩ ⟨hx, hxn, hxe⟩
    simp only at hx hxn hxe
    refine dec_opn (p := p) (l := l) (d := x) fun v q hv => ?_
    refine Gx.seq ?_
    refine Gx.seq_region ?_
    refine Rx.q rfl (.move rfl) ?_
    refine Rx.q rfl (.nilCheck rfl) ?_
    refine Rx.q rfl (.fieldAddr rfl) ?_
    refine Rx.q rfl (.fieldAddr rfl) ?_
    refine Rx.q rfl (.ld rfl rfl) ?_
    refine Rx.q rfl (.leq rfl rfl) ?_
    refine Rx.next ?_
    refine Gx.cond rfl (fun h => ?_) (fun h => ?_)
    · have h := of_decide_eq_true h
      obtain ⟨k, rfl⟩ : ∃ j, k = j + 1 := by
        cases k with
        | zero => have := hx.grow; omega
        | succ j => exact ⟨j, rfl⟩
      refine Gx.skip fun a w hs => (then_normal (Gx.go hs ?_))
      refine Gx.shut (f := decL p l x) (φ := fun x => x.1.oneCell' = true) (v, q) hv ?_
      refine Gx.block ?_
      refine Gx.region ?_
      refine Rx.q rfl (.move rfl) ?_
      refine Rx.cal (caps := []) (arith_Decoder_shift p l x k hx h (by omega) hl hll) rfl rfl rfl ?_
      rintro u L1 ⟨rfl, rfl⟩
      refine Rx.nil fun a w hs => (blk_normal (then_normal ⟨(x.shift l, k), ⟨hx.shift l h, hxn, ?_⟩, Nat.lt_succ_self k, hs.to (.cons rfl (.cons rfl .nil))⟩))
      simp only [DecS.norm] at hxe
      rw [if_pos h] at hxe
      exact hxe
    · have h := of_decide_eq_false h
      rw [DecS.norm_done l _ h] at hxe
      subst hxe
      refine Gx.exit fun a w hs => (then_exit (then_exit (blk_exit (then_normal (Gx.go hs ?_)))))
      refine Gx.seq_region ?_
      refine Rx.q rfl (.move rfl) ?_
      refine Rx.q rfl (.assign rfl) ?_
      refine Rx.next ?_
      refine Gx.ret fun a w hs => (fin_tmp (L1 := [dec p l (d.get l c)]) (dec_shut (p := p) (l := l) (d := d.get l c) v q hv hs) rfl rfl ⟨by simp [DecS.bitI, hh], by simp [DecS.getI, hh]⟩)

def DecS.new (l : List Int) (c : Int) : DecS := ⟨List.replicate (ctxN c) 32768, 0, 0, 65536, getV l 0 16, 16, ovr l 0 16⟩
theorem DecS.new_ok (l : List Int) (c : Int) : DecOk (DecS.new l c) := ⟨by simp [DecS.new], by simp [DecS.new], by simp [DecS.new], fun p hp => by
  have := List.eq_of_mem_replicate hp
  omega, by have := getV_range l 0 16; simpa [DecS.new] using this, by simp [DecS.new], by have := ovr_le l 0 16; simpa [DecS.new] using this⟩

theorem arith_NewDecoder (v : Value) (l : List Int) (c : Int) (hl : BytesOk l) (h : l.length ≤ 2 ^ 40) : Spc Tryd.prog 11 [v, .int .i64 c] [] [rd 1 v l.length (bytesV l)]
    (fun u L => ∃ p, u = .pointer (some ⟨p, 0, none⟩) ∧ L = [dec p l (DecS.new l c)]) := by
  refine Spc.intro Tryd.func11 rfl Tryd.ntmps11 (by kernel_rfl) rfl rfl fun w0 F0 => ?_
  refine Gx.seq_region ?_
  refine Rx.q rfl (.assign rfl) ?_
  refine Rx.next ?_
  refine Gx.seq_region ?_
  refine Rx.q rfl (.move rfl) ?_
  refine Rx.cal (caps := []) (arith_fresh c) rfl rfl rfl ?_
  rintro u L1 ⟨x, rfl, hx, rfl⟩
  refine Rx.q rfl (.build (cs := [.int .i64 0, .int .i64 65536]) rfl (by rfl)) ?_
  refine Rx.q rfl (.move rfl) ?_
  refine Rx.cal (caps := []) (bits_New v l h) rfl rfl rfl ?_
  rintro u L1 ⟨q, rfl, rfl⟩
  refine Rx.q rfl (.build (cs := [x, .int .i64 0, .int .i64 0, .int .i64 65536, .int .i64 0, .pointer (some ⟨q, 0, none⟩)]) rfl (by rfl)) ?_
  refine Rx.box (vs := [x, .int .i64 0, .int .i64 0, .int .i64 65536, .int .i64 0, .pointer (some ⟨q, 0, none⟩)]) rfl rfl rfl fun b12 => ?_
  refine Rx.q rfl (.assign rfl) ?_
  refine Rx.next ?_
  refine Gx.seq_region ?_
  refine Rx.q rfl (.move rfl) ?_
  refine Rx.q rfl (.move rfl) ?_
  refine Rx.q rfl (.nilCheck rfl) ?_
  refine Rx.q rfl (.fieldAddr rfl) ?_
  refine Rx.q rfl (.ld rfl rfl) ?_
  refine Rx.cal (caps := []) (bits_Reader_Get q l 0 0 16 hl (by omega)) rfl rfl rfl ?_
  rintro u L1 ⟨rfl, rfl⟩
  have hg := getV_range l 0 16
  refine Rx.q rfl ((OpQ.convert rfl).val (u := .int .i64 (getV l 0 16)) (by
    rw [show clampN 16 = 16 from rfl]; congr 1; rw [IntKind.wrap_i64]; omega)) ?_
  refine Rx.q rfl (.nilCheck rfl) ?_
  refine Rx.q rfl (.fieldAddr rfl) ?_
  refine Rx.st rfl rfl rfl ?_
  refine Rx.next ?_
  refine Gx.seq_region ?_
  refine Rx.q rfl (.move rfl) ?_
  refine Rx.q rfl (.assign rfl) ?_
  refine Rx.next ?_
  refine Gx.castL (L' := [pt b12 82 [x, .int .i64 (DecS.new l c).n, .int .i64 (DecS.new l c).low, .int .i64 (DecS.new l c).size, .int .i64 (DecS.new l c).code, .pointer (some ⟨q, 0, none⟩)], rdr q l (DecS.new l c).i (DecS.new l c).over, sl 3 1 x (DecS.new l c).ps.length (intsV (DecS.new l c).ps)]) (by
    rw [show (DecS.new l c).ps.length = ctxN c from List.length_replicate .., show (DecS.new l c).over = 0 + ovr l 0 16 from (Nat.zero_add _).symm]; rfl) ?_
  refine Gx.ret fun a w hs => (fin_tmp (L1 := [dec b12 l (DecS.new l c)]) (dec_shut (p := b12) (l := l) (d := DecS.new l c) x q hx hs) rfl rfl ⟨b12, rfl, rfl⟩)

theorem arith_Decoder_Count (p : Nat) (l : List Int) (d : DecS) : Spc Tryd.prog 14 [.pointer (some ⟨p, 0, none⟩)] [] [dec p l d] (ret (.int .i64 d.n)) := by
  refine Spc.intro Tryd.func14 rfl Tryd.ntmps14 (by kernel_rfl) rfl rfl fun w0 F0 => ?_
  refine dec_opnM (p := p) (l := l) (d := d) fun v q hv => ?_
  refine Gx.seq_region ?_
  refine Rx.q rfl (.assign rfl) ?_
  refine Rx.next ?_
  refine Gx.seq ?_
  refine Gx.seq_region ?_
  refine Rx.q rfl (.move rfl) ?_
  refine Rx.q rfl (.eqnil_s rfl) ?_
  refine Rx.next ?_
  refine Gx.cond_f rfl ?_
  refine Gx.skip fun a w hs => (then_normal (Gx.go hs ?_))
  refine Gx.seq_region ?_
  refine Rx.q rfl (.move rfl) ?_
  refine Rx.q rfl (.nilCheck rfl) ?_
  refine Rx.q rfl (.fieldAddr rfl) ?_
  refine Rx.q rfl (.fieldAddr rfl) ?_
  refine Rx.q rfl (.ld rfl rfl) ?_
  refine Rx.q rfl (.assign rfl) ?_
  refine Rx.next ?_
  refine Gx.ret fun a w hs => (fin_tmp hs rfl rfl ⟨rfl, rfl⟩)

theorem arith_Decoder_Chances (p : Nat) (l : List Int) (d : DecS) (hl : d.ps.length ≤ 64) : Spc Tryd.prog 65 [.pointer (some ⟨p, 0, none⟩)] [] [dec p l d] (fun u L => ∃ u', u = u' ∧ L = [sl 3 1 u' d.ps.length (intsV d.ps)]) := by
  refine Spc.intro Tryd.func65 rfl Tryd.ntmps65 (by kernel_rfl) rfl rfl fun w0 F0 => ?_
  refine dec_opnM (p := p) (l := l) (d := d) fun v q hv => ?_
  refine Gx.seq_region ?_
  refine Rx.q rfl (.assign rfl) ?_
  refine Rx.next ?_
  refine Gx.seq ?_
  refine Gx.seq_region ?_
  refine Rx.q rfl (.move rfl) ?_
  refine Rx.q rfl (.eqnil_s rfl) ?_
  refine Rx.next ?_
  refine Gx.cond_f rfl ?_
  refine Gx.skip fun a w hs => (then_normal (Gx.go hs ?_))
  refine Gx.seq_region ?_
  refine Rx.q rfl (.move rfl) ?_
  refine Rx.q rfl (.nilCheck rfl) ?_
  refine Rx.q rfl (.fieldAddr rfl) ?_
  refine Rx.q rfl (.fieldAddr rfl) ?_
  refine Rx.q rfl (.ld rfl rfl) ?_
  refine Rx.cal (caps := []) (slices_Clone_int v d.ps.length (intsV d.ps) (one_ints _) (by simp) (by omega)) rfl rfl rfl ?_
  rintro u L1 ⟨u', rfl, rfl⟩
  refine Rx.q rfl (.assign rfl) ?_
  refine Rx.next ?_
  refine Gx.ret fun a w hs => (fin_tmp hs rfl rfl ⟨_, rfl, rfl⟩)
end Go.Proofs.YtoiebfpafdcbmaaDoor
