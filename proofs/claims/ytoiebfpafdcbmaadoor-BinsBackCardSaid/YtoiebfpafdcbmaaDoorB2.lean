/- Contracts of layer arith's small methods: a span's and a model's. -/
import Derived.Test.YtoiebfpafdcbmaaDoorB0
import Derived.Test.YtoiebfpafdcbmaaDoorB1
namespace Go.Proofs.YtoiebfpafdcbmaaDoor
open Go Go.RowKit K
set_option linter.unusedVariables false
set_option linter.unusedSimpArgs false

theorem shr16 (p : Int) : (Value.int .i64 (p / 2 ^ (min (Int.toNat 16) IntKind.i64.bits))) = .int .i64 (p / 65536) := rfl
theorem shl1 {p : Int} (h : 0 ≤ p ∧ p < 2 ^ 60) : (Value.int .i64 (IntKind.i64.wrap (p * 2 ^ (min (Int.toNat 1) IntKind.i64.bits)))) = .int .i64 (p * 2) := by
  show Value.int .i64 (IntKind.i64.wrap (p * 2 ^ 1)) = _
  rw [wrap_in (by omega)]; simp
theorem mask16 {p : Int} (h : 0 ≤ p ∧ p < 2 ^ 63) : Value.int .i64 (IntKind.i64.wrap ((BitVec.ofInt IntKind.i64.bits p &&& BitVec.ofInt IntKind.i64.bits 65535).toNat : Int)) = .int .i64 (p % 65536) := by
  have := mask_i64 16 h (by omega); simpa using this
theorem set_set_same {l : List Value} {i : Nat} {x y : Value} : (l.set i x).set i y = l.set i y := List.set_set ..
theorem get_set_ne {l : List Value} {i j : Nat} {x v : Value} (h : i ≠ j) (hg : l[j]? = some v) : (l.set i x)[j]? = some v := by rw [List.getElem?_set_ne h]; exact hg
theorem lt_of_get {l : List Value} {i : Nat} {v : Value} (h : l[i]? = some v) : i < l.length := (List.getElem?_eq_some_iff.1 h).1

/-! ### A span -/
theorem arith_span_part (low size p : Int) (h : 0 ≤ size * p ∧ size * p < 2 ^ 62) : Spc Tryd.prog 68 [.agg #[.int .i64 low, .int .i64 size], .int .i64 p] [] [] (ret (.int .i64 (size * p / 65536))) := by
  refine Spc.intro Tryd.func68 rfl Tryd.ntmps68 (by kernel_rfl) rfl rfl fun w0 F0 => ?_
  refine Gx.seq_region ?_
  refine Rx.box rfl rfl rfl fun b2 => ?_
  refine Rx.q rfl (.assign rfl) ?_
  refine Rx.next ?_
  refine Gx.seq_region ?_
  refine Rx.q rfl (.fieldAddr rfl) ?_
  refine Rx.q rfl (.ld rfl rfl) ?_
  refine Rx.q rfl (.move rfl) ?_
  refine Rx.q rfl (.mul_ rfl rfl (by omega)) ?_
  refine Rx.q rfl ((OpQ.shr rfl rfl (by omega)).val (shr16 _)) ?_
  refine Rx.q rfl (.assign rfl) ?_
  refine Rx.next ?_
  refine Gx.ret fun a w hs => (fin_tmp hs rfl rfl ⟨rfl, rfl⟩)

def strad (low size : Int) : Bool := decide (low / 32768 % 2 ≠ (low + size - 1) / 32768 % 2)

theorem arith_span_straddles (low size : Int) (h : 0 ≤ low ∧ low < 2 ^ 60 ∧ 1 ≤ size ∧ size < 2 ^ 60) : Spc Tryd.prog 90 [.agg #[.int .i64 low, .int .i64 size]] [] [] (ret (.bool (strad low size))) := by
  refine Spc.intro Tryd.func90 rfl Tryd.ntmps90 (by kernel_rfl) rfl rfl fun w0 F0 => ?_
  refine Gx.seq_region ?_
  refine Rx.box rfl rfl rfl fun b1 => ?_
  refine Rx.q rfl (.assign rfl) ?_
  refine Rx.next ?_
  refine Gx.seq_region ?_
  refine Rx.q rfl (.fieldAddr rfl) ?_
  refine Rx.q rfl (.ld rfl rfl) ?_
  refine Rx.q rfl (.fieldAddr rfl) ?_
  refine Rx.q rfl (.ld rfl rfl) ?_
  refine Rx.q rfl (.fieldAddr rfl) ?_
  refine Rx.q rfl (.ld rfl rfl) ?_
  refine Rx.q rfl (.add_ rfl rfl (by omega)) ?_
  refine Rx.q rfl (.sub_ rfl rfl (by omega)) ?_
  refine Rx.q rfl (.xor rfl rfl) ?_
  refine Rx.q rfl (.and rfl rfl) ?_
  refine Rx.q rfl ((OpQ.neq rfl rfl).val (u := .bool (strad low size)) (by
    have := part_i64 (p := low) (q := low + size - 1) 15 (by omega) (by omega) (by omega)
    unfold strad
    congr 1
    exact decide_eq_decide.2 (by simpa using this))) ?_
  refine Rx.q rfl (.assign rfl) ?_
  refine Rx.next ?_
  refine Gx.ret fun a w hs => (fin_tmp hs rfl rfl ⟨rfl, rfl⟩)

/-- The part of a bit is taken. -/
def takeLow (low part : Int) (t : Bool) : Int := if t then low + part else low
def takeSize (size part : Int) (t : Bool) : Int := if t then size - part else part

theorem arith_span_take (b o : Nat) (T : TypeId) (cs : List Value) (low size part : Int) (t : Bool) (h0 : cs[o]? = some (.int .i64 low)) (h1 : cs[o + 1]? = some (.int .i64 size))
    (h : 0 ≤ low ∧ low < 2 ^ 60 ∧ 0 ≤ size ∧ size < 2 ^ 60 ∧ 0 ≤ part ∧ part < 2 ^ 60) :
    Spc Tryd.prog 67 [.pointer (some ⟨b, o, none⟩), .int .i64 part, .bool t] [pt b T cs] []
      (fun v L => v = .tuple #[] ∧ L = [pt b T ((cs.set o (.int .i64 (takeLow low part t))).set (o + 1) (.int .i64 (takeSize size part t)))]) := by
  have g0 := lt_of_get h0
  have g1 := lt_of_get h1
  refine Spc.intro Tryd.func67 rfl Tryd.ntmps67 (by kernel_rfl) rfl rfl fun w0 F0 => ?_
  refine Gx.seq_region ?_
  refine Rx.q rfl (.move rfl) ?_
  refine Rx.next ?_
  refine Gx.cond rfl (fun h' => ?_) (fun h' => ?_) <;> subst h'
  · refine Gx.seq_region ?_
    refine Rx.q rfl (.move rfl) ?_
    refine Rx.q rfl (.nilCheck rfl) ?_
    refine Rx.q rfl (.fieldAddr rfl) ?_
    refine Rx.q rfl (.ld rfl h0) ?_
    refine Rx.q rfl (.move rfl) ?_
    refine Rx.q rfl (.add_ rfl rfl (by omega)) ?_
    refine Rx.q rfl (.nilCheck rfl) ?_
    refine Rx.q rfl (.fieldAddr rfl) ?_
    refine Rx.stx rfl rfl rfl g0 rfl ?_
    refine Rx.next ?_
    refine Gx.region ?_
    refine Rx.q rfl (.move rfl) ?_
    refine Rx.q rfl (.nilCheck rfl) ?_
    refine Rx.q rfl (.fieldAddr rfl) ?_
    refine Rx.q rfl (.ld rfl (get_set_ne (by omega) h1)) ?_
    refine Rx.q rfl (.move rfl) ?_
    refine Rx.q rfl (.sub_ rfl rfl (by omega)) ?_
    refine Rx.q rfl (.nilCheck rfl) ?_
    refine Rx.q rfl (.fieldAddr rfl) ?_
    refine Rx.stx rfl rfl rfl (by simpa using g1) rfl ?_
    refine Rx.nil fun a w hs => (fin_end (hs.castL (L' := [pt b T ((cs.set o (.int .i64 (takeLow low part true))).set (o + 1) (.int .i64 (takeSize size part true)))]) rfl) rfl ⟨rfl, rfl⟩)
  · refine Gx.region ?_
    refine Rx.q rfl (.move rfl) ?_
    refine Rx.q rfl (.move rfl) ?_
    refine Rx.q rfl (.nilCheck rfl) ?_
    refine Rx.q rfl (.fieldAddr rfl) ?_
    refine Rx.stx rfl rfl rfl g1 rfl ?_
    have e : cs.set o (.int .i64 low) = cs := List.ext_getElem? fun i => by
      by_cases hi : o = i
      · subst hi; rw [List.getElem?_set_self g0]; exact h0.symm
      · rw [List.getElem?_set_ne hi]
    refine Rx.nil fun a w hs => (fin_end (hs.castL (L' := [pt b T ((cs.set o (.int .i64 (takeLow low part false))).set (o + 1) (.int .i64 (takeSize size part false)))]) (by simp only [takeLow, takeSize, Bool.false_eq_true, if_false, e])) rfl ⟨rfl, rfl⟩)

theorem arith_span_double (b o : Nat) (T : TypeId) (cs : List Value) (low size : Int) (h0 : cs[o]? = some (.int .i64 low)) (h1 : cs[o + 1]? = some (.int .i64 size))
    (h : 0 ≤ low ∧ low < 2 ^ 60 ∧ 0 ≤ size ∧ size < 2 ^ 60) :
    Spc Tryd.prog 91 [.pointer (some ⟨b, o, none⟩)] [pt b T cs] []
      (fun v L => v = .tuple #[] ∧ L = [pt b T ((cs.set o (.int .i64 (low * 2 % 65536))).set (o + 1) (.int .i64 (size * 2)))]) := by
  have g0 := lt_of_get h0
  have g1 := lt_of_get h1
  refine Spc.intro Tryd.func91 rfl Tryd.ntmps91 (by kernel_rfl) rfl rfl fun w0 F0 => ?_
  refine Gx.seq_region ?_
  refine Rx.q rfl (.move rfl) ?_
  refine Rx.q rfl (.move rfl) ?_
  refine Rx.q rfl (.nilCheck rfl) ?_
  refine Rx.q rfl (.fieldAddr rfl) ?_
  refine Rx.q rfl (.ld rfl h0) ?_
  refine Rx.q rfl ((OpQ.shl rfl rfl (by omega)).val (shl1 (by omega))) ?_
  refine Rx.q rfl ((OpQ.and rfl rfl).val (mask16 (by omega))) ?_
  refine Rx.q rfl (.nilCheck rfl) ?_
  refine Rx.q rfl (.fieldAddr rfl) ?_
  refine Rx.stx rfl rfl rfl g0 rfl ?_
  refine Rx.next ?_
  refine Gx.region ?_
  refine Rx.q rfl (.move rfl) ?_
  refine Rx.q rfl (.nilCheck rfl) ?_
  refine Rx.q rfl (.fieldAddr rfl) ?_
  refine Rx.q rfl (.ld rfl (get_set_ne (by omega) h1)) ?_
  refine Rx.q rfl ((OpQ.shl rfl rfl (by omega)).val (shl1 (by omega))) ?_
  refine Rx.q rfl (.nilCheck rfl) ?_
  refine Rx.q rfl (.fieldAddr rfl) ?_
  refine Rx.stx rfl rfl rfl (by simpa using g1) rfl ?_
  refine Rx.nil fun a w hs => (fin_end hs rfl ⟨rfl, rfl⟩)

/-! ### A model -/
def hasP (ps : List Int) (c : Int) : Bool := decide (0 ≤ c ∧ c < ps.length)

theorem arith_model_has (b o : Nat) (T e : TypeId) (cs : List Value) (vp : Value) (ps : List Int) (c : Int) (h0 : cs[o]? = some vp) :
    Spc Tryd.prog 66 [.pointer (some ⟨b, o, none⟩), .int .i64 c] [] [pt b T cs, sl e 1 vp ps.length (ps.map (Value.int .i64))] (ret (.bool (hasP ps c))) := by
  refine Spc.intro Tryd.func66 rfl Tryd.ntmps66 (by kernel_rfl) rfl rfl fun w0 F0 => ?_
  refine Gx.seq_region ?_
  refine Rx.q rfl (.assign rfl) ?_
  refine Rx.next ?_
  refine Gx.seq_region ?_
  refine Rx.q rfl (.move rfl) ?_
  refine Rx.q rfl (.nenil_s rfl) ?_
  refine Rx.q rfl (.move rfl) ?_
  refine Rx.guard_yes rfl rfl rfl (Rx.q rfl (.move rfl) ?_)
  refine Rx.guard_yes rfl rfl rfl (Rx.q rfl (.geq rfl rfl) ?_)
  refine Rx.q rfl (.pick_t rfl rfl) ?_
  refine Rx.q rfl (.move rfl) ?_
  refine Rx.split 11 rfl (fun h11 => ?_) (fun h11 => ?_)
  · have h11 := of_decide_eq_true h11
    refine Rx.guard_yes rfl rfl rfl (Rx.q rfl (.move rfl) ?_)
    refine Rx.guard_yes rfl rfl rfl (Rx.q rfl (.move rfl) ?_)
    refine Rx.guard_yes rfl rfl rfl (Rx.q rfl (.nilCheck rfl) ?_)
    refine Rx.guard_yes rfl rfl rfl (Rx.q rfl (.fieldAddr rfl) ?_)
    refine Rx.guard_yes rfl rfl rfl (Rx.q rfl (.ld rfl h0) ?_)
    refine Rx.guard_yes rfl rfl rfl (Rx.q rfl (.lens rfl) ?_)
    refine Rx.guard_yes rfl rfl rfl (Rx.q rfl (.lss rfl rfl) ?_)
    refine Rx.q rfl (.pick_t rfl rfl) ?_
    refine Rx.q rfl (.assign rfl) ?_
    refine Rx.next ?_
    refine Gx.ret fun a w hs => (fin_tmp hs rfl rfl ⟨by unfold hasP; congr 1; exact decide_eq_decide.2 (by omega), rfl⟩)
  · have h11 := of_decide_eq_false h11
    refine Rx.guard_no rfl rfl rfl rfl rfl ?_
    refine Rx.guard_no rfl rfl rfl rfl rfl ?_
    refine Rx.guard_no rfl rfl rfl rfl rfl ?_
    refine Rx.guard_no rfl rfl rfl rfl rfl ?_
    refine Rx.guard_no rfl rfl rfl rfl rfl ?_
    refine Rx.guard_no rfl rfl rfl rfl rfl ?_
    refine Rx.guard_no rfl rfl rfl rfl rfl ?_
    refine Rx.q rfl (.pick_f rfl rfl) ?_
    refine Rx.q rfl (.assign rfl) ?_
    refine Rx.next ?_
    refine Gx.ret fun a w hs => (fin_tmp hs rfl rfl ⟨by unfold hasP; congr 1; exact (decide_eq_false (by omega)).symm, rfl⟩)

/-- What a context learns from a bit. -/
def learnP (ps : List Int) (c : Nat) (t : Bool) : List Int := ps.set c (if t then lessP (ps.getD c 0) else moreP (ps.getD c 0))

theorem arith_model_learn (b o : Nat) (T e : TypeId) (cs : List Value) (vp : Value) (ps : List Int) (n : Int) (c : Nat) (t : Bool) (h0 : cs[o]? = some vp) (h1 : cs[o + 1]? = some (.int .i64 n)) (hc : c < ps.length) (hn : 0 ≤ n ∧ n < 2 ^ 62) :
    Spc Tryd.prog 69 [.pointer (some ⟨b, o, none⟩), .int .i64 c, .bool t] [pt b T cs, sl e 1 vp ps.length (ps.map (Value.int .i64))] []
      (fun v L => v = .tuple #[] ∧ L = [pt b T (cs.set (o + 1) (.int .i64 (n + 1))), sl e 1 vp (learnP ps c t).length ((learnP ps c t).map (Value.int .i64))]) := by
  have g1 := lt_of_get h1
  have hl : ∀ t, (learnP ps c t).length = ps.length := fun t => by simp [learnP]
  refine Spc.intro Tryd.func69 rfl Tryd.ntmps69 (by kernel_rfl) rfl rfl fun w0 F0 => ?_
  refine Gx.seq_region ?_
  refine Rx.q rfl (.move rfl) ?_
  refine Rx.q rfl (.nilCheck rfl) ?_
  refine Rx.q rfl (.fieldAddr rfl) ?_
  refine Rx.q rfl (.ld rfl h1) ?_
  refine Rx.q rfl (.add_ rfl rfl (by omega)) ?_
  refine Rx.q rfl (.nilCheck rfl) ?_
  refine Rx.q rfl (.fieldAddr rfl) ?_
  refine Rx.stx rfl rfl rfl g1 rfl ?_
  refine Rx.next ?_
  refine Gx.seq_region ?_
  refine Rx.q rfl (.move rfl) ?_
  refine Rx.next ?_
  have h0' : (cs.set (o + 1) (.int .i64 (n + 1)))[o]? = some vp := get_set_ne (by omega) h0
  refine Gx.cond rfl (fun h => ?_) (fun h => ?_) <;> subst h
  · refine Gx.region_tail 14 mixed (by kernel_rfl) ?_
    refine Dx.q rfl (.move rfl) ?_
    refine Dx.q rfl (.nilCheck rfl) ?_
    refine Dx.q rfl (.fieldAddr rfl) ?_
    refine Dx.q rfl (.ld rfl h0') ?_
    refine Dx.q rfl (.move rfl) ?_
    refine Dx.q rfl (.move rfl) ?_
    refine Dx.q rfl (.nilCheck rfl) ?_
    refine Dx.q rfl (.fieldAddr rfl) ?_
    refine Dx.q rfl (.ld rfl h0') ?_
    refine Dx.q rfl (.move rfl) ?_
    refine Dx.q rfl (.idx (j := c) rfl rfl (by omega) (by simp)) ?_
    refine Dx.q rfl (.ldi rfl rfl hc) ?_
    refine Dx.q rfl (.cal (caps := []) (lut_Less _) rfl rfl) ?_
    refine Dx.q rfl (.idx (j := c) rfl rfl (by omega) (by simp)) ?_
    refine Dx.tail ?_
    refine Rx.sti rfl rfl rfl hc ?_
    refine Rx.nil fun a w hs => (fin_end (hs.castL (L' := [sl e 1 vp (learnP ps c true).length ((learnP ps c true).map (Value.int .i64)), pt b T (cs.set (o + 1) (.int .i64 (n + 1)))]) (by rw [hl]; rfl)) rfl ⟨rfl, rfl⟩)
  · refine Gx.region_tail 14 mixed (by kernel_rfl) ?_
    refine Dx.q rfl (.move rfl) ?_
    refine Dx.q rfl (.nilCheck rfl) ?_
    refine Dx.q rfl (.fieldAddr rfl) ?_
    refine Dx.q rfl (.ld rfl h0') ?_
    refine Dx.q rfl (.move rfl) ?_
    refine Dx.q rfl (.move rfl) ?_
    refine Dx.q rfl (.nilCheck rfl) ?_
    refine Dx.q rfl (.fieldAddr rfl) ?_
    refine Dx.q rfl (.ld rfl h0') ?_
    refine Dx.q rfl (.move rfl) ?_
    refine Dx.q rfl (.idx (j := c) rfl rfl (by omega) (by simp)) ?_
    refine Dx.q rfl (.ldi rfl rfl hc) ?_
    refine Dx.q rfl (.cal (caps := []) (lut_More _) rfl rfl) ?_
    refine Dx.q rfl (.idx (j := c) rfl rfl (by omega) (by simp)) ?_
    refine Dx.tail ?_
    refine Rx.sti rfl rfl rfl hc ?_
    refine Rx.nil fun a w hs => (fin_end (hs.castL (L' := [sl e 1 vp (learnP ps c false).length ((learnP ps c false).map (Value.int .i64)), pt b T (cs.set (o + 1) (.int .i64 (n + 1)))]) (by rw [hl]; rfl)) rfl ⟨rfl, rfl⟩)
end Go.Proofs.YtoiebfpafdcbmaaDoor
