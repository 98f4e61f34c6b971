/- Contracts of layer bins: numbers are put. -/
import Derived.Test.YtoiebfpafdcbmaaDoorBb
namespace Go.Proofs.YtoiebfpafdcbmaaDoor
open Go Go.RowKit K
set_option linter.unusedVariables false
set_option linter.unusedSimpArgs false

def bitV (v : Int) (n i : Nat) : Bool := decide ((v + 1) / 2 ^ (n - 1 - i) % 2 = 1)
/-- The first j digits are put. -/
def EncS.rounds (s : SetS) (v : Int) (e : EncS) : Nat → EncS
  | 0 => e
  | j + 1 => ((rounds s v e j).putI (s.follow j) false).putI s.data (bitV v (digN v) j)
def EncS.code (s : SetS) (v : Int) (e : EncS) : EncS :=
  if digN v < 40 then (e.rounds s v (digN v)).putI (s.follow (digN v)) true else e.rounds s v (digN v)
def EncS.okN (s : SetS) (v : Int) (e : EncS) : Bool := mayB v && rightB s e.ps.length
def EncS.putN (s : SetS) (v : Int) (e : EncS) : EncS := if e.okN s v then e.code s v else e

/-- At most k bits later. -/
structure Later (e e' : EncS) (k : Nat) : Prop where
  ok : EncOk e'
  n : e'.n ≤ e.n + k
  ge : e.n ≤ e'.n
  len : e'.ps.length = e.ps.length
theorem Later.refl {e : EncS} (h : EncOk e) : Later e e 0 := ⟨h, Nat.le_refl _, Nat.le_refl _, rfl⟩
theorem Later.putI {e e' : EncS} {k : Nat} (h : Later e e' k) (c : Int) (b : Bool) : Later e (e'.putI c b) (k + 1) := by
  unfold EncS.putI
  split
  · rename_i hc
    have hc' : 0 ≤ c ∧ c < e'.ps.length := by simpa [hasP] using hc
    exact ⟨h.ok.put (by omega) b, by rw [EncS.put_n]; have := h.n; omega, by rw [EncS.put_n]; have := h.ge; omega, by rw [EncS.put_len, h.len]⟩
  · exact ⟨h.ok, by have := h.n; omega, h.ge, h.len⟩
theorem Later.rounds {e : EncS} (h : EncOk e) (s : SetS) (v : Int) : ∀ j, Later e (e.rounds s v j) (2 * j)
  | 0 => .refl h
  | j + 1 => ((Later.rounds h s v j).putI _ _).putI _ _
theorem Later.mono {e e' : EncS} {k m : Nat} (h : Later e e' k) (hk : k ≤ m) : Later e e' m := ⟨h.ok, by have := h.n; omega, h.ge, h.len⟩
theorem Later.code {e : EncS} (h : EncOk e) (s : SetS) (v : Int) (hv : mayB v = true) : Later e (e.code s v) 81 := by
  have hd := (digN_spec v (by simpa [mayB] using hv)).2.1
  have := Later.rounds h s v (digN v)
  unfold EncS.code
  split
  · exact (this.putI _ _).mono (by omega)
  · exact this.mono (by omega)
theorem Later.putN {e : EncS} (h : EncOk e) (s : SetS) (v : Int) : Later e (e.putN s v) 81 := by
  unfold EncS.putN
  split
  · rename_i hh
    exact Later.code h s v (by simp [EncS.okN] at hh; exact hh.1)
  · exact (Later.refl h).mono (by omega)

theorem eql_bit0 {p : Int} (h : 0 ≤ p ∧ p < 2 ^ 62) : Value.bool (decide (IntKind.i64.wrap ((BitVec.ofInt IntKind.i64.bits p &&& BitVec.ofInt IntKind.i64.bits 1).toNat : Int) = 1)) = .bool (decide (p % 2 = 1)) := by
  have := bit_i64 (p := p) 0 (by omega) (by omega)
  rw [show (((2 ^ 0 : Nat) : Int)) = 1 from rfl, Int.ediv_one] at this
  rw [this]
  congr 1
  refine decide_eq_decide.2 ?_
  constructor
  · intro hh
    by_cases h2 : p % 2 = 1
    · exact h2
    · rw [if_neg h2] at hh; cases hh
  · intro hh; rw [if_pos hh]

theorem bins_Put (p : Nat) (e : EncS) (s : SetS) (fv : Value) (v : Int) (hE : EncOk e) (hn : e.n ≤ 2 ^ 29) (hpl : e.ps.length ≤ 64) (hl : s.fs.length ≤ 2 ^ 40) :
    Spc Tryd.prog 33 [.pointer (some ⟨p, 0, none⟩), .agg (setC s fv).toArray, .int .i64 v] [enc p e] [rd 1 fv s.fs.length (intsV s.fs)]
      (fun u L => u = .bool (e.okN s v) ∧ L = [enc p (e.putN s v)]) := by
  refine Spc.intro Tryd.func33 rfl Tryd.ntmps33 (by kernel_rfl) rfl rfl fun w0 F0 => ?_
  refine Gx.seq_region ?_
  refine Rx.box (vs := setC s fv) rfl rfl rfl fun b4 => ?_
  refine Rx.q rfl (.assign rfl) ?_
  refine Rx.next ?_
  refine Gx.seq ?_
  refine Gx.seq ?_
  refine Gx.region_all [pt b4 25 (setC s fv)] mixed ?_
  refine Ax.one 0 (by kernel_rfl) rfl (Rx.q rfl (.move rfl) (Ax.back ?_))
  refine Ax.one 1 (by kernel_rfl) rfl (Rx.q rfl (.cal (caps := []) (bins_may v) rfl rfl) (Ax.back ?_))
  refine Ax.one 2 (by kernel_rfl) rfl (Rx.q rfl (.not rfl) (Ax.back ?_))
  refine Ax.one 3 (by kernel_rfl) rfl (Rx.q rfl (.move rfl) (Ax.back ?_))
  refine Ax.split 12 rfl (fun h12 => ?_) (fun h12 => ?_)
  · have hno : e.okN s v = false := by
      have : mayB v = false := by simpa using h12
      simp [EncS.okN, this]
    refine Ax.float_no 4 rfl (by kernel_rfl) (by kernel_rfl) (by kernel_rfl) rfl rfl rfl rfl rfl ?_
    refine Ax.one 5 (by kernel_rfl) rfl (Rx.guard_no rfl rfl rfl rfl rfl (Ax.back ?_))
    refine Ax.one 6 (by kernel_rfl) rfl (Rx.guard_no rfl rfl rfl rfl rfl (Ax.back ?_))
    refine Ax.one 7 (by kernel_rfl) rfl (Rx.guard_no rfl rfl rfl rfl rfl (Ax.back ?_))
    refine Ax.one 8 (by kernel_rfl) rfl (Rx.guard_no rfl rfl rfl rfl rfl (Ax.back ?_))
    refine Ax.one 9 (by kernel_rfl) rfl (Rx.guard_no rfl rfl rfl rfl rfl (Ax.back ?_))
    refine Ax.one 10 (by kernel_rfl) rfl (Rx.q rfl (.pick_t rfl rfl) (Ax.back ?_))
    refine Ax.fin (by kernel_rfl) fun a w hs => (then_normal (Gx.go hs ?_))
    refine Gx.cond_t rfl ?_
    refine Gx.seq_region ?_
    refine Rx.q rfl (.assign rfl) ?_
    refine Rx.next ?_
    refine Gx.ret fun a w hs => (then_ret (fin_tmp (L1 := [enc p e]) hs rfl rfl ⟨by rw [hno], by simp [EncS.putN, hno]⟩))
  · have hmay : mayB v = true := by simpa using h12
    have hv : 0 ≤ v ∧ v ≤ 2199023255550 := by simpa [mayB] using hmay
    refine Ax.float_yes 4 rfl (by kernel_rfl) (by kernel_rfl) (by kernel_rfl) rfl rfl rfl rfl (.ldn rfl rfl rfl) ?_
    refine Ax.one 5 (by kernel_rfl) rfl (Rx.guard_yes rfl rfl rfl (Rx.q rfl (.move rfl) (Ax.back ?_)))
    refine Ax.one 6 (by kernel_rfl) rfl (Rx.guard_yes rfl rfl rfl (Rx.cal (caps := []) (arith_Encoder_Chances p e hpl) rfl rfl rfl ?_))
    rintro u L1 ⟨u, rfl, rfl⟩
    refine Ax.back ?_
    refine Ax.one 7 (by kernel_rfl) rfl (Rx.guard_yes rfl rfl rfl (Rx.q rfl (.lens rfl) (Ax.back ?_)))
    refine Ax.one 8 (by kernel_rfl) rfl (Rx.guard_yes rfl rfl rfl (Rx.cal (caps := []) (bins_right s fv e.ps.length hl) rfl rfl rfl ?_))
    rintro u L1 ⟨rfl, rfl⟩
    refine Ax.back ?_
    refine Ax.one 9 (by kernel_rfl) rfl (Rx.guard_yes rfl rfl rfl (Rx.q rfl (.not rfl) (Ax.back ?_)))
    refine Ax.one 10 (by kernel_rfl) rfl (Rx.q rfl (.pick_f rfl rfl) (Ax.back ?_))
    refine Ax.fin (by kernel_rfl) fun a w hs => (then_normal (Gx.go hs ?_))
    refine Gx.cond rfl (fun h => ?_) (fun h => ?_)
    · have hno : e.okN s v = false := by
        have : rightB s e.ps.length = false := by simpa using h
        simp [EncS.okN, this]
      refine Gx.seq_region ?_
      refine Rx.q rfl (.assign rfl) ?_
      refine Rx.next ?_
      refine Gx.ret fun a w hs => (then_ret (fin_tmp (L1 := [enc p e]) hs rfl rfl ⟨by rw [hno], by simp [EncS.putN, hno]⟩))
    · have hr : rightB s e.ps.length = true := by simpa using h
      have hok : e.okN s v = true := by simp [EncS.okN, hr, hmay]
      have hpos : 0 < s.fs.length := by simp [rightB] at hr; omega
      obtain ⟨_, hd, hd1, hd2⟩ := digN_spec v hv
      have hput : e.putN s v = e.code s v := by simp [EncS.putN, hok]
      refine Gx.skip fun a w hs => (then_normal (Gx.go hs ?_))
      refine Gx.seq_region ?_
      refine Rx.q rfl (.move rfl) ?_
      refine Rx.q rfl (.cal (caps := []) (bins_digits v hv) rfl rfl) ?_
      refine Rx.q rfl (.assign rfl) ?_
      refine Rx.next ?_
      refine Gx.seq ?_
      refine Gx.seq_region ?_
      refine Rx.q rfl (.move rfl) ?_
      refine Rx.q rfl (.move rfl) ?_
      refine Rx.next ?_
      refine Gx.block ?_
      refine Gx.castL (L' := [sl 3 1 u e.ps.length (intsV e.ps), pt b4 25 (setC s fv), enc p (e.rounds s v 0)]) rfl ?_
      refine Gx.lp (α := Nat) (fun j => j ≤ digN v) (fun j => digN v - j)
        (fun j => [(0, .pointer (some ⟨p, 0, none⟩)), (2, .int .i64 v), (4, .pointer (some ⟨b4, 0, none⟩)), (7, .int .i64 (digN v)), (22, .int .i64 (digN v)), (23, .int .i64 j)])
        (fun j => [enc p (e.rounds s v j), pt b4 25 (setC s fv)]) 0 (by omega) ?_ (fun j hj => ?_)
      · exact .cons rfl (.cons rfl (.cons rfl (.cons rfl (.cons rfl (.cons rfl .nil)))))
      have hlt := Later.rounds hE s v j
      have hlt1 := hlt.putI (s.follow j) false
      have hn1 := hlt.n
      have hn2 := hlt1.n
      refine Gx.seq_region ?_
      refine Rx.q rfl (.lss rfl rfl) ?_
      refine Rx.next ?_
      refine Gx.seq ?_
      refine Gx.cond rfl (fun h => ?_) (fun h => ?_)
      · have h := of_decide_eq_true h
        refine Gx.skip fun a w hs => (then_normal (Gx.go hs ?_))
        refine Gx.seq ?_
        refine Gx.block ?_
        refine Gx.seq_region ?_
        refine Rx.q rfl (.move rfl) ?_
        refine Rx.q rfl (.assign rfl) ?_
        refine Rx.next ?_
        refine Gx.seq_region ?_
        refine Rx.q rfl (.move rfl) ?_
        refine Rx.q rfl (.ldn rfl rfl rfl) ?_
        refine Rx.q rfl (.move rfl) ?_
        refine Rx.cal (caps := []) (bins_follow s fv j (by omega) ⟨hpos, hl⟩) rfl rfl rfl ?_
        rintro u L1 ⟨rfl, rfl⟩
        refine Rx.cal (caps := []) (arith_Encoder_Put p (e.rounds s v j) (s.follow j) false hlt.ok (by omega) (by rw [hlt.len]; exact hpl)) rfl rfl rfl ?_
        rintro u L1 ⟨rfl, rfl⟩
        refine Rx.next ?_
        have hdv : 0 ≤ (v + 1) / 2 ^ (digN v - 1 - j) ∧ (v + 1) / 2 ^ (digN v - 1 - j) < 2 ^ 42 := by
          have hp : (0 : Int) < 2 ^ (digN v - 1 - j) := Int.pow_pos (by decide)
          exact ⟨Int.ediv_nonneg (by omega) (by omega), Int.lt_of_le_of_lt (Int.ediv_le_self _ (by omega)) (by omega)⟩
        refine Gx.region_tail 12 mixed (by kernel_rfl) ?_
        refine Dx.q rfl (.move rfl) ?_
        refine Dx.q rfl (.fieldAddr rfl) ?_
        refine Dx.q rfl (.ld rfl rfl) ?_
        refine Dx.q rfl (.move rfl) ?_
        refine Dx.q rfl (.add_ rfl rfl (by omega)) ?_
        refine Dx.q rfl (.move rfl) ?_
        refine Dx.q rfl (.sub_ rfl rfl (by omega)) ?_
        refine Dx.q rfl (.move rfl) ?_
        refine Dx.q rfl ((OpQ.sub_ rfl rfl (by omega)).val (u := .int .i64 (digN v - 1 - j : Nat)) (by congr 1; omega)) ?_
        refine Dx.q rfl ((OpQ.shr rfl rfl (by omega)).val (u := .int .i64 ((v + 1) / 2 ^ (digN v - 1 - j))) (by
          rw [Int.toNat_natCast, show min (digN v - 1 - j) IntKind.i64.bits = digN v - 1 - j from Nat.min_eq_left (by have : IntKind.i64.bits = 64 := rfl; omega)])) ?_
        refine Dx.q rfl (.and rfl rfl) ?_
        refine Dx.q rfl ((OpQ.eql rfl rfl).val (u := .bool (bitV v (digN v) j)) (eql_bit0 (by omega))) ?_
        refine Dx.tail ?_
        refine Rx.cal (caps := []) (arith_Encoder_Put p ((e.rounds s v j).putI (s.follow j) false) s.data (bitV v (digN v) j) hlt1.ok (by omega) (by rw [hlt1.len]; exact hpl)) rfl rfl rfl ?_
        rintro u L1 ⟨rfl, rfl⟩
        refine Rx.nil fun a w hs => (blk_normal (then_normal (Gx.go hs ?_)))
        refine Gx.region ?_
        refine Rx.q rfl ((OpQ.add_ rfl rfl (by omega)).val (u := .int .i64 (j + 1 : Nat)) (by simp)) ?_
        refine Rx.q rfl (.move rfl) ?_
        refine Rx.castL (L' := [enc p (e.rounds s v (j + 1)), pt b4 25 (setC s fv)]) rfl ?_
        refine Rx.nil fun a w hs => (then_normal ⟨j + 1, by omega, by omega, hs.to (.cons rfl (.cons rfl (.cons rfl (.cons rfl (.cons rfl (.cons rfl .nil))))))⟩)
      · have h := of_decide_eq_false h
        have hjn : j = digN v := by omega
        subst hjn
        refine Gx.exit fun a w hs => (then_exit (then_exit (blk_exit (then_normal (Gx.go hs ?_)))))
        refine Gx.seq ?_
        refine Gx.seq_region ?_
        refine Rx.q rfl (.move rfl) ?_
        refine Rx.q rfl (.lss rfl rfl) ?_
        refine Rx.next ?_
        refine Gx.cond rfl (fun h => ?_) (fun h => ?_)
        · have h := of_decide_eq_true h
          have hcode : e.code s v = (e.rounds s v (digN v)).putI (s.follow (digN v)) true := by unfold EncS.code; rw [if_pos (by omega)]
          refine Gx.region ?_
          refine Rx.q rfl (.move rfl) ?_
          refine Rx.q rfl (.ldn rfl rfl rfl) ?_
          refine Rx.q rfl (.move rfl) ?_
          refine Rx.cal (caps := []) (bins_follow s fv (digN v) (by omega) ⟨hpos, hl⟩) rfl rfl rfl ?_
          rintro u L1 ⟨rfl, rfl⟩
          refine Rx.cal (caps := []) (arith_Encoder_Put p (e.rounds s v (digN v)) (s.follow (digN v)) true hlt.ok (by omega) (by rw [hlt.len]; exact hpl)) rfl rfl rfl ?_
          rintro u L1 ⟨rfl, rfl⟩
          refine Rx.nil fun a w hs => (then_normal (Gx.go hs ?_))
          refine Gx.seq_region ?_
          refine Rx.q rfl (.assign rfl) ?_
          refine Rx.next ?_
          refine Gx.ret fun a w hs => (fin_tmp (L1 := [enc p ((e.rounds s v (digN v)).putI (s.follow (digN v)) true)]) hs rfl rfl ⟨by rw [hok], by rw [hput, hcode]⟩)
        · have h := of_decide_eq_false h
          have hcode : e.code s v = e.rounds s v (digN v) := by unfold EncS.code; rw [if_neg (by omega)]
          refine Gx.skip fun a w hs => (then_normal (Gx.go hs ?_))
          refine Gx.seq_region ?_
          refine Rx.q rfl (.assign rfl) ?_
          refine Rx.next ?_
          refine Gx.ret fun a w hs => (fin_tmp (L1 := [enc p (e.rounds s v (digN v))]) hs rfl rfl ⟨by rw [hok], by rw [hput, hcode]⟩)
end Go.Proofs.YtoiebfpafdcbmaaDoor
