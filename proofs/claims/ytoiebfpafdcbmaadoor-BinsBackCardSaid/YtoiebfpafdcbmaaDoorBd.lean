/- Contracts of layer bins: signed numbers are put; numbers are told; how many bits. -/
import Derived.Test.YtoiebfpafdcbmaaDoorBc
namespace Go.Proofs.YtoiebfpafdcbmaaDoor
open Go Go.RowKit K
set_option linter.unusedVariables false
set_option linter.unusedSimpArgs false

theorem Gx.label {P : Program} {X : Cx} {E : List (Nat × Value)} {L M : List As} {Q : Exit → Act → World → Prop} {n : Nat} (h : ∀ a w, St X E L M a w → Q .normal a w) : Gx P X (.label n) E L M Q := ⟨fun a w hs => wp_label (h a w hs)⟩

/-! ### Signed numbers are put -/
def EncS.okS (s : SetS) (v : Int) (e : EncS) : Bool := decide (-2199023255550 ≤ v) && e.okN s (max v (-v))
def EncS.putS (s : SetS) (v : Int) (e : EncS) : EncS :=
  if e.okS s v then (if v = 0 then e.putN s (max v (-v)) else (e.putN s (max v (-v))).putI s.sign (decide (v < 0))) else e
theorem Later.putS {e : EncS} (h : EncOk e) (s : SetS) (v : Int) : Later e (e.putS s v) 82 := by
  have := Later.putN h s (max v (-v))
  unfold EncS.putS
  split
  · split
    · exact this.mono (by omega)
    · exact (this.putI _ _).mono (by omega)
  · exact (Later.refl h).mono (by omega)

theorem bins_PutSigned (p : Nat) (e : EncS) (s : SetS) (fv : Value) (v : Int) (hE : EncOk e) (hv : -(2 ^ 63) ≤ v ∧ v < 2 ^ 63) (hn : e.n ≤ 2 ^ 28) (hpl : e.ps.length ≤ 64) (hl : s.fs.length ≤ 2 ^ 40) :
    Spc Tryd.prog 10 [.pointer (some ⟨p, 0, none⟩), .agg (setC s fv).toArray, .int .i64 v] [enc p e] [rd 1 fv s.fs.length (intsV s.fs)]
      (fun u L => u = .bool (e.okS s v) ∧ L = [enc p (e.putS s v)]) := by
  refine Spc.intro Tryd.func10 rfl Tryd.ntmps10 (by kernel_rfl) rfl rfl fun w0 F0 => ?_
  refine Gx.seq_region ?_
  refine Rx.box (vs := setC s fv) rfl rfl rfl fun b4 => ?_
  refine Rx.q rfl (.assign rfl) ?_
  refine Rx.next ?_
  refine Gx.seq ?_
  refine Gx.seq_region ?_
  refine Rx.q rfl (.move rfl) ?_
  refine Rx.q rfl (.lss rfl rfl) ?_
  refine Rx.q rfl (.move rfl) ?_
  refine Rx.split 9 rfl (fun h9 => ?_) (fun h9 => ?_)
  · have h9 := of_decide_eq_true h9
    have hno : e.okS s v = false := by simp [EncS.okS, show ¬ -2199023255550 ≤ v by omega]
    refine Rx.guard_no rfl rfl rfl rfl rfl ?_
    refine Rx.guard_no rfl rfl rfl rfl rfl ?_
    refine Rx.guard_no rfl rfl rfl rfl rfl ?_
    refine Rx.guard_no rfl rfl rfl rfl rfl ?_
    refine Rx.guard_no rfl rfl rfl rfl rfl ?_
    refine Rx.guard_no rfl rfl rfl rfl rfl ?_
    refine Rx.guard_no rfl rfl rfl rfl rfl ?_
    refine Rx.guard_no rfl rfl rfl rfl rfl ?_
    refine Rx.q rfl (.pick_t rfl rfl) ?_
    refine Rx.next ?_
    refine Gx.cond_t rfl ?_
    refine Gx.seq_region ?_
    refine Rx.q rfl (.assign rfl) ?_
    refine Rx.next ?_
    refine Gx.ret fun a w hs => (then_ret (fin_tmp (L1 := [enc p e]) hs rfl rfl ⟨by rw [hno], by simp [EncS.putS, hno]⟩))
  · have h9 := of_decide_eq_false h9
    have hlt := Later.putN hE s (max v (-v))
    have hn1 := hlt.n
    refine Rx.guard_yes rfl rfl rfl (Rx.q rfl (.move rfl) ?_)
    refine Rx.guard_yes rfl rfl rfl (Rx.q rfl (.ldn rfl rfl rfl) ?_)
    refine Rx.guard_yes rfl rfl rfl (Rx.q rfl (.move rfl) ?_)
    refine Rx.guard_yes rfl rfl rfl (Rx.q rfl (.move rfl) ?_)
    refine Rx.guard_yes rfl rfl rfl (Rx.q rfl (.neg_ rfl (by omega)) ?_)
    refine Rx.guard_yes rfl rfl rfl (Rx.q rfl ((OpQ.max rfl rfl).val (u := .int .i64 (max v (-v))) (by congr 1; split <;> omega)) ?_)
    refine Rx.guard_yes rfl rfl rfl (Rx.cal (caps := []) (bins_Put p e s fv (max v (-v)) hE (by omega) hpl hl) rfl rfl rfl ?_)
    rintro u L1 ⟨rfl, rfl⟩
    refine Rx.guard_yes rfl rfl rfl (Rx.q rfl (.not rfl) ?_)
    refine Rx.q rfl (.pick_f rfl rfl) ?_
    refine Rx.next ?_
    refine Gx.cond rfl (fun h => ?_) (fun h => ?_)
    · have hN : e.okN s (max v (-v)) = false := by simpa using h
      have hno : e.okS s v = false := by simp [EncS.okS, hN]
      have hput : e.putN s (max v (-v)) = e := by simp [EncS.putN, hN]
      refine Gx.seq_region ?_
      refine Rx.q rfl (.assign rfl) ?_
      refine Rx.next ?_
      refine Gx.ret fun a w hs => (then_ret (fin_tmp (L1 := [enc p (e.putN s (max v (-v)))]) hs rfl rfl ⟨by rw [hno], by simp [EncS.putS, hno, hput]⟩))
    · have hN : e.okN s (max v (-v)) = true := by simpa using h
      have hok : e.okS s v = true := by simp [EncS.okS, hN]; omega
      refine Gx.skip fun a w hs => (then_normal (Gx.go hs ?_))
      refine Gx.seq ?_
      refine Gx.seq_region ?_
      refine Rx.q rfl (.move rfl) ?_
      refine Rx.q rfl (.neq rfl rfl) ?_
      refine Rx.next ?_
      refine Gx.cond rfl (fun h => ?_) (fun h => ?_)
      · have h := of_decide_eq_true h
        refine Gx.region ?_
        refine Rx.q rfl (.move rfl) ?_
        refine Rx.q rfl (.fieldAddr rfl) ?_
        refine Rx.q rfl (.ld rfl rfl) ?_
        refine Rx.q rfl (.move rfl) ?_
        refine Rx.q rfl (.lss rfl rfl) ?_
        refine Rx.cal (caps := []) (arith_Encoder_Put p (e.putN s (max v (-v))) s.sign (decide (v < 0)) hlt.ok (by omega) (by rw [hlt.len]; exact hpl)) rfl rfl rfl ?_
        rintro u L1 ⟨rfl, rfl⟩
        refine Rx.nil fun a w hs => (then_normal (Gx.go hs ?_))
        refine Gx.seq_region ?_
        refine Rx.q rfl (.assign rfl) ?_
        refine Rx.next ?_
        refine Gx.ret fun a w hs => (fin_tmp (L1 := [enc p ((e.putN s (max v (-v))).putI s.sign (decide (v < 0)))]) hs rfl rfl ⟨by rw [hok], by rw [EncS.putS, if_pos hok, if_neg h]⟩)
      · have h := of_decide_eq_false h
        have h : v = 0 := by omega
        refine Gx.skip fun a w hs => (then_normal (Gx.go hs ?_))
        refine Gx.seq_region ?_
        refine Rx.q rfl (.assign rfl) ?_
        refine Rx.next ?_
        refine Gx.ret fun a w hs => (fin_tmp (L1 := [enc p (e.putN s (max v (-v)))]) hs rfl rfl ⟨by rw [hok], by rw [EncS.putS, if_pos hok, if_pos h]⟩)

/-! ### Numbers are told -/
def DecS.loop (l : List Int) (s : SetS) : Nat → Nat → Int → DecS → Int × DecS
  | 0, _, v, d => (v, d)
  | k + 1, i, v, d => if d.bitI (s.follow i) then (v, d.getI l (s.follow i))
    else loop l s k (i + 1) (2 * v + if (d.getI l (s.follow i)).bitI s.data then 1 else 0) ((d.getI l (s.follow i)).getI l s.data)
theorem DecS.loop_succ (l : List Int) (s : SetS) (k i : Nat) (v : Int) (d : DecS) : DecS.loop l s (k + 1) i v d = if d.bitI (s.follow i) then (v, d.getI l (s.follow i))
    else loop l s k (i + 1) (2 * v + if (d.getI l (s.follow i)).bitI s.data then 1 else 0) ((d.getI l (s.follow i)).getI l s.data) := rfl
def DecS.tell (l : List Int) (s : SetS) (d : DecS) : Int × DecS :=
  if rightB s d.ps.length then ((DecS.loop l s 40 0 1 d).1 - 1, (DecS.loop l s 40 0 1 d).2) else (0, d)

structure LaterD (d d' : DecS) (k : Nat) : Prop where
  ok : DecOk d'
  n : d'.n ≤ d.n + k
  ge : d.n ≤ d'.n
  len : d'.ps.length = d.ps.length
theorem LaterD.refl {d : DecS} (h : DecOk d) : LaterD d d 0 := ⟨h, Nat.le_refl _, Nat.le_refl _, rfl⟩
theorem LaterD.getI {d d' : DecS} {k : Nat} (l : List Int) (h : LaterD d d' k) (c : Int) : LaterD d (d'.getI l c) (k + 1) := by
  unfold DecS.getI
  split
  · rename_i hc
    have hc' : 0 ≤ c ∧ c < d'.ps.length := by simpa [hasP] using hc
    exact ⟨h.ok.get l (by omega), by rw [DecS.get_n]; have := h.n; omega, by rw [DecS.get_n]; have := h.ge; omega, by rw [DecS.get_len, h.len]⟩
  · exact ⟨h.ok, by have := h.n; omega, h.ge, h.len⟩
theorem LaterD.mono {d d' : DecS} {k m : Nat} (h : LaterD d d' k) (hk : k ≤ m) : LaterD d d' m := ⟨h.ok, by have := h.n; omega, h.ge, h.len⟩
theorem LaterD.loop (l : List Int) (s : SetS) : ∀ (k i : Nat) (v : Int) {d d' : DecS} {m : Nat}, LaterD d d' m → LaterD d (DecS.loop l s k i v d').2 (m + 2 * k)
  | 0, _, _, _, _, _, h => h
  | k + 1, i, v, d, d', m, h => by
    unfold DecS.loop
    split
    · exact (h.getI l _).mono (by omega)
    · exact (LaterD.loop l s k (i + 1) _ ((h.getI l _).getI l _)).mono (by omega)
theorem DecS.loop_range (l : List Int) (s : SetS) : ∀ (k i : Nat) (v : Int) (d : DecS), 1 ≤ v ∧ v < 2 ^ (i + 1) → 1 ≤ (DecS.loop l s k i v d).1 ∧ (DecS.loop l s k i v d).1 < 2 ^ (i + k + 1)
  | 0, i, v, d, h => h
  | k + 1, i, v, d, h => by
    unfold DecS.loop
    have e : (2 : Int) ^ (i + 1 + 1) = 2 ^ (i + 1) * 2 := Int.pow_succ ..
    split
    · refine ⟨h.1, Int.lt_of_lt_of_le h.2 ?_⟩
      have : (2 : Nat) ^ (i + 1) ≤ 2 ^ (i + (k + 1) + 1) := Nat.pow_le_pow_right (by decide) (by omega)
      exact_mod_cast this
    · have := DecS.loop_range l s k (i + 1) (2 * v + if (d.getI l (s.follow i)).bitI s.data then 1 else 0) ((d.getI l (s.follow i)).getI l s.data) (by rw [e]; split <;> omega)
      rwa [show i + 1 + k + 1 = i + (k + 1) + 1 by omega] at this
theorem LaterD.tell {d : DecS} (l : List Int) (s : SetS) (h : DecOk d) : LaterD d (d.tell l s).2 80 := by
  unfold DecS.tell
  split
  · exact (LaterD.loop l s 40 0 1 (.refl h)).mono (by omega)
  · exact (LaterD.refl h).mono (by omega)
theorem DecS.tell_range (l : List Int) (s : SetS) (d : DecS) : 0 ≤ (d.tell l s).1 ∧ (d.tell l s).1 < 2 ^ 41 := by
  unfold DecS.tell
  split
  · have := DecS.loop_range l s 40 0 1 d (by decide)
    simp only at this ⊢
    omega
  · show (0 : Int) ≤ 0 ∧ (0 : Int) < 2 ^ 41
    decide

theorem bins_Get (p : Nat) (l : List Int) (d : DecS) (s : SetS) (fv : Value) (hD : DecOk d) (hn : d.n ≤ 2 ^ 28) (hpl : d.ps.length ≤ 64) (hl : s.fs.length ≤ 2 ^ 40) (hb : BytesOk l) (hll : l.length ≤ 2 ^ 40) :
    Spc Tryd.prog 34 [.pointer (some ⟨p, 0, none⟩), .agg (setC s fv).toArray] [dec p l d] [rd 1 fv s.fs.length (intsV s.fs)]
      (fun u L => u = .int .i64 (d.tell l s).1 ∧ L = [dec p l (d.tell l s).2]) := by
  refine Spc.intro Tryd.func34 rfl Tryd.ntmps34 (by kernel_rfl) rfl rfl fun w0 F0 => ?_
  refine Gx.seq_region ?_
  refine Rx.box (vs := setC s fv) rfl rfl rfl fun b3 => ?_
  refine Rx.q rfl (.assign rfl) ?_
  refine Rx.next ?_
  refine Gx.scope ?_
  refine Gx.seq ?_
  refine Gx.seq ?_
  refine Gx.region_all [pt b3 25 (setC s fv)] mixed ?_
  refine Ax.float 0 rfl (by kernel_rfl) (by kernel_rfl) (by kernel_rfl) rfl (.ldn rfl rfl rfl) ?_
  refine Ax.one 1 (by kernel_rfl) rfl (Rx.q rfl (.move rfl) (Ax.back ?_))
  refine Ax.one 2 (by kernel_rfl) rfl (Rx.cal (caps := []) (arith_Decoder_Chances p l d hpl) rfl rfl rfl ?_)
  rintro u L1 ⟨u, rfl, rfl⟩
  refine Ax.back ?_
  refine Ax.one 3 (by kernel_rfl) rfl (Rx.q rfl (.lens rfl) (Ax.back ?_))
  refine Ax.one 4 (by kernel_rfl) rfl (Rx.cal (caps := []) (bins_right s fv d.ps.length hl) rfl rfl rfl ?_)
  rintro u L1 ⟨rfl, rfl⟩
  refine Ax.back ?_
  refine Ax.one 5 (by kernel_rfl) rfl (Rx.q rfl (.not rfl) (Ax.back ?_))
  refine Ax.fin (by kernel_rfl) fun a w hs => (then_normal (Gx.go hs ?_))
  refine Gx.cond rfl (fun h => ?_) (fun h => ?_)
  · have hr : rightB s d.ps.length = false := by simpa using h
    have ht : d.tell l s = (0, d) := by simp [DecS.tell, hr]
    refine Gx.seq_region ?_
    refine Rx.q rfl (.assign rfl) ?_
    refine Rx.next ?_
    refine Gx.ret fun a w hs => (then_ret (sc_ret (fin_tmp (L1 := [dec p l d]) hs rfl rfl ⟨by rw [ht], by rw [ht]⟩)))
  · have hr : rightB s d.ps.length = true := by simpa using h
    have hpos : 0 < s.fs.length := by simp [rightB] at hr; omega
    have ht : d.tell l s = ((DecS.loop l s 40 0 1 d).1 - 1, (DecS.loop l s 40 0 1 d).2) := by simp [DecS.tell, hr]
    refine Gx.skip fun a w hs => (then_normal (Gx.go hs ?_))
    refine Gx.seq_region ?_
    refine Rx.q rfl (.assign rfl) ?_
    refine Rx.next ?_
    refine Gx.seq ?_
    refine Gx.label fun a w hs => (then_normal (Gx.go hs ?_))
    refine Gx.seq ?_
    refine Gx.seq_region ?_
    refine Rx.q rfl (.move rfl) ?_
    refine Rx.next ?_
    refine Gx.block ?_
    refine Gx.castL (L' := [sl 3 1 u d.ps.length (intsV d.ps), pt b3 25 (setC s fv), dec p l d]) rfl ?_
    refine Gx.lp (α := Nat × Int × DecS) (fun x => x.1 ≤ 40 ∧ (1 ≤ x.2.1 ∧ x.2.1 < 2 ^ (x.1 + 1)) ∧ LaterD d x.2.2 (2 * x.1) ∧ DecS.loop l s (40 - x.1) x.1 x.2.1 x.2.2 = DecS.loop l s 40 0 1 d) (fun x => 40 - x.1)
      (fun x => [(0, .pointer (some ⟨p, 0, none⟩)), (3, .pointer (some ⟨b3, 0, none⟩)), (5, .int .i64 x.2.1), (13, .int .i64 x.1)])
      (fun x => [dec p l x.2.2, pt b3 25 (setC s fv)]) (0, 1, d) ⟨Nat.zero_le 40, (show (1 : Int) ≤ 1 ∧ (1 : Int) < 2 ^ (0 + 1) by decide), .refl hD, rfl⟩ ?_ ?_
    · exact .cons rfl (.cons rfl (.cons rfl (.cons rfl .nil)))
    rintro ⟨j, v, x⟩ ⟨hj, hv, hx, hxe⟩
    simp only at hj hv hx hxe
    show Gx Tryd.prog _ _ [(0, .pointer (some ⟨p, 0, none⟩)), (3, .pointer (some ⟨b3, 0, none⟩)), (5, .int .i64 v), (13, .int .i64 j)] [dec p l x, pt b3 25 (setC s fv)] _ _
    have hx1 := hx.getI l (s.follow j)
    have hx2 := hx1.getI l s.data
    have hxn := hx.n
    have hxn1 := hx1.n
    have hv41 : v < 2 ^ 41 := by
      refine Int.lt_of_lt_of_le hv.2 ?_
      have : (2 : Nat) ^ (j + 1) ≤ 2 ^ 41 := Nat.pow_le_pow_right (by decide) (by omega)
      exact_mod_cast this
    refine Gx.seq_region ?_
    refine Rx.q rfl (.lss rfl rfl) ?_
    refine Rx.next ?_
    refine Gx.seq ?_
    refine Gx.cond rfl (fun h => ?_) (fun h => ?_)
    · have h := of_decide_eq_true h
      obtain ⟨k, hk⟩ : ∃ k, 40 - j = k + 1 := ⟨40 - j - 1, by omega⟩
      rw [hk, DecS.loop_succ l s k j v x] at hxe
      refine Gx.skip fun a w hs => (then_normal (Gx.go hs ?_))
      refine Gx.seq ?_
      refine Gx.block ?_
      refine Gx.seq_region ?_
      refine Rx.q rfl (.move rfl) ?_
      refine Rx.q rfl (.assign rfl) ?_
      refine Rx.next ?_
      refine Gx.block ?_
      refine Gx.seq_region ?_
      refine Rx.q rfl (.move rfl) ?_
      refine Rx.q rfl (.ldn rfl rfl rfl) ?_
      refine Rx.q rfl (.move rfl) ?_
      refine Rx.cal (caps := []) (bins_follow s fv j (by omega) ⟨hpos, hl⟩) rfl rfl rfl ?_
      rintro u L1 ⟨rfl, rfl⟩
      refine Rx.cal (caps := []) (arith_Decoder_Get p l x (s.follow j) hx.ok (by omega) hb hll (by rw [hx.len]; exact hpl)) rfl rfl rfl ?_
      rintro u L1 ⟨rfl, rfl⟩
      refine Rx.q rfl (.assign rfl) ?_
      refine Rx.next ?_
      refine Gx.cond rfl (fun h => ?_) (fun h => ?_)
      · rw [if_pos h] at hxe
        refine Gx.exit fun a w hs => (blk_pass rfl (blk_pass rfl (then_exit (then_exit (blk_exit (then_normal (Gx.go hs ?_)))))))
        refine Gx.seq_region ?_
        refine Rx.q rfl (.move rfl) ?_
        refine Rx.q rfl (.sub_ rfl rfl (by omega)) ?_
        refine Rx.q rfl (.assign rfl) ?_
        refine Rx.next ?_
        refine Gx.ret fun a w hs => (sc_ret (fin_tmp (L1 := [dec p l (x.getI l (s.follow j))]) hs rfl rfl ⟨by rw [ht, ← hxe], by rw [ht, ← hxe]⟩))
      · rw [if_neg (by simp [h])] at hxe
        refine Gx.seq_region ?_
        refine Rx.q rfl (.move rfl) ?_
        refine Rx.q rfl (.fieldAddr rfl) ?_
        refine Rx.q rfl (.ld rfl rfl) ?_
        refine Rx.cal (caps := []) (arith_Decoder_Get p l (x.getI l (s.follow j)) s.data hx1.ok (by omega) hb hll (by rw [hx1.len]; exact hpl)) rfl rfl rfl ?_
        rintro u L1 ⟨rfl, rfl⟩
        refine Rx.q rfl (.assign rfl) ?_
        refine Rx.next ?_
        have e : (2 : Int) ^ (j + 1 + 1) = 2 ^ (j + 1) * 2 := Int.pow_succ ..
        refine Gx.cond rfl (fun h => ?_) (fun h => ?_)
        · rw [h, if_pos rfl] at hxe
          refine Gx.region ?_
          refine Rx.q rfl (.move rfl) ?_
          refine Rx.q rfl (.mul_ rfl rfl (by omega)) ?_
          refine Rx.q rfl (.add_ rfl rfl (by omega)) ?_
          refine Rx.q rfl (.assign rfl) ?_
          refine Rx.nil fun a w hs => (blk_normal (blk_normal (then_normal (Gx.go hs ?_))))
          refine Gx.region ?_
          refine Rx.q rfl ((OpQ.add_ rfl rfl (by omega)).val (u := .int .i64 (j + 1 : Nat)) (by simp)) ?_
          refine Rx.q rfl (.move rfl) ?_
          refine Rx.nil fun a w hs => (then_normal ⟨(j + 1, 2 * v + 1, (x.getI l (s.follow j)).getI l s.data), ⟨by omega, by simp only; rw [e]; omega, hx2.mono (by simp only; omega), by
            simp only; rw [show 40 - (j + 1) = k by omega]; exact hxe⟩, by simp only; omega, hs.to (.cons rfl (.cons rfl (.cons rfl (.cons rfl .nil))))⟩)
        · rw [h, if_neg (by simp)] at hxe
          refine Gx.region ?_
          refine Rx.q rfl (.move rfl) ?_
          refine Rx.q rfl ((OpQ.mul_ rfl rfl (by omega)).val (u := .int .i64 (2 * v + 0)) (by congr 1; omega)) ?_
          refine Rx.q rfl (.assign rfl) ?_
          refine Rx.nil fun a w hs => (blk_normal (blk_normal (then_normal (Gx.go hs ?_))))
          refine Gx.region ?_
          refine Rx.q rfl ((OpQ.add_ rfl rfl (by omega)).val (u := .int .i64 (j + 1 : Nat)) (by simp)) ?_
          refine Rx.q rfl (.move rfl) ?_
          refine Rx.nil fun a w hs => (then_normal ⟨(j + 1, 2 * v + 0, (x.getI l (s.follow j)).getI l s.data), ⟨by omega, by simp only; rw [e]; omega, hx2.mono (by simp only; omega), by
            simp only; rw [show 40 - (j + 1) = k by omega]; exact hxe⟩, by simp only; omega, hs.to (.cons rfl (.cons rfl (.cons rfl (.cons rfl .nil))))⟩)
    · have h := of_decide_eq_false h
      have hj40 : j = 40 := by omega
      subst hj40
      have hxe : (v, x) = DecS.loop l s 40 0 1 d := hxe
      refine Gx.exit fun a w hs => (then_exit (then_exit (blk_exit (then_normal (Gx.go hs ?_)))))
      refine Gx.seq_region ?_
      refine Rx.q rfl (.move rfl) ?_
      refine Rx.q rfl (.sub_ rfl rfl (by omega)) ?_
      refine Rx.q rfl (.assign rfl) ?_
      refine Rx.next ?_
      refine Gx.ret fun a w hs => (sc_ret (fin_tmp (L1 := [dec p l x]) hs rfl rfl ⟨by rw [ht, ← hxe], by rw [ht, ← hxe]⟩))

def DecS.tellS (l : List Int) (s : SetS) (d : DecS) : Int × DecS :=
  if (d.tell l s).1 = 0 then d.tell l s
  else (if (d.tell l s).2.bitI s.sign then -(d.tell l s).1 else (d.tell l s).1, (d.tell l s).2.getI l s.sign)
theorem LaterD.tellS {d : DecS} (l : List Int) (s : SetS) (h : DecOk d) : LaterD d (d.tellS l s).2 81 := by
  have := LaterD.tell l s h
  unfold DecS.tellS
  split
  · exact this.mono (by omega)
  · exact (this.getI l _).mono (by omega)

theorem bins_GetSigned (p : Nat) (l : List Int) (d : DecS) (s : SetS) (fv : Value) (hD : DecOk d) (hn : d.n ≤ 2 ^ 28) (hpl : d.ps.length ≤ 64) (hl : s.fs.length ≤ 2 ^ 40) (hb : BytesOk l) (hll : l.length ≤ 2 ^ 40) :
    Spc Tryd.prog 13 [.pointer (some ⟨p, 0, none⟩), .agg (setC s fv).toArray] [dec p l d] [rd 1 fv s.fs.length (intsV s.fs)]
      (fun u L => u = .int .i64 (d.tellS l s).1 ∧ L = [dec p l (d.tellS l s).2]) := by
  have hlt := LaterD.tell l s hD
  have hn1 := hlt.n
  have hrg := DecS.tell_range l s d
  refine Spc.intro Tryd.func13 rfl Tryd.ntmps13 (by kernel_rfl) rfl rfl fun w0 F0 => ?_
  refine Gx.seq_region ?_
  refine Rx.box (vs := setC s fv) rfl rfl rfl fun b3 => ?_
  refine Rx.q rfl (.assign rfl) ?_
  refine Rx.next ?_
  refine Gx.seq_region ?_
  refine Rx.q rfl (.move rfl) ?_
  refine Rx.q rfl (.ldn rfl rfl rfl) ?_
  refine Rx.cal (caps := []) (bins_Get p l d s fv hD (by omega) hpl hl hb hll) rfl rfl rfl ?_
  rintro u L1 ⟨rfl, rfl⟩
  refine Rx.q rfl (.assign rfl) ?_
  refine Rx.next ?_
  refine Gx.seq ?_
  refine Gx.seq_region ?_
  refine Rx.q rfl (.move rfl) ?_
  refine Rx.q rfl (.neq rfl rfl) ?_
  refine Rx.q rfl (.move rfl) ?_
  refine Rx.split 11 rfl (fun h11 => ?_) (fun h11 => ?_)
  · have h11 := of_decide_eq_true h11
    refine Rx.guard_yes rfl rfl rfl (Rx.q rfl (.move rfl) ?_)
    refine Rx.guard_yes rfl rfl rfl (Rx.q rfl (.fieldAddr rfl) ?_)
    refine Rx.guard_yes rfl rfl rfl (Rx.q rfl (.ld rfl rfl) ?_)
    refine Rx.guard_yes rfl rfl rfl (Rx.cal (caps := []) (arith_Decoder_Get p l (d.tell l s).2 s.sign hlt.ok (by omega) hb hll (by rw [hlt.len]; exact hpl)) rfl rfl rfl ?_)
    rintro u L1 ⟨rfl, rfl⟩
    refine Rx.q rfl (.pick_t rfl rfl) ?_
    refine Rx.next ?_
    refine Gx.cond rfl (fun h => ?_) (fun h => ?_)
    · refine Gx.seq_region ?_
      refine Rx.q rfl (.move rfl) ?_
      refine Rx.q rfl (.neg_ rfl (by omega)) ?_
      refine Rx.q rfl (.assign rfl) ?_
      refine Rx.next ?_
      refine Gx.ret fun a w hs => (then_ret (fin_tmp (L1 := [dec p l ((d.tell l s).2.getI l s.sign)]) hs rfl rfl ⟨by rw [DecS.tellS, if_neg h11, if_pos h], by rw [DecS.tellS, if_neg h11]⟩))
    · refine Gx.skip fun a w hs => (then_normal (Gx.go hs ?_))
      refine Gx.seq_region ?_
      refine Rx.q rfl (.move rfl) ?_
      refine Rx.q rfl (.assign rfl) ?_
      refine Rx.next ?_
      refine Gx.ret fun a w hs => (fin_tmp (L1 := [dec p l ((d.tell l s).2.getI l s.sign)]) hs rfl rfl ⟨by rw [DecS.tellS, if_neg h11, if_neg (by simp [h])], by rw [DecS.tellS, if_neg h11]⟩)
  · have h11 := of_decide_eq_false h11
    have h0 : (d.tell l s).1 = 0 := by omega
    refine Rx.guard_no rfl rfl rfl rfl rfl ?_
    refine Rx.guard_no rfl rfl rfl rfl rfl ?_
    refine Rx.guard_no rfl rfl rfl rfl rfl ?_
    refine Rx.guard_no rfl rfl rfl rfl rfl ?_
    refine Rx.q rfl (.pick_f rfl rfl) ?_
    refine Rx.next ?_
    refine Gx.cond_f rfl ?_
    refine Gx.skip fun a w hs => (then_normal (Gx.go hs ?_))
    refine Gx.seq_region ?_
    refine Rx.q rfl (.move rfl) ?_
    refine Rx.q rfl (.assign rfl) ?_
    refine Rx.next ?_
    refine Gx.ret fun a w hs => (fin_tmp (L1 := [dec p l (d.tell l s).2]) hs rfl rfl ⟨by rw [DecS.tellS, if_pos h0], by rw [DecS.tellS, if_pos h0]⟩)

def bitsN (v : Int) : Nat := if mayB v then (if digN v < 40 then 2 * digN v + 1 else 2 * digN v) else 0
theorem bins_Bits (v : Int) : Spc Tryd.prog 35 [.int .i64 v] [] [] (ret (.int .i64 (bitsN v))) := by
  refine Spc.intro Tryd.func35 rfl Tryd.ntmps35 (by kernel_rfl) rfl rfl fun w0 F0 => ?_
  refine Gx.seq_region ?_
  refine Rx.q rfl (.assign rfl) ?_
  refine Rx.next ?_
  refine Gx.seq ?_
  refine Gx.seq_region ?_
  refine Rx.q rfl (.move rfl) ?_
  refine Rx.q rfl (.cal (caps := []) (bins_may v) rfl rfl) ?_
  refine Rx.q rfl (.not rfl) ?_
  refine Rx.next ?_
  refine Gx.cond rfl (fun h => ?_) (fun h => ?_)
  · have h : mayB v = false := by simpa using h
    refine Gx.seq_region ?_
    refine Rx.q rfl (.assign rfl) ?_
    refine Rx.next ?_
    refine Gx.ret fun a w hs => (then_ret (fin_tmp hs rfl rfl ⟨by simp [bitsN, h], rfl⟩))
  · have h : mayB v = true := by simpa using h
    have hv : 0 ≤ v ∧ v ≤ 2199023255550 := by simpa [mayB] using h
    have hd := (digN_spec v hv).2.1
    refine Gx.skip fun a w hs => (then_normal (Gx.go hs ?_))
    refine Gx.seq_region ?_
    refine Rx.q rfl (.move rfl) ?_
    refine Rx.q rfl (.cal (caps := []) (bins_digits v hv) rfl rfl) ?_
    refine Rx.q rfl (.assign rfl) ?_
    refine Rx.next ?_
    refine Gx.seq ?_
    refine Gx.seq_region ?_
    refine Rx.q rfl (.move rfl) ?_
    refine Rx.q rfl (.lss rfl rfl) ?_
    refine Rx.next ?_
    refine Gx.cond rfl (fun h2 => ?_) (fun h2 => ?_)
    · have h2 := of_decide_eq_true h2
      refine Gx.seq_region ?_
      refine Rx.q rfl (.move rfl) ?_
      refine Rx.q rfl (.mul_ rfl rfl (by omega)) ?_
      refine Rx.q rfl (.add_ rfl rfl (by omega)) ?_
      refine Rx.q rfl (.assign rfl) ?_
      refine Rx.next ?_
      refine Gx.ret fun a w hs => (then_ret (fin_tmp hs rfl rfl ⟨by rw [bitsN, if_pos h, if_pos (by omega)]; congr 1, rfl⟩))
    · have h2 := of_decide_eq_false h2
      refine Gx.skip fun a w hs => (then_normal (Gx.go hs ?_))
      refine Gx.seq_region ?_
      refine Rx.q rfl (.move rfl) ?_
      refine Rx.q rfl (.mul_ rfl rfl (by omega)) ?_
      refine Rx.q rfl (.assign rfl) ?_
      refine Rx.next ?_
      refine Gx.ret fun a w hs => (fin_tmp hs rfl rfl ⟨by rw [bitsN, if_pos h, if_neg (by omega)]; congr 1, rfl⟩)
end Go.Proofs.YtoiebfpafdcbmaaDoor
