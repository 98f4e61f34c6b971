/- Contracts of the law BinsBack: its first look, and the whole. -/
import Derived.Test.YtoiebfpafdcbmaaDoorM2
namespace Go.Proofs.YtoiebfpafdcbmaaDoor
open Go Go.RowKit K
set_option linter.unusedVariables false
set_option linter.unusedSimpArgs false

theorem bytes_ok (e : EncS) : BytesOk e.bytes := by
  intro x hx
  unfold EncS.bytes at hx
  have := List.mem_of_mem_take hx
  unfold pack at this
  obtain ⟨i, _, rfl⟩ := List.mem_map.1 this
  exact byteAt_range _ _
theorem bytes_le {e : EncS} (h : EncOk e) (hn : e.n ≤ 2 ^ 30) : e.bytes.length ≤ 2 ^ 40 := by
  have h1 : e.cut ≤ (pack e.fin).length := trimN_le _ _ _
  rw [EncS.bytes_length]
  have h2 : e.fin.length = e.S + 2 := by simp [EncS.fin, EncS.S]; omega
  rw [pack_length] at h1
  have := h.tot
  unfold EncS.S at h2
  omega
theorem LaterD.after {d : DecS} (h : DecOk d) (l : List Int) (s : SetS) : ∀ j, LaterD d (d.after l s j) (81 * j)
  | 0 => .refl h
  | j + 1 => by
    have h1 := LaterD.after h l s j
    have h2 := LaterD.tellS l s h1.ok
    exact ⟨h2.ok, by have := h1.n; have := h2.n; show ((d.after l s j).tellS l s).2.n ≤ _; omega, by have := h1.ge; have := h2.ge; show d.n ≤ ((d.after l s j).tellS l s).2.n; omega, by show ((d.after l s j).tellS l s).2.ps.length = _; rw [h2.len, h1.len]⟩

abbrev S4 : SetS := ⟨[0, 1], 2, 3⟩
def E1 : EncS := (EncS.new 4).putN S4 2
def E2 : EncS := E1.putS S4 (-700)
theorem E0_ok : (EncS.new 4).okN S4 2 = true := by decide
theorem E1_ok : E1.okS S4 (-700) = true := by decide +kernel
theorem E2_no : E2.okN S4 (-1) = false := by decide +kernel
theorem E2_n : E2.n = 23 := by decide +kernel
theorem bits_2 : bitsN 2 = 3 := by decide +kernel
theorem bits_m : bitsN 2199023255550 = 80 := by decide +kernel

theorem law06_first : Spc Tryd.prog 8 [] [] [] (fun u L => u = .bool true ∧ L = []) := by
  have k0 := EncS.new_ok 4
  have k1 : Later (EncS.new 4) E1 81 := Later.putN k0 S4 2
  have k2 : Later E1 E2 82 := Later.putS k1.ok S4 (-700)
  have n1 := k1.n
  have n2 := k2.n
  have n0 : (EncS.new 4).n = 0 := rfl
  have p0 : (EncS.new 4).ps.length = 4 := by show (List.replicate (ctxN 4) (32768 : Int)).length = 4; rw [List.length_replicate]; rfl
  have p1 : E1.ps.length = 4 := by rw [k1.len, p0]
  have p2 : E2.ps.length = 4 := by rw [k2.len, p1]
  have g2 : Good E2.bytes E2 := good_end k2.ok
  have g1 : Good E2.bytes E1 := good_putS k1.ok g2
  obtain ⟨t1, y1⟩ := sync_putN (d := DecS.new E2.bytes 4) k0 E0_ok g1 (sync_new _ 4)
  obtain ⟨t2, y2⟩ := sync_putS k1.ok E1_ok g2 y1
  have hb := bytes_ok E2
  have hbl := bytes_le k2.ok (by omega)
  have d0 := DecS.new_ok E2.bytes 4
  have d1 := LaterD.tell E2.bytes S4 d0
  have m1 := d1.n
  have hd0 : (DecS.new E2.bytes 4).n = 0 := rfl
  have q0 : (DecS.new E2.bytes 4).ps.length = 4 := by show (List.replicate (ctxN 4) (32768 : Int)).length = 4; rw [List.length_replicate]; rfl
  have q1 : ((DecS.new E2.bytes 4).tell E2.bytes S4).2.ps.length = 4 := by rw [d1.len, q0]
  refine Spc.intro Tryd.func8 rfl Tryd.ntmps8 (by kernel_rfl) rfl rfl fun w0 F0 => ?_
  refine Gx.seq_region ?_
  refine Rx.q rfl (.assign rfl) ?_
  refine Rx.next ?_
  refine Gx.seq_region ?_
  refine Rx.slice1 rfl rfl rfl rfl rfl fun v4 hv4 => ?_
  refine Rx.one v4 fun h4 => ?_
  refine Rx.q rfl (.build (cs := setC S4 v4) rfl (by cases v4 <;> first | rfl | exact Bool.noConfusion h4)) ?_
  refine Rx.alloc rfl rfl fun b1 => ?_
  refine Rx.stn rfl rfl (by simp only [List.all_cons, h4]; rfl) rfl (Nat.le_refl _) rfl ?_
  refine Rx.next ?_
  refine Gx.castL (L' := [pt b1 25 (setC S4 v4), sl 3 1 v4 S4.fs.length (intsV S4.fs)]) rfl ?_
  refine Gx.seq_region ?_
  refine Rx.cal (caps := []) (arith_NewEncoder 4) rfl rfl rfl ?_
  rintro u L1 ⟨p, rfl, rfl⟩
  refine Rx.q rfl (.assign rfl) ?_
  refine Rx.next ?_
  refine Gx.seq ?_
  refine Gx.seq_region ?_
  refine Rx.q rfl (.move rfl) ?_
  refine Rx.q rfl (.eqnil_s rfl) ?_
  refine Rx.q rfl (.move rfl) ?_
  refine Rx.guard_yes rfl rfl rfl (Rx.q rfl (.move rfl) ?_)
  refine Rx.guard_yes rfl rfl rfl (Rx.q rfl (.ldn rfl rfl rfl) ?_)
  refine Rx.guard_yes rfl rfl rfl (Rx.cal (caps := []) (bins_Put p (EncS.new 4) S4 v4 2 k0 (by omega) (by omega) (by decide)) rfl rfl rfl ?_)
  rintro u L1 ⟨rfl, rfl⟩
  rw [E0_ok]
  refine Rx.castL (L' := [enc p E1, pt b1 25 (setC S4 v4), sl 3 1 v4 S4.fs.length (intsV S4.fs)]) rfl ?_
  refine Rx.guard_yes rfl rfl rfl (Rx.q rfl (.not rfl) ?_)
  refine Rx.q rfl (.pick_f rfl rfl) ?_
  refine Rx.q rfl (.move rfl) ?_
  refine Rx.guard_yes rfl rfl rfl (Rx.q rfl (.move rfl) ?_)
  refine Rx.guard_yes rfl rfl rfl (Rx.q rfl (.ldn rfl rfl rfl) ?_)
  refine Rx.guard_yes rfl rfl rfl (Rx.cal (caps := []) (bins_PutSigned p E1 S4 v4 (-700) k1.ok (by decide) (by omega) (by omega) (by decide)) rfl rfl rfl ?_)
  rintro u L1 ⟨rfl, rfl⟩
  rw [E1_ok]
  refine Rx.castL (L' := [enc p E2, pt b1 25 (setC S4 v4), sl 3 1 v4 S4.fs.length (intsV S4.fs)]) rfl ?_
  refine Rx.guard_yes rfl rfl rfl (Rx.q rfl (.not rfl) ?_)
  refine Rx.q rfl (.pick_f rfl rfl) ?_
  refine Rx.q rfl (.move rfl) ?_
  refine Rx.guard_yes rfl rfl rfl (Rx.q rfl (.move rfl) ?_)
  refine Rx.guard_yes rfl rfl rfl (Rx.q rfl (.ldn rfl rfl rfl) ?_)
  refine Rx.guard_yes rfl rfl rfl (Rx.cal (caps := []) (bins_Put p E2 S4 v4 (-1) k2.ok (by omega) (by omega) (by decide)) rfl rfl rfl ?_)
  rintro u L1 ⟨rfl, rfl⟩
  rw [E2_no]
  refine Rx.castL (L' := [enc p E2, pt b1 25 (setC S4 v4), sl 3 1 v4 S4.fs.length (intsV S4.fs)]) (by rw [show E2.putN S4 (-1) = E2 by unfold EncS.putN; rw [if_neg (by rw [E2_no]; simp)]]; rfl) ?_
  refine Rx.q rfl (.pick_f rfl rfl) ?_
  refine Rx.q rfl (.move rfl) ?_
  refine Rx.guard_yes rfl rfl rfl (Rx.q rfl (.move rfl) ?_)
  refine Rx.guard_yes rfl rfl rfl (Rx.q rfl (.cal (caps := []) (arith_Encoder_Count p E2) rfl rfl) ?_)
  refine Rx.guard_yes rfl rfl rfl (Rx.q rfl ((OpQ.neq rfl rfl).val (u := .bool false) (congrArg Value.bool (decide_eq_false (by rw [E2_n]; simp)))) ?_)
  refine Rx.q rfl (.pick_f rfl rfl) ?_
  refine Rx.next ?_
  refine Gx.cond_f rfl ?_
  refine Gx.skip fun a w hs => (then_normal (Gx.go hs ?_))
  refine Gx.seq_region ?_
  refine Rx.q rfl (.move rfl) ?_
  refine Rx.cal (caps := []) (arith_Encoder_Bytes p E2 k2.ok (by omega)) rfl rfl rfl ?_
  rintro u L1 ⟨u, rfl, rfl⟩
  refine Rx.cal (caps := []) (arith_NewDecoder u E2.bytes 4 hb hbl) rfl rfl rfl ?_
  rintro u' L1 ⟨q, rfl, rfl⟩
  refine Rx.q rfl (.assign rfl) ?_
  refine Rx.next ?_
  refine Gx.seq_region ?_
  refine Rx.q rfl (.move rfl) ?_
  refine Rx.q rfl (.ldn rfl rfl rfl) ?_
  refine Rx.cal (caps := []) (bins_Get q E2.bytes (DecS.new E2.bytes 4) S4 v4 d0 (by omega) (by omega) (by decide) hb hbl) rfl rfl rfl ?_
  rintro u' L1 ⟨rfl, rfl⟩
  refine Rx.q rfl ((OpQ.eql rfl rfl).val (u := .bool true) (congrArg Value.bool (decide_eq_true t1))) ?_
  refine Rx.q rfl (.move rfl) ?_
  refine Rx.guard_yes rfl rfl rfl (Rx.q rfl (.move rfl) ?_)
  refine Rx.guard_yes rfl rfl rfl (Rx.q rfl (.ldn rfl rfl rfl) ?_)
  refine Rx.guard_yes rfl rfl rfl (Rx.cal (caps := []) (bins_GetSigned q E2.bytes ((DecS.new E2.bytes 4).tell E2.bytes S4).2 S4 v4 d1.ok (by omega) (by omega) (by decide) hb hbl) rfl rfl rfl ?_)
  rintro u' L1 ⟨rfl, rfl⟩
  refine Rx.guard_yes rfl rfl rfl (Rx.q rfl ((OpQ.eql rfl rfl).val (u := .bool true) (congrArg Value.bool (decide_eq_true t2))) ?_)
  refine Rx.q rfl (.pick_t rfl rfl) ?_
  refine Rx.q rfl (.move rfl) ?_
  refine Rx.guard_yes rfl rfl rfl (Rx.q rfl (.cal (caps := []) (bins_Bits 2) rfl rfl) ?_)
  refine Rx.guard_yes rfl rfl rfl (Rx.q rfl ((OpQ.eql rfl rfl).val (u := .bool true) (congrArg Value.bool (decide_eq_true (by rw [bits_2]; rfl)))) ?_)
  refine Rx.q rfl (.pick_t rfl rfl) ?_
  refine Rx.q rfl (.move rfl) ?_
  refine Rx.guard_yes rfl rfl rfl (Rx.q rfl (.cal (caps := []) (bins_Bits 2199023255550) rfl rfl) ?_)
  refine Rx.guard_yes rfl rfl rfl (Rx.q rfl ((OpQ.eql rfl rfl).val (u := .bool true) (congrArg Value.bool (decide_eq_true (by rw [bits_m]; rfl)))) ?_)
  refine Rx.q rfl (.pick_t rfl rfl) ?_
  refine Rx.q rfl (.assign rfl) ?_
  refine Rx.next ?_
  refine Gx.ret fun a w hs => (fin_tmp (L1 := []) hs rfl rfl ⟨rfl, rfl⟩)

/-! ### The whole -/
/-- What has been put once j numbers are behind. -/
def ptN (xs : List Int) (j : Nat) : List Int := (xs.take (min j 60)).filter okV
theorem ptN_zero (xs : List Int) : ptN xs 0 = [] := rfl
theorem ptN_length (xs : List Int) (j : Nat) : (ptN xs j).length ≤ 60 := by
  have h1 := List.length_filter_le okV (xs.take (min j 60))
  have h2 : (xs.take (min j 60)).length ≤ 60 := by rw [List.length_take]; omega
  unfold ptN; omega
theorem ptN_late (xs : List Int) {j : Nat} (h : 60 ≤ j) : ptN xs (j + 1) = ptN xs j := by
  unfold ptN; rw [show min (j + 1) 60 = 60 by omega, show min j 60 = 60 by omega]
theorem ptN_succ (xs : List Int) {j : Nat} (h : j < 60) (hj : j < xs.length) : ptN xs (j + 1) = ptN xs j ++ if okV (xs.getD j 0) then [xs.getD j 0] else [] := by
  unfold ptN
  rw [show min (j + 1) 60 = j + 1 by omega, show min j 60 = j by omega, List.take_succ_eq_append_getElem hj, List.filter_append]
  congr 1
  simp only [List.getD, List.getElem?_eq_getElem hj, Option.getD_some, List.filter_cons, List.filter_nil]
theorem ptN_ok (xs : List Int) (j : Nat) : ∀ v ∈ ptN xs j, okV v = true := fun v hv => (List.mem_filter.1 hv).2

theorem law06_BinsBack (v : Value) (xs : List Int) (data : Int) (hx : ∀ x ∈ xs, -(2 ^ 63) ≤ x ∧ x < 2 ^ 63) (hd : 0 ≤ data ∧ data < 256) (hl : xs.length < 2 ^ 63) :
    Spc Tryd.prog 3 [v, .int .u8 data] [] [rd 1 v xs.length (intsV xs)] (fun u L => u = .bool true ∧ L = []) := by
  obtain ⟨s, hS⟩ : ∃ s : SetS, s = ⟨[0, 1, 2], data % 6, 5⟩ := ⟨_, rfl⟩
  have hsl : s.fs.length = 3 := by rw [hS]; rfl
  have k0 := EncS.new_ok 6
  have n0 : (EncS.new 6).n = 0 := rfl
  have p0 : (EncS.new 6).ps.length = 6 := by show (List.replicate (ctxN 6) (32768 : Int)).length = 6; rw [List.length_replicate]; rfl
  have hr : rightB s (EncS.new 6).ps.length = true := by
    rw [p0, hS]
    have h6 : 0 ≤ data % 6 ∧ data % 6 < 6 := by omega
    simp [rightB, hasB, h6.1, h6.2]
  have hL : ∀ j, Later (EncS.new 6) ((EncS.new 6).all s (ptN xs j)) (82 * (ptN xs j).length) := fun j => Later.all k0 s _
  refine Spc.intro Tryd.func3 rfl Tryd.ntmps3 (by kernel_rfl) rfl rfl fun w0 F0 => ?_
  refine Gx.seq_region ?_
  refine Rx.q rfl (.assign rfl) ?_
  refine Rx.next ?_
  refine Gx.seq ?_
  refine Gx.seq_region ?_
  refine Rx.cal (caps := []) law06_first rfl rfl rfl ?_
  rintro u L1 ⟨rfl, rfl⟩
  refine Rx.q rfl (.not rfl) ?_
  refine Rx.next ?_
  refine Gx.cond_f rfl ?_
  refine Gx.skip fun a w hs => (then_normal (Gx.go hs ?_))
  refine Gx.seq_region ?_
  refine Rx.slice1 rfl rfl rfl rfl rfl fun v15 hv15 => ?_
  refine Rx.one v15 fun h15 => ?_
  refine Rx.q rfl (.move rfl) ?_
  refine Rx.q rfl (.rem_ rfl rfl (by omega)) ?_
  refine Rx.q rfl ((OpQ.convert rfl).val (u := .int .i64 (data % 6)) (by congr 1; rw [IntKind.wrap_i64]; omega)) ?_
  refine Rx.q rfl (.build (cs := [v15, .int .i64 (data % 6), .int .i64 5]) rfl (by cases v15 <;> first | rfl | exact Bool.noConfusion h15)) ?_
  refine Rx.alloc rfl rfl fun b5 => ?_
  refine Rx.stn rfl rfl (by simp only [List.all_cons, h15]; rfl) rfl (Nat.le_refl _) rfl ?_
  refine Rx.next ?_
  refine Gx.castL (L' := [pt b5 25 (setC s v15), sl 3 1 v15 s.fs.length (intsV s.fs)]) (by rw [hS]; rfl) ?_
  refine Gx.seq_region ?_
  refine Rx.cal (caps := []) (arith_NewEncoder 6) rfl rfl rfl ?_
  rintro u L1 ⟨p, rfl, rfl⟩
  refine Rx.q rfl (.assign rfl) ?_
  refine Rx.next ?_
  refine Gx.seq_region ?_
  refine Rx.q rfl (.assign rfl) ?_
  refine Rx.next ?_
  refine Gx.nilS (e := 3) (sz := 1) ?_
  refine Gx.seq ?_
  refine Gx.seq_region ?_
  refine Rx.q rfl (.move rfl) ?_
  refine Rx.q rfl (.lens rfl) ?_
  refine Rx.q rfl (.move rfl) ?_
  refine Rx.next ?_
  refine Gx.block ?_
  refine Gx.castL (L' := [sl 3 1 (.slice none 0 0) (ptN xs 0).length (intsV (ptN xs 0)), enc p ((EncS.new 6).all s (ptN xs 0)), pt b5 25 (setC s v15), sl 3 1 v15 s.fs.length (intsV s.fs)]) rfl ?_
  refine Gx.lp (α := Nat × Value) (fun x => x.1 ≤ xs.length) (fun x => xs.length - x.1)
    (fun x => [(5, .pointer (some ⟨b5, 0, none⟩)), (6, .pointer (some ⟨p, 0, none⟩)), (7, x.2), (21, v), (22, .int .i64 xs.length), (23, .int .i64 x.1)])
    (fun x => [sl 3 1 x.2 (ptN xs x.1).length (intsV (ptN xs x.1)), enc p ((EncS.new 6).all s (ptN xs x.1)), pt b5 25 (setC s v15), sl 3 1 v15 s.fs.length (intsV s.fs)]) (0, .slice none 0 0) (Nat.zero_le _) ?_ ?_
  · exact .cons rfl (.cons rfl (.cons rfl (.cons rfl (.cons rfl (.cons rfl .nil)))))
  rintro ⟨j, v7⟩ hj
  have hj : j ≤ xs.length := hj
  show Gx Tryd.prog _ _ [(5, .pointer (some ⟨b5, 0, none⟩)), (6, .pointer (some ⟨p, 0, none⟩)), (7, v7), (21, v), (22, .int .i64 xs.length), (23, .int .i64 j)] [sl 3 1 v7 (ptN xs j).length (intsV (ptN xs j)), enc p ((EncS.new 6).all s (ptN xs j)), pt b5 25 (setC s v15), sl 3 1 v15 s.fs.length (intsV s.fs)] _ _
  have hpl := ptN_length xs j
  have hLj := hL j
  have hLn := hLj.n
  have hrj : rightB s ((EncS.new 6).all s (ptN xs j)).ps.length = true := by rw [hLj.len]; exact hr
  refine Gx.seq_region ?_
  refine Rx.q rfl (.lss rfl rfl) ?_
  refine Rx.next ?_
  refine Gx.seq ?_
  refine Gx.cond rfl (fun h => ?_) (fun h => ?_)
  · have h := of_decide_eq_true h
    have hj' : j < xs.length := by omega
    have hxj : -(2 ^ 63) ≤ xs.getD j 0 ∧ xs.getD j 0 < 2 ^ 63 := by
      simp only [List.getD, List.getElem?_eq_getElem hj', Option.getD_some]; exact hx _ (List.getElem_mem hj')
    refine Gx.skip fun a w hs => (then_normal (Gx.go hs ?_))
    refine Gx.seq ?_
    refine Gx.block ?_
    refine Gx.seq_region ?_
    refine Rx.q rfl (.move rfl) ?_
    refine Rx.q rfl (.idx (j := j) rfl rfl (by omega) (by omega)) ?_
    refine Rx.q rfl (.ldi (l := xs) rfl rfl hj') ?_
    refine Rx.q rfl (.assign rfl) ?_
    refine Rx.q rfl (.assign rfl) ?_
    refine Rx.next ?_
    refine Gx.seq_region ?_
    refine Rx.q rfl (.move rfl) ?_
    refine Rx.q rfl (.lss rfl rfl) ?_
    refine Rx.q rfl (.move rfl) ?_
    refine Rx.split 30 rfl (fun h30 => ?_) (fun h30 => ?_)
    · have h30 := of_decide_eq_true h30
      have hsucc := ptN_succ xs (show j < 60 by omega) hj'
      refine Rx.guard_yes rfl rfl rfl (Rx.q rfl (.move rfl) ?_)
      refine Rx.guard_yes rfl rfl rfl (Rx.q rfl (.ldn rfl rfl rfl) ?_)
      refine Rx.guard_yes rfl rfl rfl (Rx.q rfl (.move rfl) ?_)
      refine Rx.guard_yes rfl rfl rfl (Rx.cal (caps := []) (bins_PutSigned p ((EncS.new 6).all s (ptN xs j)) s v15 (xs.getD j 0) hLj.ok hxj (by omega) (by rw [hLj.len]; omega) (by omega)) rfl rfl rfl ?_)
      rintro u L1 ⟨rfl, rfl⟩
      rw [okS_iff hrj]
      refine Rx.q rfl (.pick_t rfl rfl) ?_
      refine Rx.next ?_
      refine Gx.cond rfl (fun hok => ?_) (fun hok => ?_)
      · rw [if_pos hok] at hsucc
        refine Gx.region ?_
        refine Rx.q rfl (.move rfl) ?_
        refine Rx.q rfl (.move rfl) ?_
        refine Rx.slice1 rfl rfl rfl rfl rfl fun v38 hv38 => ?_
        refine Rx.app rfl rfl ⟨rfl, rfl⟩ rfl rfl (by omega) rfl fun v39 hv39 => ?_
        refine Rx.q rfl (.assign rfl) ?_
        refine Rx.nil fun a w hs => (blk_normal (then_normal (Gx.go hs ?_)))
        refine Gx.region ?_
        refine Rx.q rfl ((OpQ.add_ rfl rfl (by omega)).val (u := .int .i64 (j + 1 : Nat)) (by simp)) ?_
        refine Rx.q rfl (.move rfl) ?_
        refine Rx.castL (L' := [sl 3 1 v39 (ptN xs (j + 1)).length (intsV (ptN xs (j + 1))), sl 3 1 v38 1 [.int .i64 (xs.getD j 0)], enc p ((EncS.new 6).all s (ptN xs (j + 1))), pt b5 25 (setC s v15), sl 3 1 v15 s.fs.length (intsV s.fs)]) (by
          rw [hsucc, EncS.all_snoc, List.length_append, show intsV (ptN xs j ++ [xs.getD j 0]) = intsV (ptN xs j) ++ [Value.int .i64 (xs.getD j 0)] from List.map_append ..]; rfl) ?_
        refine Rx.nil fun a w hs => (then_normal ⟨(j + 1, v39), (by show j + 1 ≤ _; omega), (by show xs.length - (j + 1) < xs.length - j; omega), hs.to (.cons rfl (.cons rfl (.cons rfl (.cons rfl (.cons rfl (.cons rfl .nil))))))⟩)
      · rw [if_neg (by rw [hok]; exact Bool.false_ne_true), List.append_nil] at hsucc
        have hput : ((EncS.new 6).all s (ptN xs j)).putS s (xs.getD j 0) = (EncS.new 6).all s (ptN xs (j + 1)) := by
          rw [hsucc]; unfold EncS.putS; rw [if_neg (by rw [okS_iff hrj, hok]; exact Bool.false_ne_true)]
        rw [hput, ← hsucc]
        refine Gx.skip fun a w hs => (blk_normal (then_normal (Gx.go hs ?_)))
        refine Gx.region ?_
        refine Rx.q rfl ((OpQ.add_ rfl rfl (by omega)).val (u := .int .i64 (j + 1 : Nat)) (by simp)) ?_
        refine Rx.q rfl (.move rfl) ?_
        refine Rx.nil fun a w hs => (then_normal ⟨(j + 1, v7), (by show j + 1 ≤ _; omega), (by show xs.length - (j + 1) < xs.length - j; omega), hs.to (.cons rfl (.cons rfl (.cons rfl (.cons rfl (.cons rfl (.cons rfl .nil))))))⟩)
    · have h30 := of_decide_eq_false h30
      have hsucc := ptN_late xs (show 60 ≤ j by omega)
      rw [← hsucc]
      refine Rx.guard_no rfl rfl rfl rfl rfl ?_
      refine Rx.guard_no rfl rfl rfl rfl rfl ?_
      refine Rx.guard_no rfl rfl rfl rfl rfl ?_
      refine Rx.guard_no rfl rfl rfl rfl rfl ?_
      refine Rx.q rfl (.pick_f rfl rfl) ?_
      refine Rx.next ?_
      refine Gx.cond_f rfl ?_
      refine Gx.skip fun a w hs => (blk_normal (then_normal (Gx.go hs ?_)))
      refine Gx.region ?_
      refine Rx.q rfl ((OpQ.add_ rfl rfl (by omega)).val (u := .int .i64 (j + 1 : Nat)) (by simp)) ?_
      refine Rx.q rfl (.move rfl) ?_
      refine Rx.nil fun a w hs => (then_normal ⟨(j + 1, v7), (by show j + 1 ≤ _; omega), (by show xs.length - (j + 1) < xs.length - j; omega), hs.to (.cons rfl (.cons rfl (.cons rfl (.cons rfl (.cons rfl (.cons rfl .nil))))))⟩)
  · clear h
    generalize hps : ptN xs j = ps at *
    have hpok : ∀ v ∈ ps, okV v = true := by rw [← hps]; exact ptN_ok xs j
    generalize he : (EncS.new 6).all s ps = e at *
    have hg : Good e.bytes e := good_end hLj.ok
    have hb := bytes_ok e
    have hbl := bytes_le hLj.ok (by omega)
    have d0 := DecS.new_ok e.bytes 6
    have hd0 : (DecS.new e.bytes 6).n = 0 := rfl
    have q0 : (DecS.new e.bytes 6).ps.length = 6 := by show (List.replicate (ctxN 6) (32768 : Int)).length = 6; rw [List.length_replicate]; rfl
    have hsy := sync_all (l := e.bytes) (d := DecS.new e.bytes 6) (vs := ps) k0 hr hpok (by rw [he]; exact hg) (sync_new _ 6)
    refine Gx.exit fun a w hs => (then_exit (then_exit (blk_exit (then_normal (Gx.go hs ?_)))))
    refine Gx.seq_region ?_
    refine Rx.q rfl (.move rfl) ?_
    refine Rx.cal (caps := []) (arith_Encoder_Bytes p e hLj.ok (by omega)) rfl rfl rfl ?_
    rintro u L1 ⟨u, rfl, rfl⟩
    refine Rx.cal (caps := []) (arith_NewDecoder u e.bytes 6 hb hbl) rfl rfl rfl ?_
    rintro u' L1 ⟨q, rfl, rfl⟩
    refine Rx.q rfl (.assign rfl) ?_
    refine Rx.next ?_
    refine Gx.seq ?_
    refine Gx.seq_region ?_
    refine Rx.q rfl (.move rfl) ?_
    refine Rx.q rfl (.lens rfl) ?_
    refine Rx.q rfl (.move rfl) ?_
    refine Rx.next ?_
    refine Gx.block ?_
    refine Gx.castL (L' := [dec q e.bytes ((DecS.new e.bytes 6).after e.bytes s 0), sl 5 1 u e.bytes.length (bytesV e.bytes), sl 3 1 v7 ps.length (intsV ps), enc p e, pt b5 25 (setC s v15), sl 3 1 v15 s.fs.length (intsV s.fs)]) rfl ?_
    refine Gx.lp (α := Nat) (fun k => k ≤ ps.length) (fun k => ps.length - k)
      (fun k => [(5, .pointer (some ⟨b5, 0, none⟩)), (6, .pointer (some ⟨p, 0, none⟩)), (10, .pointer (some ⟨q, 0, none⟩)), (44, v7), (45, .int .i64 ps.length), (46, .int .i64 k)])
      (fun k => [dec q e.bytes ((DecS.new e.bytes 6).after e.bytes s k), sl 3 1 v7 ps.length (intsV ps), enc p e, pt b5 25 (setC s v15), sl 3 1 v15 s.fs.length (intsV s.fs)]) 0 (Nat.zero_le _) ?_ (fun k hk => ?_)
    · exact .cons rfl (.cons rfl (.cons rfl (.cons rfl (.cons rfl (.cons rfl .nil)))))
    have hLd := LaterD.after d0 e.bytes s k
    have hLdn := hLd.n
    obtain ⟨hk1, hk2⟩ := hsy k hk
    refine Gx.seq_region ?_
    refine Rx.q rfl (.lss rfl rfl) ?_
    refine Rx.next ?_
    refine Gx.seq ?_
    refine Gx.cond rfl (fun h => ?_) (fun h => ?_)
    · have h := of_decide_eq_true h
      have hk' : k < ps.length := by omega
      have hval := hk2 hk'
      refine Gx.skip fun a w hs => (then_normal (Gx.go hs ?_))
      refine Gx.seq ?_
      refine Gx.block ?_
      refine Gx.seq_region ?_
      refine Rx.q rfl (.idx (j := k) rfl rfl (by omega) (by omega)) ?_
      refine Rx.q rfl (.ldi (l := ps) rfl rfl hk') ?_
      refine Rx.q rfl (.assign rfl) ?_
      refine Rx.next ?_
      refine Gx.seq_region ?_
      refine Rx.q rfl (.move rfl) ?_
      refine Rx.q rfl (.ldn rfl rfl rfl) ?_
      refine Rx.cal (caps := []) (bins_GetSigned q e.bytes ((DecS.new e.bytes 6).after e.bytes s k) s v15 hLd.ok (by omega) (by rw [hLd.len]; omega) (by omega) hb hbl) rfl rfl rfl ?_
      rintro u' L1 ⟨rfl, rfl⟩
      refine Rx.q rfl (.move rfl) ?_
      refine Rx.q rfl ((OpQ.neq rfl rfl).val (u := .bool false) (congrArg Value.bool (decide_eq_false (by rw [hval]; simp [List.getD, hk'])))) ?_
      refine Rx.next ?_
      refine Gx.cond_f rfl ?_
      refine Gx.skip fun a w hs => (blk_normal (then_normal (Gx.go hs ?_)))
      refine Gx.region ?_
      refine Rx.q rfl ((OpQ.add_ rfl rfl (by omega)).val (u := .int .i64 (k + 1 : Nat)) (by simp)) ?_
      refine Rx.q rfl (.move rfl) ?_
      refine Rx.castL (L' := [dec q e.bytes ((DecS.new e.bytes 6).after e.bytes s (k + 1)), sl 3 1 v7 ps.length (intsV ps), enc p e, pt b5 25 (setC s v15), sl 3 1 v15 s.fs.length (intsV s.fs)]) rfl ?_
      refine Rx.nil fun a w hs => (then_normal ⟨k + 1, by omega, by omega, hs.to (.cons rfl (.cons rfl (.cons rfl (.cons rfl (.cons rfl (.cons rfl .nil))))))⟩)
    · have h := of_decide_eq_false h
      have hkl : k = ps.length := by omega
      have hn : ((DecS.new e.bytes 6).after e.bytes s k).n = e.n := by
        have := hk1.n
        rwa [hkl, List.take_length, he, ← hkl] at this
      refine Gx.exit fun a w hs => (then_exit (then_exit (blk_exit (then_normal (Gx.go hs ?_)))))
      refine Gx.seq_region ?_
      refine Rx.q rfl (.move rfl) ?_
      refine Rx.q rfl (.cal (caps := []) (arith_Decoder_Count q e.bytes ((DecS.new e.bytes 6).after e.bytes s k)) rfl rfl) ?_
      refine Rx.q rfl (.move rfl) ?_
      refine Rx.q rfl (.cal (caps := []) (arith_Encoder_Count p e) rfl rfl) ?_
      refine Rx.q rfl ((OpQ.eql rfl rfl).val (u := .bool true) (congrArg Value.bool (decide_eq_true (by rw [hn])))) ?_
      refine Rx.q rfl (.assign rfl) ?_
      refine Rx.next ?_
      refine Gx.ret fun a w hs => (fin_tmp (L1 := []) hs rfl rfl ⟨rfl, rfl⟩)
end Go.Proofs.YtoiebfpafdcbmaaDoor
