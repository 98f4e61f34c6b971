/- The law's own functions: which planes, frames and films any texts are. -/
import Derived.Test.YtoiebfpafdcbmaaDoorQ1
import Derived.Test.YtoiebfpafdcbmaaDoorU5
import Derived.Test.YtoiebfpafdcbmaaDoorL1
namespace Go.Proofs.YtoiebfpafdcbmaaDoor
open Go Go.RowKit K
set_option linter.unusedVariables false
set_option linter.unusedSimpArgs false

theorem law38_TextParses (s : List UInt8) : Spc Tryd.prog 5 [str s] [] [lib] (fun u L => u = .bool true ∧ L = []) := by
  refine Spc.intro Tryd.func5 rfl Tryd.ntmps5 (by kernel_rfl) rfl rfl fun w0 F0 => ?_
  -- region 0
  refine Gx.seq_region ?_
  refine Rx.q rfl (.assign rfl) ?_
  refine Rx.next ?_
  refine Gx.seq ?_
  -- region 1
  refine Gx.seq_region ?_
  refine Rx.cal (caps := []) (law38_first) rfl rfl rfl fun v24 L24 hP24 => ?_
  obtain ⟨rfl, rfl⟩ := hP24
  refine Rx.q rfl (.not rfl) ?_
  refine Rx.next ?_
  refine Gx.cond_f rfl ?_
  refine Gx.skip fun aa ww hzz => (then_normal (Gx.go hzz ?_))
  refine Gx.seq ?_
  -- region 3
  refine Gx.seq_region ?_
  refine Rx.q rfl (.move rfl) ?_
  refine Rx.q rfl (.len_s rfl) ?_
  refine Rx.q rfl (.gtr rfl rfl) ?_
  refine Rx.next ?_
  refine Gx.cond rfl (fun h28 => ?_) (fun h28 => ?_)
  · -- way
    have h28 := of_decide_eq_true h28
    -- region 4
    refine Gx.seq_region ?_
    refine Rx.q rfl (.assign rfl) ?_
    refine Rx.next ?_
    refine Gx.ret fun aa ww hzz => (then_ret (fin_tmp hzz rfl rfl (⟨rfl, rfl⟩)))
  · -- way
    have h28 := of_decide_eq_false h28
    refine Gx.skip fun aa ww hzz => (then_normal (Gx.go hzz ?_))
    -- region 5
    refine Gx.seq_region ?_
    refine Rx.q rfl (.move rfl) ?_
    refine Rx.cal (caps := []) (text_ParsePlane s (by omega)) rfl rfl rfl fun v31 L31 hP31 => ?_
    obtain ⟨v31, rfl, rfl, ho31⟩ := hP31
    obtain ⟨p, n, ok, hpp⟩ : ∃ p n ok, parsePlane s = (p, n, ok) := ⟨_, _, _, rfl⟩
    rw [hpp]
    dsimp only
    refine Rx.q rfl (.move rfl) ?_
    refine Rx.q rfl (.extract rfl rfl) ?_
    refine Rx.q rfl (.extract rfl rfl) ?_
    refine Rx.q rfl (.extract rfl rfl) ?_
    refine Rx.alloc (zs := [.int .i64 0, .int .i64 0, .slice none 0 0]) rfl rfl fun b3 => ?_
    refine Rx.stc rfl rfl (by first | rfl | simp only [List.all_cons, List.all_nil, one_int, one_bool, one_str, one_ptr, one_slice, one_func, Bool.and_true, Bool.true_and, *]) (by rfl) ?_
    refine Rx.q rfl (.assign rfl) ?_
    refine Rx.q rfl (.assign rfl) ?_
    refine Rx.next ?_
    -- region 6
    refine Gx.seq_region ?_
    refine Rx.q rfl (.move rfl) ?_
    refine Rx.q rfl (.build (cs := [str s, .int .i64 0]) rfl rfl) ?_
    refine Rx.box (vs := [str s, .int .i64 ((0 : Nat) : Int)]) rfl rfl rfl fun b37 => ?_
    refine Rx.q rfl (.assign rfl) ?_
    refine Rx.next ?_
    -- region 7
    refine Gx.seq_region ?_
    refine Rx.q rfl (.move rfl) ?_
    refine Rx.cal (caps := []) (ref38_RPlane b37 s 0 (by omega) (Nat.zero_le _)) rfl rfl rfl fun v40 L40 hP40 => ?_
    obtain ⟨v40, q, j, is, rfl, rfl, ho40, hj, hm⟩ := hP40
    have hpq : p = q ∧ ok = is ∧ q.l.length ≤ 1048576 ∧ (is = true → (n : Int) = j) ∧ (is = false → n = 0) := by
      rcases hm with ⟨rfl, h⟩ | ⟨rfl, h, rfl⟩
      · have h2 := hpp
        rw [parsePlane, h] at h2
        simp only [Prod.mk.injEq] at h2
        obtain ⟨rfl, rfl, rfl⟩ := h2
        exact ⟨rfl, rfl, plane_len h, fun _ => rfl, (fun e => by cases e)⟩
      · have h2 := hpp
        rw [parsePlane, h] at h2
        simp only [Prod.mk.injEq] at h2
        obtain ⟨rfl, rfl, rfl⟩ := h2
        exact ⟨rfl, rfl, Nat.zero_le _, (fun e => by cases e), fun _ => rfl⟩
    obtain ⟨rfl, rfl, hq, hn1, hn0⟩ := hpq
    refine Rx.q rfl (.move rfl) ?_
    refine Rx.q rfl (.extract rfl rfl) ?_
    refine Rx.q rfl (.extract rfl rfl) ?_
    refine Rx.alloc (zs := [.int .i64 0, .int .i64 0, .slice none 0 0]) rfl rfl fun b7 => ?_
    refine Rx.stc rfl rfl (by first | rfl | simp only [List.all_cons, List.all_nil, one_int, one_bool, one_str, one_ptr, one_slice, one_func, Bool.and_true, Bool.true_and, *]) (by rfl) ?_
    refine Rx.q rfl (.assign rfl) ?_
    refine Rx.next ?_
    refine Gx.seq ?_
    -- region 8
    refine Gx.seq_region ?_
    refine Rx.q rfl (.ldc rfl (by rfl)) ?_
    refine Rx.q rfl (.ldc rfl (by rfl)) ?_
    refine Rx.q rfl ((OpQ.cal (caps := []) (ref07_Same p p v31 v40 (by omega)) rfl rfl).val (u := .bool true) (congrArg Value.bool (decide_eq_true rfl))) ?_
    refine Rx.q rfl (.not rfl) ?_
    refine Rx.q rfl (.move rfl) ?_
    refine Rx.guard_yes rfl rfl rfl (Rx.q rfl (.move rfl) ?_)
    refine Rx.guard_yes rfl rfl rfl (Rx.q rfl (.move rfl) ?_)
    refine Rx.guard_yes rfl rfl rfl (Rx.q rfl ((OpQ.neq_b (by kernel_rfl) rfl rfl).val (u := .bool false) (congrArg Value.bool (by cases ok <;> rfl))) ?_)
    refine Rx.q rfl (.pick_f rfl rfl) ?_
    refine Rx.q rfl (.move rfl) ?_
    refine Rx.guard_yes rfl rfl rfl (Rx.q rfl (.move rfl) ?_)
    refine Rx.guard_yes rfl rfl rfl (Rx.q rfl (.move rfl) ?_)
    refine Rx.split 54 rfl (fun h54 => ?_) (fun h54 => ?_)
    · -- way
      subst h54
      have hn2 := hn1 rfl
      refine Rx.guard_yes rfl rfl rfl (Rx.q rfl (.move rfl) ?_)
      refine Rx.guard_yes rfl rfl rfl (Rx.q rfl (.move rfl) ?_)
      refine Rx.guard_yes rfl rfl rfl (Rx.q rfl (.nilCheck rfl) ?_)
      refine Rx.guard_yes rfl rfl rfl (Rx.q rfl (.fieldAddr rfl) ?_)
      refine Rx.guard_yes rfl rfl rfl (Rx.q rfl (.ld rfl rfl) ?_)
      refine Rx.guard_yes rfl rfl rfl (Rx.q rfl ((OpQ.neq rfl rfl).val (u := .bool false) (congrArg Value.bool (decide_eq_false (by rw [hn2]; simp)))) ?_)
      refine Rx.guard_yes rfl rfl rfl (Rx.q rfl (.pick_t rfl rfl) ?_)
      refine Rx.q rfl (.pick_f rfl rfl) ?_
      refine Rx.q rfl (.move rfl) ?_
      refine Rx.guard_yes rfl rfl rfl (Rx.q rfl (.move rfl) ?_)
      refine Rx.guard_yes rfl rfl rfl (Rx.q rfl (.not rfl) ?_)
      refine Rx.guard_yes rfl rfl rfl (Rx.q rfl (.move rfl) ?_)
      refine Rx.guard_no rfl rfl rfl rfl rfl ?_
      refine Rx.guard_no rfl rfl rfl rfl rfl ?_
      refine Rx.guard_yes rfl rfl rfl (Rx.q rfl (.pick_f rfl rfl) ?_)
      refine Rx.q rfl (.pick_f rfl rfl) ?_
      refine Rx.next ?_
      refine Gx.cond_f rfl ?_
      refine Gx.skip fun aa ww hzz => (then_normal (Gx.go hzz ?_))
      -- region 10
      refine Gx.seq_region ?_
      refine Rx.q rfl (.move rfl) ?_
      refine Rx.cal (caps := []) (text_ParseFrame s (by omega)) rfl rfl rfl fun v73 L73 hP73 => ?_
      obtain ⟨u73, v73, w73, rfl, rfl, hou73, hov73, how73⟩ := hP73
      obtain ⟨F, gd, hF⟩ : ∃ F gd, parseFrame s = (F, gd) := ⟨_, _, rfl⟩
      rw [hF]
      dsimp only
      refine Rx.q rfl (.move rfl) ?_
      refine Rx.q rfl (.extract rfl rfl) ?_
      refine Rx.q rfl (.extract rfl rfl) ?_
      refine Rx.alloc (zs := [.int .i64 0, .int .i64 0, .slice none 0 0, .int .i64 0, .int .i64 0, .slice none 0 0, .int .i64 0, .int .i64 0, .slice none 0 0]) rfl rfl fun b9 => ?_
      refine Rx.stc rfl rfl (by first | rfl | simp only [List.all_cons, List.all_nil, one_int, one_bool, one_str, one_ptr, one_slice, one_func, Bool.and_true, Bool.true_and, *]) (by rfl) ?_
      refine Rx.q rfl (.assign rfl) ?_
      refine Rx.next ?_
      -- region 11
      refine Gx.seq_region ?_
      refine Rx.q rfl (.move rfl) ?_
      refine Rx.q rfl (.build (cs := [str s, .int .i64 0]) rfl rfl) ?_
      refine Rx.box (vs := [str s, .int .i64 ((0 : Nat) : Int)]) rfl rfl rfl fun b78 => ?_
      refine Rx.q rfl (.assign rfl) ?_
      refine Rx.next ?_
      -- region 12
      refine Gx.seq_region ?_
      refine Rx.q rfl (.move rfl) ?_
      refine Rx.cal (caps := []) (ref38_RFrame b78 s 0 (by omega) (Nat.zero_le _)) rfl rfl rfl fun v81 L81 hP81 => ?_
      obtain ⟨u81, v81, w81, g, j2, may, rfl, rfl, ⟨hou81, hov81, how81⟩, hj2, hm2⟩ := hP81
      have hfr : (may = true → gd = decide ((j2 : Int) = s.length)) ∧ (may = false → gd = false) ∧ (gd = true → F = g) ∧ (gd = false → F = zeroF) ∧ (F.a.l.length ≤ 1099511627776 ∧ F.b.l.length ≤ 1099511627776 ∧ F.c.l.length ≤ 1099511627776) := by
        have hz : zeroF.a.l.length ≤ 1099511627776 ∧ zeroF.b.l.length ≤ 1099511627776 ∧ zeroF.c.l.length ≤ 1099511627776 := ⟨Nat.zero_le _, Nat.zero_le _, Nat.zero_le _⟩
        rcases hm2 with ⟨rfl, h⟩ | ⟨rfl, h, rfl⟩
        · have h2 := hF
          rw [parseFrame, h] at h2
          simp only at h2
          split at h2
          · rename_i e
            simp only [Prod.mk.injEq] at h2
            obtain ⟨rfl, rfl⟩ := h2
            exact ⟨fun _ => (decide_eq_true (by rw [e])).symm, (fun e => by cases e), fun _ => rfl, (fun e => by cases e), frame_len h⟩
          · rename_i e
            simp only [Prod.mk.injEq] at h2
            obtain ⟨rfl, rfl⟩ := h2
            exact ⟨fun _ => (decide_eq_false (by omega)).symm, (fun e => by cases e), (fun e => by cases e), fun _ => rfl, hz⟩
        · have h2 := hF
          rw [parseFrame, h] at h2
          simp only [Prod.mk.injEq] at h2
          obtain ⟨rfl, rfl⟩ := h2
          exact ⟨(fun e => by cases e), fun _ => rfl, fun _ => rfl, fun _ => rfl, hz⟩
      obtain ⟨hf1, hf2, hf3, hf4, hfl⟩ := hfr
      refine Rx.q rfl (.move rfl) ?_
      refine Rx.q rfl (.extract rfl rfl) ?_
      refine Rx.q rfl (.extract rfl rfl) ?_
      refine Rx.alloc (zs := [.int .i64 0, .int .i64 0, .slice none 0 0, .int .i64 0, .int .i64 0, .slice none 0 0, .int .i64 0, .int .i64 0, .slice none 0 0]) rfl rfl fun b12 => ?_
      refine Rx.stc rfl rfl (by first | rfl | simp only [List.all_cons, List.all_nil, one_int, one_bool, one_str, one_ptr, one_slice, one_func, Bool.and_true, Bool.true_and, *]) (by rfl) ?_
      refine Rx.q rfl (.assign rfl) ?_
      refine Rx.next ?_
      refine Gx.seq ?_
      -- region 13
      refine Gx.nilS (e := 3) (sz := 1) ?_
      refine Gx.seq_region ?_
      refine Rx.q rfl (.move rfl) ?_
      refine Rx.q rfl (.move rfl) ?_
      refine Rx.q rfl (.move rfl) ?_
      refine Rx.split 86 rfl (fun h86 => ?_) (fun h86 => ?_)
      · -- way
        subst h86
        have hf5 := hf1 rfl
        refine Rx.guard_yes rfl rfl rfl (Rx.q rfl (.move rfl) ?_)
        refine Rx.guard_yes rfl rfl rfl (Rx.q rfl (.nilCheck rfl) ?_)
        refine Rx.guard_yes rfl rfl rfl (Rx.q rfl (.fieldAddr rfl) ?_)
        refine Rx.guard_yes rfl rfl rfl (Rx.q rfl (.ld rfl rfl) ?_)
        refine Rx.guard_yes rfl rfl rfl (Rx.q rfl (.move rfl) ?_)
        refine Rx.guard_yes rfl rfl rfl (Rx.q rfl (.len_s rfl) ?_)
        refine Rx.guard_yes rfl rfl rfl (Rx.q rfl (.eql rfl rfl) ?_)
        refine Rx.q rfl (.pick_t rfl rfl) ?_
        refine Rx.q rfl ((OpQ.neq_b (by kernel_rfl) rfl rfl).val (u := .bool false) (congrArg Value.bool (by rw [hf5]; simp))) ?_
        refine Rx.q rfl (.move rfl) ?_
        refine Rx.guard_yes rfl rfl rfl (Rx.q rfl (.move rfl) ?_)
        refine Rx.guard_yes rfl rfl rfl (Rx.q rfl (.move rfl) ?_)
        refine Rx.split 98 rfl (fun h98 => ?_) (fun h98 => ?_)
        · -- way
          subst h98
          have hf6 := hf3 rfl
          refine Rx.guard_yes rfl rfl rfl (Rx.q rfl (.ldc rfl (by rfl)) ?_)
          refine Rx.guard_yes rfl rfl rfl (Rx.q rfl (.ldc rfl (by rfl)) ?_)
          refine Rx.guard_yes rfl rfl rfl (Rx.q rfl ((OpQ.cal (caps := []) (ref24_Same F g u73 v73 w73 u81 v81 w81 hfl) rfl rfl).val (u := .bool true) (congrArg Value.bool (decide_eq_true hf6))) ?_)
          refine Rx.guard_yes rfl rfl rfl (Rx.q rfl (.not rfl) ?_)
          refine Rx.guard_yes rfl rfl rfl (Rx.q rfl (.pick_t rfl rfl) ?_)
          refine Rx.q rfl (.pick_f rfl rfl) ?_
          refine Rx.q rfl (.move rfl) ?_
          refine Rx.guard_yes rfl rfl rfl (Rx.q rfl (.move rfl) ?_)
          refine Rx.guard_yes rfl rfl rfl (Rx.q rfl (.not rfl) ?_)
          refine Rx.guard_yes rfl rfl rfl (Rx.q rfl (.move rfl) ?_)
          refine Rx.guard_no rfl rfl rfl rfl rfl ?_
          refine Rx.guard_no rfl rfl rfl rfl rfl ?_
          refine Rx.guard_no rfl rfl rfl rfl rfl ?_
          refine Rx.guard_no rfl rfl rfl rfl rfl ?_
          refine Rx.guard_yes rfl rfl rfl (Rx.q rfl (.pick_f rfl rfl) ?_)
          refine Rx.q rfl (.pick_f rfl rfl) ?_
          refine Rx.next ?_
          refine Gx.cond_f rfl ?_
          refine Gx.skip fun aa ww hzz => (then_normal (Gx.go hzz ?_))
          -- region 15
          refine Gx.seq_region ?_
          refine Rx.q rfl (.move rfl) ?_
          refine Rx.cal (caps := []) (text_ParseFilm s (by omega)) rfl rfl rfl fun v117 L117 hP117 => ?_
          obtain ⟨v117, l, rfl, rfl, hl, hol⟩ := hP117
          obtain ⟨ls, K, hK⟩ : ∃ ls K, parseFilm s = (ls, K) := ⟨_, _, rfl⟩
          rw [hK]
          rw [hK] at hl
          dsimp only at hl ⊢
          have hfm : filmM s (s.length + 1 - 0) 0 = (ls.drop 0, K) := hK
          have hlen : l.length = ls.length := by rw [← hl, List.length_map]
          refine Rx.q rfl (.move rfl) ?_
          refine Rx.q rfl (.extract rfl rfl) ?_
          refine Rx.q rfl (.extract rfl rfl) ?_
          refine Rx.q rfl (.assign rfl) ?_
          refine Rx.q rfl (.assign rfl) ?_
          refine Rx.next ?_
          -- region 16
          refine Gx.seq_region ?_
          refine Rx.q rfl (.move rfl) ?_
          refine Rx.q rfl (.build (cs := [str s, .int .i64 0]) rfl rfl) ?_
          refine Rx.box (vs := [str s, .int .i64 ((0 : Nat) : Int)]) rfl rfl rfl fun b122 => ?_
          refine Rx.q rfl (.assign rfl) ?_
          refine Rx.next ?_
          refine Gx.seq ?_
          -- region 17
          refine Gx.seq_region ?_
          refine Rx.q rfl (.move rfl) ?_
          refine Rx.q rfl (.lens rfl) ?_
          refine Rx.q rfl (.move rfl) ?_
          refine Rx.next ?_
          refine Gx.block ?_
          refine Gx.lp (α := Nat × Nat) (fun x => x.1 ≤ l.length ∧ x.1 ≤ x.2 ∧ x.2 ≤ s.length ∧ filmM s (s.length + 1 - x.1) x.2 = (ls.drop x.1, K)) (fun x => l.length - x.1) (fun x => [(0, str s), (15, .int .i64 K), (16, .pointer (some ⟨b122, 0, none⟩)), (123, v117), (124, .int .i64 l.length), (125, .int .i64 x.1)])
            (fun x => [rdr b122 s x.2, sl 40 9 v117 l.length (frsC l), bag (frS l)]) ((0, 0)) (⟨Nat.zero_le _, Nat.le_refl _, Nat.zero_le _, hfm⟩) ?_ (fun x hx => ?_)
          · exact (.cons rfl (.cons rfl (.cons rfl (.cons rfl (.cons rfl (.cons rfl .nil))))))
          obtain ⟨k, a⟩ := x
          obtain ⟨hk, hka, ha, hfk⟩ := hx
          simp only at hk hka ha hfk ⊢
          -- region 18
          refine Gx.seq_region ?_
          refine Rx.q rfl (.lss rfl rfl) ?_
          refine Rx.next ?_
          refine Gx.seq ?_
          refine Gx.cond rfl (fun h126 => ?_) (fun h126 => ?_)
          · -- way
            have h126 := of_decide_eq_true h126
            have hk2 : k < l.length := by omega
            have hk3 : k < ls.length := by omega
            rw [List.drop_eq_getElem_cons hk3] at hfk
            obtain ⟨m, a2, hm1, hfa, hfn⟩ := film_step hfk
            have hag := frameM_gt hfa
            have hlk : l[k].f = ls[k] := by
              have := List.getElem_of_eq hl (i := k) (by simpa using hk2)
              simpa using this
            obtain ⟨hb1, hb2, hb3⟩ := frS_mem hk2
            have hok := hol _ (List.getElem_mem hk2)
            have hfl3 := frame_len hfa
            refine Gx.skip fun aa ww hzz => (then_normal (Gx.go hzz ?_))
            refine Gx.seq ?_
            refine Gx.block ?_
            -- region 19
            refine Gx.seq_region ?_
            refine Rx.q rfl (.idx (j := k * 9) rfl rfl (by omega) (by omega)) ?_
            refine Rx.q rfl (.ldsn (us := l[k].c) rfl (frsC_sub l hk2) (by rfl) (by simp)) ?_
            refine Rx.alloc (zs := [.int .i64 0, .int .i64 0, .slice none 0 0, .int .i64 0, .int .i64 0, .slice none 0 0, .int .i64 0, .int .i64 0, .slice none 0 0]) rfl rfl fun b18 => ?_
            refine Rx.stc rfl rfl (by simp only [List.all_cons, List.all_nil, one_int, hok.1, hok.2.1, hok.2.2, Bool.and_true]) (by rfl) ?_
            refine Rx.next ?_
            -- region 20
            refine Gx.seq_region ?_
            refine Rx.q rfl (.move rfl) ?_
            refine Rx.cal (caps := []) (ref38_RFrame b122 s a (by omega) ha) rfl rfl rfl fun v131 L131 hP131 => ?_
            obtain ⟨u131, v131, w131, g3, j3, ok3, rfl, rfl, ⟨hou131, hov131, how131⟩, hj3, hm3⟩ := hP131
            obtain ⟨rfl, rfl, rfl⟩ : ok3 = true ∧ g3 = ls[k] ∧ j3 = a2 := by
              rcases hm3 with ⟨e, h⟩ | ⟨_, h, _⟩
              · rw [hfa] at h
                simp only [Option.some.injEq, Prod.mk.injEq] at h
                exact ⟨e, h.1.symm, h.2.symm⟩
              · rw [hfa] at h; cases h
            refine Rx.q rfl (.move rfl) ?_
            refine Rx.q rfl (.extract rfl rfl) ?_
            refine Rx.q rfl (.extract rfl rfl) ?_
            refine Rx.alloc (zs := [.int .i64 0, .int .i64 0, .slice none 0 0, .int .i64 0, .int .i64 0, .slice none 0 0, .int .i64 0, .int .i64 0, .slice none 0 0]) rfl rfl fun b19 => ?_
            refine Rx.stc rfl rfl (by simp only [List.all_cons, List.all_nil, one_int, hou131, hov131, how131, Bool.and_true]) (by rfl) ?_
            refine Rx.q rfl (.assign rfl) ?_
            refine Rx.next ?_
            -- region 21
            refine Gx.seq_region ?_
            refine Rx.q rfl (.move rfl) ?_
            refine Rx.q rfl (.not rfl) ?_
            refine Rx.q rfl (.move rfl) ?_
            refine Rx.guard_yes rfl rfl rfl (Rx.q rfl (.ldc rfl (by rfl)) ?_)
            refine Rx.guard_yes rfl rfl rfl (Rx.q rfl (.ldc rfl (by rfl)) ?_)
            refine Rx.guard_yes rfl rfl rfl (Rx.q rfl ((OpQ.call (caps := []) (ref24_Same l[k].f ls[k] l[k].u l[k].v l[k].w u131 v131 w131 (by rw [hlk]; exact hfl3)) rfl rfl (.cons (giv_of_bag hb1 fun w F h => rd_of_sl w F h) (.cons (giv_of_bag hb2 fun w F h => rd_of_sl w F h) (.cons (giv_of_bag hb3 fun w F h => rd_of_sl w F h) (.cons RdOf.ok (.cons RdOf.ok (.cons RdOf.ok .nil))))))).val (u := .bool true) (congrArg Value.bool (decide_eq_true hlk))) ?_)
            refine Rx.guard_yes rfl rfl rfl (Rx.q rfl (.not rfl) ?_)
            refine Rx.q rfl (.pick_f rfl rfl) ?_
            refine Rx.next ?_
            refine Gx.cond_f rfl ?_
            refine Gx.skip fun aa ww hzz => (blk_normal (then_normal (Gx.go hzz ?_)))
            -- region 23
            refine Gx.region ?_
            refine Rx.q rfl (.add_ rfl rfl (by omega)) ?_
            refine Rx.q rfl (.move rfl) ?_
            refine Rx.nil fun aa ww hzz => (then_normal ⟨(k + 1, j3), ⟨by show k + 1 ≤ l.length; omega, by show k + 1 ≤ j3; omega, hj3, by show filmM s (s.length + 1 - (k + 1)) j3 = _; rw [show s.length + 1 - (k + 1) = m by omega]; exact hfn⟩, (by show l.length - (k + 1) < l.length - k; omega), hzz.to (.cons rfl (.cons rfl (.cons rfl (.cons rfl (.cons rfl (.cons rfl .nil))))))⟩)
          · -- way
            have h126 := of_decide_eq_false h126
            obtain rfl : k = l.length := by omega
            rw [List.drop_of_length_le (by omega), show s.length + 1 - l.length = (s.length - l.length) + 1 by omega] at hfk
            obtain ⟨hfe, rfl⟩ := film_stop hfk
            refine Gx.exit fun aa ww hzz => (then_exit (then_exit (blk_exit (then_normal (Gx.go hzz ?_)))))
            -- region 24
            refine Gx.seq_region ?_
            refine Rx.q rfl (.move rfl) ?_
            refine Rx.q rfl (.nilCheck rfl) ?_
            refine Rx.q rfl (.fieldAddr rfl) ?_
            refine Rx.q rfl (.ld rfl rfl) ?_
            refine Rx.q rfl (.assign rfl) ?_
            refine Rx.next ?_
            -- region 25
            refine Gx.seq_region ?_
            refine Rx.q rfl (.move rfl) ?_
            refine Rx.cal (caps := []) (ref38_RFrame b122 s K (by omega) ha) rfl rfl rfl fun v149 L149 hP149 => ?_
            obtain ⟨u149, v149, w149, g4, j4, ok4, rfl, rfl, ⟨hou149, hov149, how149⟩, hj4, hm4⟩ := hP149
            obtain rfl : ok4 = false := by
              rcases hm4 with ⟨_, h⟩ | ⟨e, _⟩
              · rw [hfe] at h; cases h
              · exact e
            refine Rx.q rfl (.move rfl) ?_
            refine Rx.q rfl (.extract rfl rfl) ?_
            refine Rx.q rfl (.extract rfl rfl) ?_
            refine Rx.alloc (zs := [.int .i64 0, .int .i64 0, .slice none 0 0, .int .i64 0, .int .i64 0, .slice none 0 0, .int .i64 0, .int .i64 0, .slice none 0 0]) rfl rfl fun b22 => ?_
            refine Rx.stc rfl rfl (by simp only [List.all_cons, List.all_nil, one_int, hou149, hov149, how149, Bool.and_true]) (by rfl) ?_
            refine Rx.q rfl (.assign rfl) ?_
            refine Rx.next ?_
            -- region 26
            refine Gx.seq_region ?_
            refine Rx.q rfl (.move rfl) ?_
            refine Rx.q rfl (.move rfl) ?_
            refine Rx.q rfl ((OpQ.eql rfl rfl).val (u := .bool true) (congrArg Value.bool (decide_eq_true rfl))) ?_
            refine Rx.q rfl (.move rfl) ?_
            refine Rx.guard_yes rfl rfl rfl (Rx.q rfl (.move rfl) ?_)
            refine Rx.guard_yes rfl rfl rfl (Rx.q rfl (.not rfl) ?_)
            refine Rx.q rfl (.pick_t rfl rfl) ?_
            refine Rx.q rfl (.assign rfl) ?_
            refine Rx.next ?_
            refine Gx.ret fun aa ww hzz => (fin_tmp hzz rfl rfl (⟨rfl, rfl⟩))
        · -- way
          subst h98
          have hf6 := hf4 rfl
          refine Rx.guard_no rfl rfl rfl rfl rfl ?_
          refine Rx.guard_no rfl rfl rfl rfl rfl ?_
          refine Rx.guard_no rfl rfl rfl rfl rfl ?_
          refine Rx.guard_no rfl rfl rfl rfl rfl ?_
          refine Rx.guard_yes rfl rfl rfl (Rx.q rfl (.pick_f rfl rfl) ?_)
          refine Rx.q rfl (.pick_f rfl rfl) ?_
          refine Rx.q rfl (.move rfl) ?_
          refine Rx.guard_yes rfl rfl rfl (Rx.q rfl (.move rfl) ?_)
          refine Rx.guard_yes rfl rfl rfl (Rx.q rfl (.not rfl) ?_)
          refine Rx.guard_yes rfl rfl rfl (Rx.q rfl (.move rfl) ?_)
          refine Rx.guard_yes rfl rfl rfl (Rx.q rfl (.ldc rfl (by rfl)) ?_)
          refine Rx.guard_yes rfl rfl rfl (Rx.q rfl (.build (cs := frC zeroF (.slice none 0 0) (.slice none 0 0) (.slice none 0 0)) rfl rfl) ?_)
          refine Rx.guard_yes rfl rfl rfl (Rx.q rfl ((OpQ.call (caps := []) (ref24_Same F zeroF u73 v73 w73 (.slice none 0 0) (.slice none 0 0) (.slice none 0 0) hfl) rfl rfl (.cons RdOf.ok (.cons RdOf.ok (.cons RdOf.ok (.cons giv_zero (.cons giv_zero (.cons giv_zero .nil))))))).val (u := .bool true) (congrArg Value.bool (decide_eq_true hf6))) ?_)
          refine Rx.guard_yes rfl rfl rfl (Rx.q rfl (.not rfl) ?_)
          refine Rx.guard_yes rfl rfl rfl (Rx.q rfl (.pick_t rfl rfl) ?_)
          refine Rx.q rfl (.pick_f rfl rfl) ?_
          refine Rx.next ?_
          refine Gx.cond_f rfl ?_
          refine Gx.skip fun aa ww hzz => (then_normal (Gx.go hzz ?_))
          -- region 15
          refine Gx.seq_region ?_
          refine Rx.q rfl (.move rfl) ?_
          refine Rx.cal (caps := []) (text_ParseFilm s (by omega)) rfl rfl rfl fun v117 L117 hP117 => ?_
          obtain ⟨v117, l, rfl, rfl, hl, hol⟩ := hP117
          obtain ⟨ls, K, hK⟩ : ∃ ls K, parseFilm s = (ls, K) := ⟨_, _, rfl⟩
          rw [hK]
          rw [hK] at hl
          dsimp only at hl ⊢
          have hfm : filmM s (s.length + 1 - 0) 0 = (ls.drop 0, K) := hK
          have hlen : l.length = ls.length := by rw [← hl, List.length_map]
          refine Rx.q rfl (.move rfl) ?_
          refine Rx.q rfl (.extract rfl rfl) ?_
          refine Rx.q rfl (.extract rfl rfl) ?_
          refine Rx.q rfl (.assign rfl) ?_
          refine Rx.q rfl (.assign rfl) ?_
          refine Rx.next ?_
          -- region 16
          refine Gx.seq_region ?_
          refine Rx.q rfl (.move rfl) ?_
          refine Rx.q rfl (.build (cs := [str s, .int .i64 0]) rfl rfl) ?_
          refine Rx.box (vs := [str s, .int .i64 ((0 : Nat) : Int)]) rfl rfl rfl fun b122 => ?_
          refine Rx.q rfl (.assign rfl) ?_
          refine Rx.next ?_
          refine Gx.seq ?_
          -- region 17
          refine Gx.seq_region ?_
          refine Rx.q rfl (.move rfl) ?_
          refine Rx.q rfl (.lens rfl) ?_
          refine Rx.q rfl (.move rfl) ?_
          refine Rx.next ?_
          refine Gx.block ?_
          refine Gx.lp (α := Nat × Nat) (fun x => x.1 ≤ l.length ∧ x.1 ≤ x.2 ∧ x.2 ≤ s.length ∧ filmM s (s.length + 1 - x.1) x.2 = (ls.drop x.1, K)) (fun x => l.length - x.1) (fun x => [(0, str s), (15, .int .i64 K), (16, .pointer (some ⟨b122, 0, none⟩)), (123, v117), (124, .int .i64 l.length), (125, .int .i64 x.1)])
            (fun x => [rdr b122 s x.2, sl 40 9 v117 l.length (frsC l), bag (frS l)]) ((0, 0)) (⟨Nat.zero_le _, Nat.le_refl _, Nat.zero_le _, hfm⟩) ?_ (fun x hx => ?_)
          · exact (.cons rfl (.cons rfl (.cons rfl (.cons rfl (.cons rfl (.cons rfl .nil))))))
          obtain ⟨k, a⟩ := x
          obtain ⟨hk, hka, ha, hfk⟩ := hx
          simp only at hk hka ha hfk ⊢
          -- region 18
          refine Gx.seq_region ?_
          refine Rx.q rfl (.lss rfl rfl) ?_
          refine Rx.next ?_
          refine Gx.seq ?_
          refine Gx.cond rfl (fun h126 => ?_) (fun h126 => ?_)
          · -- way
            have h126 := of_decide_eq_true h126
            have hk2 : k < l.length := by omega
            have hk3 : k < ls.length := by omega
            rw [List.drop_eq_getElem_cons hk3] at hfk
            obtain ⟨m, a2, hm1, hfa, hfn⟩ := film_step hfk
            have hag := frameM_gt hfa
            have hlk : l[k].f = ls[k] := by
              have := List.getElem_of_eq hl (i := k) (by simpa using hk2)
              simpa using this
            obtain ⟨hb1, hb2, hb3⟩ := frS_mem hk2
            have hok := hol _ (List.getElem_mem hk2)
            have hfl3 := frame_len hfa
            refine Gx.skip fun aa ww hzz => (then_normal (Gx.go hzz ?_))
            refine Gx.seq ?_
            refine Gx.block ?_
            -- region 19
            refine Gx.seq_region ?_
            refine Rx.q rfl (.idx (j := k * 9) rfl rfl (by omega) (by omega)) ?_
            refine Rx.q rfl (.ldsn (us := l[k].c) rfl (frsC_sub l hk2) (by rfl) (by simp)) ?_
            refine Rx.alloc (zs := [.int .i64 0, .int .i64 0, .slice none 0 0, .int .i64 0, .int .i64 0, .slice none 0 0, .int .i64 0, .int .i64 0, .slice none 0 0]) rfl rfl fun b18 => ?_
            refine Rx.stc rfl rfl (by simp only [List.all_cons, List.all_nil, one_int, hok.1, hok.2.1, hok.2.2, Bool.and_true]) (by rfl) ?_
            refine Rx.next ?_
            -- region 20
            refine Gx.seq_region ?_
            refine Rx.q rfl (.move rfl) ?_
            refine Rx.cal (caps := []) (ref38_RFrame b122 s a (by omega) ha) rfl rfl rfl fun v131 L131 hP131 => ?_
            obtain ⟨u131, v131, w131, g3, j3, ok3, rfl, rfl, ⟨hou131, hov131, how131⟩, hj3, hm3⟩ := hP131
            obtain ⟨rfl, rfl, rfl⟩ : ok3 = true ∧ g3 = ls[k] ∧ j3 = a2 := by
              rcases hm3 with ⟨e, h⟩ | ⟨_, h, _⟩
              · rw [hfa] at h
                simp only [Option.some.injEq, Prod.mk.injEq] at h
                exact ⟨e, h.1.symm, h.2.symm⟩
              · rw [hfa] at h; cases h
            refine Rx.q rfl (.move rfl) ?_
            refine Rx.q rfl (.extract rfl rfl) ?_
            refine Rx.q rfl (.extract rfl rfl) ?_
            refine Rx.alloc (zs := [.int .i64 0, .int .i64 0, .slice none 0 0, .int .i64 0, .int .i64 0, .slice none 0 0, .int .i64 0, .int .i64 0, .slice none 0 0]) rfl rfl fun b19 => ?_
            refine Rx.stc rfl rfl (by simp only [List.all_cons, List.all_nil, one_int, hou131, hov131, how131, Bool.and_true]) (by rfl) ?_
            refine Rx.q rfl (.assign rfl) ?_
            refine Rx.next ?_
            -- region 21
            refine Gx.seq_region ?_
            refine Rx.q rfl (.move rfl) ?_
            refine Rx.q rfl (.not rfl) ?_
            refine Rx.q rfl (.move rfl) ?_
            refine Rx.guard_yes rfl rfl rfl (Rx.q rfl (.ldc rfl (by rfl)) ?_)
            refine Rx.guard_yes rfl rfl rfl (Rx.q rfl (.ldc rfl (by rfl)) ?_)
            refine Rx.guard_yes rfl rfl rfl (Rx.q rfl ((OpQ.call (caps := []) (ref24_Same l[k].f ls[k] l[k].u l[k].v l[k].w u131 v131 w131 (by rw [hlk]; exact hfl3)) rfl rfl (.cons (giv_of_bag hb1 fun w F h => rd_of_sl w F h) (.cons (giv_of_bag hb2 fun w F h => rd_of_sl w F h) (.cons (giv_of_bag hb3 fun w F h => rd_of_sl w F h) (.cons RdOf.ok (.cons RdOf.ok (.cons RdOf.ok .nil))))))).val (u := .bool true) (congrArg Value.bool (decide_eq_true hlk))) ?_)
            refine Rx.guard_yes rfl rfl rfl (Rx.q rfl (.not rfl) ?_)
            refine Rx.q rfl (.pick_f rfl rfl) ?_
            refine Rx.next ?_
            refine Gx.cond_f rfl ?_
            refine Gx.skip fun aa ww hzz => (blk_normal (then_normal (Gx.go hzz ?_)))
            -- region 23
            refine Gx.region ?_
            refine Rx.q rfl (.add_ rfl rfl (by omega)) ?_
            refine Rx.q rfl (.move rfl) ?_
            refine Rx.nil fun aa ww hzz => (then_normal ⟨(k + 1, j3), ⟨by show k + 1 ≤ l.length; omega, by show k + 1 ≤ j3; omega, hj3, by show filmM s (s.length + 1 - (k + 1)) j3 = _; rw [show s.length + 1 - (k + 1) = m by omega]; exact hfn⟩, (by show l.length - (k + 1) < l.length - k; omega), hzz.to (.cons rfl (.cons rfl (.cons rfl (.cons rfl (.cons rfl (.cons rfl .nil))))))⟩)
          · -- way
            have h126 := of_decide_eq_false h126
            obtain rfl : k = l.length := by omega
            rw [List.drop_of_length_le (by omega), show s.length + 1 - l.length = (s.length - l.length) + 1 by omega] at hfk
            obtain ⟨hfe, rfl⟩ := film_stop hfk
            refine Gx.exit fun aa ww hzz => (then_exit (then_exit (blk_exit (then_normal (Gx.go hzz ?_)))))
            -- region 24
            refine Gx.seq_region ?_
            refine Rx.q rfl (.move rfl) ?_
            refine Rx.q rfl (.nilCheck rfl) ?_
            refine Rx.q rfl (.fieldAddr rfl) ?_
            refine Rx.q rfl (.ld rfl rfl) ?_
            refine Rx.q rfl (.assign rfl) ?_
            refine Rx.next ?_
            -- region 25
            refine Gx.seq_region ?_
            refine Rx.q rfl (.move rfl) ?_
            refine Rx.cal (caps := []) (ref38_RFrame b122 s K (by omega) ha) rfl rfl rfl fun v149 L149 hP149 => ?_
            obtain ⟨u149, v149, w149, g4, j4, ok4, rfl, rfl, ⟨hou149, hov149, how149⟩, hj4, hm4⟩ := hP149
            obtain rfl : ok4 = false := by
              rcases hm4 with ⟨_, h⟩ | ⟨e, _⟩
              · rw [hfe] at h; cases h
              · exact e
            refine Rx.q rfl (.move rfl) ?_
            refine Rx.q rfl (.extract rfl rfl) ?_
            refine Rx.q rfl (.extract rfl rfl) ?_
            refine Rx.alloc (zs := [.int .i64 0, .int .i64 0, .slice none 0 0, .int .i64 0, .int .i64 0, .slice none 0 0, .int .i64 0, .int .i64 0, .slice none 0 0]) rfl rfl fun b22 => ?_
            refine Rx.stc rfl rfl (by simp only [List.all_cons, List.all_nil, one_int, hou149, hov149, how149, Bool.and_true]) (by rfl) ?_
            refine Rx.q rfl (.assign rfl) ?_
            refine Rx.next ?_
            -- region 26
            refine Gx.seq_region ?_
            refine Rx.q rfl (.move rfl) ?_
            refine Rx.q rfl (.move rfl) ?_
            refine Rx.q rfl ((OpQ.eql rfl rfl).val (u := .bool true) (congrArg Value.bool (decide_eq_true rfl))) ?_
            refine Rx.q rfl (.move rfl) ?_
            refine Rx.guard_yes rfl rfl rfl (Rx.q rfl (.move rfl) ?_)
            refine Rx.guard_yes rfl rfl rfl (Rx.q rfl (.not rfl) ?_)
            refine Rx.q rfl (.pick_t rfl rfl) ?_
            refine Rx.q rfl (.assign rfl) ?_
            refine Rx.next ?_
            refine Gx.ret fun aa ww hzz => (fin_tmp hzz rfl rfl (⟨rfl, rfl⟩))
      · -- way
        subst h86
        have hf5 := hf2 rfl
        refine Rx.guard_no rfl rfl rfl rfl rfl ?_
        refine Rx.guard_no rfl rfl rfl rfl rfl ?_
        refine Rx.guard_no rfl rfl rfl rfl rfl ?_
        refine Rx.guard_no rfl rfl rfl rfl rfl ?_
        refine Rx.guard_no rfl rfl rfl rfl rfl ?_
        refine Rx.guard_no rfl rfl rfl rfl rfl ?_
        refine Rx.guard_no rfl rfl rfl rfl rfl ?_
        refine Rx.q rfl (.pick_f rfl rfl) ?_
        refine Rx.q rfl ((OpQ.neq_b (by kernel_rfl) rfl rfl).val (u := .bool false) (congrArg Value.bool (by rw [hf5]; rfl))) ?_
        refine Rx.q rfl (.move rfl) ?_
        refine Rx.guard_yes rfl rfl rfl (Rx.q rfl (.move rfl) ?_)
        refine Rx.guard_yes rfl rfl rfl (Rx.q rfl (.move rfl) ?_)
        refine Rx.split 98 rfl (fun h98 => ?_) (fun h98 => ?_)
        · -- way
          subst h98
          have hf6 := hf3 rfl
          refine Rx.guard_yes rfl rfl rfl (Rx.q rfl (.ldc rfl (by rfl)) ?_)
          refine Rx.guard_yes rfl rfl rfl (Rx.q rfl (.ldc rfl (by rfl)) ?_)
          refine Rx.guard_yes rfl rfl rfl (Rx.q rfl ((OpQ.cal (caps := []) (ref24_Same F g u73 v73 w73 u81 v81 w81 hfl) rfl rfl).val (u := .bool true) (congrArg Value.bool (decide_eq_true hf6))) ?_)
          refine Rx.guard_yes rfl rfl rfl (Rx.q rfl (.not rfl) ?_)
          refine Rx.guard_yes rfl rfl rfl (Rx.q rfl (.pick_t rfl rfl) ?_)
          refine Rx.q rfl (.pick_f rfl rfl) ?_
          refine Rx.q rfl (.move rfl) ?_
          refine Rx.guard_yes rfl rfl rfl (Rx.q rfl (.move rfl) ?_)
          refine Rx.guard_yes rfl rfl rfl (Rx.q rfl (.not rfl) ?_)
          refine Rx.guard_yes rfl rfl rfl (Rx.q rfl (.move rfl) ?_)
          refine Rx.guard_no rfl rfl rfl rfl rfl ?_
          refine Rx.guard_no rfl rfl rfl rfl rfl ?_
          refine Rx.guard_no rfl rfl rfl rfl rfl ?_
          refine Rx.guard_no rfl rfl rfl rfl rfl ?_
          refine Rx.guard_yes rfl rfl rfl (Rx.q rfl (.pick_f rfl rfl) ?_)
          refine Rx.q rfl (.pick_f rfl rfl) ?_
          refine Rx.next ?_
          refine Gx.cond_f rfl ?_
          refine Gx.skip fun aa ww hzz => (then_normal (Gx.go hzz ?_))
          -- region 15
          refine Gx.seq_region ?_
          refine Rx.q rfl (.move rfl) ?_
          refine Rx.cal (caps := []) (text_ParseFilm s (by omega)) rfl rfl rfl fun v117 L117 hP117 => ?_
          obtain ⟨v117, l, rfl, rfl, hl, hol⟩ := hP117
          obtain ⟨ls, K, hK⟩ : ∃ ls K, parseFilm s = (ls, K) := ⟨_, _, rfl⟩
          rw [hK]
          rw [hK] at hl
          dsimp only at hl ⊢
          have hfm : filmM s (s.length + 1 - 0) 0 = (ls.drop 0, K) := hK
          have hlen : l.length = ls.length := by rw [← hl, List.length_map]
          refine Rx.q rfl (.move rfl) ?_
          refine Rx.q rfl (.extract rfl rfl) ?_
          refine Rx.q rfl (.extract rfl rfl) ?_
          refine Rx.q rfl (.assign rfl) ?_
          refine Rx.q rfl (.assign rfl) ?_
          refine Rx.next ?_
          -- region 16
          refine Gx.seq_region ?_
          refine Rx.q rfl (.move rfl) ?_
          refine Rx.q rfl (.build (cs := [str s, .int .i64 0]) rfl rfl) ?_
          refine Rx.box (vs := [str s, .int .i64 ((0 : Nat) : Int)]) rfl rfl rfl fun b122 => ?_
          refine Rx.q rfl (.assign rfl) ?_
          refine Rx.next ?_
          refine Gx.seq ?_
          -- region 17
          refine Gx.seq_region ?_
          refine Rx.q rfl (.move rfl) ?_
          refine Rx.q rfl (.lens rfl) ?_
          refine Rx.q rfl (.move rfl) ?_
          refine Rx.next ?_
          refine Gx.block ?_
          refine Gx.lp (α := Nat × Nat) (fun x => x.1 ≤ l.length ∧ x.1 ≤ x.2 ∧ x.2 ≤ s.length ∧ filmM s (s.length + 1 - x.1) x.2 = (ls.drop x.1, K)) (fun x => l.length - x.1) (fun x => [(0, str s), (15, .int .i64 K), (16, .pointer (some ⟨b122, 0, none⟩)), (123, v117), (124, .int .i64 l.length), (125, .int .i64 x.1)])
            (fun x => [rdr b122 s x.2, sl 40 9 v117 l.length (frsC l), bag (frS l)]) ((0, 0)) (⟨Nat.zero_le _, Nat.le_refl _, Nat.zero_le _, hfm⟩) ?_ (fun x hx => ?_)
          · exact (.cons rfl (.cons rfl (.cons rfl (.cons rfl (.cons rfl (.cons rfl .nil))))))
          obtain ⟨k, a⟩ := x
          obtain ⟨hk, hka, ha, hfk⟩ := hx
          simp only at hk hka ha hfk ⊢
          -- region 18
          refine Gx.seq_region ?_
          refine Rx.q rfl (.lss rfl rfl) ?_
          refine Rx.next ?_
          refine Gx.seq ?_
          refine Gx.cond rfl (fun h126 => ?_) (fun h126 => ?_)
          · -- way
            have h126 := of_decide_eq_true h126
            have hk2 : k < l.length := by omega
            have hk3 : k < ls.length := by omega
            rw [List.drop_eq_getElem_cons hk3] at hfk
            obtain ⟨m, a2, hm1, hfa, hfn⟩ := film_step hfk
            have hag := frameM_gt hfa
            have hlk : l[k].f = ls[k] := by
              have := List.getElem_of_eq hl (i := k) (by simpa using hk2)
              simpa using this
            obtain ⟨hb1, hb2, hb3⟩ := frS_mem hk2
            have hok := hol _ (List.getElem_mem hk2)
            have hfl3 := frame_len hfa
            refine Gx.skip fun aa ww hzz => (then_normal (Gx.go hzz ?_))
            refine Gx.seq ?_
            refine Gx.block ?_
            -- region 19
            refine Gx.seq_region ?_
            refine Rx.q rfl (.idx (j := k * 9) rfl rfl (by omega) (by omega)) ?_
            refine Rx.q rfl (.ldsn (us := l[k].c) rfl (frsC_sub l hk2) (by rfl) (by simp)) ?_
            refine Rx.alloc (zs := [.int .i64 0, .int .i64 0, .slice none 0 0, .int .i64 0, .int .i64 0, .slice none 0 0, .int .i64 0, .int .i64 0, .slice none 0 0]) rfl rfl fun b18 => ?_
            refine Rx.stc rfl rfl (by simp only [List.all_cons, List.all_nil, one_int, hok.1, hok.2.1, hok.2.2, Bool.and_true]) (by rfl) ?_
            refine Rx.next ?_
            -- region 20
            refine Gx.seq_region ?_
            refine Rx.q rfl (.move rfl) ?_
            refine Rx.cal (caps := []) (ref38_RFrame b122 s a (by omega) ha) rfl rfl rfl fun v131 L131 hP131 => ?_
            obtain ⟨u131, v131, w131, g3, j3, ok3, rfl, rfl, ⟨hou131, hov131, how131⟩, hj3, hm3⟩ := hP131
            obtain ⟨rfl, rfl, rfl⟩ : ok3 = true ∧ g3 = ls[k] ∧ j3 = a2 := by
              rcases hm3 with ⟨e, h⟩ | ⟨_, h, _⟩
              · rw [hfa] at h
                simp only [Option.some.injEq, Prod.mk.injEq] at h
                exact ⟨e, h.1.symm, h.2.symm⟩
              · rw [hfa] at h; cases h
            refine Rx.q rfl (.move rfl) ?_
            refine Rx.q rfl (.extract rfl rfl) ?_
            refine Rx.q rfl (.extract rfl rfl) ?_
            refine Rx.alloc (zs := [.int .i64 0, .int .i64 0, .slice none 0 0, .int .i64 0, .int .i64 0, .slice none 0 0, .int .i64 0, .int .i64 0, .slice none 0 0]) rfl rfl fun b19 => ?_
            refine Rx.stc rfl rfl (by simp only [List.all_cons, List.all_nil, one_int, hou131, hov131, how131, Bool.and_true]) (by rfl) ?_
            refine Rx.q rfl (.assign rfl) ?_
            refine Rx.next ?_
            -- region 21
            refine Gx.seq_region ?_
            refine Rx.q rfl (.move rfl) ?_
            refine Rx.q rfl (.not rfl) ?_
            refine Rx.q rfl (.move rfl) ?_
            refine Rx.guard_yes rfl rfl rfl (Rx.q rfl (.ldc rfl (by rfl)) ?_)
            refine Rx.guard_yes rfl rfl rfl (Rx.q rfl (.ldc rfl (by rfl)) ?_)
            refine Rx.guard_yes rfl rfl rfl (Rx.q rfl ((OpQ.call (caps := []) (ref24_Same l[k].f ls[k] l[k].u l[k].v l[k].w u131 v131 w131 (by rw [hlk]; exact hfl3)) rfl rfl (.cons (giv_of_bag hb1 fun w F h => rd_of_sl w F h) (.cons (giv_of_bag hb2 fun w F h => rd_of_sl w F h) (.cons (giv_of_bag hb3 fun w F h => rd_of_sl w F h) (.cons RdOf.ok (.cons RdOf.ok (.cons RdOf.ok .nil))))))).val (u := .bool true) (congrArg Value.bool (decide_eq_true hlk))) ?_)
            refine Rx.guard_yes rfl rfl rfl (Rx.q rfl (.not rfl) ?_)
            refine Rx.q rfl (.pick_f rfl rfl) ?_
            refine Rx.next ?_
            refine Gx.cond_f rfl ?_
            refine Gx.skip fun aa ww hzz => (blk_normal (then_normal (Gx.go hzz ?_)))
            -- region 23
            refine Gx.region ?_
            refine Rx.q rfl (.add_ rfl rfl (by omega)) ?_
            refine Rx.q rfl (.move rfl) ?_
            refine Rx.nil fun aa ww hzz => (then_normal ⟨(k + 1, j3), ⟨by show k + 1 ≤ l.length; omega, by show k + 1 ≤ j3; omega, hj3, by show filmM s (s.length + 1 - (k + 1)) j3 = _; rw [show s.length + 1 - (k + 1) = m by omega]; exact hfn⟩, (by show l.length - (k + 1) < l.length - k; omega), hzz.to (.cons rfl (.cons rfl (.cons rfl (.cons rfl (.cons rfl (.cons rfl .nil))))))⟩)
          · -- way
            have h126 := of_decide_eq_false h126
            obtain rfl : k = l.length := by omega
            rw [List.drop_of_length_le (by omega), show s.length + 1 - l.length = (s.length - l.length) + 1 by omega] at hfk
            obtain ⟨hfe, rfl⟩ := film_stop hfk
            refine Gx.exit fun aa ww hzz => (then_exit (then_exit (blk_exit (then_normal (Gx.go hzz ?_)))))
            -- region 24
            refine Gx.seq_region ?_
            refine Rx.q rfl (.move rfl) ?_
            refine Rx.q rfl (.nilCheck rfl) ?_
            refine Rx.q rfl (.fieldAddr rfl) ?_
            refine Rx.q rfl (.ld rfl rfl) ?_
            refine Rx.q rfl (.assign rfl) ?_
            refine Rx.next ?_
            -- region 25
            refine Gx.seq_region ?_
            refine Rx.q rfl (.move rfl) ?_
            refine Rx.cal (caps := []) (ref38_RFrame b122 s K (by omega) ha) rfl rfl rfl fun v149 L149 hP149 => ?_
            obtain ⟨u149, v149, w149, g4, j4, ok4, rfl, rfl, ⟨hou149, hov149, how149⟩, hj4, hm4⟩ := hP149
            obtain rfl : ok4 = false := by
              rcases hm4 with ⟨_, h⟩ | ⟨e, _⟩
              · rw [hfe] at h; cases h
              · exact e
            refine Rx.q rfl (.move rfl) ?_
            refine Rx.q rfl (.extract rfl rfl) ?_
            refine Rx.q rfl (.extract rfl rfl) ?_
            refine Rx.alloc (zs := [.int .i64 0, .int .i64 0, .slice none 0 0, .int .i64 0, .int .i64 0, .slice none 0 0, .int .i64 0, .int .i64 0, .slice none 0 0]) rfl rfl fun b22 => ?_
            refine Rx.stc rfl rfl (by simp only [List.all_cons, List.all_nil, one_int, hou149, hov149, how149, Bool.and_true]) (by rfl) ?_
            refine Rx.q rfl (.assign rfl) ?_
            refine Rx.next ?_
            -- region 26
            refine Gx.seq_region ?_
            refine Rx.q rfl (.move rfl) ?_
            refine Rx.q rfl (.move rfl) ?_
            refine Rx.q rfl ((OpQ.eql rfl rfl).val (u := .bool true) (congrArg Value.bool (decide_eq_true rfl))) ?_
            refine Rx.q rfl (.move rfl) ?_
            refine Rx.guard_yes rfl rfl rfl (Rx.q rfl (.move rfl) ?_)
            refine Rx.guard_yes rfl rfl rfl (Rx.q rfl (.not rfl) ?_)
            refine Rx.q rfl (.pick_t rfl rfl) ?_
            refine Rx.q rfl (.assign rfl) ?_
            refine Rx.next ?_
            refine Gx.ret fun aa ww hzz => (fin_tmp hzz rfl rfl (⟨rfl, rfl⟩))
        · -- way
          subst h98
          have hf6 := hf4 rfl
          refine Rx.guard_no rfl rfl rfl rfl rfl ?_
          refine Rx.guard_no rfl rfl rfl rfl rfl ?_
          refine Rx.guard_no rfl rfl rfl rfl rfl ?_
          refine Rx.guard_no rfl rfl rfl rfl rfl ?_
          refine Rx.guard_yes rfl rfl rfl (Rx.q rfl (.pick_f rfl rfl) ?_)
          refine Rx.q rfl (.pick_f rfl rfl) ?_
          refine Rx.q rfl (.move rfl) ?_
          refine Rx.guard_yes rfl rfl rfl (Rx.q rfl (.move rfl) ?_)
          refine Rx.guard_yes rfl rfl rfl (Rx.q rfl (.not rfl) ?_)
          refine Rx.guard_yes rfl rfl rfl (Rx.q rfl (.move rfl) ?_)
          refine Rx.guard_yes rfl rfl rfl (Rx.q rfl (.ldc rfl (by rfl)) ?_)
          refine Rx.guard_yes rfl rfl rfl (Rx.q rfl (.build (cs := frC zeroF (.slice none 0 0) (.slice none 0 0) (.slice none 0 0)) rfl rfl) ?_)
          refine Rx.guard_yes rfl rfl rfl (Rx.q rfl ((OpQ.call (caps := []) (ref24_Same F zeroF u73 v73 w73 (.slice none 0 0) (.slice none 0 0) (.slice none 0 0) hfl) rfl rfl (.cons RdOf.ok (.cons RdOf.ok (.cons RdOf.ok (.cons giv_zero (.cons giv_zero (.cons giv_zero .nil))))))).val (u := .bool true) (congrArg Value.bool (decide_eq_true hf6))) ?_)
          refine Rx.guard_yes rfl rfl rfl (Rx.q rfl (.not rfl) ?_)
          refine Rx.guard_yes rfl rfl rfl (Rx.q rfl (.pick_t rfl rfl) ?_)
          refine Rx.q rfl (.pick_f rfl rfl) ?_
          refine Rx.next ?_
          refine Gx.cond_f rfl ?_
          refine Gx.skip fun aa ww hzz => (then_normal (Gx.go hzz ?_))
          -- region 15
          refine Gx.seq_region ?_
          refine Rx.q rfl (.move rfl) ?_
          refine Rx.cal (caps := []) (text_ParseFilm s (by omega)) rfl rfl rfl fun v117 L117 hP117 => ?_
          obtain ⟨v117, l, rfl, rfl, hl, hol⟩ := hP117
          obtain ⟨ls, K, hK⟩ : ∃ ls K, parseFilm s = (ls, K) := ⟨_, _, rfl⟩
          rw [hK]
          rw [hK] at hl
          dsimp only at hl ⊢
          have hfm : filmM s (s.length + 1 - 0) 0 = (ls.drop 0, K) := hK
          have hlen : l.length = ls.length := by rw [← hl, List.length_map]
          refine Rx.q rfl (.move rfl) ?_
          refine Rx.q rfl (.extract rfl rfl) ?_
          refine Rx.q rfl (.extract rfl rfl) ?_
          refine Rx.q rfl (.assign rfl) ?_
          refine Rx.q rfl (.assign rfl) ?_
          refine Rx.next ?_
          -- region 16
          refine Gx.seq_region ?_
          refine Rx.q rfl (.move rfl) ?_
          refine Rx.q rfl (.build (cs := [str s, .int .i64 0]) rfl rfl) ?_
          refine Rx.box (vs := [str s, .int .i64 ((0 : Nat) : Int)]) rfl rfl rfl fun b122 => ?_
          refine Rx.q rfl (.assign rfl) ?_
          refine Rx.next ?_
          refine Gx.seq ?_
          -- region 17
          refine Gx.seq_region ?_
          refine Rx.q rfl (.move rfl) ?_
          refine Rx.q rfl (.lens rfl) ?_
          refine Rx.q rfl (.move rfl) ?_
          refine Rx.next ?_
          refine Gx.block ?_
          refine Gx.lp (α := Nat × Nat) (fun x => x.1 ≤ l.length ∧ x.1 ≤ x.2 ∧ x.2 ≤ s.length ∧ filmM s (s.length + 1 - x.1) x.2 = (ls.drop x.1, K)) (fun x => l.length - x.1) (fun x => [(0, str s), (15, .int .i64 K), (16, .pointer (some ⟨b122, 0, none⟩)), (123, v117), (124, .int .i64 l.length), (125, .int .i64 x.1)])
            (fun x => [rdr b122 s x.2, sl 40 9 v117 l.length (frsC l), bag (frS l)]) ((0, 0)) (⟨Nat.zero_le _, Nat.le_refl _, Nat.zero_le _, hfm⟩) ?_ (fun x hx => ?_)
          · exact (.cons rfl (.cons rfl (.cons rfl (.cons rfl (.cons rfl (.cons rfl .nil))))))
          obtain ⟨k, a⟩ := x
          obtain ⟨hk, hka, ha, hfk⟩ := hx
          simp only at hk hka ha hfk ⊢
          -- region 18
          refine Gx.seq_region ?_
          refine Rx.q rfl (.lss rfl rfl) ?_
          refine Rx.next ?_
          refine Gx.seq ?_
          refine Gx.cond rfl (fun h126 => ?_) (fun h126 => ?_)
          · -- way
            have h126 := of_decide_eq_true h126
            have hk2 : k < l.length := by omega
            have hk3 : k < ls.length := by omega
            rw [List.drop_eq_getElem_cons hk3] at hfk
            obtain ⟨m, a2, hm1, hfa, hfn⟩ := film_step hfk
            have hag := frameM_gt hfa
            have hlk : l[k].f = ls[k] := by
              have := List.getElem_of_eq hl (i := k) (by simpa using hk2)
              simpa using this
            obtain ⟨hb1, hb2, hb3⟩ := frS_mem hk2
            have hok := hol _ (List.getElem_mem hk2)
            have hfl3 := frame_len hfa
            refine Gx.skip fun aa ww hzz => (then_normal (Gx.go hzz ?_))
            refine Gx.seq ?_
            refine Gx.block ?_
            -- region 19
            refine Gx.seq_region ?_
            refine Rx.q rfl (.idx (j := k * 9) rfl rfl (by omega) (by omega)) ?_
            refine Rx.q rfl (.ldsn (us := l[k].c) rfl (frsC_sub l hk2) (by rfl) (by simp)) ?_
            refine Rx.alloc (zs := [.int .i64 0, .int .i64 0, .slice none 0 0, .int .i64 0, .int .i64 0, .slice none 0 0, .int .i64 0, .int .i64 0, .slice none 0 0]) rfl rfl fun b18 => ?_
            refine Rx.stc rfl rfl (by simp only [List.all_cons, List.all_nil, one_int, hok.1, hok.2.1, hok.2.2, Bool.and_true]) (by rfl) ?_
            refine Rx.next ?_
            -- region 20
            refine Gx.seq_region ?_
            refine Rx.q rfl (.move rfl) ?_
            refine Rx.cal (caps := []) (ref38_RFrame b122 s a (by omega) ha) rfl rfl rfl fun v131 L131 hP131 => ?_
            obtain ⟨u131, v131, w131, g3, j3, ok3, rfl, rfl, ⟨hou131, hov131, how131⟩, hj3, hm3⟩ := hP131
            obtain ⟨rfl, rfl, rfl⟩ : ok3 = true ∧ g3 = ls[k] ∧ j3 = a2 := by
              rcases hm3 with ⟨e, h⟩ | ⟨_, h, _⟩
              · rw [hfa] at h
                simp only [Option.some.injEq, Prod.mk.injEq] at h
                exact ⟨e, h.1.symm, h.2.symm⟩
              · rw [hfa] at h; cases h
            refine Rx.q rfl (.move rfl) ?_
            refine Rx.q rfl (.extract rfl rfl) ?_
            refine Rx.q rfl (.extract rfl rfl) ?_
            refine Rx.alloc (zs := [.int .i64 0, .int .i64 0, .slice none 0 0, .int .i64 0, .int .i64 0, .slice none 0 0, .int .i64 0, .int .i64 0, .slice none 0 0]) rfl rfl fun b19 => ?_
            refine Rx.stc rfl rfl (by simp only [List.all_cons, List.all_nil, one_int, hou131, hov131, how131, Bool.and_true]) (by rfl) ?_
            refine Rx.q rfl (.assign rfl) ?_
            refine Rx.next ?_
            -- region 21
            refine Gx.seq_region ?_
            refine Rx.q rfl (.move rfl) ?_
            refine Rx.q rfl (.not rfl) ?_
            refine Rx.q rfl (.move rfl) ?_
            refine Rx.guard_yes rfl rfl rfl (Rx.q rfl (.ldc rfl (by rfl)) ?_)
            refine Rx.guard_yes rfl rfl rfl (Rx.q rfl (.ldc rfl (by rfl)) ?_)
            refine Rx.guard_yes rfl rfl rfl (Rx.q rfl ((OpQ.call (caps := []) (ref24_Same l[k].f ls[k] l[k].u l[k].v l[k].w u131 v131 w131 (by rw [hlk]; exact hfl3)) rfl rfl (.cons (giv_of_bag hb1 fun w F h => rd_of_sl w F h) (.cons (giv_of_bag hb2 fun w F h => rd_of_sl w F h) (.cons (giv_of_bag hb3 fun w F h => rd_of_sl w F h) (.cons RdOf.ok (.cons RdOf.ok (.cons RdOf.ok .nil))))))).val (u := .bool true) (congrArg Value.bool (decide_eq_true hlk))) ?_)
            refine Rx.guard_yes rfl rfl rfl (Rx.q rfl (.not rfl) ?_)
            refine Rx.q rfl (.pick_f rfl rfl) ?_
            refine Rx.next ?_
            refine Gx.cond_f rfl ?_
            refine Gx.skip fun aa ww hzz => (blk_normal (then_normal (Gx.go hzz ?_)))
            -- region 23
            refine Gx.region ?_
            refine Rx.q rfl (.add_ rfl rfl (by omega)) ?_
            refine Rx.q rfl (.move rfl) ?_
            refine Rx.nil fun aa ww hzz => (then_normal ⟨(k + 1, j3), ⟨by show k + 1 ≤ l.length; omega, by show k + 1 ≤ j3; omega, hj3, by show filmM s (s.length + 1 - (k + 1)) j3 = _; rw [show s.length + 1 - (k + 1) = m by omega]; exact hfn⟩, (by show l.length - (k + 1) < l.length - k; omega), hzz.to (.cons rfl (.cons rfl (.cons rfl (.cons rfl (.cons rfl (.cons rfl .nil))))))⟩)
          · -- way
            have h126 := of_decide_eq_false h126
            obtain rfl : k = l.length := by omega
            rw [List.drop_of_length_le (by omega), show s.length + 1 - l.length = (s.length - l.length) + 1 by omega] at hfk
            obtain ⟨hfe, rfl⟩ := film_stop hfk
            refine Gx.exit fun aa ww hzz => (then_exit (then_exit (blk_exit (then_normal (Gx.go hzz ?_)))))
            -- region 24
            refine Gx.seq_region ?_
            refine Rx.q rfl (.move rfl) ?_
            refine Rx.q rfl (.nilCheck rfl) ?_
            refine Rx.q rfl (.fieldAddr rfl) ?_
            refine Rx.q rfl (.ld rfl rfl) ?_
            refine Rx.q rfl (.assign rfl) ?_
            refine Rx.next ?_
            -- region 25
            refine Gx.seq_region ?_
            refine Rx.q rfl (.move rfl) ?_
            refine Rx.cal (caps := []) (ref38_RFrame b122 s K (by omega) ha) rfl rfl rfl fun v149 L149 hP149 => ?_
            obtain ⟨u149, v149, w149, g4, j4, ok4, rfl, rfl, ⟨hou149, hov149, how149⟩, hj4, hm4⟩ := hP149
            obtain rfl : ok4 = false := by
              rcases hm4 with ⟨_, h⟩ | ⟨e, _⟩
              · rw [hfe] at h; cases h
              · exact e
            refine Rx.q rfl (.move rfl) ?_
            refine Rx.q rfl (.extract rfl rfl) ?_
            refine Rx.q rfl (.extract rfl rfl) ?_
            refine Rx.alloc (zs := [.int .i64 0, .int .i64 0, .slice none 0 0, .int .i64 0, .int .i64 0, .slice none 0 0, .int .i64 0, .int .i64 0, .slice none 0 0]) rfl rfl fun b22 => ?_
            refine Rx.stc rfl rfl (by simp only [List.all_cons, List.all_nil, one_int, hou149, hov149, how149, Bool.and_true]) (by rfl) ?_
            refine Rx.q rfl (.assign rfl) ?_
            refine Rx.next ?_
            -- region 26
            refine Gx.seq_region ?_
            refine Rx.q rfl (.move rfl) ?_
            refine Rx.q rfl (.move rfl) ?_
            refine Rx.q rfl ((OpQ.eql rfl rfl).val (u := .bool true) (congrArg Value.bool (decide_eq_true rfl))) ?_
            refine Rx.q rfl (.move rfl) ?_
            refine Rx.guard_yes rfl rfl rfl (Rx.q rfl (.move rfl) ?_)
            refine Rx.guard_yes rfl rfl rfl (Rx.q rfl (.not rfl) ?_)
            refine Rx.q rfl (.pick_t rfl rfl) ?_
            refine Rx.q rfl (.assign rfl) ?_
            refine Rx.next ?_
            refine Gx.ret fun aa ww hzz => (fin_tmp hzz rfl rfl (⟨rfl, rfl⟩))
    · -- way
      subst h54
      have hn2 := hn0 rfl
      refine Rx.guard_no rfl rfl rfl rfl rfl ?_
      refine Rx.guard_no rfl rfl rfl rfl rfl ?_
      refine Rx.guard_no rfl rfl rfl rfl rfl ?_
      refine Rx.guard_no rfl rfl rfl rfl rfl ?_
      refine Rx.guard_no rfl rfl rfl rfl rfl ?_
      refine Rx.guard_no rfl rfl rfl rfl rfl ?_
      refine Rx.guard_yes rfl rfl rfl (Rx.q rfl (.pick_f rfl rfl) ?_)
      refine Rx.q rfl (.pick_f rfl rfl) ?_
      refine Rx.q rfl (.move rfl) ?_
      refine Rx.guard_yes rfl rfl rfl (Rx.q rfl (.move rfl) ?_)
      refine Rx.guard_yes rfl rfl rfl (Rx.q rfl (.not rfl) ?_)
      refine Rx.guard_yes rfl rfl rfl (Rx.q rfl (.move rfl) ?_)
      refine Rx.guard_yes rfl rfl rfl (Rx.q rfl (.move rfl) ?_)
      refine Rx.guard_yes rfl rfl rfl (Rx.q rfl ((OpQ.neq rfl rfl).val (u := .bool false) (congrArg Value.bool (decide_eq_false (by rw [hn2]; simp)))) ?_)
      refine Rx.guard_yes rfl rfl rfl (Rx.q rfl (.pick_t rfl rfl) ?_)
      refine Rx.q rfl (.pick_f rfl rfl) ?_
      refine Rx.next ?_
      refine Gx.cond_f rfl ?_
      refine Gx.skip fun aa ww hzz => (then_normal (Gx.go hzz ?_))
      -- region 10
      refine Gx.seq_region ?_
      refine Rx.q rfl (.move rfl) ?_
      refine Rx.cal (caps := []) (text_ParseFrame s (by omega)) rfl rfl rfl fun v73 L73 hP73 => ?_
      obtain ⟨u73, v73, w73, rfl, rfl, hou73, hov73, how73⟩ := hP73
      obtain ⟨F, gd, hF⟩ : ∃ F gd, parseFrame s = (F, gd) := ⟨_, _, rfl⟩
      rw [hF]
      dsimp only
      refine Rx.q rfl (.move rfl) ?_
      refine Rx.q rfl (.extract rfl rfl) ?_
      refine Rx.q rfl (.extract rfl rfl) ?_
      refine Rx.alloc (zs := [.int .i64 0, .int .i64 0, .slice none 0 0, .int .i64 0, .int .i64 0, .slice none 0 0, .int .i64 0, .int .i64 0, .slice none 0 0]) rfl rfl fun b9 => ?_
      refine Rx.stc rfl rfl (by first | rfl | simp only [List.all_cons, List.all_nil, one_int, one_bool, one_str, one_ptr, one_slice, one_func, Bool.and_true, Bool.true_and, *]) (by rfl) ?_
      refine Rx.q rfl (.assign rfl) ?_
      refine Rx.next ?_
      -- region 11
      refine Gx.seq_region ?_
      refine Rx.q rfl (.move rfl) ?_
      refine Rx.q rfl (.build (cs := [str s, .int .i64 0]) rfl rfl) ?_
      refine Rx.box (vs := [str s, .int .i64 ((0 : Nat) : Int)]) rfl rfl rfl fun b78 => ?_
      refine Rx.q rfl (.assign rfl) ?_
      refine Rx.next ?_
      -- region 12
      refine Gx.seq_region ?_
      refine Rx.q rfl (.move rfl) ?_
      refine Rx.cal (caps := []) (ref38_RFrame b78 s 0 (by omega) (Nat.zero_le _)) rfl rfl rfl fun v81 L81 hP81 => ?_
      obtain ⟨u81, v81, w81, g, j2, may, rfl, rfl, ⟨hou81, hov81, how81⟩, hj2, hm2⟩ := hP81
      have hfr : (may = true → gd = decide ((j2 : Int) = s.length)) ∧ (may = false → gd = false) ∧ (gd = true → F = g) ∧ (gd = false → F = zeroF) ∧ (F.a.l.length ≤ 1099511627776 ∧ F.b.l.length ≤ 1099511627776 ∧ F.c.l.length ≤ 1099511627776) := by
        have hz : zeroF.a.l.length ≤ 1099511627776 ∧ zeroF.b.l.length ≤ 1099511627776 ∧ zeroF.c.l.length ≤ 1099511627776 := ⟨Nat.zero_le _, Nat.zero_le _, Nat.zero_le _⟩
        rcases hm2 with ⟨rfl, h⟩ | ⟨rfl, h, rfl⟩
        · have h2 := hF
          rw [parseFrame, h] at h2
          simp only at h2
          split at h2
          · rename_i e
            simp only [Prod.mk.injEq] at h2
            obtain ⟨rfl, rfl⟩ := h2
            exact ⟨fun _ => (decide_eq_true (by rw [e])).symm, (fun e => by cases e), fun _ => rfl, (fun e => by cases e), frame_len h⟩
          · rename_i e
            simp only [Prod.mk.injEq] at h2
            obtain ⟨rfl, rfl⟩ := h2
            exact ⟨fun _ => (decide_eq_false (by omega)).symm, (fun e => by cases e), (fun e => by cases e), fun _ => rfl, hz⟩
        · have h2 := hF
          rw [parseFrame, h] at h2
          simp only [Prod.mk.injEq] at h2
          obtain ⟨rfl, rfl⟩ := h2
          exact ⟨(fun e => by cases e), fun _ => rfl, fun _ => rfl, fun _ => rfl, hz⟩
      obtain ⟨hf1, hf2, hf3, hf4, hfl⟩ := hfr
      refine Rx.q rfl (.move rfl) ?_
      refine Rx.q rfl (.extract rfl rfl) ?_
      refine Rx.q rfl (.extract rfl rfl) ?_
      refine Rx.alloc (zs := [.int .i64 0, .int .i64 0, .slice none 0 0, .int .i64 0, .int .i64 0, .slice none 0 0, .int .i64 0, .int .i64 0, .slice none 0 0]) rfl rfl fun b12 => ?_
      refine Rx.stc rfl rfl (by first | rfl | simp only [List.all_cons, List.all_nil, one_int, one_bool, one_str, one_ptr, one_slice, one_func, Bool.and_true, Bool.true_and, *]) (by rfl) ?_
      refine Rx.q rfl (.assign rfl) ?_
      refine Rx.next ?_
      refine Gx.seq ?_
      -- region 13
      refine Gx.nilS (e := 3) (sz := 1) ?_
      refine Gx.seq_region ?_
      refine Rx.q rfl (.move rfl) ?_
      refine Rx.q rfl (.move rfl) ?_
      refine Rx.q rfl (.move rfl) ?_
      refine Rx.split 86 rfl (fun h86 => ?_) (fun h86 => ?_)
      · -- way
        subst h86
        have hf5 := hf1 rfl
        refine Rx.guard_yes rfl rfl rfl (Rx.q rfl (.move rfl) ?_)
        refine Rx.guard_yes rfl rfl rfl (Rx.q rfl (.nilCheck rfl) ?_)
        refine Rx.guard_yes rfl rfl rfl (Rx.q rfl (.fieldAddr rfl) ?_)
        refine Rx.guard_yes rfl rfl rfl (Rx.q rfl (.ld rfl rfl) ?_)
        refine Rx.guard_yes rfl rfl rfl (Rx.q rfl (.move rfl) ?_)
        refine Rx.guard_yes rfl rfl rfl (Rx.q rfl (.len_s rfl) ?_)
        refine Rx.guard_yes rfl rfl rfl (Rx.q rfl (.eql rfl rfl) ?_)
        refine Rx.q rfl (.pick_t rfl rfl) ?_
        refine Rx.q rfl ((OpQ.neq_b (by kernel_rfl) rfl rfl).val (u := .bool false) (congrArg Value.bool (by rw [hf5]; simp))) ?_
        refine Rx.q rfl (.move rfl) ?_
        refine Rx.guard_yes rfl rfl rfl (Rx.q rfl (.move rfl) ?_)
        refine Rx.guard_yes rfl rfl rfl (Rx.q rfl (.move rfl) ?_)
        refine Rx.split 98 rfl (fun h98 => ?_) (fun h98 => ?_)
        · -- way
          subst h98
          have hf6 := hf3 rfl
          refine Rx.guard_yes rfl rfl rfl (Rx.q rfl (.ldc rfl (by rfl)) ?_)
          refine Rx.guard_yes rfl rfl rfl (Rx.q rfl (.ldc rfl (by rfl)) ?_)
          refine Rx.guard_yes rfl rfl rfl (Rx.q rfl ((OpQ.cal (caps := []) (ref24_Same F g u73 v73 w73 u81 v81 w81 hfl) rfl rfl).val (u := .bool true) (congrArg Value.bool (decide_eq_true hf6))) ?_)
          refine Rx.guard_yes rfl rfl rfl (Rx.q rfl (.not rfl) ?_)
          refine Rx.guard_yes rfl rfl rfl (Rx.q rfl (.pick_t rfl rfl) ?_)
          refine Rx.q rfl (.pick_f rfl rfl) ?_
          refine Rx.q rfl (.move rfl) ?_
          refine Rx.guard_yes rfl rfl rfl (Rx.q rfl (.move rfl) ?_)
          refine Rx.guard_yes rfl rfl rfl (Rx.q rfl (.not rfl) ?_)
          refine Rx.guard_yes rfl rfl rfl (Rx.q rfl (.move rfl) ?_)
          refine Rx.guard_no rfl rfl rfl rfl rfl ?_
          refine Rx.guard_no rfl rfl rfl rfl rfl ?_
          refine Rx.guard_no rfl rfl rfl rfl rfl ?_
          refine Rx.guard_no rfl rfl rfl rfl rfl ?_
          refine Rx.guard_yes rfl rfl rfl (Rx.q rfl (.pick_f rfl rfl) ?_)
          refine Rx.q rfl (.pick_f rfl rfl) ?_
          refine Rx.next ?_
          refine Gx.cond_f rfl ?_
          refine Gx.skip fun aa ww hzz => (then_normal (Gx.go hzz ?_))
          -- region 15
          refine Gx.seq_region ?_
          refine Rx.q rfl (.move rfl) ?_
          refine Rx.cal (caps := []) (text_ParseFilm s (by omega)) rfl rfl rfl fun v117 L117 hP117 => ?_
          obtain ⟨v117, l, rfl, rfl, hl, hol⟩ := hP117
          obtain ⟨ls, K, hK⟩ : ∃ ls K, parseFilm s = (ls, K) := ⟨_, _, rfl⟩
          rw [hK]
          rw [hK] at hl
          dsimp only at hl ⊢
          have hfm : filmM s (s.length + 1 - 0) 0 = (ls.drop 0, K) := hK
          have hlen : l.length = ls.length := by rw [← hl, List.length_map]
          refine Rx.q rfl (.move rfl) ?_
          refine Rx.q rfl (.extract rfl rfl) ?_
          refine Rx.q rfl (.extract rfl rfl) ?_
          refine Rx.q rfl (.assign rfl) ?_
          refine Rx.q rfl (.assign rfl) ?_
          refine Rx.next ?_
          -- region 16
          refine Gx.seq_region ?_
          refine Rx.q rfl (.move rfl) ?_
          refine Rx.q rfl (.build (cs := [str s, .int .i64 0]) rfl rfl) ?_
          refine Rx.box (vs := [str s, .int .i64 ((0 : Nat) : Int)]) rfl rfl rfl fun b122 => ?_
          refine Rx.q rfl (.assign rfl) ?_
          refine Rx.next ?_
          refine Gx.seq ?_
          -- region 17
          refine Gx.seq_region ?_
          refine Rx.q rfl (.move rfl) ?_
          refine Rx.q rfl (.lens rfl) ?_
          refine Rx.q rfl (.move rfl) ?_
          refine Rx.next ?_
          refine Gx.block ?_
          refine Gx.lp (α := Nat × Nat) (fun x => x.1 ≤ l.length ∧ x.1 ≤ x.2 ∧ x.2 ≤ s.length ∧ filmM s (s.length + 1 - x.1) x.2 = (ls.drop x.1, K)) (fun x => l.length - x.1) (fun x => [(0, str s), (15, .int .i64 K), (16, .pointer (some ⟨b122, 0, none⟩)), (123, v117), (124, .int .i64 l.length), (125, .int .i64 x.1)])
            (fun x => [rdr b122 s x.2, sl 40 9 v117 l.length (frsC l), bag (frS l)]) ((0, 0)) (⟨Nat.zero_le _, Nat.le_refl _, Nat.zero_le _, hfm⟩) ?_ (fun x hx => ?_)
          · exact (.cons rfl (.cons rfl (.cons rfl (.cons rfl (.cons rfl (.cons rfl .nil))))))
          obtain ⟨k, a⟩ := x
          obtain ⟨hk, hka, ha, hfk⟩ := hx
          simp only at hk hka ha hfk ⊢
          -- region 18
          refine Gx.seq_region ?_
          refine Rx.q rfl (.lss rfl rfl) ?_
          refine Rx.next ?_
          refine Gx.seq ?_
          refine Gx.cond rfl (fun h126 => ?_) (fun h126 => ?_)
          · -- way
            have h126 := of_decide_eq_true h126
            have hk2 : k < l.length := by omega
            have hk3 : k < ls.length := by omega
            rw [List.drop_eq_getElem_cons hk3] at hfk
            obtain ⟨m, a2, hm1, hfa, hfn⟩ := film_step hfk
            have hag := frameM_gt hfa
            have hlk : l[k].f = ls[k] := by
              have := List.getElem_of_eq hl (i := k) (by simpa using hk2)
              simpa using this
            obtain ⟨hb1, hb2, hb3⟩ := frS_mem hk2
            have hok := hol _ (List.getElem_mem hk2)
            have hfl3 := frame_len hfa
            refine Gx.skip fun aa ww hzz => (then_normal (Gx.go hzz ?_))
            refine Gx.seq ?_
            refine Gx.block ?_
            -- region 19
            refine Gx.seq_region ?_
            refine Rx.q rfl (.idx (j := k * 9) rfl rfl (by omega) (by omega)) ?_
            refine Rx.q rfl (.ldsn (us := l[k].c) rfl (frsC_sub l hk2) (by rfl) (by simp)) ?_
            refine Rx.alloc (zs := [.int .i64 0, .int .i64 0, .slice none 0 0, .int .i64 0, .int .i64 0, .slice none 0 0, .int .i64 0, .int .i64 0, .slice none 0 0]) rfl rfl fun b18 => ?_
            refine Rx.stc rfl rfl (by simp only [List.all_cons, List.all_nil, one_int, hok.1, hok.2.1, hok.2.2, Bool.and_true]) (by rfl) ?_
            refine Rx.next ?_
            -- region 20
            refine Gx.seq_region ?_
            refine Rx.q rfl (.move rfl) ?_
            refine Rx.cal (caps := []) (ref38_RFrame b122 s a (by omega) ha) rfl rfl rfl fun v131 L131 hP131 => ?_
            obtain ⟨u131, v131, w131, g3, j3, ok3, rfl, rfl, ⟨hou131, hov131, how131⟩, hj3, hm3⟩ := hP131
            obtain ⟨rfl, rfl, rfl⟩ : ok3 = true ∧ g3 = ls[k] ∧ j3 = a2 := by
              rcases hm3 with ⟨e, h⟩ | ⟨_, h, _⟩
              · rw [hfa] at h
                simp only [Option.some.injEq, Prod.mk.injEq] at h
                exact ⟨e, h.1.symm, h.2.symm⟩
              · rw [hfa] at h; cases h
            refine Rx.q rfl (.move rfl) ?_
            refine Rx.q rfl (.extract rfl rfl) ?_
            refine Rx.q rfl (.extract rfl rfl) ?_
            refine Rx.alloc (zs := [.int .i64 0, .int .i64 0, .slice none 0 0, .int .i64 0, .int .i64 0, .slice none 0 0, .int .i64 0, .int .i64 0, .slice none 0 0]) rfl rfl fun b19 => ?_
            refine Rx.stc rfl rfl (by simp only [List.all_cons, List.all_nil, one_int, hou131, hov131, how131, Bool.and_true]) (by rfl) ?_
            refine Rx.q rfl (.assign rfl) ?_
            refine Rx.next ?_
            -- region 21
            refine Gx.seq_region ?_
            refine Rx.q rfl (.move rfl) ?_
            refine Rx.q rfl (.not rfl) ?_
            refine Rx.q rfl (.move rfl) ?_
            refine Rx.guard_yes rfl rfl rfl (Rx.q rfl (.ldc rfl (by rfl)) ?_)
            refine Rx.guard_yes rfl rfl rfl (Rx.q rfl (.ldc rfl (by rfl)) ?_)
            refine Rx.guard_yes rfl rfl rfl (Rx.q rfl ((OpQ.call (caps := []) (ref24_Same l[k].f ls[k] l[k].u l[k].v l[k].w u131 v131 w131 (by rw [hlk]; exact hfl3)) rfl rfl (.cons (giv_of_bag hb1 fun w F h => rd_of_sl w F h) (.cons (giv_of_bag hb2 fun w F h => rd_of_sl w F h) (.cons (giv_of_bag hb3 fun w F h => rd_of_sl w F h) (.cons RdOf.ok (.cons RdOf.ok (.cons RdOf.ok .nil))))))).val (u := .bool true) (congrArg Value.bool (decide_eq_true hlk))) ?_)
            refine Rx.guard_yes rfl rfl rfl (Rx.q rfl (.not rfl) ?_)
            refine Rx.q rfl (.pick_f rfl rfl) ?_
            refine Rx.next ?_
            refine Gx.cond_f rfl ?_
            refine Gx.skip fun aa ww hzz => (blk_normal (then_normal (Gx.go hzz ?_)))
            -- region 23
            refine Gx.region ?_
            refine Rx.q rfl (.add_ rfl rfl (by omega)) ?_
            refine Rx.q rfl (.move rfl) ?_
            refine Rx.nil fun aa ww hzz => (then_normal ⟨(k + 1, j3), ⟨by show k + 1 ≤ l.length; omega, by show k + 1 ≤ j3; omega, hj3, by show filmM s (s.length + 1 - (k + 1)) j3 = _; rw [show s.length + 1 - (k + 1) = m by omega]; exact hfn⟩, (by show l.length - (k + 1) < l.length - k; omega), hzz.to (.cons rfl (.cons rfl (.cons rfl (.cons rfl (.cons rfl (.cons rfl .nil))))))⟩)
          · -- way
            have h126 := of_decide_eq_false h126
            obtain rfl : k = l.length := by omega
            rw [List.drop_of_length_le (by omega), show s.length + 1 - l.length = (s.length - l.length) + 1 by omega] at hfk
            obtain ⟨hfe, rfl⟩ := film_stop hfk
            refine Gx.exit fun aa ww hzz => (then_exit (then_exit (blk_exit (then_normal (Gx.go hzz ?_)))))
            -- region 24
            refine Gx.seq_region ?_
            refine Rx.q rfl (.move rfl) ?_
            refine Rx.q rfl (.nilCheck rfl) ?_
            refine Rx.q rfl (.fieldAddr rfl) ?_
            refine Rx.q rfl (.ld rfl rfl) ?_
            refine Rx.q rfl (.assign rfl) ?_
            refine Rx.next ?_
            -- region 25
            refine Gx.seq_region ?_
            refine Rx.q rfl (.move rfl) ?_
            refine Rx.cal (caps := []) (ref38_RFrame b122 s K (by omega) ha) rfl rfl rfl fun v149 L149 hP149 => ?_
            obtain ⟨u149, v149, w149, g4, j4, ok4, rfl, rfl, ⟨hou149, hov149, how149⟩, hj4, hm4⟩ := hP149
            obtain rfl : ok4 = false := by
              rcases hm4 with ⟨_, h⟩ | ⟨e, _⟩
              · rw [hfe] at h; cases h
              · exact e
            refine Rx.q rfl (.move rfl) ?_
            refine Rx.q rfl (.extract rfl rfl) ?_
            refine Rx.q rfl (.extract rfl rfl) ?_
            refine Rx.alloc (zs := [.int .i64 0, .int .i64 0, .slice none 0 0, .int .i64 0, .int .i64 0, .slice none 0 0, .int .i64 0, .int .i64 0, .slice none 0 0]) rfl rfl fun b22 => ?_
            refine Rx.stc rfl rfl (by simp only [List.all_cons, List.all_nil, one_int, hou149, hov149, how149, Bool.and_true]) (by rfl) ?_
            refine Rx.q rfl (.assign rfl) ?_
            refine Rx.next ?_
            -- region 26
            refine Gx.seq_region ?_
            refine Rx.q rfl (.move rfl) ?_
            refine Rx.q rfl (.move rfl) ?_
            refine Rx.q rfl ((OpQ.eql rfl rfl).val (u := .bool true) (congrArg Value.bool (decide_eq_true rfl))) ?_
            refine Rx.q rfl (.move rfl) ?_
            refine Rx.guard_yes rfl rfl rfl (Rx.q rfl (.move rfl) ?_)
            refine Rx.guard_yes rfl rfl rfl (Rx.q rfl (.not rfl) ?_)
            refine Rx.q rfl (.pick_t rfl rfl) ?_
            refine Rx.q rfl (.assign rfl) ?_
            refine Rx.next ?_
            refine Gx.ret fun aa ww hzz => (fin_tmp hzz rfl rfl (⟨rfl, rfl⟩))
        · -- way
          subst h98
          have hf6 := hf4 rfl
          refine Rx.guard_no rfl rfl rfl rfl rfl ?_
          refine Rx.guard_no rfl rfl rfl rfl rfl ?_
          refine Rx.guard_no rfl rfl rfl rfl rfl ?_
          refine Rx.guard_no rfl rfl rfl rfl rfl ?_
          refine Rx.guard_yes rfl rfl rfl (Rx.q rfl (.pick_f rfl rfl) ?_)
          refine Rx.q rfl (.pick_f rfl rfl) ?_
          refine Rx.q rfl (.move rfl) ?_
          refine Rx.guard_yes rfl rfl rfl (Rx.q rfl (.move rfl) ?_)
          refine Rx.guard_yes rfl rfl rfl (Rx.q rfl (.not rfl) ?_)
          refine Rx.guard_yes rfl rfl rfl (Rx.q rfl (.move rfl) ?_)
          refine Rx.guard_yes rfl rfl rfl (Rx.q rfl (.ldc rfl (by rfl)) ?_)
          refine Rx.guard_yes rfl rfl rfl (Rx.q rfl (.build (cs := frC zeroF (.slice none 0 0) (.slice none 0 0) (.slice none 0 0)) rfl rfl) ?_)
          refine Rx.guard_yes rfl rfl rfl (Rx.q rfl ((OpQ.call (caps := []) (ref24_Same F zeroF u73 v73 w73 (.slice none 0 0) (.slice none 0 0) (.slice none 0 0) hfl) rfl rfl (.cons RdOf.ok (.cons RdOf.ok (.cons RdOf.ok (.cons giv_zero (.cons giv_zero (.cons giv_zero .nil))))))).val (u := .bool true) (congrArg Value.bool (decide_eq_true hf6))) ?_)
          refine Rx.guard_yes rfl rfl rfl (Rx.q rfl (.not rfl) ?_)
          refine Rx.guard_yes rfl rfl rfl (Rx.q rfl (.pick_t rfl rfl) ?_)
          refine Rx.q rfl (.pick_f rfl rfl) ?_
          refine Rx.next ?_
          refine Gx.cond_f rfl ?_
          refine Gx.skip fun aa ww hzz => (then_normal (Gx.go hzz ?_))
          -- region 15
          refine Gx.seq_region ?_
          refine Rx.q rfl (.move rfl) ?_
          refine Rx.cal (caps := []) (text_ParseFilm s (by omega)) rfl rfl rfl fun v117 L117 hP117 => ?_
          obtain ⟨v117, l, rfl, rfl, hl, hol⟩ := hP117
          obtain ⟨ls, K, hK⟩ : ∃ ls K, parseFilm s = (ls, K) := ⟨_, _, rfl⟩
          rw [hK]
          rw [hK] at hl
          dsimp only at hl ⊢
          have hfm : filmM s (s.length + 1 - 0) 0 = (ls.drop 0, K) := hK
          have hlen : l.length = ls.length := by rw [← hl, List.length_map]
          refine Rx.q rfl (.move rfl) ?_
          refine Rx.q rfl (.extract rfl rfl) ?_
          refine Rx.q rfl (.extract rfl rfl) ?_
          refine Rx.q rfl (.assign rfl) ?_
          refine Rx.q rfl (.assign rfl) ?_
          refine Rx.next ?_
          -- region 16
          refine Gx.seq_region ?_
          refine Rx.q rfl (.move rfl) ?_
          refine Rx.q rfl (.build (cs := [str s, .int .i64 0]) rfl rfl) ?_
          refine Rx.box (vs := [str s, .int .i64 ((0 : Nat) : Int)]) rfl rfl rfl fun b122 => ?_
          refine Rx.q rfl (.assign rfl) ?_
          refine Rx.next ?_
          refine Gx.seq ?_
          -- region 17
          refine Gx.seq_region ?_
          refine Rx.q rfl (.move rfl) ?_
          refine Rx.q rfl (.lens rfl) ?_
          refine Rx.q rfl (.move rfl) ?_
          refine Rx.next ?_
          refine Gx.block ?_
          refine Gx.lp (α := Nat × Nat) (fun x => x.1 ≤ l.length ∧ x.1 ≤ x.2 ∧ x.2 ≤ s.length ∧ filmM s (s.length + 1 - x.1) x.2 = (ls.drop x.1, K)) (fun x => l.length - x.1) (fun x => [(0, str s), (15, .int .i64 K), (16, .pointer (some ⟨b122, 0, none⟩)), (123, v117), (124, .int .i64 l.length), (125, .int .i64 x.1)])
            (fun x => [rdr b122 s x.2, sl 40 9 v117 l.length (frsC l), bag (frS l)]) ((0, 0)) (⟨Nat.zero_le _, Nat.le_refl _, Nat.zero_le _, hfm⟩) ?_ (fun x hx => ?_)
          · exact (.cons rfl (.cons rfl (.cons rfl (.cons rfl (.cons rfl (.cons rfl .nil))))))
          obtain ⟨k, a⟩ := x
          obtain ⟨hk, hka, ha, hfk⟩ := hx
          simp only at hk hka ha hfk ⊢
          -- region 18
          refine Gx.seq_region ?_
          refine Rx.q rfl (.lss rfl rfl) ?_
          refine Rx.next ?_
          refine Gx.seq ?_
          refine Gx.cond rfl (fun h126 => ?_) (fun h126 => ?_)
          · -- way
            have h126 := of_decide_eq_true h126
            have hk2 : k < l.length := by omega
            have hk3 : k < ls.length := by omega
            rw [List.drop_eq_getElem_cons hk3] at hfk
            obtain ⟨m, a2, hm1, hfa, hfn⟩ := film_step hfk
            have hag := frameM_gt hfa
            have hlk : l[k].f = ls[k] := by
              have := List.getElem_of_eq hl (i := k) (by simpa using hk2)
              simpa using this
            obtain ⟨hb1, hb2, hb3⟩ := frS_mem hk2
            have hok := hol _ (List.getElem_mem hk2)
            have hfl3 := frame_len hfa
            refine Gx.skip fun aa ww hzz => (then_normal (Gx.go hzz ?_))
            refine Gx.seq ?_
            refine Gx.block ?_
            -- region 19
            refine Gx.seq_region ?_
            refine Rx.q rfl (.idx (j := k * 9) rfl rfl (by omega) (by omega)) ?_
            refine Rx.q rfl (.ldsn (us := l[k].c) rfl (frsC_sub l hk2) (by rfl) (by simp)) ?_
            refine Rx.alloc (zs := [.int .i64 0, .int .i64 0, .slice none 0 0, .int .i64 0, .int .i64 0, .slice none 0 0, .int .i64 0, .int .i64 0, .slice none 0 0]) rfl rfl fun b18 => ?_
            refine Rx.stc rfl rfl (by simp only [List.all_cons, List.all_nil, one_int, hok.1, hok.2.1, hok.2.2, Bool.and_true]) (by rfl) ?_
            refine Rx.next ?_
            -- region 20
            refine Gx.seq_region ?_
            refine Rx.q rfl (.move rfl) ?_
            refine Rx.cal (caps := []) (ref38_RFrame b122 s a (by omega) ha) rfl rfl rfl fun v131 L131 hP131 => ?_
            obtain ⟨u131, v131, w131, g3, j3, ok3, rfl, rfl, ⟨hou131, hov131, how131⟩, hj3, hm3⟩ := hP131
            obtain ⟨rfl, rfl, rfl⟩ : ok3 = true ∧ g3 = ls[k] ∧ j3 = a2 := by
              rcases hm3 with ⟨e, h⟩ | ⟨_, h, _⟩
              · rw [hfa] at h
                simp only [Option.some.injEq, Prod.mk.injEq] at h
                exact ⟨e, h.1.symm, h.2.symm⟩
              · rw [hfa] at h; cases h
            refine Rx.q rfl (.move rfl) ?_
            refine Rx.q rfl (.extract rfl rfl) ?_
            refine Rx.q rfl (.extract rfl rfl) ?_
            refine Rx.alloc (zs := [.int .i64 0, .int .i64 0, .slice none 0 0, .int .i64 0, .int .i64 0, .slice none 0 0, .int .i64 0, .int .i64 0, .slice none 0 0]) rfl rfl fun b19 => ?_
            refine Rx.stc rfl rfl (by simp only [List.all_cons, List.all_nil, one_int, hou131, hov131, how131, Bool.and_true]) (by rfl) ?_
            refine Rx.q rfl (.assign rfl) ?_
            refine Rx.next ?_
            -- region 21
            refine Gx.seq_region ?_
            refine Rx.q rfl (.move rfl) ?_
            refine Rx.q rfl (.not rfl) ?_
            refine Rx.q rfl (.move rfl) ?_
            refine Rx.guard_yes rfl rfl rfl (Rx.q rfl (.ldc rfl (by rfl)) ?_)
            refine Rx.guard_yes rfl rfl rfl (Rx.q rfl (.ldc rfl (by rfl)) ?_)
            refine Rx.guard_yes rfl rfl rfl (Rx.q rfl ((OpQ.call (caps := []) (ref24_Same l[k].f ls[k] l[k].u l[k].v l[k].w u131 v131 w131 (by rw [hlk]; exact hfl3)) rfl rfl (.cons (giv_of_bag hb1 fun w F h => rd_of_sl w F h) (.cons (giv_of_bag hb2 fun w F h => rd_of_sl w F h) (.cons (giv_of_bag hb3 fun w F h => rd_of_sl w F h) (.cons RdOf.ok (.cons RdOf.ok (.cons RdOf.ok .nil))))))).val (u := .bool true) (congrArg Value.bool (decide_eq_true hlk))) ?_)
            refine Rx.guard_yes rfl rfl rfl (Rx.q rfl (.not rfl) ?_)
            refine Rx.q rfl (.pick_f rfl rfl) ?_
            refine Rx.next ?_
            refine Gx.cond_f rfl ?_
            refine Gx.skip fun aa ww hzz => (blk_normal (then_normal (Gx.go hzz ?_)))
            -- region 23
            refine Gx.region ?_
            refine Rx.q rfl (.add_ rfl rfl (by omega)) ?_
            refine Rx.q rfl (.move rfl) ?_
            refine Rx.nil fun aa ww hzz => (then_normal ⟨(k + 1, j3), ⟨by show k + 1 ≤ l.length; omega, by show k + 1 ≤ j3; omega, hj3, by show filmM s (s.length + 1 - (k + 1)) j3 = _; rw [show s.length + 1 - (k + 1) = m by omega]; exact hfn⟩, (by show l.length - (k + 1) < l.length - k; omega), hzz.to (.cons rfl (.cons rfl (.cons rfl (.cons rfl (.cons rfl (.cons rfl .nil))))))⟩)
          · -- way
            have h126 := of_decide_eq_false h126
            obtain rfl : k = l.length := by omega
            rw [List.drop_of_length_le (by omega), show s.length + 1 - l.length = (s.length - l.length) + 1 by omega] at hfk
            obtain ⟨hfe, rfl⟩ := film_stop hfk
            refine Gx.exit fun aa ww hzz => (then_exit (then_exit (blk_exit (then_normal (Gx.go hzz ?_)))))
            -- region 24
            refine Gx.seq_region ?_
            refine Rx.q rfl (.move rfl) ?_
            refine Rx.q rfl (.nilCheck rfl) ?_
            refine Rx.q rfl (.fieldAddr rfl) ?_
            refine Rx.q rfl (.ld rfl rfl) ?_
            refine Rx.q rfl (.assign rfl) ?_
            refine Rx.next ?_
            -- region 25
            refine Gx.seq_region ?_
            refine Rx.q rfl (.move rfl) ?_
            refine Rx.cal (caps := []) (ref38_RFrame b122 s K (by omega) ha) rfl rfl rfl fun v149 L149 hP149 => ?_
            obtain ⟨u149, v149, w149, g4, j4, ok4, rfl, rfl, ⟨hou149, hov149, how149⟩, hj4, hm4⟩ := hP149
            obtain rfl : ok4 = false := by
              rcases hm4 with ⟨_, h⟩ | ⟨e, _⟩
              · rw [hfe] at h; cases h
              · exact e
            refine Rx.q rfl (.move rfl) ?_
            refine Rx.q rfl (.extract rfl rfl) ?_
            refine Rx.q rfl (.extract rfl rfl) ?_
            refine Rx.alloc (zs := [.int .i64 0, .int .i64 0, .slice none 0 0, .int .i64 0, .int .i64 0, .slice none 0 0, .int .i64 0, .int .i64 0, .slice none 0 0]) rfl rfl fun b22 => ?_
            refine Rx.stc rfl rfl (by simp only [List.all_cons, List.all_nil, one_int, hou149, hov149, how149, Bool.and_true]) (by rfl) ?_
            refine Rx.q rfl (.assign rfl) ?_
            refine Rx.next ?_
            -- region 26
            refine Gx.seq_region ?_
            refine Rx.q rfl (.move rfl) ?_
            refine Rx.q rfl (.move rfl) ?_
            refine Rx.q rfl ((OpQ.eql rfl rfl).val (u := .bool true) (congrArg Value.bool (decide_eq_true rfl))) ?_
            refine Rx.q rfl (.move rfl) ?_
            refine Rx.guard_yes rfl rfl rfl (Rx.q rfl (.move rfl) ?_)
            refine Rx.guard_yes rfl rfl rfl (Rx.q rfl (.not rfl) ?_)
            refine Rx.q rfl (.pick_t rfl rfl) ?_
            refine Rx.q rfl (.assign rfl) ?_
            refine Rx.next ?_
            refine Gx.ret fun aa ww hzz => (fin_tmp hzz rfl rfl (⟨rfl, rfl⟩))
      · -- way
        subst h86
        have hf5 := hf2 rfl
        refine Rx.guard_no rfl rfl rfl rfl rfl ?_
        refine Rx.guard_no rfl rfl rfl rfl rfl ?_
        refine Rx.guard_no rfl rfl rfl rfl rfl ?_
        refine Rx.guard_no rfl rfl rfl rfl rfl ?_
        refine Rx.guard_no rfl rfl rfl rfl rfl ?_
        refine Rx.guard_no rfl rfl rfl rfl rfl ?_
        refine Rx.guard_no rfl rfl rfl rfl rfl ?_
        refine Rx.q rfl (.pick_f rfl rfl) ?_
        refine Rx.q rfl ((OpQ.neq_b (by kernel_rfl) rfl rfl).val (u := .bool false) (congrArg Value.bool (by rw [hf5]; rfl))) ?_
        refine Rx.q rfl (.move rfl) ?_
        refine Rx.guard_yes rfl rfl rfl (Rx.q rfl (.move rfl) ?_)
        refine Rx.guard_yes rfl rfl rfl (Rx.q rfl (.move rfl) ?_)
        refine Rx.split 98 rfl (fun h98 => ?_) (fun h98 => ?_)
        · -- way
          subst h98
          have hf6 := hf3 rfl
          refine Rx.guard_yes rfl rfl rfl (Rx.q rfl (.ldc rfl (by rfl)) ?_)
          refine Rx.guard_yes rfl rfl rfl (Rx.q rfl (.ldc rfl (by rfl)) ?_)
          refine Rx.guard_yes rfl rfl rfl (Rx.q rfl ((OpQ.cal (caps := []) (ref24_Same F g u73 v73 w73 u81 v81 w81 hfl) rfl rfl).val (u := .bool true) (congrArg Value.bool (decide_eq_true hf6))) ?_)
          refine Rx.guard_yes rfl rfl rfl (Rx.q rfl (.not rfl) ?_)
          refine Rx.guard_yes rfl rfl rfl (Rx.q rfl (.pick_t rfl rfl) ?_)
          refine Rx.q rfl (.pick_f rfl rfl) ?_
          refine Rx.q rfl (.move rfl) ?_
          refine Rx.guard_yes rfl rfl rfl (Rx.q rfl (.move rfl) ?_)
          refine Rx.guard_yes rfl rfl rfl (Rx.q rfl (.not rfl) ?_)
          refine Rx.guard_yes rfl rfl rfl (Rx.q rfl (.move rfl) ?_)
          refine Rx.guard_no rfl rfl rfl rfl rfl ?_
          refine Rx.guard_no rfl rfl rfl rfl rfl ?_
          refine Rx.guard_no rfl rfl rfl rfl rfl ?_
          refine Rx.guard_no rfl rfl rfl rfl rfl ?_
          refine Rx.guard_yes rfl rfl rfl (Rx.q rfl (.pick_f rfl rfl) ?_)
          refine Rx.q rfl (.pick_f rfl rfl) ?_
          refine Rx.next ?_
          refine Gx.cond_f rfl ?_
          refine Gx.skip fun aa ww hzz => (then_normal (Gx.go hzz ?_))
          -- region 15
          refine Gx.seq_region ?_
          refine Rx.q rfl (.move rfl) ?_
          refine Rx.cal (caps := []) (text_ParseFilm s (by omega)) rfl rfl rfl fun v117 L117 hP117 => ?_
          obtain ⟨v117, l, rfl, rfl, hl, hol⟩ := hP117
          obtain ⟨ls, K, hK⟩ : ∃ ls K, parseFilm s = (ls, K) := ⟨_, _, rfl⟩
          rw [hK]
          rw [hK] at hl
          dsimp only at hl ⊢
          have hfm : filmM s (s.length + 1 - 0) 0 = (ls.drop 0, K) := hK
          have hlen : l.length = ls.length := by rw [← hl, List.length_map]
          refine Rx.q rfl (.move rfl) ?_
          refine Rx.q rfl (.extract rfl rfl) ?_
          refine Rx.q rfl (.extract rfl rfl) ?_
          refine Rx.q rfl (.assign rfl) ?_
          refine Rx.q rfl (.assign rfl) ?_
          refine Rx.next ?_
          -- region 16
          refine Gx.seq_region ?_
          refine Rx.q rfl (.move rfl) ?_
          refine Rx.q rfl (.build (cs := [str s, .int .i64 0]) rfl rfl) ?_
          refine Rx.box (vs := [str s, .int .i64 ((0 : Nat) : Int)]) rfl rfl rfl fun b122 => ?_
          refine Rx.q rfl (.assign rfl) ?_
          refine Rx.next ?_
          refine Gx.seq ?_
          -- region 17
          refine Gx.seq_region ?_
          refine Rx.q rfl (.move rfl) ?_
          refine Rx.q rfl (.lens rfl) ?_
          refine Rx.q rfl (.move rfl) ?_
          refine Rx.next ?_
          refine Gx.block ?_
          refine Gx.lp (α := Nat × Nat) (fun x => x.1 ≤ l.length ∧ x.1 ≤ x.2 ∧ x.2 ≤ s.length ∧ filmM s (s.length + 1 - x.1) x.2 = (ls.drop x.1, K)) (fun x => l.length - x.1) (fun x => [(0, str s), (15, .int .i64 K), (16, .pointer (some ⟨b122, 0, none⟩)), (123, v117), (124, .int .i64 l.length), (125, .int .i64 x.1)])
            (fun x => [rdr b122 s x.2, sl 40 9 v117 l.length (frsC l), bag (frS l)]) ((0, 0)) (⟨Nat.zero_le _, Nat.le_refl _, Nat.zero_le _, hfm⟩) ?_ (fun x hx => ?_)
          · exact (.cons rfl (.cons rfl (.cons rfl (.cons rfl (.cons rfl (.cons rfl .nil))))))
          obtain ⟨k, a⟩ := x
          obtain ⟨hk, hka, ha, hfk⟩ := hx
          simp only at hk hka ha hfk ⊢
          -- region 18
          refine Gx.seq_region ?_
          refine Rx.q rfl (.lss rfl rfl) ?_
          refine Rx.next ?_
          refine Gx.seq ?_
          refine Gx.cond rfl (fun h126 => ?_) (fun h126 => ?_)
          · -- way
            have h126 := of_decide_eq_true h126
            have hk2 : k < l.length := by omega
            have hk3 : k < ls.length := by omega
            rw [List.drop_eq_getElem_cons hk3] at hfk
            obtain ⟨m, a2, hm1, hfa, hfn⟩ := film_step hfk
            have hag := frameM_gt hfa
            have hlk : l[k].f = ls[k] := by
              have := List.getElem_of_eq hl (i := k) (by simpa using hk2)
              simpa using this
            obtain ⟨hb1, hb2, hb3⟩ := frS_mem hk2
            have hok := hol _ (List.getElem_mem hk2)
            have hfl3 := frame_len hfa
            refine Gx.skip fun aa ww hzz => (then_normal (Gx.go hzz ?_))
            refine Gx.seq ?_
            refine Gx.block ?_
            -- region 19
            refine Gx.seq_region ?_
            refine Rx.q rfl (.idx (j := k * 9) rfl rfl (by omega) (by omega)) ?_
            refine Rx.q rfl (.ldsn (us := l[k].c) rfl (frsC_sub l hk2) (by rfl) (by simp)) ?_
            refine Rx.alloc (zs := [.int .i64 0, .int .i64 0, .slice none 0 0, .int .i64 0, .int .i64 0, .slice none 0 0, .int .i64 0, .int .i64 0, .slice none 0 0]) rfl rfl fun b18 => ?_
            refine Rx.stc rfl rfl (by simp only [List.all_cons, List.all_nil, one_int, hok.1, hok.2.1, hok.2.2, Bool.and_true]) (by rfl) ?_
            refine Rx.next ?_
            -- region 20
            refine Gx.seq_region ?_
            refine Rx.q rfl (.move rfl) ?_
            refine Rx.cal (caps := []) (ref38_RFrame b122 s a (by omega) ha) rfl rfl rfl fun v131 L131 hP131 => ?_
            obtain ⟨u131, v131, w131, g3, j3, ok3, rfl, rfl, ⟨hou131, hov131, how131⟩, hj3, hm3⟩ := hP131
            obtain ⟨rfl, rfl, rfl⟩ : ok3 = true ∧ g3 = ls[k] ∧ j3 = a2 := by
              rcases hm3 with ⟨e, h⟩ | ⟨_, h, _⟩
              · rw [hfa] at h
                simp only [Option.some.injEq, Prod.mk.injEq] at h
                exact ⟨e, h.1.symm, h.2.symm⟩
              · rw [hfa] at h; cases h
            refine Rx.q rfl (.move rfl) ?_
            refine Rx.q rfl (.extract rfl rfl) ?_
            refine Rx.q rfl (.extract rfl rfl) ?_
            refine Rx.alloc (zs := [.int .i64 0, .int .i64 0, .slice none 0 0, .int .i64 0, .int .i64 0, .slice none 0 0, .int .i64 0, .int .i64 0, .slice none 0 0]) rfl rfl fun b19 => ?_
            refine Rx.stc rfl rfl (by simp only [List.all_cons, List.all_nil, one_int, hou131, hov131, how131, Bool.and_true]) (by rfl) ?_
            refine Rx.q rfl (.assign rfl) ?_
            refine Rx.next ?_
            -- region 21
            refine Gx.seq_region ?_
            refine Rx.q rfl (.move rfl) ?_
            refine Rx.q rfl (.not rfl) ?_
            refine Rx.q rfl (.move rfl) ?_
            refine Rx.guard_yes rfl rfl rfl (Rx.q rfl (.ldc rfl (by rfl)) ?_)
            refine Rx.guard_yes rfl rfl rfl (Rx.q rfl (.ldc rfl (by rfl)) ?_)
            refine Rx.guard_yes rfl rfl rfl (Rx.q rfl ((OpQ.call (caps := []) (ref24_Same l[k].f ls[k] l[k].u l[k].v l[k].w u131 v131 w131 (by rw [hlk]; exact hfl3)) rfl rfl (.cons (giv_of_bag hb1 fun w F h => rd_of_sl w F h) (.cons (giv_of_bag hb2 fun w F h => rd_of_sl w F h) (.cons (giv_of_bag hb3 fun w F h => rd_of_sl w F h) (.cons RdOf.ok (.cons RdOf.ok (.cons RdOf.ok .nil))))))).val (u := .bool true) (congrArg Value.bool (decide_eq_true hlk))) ?_)
            refine Rx.guard_yes rfl rfl rfl (Rx.q rfl (.not rfl) ?_)
            refine Rx.q rfl (.pick_f rfl rfl) ?_
            refine Rx.next ?_
            refine Gx.cond_f rfl ?_
            refine Gx.skip fun aa ww hzz => (blk_normal (then_normal (Gx.go hzz ?_)))
            -- region 23
            refine Gx.region ?_
            refine Rx.q rfl (.add_ rfl rfl (by omega)) ?_
            refine Rx.q rfl (.move rfl) ?_
            refine Rx.nil fun aa ww hzz => (then_normal ⟨(k + 1, j3), ⟨by show k + 1 ≤ l.length; omega, by show k + 1 ≤ j3; omega, hj3, by show filmM s (s.length + 1 - (k + 1)) j3 = _; rw [show s.length + 1 - (k + 1) = m by omega]; exact hfn⟩, (by show l.length - (k + 1) < l.length - k; omega), hzz.to (.cons rfl (.cons rfl (.cons rfl (.cons rfl (.cons rfl (.cons rfl .nil))))))⟩)
          · -- way
            have h126 := of_decide_eq_false h126
            obtain rfl : k = l.length := by omega
            rw [List.drop_of_length_le (by omega), show s.length + 1 - l.length = (s.length - l.length) + 1 by omega] at hfk
            obtain ⟨hfe, rfl⟩ := film_stop hfk
            refine Gx.exit fun aa ww hzz => (then_exit (then_exit (blk_exit (then_normal (Gx.go hzz ?_)))))
            -- region 24
            refine Gx.seq_region ?_
            refine Rx.q rfl (.move rfl) ?_
            refine Rx.q rfl (.nilCheck rfl) ?_
            refine Rx.q rfl (.fieldAddr rfl) ?_
            refine Rx.q rfl (.ld rfl rfl) ?_
            refine Rx.q rfl (.assign rfl) ?_
            refine Rx.next ?_
            -- region 25
            refine Gx.seq_region ?_
            refine Rx.q rfl (.move rfl) ?_
            refine Rx.cal (caps := []) (ref38_RFrame b122 s K (by omega) ha) rfl rfl rfl fun v149 L149 hP149 => ?_
            obtain ⟨u149, v149, w149, g4, j4, ok4, rfl, rfl, ⟨hou149, hov149, how149⟩, hj4, hm4⟩ := hP149
            obtain rfl : ok4 = false := by
              rcases hm4 with ⟨_, h⟩ | ⟨e, _⟩
              · rw [hfe] at h; cases h
              · exact e
            refine Rx.q rfl (.move rfl) ?_
            refine Rx.q rfl (.extract rfl rfl) ?_
            refine Rx.q rfl (.extract rfl rfl) ?_
            refine Rx.alloc (zs := [.int .i64 0, .int .i64 0, .slice none 0 0, .int .i64 0, .int .i64 0, .slice none 0 0, .int .i64 0, .int .i64 0, .slice none 0 0]) rfl rfl fun b22 => ?_
            refine Rx.stc rfl rfl (by simp only [List.all_cons, List.all_nil, one_int, hou149, hov149, how149, Bool.and_true]) (by rfl) ?_
            refine Rx.q rfl (.assign rfl) ?_
            refine Rx.next ?_
            -- region 26
            refine Gx.seq_region ?_
            refine Rx.q rfl (.move rfl) ?_
            refine Rx.q rfl (.move rfl) ?_
            refine Rx.q rfl ((OpQ.eql rfl rfl).val (u := .bool true) (congrArg Value.bool (decide_eq_true rfl))) ?_
            refine Rx.q rfl (.move rfl) ?_
            refine Rx.guard_yes rfl rfl rfl (Rx.q rfl (.move rfl) ?_)
            refine Rx.guard_yes rfl rfl rfl (Rx.q rfl (.not rfl) ?_)
            refine Rx.q rfl (.pick_t rfl rfl) ?_
            refine Rx.q rfl (.assign rfl) ?_
            refine Rx.next ?_
            refine Gx.ret fun aa ww hzz => (fin_tmp hzz rfl rfl (⟨rfl, rfl⟩))
        · -- way
          subst h98
          have hf6 := hf4 rfl
          refine Rx.guard_no rfl rfl rfl rfl rfl ?_
          refine Rx.guard_no rfl rfl rfl rfl rfl ?_
          refine Rx.guard_no rfl rfl rfl rfl rfl ?_
          refine Rx.guard_no rfl rfl rfl rfl rfl ?_
          refine Rx.guard_yes rfl rfl rfl (Rx.q rfl (.pick_f rfl rfl) ?_)
          refine Rx.q rfl (.pick_f rfl rfl) ?_
          refine Rx.q rfl (.move rfl) ?_
          refine Rx.guard_yes rfl rfl rfl (Rx.q rfl (.move rfl) ?_)
          refine Rx.guard_yes rfl rfl rfl (Rx.q rfl (.not rfl) ?_)
          refine Rx.guard_yes rfl rfl rfl (Rx.q rfl (.move rfl) ?_)
          refine Rx.guard_yes rfl rfl rfl (Rx.q rfl (.ldc rfl (by rfl)) ?_)
          refine Rx.guard_yes rfl rfl rfl (Rx.q rfl (.build (cs := frC zeroF (.slice none 0 0) (.slice none 0 0) (.slice none 0 0)) rfl rfl) ?_)
          refine Rx.guard_yes rfl rfl rfl (Rx.q rfl ((OpQ.call (caps := []) (ref24_Same F zeroF u73 v73 w73 (.slice none 0 0) (.slice none 0 0) (.slice none 0 0) hfl) rfl rfl (.cons RdOf.ok (.cons RdOf.ok (.cons RdOf.ok (.cons giv_zero (.cons giv_zero (.cons giv_zero .nil))))))).val (u := .bool true) (congrArg Value.bool (decide_eq_true hf6))) ?_)
          refine Rx.guard_yes rfl rfl rfl (Rx.q rfl (.not rfl) ?_)
          refine Rx.guard_yes rfl rfl rfl (Rx.q rfl (.pick_t rfl rfl) ?_)
          refine Rx.q rfl (.pick_f rfl rfl) ?_
          refine Rx.next ?_
          refine Gx.cond_f rfl ?_
          refine Gx.skip fun aa ww hzz => (then_normal (Gx.go hzz ?_))
          -- region 15
          refine Gx.seq_region ?_
          refine Rx.q rfl (.move rfl) ?_
          refine Rx.cal (caps := []) (text_ParseFilm s (by omega)) rfl rfl rfl fun v117 L117 hP117 => ?_
          obtain ⟨v117, l, rfl, rfl, hl, hol⟩ := hP117
          obtain ⟨ls, K, hK⟩ : ∃ ls K, parseFilm s = (ls, K) := ⟨_, _, rfl⟩
          rw [hK]
          rw [hK] at hl
          dsimp only at hl ⊢
          have hfm : filmM s (s.length + 1 - 0) 0 = (ls.drop 0, K) := hK
          have hlen : l.length = ls.length := by rw [← hl, List.length_map]
          refine Rx.q rfl (.move rfl) ?_
          refine Rx.q rfl (.extract rfl rfl) ?_
          refine Rx.q rfl (.extract rfl rfl) ?_
          refine Rx.q rfl (.assign rfl) ?_
          refine Rx.q rfl (.assign rfl) ?_
          refine Rx.next ?_
          -- region 16
          refine Gx.seq_region ?_
          refine Rx.q rfl (.move rfl) ?_
          refine Rx.q rfl (.build (cs := [str s, .int .i64 0]) rfl rfl) ?_
          refine Rx.box (vs := [str s, .int .i64 ((0 : Nat) : Int)]) rfl rfl rfl fun b122 => ?_
          refine Rx.q rfl (.assign rfl) ?_
          refine Rx.next ?_
          refine Gx.seq ?_
          -- region 17
          refine Gx.seq_region ?_
          refine Rx.q rfl (.move rfl) ?_
          refine Rx.q rfl (.lens rfl) ?_
          refine Rx.q rfl (.move rfl) ?_
          refine Rx.next ?_
          refine Gx.block ?_
          refine Gx.lp (α := Nat × Nat) (fun x => x.1 ≤ l.length ∧ x.1 ≤ x.2 ∧ x.2 ≤ s.length ∧ filmM s (s.length + 1 - x.1) x.2 = (ls.drop x.1, K)) (fun x => l.length - x.1) (fun x => [(0, str s), (15, .int .i64 K), (16, .pointer (some ⟨b122, 0, none⟩)), (123, v117), (124, .int .i64 l.length), (125, .int .i64 x.1)])
            (fun x => [rdr b122 s x.2, sl 40 9 v117 l.length (frsC l), bag (frS l)]) ((0, 0)) (⟨Nat.zero_le _, Nat.le_refl _, Nat.zero_le _, hfm⟩) ?_ (fun x hx => ?_)
          · exact (.cons rfl (.cons rfl (.cons rfl (.cons rfl (.cons rfl (.cons rfl .nil))))))
          obtain ⟨k, a⟩ := x
          obtain ⟨hk, hka, ha, hfk⟩ := hx
          simp only at hk hka ha hfk ⊢
          -- region 18
          refine Gx.seq_region ?_
          refine Rx.q rfl (.lss rfl rfl) ?_
          refine Rx.next ?_
          refine Gx.seq ?_
          refine Gx.cond rfl (fun h126 => ?_) (fun h126 => ?_)
          · -- way
            have h126 := of_decide_eq_true h126
            have hk2 : k < l.length := by omega
            have hk3 : k < ls.length := by omega
            rw [List.drop_eq_getElem_cons hk3] at hfk
            obtain ⟨m, a2, hm1, hfa, hfn⟩ := film_step hfk
            have hag := frameM_gt hfa
            have hlk : l[k].f = ls[k] := by
              have := List.getElem_of_eq hl (i := k) (by simpa using hk2)
              simpa using this
            obtain ⟨hb1, hb2, hb3⟩ := frS_mem hk2
            have hok := hol _ (List.getElem_mem hk2)
            have hfl3 := frame_len hfa
            refine Gx.skip fun aa ww hzz => (then_normal (Gx.go hzz ?_))
            refine Gx.seq ?_
            refine Gx.block ?_
            -- region 19
            refine Gx.seq_region ?_
            refine Rx.q rfl (.idx (j := k * 9) rfl rfl (by omega) (by omega)) ?_
            refine Rx.q rfl (.ldsn (us := l[k].c) rfl (frsC_sub l hk2) (by rfl) (by simp)) ?_
            refine Rx.alloc (zs := [.int .i64 0, .int .i64 0, .slice none 0 0, .int .i64 0, .int .i64 0, .slice none 0 0, .int .i64 0, .int .i64 0, .slice none 0 0]) rfl rfl fun b18 => ?_
            refine Rx.stc rfl rfl (by simp only [List.all_cons, List.all_nil, one_int, hok.1, hok.2.1, hok.2.2, Bool.and_true]) (by rfl) ?_
            refine Rx.next ?_
            -- region 20
            refine Gx.seq_region ?_
            refine Rx.q rfl (.move rfl) ?_
            refine Rx.cal (caps := []) (ref38_RFrame b122 s a (by omega) ha) rfl rfl rfl fun v131 L131 hP131 => ?_
            obtain ⟨u131, v131, w131, g3, j3, ok3, rfl, rfl, ⟨hou131, hov131, how131⟩, hj3, hm3⟩ := hP131
            obtain ⟨rfl, rfl, rfl⟩ : ok3 = true ∧ g3 = ls[k] ∧ j3 = a2 := by
              rcases hm3 with ⟨e, h⟩ | ⟨_, h, _⟩
              · rw [hfa] at h
                simp only [Option.some.injEq, Prod.mk.injEq] at h
                exact ⟨e, h.1.symm, h.2.symm⟩
              · rw [hfa] at h; cases h
            refine Rx.q rfl (.move rfl) ?_
            refine Rx.q rfl (.extract rfl rfl) ?_
            refine Rx.q rfl (.extract rfl rfl) ?_
            refine Rx.alloc (zs := [.int .i64 0, .int .i64 0, .slice none 0 0, .int .i64 0, .int .i64 0, .slice none 0 0, .int .i64 0, .int .i64 0, .slice none 0 0]) rfl rfl fun b19 => ?_
            refine Rx.stc rfl rfl (by simp only [List.all_cons, List.all_nil, one_int, hou131, hov131, how131, Bool.and_true]) (by rfl) ?_
            refine Rx.q rfl (.assign rfl) ?_
            refine Rx.next ?_
            -- region 21
            refine Gx.seq_region ?_
            refine Rx.q rfl (.move rfl) ?_
            refine Rx.q rfl (.not rfl) ?_
            refine Rx.q rfl (.move rfl) ?_
            refine Rx.guard_yes rfl rfl rfl (Rx.q rfl (.ldc rfl (by rfl)) ?_)
            refine Rx.guard_yes rfl rfl rfl (Rx.q rfl (.ldc rfl (by rfl)) ?_)
            refine Rx.guard_yes rfl rfl rfl (Rx.q rfl ((OpQ.call (caps := []) (ref24_Same l[k].f ls[k] l[k].u l[k].v l[k].w u131 v131 w131 (by rw [hlk]; exact hfl3)) rfl rfl (.cons (giv_of_bag hb1 fun w F h => rd_of_sl w F h) (.cons (giv_of_bag hb2 fun w F h => rd_of_sl w F h) (.cons (giv_of_bag hb3 fun w F h => rd_of_sl w F h) (.cons RdOf.ok (.cons RdOf.ok (.cons RdOf.ok .nil))))))).val (u := .bool true) (congrArg Value.bool (decide_eq_true hlk))) ?_)
            refine Rx.guard_yes rfl rfl rfl (Rx.q rfl (.not rfl) ?_)
            refine Rx.q rfl (.pick_f rfl rfl) ?_
            refine Rx.next ?_
            refine Gx.cond_f rfl ?_
            refine Gx.skip fun aa ww hzz => (blk_normal (then_normal (Gx.go hzz ?_)))
            -- region 23
            refine Gx.region ?_
            refine Rx.q rfl (.add_ rfl rfl (by omega)) ?_
            refine Rx.q rfl (.move rfl) ?_
            refine Rx.nil fun aa ww hzz => (then_normal ⟨(k + 1, j3), ⟨by show k + 1 ≤ l.length; omega, by show k + 1 ≤ j3; omega, hj3, by show filmM s (s.length + 1 - (k + 1)) j3 = _; rw [show s.length + 1 - (k + 1) = m by omega]; exact hfn⟩, (by show l.length - (k + 1) < l.length - k; omega), hzz.to (.cons rfl (.cons rfl (.cons rfl (.cons rfl (.cons rfl (.cons rfl .nil))))))⟩)
          · -- way
            have h126 := of_decide_eq_false h126
            obtain rfl : k = l.length := by omega
            rw [List.drop_of_length_le (by omega), show s.length + 1 - l.length = (s.length - l.length) + 1 by omega] at hfk
            obtain ⟨hfe, rfl⟩ := film_stop hfk
            refine Gx.exit fun aa ww hzz => (then_exit (then_exit (blk_exit (then_normal (Gx.go hzz ?_)))))
            -- region 24
            refine Gx.seq_region ?_
            refine Rx.q rfl (.move rfl) ?_
            refine Rx.q rfl (.nilCheck rfl) ?_
            refine Rx.q rfl (.fieldAddr rfl) ?_
            refine Rx.q rfl (.ld rfl rfl) ?_
            refine Rx.q rfl (.assign rfl) ?_
            refine Rx.next ?_
            -- region 25
            refine Gx.seq_region ?_
            refine Rx.q rfl (.move rfl) ?_
            refine Rx.cal (caps := []) (ref38_RFrame b122 s K (by omega) ha) rfl rfl rfl fun v149 L149 hP149 => ?_
            obtain ⟨u149, v149, w149, g4, j4, ok4, rfl, rfl, ⟨hou149, hov149, how149⟩, hj4, hm4⟩ := hP149
            obtain rfl : ok4 = false := by
              rcases hm4 with ⟨_, h⟩ | ⟨e, _⟩
              · rw [hfe] at h; cases h
              · exact e
            refine Rx.q rfl (.move rfl) ?_
            refine Rx.q rfl (.extract rfl rfl) ?_
            refine Rx.q rfl (.extract rfl rfl) ?_
            refine Rx.alloc (zs := [.int .i64 0, .int .i64 0, .slice none 0 0, .int .i64 0, .int .i64 0, .slice none 0 0, .int .i64 0, .int .i64 0, .slice none 0 0]) rfl rfl fun b22 => ?_
            refine Rx.stc rfl rfl (by simp only [List.all_cons, List.all_nil, one_int, hou149, hov149, how149, Bool.and_true]) (by rfl) ?_
            refine Rx.q rfl (.assign rfl) ?_
            refine Rx.next ?_
            -- region 26
            refine Gx.seq_region ?_
            refine Rx.q rfl (.move rfl) ?_
            refine Rx.q rfl (.move rfl) ?_
            refine Rx.q rfl ((OpQ.eql rfl rfl).val (u := .bool true) (congrArg Value.bool (decide_eq_true rfl))) ?_
            refine Rx.q rfl (.move rfl) ?_
            refine Rx.guard_yes rfl rfl rfl (Rx.q rfl (.move rfl) ?_)
            refine Rx.guard_yes rfl rfl rfl (Rx.q rfl (.not rfl) ?_)
            refine Rx.q rfl (.pick_t rfl rfl) ?_
            refine Rx.q rfl (.assign rfl) ?_
            refine Rx.next ?_
            refine Gx.ret fun aa ww hzz => (fin_tmp hzz rfl rfl (⟨rfl, rfl⟩))

end Go.Proofs.YtoiebfpafdcbmaaDoor
