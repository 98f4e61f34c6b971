/- The law's own functions: what is a text is read again. -/
import Derived.Test.YtoiebfpafdcbmaaDoorPB
namespace Go.Proofs.YtoiebfpafdcbmaaDoor
open Go Go.RowKit K
set_option linter.unusedVariables false
set_option linter.unusedSimpArgs false

theorem law38_TextBack (v : Value) (l : List FrV) (hn : l.length ≤ 1099511627776) (ho : ∀ x ∈ l, x.ok) (ht : sumN l ≤ 1099511627776) : Spc Tryd.prog 6 [v] [] [lib, rd 9 v l.length (frsC l), shrAll (frR l)] (fun u L => u = .bool true ∧ L = []) := by
  refine Spc.intro Tryd.func6 rfl Tryd.ntmps6 (by kernel_rfl) rfl rfl fun w0 F0 => ?_
  -- region 0
  refine Gx.seq_region ?_
  refine Rx.q rfl (.assign rfl) ?_
  refine Rx.next ?_
  refine Gx.seq ?_
  -- region 1
  refine Gx.seq_region ?_
  refine Rx.cal (caps := []) (law38_first) rfl rfl rfl fun v16 L16 hP16 => ?_
  obtain ⟨rfl, rfl⟩ := hP16
  refine Rx.q rfl (.not rfl) ?_
  refine Rx.next ?_
  refine Gx.cond_f rfl ?_
  refine Gx.skip fun aa ww hzz => (then_normal (Gx.go hzz ?_))
  -- region 3
  refine Gx.seq_region ?_
  refine Rx.q rfl (.assign rfl) ?_
  refine Rx.next ?_
  -- region 4
  refine Gx.seq_region ?_
  refine Rx.q rfl (.assign rfl) ?_
  refine Rx.next ?_
  refine Gx.seq ?_
  -- region 5
  refine Gx.seq_region ?_
  refine Rx.q rfl (.move rfl) ?_
  refine Rx.q rfl (.lens rfl) ?_
  refine Rx.q rfl (.move rfl) ?_
  refine Rx.next ?_
  refine Gx.block ?_
  refine Gx.nilS (e := 40) (sz := 9) ?_
  refine Gx.castL (L' := [sl 40 9 (.slice none 0 0) (rights (l.take 0)).length (frsC (rights (l.take 0)))]) rfl ?_
  refine Gx.lp (α := Value × Nat) (fun x => x.2 ≤ l.length) (fun x => l.length - x.2) (fun x => [(0, v), (3, .int .i64 (sumN (l.take x.2) : Nat)), (4, x.1), (18, v), (19, .int .i64 l.length), (20, .int .i64 x.2)])
    (fun x => [sl 40 9 x.1 (rights (l.take x.2)).length (frsC (rights (l.take x.2)))]) ((.slice none 0 0, 0)) (Nat.zero_le _) ?_ (fun x hx => ?_)
  · exact (.cons rfl (.cons rfl (.cons rfl (.cons rfl (.cons rfl (.cons rfl .nil))))))
  obtain ⟨q, j⟩ := x
  simp only at hx ⊢
  -- region 6
  refine Gx.seq_region ?_
  refine Rx.q rfl (.lss rfl rfl) ?_
  refine Rx.next ?_
  refine Gx.seq ?_
  refine Gx.cond rfl (fun h21 => ?_) (fun h21 => ?_)
  · -- way
    have h21 := of_decide_eq_true h21
    have hj : j < l.length := by omega
    have hx2 := ho _ (List.getElem_mem hj)
    obtain ⟨hm1, hm2, hm3⟩ := frR_mem hj
    obtain ⟨ou, ov, ow⟩ := hx2.one
    have hsum := sumN_take l hj
    have hsle := sumN_take_le l (j + 1)
    have hrl := rights_le l j
    unfold nums at hsum
    refine Gx.skip fun aa ww hzz => (then_normal (Gx.go hzz ?_))
    refine Gx.seq ?_
    refine Gx.block ?_
    -- region 7
    refine Gx.seq_region ?_
    refine Rx.q rfl (.idx (j := j * 9) rfl rfl (by omega) (by omega)) ?_
    refine Rx.q rfl (.ldsn (us := l[j].c) rfl (frsC_sub l hj) (by rfl) (by simp)) ?_
    refine Rx.alloc (zs := [.int .i64 0, .int .i64 0, .slice none 0 0, .int .i64 0, .int .i64 0, .slice none 0 0, .int .i64 0, .int .i64 0, .slice none 0 0]) rfl rfl fun b6 => ?_
    refine Rx.stc rfl rfl (by simp only [List.all_cons, List.all_nil, one_int, hx2.one.1, hx2.one.2.1, hx2.one.2.2, Bool.and_true]) (by rfl) ?_
    refine Rx.next ?_
    refine Gx.seq ?_
    -- region 8
    refine Gx.seq_region ?_
    refine Rx.q rfl (.fieldAddr rfl) ?_
    refine Rx.q rfl (.ldc rfl (by rfl)) ?_
    refine Rx.q rfl (.move rfl) ?_
    refine Rx.next ?_
    refine Gx.block ?_
    refine Gx.lpn 3 ?_
    -- region 9
    refine Gx.seq_region ?_
    refine Rx.q rfl (.lss rfl rfl) ?_
    refine Rx.next ?_
    refine Gx.seq ?_
    refine Gx.cond_t rfl ?_
    refine Gx.skip fun aa ww hzz => (then_normal (Gx.go hzz ?_))
    refine Gx.seq ?_
    refine Gx.block ?_
    -- region 10
    refine Gx.seq_region ?_
    refine Rx.q rfl (.idx_aa (j := 0) (us := plC l[j].f.a l[j].u) rfl rfl (by decide) rfl rfl) ?_
    refine Rx.alloc (zs := [.int .i64 0, .int .i64 0, .slice none 0 0]) rfl rfl fun b8 => ?_
    refine Rx.stc rfl rfl (by first | rfl | simp only [List.all_cons, List.all_nil, one_int, one_bool, one_str, one_ptr, one_slice, one_func, Bool.and_true, Bool.true_and, *]) (by rfl) ?_
    refine Rx.next ?_
    -- region 11
    refine Gx.region ?_
    refine Rx.q rfl (.move rfl) ?_
    refine Rx.q rfl (.fieldAddr rfl) ?_
    refine Rx.q rfl (.ld rfl rfl) ?_
    refine Rx.q rfl (.len_g rfl (giv_all hm1) lens_rd) ?_
    refine Rx.q rfl (.add_ rfl rfl (by omega)) ?_
    refine Rx.q rfl (.assign rfl) ?_
    refine Rx.nil fun aa ww hzz => (blk_normal (then_normal (Gx.go hzz ?_)))
    -- region 12
    refine Gx.region ?_
    refine Rx.q rfl (.add_ rfl rfl (by omega)) ?_
    refine Rx.q rfl (.move rfl) ?_
    refine Rx.nil fun aa ww hzz => (then_normal (rounds_go (m := 2) hzz ?_))
    -- region 9
    refine Gx.seq_region ?_
    refine Rx.q rfl (.lss rfl rfl) ?_
    refine Rx.next ?_
    refine Gx.seq ?_
    refine Gx.cond_t rfl ?_
    refine Gx.skip fun aa ww hzz => (then_normal (Gx.go hzz ?_))
    refine Gx.seq ?_
    refine Gx.block ?_
    -- region 10
    refine Gx.seq_region ?_
    refine Rx.q rfl (.idx_aa (j := 1) (us := plC l[j].f.b l[j].v) rfl rfl (by decide) rfl rfl) ?_
    refine Rx.alloc (zs := [.int .i64 0, .int .i64 0, .slice none 0 0]) rfl rfl fun b8 => ?_
    refine Rx.stc rfl rfl (by first | rfl | simp only [List.all_cons, List.all_nil, one_int, one_bool, one_str, one_ptr, one_slice, one_func, Bool.and_true, Bool.true_and, *]) (by rfl) ?_
    refine Rx.next ?_
    -- region 11
    refine Gx.region ?_
    refine Rx.q rfl (.move rfl) ?_
    refine Rx.q rfl (.fieldAddr rfl) ?_
    refine Rx.q rfl (.ld rfl rfl) ?_
    refine Rx.q rfl (.len_g rfl (giv_all hm2) lens_rd) ?_
    refine Rx.q rfl (.add_ rfl rfl (by omega)) ?_
    refine Rx.q rfl (.assign rfl) ?_
    refine Rx.nil fun aa ww hzz => (blk_normal (then_normal (Gx.go hzz ?_)))
    -- region 12
    refine Gx.region ?_
    refine Rx.q rfl (.add_ rfl rfl (by omega)) ?_
    refine Rx.q rfl (.move rfl) ?_
    refine Rx.nil fun aa ww hzz => (then_normal (rounds_go (m := 1) hzz ?_))
    -- region 9
    refine Gx.seq_region ?_
    refine Rx.q rfl (.lss rfl rfl) ?_
    refine Rx.next ?_
    refine Gx.seq ?_
    refine Gx.cond_t rfl ?_
    refine Gx.skip fun aa ww hzz => (then_normal (Gx.go hzz ?_))
    refine Gx.seq ?_
    refine Gx.block ?_
    -- region 10
    refine Gx.seq_region ?_
    refine Rx.q rfl (.idx_aa (j := 2) (us := plC l[j].f.c l[j].w) rfl rfl (by decide) rfl rfl) ?_
    refine Rx.alloc (zs := [.int .i64 0, .int .i64 0, .slice none 0 0]) rfl rfl fun b8 => ?_
    refine Rx.stc rfl rfl (by first | rfl | simp only [List.all_cons, List.all_nil, one_int, one_bool, one_str, one_ptr, one_slice, one_func, Bool.and_true, Bool.true_and, *]) (by rfl) ?_
    refine Rx.next ?_
    -- region 11
    refine Gx.region ?_
    refine Rx.q rfl (.move rfl) ?_
    refine Rx.q rfl (.fieldAddr rfl) ?_
    refine Rx.q rfl (.ld rfl rfl) ?_
    refine Rx.q rfl (.len_g rfl (giv_all hm3) lens_rd) ?_
    refine Rx.q rfl ((OpQ.add_ rfl rfl (by omega)).val (u := .int .i64 ((sumN (l.take (j + 1)) : Nat) : Int)) (by congr 1; omega)) ?_
    refine Rx.q rfl (.assign rfl) ?_
    refine Rx.nil fun aa ww hzz => (blk_normal (then_normal (Gx.go hzz ?_)))
    -- region 12
    refine Gx.region ?_
    refine Rx.q rfl (.add_ rfl rfl (by omega)) ?_
    refine Rx.q rfl (.move rfl) ?_
    refine Rx.nil fun aa ww hzz => (then_normal (rounds_go (m := 0) hzz ?_))
    -- region 9
    refine Gx.seq_region ?_
    refine Rx.q rfl (.lss rfl rfl) ?_
    refine Rx.next ?_
    refine Gx.seq ?_
    refine Gx.cond_f rfl ?_
    refine Gx.exit fun aa ww hzz => (then_exit (then_exit (blk_exit (then_normal (Gx.go hzz ?_)))))
    -- region 13
    refine Gx.seq_region ?_
    refine Rx.q rfl (.ldc rfl (by rfl)) ?_
    refine Rx.q rfl (OpQ.call (caps := []) (text_Frame l[j].f l[j].u l[j].v l[j].w hx2.one.1 hx2.one.2.1 hx2.one.2.2 hx2.le hx2.fit) rfl rfl (.cons (Inn.gives (.shr .here)) (.cons (giv_all hm1) (.cons (giv_all hm2) (.cons (giv_all hm3) .nil))))) ?_
    refine Rx.q rfl (.neq_s rfl rfl) ?_
    refine Rx.next ?_
    refine Gx.cond rfl (fun h37 => ?_) (fun h37 => ?_)
    · -- way
      have h37 := of_decide_eq_true h37
      have hr : l[j].f.right = true := by
        cases e : l[j].f.right
        · exact absurd ((frameS_nil _).2 e) h37
        · rfl
      -- region 14
      refine Gx.region ?_
      refine Rx.q rfl (.move rfl) ?_
      refine Rx.q rfl (.ldc rfl (by rfl)) ?_
      refine Rx.sliceN (uss := [l[j].c]) rfl rfl rfl (by simp) rfl rfl fun v40 hv40 => ?_
      refine Rx.castL (L' := sl 40 9 v40 1 l[j].c :: _) rfl ?_
      refine Rx.app rfl rfl ⟨rfl, rfl⟩ (by rfl) (by simp only [List.all_cons, List.all_nil, one_int, hx2.one.1, hx2.one.2.1, hx2.one.2.2, Bool.and_true]) (by omega) rfl fun v41 hv41 => ?_
      rw [← frsC_snoc, show (rights (l.take j)).length + 1 = (rights (l.take j) ++ [l[j]]).length by simp, ← rights_yes l hj hr]
      refine Rx.q rfl (.assign rfl) ?_
      refine Rx.nil fun aa ww hzz => (blk_normal (then_normal (Gx.go hzz ?_)))
      -- region 15
      refine Gx.region ?_
      refine Rx.q rfl (.add_ rfl rfl (by omega)) ?_
      refine Rx.q rfl (.move rfl) ?_
      refine Rx.nil fun aa ww hzz => (then_normal ⟨(v41, j + 1), by show j + 1 ≤ l.length; omega, (by omega), hzz.to (.cons rfl (.cons rfl (.cons rfl (.cons rfl (.cons rfl (.cons rfl .nil))))))⟩)
    · -- way
      have h37 := of_decide_eq_false h37
      have hr : l[j].f.right = false := (frameS_nil _).1 (by simpa using h37)
      refine Gx.skip fun aa ww hzz => (blk_normal (then_normal (Gx.go hzz ?_)))
      -- region 15
      refine Gx.region ?_
      refine Rx.q rfl (.add_ rfl rfl (by omega)) ?_
      refine Rx.q rfl (.move rfl) ?_
      rw [← rights_no l hj hr]
      refine Rx.nil fun aa ww hzz => (then_normal ⟨(q, j + 1), by show j + 1 ≤ l.length; omega, (by omega), hzz.to (.cons rfl (.cons rfl (.cons rfl (.cons rfl (.cons rfl (.cons rfl .nil))))))⟩)
  · -- way
    have h21 := of_decide_eq_false h21
    obtain rfl : j = l.length := by omega
    rw [List.take_length]
    refine Gx.exit fun aa ww hzz => (then_exit (then_exit (blk_exit (then_normal (Gx.go hzz ?_)))))
    refine Gx.seq ?_
    -- region 16
    refine Gx.seq_region ?_
    refine Rx.q rfl (.move rfl) ?_
    refine Rx.q rfl (.gtr rfl rfl) ?_
    refine Rx.next ?_
    refine Gx.cond rfl (fun h44 => ?_) (fun h44 => ?_)
    · -- way
      have h44 := of_decide_eq_true h44
      -- region 17
      refine Gx.seq_region ?_
      refine Rx.q rfl (.assign rfl) ?_
      refine Rx.next ?_
      refine Gx.ret fun aa ww hzz => (then_ret (fin_tmp hzz rfl rfl (⟨rfl, rfl⟩)))
    · -- way
      have h44 := of_decide_eq_false h44
      have hs2 : sumN l ≤ 2000 := by omega
      have hfl := filmS_le2 l ho
      have hpf := rights_film l ho
      have hrl : (rights l).length ≤ l.length := List.length_filter_le _ _
      refine Gx.skip fun aa ww hzz => (then_normal (Gx.go hzz ?_))
      -- region 18
      refine Gx.seq_region ?_
      refine Rx.q rfl (.move rfl) ?_
      refine Rx.q rfl (OpQ.call (caps := []) (M0 := [lib, rd 9 v l.length (frsC l), shrAll (frR l)]) (text_Film v l hn ho (by omega)) rfl rfl (.cons (Inn.gives (.shr .here)) (.cons (Inn.gives (.shr (.there .here))) (.cons (Inn.gives (.shr (.there (.there .here)))) .nil)))) ?_
      refine Rx.q rfl (.assign rfl) ?_
      refine Rx.next ?_
      -- region 19
      refine Gx.seq_region ?_
      refine Rx.q rfl (.move rfl) ?_
      refine Rx.cal (caps := []) (text_ParseFilm (filmS l) (by omega)) rfl rfl rfl fun v49 L49 hP49 => ?_
      obtain ⟨v49, l49, rfl, rfl, hl49, ho49⟩ := hP49
      rw [hpf]
      rw [hpf] at hl49
      dsimp only
      have hlen : l49.length = (rights l).length := by have := congrArg List.length hl49; simpa using this
      refine Rx.q rfl (.move rfl) ?_
      refine Rx.q rfl (.extract rfl rfl) ?_
      refine Rx.q rfl (.extract rfl rfl) ?_
      refine Rx.q rfl (.assign rfl) ?_
      refine Rx.q rfl (.assign rfl) ?_
      refine Rx.next ?_
      refine Gx.seq ?_
      -- region 20
      refine Gx.seq_region ?_
      refine Rx.q rfl (.move rfl) ?_
      refine Rx.q rfl (.lens rfl) ?_
      refine Rx.q rfl (.move rfl) ?_
      refine Rx.q rfl (.lens rfl) ?_
      refine Rx.q rfl ((OpQ.neq rfl rfl).val (u := .bool false) (congrArg Value.bool (decide_eq_false (by rw [hlen]; simp)))) ?_
      refine Rx.q rfl (.move rfl) ?_
      refine Rx.guard_yes rfl rfl rfl (Rx.q rfl (.move rfl) ?_)
      refine Rx.guard_yes rfl rfl rfl (Rx.q rfl (.move rfl) ?_)
      refine Rx.guard_yes rfl rfl rfl (Rx.q rfl (.len_s rfl) ?_)
      refine Rx.guard_yes rfl rfl rfl (Rx.q rfl ((OpQ.neq rfl rfl).val (u := .bool false) (congrArg Value.bool (decide_eq_false (by simp)))) ?_)
      refine Rx.q rfl (.pick_f rfl rfl) ?_
      refine Rx.next ?_
      refine Gx.cond_f rfl ?_
      refine Gx.skip fun aa ww hzz => (then_normal (Gx.go hzz ?_))
      refine Gx.seq ?_
      -- region 22
      refine Gx.seq_region ?_
      refine Rx.q rfl (.move rfl) ?_
      refine Rx.q rfl (.lens rfl) ?_
      refine Rx.q rfl (.move rfl) ?_
      refine Rx.next ?_
      refine Gx.block ?_
      refine Gx.lp (α := Nat) (fun j => j ≤ (rights l).length) (fun j => (rights l).length - j) (fun j => [(4, q), (10, v49), (63, q), (64, .int .i64 (rights l).length), (65, .int .i64 j)])
        (fun j => [sl 40 9 q (rights l).length (frsC (rights l)), sl 40 9 v49 l49.length (frsC l49), bag (frS l49)]) (0) (Nat.zero_le _) ?_ (fun j hx => ?_)
      · exact (.cons rfl (.cons rfl (.cons rfl (.cons rfl (.cons rfl .nil)))))
      -- region 23
      refine Gx.seq_region ?_
      refine Rx.q rfl (.lss rfl rfl) ?_
      refine Rx.next ?_
      refine Gx.seq ?_
      refine Gx.cond rfl (fun h66 => ?_) (fun h66 => ?_)
      · -- way
        have h66 := of_decide_eq_true h66
        have hj : j < (rights l).length := by omega
        have hj2 : j < l49.length := by omega
        obtain ⟨hml, hrr⟩ := rights_mem (List.getElem_mem hj)
        have hx2 := ho _ hml
        obtain ⟨hm1, hm2, hm3⟩ := mem_frR hml
        obtain ⟨hb1, hb2, hb3⟩ := frS_mem hj2
        have hsame : l49[j].f = (rights l)[j].f := by
          have := List.getElem_of_eq hl49 (i := j) (by simpa using hj2)
          simpa using this
        have hfle := frameS_le (rights l)[j].f hx2.fit
        have hpr := parse_frame hrr hx2.fit
        refine Gx.skip fun aa ww hzz => (then_normal (Gx.go hzz ?_))
        refine Gx.seq ?_
        refine Gx.block ?_
        -- region 24
        refine Gx.seq_region ?_
        refine Rx.q rfl (.move rfl) ?_
        refine Rx.q rfl (.idx (j := j * 9) rfl rfl (by omega) (by omega)) ?_
        refine Rx.q rfl (.ldsn (us := (rights l)[j].c) rfl (frsC_sub (rights l) hj) (by rfl) (by simp)) ?_
        refine Rx.alloc (zs := [.int .i64 0, .int .i64 0, .slice none 0 0, .int .i64 0, .int .i64 0, .slice none 0 0, .int .i64 0, .int .i64 0, .slice none 0 0]) rfl rfl fun b13 => ?_
        refine Rx.q rfl (.assign rfl) ?_
        refine Rx.stc rfl rfl (by simp only [List.all_cons, List.all_nil, one_int, hx2.one.1, hx2.one.2.1, hx2.one.2.2, Bool.and_true]) (by rfl) ?_
        refine Rx.next ?_
        -- region 25
        refine Gx.seq_region ?_
        refine Rx.q rfl (.ldc rfl (by rfl)) ?_
        refine Rx.q rfl (OpQ.call (caps := []) (text_Frame (rights l)[j].f (rights l)[j].u (rights l)[j].v (rights l)[j].w hx2.one.1 hx2.one.2.1 hx2.one.2.2 hx2.le hx2.fit) rfl rfl (.cons (Inn.gives (.shr .here)) (.cons (giv_all hm1) (.cons (giv_all hm2) (.cons (giv_all hm3) .nil))))) ?_
        refine Rx.cal (caps := []) (text_ParseFrame (frameS (rights l)[j].f) (by omega)) rfl rfl rfl fun v73 L73 hP73 => ?_
        obtain ⟨u73, v73, w73, rfl, rfl, hou73, hov73, how73⟩ := hP73
        rw [hpr]
        dsimp only
        refine Rx.q rfl (.move rfl) ?_
        refine Rx.q rfl (.extract rfl rfl) ?_
        refine Rx.q rfl (.extract rfl rfl) ?_
        refine Rx.alloc (zs := [.int .i64 0, .int .i64 0, .slice none 0 0, .int .i64 0, .int .i64 0, .slice none 0 0, .int .i64 0, .int .i64 0, .slice none 0 0]) rfl rfl fun b14 => ?_
        refine Rx.stc rfl rfl (by first | rfl | simp only [List.all_cons, List.all_nil, one_int, one_bool, one_str, one_ptr, one_slice, one_func, Bool.and_true, Bool.true_and, *]) (by rfl) ?_
        refine Rx.q rfl (.assign rfl) ?_
        refine Rx.next ?_
        refine Gx.seq ?_
        -- region 26
        refine Gx.region_quiet mixed (by kernel_rfl) ?_
        refine Dx.q rfl (.move rfl) ?_
        refine Dx.q rfl (.not rfl) ?_
        refine Dx.q rfl (.move rfl) ?_
        refine Dx.guard_yes rfl rfl rfl (Dx.q rfl (.ldc rfl (by rfl)) ?_)
        refine Dx.guard_yes rfl rfl rfl (Dx.q rfl (.ldc rfl (by rfl)) ?_)
        refine Dx.guard_yes rfl rfl rfl (Dx.q rfl ((OpQ.call (caps := []) (ref24_Same (rights l)[j].f (rights l)[j].f (rights l)[j].u (rights l)[j].v (rights l)[j].w u73 v73 w73 hx2.le) rfl rfl (.cons (giv_all hm1) (.cons (giv_all hm2) (.cons (giv_all hm3) (.cons RdOf.ok (.cons RdOf.ok (.cons RdOf.ok .nil))))))).val (u := .bool true) (congrArg Value.bool (decide_eq_true rfl))) ?_)
        refine Dx.guard_yes rfl rfl rfl (Dx.q rfl (.not rfl) ?_)
        refine Dx.q rfl (.pick_f rfl rfl) ?_
        refine Dx.q rfl (.move rfl) ?_
        refine Dx.guard_yes rfl rfl rfl (Dx.q rfl (.ldc rfl (by rfl)) ?_)
        refine Dx.guard_yes rfl rfl rfl (Dx.q rfl (.move rfl) ?_)
        refine Dx.guard_yes rfl rfl rfl (Dx.q rfl (.move rfl) ?_)
        refine Dx.guard_yes rfl rfl rfl (Dx.q rfl (.idx (j := j * 9) rfl rfl (by omega) (by omega)) ?_)
        refine Dx.guard_yes rfl rfl rfl (Dx.q rfl (.ldsn (us := l49[j].c) rfl (frsC_sub l49 hj2) (by rfl) (by simp)) ?_)
        refine Dx.guard_yes rfl rfl rfl (Dx.q rfl ((OpQ.call (caps := []) (ref24_Same (rights l)[j].f l49[j].f (rights l)[j].u (rights l)[j].v (rights l)[j].w l49[j].u l49[j].v l49[j].w hx2.le) rfl rfl (.cons (giv_all hm1) (.cons (giv_all hm2) (.cons (giv_all hm3) (.cons (giv_of_bag hb1 fun w F h => rd_of_sl w F h) (.cons (giv_of_bag hb2 fun w F h => rd_of_sl w F h) (.cons (giv_of_bag hb3 fun w F h => rd_of_sl w F h) .nil))))))).val (u := .bool true) (congrArg Value.bool (decide_eq_true hsame.symm))) ?_)
        refine Dx.guard_yes rfl rfl rfl (Dx.q rfl (.not rfl) ?_)
        refine Dx.q rfl (.pick_f rfl rfl) ?_
        refine Dx.nextQ ?_
        refine Gx.cond_f rfl ?_
        refine Gx.skip fun aa ww hzz => (blk_normal (then_normal (Gx.go hzz ?_)))
        -- region 28
        refine Gx.region ?_
        refine Rx.q rfl (.add_ rfl rfl (by omega)) ?_
        refine Rx.q rfl (.move rfl) ?_
        refine Rx.nil fun aa ww hzz => (then_normal ⟨j + 1, by omega, (by omega), hzz.to (.cons rfl (.cons rfl (.cons rfl (.cons rfl (.cons rfl .nil)))))⟩)
      · -- way
        have h66 := of_decide_eq_false h66
        refine Gx.exit fun aa ww hzz => (then_exit (then_exit (blk_exit (then_normal (Gx.go hzz ?_)))))
        -- region 29
        refine Gx.seq_region ?_
        refine Rx.q rfl (.assign rfl) ?_
        refine Rx.next ?_
        refine Gx.ret fun aa ww hzz => (fin_tmp hzz rfl rfl (⟨rfl, rfl⟩))

end Go.Proofs.YtoiebfpafdcbmaaDoor
