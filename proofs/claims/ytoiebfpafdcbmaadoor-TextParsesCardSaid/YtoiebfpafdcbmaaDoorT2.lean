/- Contracts of layer text: films as texts; a text's lines, numbers, planes. -/
import Derived.Test.YtoiebfpafdcbmaaDoorT1
namespace Go.Proofs.YtoiebfpafdcbmaaDoor
open Go Go.RowKit K
set_option linter.unusedVariables false
set_option linter.unusedSimpArgs false

/-- A frame and where its numbers lie. -/
structure FrV where
  f : Fr
  u : Value
  v : Value
  w : Value
abbrev FrV.c (x : FrV) : List Value := frC x.f x.u x.v x.w
def frsC (l : List FrV) : List Value := l.flatMap FrV.c
def frR (l : List FrV) : List As := l.flatMap fun x => [plR x.f.a x.u, plR x.f.b x.v, plR x.f.c x.w]
structure FrV.ok (x : FrV) : Prop where
  one : x.u.oneCell' = true ∧ x.v.oneCell' = true ∧ x.w.oneCell' = true
  le : x.f.a.l.length ≤ 1099511627776 ∧ x.f.b.l.length ≤ 1099511627776 ∧ x.f.c.l.length ≤ 1099511627776
  fit : i64s x.f.a.l ∧ i64s x.f.b.l ∧ i64s x.f.c.l
theorem flat_len {α : Type} (k : Nat) (f : α → List Value) (hk : ∀ x, (f x).length = k) : ∀ l : List α, (l.flatMap f).length = l.length * k
  | [] => by simp
  | x :: l => by rw [List.flatMap_cons, List.length_append, hk, flat_len k f hk l, List.length_cons, Nat.succ_mul, Nat.add_comm]
theorem flat_sub {α : Type} (k : Nat) (f : α → List Value) (hk : ∀ x, (f x).length = k) : ∀ (l : List α) (j : Nat) (h : j < l.length), ((l.flatMap f).drop (j * k)).take k = f l[j]
  | x :: l, 0, _ => by simp [hk, List.take_append_of_le_length]
  | x :: l, j + 1, h => by
    rw [List.flatMap_cons, Nat.succ_mul, Nat.add_comm, ← List.drop_drop, List.drop_left' (hk x)]
    simpa using flat_sub k f hk l j (by simpa using h)
theorem frsC_length (l : List FrV) : (frsC l).length = l.length * 9 := flat_len 9 _ (fun _ => rfl) l
theorem frsC_sub (l : List FrV) {j : Nat} (h : j < l.length) : ((frsC l).drop (j * 9)).take 9 = l[j].c := flat_sub 9 _ (fun _ => rfl) l j h
theorem frR_mem {l : List FrV} {j : Nat} (h : j < l.length) : plR l[j].f.a l[j].u ∈ frR l ∧ plR l[j].f.b l[j].v ∈ frR l ∧ plR l[j].f.c l[j].w ∈ frR l := by
  have hm : l[j] ∈ l := List.getElem_mem h
  refine ⟨?_, ?_, ?_⟩ <;> exact List.mem_flatMap.2 ⟨_, hm, by simp⟩
def filmS (l : List FrV) : List UInt8 := l.flatMap fun x => frameS x.f
theorem filmS_take (l : List FrV) {j : Nat} (h : j < l.length) : filmS (l.take (j + 1)) = filmS (l.take j) ++ frameS l[j].f := by
  rw [List.take_succ_eq_append_getElem h, filmS, List.flatMap_append, List.flatMap_singleton]; rfl
theorem filmS_take_le (l : List FrV) (j : Nat) : (filmS (l.take j)).length ≤ (filmS l).length := by
  have : filmS l = filmS (l.take j) ++ filmS (l.drop j) := by rw [filmS, filmS, filmS, ← List.flatMap_append, List.take_append_drop]
  rw [this, List.length_append]; omega

theorem has_mem {w : World} : ∀ {L : List As} {F : Nat → Prop} {A : As}, Has w L F → A ∈ L → ∃ G, A.P w G ∧ ∀ b, G b → F b
  | [], _, _, _, h => by cases h
  | _ :: _, _, _, ⟨F1, F2, h1, h2, _, h4⟩, h => by
    rcases List.mem_cons.1 h with rfl | h
    · exact ⟨F1, h1, fun b hb => (h4 b).2 (.inl hb)⟩
    · obtain ⟨G, g, hg⟩ := has_mem h2 h
      exact ⟨G, g, fun b hb => (h4 b).2 (.inr (hg b hb))⟩
theorem giv_of_bag {R M B : List As} {A C : As} (hC : C ∈ B) (k : ∀ (w : World) F, C.P w F → ∃ G, A.P w G ∧ ∀ b, G b → F b) [h : InnA R M (bag B)] : Gives R M A :=
  ⟨bag B, h.ok, fun w F hF => let ⟨G, g, hg⟩ := has_mem hF hC; let ⟨G', g', hg'⟩ := k w G g; ⟨G', g', fun b hb => hg b (hg' b hb)⟩⟩
theorem giv_all_bag {R M B Ls : List As} (k : ∀ A ∈ Ls, ∃ C ∈ B, ∀ (w : World) F, C.P w F → ∃ G, A.P w G ∧ ∀ b, G b → F b) [h : InnA R M (bag B)] : Gives R M (shrAll Ls) :=
  ⟨bag B, h.ok, fun w F hF => ⟨F, ⟨fun A hA => by
    obtain ⟨C, hC, hk⟩ := k A hA
    obtain ⟨G, g, hg⟩ := has_mem hF hC
    obtain ⟨G', g', hg'⟩ := hk w G g
    exact ⟨G', g', fun b hb => hg b (hg' b hb)⟩, (bag B).lt hF⟩, fun b hb => hb⟩⟩
/-- The planes' numbers of many frames, owned. -/
def frS (l : List FrV) : List As := l.flatMap fun x => [plS x.f.a x.u, plS x.f.b x.v, plS x.f.c x.w]
theorem frS_snoc (l : List FrV) (x : FrV) : frS (l ++ [x]) = frS l ++ [plS x.f.a x.u, plS x.f.b x.v, plS x.f.c x.w] := by simp [frS]
theorem frsC_snoc (l : List FrV) (x : FrV) : frsC (l ++ [x]) = frsC l ++ x.c := by simp [frsC]
theorem frS_R (l : List FrV) : ∀ A ∈ frR l, ∃ C ∈ frS l, ∀ (w : World) F, C.P w F → ∃ G, A.P w G ∧ ∀ b, G b → F b := by
  intro A hA
  obtain ⟨x, hx, h⟩ := List.mem_flatMap.1 hA
  simp only [List.mem_cons, List.not_mem_nil, or_false] at h
  rcases h with rfl | rfl | rfl
  · exact ⟨_, List.mem_flatMap.2 ⟨x, hx, by simp; left; rfl⟩, fun w F h => rd_of_sl w F h⟩
  · exact ⟨_, List.mem_flatMap.2 ⟨x, hx, by simp; right; left; rfl⟩, fun w F h => rd_of_sl w F h⟩
  · exact ⟨_, List.mem_flatMap.2 ⟨x, hx, by simp; right; right; rfl⟩, fun w F h => rd_of_sl w F h⟩
theorem frS_mem {l : List FrV} {j : Nat} (h : j < l.length) : plS l[j].f.a l[j].u ∈ frS l ∧ plS l[j].f.b l[j].v ∈ frS l ∧ plS l[j].f.c l[j].w ∈ frS l := by
  have hm : l[j] ∈ l := List.getElem_mem h
  refine ⟨?_, ?_, ?_⟩ <;> exact List.mem_flatMap.2 ⟨_, hm, by simp⟩

theorem text_Film (v : Value) (l : List FrV) (hn : l.length ≤ 1099511627776) (ho : ∀ x ∈ l, x.ok) (ht : (filmS l).length ≤ 1099511627776) : Spc Tryd.prog 23 [v] [] [lib, rd 9 v l.length (frsC l), shrAll (frR l)] (ret (str (filmS l))) := by
  refine Spc.intro Tryd.func23 rfl Tryd.ntmps23 (by kernel_rfl) rfl rfl fun w0 F0 => ?_
  -- region 0
  refine Gx.seq_region ?_
  refine Rx.q rfl (.assign rfl) ?_
  refine Rx.next ?_
  -- region 1
  refine Gx.seq_region ?_
  refine Rx.alloc (zs := [.pointer none, .slice none 0 0]) rfl rfl fun b3 => ?_
  refine bld_newR ?_
  refine Rx.next ?_
  refine Gx.seq ?_
  -- region 2
  refine Gx.seq_region ?_
  refine Rx.q rfl (.move rfl) ?_
  refine Rx.q rfl (.lens rfl) ?_
  refine Rx.q rfl (.move rfl) ?_
  refine Rx.next ?_
  refine Gx.block ?_
  refine Gx.castL (L' := [bld b3 (filmS (l.take 0))]) rfl ?_
  refine Gx.lp (α := Nat) (fun j => j ≤ l.length) (fun j => l.length - j) (fun j => [(3, .pointer (some ⟨b3, 0, none⟩)), (6, v), (7, .int .i64 l.length), (8, .int .i64 j)])
    (fun j => [bld b3 (filmS (l.take j))]) (0) (Nat.zero_le _) ?_ (fun j hx => ?_)
  · exact (.cons rfl (.cons rfl (.cons rfl (.cons rfl .nil))))
  -- region 3
  refine Gx.seq_region ?_
  refine Rx.q rfl (.lss rfl rfl) ?_
  refine Rx.next ?_
  refine Gx.seq ?_
  refine Gx.cond rfl (fun h9 => ?_) (fun h9 => ?_)
  · -- way
    have h9 := of_decide_eq_true h9
    have hj : j < l.length := by omega
    have hx := ho _ (List.getElem_mem hj)
    obtain ⟨hm1, hm2, hm3⟩ := frR_mem hj
    have hle := filmS_take_le l j
    have hle2 := filmS_take_le l (j + 1)
    rw [filmS_take l hj, List.length_append] at hle2
    refine Gx.skip fun aa ww hzz => (then_normal (Gx.go hzz ?_))
    refine Gx.seq ?_
    refine Gx.block ?_
    -- region 4
    refine Gx.seq_region ?_
    refine Rx.q rfl (.idx (j := j * 9) rfl rfl (by omega) (by omega)) ?_
    refine Rx.q rfl (.ldsn (us := l[j].c) rfl (frsC_sub l hj) (by rfl) (by simp)) ?_
    refine Rx.alloc (zs := [.int .i64 0, .int .i64 0, .slice none 0 0, .int .i64 0, .int .i64 0, .slice none 0 0, .int .i64 0, .int .i64 0, .slice none 0 0]) rfl rfl fun b5 => ?_
    refine Rx.stc rfl rfl (by simp only [List.all_cons, List.all_nil, one_int, hx.one.1, hx.one.2.1, hx.one.2.2, Bool.and_true]) (by rfl) ?_
    refine Rx.next ?_
    -- region 5
    refine Gx.region ?_
    refine Rx.q rfl (.ldc rfl (by rfl)) ?_
    refine Rx.q rfl (OpQ.call (caps := []) (text_Frame l[j].f l[j].u l[j].v l[j].w hx.one.1 hx.one.2.1 hx.one.2.2 hx.le hx.fit) rfl rfl (.cons (Inn.gives (.shr .here)) (.cons (giv_all hm1) (.cons (giv_all hm2) (.cons (giv_all hm3) .nil))))) ?_
    refine Rx.sbStr rfl rfl (by first | omega | (simp only [List.length_append, List.length_cons, List.length_nil]; omega)) rfl ?_
    rw [← filmS_take l hj]
    refine Rx.nil fun aa ww hzz => (blk_normal (then_normal (Gx.go hzz ?_)))
    -- region 6
    refine Gx.region ?_
    refine Rx.q rfl (.add_ rfl rfl (by omega)) ?_
    refine Rx.q rfl (.move rfl) ?_
    refine Rx.nil fun aa ww hzz => (then_normal ⟨j + 1, by omega, (by omega), hzz.to (.cons rfl (.cons rfl (.cons rfl (.cons rfl .nil))))⟩)
  · -- way
    have h9 := of_decide_eq_false h9
    obtain rfl : j = l.length := by omega
    rw [List.take_length]
    refine Gx.exit fun aa ww hzz => (then_exit (then_exit (blk_exit (then_normal (Gx.go hzz ?_)))))
    -- region 7
    refine Gx.seq_region ?_
    refine Rx.sbText rfl rfl rfl ?_
    refine Rx.q rfl (.assign rfl) ?_
    refine Rx.next ?_
    refine Gx.ret fun aa ww hzz => (fin_tmp hzz rfl rfl (⟨rfl, rfl⟩))

end Go.Proofs.YtoiebfpafdcbmaaDoor
