/- Contracts of layer arith: the encoder's parts. -/
import Derived.Test.YtoiebfpafdcbmaaDoorB6
import Derived.Test.YtoiebfpafdcbmaaDoorKi
namespace Go.Proofs.YtoiebfpafdcbmaaDoor
open Go Go.RowKit K
set_option linter.unusedVariables false
set_option linter.unusedSimpArgs false

/-- Numbers as cells. -/
abbrev intsV (l : List Int) : List Value := l.map (Value.int .i64)
theorem one_ints (l : List Int) : (intsV l).all (·.oneCell') = true := by simp [intsV, Value.oneCell']

/-- How many contexts there are. -/
def ctxN (c : Int) : Nat := (min (max c 1) 64).toNat
theorem ctxN_range (c : Int) : 1 ≤ ctxN c ∧ ctxN c ≤ 64 := by unfold ctxN; omega
/-- The chances at first, so many set. -/
def freshP (n j : Nat) : List Int := List.replicate j 32768 ++ List.replicate (n - j) 0
theorem freshP_length {n j : Nat} (h : j ≤ n) : (freshP n j).length = n := by simp [freshP]; omega
theorem freshP_set {n j : Nat} (h : j < n) : (freshP n j).set j 32768 = freshP n (j + 1) := by
  unfold freshP
  obtain ⟨m, hm⟩ : ∃ m, n - j = m + 1 := ⟨n - j - 1, by omega⟩
  rw [hm, show n - (j + 1) = m by omega, List.set_append_right _ _ (by simp), List.replicate_succ]
  simp [List.replicate_succ', List.append_assoc]

theorem arith_fresh (c : Int) : Spc Tryd.prog 36 [.int .i64 c] [] []
    (fun u L => ∃ v, u = .agg #[v, .int .i64 0] ∧ v.oneCell' = true ∧ L = [sl 3 1 v (ctxN c) (intsV (List.replicate (ctxN c) 32768))]) := by
  have hc := ctxN_range c
  generalize hk : ctxN c = n at *
  refine Spc.intro Tryd.func36 rfl Tryd.ntmps36 (by kernel_rfl) rfl rfl fun w0 F0 => ?_
  refine Gx.seq_region ?_
  refine Rx.alloc rfl rfl fun b2 => ?_
  refine Rx.next ?_
  refine Gx.seq_region ?_
  refine Rx.q rfl (.move rfl) ?_
  refine Rx.q rfl (.max rfl rfl) ?_
  refine Rx.q rfl ((OpQ.min rfl rfl).val (u := .int .i64 n) (by rw [← hk]; unfold ctxN; congr 1; split <;> split <;> omega)) ?_
  refine Rx.makeSlice rfl rfl (by omega) rfl fun v8 hv8 => ?_
  refine Rx.q rfl (.assign rfl) ?_
  refine Rx.next ?_
  refine Gx.seq ?_
  refine Gx.seq_region ?_
  refine Rx.q rfl (.move rfl) ?_
  refine Rx.q rfl (.lens rfl) ?_
  refine Rx.q rfl (.move rfl) ?_
  refine Rx.next ?_
  refine Gx.block ?_
  refine Gx.castL (L' := [sl 3 1 v8 n (intsV (freshP n 0)), pt b2 69 [.slice none 0 0, .int .i64 0]]) (by
    congr 2
    rw [show ((n : Int).toNat * 1) = n by omega]
    show (madeCells #[Value.int .i64 0] n).toList = _
    rw [toList_madeCells_one]; simp [freshP, intsV]) ?_
  refine Gx.lp (α := Nat) (fun j => j ≤ n) (fun j => n - j) (fun j => [(2, .pointer (some ⟨b2, 0, none⟩)), (3, v8), (10, .int .i64 n), (11, .int .i64 j)]) (fun j => [sl 3 1 v8 n (intsV (freshP n j)), pt b2 69 [.slice none 0 0, .int .i64 0]]) 0 (by omega) ?_ (fun j hj => ?_)
  · exact .cons rfl (.cons rfl (.cons rfl (.cons rfl .nil)))
  have hfl := freshP_length (n := n) (j := j) (by omega)
  refine Gx.seq_region ?_
  refine Rx.q rfl (.lss rfl rfl) ?_
  refine Rx.next ?_
  refine Gx.seq ?_
  refine Gx.cond rfl (fun h => ?_) (fun h => ?_)
  · have h := of_decide_eq_true h
    refine Gx.skip fun a w hs => (then_normal (Gx.go hs ?_))
    refine Gx.seq ?_
    refine Gx.block ?_
    refine Gx.seq_region ?_
    refine Rx.q rfl (.move rfl) ?_
    refine Rx.q rfl (.assign rfl) ?_
    refine Rx.next ?_
    refine Gx.region ?_
    refine Rx.q rfl (.move rfl) ?_
    refine Rx.q rfl (.move rfl) ?_
    refine Rx.q rfl (.idx (j := j) rfl rfl (by omega) (by omega)) ?_
    refine Rx.sti (l := freshP n j) rfl rfl rfl (by omega) ?_
    rw [freshP_set (by omega)]
    refine Rx.nil fun a w hs => (blk_normal (then_normal (Gx.go hs ?_)))
    refine Gx.region ?_
    refine Rx.q rfl ((OpQ.add_ rfl rfl (by omega)).val (u := .int .i64 (j + 1 : Nat)) (by simp)) ?_
    refine Rx.q rfl (.move rfl) ?_
    refine Rx.nil fun a w hs => (then_normal ⟨j + 1, by omega, by omega, hs.to (.cons rfl (.cons rfl (.cons rfl (.cons rfl .nil))))⟩)
  · have h := of_decide_eq_false h
    have hjn : j = n := by omega
    subst hjn
    refine Gx.exit fun a w hs => (then_exit (then_exit (blk_exit (then_normal (Gx.go hs ?_)))))
    refine Gx.one v8 fun h8 => ?_
    refine Gx.seq_region ?_
    refine Rx.q rfl (.move rfl) ?_
    refine Rx.q rfl (.build (cs := [v8, .int .i64 0]) rfl (by cases v8 <;> first | rfl | exact Bool.noConfusion h8)) ?_
    refine Rx.stn rfl rfl (by simp only [List.all_cons, h8]; rfl) rfl (Nat.le_refl _) rfl ?_
    refine Rx.next ?_
    refine Gx.castL (L' := [pt b2 69 [v8, .int .i64 0], sl 3 1 v8 j (intsV (List.replicate j 32768))]) (by simp [freshP]) ?_
    refine Gx.ret fun a w hs => (fin_cell hs rfl rfl rfl rfl ⟨v8, rfl, h8, rfl⟩)

/-! ### Encoders -/
structure EncS where
  ps : List Int
  n : Nat
  low : Int
  size : Int
  owed : Nat
  out : List Bool
def EncS.new (c : Int) : EncS := ⟨List.replicate (ctxN c) 32768, 0, 0, 65536, 0, []⟩

/-- The encoder at block p is in this state; its slice of chances and its writer's block are given. -/
abbrev encL (p : Nat) (e : EncS) (x : Value × Nat) : List As :=
  [pt p 77 [x.1, .int .i64 e.n, .int .i64 e.low, .int .i64 e.size, .int .i64 e.owed, .pointer (some ⟨x.2, 0, none⟩)], sl 3 1 x.1 e.ps.length (intsV e.ps), wr x.2 e.out]
abbrev enc (p : Nat) (e : EncS) : As := As.ex (encL p e) (fun x => x.1.oneCell' = true)

section
variable {P : Program} {X : Cx} {E : List (Nat × Value)} {L L1 M : List As} {Q : Exit → Act → World → Prop} {a : Act} {w : World} {p : Nat} {e : EncS}
theorem enc_opn {c : Code} [ht : TakeA L (enc p e) L1] (h : ∀ (v : Value) (q : Nat), v.oneCell' = true → Gx P X c E (pt p 77 [v, .int .i64 e.n, .int .i64 e.low, .int .i64 e.size, .int .i64 e.owed, .pointer (some ⟨q, 0, none⟩)] :: sl 3 1 v e.ps.length (intsV e.ps) :: wr q e.out :: L1) M Q) : Gx P X c E L M Q :=
  Gx.opn (ht := ht) fun v hv => h v.1 v.2 hv
theorem enc_opnM {c : Code} {M1 : List As} [ht : TakeA M (enc p e) M1] (h : ∀ (v : Value) (q : Nat), v.oneCell' = true → Gx P X c E L (pt p 77 [v, .int .i64 e.n, .int .i64 e.low, .int .i64 e.size, .int .i64 e.owed, .pointer (some ⟨q, 0, none⟩)] :: sl 3 1 v e.ps.length (intsV e.ps) :: wr q e.out :: M1) Q) : Gx P X c E L M Q :=
  Gx.opnM (ht := ht) fun v hv => h v.1 v.2 hv
theorem enc_shut (v : Value) (q : Nat) (hv : v.oneCell' = true) [ht : PickA L [pt p 77 [v, .int .i64 e.n, .int .i64 e.low, .int .i64 e.size, .int .i64 e.owed, .pointer (some ⟨q, 0, none⟩)], sl 3 1 v e.ps.length (intsV e.ps), wr q e.out] L1]
    (hs : St X E L M a w) : St X E (enc p e :: L1) M a w := hs.shut (f := encL p e) (v, q) hv (ht := ht)
end

theorem pack_none (c : Int) : pack (EncS.new c).out = [] := List.eq_nil_of_length_eq_zero (by rw [pack_length]; simp [EncS.new])
theorem arith_NewEncoder (c : Int) : Spc Tryd.prog 9 [.int .i64 c] [] [] (fun u L => ∃ p, u = .pointer (some ⟨p, 0, none⟩) ∧ L = [enc p (EncS.new c)]) := by
  refine Spc.intro Tryd.func9 rfl Tryd.ntmps9 (by kernel_rfl) rfl rfl fun w0 F0 => ?_
  refine Gx.seq_region ?_
  refine Rx.q rfl (.assign rfl) ?_
  refine Rx.next ?_
  refine Gx.seq_region ?_
  refine Rx.q rfl (.move rfl) ?_
  refine Rx.cal (caps := []) (arith_fresh c) rfl rfl rfl ?_
  rintro u L1 ⟨v, rfl, hv, rfl⟩
  refine Rx.q rfl (.build (cs := [.int .i64 0, .int .i64 65536]) rfl (by rfl)) ?_
  refine Rx.q rfl (.build (cs := [.slice none 0 0, .int .i64 0]) rfl (by rfl)) ?_
  refine Rx.box (vs := [.slice none 0 0, .int .i64 0]) rfl rfl rfl fun b7 => ?_
  refine Rx.q rfl (.build (cs := [v, .int .i64 0, .int .i64 0, .int .i64 65536, .int .i64 0, .pointer (some ⟨b7, 0, none⟩)]) rfl (by rfl)) ?_
  refine Rx.box (vs := [v, .int .i64 0, .int .i64 0, .int .i64 65536, .int .i64 0, .pointer (some ⟨b7, 0, none⟩)]) rfl rfl rfl fun b9 => ?_
  refine Rx.q rfl (.assign rfl) ?_
  refine Rx.next ?_
  refine Gx.nilS (e := 5) (sz := 1) ?_
  refine Gx.castL (L' := [sl 5 1 (.slice none 0 0) (pack (EncS.new c).out).length (bytesV (pack (EncS.new c).out)), pt b9 77 [v, .int .i64 (EncS.new c).n, .int .i64 (EncS.new c).low, .int .i64 (EncS.new c).size, .int .i64 (EncS.new c).owed, .pointer (some ⟨b7, 0, none⟩)],
    pt b7 75 [.slice none 0 0, .int .i64 ((EncS.new c).out.length : Nat)], sl 3 1 v (EncS.new c).ps.length (intsV (EncS.new c).ps)]) (by
    rw [show (EncS.new c).ps.length = ctxN c from List.length_replicate .., pack_none]; rfl) ?_
  refine Gx.ret fun a w hs => ?_
  exact fin_tmp (enc_shut (p := b9) (e := EncS.new c) v b7 hv (wr_shut (p := b7) (bs := (EncS.new c).out) (.slice none 0 0) hs)) rfl rfl ⟨b9, rfl, rfl⟩

theorem replicate_snoc {α : Type} (n : Nat) (a : α) : List.replicate n a ++ [a] = List.replicate (n + 1) a := List.replicate_succ'.symm
theorem arith_write (p : Nat) (bs : List Bool) (b : Bool) (owed : Nat) (h : bs.length + owed ≤ 2 ^ 39) :
    Spc Tryd.prog 43 [.pointer (some ⟨p, 0, none⟩), .bool b, .int .i64 owed] [wr p bs] [] (fun u L => u = .tuple #[] ∧ L = [wr p (bs ++ b :: List.replicate owed (!b))]) := by
  refine Spc.intro Tryd.func43 rfl Tryd.ntmps43 (by kernel_rfl) rfl rfl fun w0 F0 => ?_
  refine Gx.seq_region ?_
  refine Rx.q rfl (.move rfl) ?_
  refine Rx.q rfl (.move rfl) ?_
  refine Rx.cal (caps := []) (bits_Writer_Bit p bs b (by omega)) rfl rfl rfl ?_
  rintro u L1 ⟨rfl, rfl⟩
  refine Rx.next ?_
  refine Gx.seq_region ?_
  refine Rx.q rfl (.move rfl) ?_
  refine Rx.q rfl (.move rfl) ?_
  refine Rx.next ?_
  refine Gx.block ?_
  refine Gx.castL (L' := [wr p (bs ++ b :: List.replicate 0 (!b))]) rfl ?_
  refine Gx.lp (α := Nat) (fun j => j ≤ owed) (fun j => owed - j) (fun j => [(0, .pointer (some ⟨p, 0, none⟩)), (1, .bool b), (9, .int .i64 owed), (10, .int .i64 j)]) (fun j => [wr p (bs ++ b :: List.replicate j (!b))]) 0 (by omega) ?_ (fun j hj => ?_)
  · exact .cons rfl (.cons rfl (.cons rfl (.cons rfl .nil)))
  refine Gx.seq_region ?_
  refine Rx.q rfl (.lss rfl rfl) ?_
  refine Rx.next ?_
  refine Gx.seq ?_
  refine Gx.cond rfl (fun h => ?_) (fun h => ?_)
  · have h := of_decide_eq_true h
    refine Gx.skip fun a w hs => (then_normal (Gx.go hs ?_))
    refine Gx.seq ?_
    refine Gx.block ?_
    refine Gx.region ?_
    refine Rx.q rfl (.move rfl) ?_
    refine Rx.q rfl (.move rfl) ?_
    refine Rx.q rfl (.not rfl) ?_
    refine Rx.cal (caps := []) (bits_Writer_Bit p (bs ++ b :: List.replicate j (!b)) (!b) (by simp; omega)) rfl rfl rfl ?_
    rintro u L1 ⟨rfl, rfl⟩
    refine Rx.castL (L' := [wr p (bs ++ b :: List.replicate (j + 1) (!b))]) (by rw [List.append_nil, List.append_assoc, List.cons_append, replicate_snoc]) ?_
    refine Rx.nil fun a w hs => (blk_normal (then_normal (Gx.go hs ?_)))
    refine Gx.region ?_
    refine Rx.q rfl ((OpQ.add_ rfl rfl (by omega)).val (u := .int .i64 (j + 1 : Nat)) (by simp)) ?_
    refine Rx.q rfl (.move rfl) ?_
    refine Rx.nil fun a w hs => (then_normal ⟨j + 1, by omega, by omega, hs.to (.cons rfl (.cons rfl (.cons rfl (.cons rfl .nil))))⟩)
  · have h := of_decide_eq_false h
    have hjn : j = owed := by omega
    subst hjn
    refine Gx.exit fun a w hs => (then_exit (then_exit (blk_exit (fin_end hs rfl ⟨rfl, rfl⟩))))
end Go.Proofs.YtoiebfpafdcbmaaDoor
