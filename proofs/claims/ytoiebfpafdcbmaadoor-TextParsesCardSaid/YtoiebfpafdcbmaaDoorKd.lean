/- The rules of the logic for steps that write or make memory; for calls; for a function's begin and end. No program in sight. -/
import Derived.Test.YtoiebfpafdcbmaaDoorKc
namespace Go.Proofs.YtoiebfpafdcbmaaDoor.K
open Go Go.RowKit
set_option linter.unusedVariables false
set_option linter.unusedSimpArgs false

theorem eff_alloc (w : World) (o : Obj) (F : Nat → Prop) : Eff F w (w.alloc o) := ⟨rfl, rfl, rfl, by simp, fun b hb _ => Below.heap_alloc w o b hb⟩
theorem eff_set (w : World) (a : Addr) (x : Value) (F : Nat → Prop) (h : F a.block) : Eff F w (w.setCell a x) :=
  ⟨rfl, rfl, rfl, by simp, fun b _ hF => Below.heap_setCell w a x b (fun e => hF (e ▸ h))⟩
theorem eff_grown {w w' : World} {r : Option Nat} (h : w.grownBy w' r) (F : Nat → Prop) (hr : ∀ k, r = some k → F k) : Eff F w w' :=
  ⟨h.os, h.tape, h.output, h.size, fun b hb hF => h.block b hb (fun e => hF (hr b e.symm))⟩

/-- Something new beside what there is. -/
theorem Hp.new {w0 w w' : World} {F0 F1' : Nat → Prop} {L M : List As} {A : As} (h : Hp w0 F0 L M w) (hA : A.P w' F1') (hn : ∀ b, F1' b → w.heap.size ≤ b) (he : Eff (fun _ => False) w w') : Hp w0 F0 (A :: L) M w' := by
  obtain ⟨F, h1, h2, h3, h4⟩ := h
  exact Hp.step (L1 := [A]) (F1 := fun _ => False) (F1' := F1') h2 h3 h4 h1 (fun _ x => x.elim) (fun b => by simp) ⟨F1', fun _ => False, hA, fun _ x => x, fun _ _ x => x, fun b => by simp⟩ (fun b x => .inr (hn b x)) he
/-- One assertion turned into another. -/
theorem Hp.turn {w0 w w' : World} {F0 : Nat → Prop} {L L' M : List As} {A A' : As} (ht : Take L A L') (h : Hp w0 F0 L M w)
    (hA : ∀ F1, A.P w F1 → ∃ F1', A'.P w' F1' ∧ (∀ b, F1' b → F1 b ∨ w.heap.size ≤ b) ∧ Eff F1 w w') : Hp w0 F0 (A' :: L') M w' := by
  obtain ⟨F, h1, h2, h3, h4⟩ := h
  obtain ⟨F1, F2, k1, k2, k3, k4⟩ := ht.has h1
  obtain ⟨F1', g1, g2, g3⟩ := hA F1 k1
  exact Hp.step (L1 := [A']) h2 h3 h4 k2 k3 k4 ⟨F1', fun _ => False, g1, fun _ x => x, fun _ _ x => x, fun b => by simp⟩ g2 g3

section
variable {P : Program} {X : Cx} {E : List (Nat × Value)} {L L' M : List As} {Q : Exit → Act → World → Prop} {ops : Array Oper} {rest : List Oper} {d : Nat} {ty : TypeId} {pos : String} {af : Array Edge}

/-- An operation that yields a value and another world. -/
theorem Rx.of {o : Oper} {α : Type} (v : α → Value) (L1 : α → List As) (hg : o.guard = none) (hd : o.dst = some d) (hn : Nat.blt d X.n = true)
    (h : ∀ a, ASt X M E a → ∀ w, Hp X.w0 X.F0 L M w → ∃ x w', (execOp a.eval o).run P w = .ok (.value (v x)) w' ∧ Hp X.w0 X.F0 (L1 x) M w')
    (k : ∀ x, Rx P X ops rest ((d, v x) :: E) (L1 x) M Q) : Rx P X ops (o :: rest) E L M Q := by
  refine ⟨fun a w hs => ?_⟩
  obtain ⟨x, w', hr, hw'⟩ := h a hs.1 w hs.2
  unfold wpListIn
  rw [if_pos (wanted_none hg _)]
  exact opIn_value hr (by rw [hd]; exact (k x).out _ _ ⟨hs.1.put (by simpa using hn) _, hw'⟩)
theorem Rx.of_unit {o : Oper} {L1 : List As} (hg : o.guard = none) (hd : o.dst = none)
    (h : ∀ a, ASt X M E a → ∀ w, Hp X.w0 X.F0 L M w → ∃ w', (execOp a.eval o).run P w = .ok .skip w' ∧ Hp X.w0 X.F0 L1 M w')
    (k : Rx P X ops rest E L1 M Q) : Rx P X ops (o :: rest) E L M Q := by
  refine ⟨fun a w hs => ?_⟩
  obtain ⟨w', hr, hw'⟩ := h a hs.1 w hs.2
  unfold wpListIn
  rw [if_pos (wanted_none hg _)]
  exact opIn_skip hr (by rw [hd]; exact k.out _ _ ⟨hs.1, hw'⟩)

theorem Rx.store {t : TypeId} {x y : Operand} {p u : Value} {A A' : As} [CellTy P t] (hx : evalO E x = some p) (hy : evalO E y = some u) (h1 : u.oneCell' = true) (ht : Take L A L') (hs : A.st p u A')
    (k : Rx P X ops rest E (A' :: L') M Q) : Rx P X ops (⟨none, .store t x y, ty, pos, af, none⟩ :: rest) E L M Q := by
  refine Rx.of_unit rfl rfl (fun a ha w hw => ?_) k
  obtain ⟨F, hF⟩ := (Hp.of_inn (.own (by exact In.of_take ht)) hw)
  obtain ⟨ad, rfl, hb, ⟨u0, hc⟩, hfz, _⟩ := hs w F hF
  obtain ⟨dd, i, hu, hinf, hsz, _⟩ := CellTy.out P t
  refine ⟨w.setCell ad u, ?_, Hp.turn ht hw fun F1 hF1 => ?_⟩
  · have hcells : u.cells = #[u] := by cases u <;> first | rfl | simp [Value.oneCell'] at h1
    have hst : (Go.store (ad.add 0) u).run P w = Result.ok () (w.setCell ad u) := by
      have : ad.add 0 = ad := by simp [Addr.add]
      rw [this, run_store P w ad u .plain h1]; simp [hc, hfz]
    simp [execOp, ha.eval hx, ha.eval hy, Instr.storeAt, Instr.sureAddr, storeVar, sizeOf, typeInfo, hinf, hsz, hcells, storeCells, hst]
  · obtain ⟨ad', e, hb', _, _, hA'⟩ := hs w F1 hF1
    simp only [Value.pointer.injEq, Option.some.injEq] at e
    subst e
    exact ⟨F1, hA', fun b hb => .inl hb, eff_set w ad u F1 hb'⟩

/-- A new variable. -/
theorem Rx.alloc {t : TypeId} {z : Value} [hz : ZeroTy P t z] {zs : List Value} (hzs : z.cells.toList = zs) (hn : Nat.blt d X.n = true)
    (k : ∀ b, Rx P X ops rest ((d, .pointer (some ⟨b, 0, none⟩)) :: E) (pt b t zs :: L) M Q) : Rx P X ops (⟨some d, .alloc t, ty, pos, af, none⟩ :: rest) E L M Q := by
  refine Rx.of (fun b => .pointer (some ⟨b, 0, none⟩)) (fun b => pt b t zs :: L) rfl rfl hn (fun a ha w hw => ⟨w.heap.size, w.alloc (.cells z.cells t), ?_, ?_⟩) k
  · simp [execOp, Instr.alloc, ZeroTy.out P t w, newVar, newRow]
  · refine hw.new (F1' := fun k => k = w.heap.size) ⟨?_, fun k => Iff.rfl⟩ (fun b hb => by rw [hb]; exact Nat.le_refl _) (eff_alloc w _ _)
    subst hzs; simpa using heap_alloc_new w (.cells z.cells t)
theorem Rx.box {t : TypeId} {x : Operand} {v : Value} {vs : List Value} (hv : evalO E x = some v) (hvs : v.cells.toList = vs) (hn : Nat.blt d X.n = true)
    (k : ∀ b, Rx P X ops rest ((d, .pointer (some ⟨b, 0, none⟩)) :: E) (pt b t vs :: L) M Q) : Rx P X ops (⟨some d, .box t x, ty, pos, af, none⟩ :: rest) E L M Q := by
  refine Rx.of (fun b => .pointer (some ⟨b, 0, none⟩)) (fun b => pt b t vs :: L) rfl rfl hn (fun a ha w hw => ⟨w.heap.size, w.alloc (.cells v.cells t), ?_, ?_⟩) k
  · simp [execOp, Instr.box, ha.eval hv, newVar, newRow]
  · refine hw.new (F1' := fun k => k = w.heap.size) ⟨?_, fun k => Iff.rfl⟩ (fun b hb => by rw [hb]; exact Nat.le_refl _) (eff_alloc w _ _)
    subst hvs; simpa using heap_alloc_new w (.cells v.cells t)

theorem own_new (w : World) (e sz n c : Nat) (cs : List Value) (hc : cs.length = c * sz) (hnc : n ≤ c) (hm : c ≤ maxLen) :
    (w.alloc (.cells cs.toArray e)).ownsRow 0 e sz (.slice (some ⟨w.heap.size, 0, none⟩) n c) n (cs.take (n * sz)) :=
  ⟨by rw [List.length_take, hc]; exact Nat.min_eq_left (Nat.mul_le_mul_right _ hnc), .inr ⟨w.heap.size, c, cs.toArray, rfl, Nat.zero_le _, heap_alloc_new w _, hnc, hm, by simpa using hc, by simp⟩⟩

theorem Rx.makeSlice {t e sz bs : TypeId} {x y : Operand} {z : Value} {kl kc : IntKind} {n : Int} [SliceTy P t e sz bs] [hz : ZeroTy P e z] (hx : evalO E x = some (.int kl n)) (hy : evalO E y = some (.int kc n))
    (hb : 0 ≤ n ∧ bs * n ≤ 281474976710656 ∧ n ≤ 9223372036854775807) (hn : Nat.blt d X.n = true)
    (k : ∀ v, noSlice v = false → Rx P X ops rest ((d, v) :: E) (sl e sz v n.toNat (madeCells z.cells (n.toNat * sz)).toList :: L) M Q) : Rx P X ops (⟨some d, .makeSlice t x y, ty, pos, af, none⟩ :: rest) E L M Q := by
  refine Rx.of (α := { v : Value // noSlice v = false }) (fun v => v.1) (fun v => sl e sz v.1 n.toNat (madeCells z.cells (n.toNat * sz)).toList :: L) rfl rfl hn (fun a ha w hw => ?_) (fun v => k v.1 v.2)
  obtain ⟨i, z', hu, hinf, hz', hzs, hsz, hbs, hpos⟩ := SliceTy.out P t
  obtain rfl : z = z' := by have := hz.ok; simp [hinf, hz'] at this; exact this.symm
  have hr := run_make (P := P) w t e i z hu hinf hz' kl kc n n hb.1 (Int.le_refl _) (by rw [hbs]; exact hb.2.1) hb.2.2
  rw [hsz] at hr
  refine ⟨⟨.slice (some ⟨w.heap.size, 0, none⟩) n.toNat n.toNat, rfl⟩, w.alloc (.cells (madeCells z.cells (n.toNat * sz)) e), by simp [execOp, ha.eval hx, ha.eval hy, hr], ?_⟩
  refine hw.new (F1' := fun k => k = w.heap.size) ⟨?_, fun k => ?_⟩ (fun b hb => by rw [hb]; exact Nat.le_refl _) (eff_alloc w _ _)
  · have := own_new w e sz n.toNat n.toNat (madeCells z.cells (n.toNat * sz)).toList (by simp [size_madeCells]) (Nat.le_refl _) (by unfold maxLen; omega)
    rw [List.take_of_length_le (by simp [size_madeCells])] at this
    exact this
  · simp [Value.ownBlock]; exact eq_comm

theorem zip_ops (f : Operand → Value) (ps : List (Nat × Operand)) : (ps.toArray.map fun (i, x) => (i, f x)).toList = (ps.map (·.1)).zip ((ps.map (·.2)).map f) := by
  rw [List.map_toArray, List.toList_toArray]
  induction ps with
  | nil => rfl
  | cons p r ih => simpa using ih
/-- A slice that is written out. -/
theorem Rx.buildSlice {t e sz bs n : TypeId} {z : Value} {ps : List (Nat × Operand)} {vs cs : List Value} [SliceTy P t e sz bs] [hz : ZeroTy P e z] (hv : evalL E (ps.map (·.2)) = some vs)
    (hf : Instr.fill (fun i => some (i * sz, sz)) ((Array.range (n * sz)).map (z.cells[· % z.cells.size]!)) ((ps.map (·.1)).zip vs) = some cs.toArray) (hl : cs.length = n * sz) (hlt : Nat.ble (n * sz) 16777216 = true) (hn : Nat.blt d X.n = true)
    (k : ∀ v, noSlice v = false → Rx P X ops rest ((d, v) :: E) (sl e sz v n cs :: L) M Q) : Rx P X ops (⟨some d, .buildSlice t n ps.toArray, ty, pos, af, none⟩ :: rest) E L M Q := by
  refine Rx.of (α := { v : Value // noSlice v = false }) (fun v => v.1) (fun v => sl e sz v.1 n cs :: L) rfl rfl hn (fun a ha w hw => ?_) (fun v => k v.1 v.2)
  obtain ⟨i, z', hu, hinf, hz', hzs, hsz, hbs, hpos⟩ := SliceTy.out P t
  obtain rfl : z = z' := by have := hz.ok; simp [hinf, hz'] at this; exact this.symm
  have hmap : (ps.map (·.2)).map a.eval = vs := ha.evalL hv
  have hlt' : n * sz ≤ 16777216 := Nat.le_of_ble_eq_true hlt
  have hzip : (ps.toArray.map fun (i, x) => (i, a.eval x)).toList = (ps.map (·.1)).zip vs := by
    rw [← hmap]; exact zip_ops _ ps
  refine ⟨⟨.slice (some ⟨w.heap.size, 0, none⟩) n n, rfl⟩, w.alloc (.cells cs.toArray e), ?_, ?_⟩
  · by_cases h0 : n * sz = 0
    · have hr0 : (Array.range (n * sz)).map (z.cells[· % z.cells.size]!) = (Array.range 0).map ((#[] : Array Value)[· % 0]!) := by rw [h0]; simp
      simp only [execOp, Instr.buildSlice]
      rw [hr0] at hf
      simp [run_underlying hu, sizeOf, typeInfo, hinf, hsz, h0, newRow]
      simp at hzip hf
      rw [hzip, hf]; rfl
    · simp only [execOp, Instr.buildSlice]
      simp only [Sem.run_bind, run_underlying hu, Result.andThen_ok, sizeOf, typeInfo, run_program, hinf, Sem.run_pure, hsz, if_neg (Nat.not_lt.2 hlt'), if_neg h0, zeroValue, hz', hzip, hf]
      simp [newRow]
  · refine hw.new (F1' := fun k => k = w.heap.size) ⟨?_, fun k => ?_⟩ (fun b hb => by rw [hb]; exact Nat.le_refl _) (eff_alloc w _ _)
    · have hnm : n ≤ maxLen := by
        have : n ≤ n * sz := Nat.le_mul_of_pos_right n hpos
        unfold maxLen
        exact Nat.le_trans this (Nat.le_trans hlt' (by decide))
      have := own_new w e sz n n cs hl (Nat.le_refl _) hnm
      rwa [List.take_of_length_le (by rw [hl]; exact Nat.le_refl _)] at this
    · simp [Value.ownBlock]; exact eq_comm

theorem take_set_snoc (l : List Value) (i : Nat) (v : Value) (h : i < l.length) : (l.set i v).take (i + 1) = l.take i ++ [v] := by
  rw [List.take_succ_eq_append_getElem (by simpa using h), List.take_set, List.set_eq_of_length_le (by simp; omega)]
  simp
theorem fill_row : ∀ (qs : List (Nat × Value)) (m : Nat) (cells : Array Value), qs.map (·.1) = List.range' m qs.length → (∀ q ∈ qs, q.2.oneCell' = true) → m + qs.length ≤ cells.size →
    Instr.fill (fun i => some (i * 1, 1)) cells qs = some (cells.toList.take m ++ qs.map (·.2) ++ cells.toList.drop (m + qs.length)).toArray
  | [], m, cells, _, _, hm => by simp [Instr.fill]
  | (i, v) :: r, m, cells, hi, h1, hm => by
    simp only [List.map_cons, List.length_cons, List.range'_succ, List.cons.injEq] at hi
    obtain ⟨rfl, hi⟩ := hi
    have hv1 : v.oneCell' = true := h1 (i, v) List.mem_cons_self
    have hcells : v.cells = #[v] := by cases v <;> first | rfl | simp [Value.oneCell'] at hv1
    simp only [List.length_cons] at hm
    have hfold : (#[v].zipIdx.foldl (fun cs (c, j) => cs.setIfInBounds (i * 1 + j) c) cells) = cells.setIfInBounds i v := by simp
    simp only [Instr.fill, hcells]
    rw [if_neg (by simp; omega), hfold, fill_row r (i + 1) _ hi (fun q hq => h1 q (List.mem_cons_of_mem _ hq)) (by simp; omega)]
    have hil : i < cells.toList.length := by simp; omega
    rw [Array.toList_setIfInBounds, take_set_snoc _ _ _ hil, List.drop_set_of_lt (by omega)]
    simp only [List.map_cons, List.length_cons, List.append_assoc, List.cons_append, List.nil_append]
    rw [show i + 1 + r.length = i + (r.length + 1) by omega]

/-- A slice of one-cell elements that is written out whole. -/
theorem Rx.slice1 {t e bs n : TypeId} {z : Value} {ps : List (Nat × Operand)} {vs : List Value} [SliceTy P t e 1 bs] [hz : ZeroTy P e z] (hv : evalL E (ps.map (·.2)) = some vs) (hps : ps.map (·.1) = List.range n) (h1 : vs.all (·.oneCell') = true) (hlt : Nat.ble n 16777216 = true) (hn : Nat.blt d X.n = true)
    (k : ∀ v, noSlice v = false → Rx P X ops rest ((d, v) :: E) (sl e 1 v n vs :: L) M Q) : Rx P X ops (⟨some d, .buildSlice t n ps.toArray, ty, pos, af, none⟩ :: rest) E L M Q := by
  have hlen : ps.length = n := by have := congrArg List.length hps; simpa using this
  have hvl : vs.length = n := by
    have : ∀ (xs : List Operand) (us : List Value), evalL E xs = some us → us.length = xs.length := by
      intro xs
      induction xs with
      | nil => intro us h; simp [evalL] at h; subst h; rfl
      | cons x r ih =>
        intro us h
        simp only [evalL] at h
        cases h1 : evalO E x with
        | none => simp [h1] at h
        | some v =>
          cases h2 : evalL E r with
          | none => simp [h1, h2] at h
          | some ws => simp [h1, h2] at h; subst h; simp [ih ws h2]
    rw [this _ _ hv]; simpa using hlen
  have hzip : ((ps.map (·.1)).zip vs).map (·.2) = vs := by rw [List.map_snd_zip]; simp [hlen, hvl]
  have hzipl : ((ps.map (·.1)).zip vs).length = n := by simp [hlen, hvl]
  refine Rx.buildSlice (cs := vs) hv ?_ (by rw [hvl]; simp) (by simpa using hlt) hn k
  have := fill_row ((ps.map (·.1)).zip vs) 0 ((Array.range (n * 1)).map (z.cells[· % z.cells.size]!)) (by rw [hzipl, List.map_fst_zip (by simp [hlen, hvl]), hps, List.range_eq_range']) (fun q hq => List.all_eq_true.1 h1 _ (List.of_mem_zip hq).2) (by simp [hlen, hvl])
  rw [this, hzip, hzipl]
  simp

/-- A struct's fields: where each lies and how many cells it has. -/
def structPl (P : Program) (t : TypeId) : Option (List (Nat × Nat)) :=
  match P.underlying t with
  | some (.struct fs) => fs.toList.mapM fun f => (P.info? f.type).map fun i => (f.offset, i.size)
  | _ => none
class StructTy (P : Program) (t : TypeId) (pl : outParam (List (Nat × Nat))) : Prop where ok : structPl P t = some pl
theorem run_places (w : World) : ∀ (fs : List Field) (pl : List (Nat × Nat)), (fs.mapM fun f => (P.info? f.type).map fun i => (f.offset, i.size)) = some pl →
    (fs.mapM fun f => (do pure (f.offset, ← sizeOf f.type) : Sem (Nat × Nat))).run P w = .ok pl w
  | [], pl, h => by simp at h; subst h; simp
  | f :: r, pl, h => by
    cases hi : P.info? f.type with
    | none => simp [hi] at h
    | some i =>
      cases hr : (r.mapM fun f => (P.info? f.type).map fun i => (f.offset, i.size)) with
      | none => simp [hi, hr] at h
      | some pl' =>
        simp [hi, hr] at h
        subst h
        have := run_places w r pl' hr
        have hs : (sizeOf f.type).run P w = .ok i.size w := by simp [sizeOf, typeInfo, hi]
        rw [List.mapM_cons]
        simp only [Sem.run_bind, hs, this, Result.andThen_ok, Sem.run_pure]
theorem OpQ.build {t : TypeId} {z : Value} {pl : List (Nat × Nat)} {ps : List (Nat × Operand)} {vs cs : List Value} [hz : ZeroTy P t z] [hs : StructTy P t pl] (hv : evalL E (ps.map (·.2)) = some vs)
    (hf : Instr.fill (pl.toArray[·]?) z.cells ((ps.map (·.1)).zip vs) = some cs.toArray) : OpQ P X ⟨some d, .build t ps.toArray, ty, pos, af, none⟩ E L M (.agg cs.toArray) := by
  refine .of fun a ha w hw => ?_
  have h := hs.ok
  unfold structPl at h
  split at h
  · rename_i fs hu
    have hpl := run_places (P := P) w fs.toList pl h
    have hpl' : (fs.mapM fun f => (do pure (f.offset, ← sizeOf f.type) : Sem (Nat × Nat))).run P w = .ok pl.toArray w := by
      rw [Array.mapM_eq_mapM_toList]; simp at hpl ⊢; rw [hpl]; rfl
    have hmap : (ps.map (·.2)).map a.eval = vs := ha.evalL hv
    have hzip : (ps.toArray.map fun (i, x) => (i, a.eval x)).toList = (ps.map (·.1)).zip vs := by
      rw [← hmap]; exact zip_ops _ ps
    have hzv := ZeroTy.out P t w
    simp only [execOp, Instr.build, Sem.run_bind, hzv, Result.andThen_ok, run_underlying hu, hpl', hzip, hf]
    simp
  · cases h

/-- A slice that is read to be appended: its cells are there. -/
def As.cells (A : As) (v : Value) (n : Nat) (xs : List Value) : Prop :=
  ∀ (w : World) F, A.P w F → ∃ (a : Option Addr) (c : Nat), v = .slice a n c ∧ (n = 0 ∨ ∃ ad, a = some ad ∧ ∀ (j : Nat) u, xs[j]? = some u → w.cell? (ad.add j) = some u)
theorem cells_sl {e sz n : Nat} {v : Value} {xs : List Value} : (sl e sz v n xs).cells v n xs := by
  rintro w F ⟨h1, _⟩
  rcases h1.2 with ⟨rfl, rfl⟩ | ⟨g, cap, cur, rfl, _⟩
  · exact ⟨none, 0, rfl, .inl rfl⟩
  · exact ⟨_, cap, rfl, .inr ⟨_, rfl, h1.cells rfl⟩⟩
theorem cells_rd {sz n : Nat} {v : Value} {xs : List Value} : (rd sz v n xs).cells v n xs := by
  rintro w F ⟨_, a, c, ⟨rfl, _⟩, h, _⟩
  exact ⟨a, c, rfl, h.imp id fun ⟨b, o, ha, hc, _⟩ => ⟨_, ha, fun j u hj => by rw [add_eq]; exact hc j u hj⟩⟩

/-- An empty slice is appended: nothing happens. -/
theorem run_append_zero (w : World) (t ty' e : TypeId) (i : TypeInfo) (ht : P.underlying t = some (.slice e)) (hi : P.info? e = some i) (a b : Option Addr) (n c c' : Nat) (hnc : n ≤ c) :
    (Builtin.append_ #[t, t] ty' #[.slice a n c, .slice b 0 c']).run P w = .ok (.slice a n c) w := by
  have hf : ∀ q : Option Addr, (Builtin.firstCells i.size 0 (.slice q 0 c')).run P w = .ok #[] w := fun q => by cases q <;> simp [Builtin.firstCells, loadCells, loadCellsFrom]
  cases a <;> simp [Builtin.append_, run_underlying ht, sizeOf, typeInfo, hi, Builtin.lenOf, hnc, hf, storeCells]

theorem own_old {w w' : World} {t ty' e sz bs n m c : Nat} {i : TypeInfo} {z v v' : Value} {xs ys : List Value} {ad : Addr} {b : Nat} (hu : P.underlying t = some (.slice e)) (hi : P.info? e = some i) (hz : i.zero = some z)
    (hsz : i.size = sz) (hbs : i.bytes = bs) (hown : w.ownsRow 0 e sz v n xs) (hm : ys.length = m * sz) (hcells : ∀ (j : Nat) u, ys[j]? = some u → w.cell? (ad.add j) = some u) (h1 : ys.all (·.oneCell') = true)
    (hb : (n + m) * bs ≤ 140737488355328 ∧ n + m ≤ 9223372036854775807) (hm0 : ¬ m = 0)
    (hr : (Builtin.append_ #[t, t] ty' #[v, .slice (some ad) m c]).run P w = .ok v' w') (hv : v'.ownBlock = some b) (hlt : b < w.heap.size) : v.ownBlock = some b := by
  subst hsz; subst hbs
  rcases hown.2 with ⟨rfl, rfl⟩ | ⟨g, cap, cur, rfl, hbg, hg, hnc, hcm, hcs, htake⟩
  · rw [run_append_nil (P := P) w t ty' e i z hu hi hz ad m c ys hm hcells (by omega) (by omega) (by have := hb.1; simp only [Nat.zero_add] at this; omega)] at hr
    cases hr
    simp [Value.ownBlock] at hv; omega
  · by_cases hroom : n + m ≤ cap
    · rw [run_append_room (P := P) w t ty' e i hu hi g n cap cur hg ad m c ys hm hcells (fun u hu => List.all_eq_true.1 h1 u hu) hroom (by rw [hm, hcs, ← Nat.add_mul]; exact Nat.mul_le_mul_right _ hroom)] at hr
      cases hr
      exact hv
    · have holds : ∀ j u, xs[j]? = some u → w.cell? ((⟨g, 0, none⟩ : Addr).add j) = some u := hown.cells (g := g) rfl
      rw [run_append_grow (P := P) w t ty' e i z hu hi hz ⟨g, 0, none⟩ n cap xs hown.1 holds ad m c ys hm hcells (by omega) (by omega) (growslice_fits (by omega) hb.1)] at hr
      cases hr
      simp [Value.ownBlock] at hv; omega
/-- append: what was owned is owned anew, with what was read behind it. -/
theorem Rx.append {t e sz bs n m : Nat} {x y : Operand} {v u : Value} {xs ys : List Value} {B : As} [SliceTy P t e sz bs] (hx : evalO E x = some v) (hy : evalO E y = some u)
    (ht : Take L (sl e sz v n xs) L') (hi : Inn L' M B) (hc : B.cells u m ys) (hm : ys.length = m * sz) (h1 : ys.all (·.oneCell') = true) (hb : (n + m) * bs ≤ 140737488355328 ∧ n + m ≤ 9223372036854775807) (hn : Nat.blt d X.n = true)
    (k : ∀ v', (noSlice v' = true → noSlice v = true ∧ m = 0) → Rx P X ops rest ((d, v') :: E) (sl e sz v' (n + m) (xs ++ ys) :: L') M Q) :
    Rx P X ops (⟨some d, .call ⟨.builtin .append, #[x, y], #[t, t]⟩, ty, pos, af, none⟩ :: rest) E L M Q := by
  refine Rx.of (α := { v' : Value // noSlice v' = true → noSlice v = true ∧ m = 0 }) (fun v => v.1) (fun v' => sl e sz v'.1 (n + m) (xs ++ ys) :: L') rfl rfl hn (fun a ha w hw => ?_) (fun v => k v.1 v.2)
  obtain ⟨i, z, hu, hinf, hz, hzs, hsz, hbs, hpos⟩ := SliceTy.out P t
  have hB : ∃ G, B.P w G := by
    obtain ⟨F, f1, f2, f3, f4⟩ := hw
    have f1' := ht.has f1
    obtain ⟨_, F2, _, g2, _, g4⟩ := f1'
    cases hi with
    | own h => exact Has.of_in h g2
    | shr h => exact let ⟨G, g, _⟩ := f2 B h.mem; ⟨G, g⟩
  obtain ⟨G, hG⟩ := hB
  obtain ⟨q, c, rfl, hcells⟩ := hc w G hG
  obtain ⟨F0, hF0⟩ := Hp.of_inn (.own (In.of_take ht)) hw
  have hown := hF0.1
  have hrun : ∃ v' w', (Builtin.append_ #[t, t] ty #[v, .slice q m c]).run P w = .ok v' w' ∧ w'.ownsRow 0 e sz v' (n + m) (xs ++ ys) ∧ w.grownBy w' v.ownBlock ∧ (noSlice v' = true → noSlice v = true ∧ m = 0) ∧ (∀ b, v'.ownBlock = some b → v.ownBlock = some b ∨ w.heap.size ≤ b) := by
    by_cases hm0 : m = 0
    · subst hm0
      have hys : ys = [] := List.eq_nil_of_length_eq_zero (by simpa using hm)
      subst hys
      refine ⟨v, w, ?_, by simpa using hown, ⟨rfl, rfl, rfl, Nat.le_refl _, fun _ _ _ => rfl⟩, fun h => ⟨h, rfl⟩, fun b h => .inl h⟩
      rcases hown.2 with ⟨rfl, rfl⟩ | ⟨g, cap, cur, rfl, _, _, hnc, _⟩
      · exact run_append_zero w t ty e i hu hinf none q 0 0 c (Nat.le_refl _)
      · exact run_append_zero w t ty e i hu hinf _ q n cap c hnc
    · rcases hcells with h | ⟨ad, rfl, hcells⟩
      · exact absurd h hm0
      · obtain ⟨v', w', hr, ho, hg, hnil⟩ := run_append_own (P := P) w 0 t ty e i z sz bs hu hinf hz hsz hbs hzs hpos v n xs hown ad m c ys hm hcells (fun u hu => List.all_eq_true.1 h1 u hu) (by unfold maxLen; omega) hb.1 (Nat.zero_le _)
        refine ⟨v', w', hr, ho, hg, ?_, ?_⟩
        · intro h
          have : v' = .slice none 0 0 := by
            rcases ho.2 with ⟨h', _⟩ | ⟨g, cap, cur, h', _⟩
            · exact h'
            · subst h'; simp [noSlice] at h
          exact absurd (hnil.1 this).2 hm0
        · intro b hb'
          by_cases hlt : b < w.heap.size
          · exact .inl (own_old (P := P) hu hinf hz hsz hbs hown hm hcells h1 hb hm0 hr hb' hlt)
          · exact .inr (Nat.le_of_not_lt hlt)
  obtain ⟨v', w', hr, ho, hg, hnil, hfresh⟩ := hrun
  refine ⟨⟨v', hnil⟩, w', by simp [execOp, resolve, invoke, builtin, ha.eval hx, ha.eval hy, hr], ?_⟩
  refine Hp.turn ht hw fun F1 hF1 => ⟨fun b => v'.ownBlock = some b, ⟨ho, fun k => Iff.rfl⟩, fun b hb => ?_, eff_grown hg F1 fun k hk => (hF1.2 k).2 hk⟩
  rcases hfresh b hb with h | h
  · exact .inl ((hF1.2 b).2 h)
  · exact .inr h
end
end Go.Proofs.YtoiebfpafdcbmaaDoor.K
