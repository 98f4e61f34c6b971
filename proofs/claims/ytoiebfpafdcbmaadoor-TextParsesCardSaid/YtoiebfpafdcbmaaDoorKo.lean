/- Regions whose order is drawn, all orders walked: plain operations are taken first; of the others each that is ready. No program in sight. -/
import Derived.Test.YtoiebfpafdcbmaaDoorKn
namespace Go.Proofs.YtoiebfpafdcbmaaDoor.K
open Go Go.RowKit
set_option linter.unusedVariables false
set_option linter.unusedSimpArgs false

def plainOp : Op → Bool
  | .move _ => true | .assign _ => true | .pick _ _ _ => true | .load _ _ => true | .binOp _ _ _ _ _ => true | .unOp _ _ _ => true | .slice _ _ _ _ _ => true | .fieldAddr _ _ _ => true | .field _ _ _ => true
  | .indexAddr _ _ _ => true | .index _ _ _ => true | .build _ _ => true | .makeFunc _ _ _ => true | .convert _ _ _ => true
  | .call ⟨.builtin b, _, _⟩ => (b == .len || b == .max || b == .min || b == .cap)
  | .extract _ _ => true
  | _ => false
theorem sem_value {P : Program} {m : Sem Value} {w w' : World} {nx : Next} (h : (m >>= fun v => pure (Next.value v) : Sem Next).run P w = .ok nx w') : ∃ v, nx = .value v := by
  rw [Sem.run_bind] at h
  cases hm : m.run P w with
  | ok v w1 => rw [hm] at h; simp only [Result.andThen, Sem.run_pure] at h; cases h; exact ⟨v, rfl⟩
  | halt x w1 => rw [hm] at h; simp only [Result.andThen] at h; cases h
theorem sem_value' {P : Program} {α : Type} {m : Sem α} {f : α → Value} {w w' : World} {nx : Next} (h : (m >>= fun v => pure (Next.value (f v)) : Sem Next).run P w = .ok nx w') : ∃ v, nx = .value v := by
  rw [Sem.run_bind] at h
  cases hm : m.run P w with
  | ok v w1 => rw [hm] at h; simp only [Result.andThen, Sem.run_pure] at h; cases h; exact ⟨_, rfl⟩
  | halt x w1 => rw [hm] at h; simp only [Result.andThen] at h; cases h
theorem wpJ_mono {P : Program} {X : Cx} {ops : Array Oper} {J : World → Prop} {K K' : Act → World → Prop} (h : ∀ a w, K a w → K' a w) : ∀ (n : Nat) (listed : Array Bool) (a : Act) (w : World), wpJ P X ops J K n listed a w → wpJ P X ops J K' n listed a w
  | 0, _, _, _, hh => ⟨hh.1, hh.2.1, h _ _ hh.2.2⟩
  | n + 1, _, _, _, hh => ⟨hh.1, hh.2.1, fun i hi => wpOpIn_mono (fun a w hh => wpJ_mono h n _ a w hh) (hh.2.2 i hi)⟩
theorem plain_value {P : Program} {o : Oper} {ρ : Operand → Value} {w w' : World} {nx : Next} (hp : plainOp o.op = true) (h : (execOp ρ o).run P w = .ok nx w') : ∃ v, nx = .value v := by
  unfold execOp at h
  split at h
  case h_1 => simp only [Sem.run_pure] at h; cases h; exact ⟨_, rfl⟩
  case h_2 => simp only [Sem.run_pure] at h; cases h; exact ⟨_, rfl⟩
  all_goals first
    | exact sem_value h
    | (rename_i heq; rw [heq] at hp; simp [plainOp] at hp; done)
    | skip
  case h_3 => exact sem_value' h
  case h_37 c heq =>
    rw [heq] at hp
    obtain ⟨callee, xs, tys⟩ := c
    cases callee with
    | builtin b =>
      have hb : b = .len ∨ b = .max ∨ b = .min ∨ b = .cap := by
        simp only [plainOp, Bool.or_eq_true, beq_iff_eq] at hp
        rcases hp with ((h | h) | h) | h <;> simp [h]
      simp only [resolve, Sem.run_bind, Sem.run_pure, Result.andThen_ok] at h
      rcases hb with rfl | rfl | rfl | rfl <;> (simp only [invoke, builtin] at h; exact sem_value h)
    | value x => simp [plainOp] at hp
    | invoke x y => simp [plainOp] at hp
/-- A plain operation as it floats. -/
theorem OpV.of_q {P : Program} {X : Cx} {E : List (Nat × Value)} {L M : List As} {d : Nat} {op : Op} {ty : TypeId} {pos : String} {af : Array Edge} {g : Option (Nat × Bool)} {v : Value} (hp : plainOp op = true)
    (h : OpQ P X ⟨some d, op, ty, pos, af, none⟩ E L M v) : OpV P X ⟨some d, op, ty, pos, af, g⟩ E L M v :=
  ⟨fun a ha w hw => by
    have hq := h.out a ha w hw
    unfold Oper.quietAt at hq
    have he : (execOp a.eval ⟨some d, op, ty, pos, af, g⟩) = (execOp a.eval ⟨some d, op, ty, pos, af, none⟩) := by unfold execOp; rfl
    rw [he]
    cases hr : (execOp a.eval ⟨some d, op, ty, pos, af, none⟩).run P w with
    | halt x w' => rw [hr] at hq; exact hq.elim
    | ok nx w' =>
      rw [hr] at hq
      obtain ⟨u, rfl⟩ := plain_value (by exact hp) hr
      simp only [Oper.quietUpon] at hq
      obtain ⟨rfl, rfl⟩ := hq
      rfl⟩

theorem OpV.nilCheck {P : Program} {X : Cx} {E : List (Nat × Value)} {L M : List As} {d : Nat} {ty : TypeId} {pos : String} {af : Array Edge} {g : Option (Nat × Bool)} {x : Operand} {a : Addr} (hv : evalO E x = some (.pointer (some a))) : OpV P X ⟨some d, .nilCheck x, ty, pos, af, g⟩ E L M (.pointer (some a)) :=
  ⟨fun act ha w _ => by simp [execOp, ha.eval hv]⟩
section
variable {P : Program} {X : Cx} {ops : Array Oper} {LJ : List As} {n : Nat} {listed : Array Bool} {E : List (Nat × Value)} {L R M : List As} {K : Act → World → Prop} {d : Nat} {op : Op} {ty : TypeId} {pos : String} {af : Array Edge} {v : Value}
/-- A plain operation is taken first. -/
theorem Ax.fl (i : Nat) (ho : ops[i]? = some ⟨some d, op, ty, pos, af, none⟩) (hs : (Region.noSelect ops && noDefer ops) = true) (hf : Region.free .any ops listed i = true) (hr : (Region.ready .any ops listed).contains i = true) (hn : Nat.blt d X.n = true) (hp : plainOp op = true)
    (hv : OpQ P X ⟨some d, op, ty, pos, af, none⟩ E LJ M v) (h : Ax P X ops LJ n (listed.setIfInBounds i true) ((d, v) :: E) L M K) : Ax P X ops LJ (n + 1) listed E L M K :=
  Ax.float i ho hs hf hr hn (OpV.of_q hp hv) h
theorem Ax.fl_yes (i : Nat) {j t : Nat} {b : Bool} (ho : ops[i]? = some ⟨some d, op, ty, pos, af, some (j, b)⟩) (hs : (Region.noSelect ops && noDefer ops) = true) (hf : Region.free .any ops listed i = true) (hr : (Region.ready .any ops listed).contains i = true) (hn : Nat.blt d X.n = true) (hp : plainOp op = true)
    (hj : slotOf ops j = some t) (ht : Env.get E t = some (.bool b)) (htn : Nat.blt t X.n = true) (hv : OpQ P X ⟨some d, op, ty, pos, af, none⟩ E LJ M v) (h : Ax P X ops LJ n (listed.setIfInBounds i true) ((d, v) :: E) L M K) : Ax P X ops LJ (n + 1) listed E L M K :=
  Ax.float_yes i ho hs hf hr hn hj ht htn (OpV.of_q hp hv) h
/-- Two are ready: either may be next. -/
theorem Ax.two {o p : Oper} (i j : Nat) (hr : Region.ready .any ops listed = [i, j]) (ho : ops[i]? = some o) (hq : ops[j]? = some p) [hp : PickA L LJ R]
    (h1 : Rx P X ops [o] E L M (qN (wpJ P X ops (Hp X.w0 X.F0 LJ M) K n (listed.setIfInBounds i true)))) (h2 : Rx P X ops [p] E L M (qN (wpJ P X ops (Hp X.w0 X.F0 LJ M) K n (listed.setIfInBounds j true)))) : Ax P X ops LJ (n + 1) listed E L M K :=
  ⟨fun a w hs => ⟨hs.2.drop hp.ok, by rw [hr]; simp, fun k hk => by
    rw [hr] at hk
    simp only [List.mem_cons, List.not_mem_nil, or_false] at hk
    rcases hk with rfl | rfl
    · exact wpList_op ho (h1.out a w hs)
    · exact wpList_op hq (h2.out a w hs)⟩⟩
theorem Ax.three {o p q : Oper} (i j l : Nat) (hr : Region.ready .any ops listed = [i, j, l]) (ho : ops[i]? = some o) (hq : ops[j]? = some p) (hl : ops[l]? = some q) [hp : PickA L LJ R]
    (h1 : Rx P X ops [o] E L M (qN (wpJ P X ops (Hp X.w0 X.F0 LJ M) K n (listed.setIfInBounds i true)))) (h2 : Rx P X ops [p] E L M (qN (wpJ P X ops (Hp X.w0 X.F0 LJ M) K n (listed.setIfInBounds j true)))) (h3 : Rx P X ops [q] E L M (qN (wpJ P X ops (Hp X.w0 X.F0 LJ M) K n (listed.setIfInBounds l true)))) : Ax P X ops LJ (n + 1) listed E L M K :=
  ⟨fun a w hs => ⟨hs.2.drop hp.ok, by rw [hr]; simp, fun k hk => by
    rw [hr] at hk
    simp only [List.mem_cons, List.not_mem_nil, or_false] at hk
    rcases hk with rfl | rfl | rfl
    · exact wpList_op ho (h1.out a w hs)
    · exact wpList_op hq (h2.out a w hs)
    · exact wpList_op hl (h3.out a w hs)⟩⟩
/-- A region whose order is drawn, all its orders walked; what is known behind it is told by y. -/
theorem Gx.region_ax {Q : Exit → Act → World → Prop} {id : Nat} {l : List Oper} {c : Code} {α : Type} (I : α → Prop) (E1 : α → List (Nat × Value)) (L1 : α → List As) (LJ : List As) (hm : P.follows .mixedOrders = true)
    (h : Ax P X l.toArray LJ l.length (Array.replicate l.length false) E L M (fun a w => ∃ y, I y ∧ St X (E1 y) (L1 y) M a w)) (k : ∀ y, I y → Gx P X c (E1 y) (L1 y) M Q) : Gx P X (.seq (.region id l.toArray true) c) E L M Q :=
  ⟨fun a w hs => wpIn_seq ((Gx.region_all (Q := Exit.then (c.wpIn (fen X) 0 P Q) Q) LJ hm ⟨fun a w hs => wpJ_mono (fun a w ⟨y, hy, hs'⟩ => (k y hy).out a w hs') _ _ _ _ (h.out a w hs)⟩).out a w hs)⟩
end

/-! ### Slices of structs, written out -/
theorem fold_put : ∀ (us : List Value) (k off : Nat) (cells : Array Value), off + k + us.length ≤ cells.size →
    ((us.zipIdx k).foldl (fun cs (c, j) => cs.setIfInBounds (off + j) c) cells).toList = cells.toList.take (off + k) ++ us ++ cells.toList.drop (off + k + us.length)
  | [], k, off, cells, _ => by simp
  | u :: us, k, off, cells, h => by
    simp only [List.length_cons] at h
    simp only [List.zipIdx_cons, List.foldl_cons]
    rw [fold_put us (k + 1) off _ (by simp; omega)]
    have hl : off + k < cells.toList.length := by simp; omega
    rw [Array.toList_setIfInBounds, show off + (k + 1) = off + k + 1 by omega, take_set_snoc _ _ _ hl, List.drop_set_of_lt (by omega)]
    simp only [List.length_cons, List.append_assoc, List.cons_append, List.nil_append]
    rw [show off + k + 1 + us.length = off + k + (us.length + 1) by omega]
theorem fill_rows {sz : Nat} : ∀ (uss : List (List Value)) (m : Nat) (cells : Array Value), (∀ u ∈ uss, u.length = sz) → (m + uss.length) * sz ≤ cells.size →
    Instr.fill (fun i => some (i * sz, sz)) cells ((List.range' m uss.length).zip (uss.map fun u => Value.agg u.toArray)) = some (cells.toList.take (m * sz) ++ uss.flatten ++ cells.toList.drop ((m + uss.length) * sz)).toArray
  | [], m, cells, _, _ => by simp [Instr.fill]
  | u :: uss, m, cells, h1, h2 => by
    have hu := h1 u List.mem_cons_self
    simp only [List.length_cons] at h2 ⊢
    have h3 : m * sz + sz ≤ cells.size := by rw [← Nat.succ_mul]; exact Nat.le_trans (Nat.mul_le_mul_right _ (by omega)) h2
    simp only [List.range'_succ, List.map_cons, List.zip_cons_cons, Instr.fill]
    have hc : (Value.agg u.toArray).cells = u.toArray := rfl
    have hf := fold_put u 0 (m * sz) cells (by omega)
    simp only [Nat.add_zero] at hf
    rw [hc, if_neg (by simp [hu]; omega)]
    have hz : u.toArray.zipIdx = (u.zipIdx 0).toArray := by simp
    rw [hz, List.foldl_toArray]
    generalize hq : (u.zipIdx 0).foldl (fun cs (c, j) => cs.setIfInBounds (m * sz + j) c) cells = q at hf ⊢
    have hqs : q.size = cells.size := by
      have := congrArg List.length hf
      simp only [Array.length_toList, List.length_append, List.length_take, List.length_drop, hu] at this
      omega
    rw [fill_rows uss (m + 1) q (fun v hv => h1 v (List.mem_cons_of_mem _ hv)) (by rw [hqs]; rw [show m + 1 + uss.length = m + (uss.length + 1) by omega]; exact h2)]
    congr 1
    congr 1
    rw [hf, hu, List.flatten_cons, show m + 1 + uss.length = m + (uss.length + 1) by omega]
    have e1 : (m + 1) * sz = m * sz + sz := Nat.succ_mul _ _
    have e2 : (List.take (m * sz) cells.toList).length = m * sz := by simp; omega
    have hle : m * sz + sz ≤ (m + (uss.length + 1)) * sz := by rw [← Nat.succ_mul]; exact Nat.mul_le_mul_right _ (by omega)
    rw [e1, List.take_append, List.take_append, List.drop_append, List.drop_append]
    simp only [List.length_append, e2, hu]
    rw [List.take_of_length_le (by rw [e2]; omega), show m * sz + sz - m * sz = sz by omega, List.take_of_length_le (by omega : u.length ≤ sz), show m * sz + sz - (m * sz + sz) = 0 by omega]
    rw [List.drop_of_length_le (l := List.take (m * sz) cells.toList) (by rw [e2]; omega), List.drop_of_length_le (l := u) (by omega), List.drop_drop]
    simp only [List.take_zero, List.append_nil, List.nil_append, List.append_assoc]
    rw [show m * sz + sz + ((m + (uss.length + 1)) * sz - (m * sz + sz)) = (m + (uss.length + 1)) * sz by omega]
section
variable {P : Program} {X : Cx} {E : List (Nat × Value)} {L M : List As} {Q : Exit → Act → World → Prop} {ops : Array Oper} {rest : List Oper} {d : Nat} {ty : TypeId} {pos : String} {af : Array Edge}
/-- A slice of structs that is written out whole. -/
theorem Rx.sliceN {t e sz bs n : Nat} {z : Value} {ps : List (Nat × Operand)} {uss : List (List Value)} [SliceTy P t e sz bs] [hz : ZeroTy P e z] (hv : evalL E (ps.map (·.2)) = some (uss.map fun u => Value.agg u.toArray)) (hps : ps.map (·.1) = List.range' 0 uss.length) (hu : uss.length = n) (hl : ∀ u ∈ uss, u.length = sz)
    (hlt : Nat.ble (n * sz) 16777216 = true) (hn : Nat.blt d X.n = true) (k : ∀ v, noSlice v = false → Rx P X ops rest ((d, v) :: E) (sl e sz v n uss.flatten :: L) M Q) : Rx P X ops (⟨some d, .buildSlice t n ps.toArray, ty, pos, af, none⟩ :: rest) E L M Q := by
  have hfl : uss.flatten.length = n * sz := by
    rw [← hu]; clear hv hps hu k hlt
    induction uss with
    | nil => simp
    | cons u r ih => rw [List.flatten_cons, List.length_append, hl u List.mem_cons_self, ih fun v hv => hl v (List.mem_cons_of_mem _ hv), List.length_cons, Nat.succ_mul, Nat.add_comm]
  refine Rx.buildSlice (cs := uss.flatten) hv ?_ hfl hlt hn k
  have := fill_rows (sz := sz) uss 0 ((Array.range (n * sz)).map (z.cells[· % z.cells.size]!)) hl (by rw [Nat.zero_add, hu]; simp)
  rw [hps, this]
  rw [Nat.zero_add, hu]
  simp
end
end Go.Proofs.YtoiebfpafdcbmaaDoor.K
