/- The rules of the logic once more, with what they need found by instances; regions whose order is drawn and that end in what writes. No program in sight. -/
import Derived.Test.YtoiebfpafdcbmaaDoorKe
namespace Go.Proofs.YtoiebfpafdcbmaaDoor.K
open Go Go.RowKit
set_option linter.unusedVariables false
set_option linter.unusedSimpArgs false

/-! ### Finding -/
class FindPt (L M : List As) (b : Nat) (T : outParam TypeId) (cs : outParam (List Value)) : Prop where ok : Inn L M (pt b T cs)
instance (priority := high) FindPt.here {L M : List As} {b : Nat} {T : TypeId} {cs : List Value} : FindPt (pt b T cs :: L) M b T cs := ⟨.own .here⟩
theorem Inn.there {L M : List As} {A B : As} (h : Inn L M A) : Inn (B :: L) M A := by
  cases h with
  | own h => exact .own (.there h)
  | shr h => exact .shr h
theorem Inn.thereM {L M : List As} {A B : As} (h : Inn L M A) : Inn L (B :: M) A := by
  cases h with
  | own h => exact .own h
  | shr h => exact .shr (.there h)
instance FindPt.there {L M : List As} {A : As} {b : Nat} {T : TypeId} {cs : List Value} [h : FindPt L M b T cs] : FindPt (A :: L) M b T cs := ⟨h.ok.there⟩
instance (priority := high) FindPt.hereM {M : List As} {b : Nat} {T : TypeId} {cs : List Value} : FindPt [] (pt b T cs :: M) b T cs := ⟨.shr .here⟩
instance FindPt.thereM {M : List As} {A : As} {b : Nat} {T : TypeId} {cs : List Value} [h : FindPt [] M b T cs] : FindPt [] (A :: M) b T cs := ⟨h.ok.thereM⟩

/-- A slice that can be read. -/
structure Reads (A : As) (v : Value) (n : Nat) (xs : List Value) : Prop where
  lens : A.lens v n
  cells : A.cells v n xs
  ld : ∀ (j : Nat) u, xs[j]? = some u → A.ld (elemPtr v j) u
  cap : ∀ (w : World) F, A.P w F → ∃ a c, v = .slice a n c ∧ n ≤ c
  lds : ∀ (j m : Nat) us, (xs.drop j).take m = us → us ≠ [] → A.lds (elemPtr v j) us
theorem lds_rd {sz n j m : Nat} {v : Value} {xs us : List Value} (h : (xs.drop j).take m = us) (h0 : us ≠ []) : (rd sz v n xs).lds (elemPtr v j) us := by
  rintro w F ⟨h1, a, c, ⟨rfl, _⟩, h2, _⟩
  rcases h2 with h2 | ⟨b, o, rfl, hc, _⟩
  · have : xs = [] := List.eq_nil_of_length_eq_zero (by rw [h1, h2]; simp)
    subst this; simp at h; exact (h0 h).elim
  · refine ⟨_, rfl, fun i u hi => ?_⟩
    subst h
    rw [List.getElem?_take] at hi
    split at hi
    · rw [List.getElem?_drop] at hi
      rw [add_eq, add_eq, Nat.add_assoc]; exact hc _ u hi
    · cases hi
theorem reads_sl {e sz n : Nat} {v : Value} {xs : List Value} : Reads (sl e sz v n xs) v n xs := ⟨lens_sl, cells_sl, fun _ _ h => ld_sl h, fun w F ⟨h, _⟩ => by
  rcases h.2 with ⟨rfl, rfl⟩ | ⟨g, cap, cur, rfl, _, _, hn, _⟩
  · exact ⟨_, _, rfl, Nat.le_refl _⟩
  · exact ⟨_, _, rfl, hn⟩, fun _ _ _ h h0 => lds_sl h h0⟩
theorem reads_rd {sz n : Nat} {v : Value} {xs : List Value} : Reads (rd sz v n xs) v n xs := ⟨lens_rd, cells_rd, fun _ _ h => ld_rd h, fun w F ⟨_, a, c, h, _⟩ => ⟨a, c, h⟩, fun _ _ _ h h0 => lds_rd h h0⟩
class FindSl (L M : List As) (v : Value) (n : outParam Nat) (xs : outParam (List Value)) : Prop where ok : ∃ A, Inn L M A ∧ Reads A v n xs
instance (priority := high) FindSl.here {L M : List As} {v : Value} {e sz n : Nat} {xs : List Value} : FindSl (sl e sz v n xs :: L) M v n xs := ⟨_, .own .here, reads_sl⟩
instance (priority := high) FindSl.hereR {L M : List As} {v : Value} {sz n : Nat} {xs : List Value} : FindSl (rd sz v n xs :: L) M v n xs := ⟨_, .own .here, reads_rd⟩
instance FindSl.there {L M : List As} {A : As} {v : Value} {n : Nat} {xs : List Value} [h : FindSl L M v n xs] : FindSl (A :: L) M v n xs := ⟨let ⟨B, b1, b2⟩ := h.ok; ⟨B, b1.there, b2⟩⟩
instance (priority := high) FindSl.hereM {M : List As} {v : Value} {e sz n : Nat} {xs : List Value} : FindSl [] (sl e sz v n xs :: M) v n xs := ⟨_, .shr .here, reads_sl⟩
instance (priority := high) FindSl.hereMR {M : List As} {v : Value} {sz n : Nat} {xs : List Value} : FindSl [] (rd sz v n xs :: M) v n xs := ⟨_, .shr .here, reads_rd⟩
instance FindSl.thereM {M : List As} {A : As} {v : Value} {n : Nat} {xs : List Value} [h : FindSl [] M v n xs] : FindSl [] (A :: M) v n xs := ⟨let ⟨B, b1, b2⟩ := h.ok; ⟨B, b1.thereM, b2⟩⟩

class TakePt (L : List As) (b : Nat) (T : outParam TypeId) (cs : outParam (List Value)) (L' : outParam (List As)) : Prop where ok : Take L (pt b T cs) L'
instance (priority := high) TakePt.here {L : List As} {b : Nat} {T : TypeId} {cs : List Value} : TakePt (pt b T cs :: L) b T cs L := ⟨.here⟩
instance TakePt.there {L L' : List As} {A : As} {b : Nat} {T : TypeId} {cs : List Value} [h : TakePt L b T cs L'] : TakePt (A :: L) b T cs (A :: L') := ⟨.there h.ok⟩
class TakeSl (L : List As) (v : Value) (e sz n : outParam Nat) (xs : outParam (List Value)) (L' : outParam (List As)) : Prop where ok : Take L (sl e sz v n xs) L'
instance (priority := high) TakeSl.here {L : List As} {v : Value} {e sz n : Nat} {xs : List Value} : TakeSl (sl e sz v n xs :: L) v e sz n xs L := ⟨.here⟩
instance TakeSl.there {L L' : List As} {A : As} {v : Value} {e sz n : Nat} {xs : List Value} [h : TakeSl L v e sz n xs L'] : TakeSl (A :: L) v e sz n xs (A :: L') := ⟨.there h.ok⟩

class TakeA (L : List As) (A : As) (L' : outParam (List As)) : Prop where ok : Take L A L'
instance (priority := high) TakeA.here {L : List As} {A : As} : TakeA (A :: L) A L := ⟨.here⟩
instance TakeA.there {L L' : List As} {A B : As} [h : TakeA L A L'] : TakeA (B :: L) A (B :: L') := ⟨.there h.ok⟩
class PickA (L L0 : List As) (R : outParam (List As)) : Prop where ok : Pick L L0 R
instance PickA.nil {L : List As} : PickA L [] L := ⟨.nil⟩
instance PickA.cons {L L' L0 R : List As} {A : As} [h : TakeA L A L'] [k : PickA L' L0 R] : PickA L (A :: L0) R := ⟨.cons h.ok k.ok⟩
class InnA (L M : List As) (A : As) : Prop where ok : Inn L M A
instance (priority := high) InnA.here {L M : List As} {A : As} : InnA (A :: L) M A := ⟨.own .here⟩
instance InnA.there {L M : List As} {A B : As} [h : InnA L M A] : InnA (B :: L) M A := ⟨h.ok.there⟩
instance (priority := high) InnA.hereM {M : List As} {A : As} : InnA [] (A :: M) A := ⟨.shr .here⟩
instance InnA.thereM {M : List As} {A B : As} [h : InnA [] M A] : InnA [] (B :: M) A := ⟨h.ok.thereM⟩
class SubsA (M0 M R : List As) : Prop where ok : Subs M0 M R
instance SubsA.nil {M R : List As} : SubsA [] M R := ⟨.nil⟩
/-- Found itself, or found as an owned slice that can be read. -/
class GivA (L M : List As) (A : As) : Prop where ok : Gives L M A
instance (priority := high) GivA.of_inn {L M : List As} {A : As} [h : InnA L M A] : GivA L M A := ⟨h.ok.gives⟩
theorem rd_of_sl {e sz n : Nat} {v : Value} {xs : List Value} (w : World) (F : Nat → Prop) (hp : (sl e sz v n xs).P w F) : ∃ G, (rd sz v n xs).P w G ∧ ∀ b, G b → F b := by
  obtain ⟨h1, h2⟩ := hp
  have hlt := (sl e sz v n xs).lt ⟨h1, h2⟩
  refine ⟨F, ⟨h1.1, ?_⟩, fun b hb => hb⟩
  rcases h1.2 with ⟨rfl, rfl⟩ | ⟨g, cap, cur, rfl, _, _, hn, _⟩
  · exact ⟨none, 0, ⟨rfl, Nat.le_refl _⟩, .inl rfl, hlt⟩
  · exact ⟨_, cap, ⟨rfl, hn⟩, .inr ⟨g, 0, rfl, fun j u hj => by have := h1.cells rfl j u hj; rw [add_eq] at this; exact this, (h2 g).2 rfl⟩, hlt⟩
instance GivA.sl_here {L M : List As} {e sz n : Nat} {v : Value} {xs : List Value} : GivA (sl e sz v n xs :: L) M (rd sz v n xs) := ⟨_, .own .here, rd_of_sl⟩
instance GivA.sl_hereM {M : List As} {e sz n : Nat} {v : Value} {xs : List Value} : GivA [] (sl e sz v n xs :: M) (rd sz v n xs) := ⟨_, .shr .here, rd_of_sl⟩
instance (priority := low) GivA.there {L M : List As} {A B : As} [h : GivA L M A] : GivA (B :: L) M A := ⟨let ⟨C, c, hc⟩ := h.ok; ⟨C, c.there, hc⟩⟩
instance (priority := low) GivA.thereM {M : List As} {A B : As} [h : GivA [] M A] : GivA [] (B :: M) A := ⟨let ⟨C, c, hc⟩ := h.ok; ⟨C, c.thereM, hc⟩⟩
instance SubsA.cons {A : As} {M0 M R : List As} [h : GivA R M A] [k : SubsA M0 M R] : SubsA (A :: M0) M R := ⟨.cons h.ok k.ok⟩

/-- Where lists are joined. -/
instance {L R M : List As} {A : As} {b : Nat} {T : TypeId} {cs : List Value} [h : FindPt (A :: (L ++ R)) M b T cs] : FindPt ((A :: L) ++ R) M b T cs := ⟨h.ok⟩
instance {R M : List As} {b : Nat} {T : TypeId} {cs : List Value} [h : FindPt R M b T cs] : FindPt ([] ++ R) M b T cs := ⟨h.ok⟩
instance {L R : List As} {A : As} {b : Nat} {T : TypeId} {cs : List Value} [h : FindPt [] (A :: (L ++ R)) b T cs] : FindPt [] ((A :: L) ++ R) b T cs := ⟨h.ok⟩
instance {R : List As} {b : Nat} {T : TypeId} {cs : List Value} [h : FindPt [] R b T cs] : FindPt [] ([] ++ R) b T cs := ⟨h.ok⟩
instance {L R M : List As} {A : As} {v : Value} {n : Nat} {xs : List Value} [h : FindSl (A :: (L ++ R)) M v n xs] : FindSl ((A :: L) ++ R) M v n xs := ⟨h.ok⟩
instance {R M : List As} {v : Value} {n : Nat} {xs : List Value} [h : FindSl R M v n xs] : FindSl ([] ++ R) M v n xs := ⟨h.ok⟩
instance {L R : List As} {A : As} {v : Value} {n : Nat} {xs : List Value} [h : FindSl [] (A :: (L ++ R)) v n xs] : FindSl [] ((A :: L) ++ R) v n xs := ⟨h.ok⟩
instance {R : List As} {v : Value} {n : Nat} {xs : List Value} [h : FindSl [] R v n xs] : FindSl [] ([] ++ R) v n xs := ⟨h.ok⟩
instance {L R L' : List As} {A : As} {b : Nat} {T : TypeId} {cs : List Value} [h : TakePt (A :: (L ++ R)) b T cs L'] : TakePt ((A :: L) ++ R) b T cs L' := ⟨h.ok⟩
instance {R L' : List As} {b : Nat} {T : TypeId} {cs : List Value} [h : TakePt R b T cs L'] : TakePt ([] ++ R) b T cs L' := ⟨h.ok⟩
instance {L R L' : List As} {A : As} {v : Value} {e sz n : Nat} {xs : List Value} [h : TakeSl (A :: (L ++ R)) v e sz n xs L'] : TakeSl ((A :: L) ++ R) v e sz n xs L' := ⟨h.ok⟩
instance {R L' : List As} {v : Value} {e sz n : Nat} {xs : List Value} [h : TakeSl R v e sz n xs L'] : TakeSl ([] ++ R) v e sz n xs L' := ⟨h.ok⟩
instance {L R L' : List As} {A B : As} [h : TakeA (A :: (L ++ R)) B L'] : TakeA ((A :: L) ++ R) B L' := ⟨h.ok⟩
instance {R L' : List As} {B : As} [h : TakeA R B L'] : TakeA ([] ++ R) B L' := ⟨h.ok⟩
instance {L R M : List As} {A B : As} [h : InnA (A :: (L ++ R)) M B] : InnA ((A :: L) ++ R) M B := ⟨h.ok⟩
instance {R M : List As} {B : As} [h : InnA R M B] : InnA ([] ++ R) M B := ⟨h.ok⟩
instance {L R : List As} {A B : As} [h : InnA [] (A :: (L ++ R)) B] : InnA [] ((A :: L) ++ R) B := ⟨h.ok⟩
instance {R : List As} {B : As} [h : InnA [] R B] : InnA [] ([] ++ R) B := ⟨h.ok⟩
instance {L R M : List As} {A B : As} [h : GivA (A :: (L ++ R)) M B] : GivA ((A :: L) ++ R) M B := ⟨h.ok⟩
instance {R M : List As} {B : As} [h : GivA R M B] : GivA ([] ++ R) M B := ⟨h.ok⟩
instance {L R : List As} {A B : As} [h : GivA [] (A :: (L ++ R)) B] : GivA [] ((A :: L) ++ R) B := ⟨h.ok⟩
instance {R : List As} {B : As} [h : GivA [] R B] : GivA [] ([] ++ R) B := ⟨h.ok⟩

/-- A cell of a written-out list is set. -/
class SetAt (cs : List Value) (i : Nat) (u : Value) (cs' : outParam (List Value)) : Prop where
  ok : cs.set i u = cs'
  lt : i < cs.length
instance SetAt.here {c u : Value} {cs : List Value} : SetAt (c :: cs) 0 u (u :: cs) := ⟨rfl, by simp⟩
instance SetAt.there {c u : Value} {cs cs' : List Value} {i : Nat} [h : SetAt cs i u cs'] : SetAt (c :: cs) (i + 1) u (c :: cs') := ⟨by rw [List.set_cons_succ, h.ok], by have := h.lt; simp; omega⟩

section
variable {P : Program} {X : Cx} {E : List (Nat × Value)} {L L' L0 R M M0 : List As} {Q : Exit → Act → World → Prop} {ops : Array Oper} {rest : List Oper} {d : Nat} {ty : TypeId} {pos : String} {af : Array Edge}

theorem OpQ.eqnil_s {x : Operand} {xt yt e : TypeId} {p : Addr} [hp : PtrTy P xt e] (hx : evalO E x = some (.pointer (some p))) : OpQ P X ⟨some d, .binOp .eql xt x (.const (.pointer none)) yt, ty, pos, af, none⟩ E L M (.bool false) := .eqnil hx
theorem OpQ.nenil_s {x : Operand} {xt yt e : TypeId} {p : Addr} [hp : PtrTy P xt e] (hx : evalO E x = some (.pointer (some p))) : OpQ P X ⟨some d, .binOp .neq xt x (.const (.pointer none)) yt, ty, pos, af, none⟩ E L M (.bool true) := .nenil hx
theorem OpQ.ld {x : Operand} {t : TypeId} {b i : Nat} {T : TypeId} {cs : List Value} {u : Value} [CellTy P t] (hv : evalO E x = some (.pointer (some ⟨b, i, none⟩))) [h : FindPt L M b T cs] (hu : cs[i]? = some u) :
    OpQ P X ⟨some d, .load t x, ty, pos, af, none⟩ E L M u := .load hv h.ok (ld_pt hu)
theorem OpQ.ldn {x : Operand} {t : TypeId} {n b i : Nat} {T : TypeId} {cs us : List Value} [AggTy P t n] (hv : evalO E x = some (.pointer (some ⟨b, i, none⟩))) [h : FindPt L M b T cs] (hu : (cs.drop i).take n = us) (hn : us.length = n) :
    OpQ P X ⟨some d, .load t x, ty, pos, af, none⟩ E L M (.agg us.toArray) := .loads hv h.ok (lds_pt hu) hn
/-- An element of a slice of one-cell elements. -/
theorem OpQ.lds {x : Operand} {t : TypeId} {v : Value} {j n : Nat} {xs : List Value} {u : Value} [CellTy P t] (hv : evalO E x = some (elemPtr v j)) [h : FindSl L M v n xs] (hu : xs[j]? = some u) :
    OpQ P X ⟨some d, .load t x, ty, pos, af, none⟩ E L M u := by
  obtain ⟨A, h1, h2⟩ := h.ok
  exact .load hv h1 (h2.ld j u hu)
theorem OpQ.ldi {x : Operand} {t : TypeId} {v : Value} {j n : Nat} {xs : List Value} {k : IntKind} {l : List Int} [CellTy P t] (hv : evalO E x = some (elemPtr v j)) [h : FindSl L M v n xs] (hxs : xs = l.map (Value.int k)) (hj : j < l.length) :
    OpQ P X ⟨some d, .load t x, ty, pos, af, none⟩ E L M (.int k (l.getD j 0)) :=
  .lds hv (by subst hxs; simp [hj])
theorem OpQ.lens {x : Operand} {t e sz bs : TypeId} {v : Value} {n : Nat} {xs : List Value} [SliceTy P t e sz bs] (hv : evalO E x = some v) [h : FindSl L M v n xs] :
    OpQ P X ⟨some d, .call ⟨.builtin .len, #[x], #[t]⟩, ty, pos, af, none⟩ E L M (.int .i64 n) := by
  obtain ⟨A, h1, h2⟩ := h.ok
  exact .len hv h1 h2.lens
theorem OpQ.eqnils {x : Operand} {xt yt e sz bs : TypeId} {v : Value} {n : Nat} {xs : List Value} [SliceTy P xt e sz bs] (hv : evalO E x = some v) [h : FindSl L M v n xs] :
    OpQ P X ⟨some d, .binOp .eql xt x (.const (.slice none 0 0)) yt, ty, pos, af, none⟩ E L M (.bool (noSlice v)) := by
  obtain ⟨A, h1, h2⟩ := h.ok
  exact .eqnil_sl hv h1 h2.lens
/-- An index within a slice has a cell: so the slice isn't nil. -/
theorem OpQ.idx {x y : Operand} {t e sz bs : TypeId} {v : Value} {k : IntKind} {i : Int} {n j : Nat} {xs : List Value} [SliceTy P t e sz bs] (hv : evalO E x = some v) (hy : evalO E y = some (.int k i)) [h : FindSl L M v n xs]
    (hb : 0 ≤ i ∧ i < n) (hj : i.toNat * sz = j) : OpQ P X ⟨some d, .indexAddr t x y, ty, pos, af, none⟩ E L M (elemPtr v j) :=
  .of fun a ha w hw => by
    obtain ⟨A, h1, h2⟩ := h.ok
    obtain ⟨G, hG⟩ := hw.of_inn h1
    obtain ⟨ad, c, rfl, hc⟩ := h2.cells w G hG
    rcases hc with hc | ⟨ad, rfl, _⟩
    · omega
    · obtain ⟨inf, z, hu, hinf, _, _, hsz, _⟩ := SliceTy.out P t
      subst hj
      simp [execOp, ha.eval hv, ha.eval hy, Instr.indexAt, run_underlying hu, asIntOf, hb, sizeOf, typeInfo, hinf, hsz, elemPtr]

theorem Rx.st {t : TypeId} {x y : Operand} {b i : Nat} {T : TypeId} {u : Value} {cs cs' : List Value} [CellTy P t] (hx : evalO E x = some (.pointer (some ⟨b, i, none⟩))) (hy : evalO E y = some u) (h1 : u.oneCell' = true) [ht : TakePt L b T cs L']
    [hc : SetAt cs i u cs'] (k : Rx P X ops rest E (pt b T cs' :: L') M Q) : Rx P X ops (⟨none, .store t x y, ty, pos, af, none⟩ :: rest) E L M Q :=
  Rx.store hx hy h1 ht.ok (st_pt hc.lt hc.ok) k
theorem Rx.stx {t : TypeId} {x y : Operand} {b i : Nat} {T : TypeId} {u : Value} {cs cs' : List Value} [CellTy P t] (hx : evalO E x = some (.pointer (some ⟨b, i, none⟩))) (hy : evalO E y = some u) (h1 : u.oneCell' = true) [ht : TakePt L b T cs L']
    (hi : i < cs.length) (hc : cs.set i u = cs') (k : Rx P X ops rest E (pt b T cs' :: L') M Q) : Rx P X ops (⟨none, .store t x y, ty, pos, af, none⟩ :: rest) E L M Q :=
  Rx.store hx hy h1 ht.ok (st_pt hi hc) k
theorem Rx.sts {t : TypeId} {x y : Operand} {v : Value} {j e sz n : Nat} {u : Value} {xs : List Value} [CellTy P t] (hx : evalO E x = some (elemPtr v j)) (hy : evalO E y = some u) (h1 : u.oneCell' = true) [ht : TakeSl L v e sz n xs L']
    (hj : j < xs.length) (k : Rx P X ops rest E (sl e sz v n (xs.set j u) :: L') M Q) : Rx P X ops (⟨none, .store t x y, ty, pos, af, none⟩ :: rest) E L M Q :=
  Rx.store hx hy h1 ht.ok (st_sl hj) k
/-- A number into a slice of numbers. -/
theorem Rx.sti {t : TypeId} {x y : Operand} {v : Value} {j e sz n : Nat} {kd : IntKind} {u : Int} {xs : List Value} {l : List Int} [CellTy P t] (hx : evalO E x = some (elemPtr v j)) (hy : evalO E y = some (.int kd u)) [ht : TakeSl L v e sz n xs L']
    (hxs : xs = l.map (Value.int kd)) (hj : j < l.length) (k : Rx P X ops rest E (sl e sz v n ((l.set j u).map (Value.int kd)) :: L') M Q) : Rx P X ops (⟨none, .store t x y, ty, pos, af, none⟩ :: rest) E L M Q := by
  subst hxs
  refine Rx.store hx hy rfl ht.ok (st_sl (by simpa using hj)) ?_
  rw [show (l.map (Value.int kd)).set j (Value.int kd u) = (l.set j u).map (Value.int kd) by rw [List.map_set]]
  exact k
theorem Rx.app {t e sz bs n m : Nat} {x y : Operand} {v u : Value} {xs ys : List Value} {e' sz' : Nat} [SliceTy P t e sz bs] (hx : evalO E x = some v) (hy : evalO E y = some u)
    [ht : TakeSl L v e' sz' n xs L'] [hi : FindSl L' M u m ys] (he : e' = e ∧ sz' = sz) (hm : ys.length = m * sz) (h1 : ys.all (·.oneCell') = true) (hb : (n + m) * bs ≤ 140737488355328 ∧ n + m ≤ 9223372036854775807) (hn : Nat.blt d X.n = true)
    (k : ∀ v', (noSlice v' = true → noSlice v = true ∧ m = 0) → Rx P X ops rest ((d, v') :: E) (sl e sz v' (n + m) (xs ++ ys) :: L') M Q) :
    Rx P X ops (⟨some d, .call ⟨.builtin .append, #[x, y], #[t, t]⟩, ty, pos, af, none⟩ :: rest) E L M Q := by
  obtain ⟨rfl, rfl⟩ := he
  obtain ⟨A, h1', h2⟩ := hi.ok
  exact Rx.append hx hy ht.ok h1' h2.cells hm h1 hb hn k

theorem Rx.cal {f : FuncId} {x : Operand} {caps args : List Value} {xs : List Operand} {tys : Array TypeId} {Post : Value → List As → Prop} (hs : Spc P f (args ++ caps) L0 M0 Post)
    (hf : evalO E x = some (.func (.func f) #[] caps.toArray)) (ha : evalL E xs = some args) [hp : PickA L L0 R] [hm : SubsA M0 M R] (hn : Nat.blt d X.n = true)
    (k : ∀ v L1, Post v L1 → Rx P X ops rest ((d, v) :: E) (L1 ++ R) M Q) : Rx P X ops (⟨some d, .call ⟨.value x, xs.toArray, tys⟩, ty, pos, af, none⟩ :: rest) E L M Q :=
  Rx.call hs hf ha hp.ok hm.ok hn k
theorem Rx.cal0 {f : FuncId} {x : Operand} {caps args : List Value} {xs : List Operand} {tys : Array TypeId} {Post : Value → List As → Prop} (hs : Spc P f (args ++ caps) L0 M0 Post)
    (hf : evalO E x = some (.func (.func f) #[] caps.toArray)) (ha : evalL E xs = some args) [hp : PickA L L0 R] [hm : SubsA M0 M R]
    (k : ∀ v L1, Post v L1 → Rx P X ops rest E (L1 ++ R) M Q) : Rx P X ops (⟨none, .call ⟨.value x, xs.toArray, tys⟩, ty, pos, af, none⟩ :: rest) E L M Q :=
  Rx.call_none hs hf ha hp.ok hm.ok k
theorem OpQ.cal {f : FuncId} {x : Operand} {caps args : List Value} {xs : List Operand} {tys : Array TypeId} {v : Value} (hs : Spc P f (args ++ caps) [] M0 (ret v))
    (hf : evalO E x = some (.func (.func f) #[] caps.toArray)) (ha : evalL E xs = some args) [hm : SubsA M0 M L] : OpQ P X ⟨some d, .call ⟨.value x, xs.toArray, tys⟩, ty, pos, af, none⟩ E L M v :=
  .call hs hf ha hm.ok
end

/-! ### A region whose order is drawn: quiet operations first, then some that stand in a row behind them all -/
section tail
variable {P : Program} {X : Cx} {ops : Array Oper} {md : Region.Mode} {C : World → Prop}

/-- Whatever comes up among the first n is quiet; then L. -/
def headAny (P : Program) (md : Region.Mode) (ops : Array Oper) (C : World → Prop) (n : Nat) (Lq : Array Bool → Act → Prop) : Nat → Array Bool → Act → Prop
  | 0, listed, a => Lq listed a
  | f + 1, listed, a => Region.ready md ops listed ≠ [] ∧ ∀ i ∈ Region.ready md ops listed, i < n ∧ qOp P ops C i (headAny P md ops C n Lq f (listed.setIfInBounds i true)) a

theorem wpAnyIn_of_seq {Q' : Exit → Act → World → Prop} : ∀ (l : List Oper) (k : Nat) (listed : Array Bool) (a : Act) (w : World), (∀ j, l[j]? = ops[k + j]?) →
    Region.seqB md ops l.length k listed = true → wpListIn (fen X) 0 P ops Q' l a w → wpAnyIn (fen X) 0 P md ops Q' l.length listed a w
  | [], _, _, _, _, _, hB, h => ⟨by simpa [Region.seqB] using hB, h⟩
  | o :: l, k, listed, a, w, hl, hB, h => by
    have h0 : ops[k]? = some o := by simpa using (hl 0).symm
    simp only [List.length_cons, Region.seqB, Bool.and_eq_true, decide_eq_true_eq] at hB
    refine ⟨fun h1 => (by rw [hB.1] at h1; cases h1), fun i hi => ?_⟩
    rw [hB.1] at hi
    have hik : i = k := by simpa using hi
    subst hik
    have hw : wpOpIn (fen X) 0 P ops Q' i (wpListIn (fen X) 0 P ops Q' l) a w := by unfold wpOpIn; simp only [h0]; exact h
    exact wpOpIn_mono (fun a' w' h' => wpAnyIn_of_seq l (i + 1) _ a' w' (fun j => by have := hl (j + 1); simpa [Nat.add_assoc, Nat.add_comm 1 j] using this) hB.2 h') hw

theorem any_of_head {n g : Nat} {Lq : Array Bool → Act → Prop} {Q' : Exit → Act → World → Prop} (hL : ∀ listed a w, C w → Lq listed a → wpAnyIn (fen X) 0 P md ops Q' g listed a w) :
    ∀ (f : Nat) (listed : Array Bool) (a : Act) (w : World), C w → headAny P md ops C n Lq f listed a → wpAnyIn (fen X) 0 P md ops Q' (f + g) listed a w := by
  intro f
  induction f with
  | zero => intro listed a w hw h; rw [Nat.zero_add]; exact hL _ _ _ hw h
  | succ f ih =>
    intro listed a w hw h
    rw [show f + 1 + g = (f + g) + 1 by omega]
    exact ⟨fun h0 => absurd h0 h.1, fun i hi => wpOpIn_of_qOp hw (fun a' w' hw' h' => ih _ a' w' hw' h') (h.2 i hi).2⟩

theorem head_first {n i : Nat} {oi : Oper} {v : Value} {Lq : Array Bool → Act → Prop} (hi : ops[i]? = some oi) (hsel : ∀ (j : Nat) (o : Oper) cs b, ops[j]? = some o → o.op ≠ .select cs b)
    (hs : Region.sinkB md ops n = true) (hc : Region.chainB md ops n = true) (hn : n < ops.size) (hin : i < n) (hdone : ∀ listed a, Lq listed a → ∀ j ∈ Region.ready md ops listed, n ≤ j) :
    ∀ (f : Nat) (listed : Array Bool) (a : Act), HeadInv md ops n listed →
      (∀ j oj, ops[j]? = some oj → j ≠ i → listed.getD j true = false → (∀ e ∈ oj.after, Region.binds md e = true → e.on ≠ i) → oi.apart ops oj = true) →
      i ∈ Region.ready md ops listed → YieldsIn P ops C oi v a →
      headAny P md ops C n Lq f (listed.setIfInBounds i true) (a.put oi.dst v) → headAny P md ops C n Lq (f + 1) listed a := by
  intro f
  induction f with
  | zero =>
    intro listed a inv _ hr hy H
    have hun := (mem_ready.1 hr).1
    refine ⟨fun h => (by rw [h] at hr; cases hr), fun j hj => ?_⟩
    have hjn : j < n := by
      rcases Nat.lt_or_ge j n with h | h
      · exact h
      · exact absurd hj (tail_waits hs hc hn inv _ i rfl hin hun j h)
    refine ⟨hjn, ?_⟩
    by_cases hji : j = i
    · subst hji; exact hy.qOp hi H
    · have := hdone _ _ H j (ready_mono hj hji)
      omega
  | succ f ih =>
    intro listed a inv hfree hr hy H
    have hun := (mem_ready.1 hr).1
    refine ⟨fun h => (by rw [h] at hr; cases hr), fun j hj => ?_⟩
    have hjn : j < n := by
      rcases Nat.lt_or_ge j n with h | h
      · exact h
      · exact absurd hj (tail_waits hs hc hn inv _ i rfl hin hun j h)
    refine ⟨hjn, ?_⟩
    by_cases hji : j = i
    · subst hji; exact hy.qOp hi H
    · have h1 := (H.2 j (ready_mono hj hji)).2
      obtain ⟨hjun, oj, hoj, hall⟩ := mem_ready.1 hj
      have hnot : ∀ e ∈ oj.after, Region.binds md e = true → e.on ≠ i := fun e he hb heq => by
        have h1 := hall e he hb
        rw [heq, getD_both hun] at h1
        cases h1
      have h2 := qOp_put hoj (hfree j oj hoj hji hjun hnot) (fun cs b => hsel i oi cs b hi) (fun cs b => hsel j oj cs b hoj) hy h1
      refine qOp_mono (fun a' h3 => ih (listed.setIfInBounds j true) a' (inv.set hj hjn) ?_ (ready_mono hr (Ne.symm hji)) h3.1 ?_) h2
      · intro k ok hk hki hun' hno
        refine hfree k ok hk hki ?_ hno
        by_cases hjk : j = k
        · subst hjk; exact hjun
        · rw [getD_set_ne true hjk] at hun'; exact hun'
      · rw [Array.setIfInBounds_comm _ _ hji]
        exact h3.2

theorem head_lex {n g : Nat} {Lq : Act → Prop} (hsel : Region.noSelect ops = true) (hs : Region.sinkB md ops n = true) (hc : Region.chainB md ops n = true) (hn : n < ops.size) :
    ∀ (l : List Oper) (k : Nat) (listed : Array Bool) (a : Act), (∀ j, j < l.length → l[j]? = ops[k + j]?) → k + l.length = n → HeadInv md ops n listed →
      Region.lexHead md ops g l.length k listed = true → wpQuiet P ops C Lq l a →
      headAny P md ops C n (fun listed' a' => Region.seqB md ops g n listed' = true ∧ Lq a') l.length listed a
  | [], k, listed, a, _, hk, _, hB, h => by
    simp only [List.length_nil, Nat.add_zero] at hk
    subst hk
    exact ⟨by simpa [Region.lexHead] using hB, h⟩
  | o :: l, k, listed, a, hl, hk, inv, hB, h => by
    have h0 : ops[k]? = some o := by have := hl 0 (by simp); simpa using this.symm
    simp only [List.length_cons, Region.lexHead, Bool.and_eq_true] at hB
    obtain ⟨⟨hr, hf⟩, hB'⟩ := hB
    have hr' : k ∈ Region.ready md ops listed := by simpa using hr
    simp only [List.length_cons] at hk
    have hst : qOp P ops C k (wpQuiet P ops C Lq l) a := by unfold qOp; simp only [h0]; exact h
    obtain ⟨v, hy, hK⟩ := yieldsIn_of_qOp h0 hst
    refine head_first h0 (Region.noSelect_spec hsel) hs hc hn (by omega) (fun listed' a' hL j hj => seqB_ready hL.1 j hj) l.length listed a inv (Region.free_spec h0 hf) hr' hy
      (head_lex hsel hs hc hn l (k + 1) _ _ (fun j hj => ?_) (by omega) (inv.set hr' (by omega)) hB' hK)
    have := hl (j + 1) (by simp; omega)
    simpa [Nat.add_assoc, Nat.add_comm 1 j] using this
end tail

section
variable {P : Program} {X : Cx} {E : List (Nat × Value)} {L M : List As} {Q : Exit → Act → World → Prop} {ops : Array Oper}

theorem headInv_start (md : Region.Mode) (ops : Array Oper) (n : Nat) : HeadInv md ops n (Array.replicate ops.size false) := by
  refine ⟨by simp, fun j oj _ h => ?_, fun t _ ht => ?_⟩
  · rw [getD_replicate_false] at h; cases h
  · simp [ht]

/-- Quiet operations, the first n, in whatever order; then the rest, one by one. -/
theorem Gx.region_tail {id : Nat} {l : List Oper} (n : Nat) (hm : P.follows .mixedOrders = true) (hB : Region.lexTailB .any l.toArray n = true)
    (h : Dx P X l.toArray (l.take n) E L M (fun a' => ∀ w', Hp X.w0 X.F0 L M w' → wpListIn (fen X) 0 P l.toArray Q (l.drop n) a' w')) : Gx P X (.region id l.toArray true) E L M Q := by
  refine ⟨fun a w hs => ?_⟩
  simp only [Region.lexTailB, Bool.and_eq_true, decide_eq_true_eq] at hB
  obtain ⟨⟨⟨⟨hsel, hn⟩, hsk⟩, hc⟩, hlex⟩ := hB
  have hn' : n < l.length := by simpa using hn
  refine wpIn_region_any hm ?_
  have hlen : (l.take n).length = n := by simp; omega
  have hh := head_lex (P := P) (C := Hp X.w0 X.F0 L M) (md := .any) hsel hsk hc hn (l.take n) 0 (Array.replicate l.toArray.size false) a
    (fun j hj => by simp only [hlen] at hj; simp [List.getElem?_take, hj]) (by omega) (headInv_start _ _ _) (by rw [hlen]; exact hlex) (h.out a hs.1)
  rw [hlen] at hh
  have hL : ∀ (listed : Array Bool) (a : Act) (w : World), Hp X.w0 X.F0 L M w → (Region.seqB .any l.toArray (l.toArray.size - n) n listed = true ∧ ∀ w', Hp X.w0 X.F0 L M w' → wpListIn (fen X) 0 P l.toArray Q (l.drop n) a w') →
      wpAnyIn (fen X) 0 P .any l.toArray Q (l.toArray.size - n) listed a w := by
    rintro listed a w hw ⟨h1, h2⟩
    have hd : (l.drop n).length = l.toArray.size - n := by simp
    rw [← hd] at h1 ⊢
    exact wpAnyIn_of_seq (l.drop n) n listed a w (fun j => by simp) h1 (h2 w hw)
  have := any_of_head hL n _ a _ hs.2.drew hh
  rwa [show n + (l.toArray.size - n) = l.toArray.size by omega] at this

theorem Dx.tail {l' : List Oper} (h : Rx P X ops l' E L M Q) : Dx P X ops [] E L M (fun a' => ∀ w', Hp X.w0 X.F0 L M w' → wpListIn (fen X) 0 P ops Q l' a' w') :=
  Dx.nil fun a hs w' hw' => h.out a w' ⟨hs, hw'⟩
end
end Go.Proofs.YtoiebfpafdcbmaaDoor.K
