/- The logic's rules for strings, for values of several cells, for bytes that are appended, for a builder's text. No program in sight. -/
import Derived.Test.YtoiebfpafdcbmaaDoorKl
import Derived.Lib.AppendStr
import Derived.Lib.UnsafeStr
import Derived.Lib.Builder
import Derived.Laws.Externs
import Derived.LoopNIn
import Derived.Lib.ConvBytes
import Derived.Laws.BytesString
namespace Go.Proofs.YtoiebfpafdcbmaaDoor.K
open Go Go.RowKit
set_option linter.unusedVariables false
set_option linter.unusedSimpArgs false

/-- A string by its bytes. -/
abbrev str (l : List UInt8) : Value := .string ⟨l.toArray⟩
/-- Bytes as cells. -/
abbrev bytesU (l : List UInt8) : List Value := l.map fun b => Value.int .u8 b.toNat

theorem not_dec_t {p : Prop} [Decidable p] (h : (!decide p) = true) : ¬ p := by simpa using h
theorem not_dec_f {p : Prop} [Decidable p] (h : (!decide p) = false) : p := by simpa using h
theorem bnot_t {b : Bool} (h : (!b) = true) : b = false := by simpa using h
theorem bnot_f {b : Bool} (h : (!b) = false) : b = true := by simpa using h
theorem ba_toList (l : List UInt8) : (⟨l.toArray⟩ : ByteArray).toList = l := by rw [ByteArray.toList_eq]
theorem ba_append (p q : List UInt8) : (⟨p.toArray⟩ ++ ⟨q.toArray⟩ : ByteArray) = ⟨(p ++ q).toArray⟩ := by
  apply ByteArray.ext; simp
theorem ba_size (l : List UInt8) : (⟨l.toArray⟩ : ByteArray).size = l.length := by simp [ByteArray.size]


theorem one_int {k : IntKind} {n : Int} : (Value.int k n).oneCell' = true := rfl
theorem one_bool {b : Bool} : (Value.bool b).oneCell' = true := rfl
theorem one_str {s : ByteArray} : (Value.string s).oneCell' = true := rfl
theorem one_ptr {p : Option Addr} : (Value.pointer p).oneCell' = true := rfl
theorem one_func {f : Fn} {a b : Array Value} : (Value.func f a b).oneCell' = true := rfl
/-! ### Parts of written-out lists -/
class SubAt (cs : List Value) (i n : Nat) (us : outParam (List Value)) : Prop where ok : (cs.drop i).take n = us
instance SubAt.nil {cs : List Value} : SubAt cs 0 0 [] := ⟨by simp⟩
instance SubAt.cons {c : Value} {cs us : List Value} {n : Nat} [h : SubAt cs 0 n us] : SubAt (c :: cs) 0 (n + 1) (c :: us) := ⟨by have := h.ok; simp at this ⊢; exact this⟩
instance SubAt.there {c : Value} {cs us : List Value} {i n : Nat} [h : SubAt cs i n us] : SubAt (c :: cs) (i + 1) n us := ⟨by have := h.ok; simp at this ⊢; exact this⟩
class StnAt (cs : List Value) (i : Nat) (us : List Value) (cs' : outParam (List Value)) : Prop where
  ok : cs.take i ++ us ++ cs.drop (i + us.length) = cs'
  le : i + us.length ≤ cs.length
instance StnAt.nil {cs : List Value} : StnAt cs 0 [] cs := ⟨by simp, by simp⟩
instance StnAt.cons {c u : Value} {cs us cs' : List Value} [h : StnAt cs 0 us cs'] : StnAt (c :: cs) 0 (u :: us) (u :: cs') := ⟨by have := h.ok; simp at this ⊢; exact this, by have := h.le; simp at this ⊢; omega⟩
instance StnAt.there {c : Value} {cs us cs' : List Value} {i : Nat} [h : StnAt cs i us cs'] : StnAt (c :: cs) (i + 1) us (c :: cs') := ⟨by have := h.ok; rw [← this]; simp [show i + 1 + us.length = i + us.length + 1 by omega], by have := h.le; simp; omega⟩

theorem fill_row' {pl : Array (Nat × Nat)} : ∀ (qs : List (Nat × Value)) (m : Nat) (cells : Array Value), qs.map (·.1) = List.range' m qs.length → (∀ q ∈ qs, q.2.oneCell' = true) → m + qs.length ≤ cells.size → (∀ i, i < cells.size → pl[i]? = some (i, 1)) →
    Instr.fill (pl[·]?) cells qs = some (cells.toList.take m ++ qs.map (·.2) ++ cells.toList.drop (m + qs.length)).toArray
  | [], m, cells, _, _, hm, _ => by simp [Instr.fill]
  | (i, v) :: r, m, cells, hi, h1, hm, hpl => by
    simp only [List.map_cons, List.length_cons, List.range'_succ, List.cons.injEq] at hi
    obtain ⟨rfl, hi⟩ := hi
    have hv1 : v.oneCell' = true := h1 (i, v) List.mem_cons_self
    have hcells : v.cells = #[v] := by cases v <;> first | rfl | simp [Value.oneCell'] at hv1
    simp only [List.length_cons] at hm
    have hfold : (#[v].zipIdx.foldl (fun cs (c, j) => cs.setIfInBounds (i + j) c) cells) = cells.setIfInBounds i v := by simp
    simp only [Instr.fill, hcells, hpl i (by omega)]
    rw [if_neg (by simp; omega), hfold, fill_row' r (i + 1) _ hi (fun q hq => h1 q (List.mem_cons_of_mem _ hq)) (by simp; omega) (fun j hj => hpl j (by simpa using hj))]
    have hil : i < cells.toList.length := by simp; omega
    rw [Array.toList_setIfInBounds, take_set_snoc _ _ _ hil, List.drop_set_of_lt (by omega)]
    simp only [List.map_cons, List.length_cons, List.append_assoc, List.cons_append, List.nil_append]
    rw [show i + 1 + r.length = i + (r.length + 1) by omega]

section
variable {P : Program} {X : Cx} {E : List (Nat × Value)} {L L1 L' R M : List As} {Q : Exit → Act → World → Prop} {ops : Array Oper} {a : Act} {w : World} {d : Nat} {ty : TypeId} {pos : String} {af : Array Edge} {rest : List Oper}

theorem OpQ.cat_s {x y : Operand} {xt yt : TypeId} {p q : List UInt8} (hx : evalO E x = some (str p)) (hy : evalO E y = some (str q)) (h : p.length + q.length ≤ 9223372036854775807) : OpQ P X ⟨some d, .binOp .add xt x y yt, ty, pos, af, none⟩ E L M (str (p ++ q)) :=
  .of fun a ha w _ => by
    have h' : ¬ (IntKind.i64.max < ((p.length + q.length : Nat) : Int)) := by
      have : IntKind.i64.max = 9223372036854775807 := rfl
      omega
    have e := ba_append p q
    simp only [execOp, ha.eval hx, ha.eval hy, eqGuard, binOp, Op.stringOp, ba_size, GT.gt]
    simp only [h', if_false, e]
    simp
theorem OpQ.eql_s {x y : Operand} {xt yt : TypeId} {p q : List UInt8} (hx : evalO E x = some (str p)) (hy : evalO E y = some (str q)) : OpQ P X ⟨some d, .binOp .eql xt x y yt, ty, pos, af, none⟩ E L M (.bool (decide (p = q))) :=
  .of fun a ha w _ => by
    simp only [execOp, ha.eval hx, ha.eval hy, eqGuard, binOp, Op.stringOp, ba_toList]
    simp; exact Bool.eq_iff_iff.2 (by simp)
theorem OpQ.neq_s {x y : Operand} {xt yt : TypeId} {p q : List UInt8} (hx : evalO E x = some (str p)) (hy : evalO E y = some (str q)) : OpQ P X ⟨some d, .binOp .neq xt x y yt, ty, pos, af, none⟩ E L M (.bool (decide (p ≠ q))) :=
  .of fun a ha w _ => by
    simp only [execOp, ha.eval hx, ha.eval hy, eqGuard, binOp, Op.stringOp, ba_toList]
    simp; exact Bool.eq_iff_iff.2 (by simp)
theorem OpQ.eql_b {x y : Operand} {xt yt : TypeId} {p q : Bool} (ht : P.underlying xt = some .bool) (hx : evalO E x = some (.bool p)) (hy : evalO E y = some (.bool q)) : OpQ P X ⟨some d, .binOp .eql xt x y yt, ty, pos, af, none⟩ E L M (.bool (p == q)) :=
  .of fun a ha w _ => by
    have h : (Op.equal xt (.bool p) (.bool q)).run P w = .ok (p == q) w := by
      have h : ∀ n, (Op.equalIn (n + 1) xt (.bool p) (.bool q)).run P w = .ok (p == q) w := fun n => by simp [Op.equalIn, run_underlying ht]
      exact h 9999
    simp only [execOp, ha.eval hx, ha.eval hy, eqGuard, binOp]
    simp [h]
theorem OpQ.neq_b {x y : Operand} {xt yt : TypeId} {p q : Bool} (ht : P.underlying xt = some .bool) (hx : evalO E x = some (.bool p)) (hy : evalO E y = some (.bool q)) : OpQ P X ⟨some d, .binOp .neq xt x y yt, ty, pos, af, none⟩ E L M (.bool (!(p == q))) :=
  .of fun a ha w _ => by
    have h : (Op.equal xt (.bool p) (.bool q)).run P w = .ok (p == q) w := by
      have h : ∀ n, (Op.equalIn (n + 1) xt (.bool p) (.bool q)).run P w = .ok (p == q) w := fun n => by simp [Op.equalIn, run_underlying ht]
      exact h 9999
    simp only [execOp, ha.eval hx, ha.eval hy, eqGuard, binOp]
    simp [h]
theorem OpQ.len_s {x : Operand} {t : TypeId} {p : List UInt8} [ht : StrTy P t] (hv : evalO E x = some (str p)) :
    OpQ P X ⟨some d, .call ⟨.builtin .len, #[x], #[t]⟩, ty, pos, af, none⟩ E L M (.int .i64 p.length) :=
  (OpQ.len_str hv).val (by rw [ba_size])
theorem OpQ.idx_s {x y : Operand} {t : TypeId} {p : List UInt8} {k : IntKind} {i : Int} {j : Nat} [ht : StrTy P t] (hv : evalO E x = some (str p)) (hy : evalO E y = some (.int k i)) (hi : 0 ≤ i ∧ i < p.length) (hj : i.toNat = j) :
    OpQ P X ⟨some d, .index t x y, ty, pos, af, none⟩ E L M (.int .u8 (p.getD j 0).toNat) := by
  subst hj
  have hlt : i.toNat < p.length := by omega
  refine OpQ.idx_str (c := p.getD i.toNat 0) hv hy hi.1 ?_
  show (⟨p.toArray⟩ : ByteArray)[i.toNat]? = _
  rw [getElem?_pos _ _ (by rw [ba_size]; exact hlt)]
  simp [List.getD, hlt]
  rfl
theorem ba_extract (p : List UInt8) (l h : Nat) : (⟨p.toArray⟩ : ByteArray).extract l h = ⟨((p.drop l).take (h - l)).toArray⟩ := by
  apply ByteArray.ext
  rw [ByteArray.data_extract]
  simp [List.extract_eq_take_drop]
theorem run_sub_s (w : World) (t : TypeId) [ht : StrTy P t] (p : List UInt8) (lo hi : Option Value) (l h : Nat) (hlo : lo = none ∧ l = 0 ∨ ∃ k, lo = some (.int k (l : Int))) (hhi : hi = none ∧ h = p.length ∨ ∃ k, hi = some (.int k (h : Int))) (hlh : l ≤ h) (hc : h ≤ p.length) :
    (Instr.sliceAt t (str p) lo hi none).run P w = .ok (str ((p.drop l).take (h - l))) w := by
  have h1 : ((0 : Int) ≤ l ∧ (l : Int) ≤ h) := by omega
  have h2 : ((0 : Int) ≤ h ∧ (h : Int) ≤ p.length) := by omega
  rcases hlo with ⟨rfl, rfl⟩ | ⟨k, rfl⟩ <;> rcases hhi with ⟨rfl, rfl⟩ | ⟨k', rfl⟩ <;>
    simp [Instr.sliceAt, Instr.slice, run_underlying ht.ok, Instr.sliceBounds, Instr.sliceBound, asIntOf, hlh, hc, ba_size, ba_extract, List.take_of_length_le]
theorem OpQ.sub_sl {x y : Operand} {t : TypeId} {p : List UInt8} {k : IntKind} {l : Nat} {q : Int} [StrTy P t] (hv : evalO E x = some (str p)) (hy : evalO E y = some (.int k q)) (hq : q = l) (hl : l ≤ p.length) :
    OpQ P X ⟨some d, .slice t x (some y) none none, ty, pos, af, none⟩ E L M (str (p.drop l)) :=
  .of fun a ha w hw => by
    subst hq
    have := run_sub_s (P := P) w t p (some (.int k l)) none l p.length (.inr ⟨k, rfl⟩) (.inl ⟨rfl, rfl⟩) hl (Nat.le_refl _)
    rw [List.take_of_length_le (by simp)] at this
    simp [execOp, ha.eval hv, ha.eval hy, this]
theorem OpQ.sub_sh {x y : Operand} {t : TypeId} {p : List UInt8} {k : IntKind} {h : Nat} {q : Int} [StrTy P t] (hv : evalO E x = some (str p)) (hy : evalO E y = some (.int k q)) (hq : q = h) (hl : h ≤ p.length) :
    OpQ P X ⟨some d, .slice t x none (some y) none, ty, pos, af, none⟩ E L M (str (p.take h)) :=
  .of fun a ha w hw => by
    subst hq
    have := run_sub_s (P := P) w t p none (some (.int k h)) 0 h (.inl ⟨rfl, rfl⟩) (.inr ⟨k, rfl⟩) (Nat.zero_le _) hl
    simp only [List.drop_zero, Nat.sub_zero] at this
    simp [execOp, ha.eval hv, ha.eval hy, this]
theorem OpQ.sub_slh {x y z : Operand} {t : TypeId} {p : List UInt8} {k k' : IntKind} {l h : Nat} {q r : Int} [StrTy P t] (hv : evalO E x = some (str p)) (hy : evalO E y = some (.int k q)) (hz : evalO E z = some (.int k' r)) (hq : q = l) (hr : r = h) (hl : l ≤ h ∧ h ≤ p.length) :
    OpQ P X ⟨some d, .slice t x (some y) (some z) none, ty, pos, af, none⟩ E L M (str ((p.drop l).take (h - l))) :=
  .of fun a ha w hw => by
    subst hq; subst hr
    have := run_sub_s (P := P) w t p (some (.int k l)) (some (.int k' h)) l h (.inr ⟨k, rfl⟩) (.inr ⟨k', rfl⟩) hl.1 hl.2
    simp [execOp, ha.eval hv, ha.eval hy, ha.eval hz, this]
/-- The whole of a slice. -/
theorem OpQ.sub_all {x : Operand} {t e sz bs : TypeId} {v : Value} {n : Nat} {xs : List Value} [SliceTy P t e sz bs] (hv : evalO E x = some v) [hf : FindSl L M v n xs] :
    OpQ P X ⟨some d, .slice t x none none none, ty, pos, af, none⟩ E L M (subV v 0 n sz) :=
  .of fun a ha w hw => by
    obtain ⟨A, h1, h2⟩ := hf.ok
    obtain ⟨G, hG⟩ := hw.of_inn h1
    obtain ⟨ad, c, rfl, hc⟩ := h2.cap w G hG
    have := run_sub (P := P) w t e sz bs ad n c none none 0 n (.inl ⟨rfl, rfl⟩) (.inl ⟨rfl, rfl⟩) (by omega) (by omega)
    simp [execOp, ha.eval hv, this]

/-- A loop of few rounds, walked round by round. -/
theorem Gx.lpn {c : Code} (m : Nat) (h : Gx P X c E L M (Exit.then (Code.roundsIn (fen X) 0 P c Q m) Q)) : Gx P X (.loop c) E L M Q := ⟨fun a w hs => wpIn_loop_rounds (m + 1) (h.out a w hs)⟩
theorem rounds_go {c : Code} {m : Nat} (hs : St X E L M a w) (h : Gx P X c E L M (Exit.then (Code.roundsIn (fen X) 0 P c Q m) Q)) : Code.roundsIn (fen X) 0 P c Q (m + 1) a w := h.out a w hs

/-! ### Values of several cells -/
theorem OpQ.field {x : Operand} {s f k : Nat} {cs : List Value} {u : Value} [hf : FieldAt P s f k] (hv : evalO E x = some (.agg cs.toArray)) (hu : cs[k]? = some u) (hc : ∃ fs fd, P.underlying s = some (.struct fs) ∧ fs[f]? = some fd ∧ CellTy P fd.type) :
    OpQ P X ⟨some d, .field s x f, ty, pos, af, none⟩ E L M u :=
  .of fun a ha w _ => by
    obtain ⟨fs, fd, hu', hfd, hct⟩ := hc
    have h := hf.ok
    unfold fieldOff at h
    rw [hu'] at h
    simp only [hfd] at h
    have hoff : fd.offset = k := by
      split at h
      · split at h
        · cases h
        · simpa using h
      · cases h
    simp [execOp, ha.eval hv, Instr.field, run_underlying hu', hfd, asAgg, part, run_isAgg_cell P fd.type, hoff, hu]
/-- An element of an array's value: one cell, or several. -/
class ArrTy (P : Program) (t : Nat) (n e sz : outParam Nat) : Prop where ok : P.underlying t = some (.array n e) ∧ (P.info? e).map (·.size) = some sz
theorem OpQ.idx_ac {x y : Operand} {t n e : Nat} {k : IntKind} {i : Int} {j : Nat} {cs : List Value} {u : Value} [ht : ArrTy P t n e 1] [CellTy P e] (hv : evalO E x = some (.agg cs.toArray)) (hy : evalO E y = some (.int k i)) (hi : 0 ≤ i ∧ i < n) (hj : i.toNat = j) (hu : cs[j]? = some u) :
    OpQ P X ⟨some d, .index t x y, ty, pos, af, none⟩ E L M u :=
  .of fun a ha w _ => by
    subst hj
    cases hinf : P.info? e with
    | none => have := ht.ok.2; simp [hinf] at this
    | some inf =>
      have hsz : inf.size = 1 := by have := ht.ok.2; simpa [hinf] using this
      simp [execOp, Instr.index, ha.eval hv, ha.eval hy, run_underlying ht.ok.1, asIntOf, hi, sizeOf, typeInfo, hinf, hsz, part, run_isAgg_cell P e, hu]
theorem OpQ.idx_aa {x y : Operand} {t n e sz : Nat} {k : IntKind} {i : Int} {j : Nat} {cs us : List Value} [ht : ArrTy P t n e sz] [ha' : AggTy P e sz] (hv : evalO E x = some (.agg cs.toArray)) (hy : evalO E y = some (.int k i)) (hi : 0 ≤ i ∧ i < n) (hj : i.toNat = j) (hu : (cs.drop (j * sz)).take sz = us) :
    OpQ P X ⟨some d, .index t x y, ty, pos, af, none⟩ E L M (.agg us.toArray) :=
  .of fun a ha w _ => by
    subst hj; subst hu
    cases hinf : P.info? e with
    | none => have := ht.ok.2; simp [hinf] at this
    | some inf =>
      have hsz : inf.size = sz := by have := ht.ok.2; simpa [hinf] using this
      simp [execOp, Instr.index, ha.eval hv, ha.eval hy, run_underlying ht.ok.1, asIntOf, hi, sizeOf, typeInfo, hinf, hsz, part, run_isAgg_agg P e, List.extract_eq_take_drop]
/-- The address of an array's element. -/
theorem OpQ.idxp {x y : Operand} {t n e sz : Nat} {k : IntKind} {i : Int} {b o r : Nat} [ht : ArrTy P t n e sz] (hv : evalO E x = some (.pointer (some ⟨b, o, none⟩))) (hy : evalO E y = some (.int k i)) (hi : 0 ≤ i ∧ i < n) (hr : o + i.toNat * sz = r) :
    OpQ P X ⟨some d, .indexAddr t x y, ty, pos, af, none⟩ E L M (.pointer (some ⟨b, r, none⟩)) :=
  .of fun a ha w _ => by
    subst hr
    cases hinf : P.info? e with
    | none => have := ht.ok.2; simp [hinf] at this
    | some inf =>
      have hsz : inf.size = sz := by have := ht.ok.2; simpa [hinf] using this
      simp [execOp, Instr.indexAt, ha.eval hv, ha.eval hy, run_underlying ht.ok.1, asIntOf, hi, sizeOf, typeInfo, hinf, hsz, Instr.sureAddr, add_eq]

/-- Several cells of a slice's element. -/
theorem OpQ.ldsn {x : Operand} {t : TypeId} {v : Value} {j n m : Nat} {xs us : List Value} [AggTy P t m] (hv : evalO E x = some (elemPtr v j)) [h : FindSl L M v n xs] (hu : (xs.drop j).take m = us) (hm : us.length = m) (hn : us ≠ []) :
    OpQ P X ⟨some d, .load t x, ty, pos, af, none⟩ E L M (.agg us.toArray) := by
  obtain ⟨A, h1, h2⟩ := h.ok
  exact .loads hv h1 (h2.lds j m us hu hn) hm

theorem OpQ.ldc {x : Operand} {t : TypeId} {n b i : Nat} {T : TypeId} {cs us : List Value} [AggTy P t n] (hv : evalO E x = some (.pointer (some ⟨b, i, none⟩))) [h : FindPt L M b T cs] [hu : SubAt cs i n us] (hn : us.length = n) :
    OpQ P X ⟨some d, .load t x, ty, pos, af, none⟩ E L M (.agg us.toArray) := .loads hv h.ok (lds_pt hu.ok) hn
/-- A struct is stored in a variable. -/
theorem Rx.stc {t : TypeId} {x y : Operand} {b i n : Nat} {T : TypeId} {cs us cs' : List Value} [AggTy P t n] (hx : evalO E x = some (.pointer (some ⟨b, i, none⟩))) (hy : evalO E y = some (.agg us.toArray)) (h1 : us.all (·.oneCell') = true) (hn : us.length = n)
    [ht : TakePt L b T cs L'] [hc : StnAt cs i us cs'] (k : Rx P X ops rest E (pt b T cs' :: L') M Q) : Rx P X ops (⟨none, .store t x y, ty, pos, af, none⟩ :: rest) E L M Q := by
  refine Rx.stn (n := n) hx hy h1 hn (by have := hc.le; omega) ?_ k
  rw [← hn]; exact hc.ok
theorem fin_c {fn : Func} {Post : Value → List As → Prop} {t : Nat} {T : TypeId} {n b i : Nat} {T' : TypeId} {cs us : List Value} [AggTy P T n] (hs : St X E L M a w) (hres : fn.results = #[.cell t T]) (hv : Env.get E t = some (.pointer (some ⟨b, i, none⟩))) [hi : FindPt L [] b T' cs] [hu : SubAt cs i n us] (hn : us.length = n) [hk : PickA L L1 R] (hp : Post (.agg us.toArray) L1) :
    bodyPostM Fence.wide 0 P fn (SpcR X.w0 X.F0 Post) .ret a w := fin_cell hs hres hv hu.ok hn hp
theorem cell_load {t : Nat} {T : TypeId} {n b i : Nat} {T' : TypeId} {cs us : List Value} [AggTy P T n] {L2 : List As} (hs : St X E L M a w) (hv : Env.get E t = some (.pointer (some ⟨b, i, none⟩))) [hi : FindPt L L2 b T' cs] [hu : SubAt cs i n us] (hn : us.length = n) (hL2 : L2 = M) :
    (loadVar T ⟨b, i, none⟩).run P w = .ok (.agg us.toArray) w ∧ a.tmps.getD t undef = .pointer (some ⟨b, i, none⟩) := by
  subst hL2
  obtain ⟨G, hG⟩ := hs.2.of_inn hi.ok
  obtain ⟨ad, e, hc⟩ := lds_pt (m := n) hu.ok w G hG
  cases e
  obtain ⟨dd, inf, _, hinf, hsz, _⟩ := AggTy.out P T
  have hld := run_loadCells_list (P := P) w _ us hc
  exact ⟨by simp [loadVar, run_isAgg_agg P T, sizeOf, typeInfo, hinf, hsz, ← hn, hld], hs.1.2.2 t _ hv⟩
/-- A struct that lies in memory is returned, and a value beside it. -/
theorem fin_ct {fn : Func} {Post : Value → List As → Prop} {t s : Nat} {T : TypeId} {n b i : Nat} {T' : TypeId} {cs us : List Value} {v : Value} [AggTy P T n] (hs : St X E L M a w) (hres : fn.results = #[.cell t T, .tmp s]) (hv : Env.get E t = some (.pointer (some ⟨b, i, none⟩))) [hi : FindPt L [] b T' cs] [hu : SubAt cs i n us] (hn : us.length = n) (hv2 : Env.get E s = some v) [hk : PickA L L1 R] (hp : Post (.tuple #[.agg us.toArray, v]) L1) :
    bodyPostM Fence.wide 0 P fn (SpcR X.w0 X.F0 Post) .ret a w :=
  (fin_of (fun a w hs => by
    obtain ⟨h1, h2⟩ := cell_load (P := P) (n := n) (T := T) hs hv hn rfl
    have h3 := hs.1.2.2 s v hv2
    simp only [Array.getD_eq_getD_getElem?] at h2 h3
    simp [results, hres, h2, h3, asAddr, h1]) hp hk.ok a w hs).1
theorem fin_ctt {fn : Func} {Post : Value → List As → Prop} {t s s' : Nat} {T : TypeId} {n b i : Nat} {T' : TypeId} {cs us : List Value} {v v' : Value} [AggTy P T n] (hs : St X E L M a w) (hres : fn.results = #[.cell t T, .tmp s, .tmp s']) (hv : Env.get E t = some (.pointer (some ⟨b, i, none⟩))) [hi : FindPt L [] b T' cs] [hu : SubAt cs i n us] (hn : us.length = n) (hv2 : Env.get E s = some v) (hv3 : Env.get E s' = some v') [hk : PickA L L1 R] (hp : Post (.tuple #[.agg us.toArray, v, v']) L1) :
    bodyPostM Fence.wide 0 P fn (SpcR X.w0 X.F0 Post) .ret a w :=
  (fin_of (fun a w hs => by
    obtain ⟨h1, h2⟩ := cell_load (P := P) (n := n) (T := T) hs hv hn rfl
    have h3 := hs.1.2.2 s v hv2
    have h4 := hs.1.2.2 s' v' hv3
    simp only [Array.getD_eq_getD_getElem?] at h2 h3 h4
    simp [results, hres, h2, h3, h4, asAddr, h1]) hp hk.ok a w hs).1
theorem fin_ttt {fn : Func} {Post : Value → List As → Prop} {t s s' : Nat} {u v v' : Value} (hs : St X E L M a w) (hres : fn.results = #[.tmp t, .tmp s, .tmp s']) (hv : Env.get E t = some u) (hv2 : Env.get E s = some v) (hv3 : Env.get E s' = some v') [hk : PickA L L1 R] (hp : Post (.tuple #[u, v, v']) L1) :
    bodyPostM Fence.wide 0 P fn (SpcR X.w0 X.F0 Post) .ret a w :=
  (fin_of (fun a w hs => by
    have h2 := hs.1.2.2 t u hv
    have h3 := hs.1.2.2 s v hv2
    have h4 := hs.1.2.2 s' v' hv3
    simp only [Array.getD_eq_getD_getElem?] at h2 h3 h4
    simp [results, hres, h2, h3, h4]) hp hk.ok a w hs).1
/-- A struct of one-cell fields, all of which are given. -/
theorem OpQ.buildv {t : TypeId} {z : Value} {pl : List (Nat × Nat)} {ps : List (Nat × Operand)} {vs : List Value} [hz : ZeroTy P t z] [hs : StructTy P t pl] (hv : evalL E (ps.map (·.2)) = some vs) (hp : ps.map (·.1) = List.range vs.length)
    (hpl : pl = (List.range vs.length).map (fun i => (i, 1))) (hzs : z.cells.size = vs.length) (h1 : vs.all (·.oneCell') = true) : OpQ P X ⟨some d, .build t ps.toArray, ty, pos, af, none⟩ E L M (.agg vs.toArray) := by
  refine OpQ.build hv ?_
  have hpsl : ps.length = vs.length := by have := congrArg List.length hp; simpa using this
  have hzl : ((ps.map (·.1)).zip vs).length = vs.length := by simp [hpsl]
  have := fill_row' (pl := pl.toArray) ((ps.map (·.1)).zip vs) 0 z.cells (by rw [hzl, List.map_fst_zip (by simp [hpsl]), hp, List.range_eq_range']) (fun q hq => List.all_eq_true.1 h1 _ (List.of_mem_zip hq).2) (by rw [hzl]; omega) (fun i hi => by subst hpl; rw [hzs] at hi; simp [hi])
  rw [this, List.map_snd_zip (by simp [hpsl]), hzl]
  have e : z.cells.toList.drop (0 + vs.length) = [] := List.drop_of_length_le (by simp; omega)
  rw [e]; simp

/-! ### A builder's steps -/
theorem pt_shape {w : World} {b : Nat} {T : TypeId} {cs : List Value} {F : Nat → Prop} (h : (pt b T cs).P w F) : w.shape? b = some (T, cs.length) := by
  have := h.1
  simp [World.shape?, this]
theorem OpQ.toUnsafe {x : Operand} {s t' e T : TypeId} {b : Nat} {cs : List Value} {j : TypeInfo} (hs : P.underlying s = some (.pointer e)) (hd : P.underlying t' = some .unsafePointer) (ht : P.info? e = some j) (hj : j.size ≠ 0) (hv : evalO E x = some (.pointer (some ⟨b, 0, none⟩))) [hf : FindPt L M b T cs] (hc : 0 < cs.length) :
    OpQ P X ⟨some d, .convert s t' x, ty, pos, af, none⟩ E L M (.pointer (some ⟨b, 0, none⟩)) :=
  .of fun a ha w hw => by
    obtain ⟨G, hG⟩ := hw.of_inn hf.ok
    simp [execOp, ha.eval hv, Lib.run_to_unsafe w ⟨b, 0, none⟩ hs hd ht hj (pt_shape hG) hc]
theorem OpQ.fromUnsafe {x : Operand} {s t' u T : TypeId} {b : Nat} {cs : List Value} {j : TypeInfo} (hs : P.underlying s = some .unsafePointer) (hd : P.underlying t' = some (.pointer u)) (hu : P.info? u = some j) (hv : evalO E x = some (.pointer (some ⟨b, 0, none⟩))) [hf : FindPt L M b T cs] (hl : liesAt P P.depth T (cs.length / P.cellsOf T) 0 u 1 = true) :
    OpQ P X ⟨some d, .convert s t' x, ty, pos, af, none⟩ E L M (.pointer (some ⟨b, 0, none⟩)) :=
  .of fun a ha w hw => by
    obtain ⟨G, hG⟩ := hw.of_inn hf.ok
    simp [execOp, ha.eval hv, Lib.run_from_unsafe w ⟨b, 0, none⟩ hs hd hu (pt_shape hG) hl]
/-- A function without a body that yields a value. -/
theorem OpQ.extern {f : FuncId} {x : Operand} {xs : List Operand} {tys : Array TypeId} {args : List Value} {v : Value} (h : ∀ w, (callFunc f args.toArray).run P w = .ok (.value v) w) (hf : evalO E x = some (.func (.func f) #[] #[])) (hx : evalL E xs = some args) :
    OpQ P X ⟨some d, .call ⟨.value x, xs.toArray, tys⟩, ty, pos, af, none⟩ E L M v :=
  .of fun a ha w _ => by
    have h5 := ha.eval hf
    have h6 := ha.evalL hx
    have h' := h w
    simp [execOp, resolve, invoke, Deferred.ofValue, h5, ← h6, callFunc] at h' ⊢
    exact h'
theorem OpQ.neptr_same {x y : Operand} {xt yt e : TypeId} {j : TypeInfo} {p : Addr} (hp : P.underlying xt = some (.pointer e)) (he : P.info? e = some j) (hx : evalO E x = some (.pointer (some p))) (hy : evalO E y = some (.pointer (some p))) : OpQ P X ⟨some d, .binOp .neq xt x y yt, ty, pos, af, none⟩ E L M (.bool false) :=
  .of fun a ha w _ => by
    have := Lib.run_neq_ptr_same w (tp := xt) p hp he
    simp [execOp, ha.eval hx, ha.eval hy, eqGuard, this]
/-- A string's bytes are appended. -/
theorem Rx.app_str {t u e n : Nat} {x y : Operand} {v : Value} {xs : List Value} {s : List UInt8} {e' sz' : Nat} [SliceTy P t e 1 1] [hz : ZeroTy P e (.int .u8 0)] [hu : StrTy P u] (hx : evalO E x = some v) (hy : evalO E y = some (str s))
    [ht : TakeSl L v e' sz' n xs L'] (he : e' = e ∧ sz' = 1) (hb : n + s.length ≤ 140737488355328) (hn : Nat.blt d X.n = true)
    (k : ∀ v', (v = .slice none 0 0 → s = [] → v' = .slice none 0 0) → Rx P X ops rest ((d, v') :: E) (sl e 1 v' (n + s.length) (xs ++ bytesU s) :: L') M Q) :
    Rx P X ops (⟨some d, .call ⟨.builtin .append, #[x, y], #[t, u]⟩, ty, pos, af, none⟩ :: rest) E L M Q := by
  obtain ⟨rfl, rfl⟩ := he
  refine Rx.of (α := { v' : Value // v = .slice none 0 0 → s = [] → v' = .slice none 0 0 }) (fun v => v.1) (fun v' => sl e' 1 v'.1 (n + s.length) (xs ++ bytesU s) :: L') rfl rfl hn (fun a ha w hw => ?_) (fun v => k v.1 v.2)
  obtain ⟨i, z, hu', hinf, hz', hzs, hsz, hbs, hpos⟩ := SliceTy.out P t
  obtain rfl : Value.int .u8 0 = z := by have := hz.ok; simp [hinf, hz'] at this; exact this.symm
  obtain ⟨F0, hF0⟩ := Hp.of_inn (.own (In.of_take ht.ok)) hw
  have hcells : Lib.strCells ⟨s.toArray⟩ = bytesU s := by simp [Lib.strCells]
  have hsize : (⟨s.toArray⟩ : ByteArray).size = s.length := ba_size s
  -- an old block is the slice's own
  have hown := hF0.1
  have key : ∃ v' w', (Builtin.append_ #[t, u] ty #[v, str s]).run P w = .ok v' w' ∧ w'.ownsRow 0 e' 1 v' (n + s.length) (xs ++ bytesU s) ∧ w.grownBy w' v.ownBlock ∧ (∀ b, v'.ownBlock = some b → v.ownBlock = some b ∨ w.heap.size ≤ b) ∧ (v = .slice none 0 0 → s = [] → v' = .slice none 0 0) := by
    obtain ⟨v', w', hr, ho, hg, hnil⟩ := Lib.run_append_own_string (P := P) w 0 t u ty e' i hu' hu.ok hinf hz' hsz hbs v n xs hown ⟨s.toArray⟩ (by rw [hsize]; unfold maxLen; omega) (by rw [hsize]; exact hb) (Nat.zero_le _)
    rw [hsize, hcells] at ho
    refine ⟨v', w', hr, ho, hg, fun b hb' => ?_, fun h1 h2 => hnil.2 ⟨h1, by rw [hsize, h2]; rfl⟩⟩
    rcases Nat.lt_or_ge b w.heap.size with hlt | hlt
    · refine .inl ?_
      rcases hown.2 with ⟨rfl, rfl⟩ | ⟨g, cap, cur, rfl, hbg, hgg, hnc, hcm, hcs, htake⟩
      · by_cases hs0 : s.length = 0
        · have := hnil.2 ⟨rfl, by rw [hsize]; exact hs0⟩
          subst this; simp [Value.ownBlock] at hb'
        · have hr' := run_append_nil_string (P := P) w t u ty e' i (Value.int .u8 0) hu' hu.ok hinf hz' ⟨s.toArray⟩ (by rw [hsize]; omega) (by rw [hsize]; omega) (by rw [hsize, hbs]; omega)
          rw [hr] at hr'
          simp only [Result.ok.injEq] at hr'
          rw [hr'.1] at hb'
          simp [Value.ownBlock] at hb'; omega
      · by_cases hroom : n + s.length ≤ cap
        · have hr' := Lib.run_append_room_string (P := P) w t u ty e' i hu' hu.ok hinf hsz g n cap cur hgg ⟨s.toArray⟩ (by rw [hsize]; exact hroom) (by rw [hsize, hcs]; omega)
          rw [hr] at hr'
          simp only [Result.ok.injEq] at hr'
          rw [hr'.1] at hb'
          simpa [Value.ownBlock] using hb'
        · have hr' := Lib.run_append_grow_string (P := P) w t u ty e' i (Value.int .u8 0) hu' hu.ok hinf hz' ⟨g, 0, none⟩ n cap xs (by rw [hown.1, hsz]) (hown.cells (g := g) rfl) ⟨s.toArray⟩ (by rw [hsize]; omega) (by rw [hsize]; omega) (growslice_fits (by rw [hsize]; omega) (by rw [hsize, hbs]; omega))
          rw [hr] at hr'
          simp only [Result.ok.injEq] at hr'
          rw [hr'.1] at hb'
          simp [Value.ownBlock] at hb'; omega
    · exact .inr hlt
  obtain ⟨v', w', hr, ho, hg, hfresh, hnn⟩ := key
  refine ⟨⟨v', hnn⟩, w', by simp [execOp, resolve, invoke, builtin, ha.eval hx, ha.eval hy, hr], ?_⟩
  refine Hp.turn ht.ok hw fun F1 hF1 => ⟨fun b => v'.ownBlock = some b, ⟨ho, fun k => Iff.rfl⟩, fun b hb => ?_, eff_grown hg F1 fun k hk => (hF1.2 k).2 hk⟩
  rcases hfresh b hb with h | h
  · exact .inl ((hF1.2 b).2 h)
  · exact .inr h

/-! ### A builder's text -/
def sdV : Value → Value
  | .slice none _ _ => .pointer none
  | .slice (some a) _ 0 => .pointer (some a)
  | .slice (some a) _ (_ + 1) => .pointer (some a)
  | v => v
theorem OpQ.sdata {x : Operand} {tys : Array TypeId} {g n c : Nat} (hv : evalO E x = some (.slice (some ⟨g, 0, none⟩) n c)) (hc : c ≠ 0) :
    OpQ P X ⟨some d, .call ⟨.builtin .unsafeSliceData, #[x], tys⟩, ty, pos, af, none⟩ E L M (.pointer (some ⟨g, 0, none⟩)) :=
  .of fun a ha w _ => by
    have := Lib.run_unsafeSliceData_row (P := P) w tys ty ⟨g, 0, none⟩ n c hc
    simp [execOp, resolve, invoke, builtin, ha.eval hv, this]
theorem OpQ.sdata_nil {x : Operand} {tys : Array TypeId} {n c : Nat} (hv : evalO E x = some (.slice none n c)) :
    OpQ P X ⟨some d, .call ⟨.builtin .unsafeSliceData, #[x], tys⟩, ty, pos, af, none⟩ E L M (.pointer none) :=
  .of fun a ha w _ => by
    have := Lib.run_unsafeSliceData_nil (P := P) w tys ty n c
    simp [execOp, resolve, invoke, builtin, ha.eval hv, this]
theorem OpQ.ustr_none {x y : Operand} {tys : Array TypeId} {q : Option Addr} (hv : evalO E x = some (.pointer q)) (hy : evalO E y = some (.int .i64 0)) (h : ∀ w, (Builtin.unsafeString_ tys ty #[.pointer q, .int .i64 0]).run P w = .ok (.string .empty) w) :
    OpQ P X ⟨some d, .call ⟨.builtin .unsafeString, #[x, y], tys⟩, ty, pos, af, none⟩ E L M (str []) :=
  .of fun a ha w _ => by
    simp [execOp, resolve, invoke, builtin, ha.eval hv, ha.eval hy, h w]; rfl
/-- A text is made of a slice's bytes, which are nobody's behind it. -/
theorem Rx.ustr {x y : Operand} {pt' it e g n c : Nat} {l : List UInt8} (hp : P.underlying pt' = some (.pointer e)) (hc : P.cellsOf e = 1) (hv : evalO E x = some (.pointer (some ⟨g, 0, none⟩))) (hy : evalO E y = some (.int .i64 n)) (hl : l.length = n) (h0 : l ≠ [])
    [ht : TakeA L (sl e 1 (.slice (some ⟨g, 0, none⟩) n c) n (bytesU l)) L'] (hn : Nat.blt d X.n = true) (k : Rx P X ops rest ((d, str l) :: E) L' M Q) :
    Rx P X ops (⟨some d, .call ⟨.builtin .unsafeString, #[x, y], #[pt', it]⟩, ty, pos, af, none⟩ :: rest) E L M Q := by
  subst hl
  refine Rx.of (α := Unit) (fun _ => str l) (fun _ => L') rfl rfl hn (fun a ha w hw => ?_) (fun _ => k)
  obtain ⟨F, h1, h2, h3, h4⟩ := hw
  obtain ⟨F1, F2, ⟨o1, o2⟩, k2, k3, k4⟩ := ht.ok.has h1
  rcases o1.2 with ⟨hh, _⟩ | ⟨g', cap, cur, hv', hbg, hg, hnc, hcm, hcs, htake⟩
  · cases hh
  · simp only [Value.slice.injEq, Option.some.injEq, Addr.mk.injEq] at hv'
    obtain ⟨⟨rfl, _⟩, _, rfl⟩ := hv'
    have hg' : F1 g := (o2 g).2 rfl
    have hus := Lib.run_unsafeString_row (P := P) w pt' it ty e hp hc g cur.size (by simp [World.shape?, hg]) l h0 (by omega) (by unfold maxLen at hcm; omega) (fun j x hj => by
      have := o1.cells (g := g) rfl j (.int .u8 x.toNat) (by simp [hj])
      exact this)
    refine ⟨(), w.freeze ⟨g, 0, none⟩ l.length, by simp [execOp, resolve, invoke, builtin, ha.eval hv, ha.eval hy, hus], ?_⟩
    have he : Eff F1 w (w.freeze ⟨g, 0, none⟩ l.length) := by
      refine ⟨by unfold World.freeze; split <;> rfl, by unfold World.freeze; split <;> rfl, by unfold World.freeze; split <;> rfl, by unfold World.freeze; split <;> simp, fun b hb hn => ?_⟩
      have hne : g ≠ b := fun e => hn (e ▸ hg')
      unfold World.freeze; split
      · rfl
      · simp [Array.getElem?_modify, hne]
    exact Hp.step (L1 := []) (F1' := fun _ => False) h2 h3 h4 k2 k3 k4 (fun _ x => x) (fun _ x => x.elim) he
end
end Go.Proofs.YtoiebfpafdcbmaaDoor.K
