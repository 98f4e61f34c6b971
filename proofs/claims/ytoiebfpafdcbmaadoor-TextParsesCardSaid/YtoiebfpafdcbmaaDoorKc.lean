/- The rules of the logic for steps through a function: one a kind of operation; calls by their contracts. No program in sight. -/
import Derived.Test.YtoiebfpafdcbmaaDoorKb
namespace Go.Proofs.YtoiebfpafdcbmaaDoor.K
open Go Go.RowKit
set_option linter.unusedVariables false
set_option linter.unusedSimpArgs false

section quiet
variable {P : Program} {X : Cx} {E : List (Nat × Value)} {L M : List As} {d : Nat} {ty : TypeId} {pos : String} {af : Array Edge}

theorem OpQ.of {o : Oper} {v : Value} (h : ∀ a, ASt X M E a → ∀ w, Hp X.w0 X.F0 L M w → (execOp a.eval o).run P w = .ok (.value v) w) : OpQ P X o E L M v :=
  ⟨fun a ha w hw => by unfold Oper.quietAt; rw [h a ha w hw]; exact ⟨rfl, rfl⟩⟩

theorem OpQ.move {x : Operand} {v : Value} (hv : evalO E x = some v) : OpQ P X ⟨some d, .move x, ty, pos, af, none⟩ E L M v :=
  .of fun a ha w _ => by simp [execOp, ha.eval hv]
theorem OpQ.assign {x : Operand} {v : Value} (hv : evalO E x = some v) : OpQ P X ⟨some d, .assign x, ty, pos, af, none⟩ E L M v :=
  .of fun a ha w _ => by simp [execOp, ha.eval hv]
theorem OpQ.pick_t {c x y : Operand} {v : Value} (hc : evalO E c = some (.bool true)) (hv : evalO E x = some v) : OpQ P X ⟨some d, .pick c x y, ty, pos, af, none⟩ E L M v :=
  .of fun a ha w _ => by simp [execOp, ha.eval hc, ha.eval hv, asBool]
theorem OpQ.pick_f {c x y : Operand} {v : Value} (hc : evalO E c = some (.bool false)) (hv : evalO E y = some v) : OpQ P X ⟨some d, .pick c x y, ty, pos, af, none⟩ E L M v :=
  .of fun a ha w _ => by simp [execOp, ha.eval hc, ha.eval hv, asBool]
theorem OpQ.pick_b {c x y : Operand} {t p q : Bool} (hc : evalO E c = some (.bool t)) (hv : evalO E x = some (.bool p)) (hu : evalO E y = some (.bool q)) : OpQ P X ⟨some d, .pick c x y, ty, pos, af, none⟩ E L M (.bool (bif t then p else q)) :=
  .of fun a ha w _ => by cases t <;> simp [execOp, ha.eval hc, ha.eval hv, ha.eval hu, asBool]
theorem OpQ.nilCheck {x : Operand} {a : Addr} (hv : evalO E x = some (.pointer (some a))) : OpQ P X ⟨some d, .nilCheck x, ty, pos, af, none⟩ E L M (.pointer (some a)) :=
  .of fun a ha w _ => by simp [execOp, ha.eval hv]
/-- The address of a field. -/
theorem OpQ.fieldAddr {x : Operand} {s f b o k r : Nat} [hf : FieldAt P s f k] (hv : evalO E x = some (.pointer (some ⟨b, o, none⟩))) [hr : AddL o k r] :
    OpQ P X ⟨some d, .fieldAddr s x f, ty, pos, af, none⟩ E L M (.pointer (some ⟨b, r, none⟩)) :=
  .of fun a ha w _ => by
    have h := hf.ok
    rw [← hr.ok]
    unfold fieldOff at h
    split at h
    · rename_i fs hu
      split at h
      · rename_i fd hfd
        split at h
        · rename_i i hi
          split at h
          · cases h
          · rename_i hz
            simp only [Option.some.injEq] at h
            simp [execOp, ha.eval hv, Instr.fieldAt, run_underlying hu, hfd, Instr.sureAddr, fieldPlace, sizeOf, typeInfo, hi, hz, h, add_eq]
        · cases h
      · cases h
    · cases h

theorem OpQ.binop {op : BinOp} {x y : Operand} {xt yt : TypeId} {k : IntKind} {p q : Int} {v : Value} (hx : evalO E x = some (.int k p)) (hy : evalO E y = some (.int k q))
    (hop : op ≠ .shl ∧ op ≠ .shr) (h : ∀ w, (match op with
      | .add | .sub | .mul => Op.intArith op k p q
      | .quo | .rem => Op.intDiv op k p q
      | .and | .or | .xor | .andNot => Op.intBits op k p q
      | _ => Op.intCmp op p q : Sem Value).run P w = .ok v w) : OpQ P X ⟨some d, .binOp op xt x y yt, ty, pos, af, none⟩ E L M v :=
  .of fun a ha w _ => by
    have := h w
    cases op <;> simp_all [execOp, ha.eval hx, ha.eval hy, eqGuard, binOp]

theorem OpQ.add {x y : Operand} {xt yt : TypeId} {k : IntKind} {p q : Int} (hx : evalO E x = some (.int k p)) (hy : evalO E y = some (.int k q)) : OpQ P X ⟨some d, .binOp .add xt x y yt, ty, pos, af, none⟩ E L M (.int k (k.wrap (p + q))) :=
  .binop hx hy (by simp) fun _ => rfl
theorem OpQ.sub {x y : Operand} {xt yt : TypeId} {k : IntKind} {p q : Int} (hx : evalO E x = some (.int k p)) (hy : evalO E y = some (.int k q)) : OpQ P X ⟨some d, .binOp .sub xt x y yt, ty, pos, af, none⟩ E L M (.int k (k.wrap (p - q))) :=
  .binop hx hy (by simp) fun _ => rfl
theorem OpQ.mul {x y : Operand} {xt yt : TypeId} {k : IntKind} {p q : Int} (hx : evalO E x = some (.int k p)) (hy : evalO E y = some (.int k q)) : OpQ P X ⟨some d, .binOp .mul xt x y yt, ty, pos, af, none⟩ E L M (.int k (k.wrap (p * q))) :=
  .binop hx hy (by simp) fun _ => rfl
theorem wrap_in {p : Int} (h : -9223372036854775808 ≤ p ∧ p ≤ 9223372036854775807) : IntKind.i64.wrap p = p := by rw [IntKind.wrap_i64]; omega
/-- The same where nothing is lost. -/
theorem OpQ.add_ {x y : Operand} {xt yt : TypeId} {p q : Int} (hx : evalO E x = some (.int .i64 p)) (hy : evalO E y = some (.int .i64 q)) (h : -9223372036854775808 ≤ p + q ∧ p + q ≤ 9223372036854775807) : OpQ P X ⟨some d, .binOp .add xt x y yt, ty, pos, af, none⟩ E L M (.int .i64 (p + q)) :=
  .binop hx hy (by simp) fun _ => by simp only [Op.intArith, wrap_in h, Sem.run_pure]
theorem OpQ.sub_ {x y : Operand} {xt yt : TypeId} {p q : Int} (hx : evalO E x = some (.int .i64 p)) (hy : evalO E y = some (.int .i64 q)) (h : -9223372036854775808 ≤ p - q ∧ p - q ≤ 9223372036854775807) : OpQ P X ⟨some d, .binOp .sub xt x y yt, ty, pos, af, none⟩ E L M (.int .i64 (p - q)) :=
  .binop hx hy (by simp) fun _ => by simp only [Op.intArith, wrap_in h, Sem.run_pure]
theorem OpQ.mul_ {x y : Operand} {xt yt : TypeId} {p q : Int} (hx : evalO E x = some (.int .i64 p)) (hy : evalO E y = some (.int .i64 q)) (h : -9223372036854775808 ≤ p * q ∧ p * q ≤ 9223372036854775807) : OpQ P X ⟨some d, .binOp .mul xt x y yt, ty, pos, af, none⟩ E L M (.int .i64 (p * q)) :=
  .binop hx hy (by simp) fun _ => by simp only [Op.intArith, wrap_in h, Sem.run_pure]
theorem OpQ.quo {x y : Operand} {xt yt : TypeId} {k : IntKind} {p q : Int} (hx : evalO E x = some (.int k p)) (hy : evalO E y = some (.int k q)) (h : q ≠ 0) : OpQ P X ⟨some d, .binOp .quo xt x y yt, ty, pos, af, none⟩ E L M (.int k (k.wrap (p.tdiv q))) :=
  .binop hx hy (by simp) fun _ => by simp [Op.intDiv, h]
theorem OpQ.rem {x y : Operand} {xt yt : TypeId} {k : IntKind} {p q : Int} (hx : evalO E x = some (.int k p)) (hy : evalO E y = some (.int k q)) (h : q ≠ 0) : OpQ P X ⟨some d, .binOp .rem xt x y yt, ty, pos, af, none⟩ E L M (.int k (p.tmod q)) :=
  .binop hx hy (by simp) fun _ => by simp [Op.intDiv, h]
/-- A number that is not below nought, by one above it. -/
theorem OpQ.quo_ {x y : Operand} {xt yt : TypeId} {p q : Int} (hx : evalO E x = some (.int .i64 p)) (hy : evalO E y = some (.int .i64 q)) (h : 0 ≤ p ∧ p ≤ 9223372036854775807 ∧ 0 < q) : OpQ P X ⟨some d, .binOp .quo xt x y yt, ty, pos, af, none⟩ E L M (.int .i64 (p / q)) := by
  have e : IntKind.i64.wrap (p.tdiv q) = p / q := by
    rw [Int.tdiv_eq_ediv_of_nonneg h.1]
    have h1 := Int.ediv_nonneg h.1 (Int.le_of_lt h.2.2)
    have h2 := Int.ediv_le_self q h.1
    exact wrap_in (by omega)
  have := OpQ.quo (P := P) (X := X) (L := L) (M := M) (d := d) (ty := ty) (pos := pos) (af := af) (xt := xt) (yt := yt) hx hy (by omega)
  rwa [e] at this
theorem OpQ.rem_ {x y : Operand} {xt yt : TypeId} {k : IntKind} {p q : Int} (hx : evalO E x = some (.int k p)) (hy : evalO E y = some (.int k q)) (h : 0 ≤ p ∧ 0 < q) : OpQ P X ⟨some d, .binOp .rem xt x y yt, ty, pos, af, none⟩ E L M (.int k (p % q)) := by
  have := OpQ.rem (P := P) (X := X) (L := L) (M := M) (d := d) (ty := ty) (pos := pos) (af := af) (xt := xt) (yt := yt) hx hy (by omega)
  rwa [Int.tmod_eq_emod_of_nonneg h.1] at this
theorem OpQ.and {x y : Operand} {xt yt : TypeId} {k : IntKind} {p q : Int} (hx : evalO E x = some (.int k p)) (hy : evalO E y = some (.int k q)) : OpQ P X ⟨some d, .binOp .and xt x y yt, ty, pos, af, none⟩ E L M (.int k (k.wrap (BitVec.ofInt k.bits p &&& BitVec.ofInt k.bits q).toNat)) :=
  .binop hx hy (by simp) fun _ => rfl
theorem OpQ.or {x y : Operand} {xt yt : TypeId} {k : IntKind} {p q : Int} (hx : evalO E x = some (.int k p)) (hy : evalO E y = some (.int k q)) : OpQ P X ⟨some d, .binOp .or xt x y yt, ty, pos, af, none⟩ E L M (.int k (k.wrap (BitVec.ofInt k.bits p ||| BitVec.ofInt k.bits q).toNat)) :=
  .binop hx hy (by simp) fun _ => rfl
theorem OpQ.xor {x y : Operand} {xt yt : TypeId} {k : IntKind} {p q : Int} (hx : evalO E x = some (.int k p)) (hy : evalO E y = some (.int k q)) : OpQ P X ⟨some d, .binOp .xor xt x y yt, ty, pos, af, none⟩ E L M (.int k (k.wrap (BitVec.ofInt k.bits p ^^^ BitVec.ofInt k.bits q).toNat)) :=
  .binop hx hy (by simp) fun _ => rfl
theorem OpQ.andNot {x y : Operand} {xt yt : TypeId} {k : IntKind} {p q : Int} (hx : evalO E x = some (.int k p)) (hy : evalO E y = some (.int k q)) : OpQ P X ⟨some d, .binOp .andNot xt x y yt, ty, pos, af, none⟩ E L M (.int k (k.wrap (BitVec.ofInt k.bits p &&& ~~~ BitVec.ofInt k.bits q).toNat)) :=
  .binop hx hy (by simp) fun _ => rfl
theorem OpQ.shl {x y : Operand} {xt yt : TypeId} {k k' : IntKind} {p q : Int} (hx : evalO E x = some (.int k p)) (hy : evalO E y = some (.int k' q)) (h : 0 ≤ q) : OpQ P X ⟨some d, .binOp .shl xt x y yt, ty, pos, af, none⟩ E L M (.int k (k.wrap (p * 2 ^ (min q.toNat k.bits)))) :=
  .of fun a ha w _ => by simp [execOp, ha.eval hx, ha.eval hy, eqGuard, binOp, Op.shift, Int.not_lt.2 h]
theorem OpQ.shr {x y : Operand} {xt yt : TypeId} {k k' : IntKind} {p q : Int} (hx : evalO E x = some (.int k p)) (hy : evalO E y = some (.int k' q)) (h : 0 ≤ q) : OpQ P X ⟨some d, .binOp .shr xt x y yt, ty, pos, af, none⟩ E L M (.int k (p / 2 ^ (min q.toNat k.bits))) :=
  .of fun a ha w _ => by
    have e : p.fdiv (2 ^ (min q.toNat k.bits)) = p / 2 ^ (min q.toNat k.bits) := Int.fdiv_eq_ediv_of_nonneg _ (Int.le_of_lt (Int.pow_pos (by decide)))
    simp [execOp, ha.eval hx, ha.eval hy, eqGuard, binOp, Op.shift, Int.not_lt.2 h, e]
theorem OpQ.eql {x y : Operand} {xt yt : TypeId} {k : IntKind} {p q : Int} (hx : evalO E x = some (.int k p)) (hy : evalO E y = some (.int k q)) : OpQ P X ⟨some d, .binOp .eql xt x y yt, ty, pos, af, none⟩ E L M (.bool (decide (p = q))) :=
  .binop hx hy (by simp) fun _ => by simp [Op.intCmp]; exact Bool.eq_iff_iff.2 (by simp)
theorem OpQ.neq {x y : Operand} {xt yt : TypeId} {k : IntKind} {p q : Int} (hx : evalO E x = some (.int k p)) (hy : evalO E y = some (.int k q)) : OpQ P X ⟨some d, .binOp .neq xt x y yt, ty, pos, af, none⟩ E L M (.bool (decide (p ≠ q))) :=
  .binop hx hy (by simp) fun _ => by simp [Op.intCmp, bne]; exact Bool.eq_iff_iff.2 (by simp)
theorem OpQ.lss {x y : Operand} {xt yt : TypeId} {k : IntKind} {p q : Int} (hx : evalO E x = some (.int k p)) (hy : evalO E y = some (.int k q)) : OpQ P X ⟨some d, .binOp .lss xt x y yt, ty, pos, af, none⟩ E L M (.bool (decide (p < q))) :=
  .binop hx hy (by simp) fun _ => rfl
theorem OpQ.leq {x y : Operand} {xt yt : TypeId} {k : IntKind} {p q : Int} (hx : evalO E x = some (.int k p)) (hy : evalO E y = some (.int k q)) : OpQ P X ⟨some d, .binOp .leq xt x y yt, ty, pos, af, none⟩ E L M (.bool (decide (p ≤ q))) :=
  .binop hx hy (by simp) fun _ => rfl
theorem OpQ.gtr {x y : Operand} {xt yt : TypeId} {k : IntKind} {p q : Int} (hx : evalO E x = some (.int k p)) (hy : evalO E y = some (.int k q)) : OpQ P X ⟨some d, .binOp .gtr xt x y yt, ty, pos, af, none⟩ E L M (.bool (decide (q < p))) :=
  .binop hx hy (by simp) fun _ => rfl
theorem OpQ.geq {x y : Operand} {xt yt : TypeId} {k : IntKind} {p q : Int} (hx : evalO E x = some (.int k p)) (hy : evalO E y = some (.int k q)) : OpQ P X ⟨some d, .binOp .geq xt x y yt, ty, pos, af, none⟩ E L M (.bool (decide (q ≤ p))) :=
  .binop hx hy (by simp) fun _ => rfl
theorem OpQ.not {x : Operand} {t : TypeId} {p : Bool} (hx : evalO E x = some (.bool p)) : OpQ P X ⟨some d, .unOp .not t x, ty, pos, af, none⟩ E L M (.bool (!p)) :=
  .of fun a ha w _ => by simp [execOp, ha.eval hx, Op.unary]
theorem OpQ.neg {x : Operand} {t : TypeId} {k : IntKind} {p : Int} (hx : evalO E x = some (.int k p)) : OpQ P X ⟨some d, .unOp .neg t x, ty, pos, af, none⟩ E L M (.int k (k.wrap (0 - p))) :=
  .of fun a ha w _ => by simp [execOp, ha.eval hx, Op.unary, Op.intArith]
theorem OpQ.neg_ {x : Operand} {t : TypeId} {p : Int} (hx : evalO E x = some (.int .i64 p)) (h : -9223372036854775807 ≤ p ∧ p ≤ 9223372036854775807) : OpQ P X ⟨some d, .unOp .neg t x, ty, pos, af, none⟩ E L M (.int .i64 (-p)) :=
  .of fun a ha w _ => by simp [execOp, ha.eval hx, Op.unary, Op.intArith]; exact wrap_in (by omega)
/-- A pointer against nil. -/
theorem run_eqnil (w : World) {xt e : TypeId} (hu : P.underlying xt = some (.pointer e)) (p : Option Addr) : (Op.equal xt (.pointer p) (.pointer none)).run P w = .ok p.isNone w := by
  have h : ∀ n, (Op.equalIn (n + 1) xt (.pointer p) (.pointer none)).run P w = .ok p.isNone w := fun n => by
    cases p <;> simp [Op.equalIn, run_underlying hu]
  exact h 9999
theorem run_eqnil_slice (w : World) {xt e : TypeId} (hu : P.underlying xt = some (.slice e)) (p : Option Addr) (n c : Nat) : (Op.equal xt (.slice p n c) (.slice none 0 0)).run P w = .ok p.isNone w := by
  have h : ∀ k, (Op.equalIn (k + 1) xt (.slice p n c) (.slice none 0 0)).run P w = .ok p.isNone w := fun k => by
    cases p <;> simp [Op.equalIn, run_underlying hu]
  exact h 9999
theorem OpQ.eqnil {x : Operand} {xt yt e : TypeId} {p : Option Addr} [hp : PtrTy P xt e] (hx : evalO E x = some (.pointer p)) : OpQ P X ⟨some d, .binOp .eql xt x (.const (.pointer none)) yt, ty, pos, af, none⟩ E L M (.bool p.isNone) :=
  .of fun a ha w _ => by
    have h := run_eqnil w hp.ok p
    have e2 : a.eval (.const (.pointer none)) = .pointer none := rfl
    simp only [execOp, ha.eval hx, e2, eqGuard, binOp]
    simp [h]
theorem OpQ.nenil {x : Operand} {xt yt e : TypeId} {p : Option Addr} [hp : PtrTy P xt e] (hx : evalO E x = some (.pointer p)) : OpQ P X ⟨some d, .binOp .neq xt x (.const (.pointer none)) yt, ty, pos, af, none⟩ E L M (.bool p.isSome) :=
  .of fun a ha w _ => by
    have h := run_eqnil w hp.ok p
    have e2 : a.eval (.const (.pointer none)) = .pointer none := rfl
    simp only [execOp, ha.eval hx, e2, eqGuard, binOp]
    simp [h]
/-- Is a slice nil? -/
def noSlice : Value → Bool
  | .slice none _ _ => true
  | _ => false
theorem OpQ.eqnil_sl {x : Operand} {xt yt e sz bs : TypeId} {v : Value} {n : Nat} {A : As} [hp : SliceTy P xt e sz bs] (hx : evalO E x = some v) (hi : Inn L M A) (hl : A.lens v n) : OpQ P X ⟨some d, .binOp .eql xt x (.const (.slice none 0 0)) yt, ty, pos, af, none⟩ E L M (.bool (noSlice v)) :=
  .of fun a ha w hw => by
    obtain ⟨i, z, hu, _⟩ := SliceTy.out P xt
    obtain ⟨G, hG⟩ := hw.of_inn hi
    obtain ⟨ad, c, rfl⟩ := hl w G hG
    have h := run_eqnil_slice w hu ad n c
    have e2 : a.eval (.const (.slice none 0 0)) = .slice none 0 0 := rfl
    simp only [execOp, ha.eval hx, e2, eqGuard, binOp]
    cases ad <;> simp_all [noSlice]

/-! ### What is read -/
theorem OpQ.load {x : Operand} {t : TypeId} {p u : Value} {A : As} [CellTy P t] (hv : evalO E x = some p) (hi : Inn L M A) (hl : A.ld p u) : OpQ P X ⟨some d, .load t x, ty, pos, af, none⟩ E L M u :=
  .of fun a ha w hw => by
    obtain ⟨G, hG⟩ := hw.of_inn hi
    obtain ⟨ad, rfl, hc⟩ := hl w G hG
    simp [execOp, ha.eval hv, Instr.loadAt, Instr.sureAddr, loadVar, run_isAgg_cell P t, hc]
theorem OpQ.loads {x : Operand} {t : TypeId} {n : Nat} {p : Value} {us : List Value} {A : As} [AggTy P t n] (hv : evalO E x = some p) (hi : Inn L M A) (hl : A.lds p us) (hn : us.length = n) : OpQ P X ⟨some d, .load t x, ty, pos, af, none⟩ E L M (.agg us.toArray) :=
  .of fun a ha w hw => by
    obtain ⟨G, hG⟩ := hw.of_inn hi
    obtain ⟨ad, rfl, hc⟩ := hl w G hG
    obtain ⟨dd, i, hu, hinf, hsz, _⟩ := AggTy.out P t
    have := run_loadCells_list (P := P) w ad us hc
    simp [execOp, ha.eval hv, Instr.loadAt, Instr.sureAddr, loadVar, run_isAgg_agg P t, sizeOf, typeInfo, hinf, hsz, ← hn, this]
theorem OpQ.len {x : Operand} {t e sz bs : TypeId} {v : Value} {n : Nat} {A : As} [SliceTy P t e sz bs] (hv : evalO E x = some v) (hi : Inn L M A) (hl : A.lens v n) :
    OpQ P X ⟨some d, .call ⟨.builtin .len, #[x], #[t]⟩, ty, pos, af, none⟩ E L M (.int .i64 n) :=
  .of fun a ha w hw => by
    obtain ⟨G, hG⟩ := hw.of_inn hi
    obtain ⟨ad, c, rfl⟩ := hl w G hG
    obtain ⟨i, z, hu, _⟩ := SliceTy.out P t
    simp [execOp, resolve, invoke, builtin, Builtin.len_, ha.eval hv, run_underlying hu, goInt]
theorem OpQ.len_lit {x : Operand} {t e sz bs : TypeId} {n c : Nat} {ad : Option Addr} [SliceTy P t e sz bs] (hv : evalO E x = some (.slice ad n c)) :
    OpQ P X ⟨some d, .call ⟨.builtin .len, #[x], #[t]⟩, ty, pos, af, none⟩ E L M (.int .i64 n) :=
  .of fun a ha w hw => by
    obtain ⟨i, z, hu, _⟩ := SliceTy.out P t
    simp [execOp, resolve, invoke, builtin, Builtin.len_, ha.eval hv, run_underlying hu, goInt]
theorem OpQ.indexAddr {x y : Operand} {t e sz bs : TypeId} {v : Value} {k : IntKind} {i : Int} {n j : Nat} {A : As} [SliceTy P t e sz bs] (hv : evalO E x = some v) (hy : evalO E y = some (.int k i)) (hi : Inn L M A) (hl : A.lens v n)
    (hb : 0 ≤ i ∧ i < n) (hj : i.toNat * sz = j) (hne : noSlice v = false) : OpQ P X ⟨some d, .indexAddr t x y, ty, pos, af, none⟩ E L M (elemPtr v j) :=
  .of fun a ha w hw => by
    obtain ⟨G, hG⟩ := hw.of_inn hi
    obtain ⟨ad, c, rfl⟩ := hl w G hG
    obtain ⟨inf, z, hu, hinf, _, _, hsz, _⟩ := SliceTy.out P t
    cases ad with
    | none => simp [noSlice] at hne
    | some ad => subst hj; simp [execOp, ha.eval hv, ha.eval hy, Instr.indexAt, run_underlying hu, asIntOf, hb, sizeOf, typeInfo, hinf, hsz, elemPtr]
theorem OpQ.extract {x : Operand} {i : Nat} {vs : List Value} {v : Value} (hv : evalO E x = some (.tuple vs.toArray)) (hi : vs[i]? = some v) : OpQ P X ⟨some d, .extract x i, ty, pos, af, none⟩ E L M v :=
  .of fun a ha w hw => by simp [execOp, ha.eval hv, Instr.extract, hi]
theorem OpQ.max {x y : Operand} {t t' : TypeId} {k : IntKind} {p q : Int} (hx : evalO E x = some (.int k p)) (hy : evalO E y = some (.int k q)) :
    OpQ P X ⟨some d, .call ⟨.builtin .max, #[x, y], #[t, t']⟩, ty, pos, af, none⟩ E L M (.int k (if p < q then q else p)) :=
  .of fun a ha w hw => by simp [execOp, resolve, invoke, builtin, Builtin.max_, Builtin.max2, ha.eval hx, ha.eval hy]
theorem OpQ.min {x y : Operand} {t t' : TypeId} {k : IntKind} {p q : Int} (hx : evalO E x = some (.int k p)) (hy : evalO E y = some (.int k q)) :
    OpQ P X ⟨some d, .call ⟨.builtin .min, #[x, y], #[t, t']⟩, ty, pos, af, none⟩ E L M (.int k (if q < p then q else p)) :=
  .of fun a ha w hw => by simp [execOp, resolve, invoke, builtin, Builtin.min_, Builtin.min2, ha.eval hx, ha.eval hy]
theorem OpQ.convert {x : Operand} {s t : TypeId} {k k' : IntKind} {p : Int} {k0 : IntKind} [hs : IntTy P s k0] [ht : IntTy P t k'] (hx : evalO E x = some (.int k p)) : OpQ P X ⟨some d, .convert s t x, ty, pos, af, none⟩ E L M (.int k' (k'.wrap p)) :=
  .of fun a ha w hw => by simp [execOp, ha.eval hx, Go.convert, run_underlying hs.ok, run_underlying ht.ok, Conv.intToInt]
theorem OpQ.makeFunc {fn : Fn} {xs : List Operand} {vs : List Value} (hx : evalL E xs = some vs) : OpQ P X ⟨some d, .makeFunc fn #[] xs.toArray, ty, pos, af, none⟩ E L M (.func fn #[] vs.toArray) :=
  .of fun a ha w hw => by simp [execOp, Instr.makeFunc, ← ha.evalL hx]
/-- A struct out of its parts. -/
def buildOf (P : Program) (t : TypeId) (ps : List (Nat × Value)) : Option (Array Value) :=
  match (P.info? t).bind (·.zero), P.underlying t with
  | some z, some (.struct fs) => Instr.fill (((fs.toList.map fun f => (f.offset, ((P.info? f.type).map (·.size)).getD 0)).toArray)[·]?) z.cells ps
  | _, _ => none
end quiet
end Go.Proofs.YtoiebfpafdcbmaaDoor.K
