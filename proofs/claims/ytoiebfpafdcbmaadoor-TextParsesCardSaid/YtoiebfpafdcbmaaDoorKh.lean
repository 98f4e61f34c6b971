/- The logic's further rules: where ways meet again; assertions turned into others; slices of slices; strings. No program in sight. -/
import Derived.Test.YtoiebfpafdcbmaaDoorKg
namespace Go.Proofs.YtoiebfpafdcbmaaDoor.K
open Go Go.RowKit
set_option linter.unusedVariables false
set_option linter.unusedSimpArgs false

section
variable {P : Program} {X : Cx} {E : List (Nat × Value)} {L L1 R M : List As} {Q : Exit → Act → World → Prop} {ops : Array Oper} {a : Act} {w : World} {d : Nat} {ty : TypeId} {pos : String} {af : Array Edge} {rest : List Oper}

/-- Ways meet again: what is known there is told by y. -/
theorem Gx.join {c e : Code} {α : Type} (I : α → Prop) (E1 : α → List (Nat × Value)) (L1 : α → List As) (h1 : Gx P X c E L M (Exit.then (fun a w => ∃ y, I y ∧ St X (E1 y) (L1 y) M a w) Q))
    (h2 : ∀ y, I y → Gx P X e (E1 y) (L1 y) M Q) : Gx P X (.seq c e) E L M Q :=
  ⟨fun a w hs => wpIn_seq (wpIn_mono (h1.out a w hs) fun x a' w' q => by
    cases x with
    | normal => obtain ⟨y, hy, hs'⟩ := q; exact (h2 y hy).out a' w' hs'
    | _ => exact q)⟩

theorem Hp.conv {w0 : World} {F0 : Nat → Prop} {L' : List As} {A B : As} (ht : Take L A L') (hAB : ∀ (w : World) F, A.P w F → B.P w F) (h : Hp w0 F0 L M w) : Hp w0 F0 (B :: L') M w :=
  h.turn ht fun F1 h1 => ⟨F1, hAB w F1 h1, fun b hb => .inl hb, Eff.refl _ _⟩
theorem Gx.conv {c : Code} {A B : As} [ht : TakeA L A L1] (hAB : ∀ (w : World) F, A.P w F → B.P w F) (h : Gx P X c E (B :: L1) M Q) : Gx P X c E L M Q := ⟨fun a w hs => h.out a w ⟨hs.1, hs.2.conv ht.ok hAB⟩⟩
theorem Rx.conv {l : List Oper} {A B : As} [ht : TakeA L A L1] (hAB : ∀ (w : World) F, A.P w F → B.P w F) (h : Rx P X ops l E (B :: L1) M Q) : Rx P X ops l E L M Q := ⟨fun a w hs => h.out a w ⟨hs.1, hs.2.conv ht.ok hAB⟩⟩

/-- A shared assertion says another besides. -/
theorem Hp.derive {w0 : World} {F0 : Nat → Prop} {A B : As} (hA : In M A) (hAB : ∀ (w : World) F, A.P w F → ∃ G, B.P w G ∧ ∀ b, G b → F b) (h : Hp w0 F0 L M w) : Hp w0 F0 L (B :: M) w := by
  obtain ⟨F, h1, h2, h3, h4⟩ := h
  refine ⟨F, h1, fun C hC => ?_, h3, h4⟩
  rcases List.mem_cons.1 hC with rfl | hC
  · obtain ⟨G, g, hd⟩ := h2 A hA.mem
    obtain ⟨G', g', hs⟩ := hAB w G g
    exact ⟨G', g', fun b hb => hd b (hs b hb)⟩
  · exact h2 C hC
theorem Gx.derive {c : Code} {A B : As} (hA : In M A) (hAB : ∀ (w : World) F, A.P w F → ∃ G, B.P w G ∧ ∀ b, G b → F b) (h : Gx P X c E L (B :: M) Q) : Gx P X c E L M Q := ⟨fun a w hs => h.out a w ⟨hs.1.mem fun _ hb => List.mem_cons_of_mem _ hb, hs.2.derive hA hAB⟩⟩
theorem Rx.derive {l : List Oper} {A B : As} (hA : In M A) (hAB : ∀ (w : World) F, A.P w F → ∃ G, B.P w G ∧ ∀ b, G b → F b) (h : Rx P X ops l E L (B :: M) Q) : Rx P X ops l E L M Q := ⟨fun a w hs => h.out a w ⟨hs.1.mem fun _ hb => List.mem_cons_of_mem _ hb, hs.2.derive hA hAB⟩⟩
theorem Hp.dropM {w0 : World} {F0 : Nat → Prop} {M' : List As} (hM : ∀ A, A ∈ M' → A ∈ M) (h : Hp w0 F0 L M w) : Hp w0 F0 L M' w := by
  obtain ⟨F, h1, h2, h3, h4⟩ := h
  exact ⟨F, h1, fun A hA => h2 A (hM A hA), h3, h4⟩
theorem St.dropM {B : As} (hs : St X E L (B :: M) a w) (hB : B.tag = false) : St X E L M a w :=
  ⟨hs.1.mem fun b hb => (List.mem_cons.1 hb).elim (fun e => by subst e; cases hB) id, hs.2.dropM fun _ => List.mem_cons_of_mem _⟩

theorem one_slice {a : Option Addr} {n c : Nat} : (Value.slice a n c).oneCell' = true := rfl
theorem Gx.know {c : Code} {A : As} {φ : Prop} (hA : Inn L M A) (h : ∀ (w : World) F, A.P w F → φ) (k : φ → Gx P X c E L M Q) : Gx P X c E L M Q := ⟨fun a w hs => let ⟨G, g⟩ := hs.2.of_inn hA; (k (h w G g)).out a w hs⟩
theorem Rx.know {l : List Oper} {A : As} {φ : Prop} (hA : Inn L M A) (h : ∀ (w : World) F, A.P w F → φ) (k : φ → Rx P X ops l E L M Q) : Rx P X ops l E L M Q := ⟨fun a w hs => let ⟨G, g⟩ := hs.2.of_inn hA; (k (h w G g)).out a w hs⟩
/-- A slice's value is one cell. -/
theorem Gx.one {c : Code} (v : Value) {n : Nat} {xs : List Value} [hf : FindSl L M v n xs] (k : v.oneCell' = true → Gx P X c E L M Q) : Gx P X c E L M Q := by
  obtain ⟨A, h1, h2⟩ := hf.ok
  exact Gx.know h1 (fun w F h => by obtain ⟨a, c, rfl⟩ := h2.lens w F h; rfl) k
theorem Rx.one {l : List Oper} (v : Value) {n : Nat} {xs : List Value} [hf : FindSl L M v n xs] (k : v.oneCell' = true → Rx P X ops l E L M Q) : Rx P X ops l E L M Q := by
  obtain ⟨A, h1, h2⟩ := hf.ok
  exact Rx.know h1 (fun w F h => by obtain ⟨a, c, rfl⟩ := h2.lens w F h; rfl) k
theorem cells_one {v : Value} (h : v.oneCell' = true) : v.cells = #[v] := by cases v <;> first | rfl | simp [Value.oneCell'] at h
theorem sl_nil (w : World) (e sz : Nat) : (sl e sz (.slice none 0 0) 0 []).P w (fun _ => False) := ⟨World.ownsRow_nil w 0 e sz, fun k => by simp [Value.ownBlock]⟩
/-- The nil slice is owned by whoever wants it. -/
theorem Hp.nilS {w0 : World} {F0 : Nat → Prop} {e sz : Nat} (h : Hp w0 F0 L M w) : Hp w0 F0 (sl e sz (.slice none 0 0) 0 [] :: L) M w := h.new (sl_nil w e sz) (fun b hb => hb.elim) (Eff.refl _ _)
theorem Gx.nilS {c : Code} {e sz : Nat} (h : Gx P X c E (sl e sz (.slice none 0 0) 0 [] :: L) M Q) : Gx P X c E L M Q := ⟨fun a w hs => h.out a w ⟨hs.1, hs.2.nilS⟩⟩
theorem Rx.nilS {l : List Oper} {e sz : Nat} (h : Rx P X ops l E (sl e sz (.slice none 0 0) 0 [] :: L) M Q) : Rx P X ops l E L M Q := ⟨fun a w hs => h.out a w ⟨hs.1, hs.2.nilS⟩⟩
/-- A part of a slice. -/
def subV (v : Value) (l h sz : Nat) : Value :=
  match v with
  | .slice a _ c => .slice (if c = l then a else a.map (·.add (l * sz))) (h - l) (c - l)
  | x => x
theorem run_sub (w : World) (t e sz bs : TypeId) [SliceTy P t e sz bs] (ad : Option Addr) (n c : Nat) (lo hi : Option Value) (l h : Nat) (hlo : lo = none ∧ l = 0 ∨ ∃ k, lo = some (.int k (l : Int))) (hhi : hi = none ∧ h = n ∨ ∃ k, hi = some (.int k (h : Int))) (hlh : l ≤ h) (hc : h ≤ c) :
    (Instr.sliceAt t (.slice ad n c) lo hi none).run P w = .ok (subV (.slice ad n c) l h sz) w := by
  obtain ⟨i, z, hu, hinf, _, _, hsz, _⟩ := SliceTy.out P t
  have h1 : ((0 : Int) ≤ l ∧ (l : Int) ≤ h) := by omega
  have h2 : ((0 : Int) ≤ h ∧ (h : Int) ≤ c) := by omega
  rcases hlo with ⟨rfl, rfl⟩ | ⟨k, rfl⟩ <;> rcases hhi with ⟨rfl, rfl⟩ | ⟨k', rfl⟩ <;>
    simp [Instr.sliceAt, Instr.slice, run_underlying hu, Instr.sliceBounds, Instr.sliceBound, asIntOf, sizeOf, typeInfo, hinf, hsz, subV, hlh, hc]
theorem OpQ.sub_h {x y : Operand} {t e sz bs : TypeId} {v : Value} {k : IntKind} {n h : Nat} {xs : List Value} {q : Int} [SliceTy P t e sz bs] (hv : evalO E x = some v) (hy : evalO E y = some (.int k q)) [hf : FindSl L M v n xs] (hq : q = h) (hh : h ≤ n) :
    OpQ P X ⟨some d, .slice t x none (some y) none, ty, pos, af, none⟩ E L M (subV v 0 h sz) :=
  .of fun a ha w hw => by
    obtain ⟨A, h1, h2⟩ := hf.ok
    obtain ⟨G, hG⟩ := hw.of_inn h1
    obtain ⟨ad, c, rfl, hc⟩ := h2.cap w G hG
    subst hq
    have := run_sub (P := P) w t e sz bs ad n c none (some (.int k h)) 0 h (.inl ⟨rfl, rfl⟩) (.inr ⟨k, rfl⟩) (by omega) (by omega)
    simp [execOp, ha.eval hv, ha.eval hy, this]
theorem OpQ.sub_l {x y : Operand} {t e sz bs : TypeId} {v : Value} {k : IntKind} {n l : Nat} {xs : List Value} {q : Int} [SliceTy P t e sz bs] (hv : evalO E x = some v) (hy : evalO E y = some (.int k q)) [hf : FindSl L M v n xs] (hq : q = l) (hl : l ≤ n) :
    OpQ P X ⟨some d, .slice t x (some y) none none, ty, pos, af, none⟩ E L M (subV v l n sz) :=
  .of fun a ha w hw => by
    obtain ⟨A, h1, h2⟩ := hf.ok
    obtain ⟨G, hG⟩ := hw.of_inn h1
    obtain ⟨ad, c, rfl, hc⟩ := h2.cap w G hG
    subst hq
    have := run_sub (P := P) w t e sz bs ad n c (some (.int k l)) none l n (.inr ⟨k, rfl⟩) (.inl ⟨rfl, rfl⟩) (by omega) (by omega)
    simp [execOp, ha.eval hv, ha.eval hy, this]
theorem OpQ.sub_lh {x y z : Operand} {t e sz bs : TypeId} {v : Value} {k k' : IntKind} {n l h : Nat} {xs : List Value} {q r : Int} [SliceTy P t e sz bs] (hv : evalO E x = some v) (hy : evalO E y = some (.int k q)) (hz : evalO E z = some (.int k' r)) [hf : FindSl L M v n xs] (hq : q = l) (hr : r = h) (hl : l ≤ h ∧ h ≤ n) :
    OpQ P X ⟨some d, .slice t x (some y) (some z) none, ty, pos, af, none⟩ E L M (subV v l h sz) :=
  .of fun a ha w hw => by
    obtain ⟨A, h1, h2⟩ := hf.ok
    obtain ⟨G, hG⟩ := hw.of_inn h1
    obtain ⟨ad, c, rfl, hc⟩ := h2.cap w G hG
    subst hq; subst hr
    have := run_sub (P := P) w t e sz bs ad n c (some (.int k l)) (some (.int k' h)) l h (.inr ⟨k, rfl⟩) (.inr ⟨k', rfl⟩) (by omega) (by omega)
    simp [execOp, ha.eval hv, ha.eval hy, ha.eval hz, this]

/-- A part of what can be read can be read. -/
theorem rd_sub {sz n l h : Nat} {v : Value} {xs : List Value} (hl : l ≤ h ∧ h ≤ n) (w : World) (F : Nat → Prop) (hp : (rd sz v n xs).P w F) : ∃ G, (rd sz (subV v l h sz) (h - l) ((xs.drop (l * sz)).take ((h - l) * sz))).P w G ∧ ∀ b, G b → F b := by
  obtain ⟨h1, ad, c, ⟨rfl, hc⟩, h2, h3⟩ := hp
  refine ⟨F, ⟨?_, _, _, ⟨rfl, by omega⟩, ?_, h3⟩, fun b hb => hb⟩
  · rw [List.length_take, List.length_drop, h1, ← Nat.sub_mul]
    exact Nat.min_eq_left (Nat.mul_le_mul_right _ (by omega))
  · by_cases hlh : h - l = 0
    · exact .inl hlh
    · rcases h2 with h2 | ⟨b, o, rfl, hcell, hb⟩
      · omega
      · refine .inr ⟨b, o + l * sz, ?_, fun j u hj => ?_, hb⟩
        · have : ¬ c = l := by omega
          rw [if_neg this, Option.map_some, add_eq]
        · rw [List.getElem?_take] at hj
          split at hj
          · rw [List.getElem?_drop] at hj
            rw [Nat.add_assoc]; exact hcell _ u hj
          · cases hj
/-- A beginning of an owned slice is owned. -/
theorem sl_prefix {e sz n h : Nat} {v : Value} {xs : List Value} (hh : h ≤ n) (w : World) (F : Nat → Prop) (hp : (sl e sz v n xs).P w F) : (sl e sz (subV v 0 h sz) h (xs.take (h * sz))).P w F := by
  obtain ⟨⟨hl, h1⟩, h2⟩ := hp
  rcases h1 with ⟨rfl, rfl⟩ | ⟨g, cap, cur, rfl, hb, hg, hn, hm, hs, ht⟩
  · have : h = 0 := by omega
    subst this
    refine ⟨⟨by simp, .inl ⟨by simp [subV], rfl⟩⟩, fun k => ?_⟩
    rw [h2 k]; simp [subV, Value.ownBlock]
  · have e1 : subV (.slice (some ⟨g, 0, none⟩) n cap) 0 h sz = .slice (some ⟨g, 0, none⟩) h cap := by
      simp only [subV, Nat.sub_zero, Option.map_some, Nat.zero_mul, add_eq, Nat.add_zero]
      split <;> rfl
    rw [e1]
    refine ⟨⟨?_, .inr ⟨g, cap, cur, rfl, hb, hg, by omega, hm, hs, ?_⟩⟩, h2⟩
    · rw [List.length_take, hl]; exact Nat.min_eq_left (Nat.mul_le_mul_right _ hh)
    · rw [← ht, List.take_take, Nat.min_eq_left (Nat.mul_le_mul_right _ hh)]

/-! ### Strings -/
theorem OpQ.len_str {x : Operand} {t : TypeId} {s : ByteArray} [ht : StrTy P t] (hv : evalO E x = some (.string s)) :
    OpQ P X ⟨some d, .call ⟨.builtin .len, #[x], #[t]⟩, ty, pos, af, none⟩ E L M (.int .i64 s.size) :=
  .of fun a ha w hw => by simp [execOp, resolve, invoke, builtin, Builtin.len_, ha.eval hv, run_underlying ht.ok, goInt]
theorem OpQ.idx_str {x y : Operand} {t : TypeId} {s : ByteArray} {k : IntKind} {i : Int} {c : UInt8} [ht : StrTy P t] (hv : evalO E x = some (.string s)) (hy : evalO E y = some (.int k i)) (hi : 0 ≤ i) (hc : s[i.toNat]? = some c) :
    OpQ P X ⟨some d, .index t x y, ty, pos, af, none⟩ E L M (.int .u8 c.toNat) :=
  .of fun a ha w hw => by simp [execOp, Instr.index, ha.eval hv, ha.eval hy, run_underlying ht.ok, asIntOf, hi, hc]
theorem OpQ.eql_str {x y : Operand} {xt yt : TypeId} {p q : ByteArray} (hx : evalO E x = some (.string p)) (hy : evalO E y = some (.string q)) : OpQ P X ⟨some d, .binOp .eql xt x y yt, ty, pos, af, none⟩ E L M (.bool (p.toList == q.toList)) :=
  .of fun a ha w _ => by simp [execOp, ha.eval hx, ha.eval hy, eqGuard, binOp, Op.stringOp]
end
end Go.Proofs.YtoiebfpafdcbmaaDoor.K
