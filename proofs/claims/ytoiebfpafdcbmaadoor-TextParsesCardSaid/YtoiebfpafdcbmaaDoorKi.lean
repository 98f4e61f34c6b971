/- The logic's rules for values of several cells that are stored. No program in sight. -/
import Derived.Test.YtoiebfpafdcbmaaDoorKh
namespace Go.Proofs.YtoiebfpafdcbmaaDoor.K
open Go Go.RowKit
set_option linter.unusedVariables false
set_option linter.unusedSimpArgs false

theorem eff_row (w : World) (b : Nat) (cs : Array Value) (F : Nat → Prop) (h : F b) : Eff F w (w.setRow b cs) := by
  refine ⟨rfl, rfl, rfl, by simp [World.setRow], fun k hk hn => ?_⟩
  have : k ≠ b := fun e => hn (e ▸ h)
  simp only [World.setRow]
  rw [Array.getElem?_modify]
  rw [if_neg (fun e => this e.symm)]

section
variable {P : Program} {X : Cx} {E : List (Nat × Value)} {L L1 L' M : List As} {Q : Exit → Act → World → Prop} {ops : Array Oper} {d : Nat} {ty : TypeId} {pos : String} {af : Array Edge} {rest : List Oper}

/-- A struct is stored in a variable. -/
theorem Rx.stn {t : TypeId} {x y : Operand} {b i n : Nat} {T : TypeId} {cs us cs' : List Value} [AggTy P t n] (hx : evalO E x = some (.pointer (some ⟨b, i, none⟩))) (hy : evalO E y = some (.agg us.toArray)) (h1 : us.all (·.oneCell') = true) (hn : us.length = n)
    [ht : TakePt L b T cs L'] (hi : i + n ≤ cs.length) (hc : cs.take i ++ us ++ cs.drop (i + n) = cs') (k : Rx P X ops rest E (pt b T cs' :: L') M Q) : Rx P X ops (⟨none, .store t x y, ty, pos, af, none⟩ :: rest) E L M Q := by
  refine Rx.of_unit rfl rfl (fun a ha w hw => ?_) k
  obtain ⟨F, hF⟩ := (Hp.of_inn (.own (by exact In.of_take ht.ok)) hw)
  obtain ⟨hb, hf⟩ := hF
  obtain ⟨dd, inf, hu, hinf, hsz, _⟩ := AggTy.out P t
  have hst := run_storeCells_at P b i T us 0 cs.toArray w hb (by simp; omega) (fun v hv => (List.all_eq_true.1 h1) v hv)
  refine ⟨_, ?_, Hp.turn ht.ok hw fun F1 hF1 => ⟨F1, ⟨?_, hF1.2⟩, fun b hb => .inl hb, eff_row w b cs'.toArray F1 ((hF1.2 b).2 rfl)⟩⟩
  · have e : (⟨b, i, none⟩ : Addr).add 0 = ⟨b, i, none⟩ := by simp [Addr.add]
    subst hc
    have hcells : (Value.agg us.toArray).cells = us.toArray := rfl
    simp only [Nat.add_zero, hn] at hst
    simp [execOp, ha.eval hx, ha.eval hy, Instr.storeAt, Instr.sureAddr, storeVar, sizeOf, typeInfo, hinf, hsz, hcells, hn, hst]
  · exact setRow_heap w b _ _ T (0, 0) hF1.1
end
end Go.Proofs.YtoiebfpafdcbmaaDoor.K
