/- Contracts of Go's library off the shelf: how many bits a number has. -/
import Derived.Test.YtoiebfpafdcbmaaDoorSp
import Derived.Test.YtoiebfpafdcbmaaDoorBa
import Derived.Test.YtoiebfpafdcbmaaDoorKk
namespace Go.Proofs.YtoiebfpafdcbmaaDoor
open Go Go.RowKit Go.Shelf K
theorem lib_bits_Len (x : Int) (w : World) (h0 : 0 ≤ x) (h1 : x ≤ 18446744073709551615) :
    Calls Tryd.prog 87 #[.int .u64 x] w fun e w' => e = .returned (.int .i64 (Lib.bitLen x.toNat)) ∧ w' = w := Any.bits_Len Tryd.lays125 x w h0 h1

theorem K.Spc.of_pure {P : Program} {f : FuncId} {args : List Value} {v : Value} (hg : isGo P f = true) (h : ∀ w, Calls P f args.toArray w fun e w' => e = .returned v ∧ w' = w) : Spc P f args [] [] (ret v) :=
  ⟨hg, fun w F1 h1 h2 => (h w).mono fun e w' ⟨he, hw⟩ => by
    subst hw
    exact ⟨v, [], F1, he, ⟨rfl, rfl⟩, h1, fun b hb => .inl hb, Eff.refl _ _⟩⟩
theorem math_bits_Len (x : Int) (h : 0 ≤ x ∧ x < 2 ^ 64) : Spc Tryd.prog 87 [.int .u64 x] [] [] (ret (.int .i64 (Lib.bitLen x.toNat))) :=
  K.Spc.of_pure (by kernel_rfl) (fun w => lib_bits_Len x w h.1 (by omega))
end Go.Proofs.YtoiebfpafdcbmaaDoor
