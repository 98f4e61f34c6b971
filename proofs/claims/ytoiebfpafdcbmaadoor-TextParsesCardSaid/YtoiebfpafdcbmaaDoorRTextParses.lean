/- TextParses: which planes, frames and films any texts are is what the document says: for every string. The card: with the listed tables and sentinels of Go's library tied to the program's text. -/
import Derived.Test.YtoiebfpafdcbmaaDoorCards
import Derived.Test.YtoiebfpafdcbmaaDoorTie
import Derived.Test.YtoiebfpafdcbmaaDoorRt
import Derived.Test.YtoiebfpafdcbmaaDoorL5
namespace Go.Proofs.YtoiebfpafdcbmaaDoor
open Go Go.RowKit Go.ChangeShapes Go.WideShapes Go.ChangeAt K
set_option linter.unusedVariables false
set_option linter.unusedSimpArgs false

theorem textParses_calls (s : List UInt8) (W : World) (hlib : libP W) :
    Calls Tryd.prog 5 #[str s] W fun e W' => e = .returned (.bool true) ∧ Below W.heap.size W W' := by
  refine ((law38_TextParses s).use (has_none W) (shr_of (M := [lib]) fun A hA => ?_)).mono ?_
  · obtain rfl := List.mem_singleton.1 hA
    exact lib_as hlib
  · rintro e W' ⟨u, L1, F1, rfl, ⟨rfl, rfl⟩, _, _, he⟩
    exact ⟨rfl, he.to_below (fun b hb x => x)⟩

set_option maxRecDepth 100000 in
theorem textParses_contract (H : Type) (enc : TypeId × Value → H) (W : World) (base : Nat) (args : Array Value) (ds gs : List (DataW H)) (before : List MemPlace)
    (hval0 : ∀ (j : Nat) t v, Tryd.f5.params[j]? = some t → args[j]? = some v → Value.okWide Tryd.prog W .any base t v)
    (hW : DataW.Whole enc Tryd.prog Tryd.f5.params.toList Rows.textParsesSpec.vars false W args.toList ds gs before) (hL : laidMetH Tryd.prog Rows.textPlanesRow.laid W) (hsh : W.ShapedOpen Tryd.prog) :
    Calls Tryd.prog 5 args W fun e W' => ∃ v, e = .returned v ∧ Rows.textParsesSpec.post enc Tryd.prog Tryd.f5 false true false false W args v W' := by
  have hval : ∀ (j : Nat) t v, Tryd.f5.params[j]? = some t → args[j]? = some v → Value.okWide Tryd.prog W .any base t v := hval0
  have hW' := hW
  obtain ⟨p, q, hA0, hV, rfl, hfz, hnd⟩ := hW
  have hA : DataW.TrodAll enc Tryd.prog W 0 (fun _ => true) true Tryd.f5.params.toList args.toList ds p := hA0
  rw [Tryd.params5] at hA hval
  obtain ⟨v0, vs0, d0, ds0, p0, q0, hargs, rfl, rfl, h0, r0⟩ := trodAll_cons hA
  obtain ⟨rfl, rfl, rfl⟩ := trodAll_nil r0
  obtain rfl : args = #[v0] := by cases args; simp_all
  obtain ⟨rfl, rfl⟩ := trodVars_none hV
  have k0 := h0
  have lt0 : ∀ x ∈ p0, x.block < W.heap.size := by obtain ⟨m, hm⟩ := k0; exact DataW.trod_lt m _ _ _ hm
  obtain ⟨⟨⟨l⟩⟩, rfl⟩ := okWide_string Tryd.underlying9 (hval 0 9 v0 rfl rfl)
  clear hA0 hval0
  refine (textParses_calls l W (lib_met hL hsh)).mono fun e W' ⟨he, bel⟩ => ?_
  subst he
  exact ⟨_, rfl, _, _, _, [], _, [], hW', trodAll_mk1 (shut_bool Tryd.underlying4 _), (trodAll_cons_mk (Below.trod laidOut (by kernel_rfl) (of_decide_eq_true (by kernel_rfl)) k0 bel lt0) trodAll_mk0), rfl, bel.frame _, fun h => by cases h⟩

theorem textParses_met (os : Os) : laidMetH Tryd.prog Rows.textParsesRow.laid ((World.laidAll Tryd.prog os Rows.textParsesRow.laid).forCall (fun _ _ => 0) ⟨#[], #[.string ⟨#[]⟩], []⟩).memory := by
  rw [MakeChecks.laidMetH_plain _ _ _ (by kernel_rfl)]
  exact laidMet_laidAll _ (by kernel_rfl) (by kernel_rfl)
theorem textParses_reads (os : Os) {H : Type} (enc : TypeId × Value → H) : ∃ places, DataW.whole enc Tryd.prog ((World.laidAll Tryd.prog os Rows.textParsesRow.laid).forCall (fun _ _ => 0) ⟨#[], #[.string ⟨#[]⟩], []⟩).memory Tryd.f5.params.toList Rows.textParsesSpec.vars false (#[.string ⟨#[]⟩] : Array Value).toList 8 = some ([.lit (.string [])], [], places) :=
  ⟨[], by kernel_rfl⟩
set_option maxRecDepth 100000 in
theorem textParses_lifted (os : Os) (started : os.Started) (H : Type) (enc : TypeId × Value → H) (F : Stop.Interp) :
    ReturnsInHanded {} Tryd.checked os 5 .any ((OpenSpec.ofChange Rows.textParsesSpec).preRow enc Tryd.prog Tryd.f5 Rows.textParsesRow.domain false Rows.textParsesRow.laid) (((OpenSpec.ofChange Rows.textParsesSpec).at F).post enc Tryd.prog Tryd.f5 false true false false) := by
  obtain ⟨places, hx⟩ := textParses_reads os enc
  refine returnsInHanded_of_row (C := Tryd.checked) (s := (OpenSpec.ofChange Rows.textParsesSpec)) own started (by kernel_rfl) Tryd.func5
    (witness_any (enc := enc) (C := Tryd.checked) (World.laidAll Tryd.prog os Rows.textParsesRow.laid) #[.string ⟨#[]⟩] (World.laidAll_os _ _ _) (World.shaped_of_ZipB (by kernel_rfl) (by kernel_rfl)) (by kernel_rfl)
      (OpenSpec.preRow_of_cond 8 hx (by kernel_rfl) (fun k hk => by cases hk) (by kernel_rfl) (textParses_met os))) ?_
  intro W base args ds gs before hval hW _ _ _ hL hsh _
  exact textParses_contract H enc W base args ds gs before hval hW hL hsh

theorem textParses_row : Rows.TextParsesSaid :=
  OpenClaim.holds_of_cond 5 Tryd.f5 rfl rfl rfl rfl rfl rfl rfl ⟨rfl, rfl, rfl, rfl, rfl⟩ rfl rfl rfl rfl rfl (by kernel_rfl) Tryd.func5 (by kernel_rfl)
    (of_decide_eq_true (by kernel_rfl)) (by unfold Func.isWrapper; first | (rw [if_pos (by decide +kernel)]; kernel_rfl) | (rw [if_neg (by decide +kernel)]; exact ⟨rfl, rfl⟩))
    (fun os started H enc _ F => by rw [OpenClaim.pre_eq_preRow]; exact textParses_lifted os started H enc F)
theorem textParses_plain (f : FuncId) (fn : Func) (hf : Tryd.pinned.checked.prog.funcNamed "shingle/shinglelaw38.TextParses" = some f) (hfn : Tryd.pinned.checked.prog.funcs[f]? = some fn) :
    true = Tryd.pinned.checked.prog.looks [] ∧ ∀ (j : Nat) t, fn.params[j]? = some t → Tryd.pinned.checked.prog.wantsStandIn t = false := by
  obtain rfl : f = 5 := Option.some.inj ((show Tryd.prog.funcNamed "shingle/shinglelaw38.TextParses" = some 5 by kernel_rfl).symm.trans hf) |>.symm
  obtain rfl : fn = Tryd.f5 := (Option.some.inj (Tryd.func5.symm.trans hfn)).symm
  refine ⟨by kernel_rfl, fun j t ht => ?_⟩
  rw [Tryd.params5] at ht
  have hm : t ∈ [9] := by simpa using Array.mem_of_getElem? ht
  have hall : ([9].all fun u => !Tryd.prog.wantsStandIn u) = true := by kernel_rfl
  exact (show Tryd.prog.wantsStandIn t = false by simpa using List.all_eq_true.1 hall t hm)
theorem textParses_card : Rows.TextParsesCardSaid :=
  Claim7.holds_tied_plain_at .later [] _ _ _ _ textParses_row (fun _ h => by cases h) (by kernel_rfl) (fun _ h => by cases h) textParses_row_tie rfl ⟨rfl, rfl⟩ (by kernel_rfl) rfl textParses_plain (by kernel_rfl)
#print axioms textParses_card
end Go.Proofs.YtoiebfpafdcbmaaDoor
