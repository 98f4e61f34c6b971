/- TextPlanes: the texts and pictures of any planes, frames and films are the document's: for every frame and every int. The card: with the listed tables and sentinels of Go's library tied to the program's text. -/
import Derived.Test.YtoiebfpafdcbmaaDoorCards
import Derived.Test.YtoiebfpafdcbmaaDoorTie
import Derived.Test.YtoiebfpafdcbmaaDoorRv
import Derived.Test.YtoiebfpafdcbmaaDoorL4
namespace Go.Proofs.YtoiebfpafdcbmaaDoor
open Go Go.RowKit Go.ChangeShapes Go.WideShapes Go.ChangeAt K
set_option linter.unusedVariables false
set_option linter.unusedSimpArgs false

theorem textPlanes_calls (y : FrV) (m : Int) (W : World) (ho : y.u.oneCell' = true ∧ y.v.oneCell' = true ∧ y.w.oneCell' = true) (hz : i64s y.f.a.l ∧ i64s y.f.b.l ∧ i64s y.f.c.l)
    (hl : y.f.a.l.length ≤ 17592186044416 ∧ y.f.b.l.length ≤ 17592186044416 ∧ y.f.c.l.length ≤ 17592186044416) (hF : ∀ A ∈ frR [y], ∃ F, A.P W F) (hlib : libP W) :
    Calls Tryd.prog 4 #[.agg y.c.toArray, .int .i64 m] W fun e W' => e = .returned (.bool true) ∧ Below W.heap.size W W' := by
  refine ((law38_TextPlanes y.f y.u y.v y.w m ho.1 ho.2.1 ho.2.2 hl hz).use (has_none W) (shr_of (M := [lib, plR y.f.a y.u, plR y.f.b y.v, plR y.f.c y.w, shrAll (frR [y, y])]) fun A hA => ?_)).mono ?_
  · simp only [List.mem_cons, List.not_mem_nil, or_false] at hA
    rcases hA with rfl | rfl | rfl | rfl | rfl
    · exact lib_as hlib
    · exact hF _ (by simp [frR])
    · exact hF _ (by simp [frR])
    · exact hF _ (by simp [frR])
    · refine shrAll_of fun A hA => hF A ?_
      simp only [frR, List.flatMap_cons, List.flatMap_nil, List.append_nil, List.mem_append, or_self] at hA ⊢
      exact hA
  · rintro e W' ⟨u, L1, F1, rfl, ⟨rfl, rfl⟩, _, _, he⟩
    exact ⟨rfl, he.to_below (fun b hb x => x)⟩

set_option maxRecDepth 100000 in
theorem textPlanes_contract (H : Type) (enc : TypeId × Value → H) (W : World) (base : Nat) (args : Array Value) (ds gs : List (DataW H)) (before : List MemPlace)
    (hval0 : ∀ (j : Nat) t v, Tryd.f4.params[j]? = some t → args[j]? = some v → Value.okWide Tryd.prog W .any base t v)
    (hW : DataW.Whole enc Tryd.prog Tryd.f4.params.toList Rows.textPlanesSpec.vars false W args.toList ds gs before) (hL : laidMetH Tryd.prog Rows.textPlanesRow.laid W) (hsh : W.ShapedOpen Tryd.prog)
    (hwt : (DataW.weightsEach Tryd.prog (Tryd.f4.params.toList ++ (OpenSpec.ofChange Rows.textPlanesSpec).bare.plain.varTypes Tryd.prog) (ds ++ gs)).all (· ≤ reachBytes) = true) :
    Calls Tryd.prog 4 args W fun e W' => ∃ v, e = .returned v ∧ Rows.textPlanesSpec.post enc Tryd.prog Tryd.f4 false true false false W args v W' := by
  have hval : ∀ (j : Nat) t v, Tryd.f4.params[j]? = some t → args[j]? = some v → Value.okWide Tryd.prog W .any base t v := hval0
  have hW' := hW
  obtain ⟨p, q, hA0, hV, rfl, hfz, hnd⟩ := hW
  have hA : DataW.TrodAll enc Tryd.prog W 0 (fun _ => true) true Tryd.f4.params.toList args.toList ds p := hA0
  rw [Tryd.params4] at hA hval hwt
  obtain ⟨v0, vs0, d0, ds0, p0, q0, hargs, rfl, rfl, h0, r0⟩ := trodAll_cons hA
  obtain ⟨v1, vs1, d1, ds1, p1, q1, rfl, rfl, rfl, h1, r1⟩ := trodAll_cons r0
  obtain ⟨rfl, rfl, rfl⟩ := trodAll_nil r1
  obtain rfl : args = #[v0, v1] := by cases args; simp_all
  obtain ⟨rfl, rfl⟩ := trodVars_none hV
  have k0 := h0
  have lt0 : ∀ x ∈ p0, x.block < W.heap.size := by obtain ⟨m, hm⟩ := k0; exact DataW.trod_lt m _ _ _ hm
  obtain ⟨cs, rfl, _⟩ := okWide_struct Tryd.underlying40 (hval 0 40 v0 rfl rfl)
  obtain ⟨fuel, hf⟩ := h0
  obtain ⟨y, hcs, ho, hz, _, hF, _⟩ := c_frame hf
  obtain rfl : cs = y.c.toArray := by cases cs; simpa [Value.cells] using hcs
  obtain ⟨a1, rfl, rfl, rfl, w1⟩ := open_int Tryd.underlying3 (hval 1 3 v1 rfl rfl) h1
  have hw0 : ∀ z ∈ d0.weights Tryd.prog 40, z ≤ reachBytes := fun z hz => by
    have := List.all_eq_true.1 hwt z (List.mem_append.2 (.inl hz))
    simpa using this
  have hl := reach_frame (x := (d0, p0)) hf hw0 hF
  clear hA0 hval0
  refine (textPlanes_calls y a1 W ho hz hl hF (lib_met hL hsh)).mono fun e W' ⟨he, bel⟩ => ?_
  subst he
  exact ⟨_, rfl, _, _, _, [], _, [], hW', trodAll_mk1 (shut_bool Tryd.underlying4 _), (trodAll_cons_mk (Below.trod laidOut (by kernel_rfl) (of_decide_eq_true (by kernel_rfl)) k0 bel lt0) (trodAll_cons_mk (shut_int Tryd.underlying3 w1) trodAll_mk0)), rfl, bel.frame _, fun h => by cases h⟩

theorem textPlanes_met (os : Os) : laidMetH Tryd.prog Rows.textPlanesRow.laid ((World.laidAll Tryd.prog os Rows.textPlanesRow.laid).forCall (fun _ _ => 0) ⟨#[], #[.agg #[.int .i64 0, .int .i64 0, .slice none 0 0, .int .i64 0, .int .i64 0, .slice none 0 0, .int .i64 0, .int .i64 0, .slice none 0 0], .int .i64 0], []⟩).memory := by
  rw [MakeChecks.laidMetH_plain _ _ _ (by kernel_rfl)]
  exact laidMet_laidAll _ (by kernel_rfl) (by kernel_rfl)
theorem textPlanes_reads (os : Os) {H : Type} (enc : TypeId × Value → H) : ∃ places, DataW.whole enc Tryd.prog ((World.laidAll Tryd.prog os Rows.textPlanesRow.laid).forCall (fun _ _ => 0) ⟨#[], #[.agg #[.int .i64 0, .int .i64 0, .slice none 0 0, .int .i64 0, .int .i64 0, .slice none 0 0, .int .i64 0, .int .i64 0, .slice none 0 0], .int .i64 0], []⟩).memory Tryd.f4.params.toList Rows.textPlanesSpec.vars false (#[.agg #[.int .i64 0, .int .i64 0, .slice none 0 0, .int .i64 0, .int .i64 0, .slice none 0 0, .int .i64 0, .int .i64 0, .slice none 0 0], .int .i64 0] : Array Value).toList 8 = some ([.agg [.agg [.agg [.lit (.int .i64 0), .lit (.int .i64 0), .nil], .agg [.lit (.int .i64 0), .lit (.int .i64 0), .nil], .agg [.lit (.int .i64 0), .lit (.int .i64 0), .nil]]], .lit (.int .i64 0)], [], places) :=
  ⟨[], by kernel_rfl⟩
set_option maxRecDepth 100000 in
theorem textPlanes_lifted (os : Os) (started : os.Started) (H : Type) (enc : TypeId × Value → H) (F : Stop.Interp) :
    ReturnsInHanded {} Tryd.checked os 4 .any ((OpenSpec.ofChange Rows.textPlanesSpec).preRow enc Tryd.prog Tryd.f4 Rows.textPlanesRow.domain false Rows.textPlanesRow.laid) (((OpenSpec.ofChange Rows.textPlanesSpec).at F).post enc Tryd.prog Tryd.f4 false true false false) := by
  obtain ⟨places, hx⟩ := textPlanes_reads os enc
  refine returnsInHanded_of_row (C := Tryd.checked) (s := (OpenSpec.ofChange Rows.textPlanesSpec)) own started (by kernel_rfl) Tryd.func4
    (witness_any (enc := enc) (C := Tryd.checked) (World.laidAll Tryd.prog os Rows.textPlanesRow.laid) #[.agg #[.int .i64 0, .int .i64 0, .slice none 0 0, .int .i64 0, .int .i64 0, .slice none 0 0, .int .i64 0, .int .i64 0, .slice none 0 0], .int .i64 0] (World.laidAll_os _ _ _) (World.shaped_of_ZipB (by kernel_rfl) (by kernel_rfl)) (by kernel_rfl)
      (OpenSpec.preRow_of_cond 8 hx (by kernel_rfl) (fun k hk => by cases hk) (by kernel_rfl) (textPlanes_met os))) ?_
  intro W base args ds gs before hval hW _ _ hwt hL hsh _
  exact textPlanes_contract H enc W base args ds gs before hval hW hL hsh hwt

theorem textPlanes_row : Rows.TextPlanesSaid :=
  OpenClaim.holds_of_cond 4 Tryd.f4 rfl rfl rfl rfl rfl rfl rfl ⟨rfl, rfl, rfl, rfl, rfl⟩ rfl rfl rfl rfl rfl (by kernel_rfl) Tryd.func4 (by kernel_rfl)
    (of_decide_eq_true (by kernel_rfl)) (by unfold Func.isWrapper; first | (rw [if_pos (by decide +kernel)]; kernel_rfl) | (rw [if_neg (by decide +kernel)]; exact ⟨rfl, rfl⟩))
    (fun os started H enc _ F => by rw [OpenClaim.pre_eq_preRow]; exact textPlanes_lifted os started H enc F)
theorem textPlanes_plain (f : FuncId) (fn : Func) (hf : Tryd.pinned.checked.prog.funcNamed "shingle/shinglelaw38.TextPlanes" = some f) (hfn : Tryd.pinned.checked.prog.funcs[f]? = some fn) :
    true = Tryd.pinned.checked.prog.looks [] ∧ ∀ (j : Nat) t, fn.params[j]? = some t → Tryd.pinned.checked.prog.wantsStandIn t = false := by
  obtain rfl : f = 4 := Option.some.inj ((show Tryd.prog.funcNamed "shingle/shinglelaw38.TextPlanes" = some 4 by kernel_rfl).symm.trans hf) |>.symm
  obtain rfl : fn = Tryd.f4 := (Option.some.inj (Tryd.func4.symm.trans hfn)).symm
  refine ⟨by kernel_rfl, fun j t ht => ?_⟩
  rw [Tryd.params4] at ht
  have hm : t ∈ [40, 3] := by simpa using Array.mem_of_getElem? ht
  have hall : ([40, 3].all fun u => !Tryd.prog.wantsStandIn u) = true := by kernel_rfl
  exact (show Tryd.prog.wantsStandIn t = false by simpa using List.all_eq_true.1 hall t hm)
theorem textPlanes_card : Rows.TextPlanesCardSaid :=
  Claim7.holds_tied_plain_at .later [] _ _ _ _ textPlanes_row (fun _ h => by cases h) (by kernel_rfl) (fun _ h => by cases h) textPlanes_row_tie rfl ⟨rfl, rfl⟩ (by kernel_rfl) rfl textPlanes_plain (by kernel_rfl)
#print axioms textPlanes_card
end Go.Proofs.YtoiebfpafdcbmaaDoor
