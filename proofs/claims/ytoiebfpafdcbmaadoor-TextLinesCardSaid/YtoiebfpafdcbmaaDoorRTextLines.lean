/- TextLines: a picture of a plane has a line for each row, a sign for each number, and lesser numbers have no later signs: for every plane and every uint16. The card: with the listed tables and sentinels of Go's library tied to the program's text. -/
import Derived.Test.YtoiebfpafdcbmaaDoorCards
import Derived.Test.YtoiebfpafdcbmaaDoorTie
import Derived.Test.YtoiebfpafdcbmaaDoorL2
import Derived.Test.YtoiebfpafdcbmaaDoorRt
import Derived.LaidMore
namespace Go.Proofs.YtoiebfpafdcbmaaDoor
open Go Go.RowKit Go.ChangeShapes Go.WideShapes Go.ChangeAt K
set_option linter.unusedVariables false
set_option linter.unusedSimpArgs false

theorem textLines_calls (p : Pl) (v : Value) (m : Int) (W : World) (ho : v.oneCell' = true) (hz : i64s p.l) (hm : 0 ≤ m ∧ m < 65536) (hp : ∃ F, (plR p v).P W F) (hl : libP W) :
    Calls Tryd.prog 7 #[.agg (plC p v).toArray, .int .u16 m] W fun e W' => e = .returned (.bool true) ∧ Below W.heap.size W W' := by
  refine ((law38_TextLines p v m ho hz hm).use (has_none W) (shr_of (M := [lib, plR p v]) fun A hA => ?_)).mono ?_
  · simp only [List.mem_cons, List.not_mem_nil, or_false] at hA
    rcases hA with rfl | rfl
    · exact lib_as hl
    · exact hp
  · rintro e W' ⟨u, L1, F1, rfl, ⟨rfl, rfl⟩, _, _, he⟩
    exact ⟨rfl, he.to_below (fun b hb x => x)⟩

set_option maxRecDepth 100000 in
theorem textLines_contract (H : Type) (enc : TypeId × Value → H) (W : World) (base : Nat) (args : Array Value) (ds gs : List (DataW H)) (before : List MemPlace)
    (hval0 : ∀ (j : Nat) t v, Tryd.f7.params[j]? = some t → args[j]? = some v → Value.okWide Tryd.prog W .any base t v)
    (hW : DataW.Whole enc Tryd.prog Tryd.f7.params.toList Rows.textLinesSpec.vars false W args.toList ds gs before) (hL : laidMetH Tryd.prog Rows.textPlanesRow.laid W) (hsh : W.ShapedOpen Tryd.prog) :
    Calls Tryd.prog 7 args W fun e W' => ∃ v, e = .returned v ∧ Rows.textLinesSpec.post enc Tryd.prog Tryd.f7 false true false false W args v W' := by
  have hval : ∀ (j : Nat) t v, Tryd.f7.params[j]? = some t → args[j]? = some v → Value.okWide Tryd.prog W .any base t v := hval0
  have hW' := hW
  obtain ⟨p, q, hA0, hV, rfl, hfz, hnd⟩ := hW
  have hA : DataW.TrodAll enc Tryd.prog W 0 (fun _ => true) true Tryd.f7.params.toList args.toList ds p := hA0
  rw [Tryd.params7] at hA hval
  obtain ⟨v0, vs0, d0, ds0, p0, q0, hargs, rfl, rfl, h0, r0⟩ := trodAll_cons hA
  obtain ⟨v1, vs1, d1, ds1, p1, q1, rfl, rfl, rfl, h1, r1⟩ := trodAll_cons r0
  obtain ⟨rfl, rfl, rfl⟩ := trodAll_nil r1
  obtain rfl : args = #[v0, v1] := by cases args; simp_all
  obtain ⟨rfl, rfl⟩ := trodVars_none hV
  have k0 := h0
  have lt0 : ∀ x ∈ p0, x.block < W.heap.size := by obtain ⟨m, hm⟩ := k0; exact DataW.trod_lt m _ _ _ hm
  obtain ⟨cs, rfl, _⟩ := okWide_struct Tryd.underlying37 (hval 0 37 v0 rfl rfl)
  obtain ⟨fuel, hf⟩ := h0
  obtain ⟨pl, v, hcs, ho, hp, _, _, hz, _⟩ := c_plane hf
  obtain rfl : cs = (plC pl v).toArray := by cases cs; simpa [Value.cells] using hcs
  obtain ⟨a1, rfl, rfl, rfl, w1⟩ := open_int Tryd.underlying63 (hval 1 63 v1 rfl rfl) h1
  clear hA0 hval0
  refine (textLines_calls pl v a1 W ho hz (wf_u16 w1) hp (lib_met hL hsh)).mono fun e W' ⟨he, bel⟩ => ?_
  subst he
  exact ⟨_, rfl, _, _, _, [], _, [], hW', trodAll_mk1 (shut_bool Tryd.underlying4 _), (trodAll_cons_mk (Below.trod laidOut (by kernel_rfl) (of_decide_eq_true (by kernel_rfl)) k0 bel lt0) (trodAll_cons_mk (shut_int Tryd.underlying63 w1) trodAll_mk0)), rfl, bel.frame _, fun h => by cases h⟩

theorem textLines_met (os : Os) : laidMetH Tryd.prog Rows.textLinesRow.laid ((World.laidAll Tryd.prog os Rows.textLinesRow.laid).forCall (fun _ _ => 0) ⟨#[], #[.agg #[.int .i64 0, .int .i64 0, .slice none 0 0], .int .u16 0], []⟩).memory := by
  rw [MakeChecks.laidMetH_plain _ _ _ (by kernel_rfl)]
  exact laidMet_laidAll _ (by kernel_rfl) (by kernel_rfl)
theorem textLines_reads (os : Os) {H : Type} (enc : TypeId × Value → H) : ∃ places, DataW.whole enc Tryd.prog ((World.laidAll Tryd.prog os Rows.textLinesRow.laid).forCall (fun _ _ => 0) ⟨#[], #[.agg #[.int .i64 0, .int .i64 0, .slice none 0 0], .int .u16 0], []⟩).memory Tryd.f7.params.toList Rows.textLinesSpec.vars false (#[.agg #[.int .i64 0, .int .i64 0, .slice none 0 0], .int .u16 0] : Array Value).toList 8 = some ([.agg [.lit (.int .i64 0), .lit (.int .i64 0), .nil], .lit (.int .u16 0)], [], places) :=
  ⟨[], by kernel_rfl⟩
set_option maxRecDepth 100000 in
theorem textLines_lifted (os : Os) (started : os.Started) (H : Type) (enc : TypeId × Value → H) (F : Stop.Interp) :
    ReturnsInHanded {} Tryd.checked os 7 .any ((OpenSpec.ofChange Rows.textLinesSpec).preRow enc Tryd.prog Tryd.f7 Rows.textLinesRow.domain false Rows.textLinesRow.laid) (((OpenSpec.ofChange Rows.textLinesSpec).at F).post enc Tryd.prog Tryd.f7 false true false false) := by
  obtain ⟨places, hx⟩ := textLines_reads os enc
  refine returnsInHanded_of_row (C := Tryd.checked) (s := (OpenSpec.ofChange Rows.textLinesSpec)) own started (by kernel_rfl) Tryd.func7
    (witness_any (enc := enc) (C := Tryd.checked) (World.laidAll Tryd.prog os Rows.textLinesRow.laid) #[.agg #[.int .i64 0, .int .i64 0, .slice none 0 0], .int .u16 0] (World.laidAll_os _ _ _) (World.shaped_of_ZipB (by kernel_rfl) (by kernel_rfl)) (by kernel_rfl)
      (OpenSpec.preRow_of_cond 8 hx (by kernel_rfl) (fun k hk => by cases hk) (by kernel_rfl) (textLines_met os))) ?_
  intro W base args ds gs before hval hW _ _ _ hL hsh _
  exact textLines_contract H enc W base args ds gs before hval hW hL hsh

theorem textLines_row : Rows.TextLinesSaid :=
  OpenClaim.holds_of_cond 7 Tryd.f7 rfl rfl rfl rfl rfl rfl rfl ⟨rfl, rfl, rfl, rfl, rfl⟩ rfl rfl rfl rfl rfl (by kernel_rfl) Tryd.func7 (by kernel_rfl)
    (of_decide_eq_true (by kernel_rfl)) (by unfold Func.isWrapper; first | (rw [if_pos (by decide +kernel)]; kernel_rfl) | (rw [if_neg (by decide +kernel)]; exact ⟨rfl, rfl⟩))
    (fun os started H enc _ F => by rw [OpenClaim.pre_eq_preRow]; exact textLines_lifted os started H enc F)
theorem textLines_plain (f : FuncId) (fn : Func) (hf : Tryd.pinned.checked.prog.funcNamed "shingle/shinglelaw38.TextLines" = some f) (hfn : Tryd.pinned.checked.prog.funcs[f]? = some fn) :
    true = Tryd.pinned.checked.prog.looks [] ∧ ∀ (j : Nat) t, fn.params[j]? = some t → Tryd.pinned.checked.prog.wantsStandIn t = false := by
  obtain rfl : f = 7 := Option.some.inj ((show Tryd.prog.funcNamed "shingle/shinglelaw38.TextLines" = some 7 by kernel_rfl).symm.trans hf) |>.symm
  obtain rfl : fn = Tryd.f7 := (Option.some.inj (Tryd.func7.symm.trans hfn)).symm
  refine ⟨by kernel_rfl, fun j t ht => ?_⟩
  rw [Tryd.params7] at ht
  have hm : t ∈ [37, 63] := by simpa using Array.mem_of_getElem? ht
  have hall : ([37, 63].all fun u => !Tryd.prog.wantsStandIn u) = true := by kernel_rfl
  exact (show Tryd.prog.wantsStandIn t = false by simpa using List.all_eq_true.1 hall t hm)
theorem textLines_card : Rows.TextLinesCardSaid :=
  Claim7.holds_tied_plain_at .later [] _ _ _ _ textLines_row (fun _ h => by cases h) (by kernel_rfl) (fun _ h => by cases h) textLines_row_tie rfl ⟨rfl, rfl⟩ (by kernel_rfl) rfl textLines_plain (by kernel_rfl)
#print axioms textLines_card
end Go.Proofs.YtoiebfpafdcbmaaDoor
