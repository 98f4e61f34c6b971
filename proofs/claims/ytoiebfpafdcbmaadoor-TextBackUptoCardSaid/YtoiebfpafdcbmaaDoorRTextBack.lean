/- TextBack: what is a text is read again: for every film whose reading holds at most 1048576 values. The card: with the listed tables and sentinels of Go's library tied to the program's text. -/
import Derived.Test.YtoiebfpafdcbmaaDoorCards
import Derived.Test.YtoiebfpafdcbmaaDoorTie
import Derived.Test.YtoiebfpafdcbmaaDoorRu
namespace Go.Proofs.YtoiebfpafdcbmaaDoor
open Go Go.RowKit Go.ChangeShapes Go.WideShapes Go.ChangeAt K
set_option linter.unusedVariables false
set_option linter.unusedSimpArgs false

theorem textBack_calls (v : Value) (l : List FrV) (W : World) (hn : l.length ≤ 1048576) (ho : ∀ x ∈ l, x.ok) (hs : sumN l ≤ 1048576) (hp : ∃ F, (rd 9 v l.length (frsC l)).P W F) (hq : ∀ A ∈ frR l, ∃ F, A.P W F) (hl : libP W) :
    Calls Tryd.prog 6 #[v] W fun e W' => e = .returned (.bool true) ∧ Below W.heap.size W W' := by
  refine ((law38_TextBack v l (by omega) ho (by omega)).use (has_none W) (shr_of (M := [lib, rd 9 v l.length (frsC l), shrAll (frR l)]) fun A hA => ?_)).mono ?_
  · simp only [List.mem_cons, List.not_mem_nil, or_false] at hA
    rcases hA with rfl | rfl | rfl
    · exact lib_as hl
    · exact hp
    · exact shrAll_of hq
  · rintro e W' ⟨u, L1, F1, rfl, ⟨rfl, rfl⟩, _, _, he⟩
    exact ⟨rfl, he.to_below (fun b hb x => x)⟩

set_option maxRecDepth 100000 in
theorem textBack_contract (H : Type) (enc : TypeId × Value → H) (W : World) (base : Nat) (args : Array Value) (ds gs : List (DataW H)) (before : List MemPlace)
    (hval0 : ∀ (j : Nat) t v, Tryd.f6.params[j]? = some t → args[j]? = some v → Value.okWide Tryd.prog W .any base t v)
    (hW : DataW.Whole enc Tryd.prog Tryd.f6.params.toList Rows.textBackSpec.vars false W args.toList ds gs before) (hL : laidMetH Tryd.prog Rows.textPlanesRow.laid W) (hsh : W.ShapedOpen Tryd.prog) (hk : Rows.uptoBulkAll (ds ++ gs) ≤ 1048576) :
    Calls Tryd.prog 6 args W fun e W' => ∃ v, e = .returned v ∧ Rows.textBackSpec.post enc Tryd.prog Tryd.f6 false true false false W args v W' := by
  have hval : ∀ (j : Nat) t v, Tryd.f6.params[j]? = some t → args[j]? = some v → Value.okWide Tryd.prog W .any base t v := hval0
  have hW' := hW
  obtain ⟨p, q, hA0, hV, rfl, hfz, hnd⟩ := hW
  have hA : DataW.TrodAll enc Tryd.prog W 0 (fun _ => true) true Tryd.f6.params.toList args.toList ds p := hA0
  rw [Tryd.params6] at hA hval
  obtain ⟨v0, vs0, d0, ds0, p0, q0, hargs, rfl, rfl, h0, r0⟩ := trodAll_cons hA
  obtain ⟨rfl, rfl, rfl⟩ := trodAll_nil r0
  obtain rfl : args = #[v0] := by cases args; simp_all
  obtain ⟨rfl, rfl⟩ := trodVars_none hV
  have k0 := h0
  have lt0 : ∀ x ∈ p0, x.block < W.heap.size := by obtain ⟨m, hm⟩ := k0; exact DataW.trod_lt m _ _ _ hm
  obtain ⟨a0, len0, cap0, rfl⟩ := okWide_slice Tryd.underlying45 (hval 0 45 v0 rfl rfl)
  obtain ⟨fuel, hf⟩ := h0
  have hbk : Rows.uptoBulk d0 ≤ 1048576 := by simp only [List.append_nil, Rows.uptoBulkAll] at hk; omega
  obtain ⟨l, hl, ho, hs, hp, hq, hn⟩ := c_film hf hbk
  clear hA0 hval0
  refine (textBack_calls _ l W (by omega) ho hs hp hq (lib_met hL hsh)).mono fun e W' ⟨he, bel⟩ => ?_
  subst he
  exact ⟨_, rfl, _, _, _, [], _, [], hW', trodAll_mk1 (shut_bool Tryd.underlying4 _), (trodAll_cons_mk (Below.trod laidOut (by kernel_rfl) (of_decide_eq_true (by kernel_rfl)) k0 bel lt0) trodAll_mk0), rfl, bel.frame _, fun h => by cases h⟩

theorem textBack_met (os : Os) : laidMetH Tryd.prog Rows.textBackUptoRow.laid ((World.laidAll Tryd.prog os Rows.textBackUptoRow.laid).forCall (fun _ _ => 0) ⟨#[], #[.slice none 0 0], []⟩).memory := by
  rw [MakeChecks.laidMetH_plain _ _ _ (by kernel_rfl)]
  exact laidMet_laidAll _ (by kernel_rfl) (by kernel_rfl)
theorem textBack_reads (os : Os) {H : Type} (enc : TypeId × Value → H) : ∃ places, DataW.whole enc Tryd.prog ((World.laidAll Tryd.prog os Rows.textBackUptoRow.laid).forCall (fun _ _ => 0) ⟨#[], #[.slice none 0 0], []⟩).memory Tryd.f6.params.toList Rows.textBackSpec.vars false (#[.slice none 0 0] : Array Value).toList 8 = some ([.nil], [], places) :=
  ⟨[], by kernel_rfl⟩
set_option maxRecDepth 100000 in
theorem textBack_lifted (os : Os) (started : os.Started) (H : Type) (enc : TypeId × Value → H) (F : Stop.Interp) :
    ReturnsInHanded {} Tryd.checked os 6 .any ((Rows.OpenSpec.upto Rows.textBackSpec).preRow enc Tryd.prog Tryd.f6 Rows.textBackUptoRow.domain false Rows.textBackUptoRow.laid) (((Rows.OpenSpec.upto Rows.textBackSpec).at F).post enc Tryd.prog Tryd.f6 false true false false) := by
  obtain ⟨places, hx⟩ := textBack_reads os enc
  refine returnsInHanded_of_row (C := Tryd.checked) (s := (Rows.OpenSpec.upto Rows.textBackSpec)) own started (by kernel_rfl) Tryd.func6
    (witness_any (enc := enc) (C := Tryd.checked) (World.laidAll Tryd.prog os Rows.textBackUptoRow.laid) #[.slice none 0 0] (World.laidAll_os _ _ _) (World.shaped_of_ZipB (by kernel_rfl) (by kernel_rfl)) (by kernel_rfl)
      (OpenSpec.preRow_of_cond 8 hx (by kernel_rfl) (fun k hk => by cases hk; kernel_rfl) (by kernel_rfl) (textBack_met os))) ?_
  intro W base args ds gs before hval hW _ hcond _ hL hsh _
  exact textBack_contract H enc W base args ds gs before hval hW hL hsh (of_decide_eq_true (hcond _ rfl))

theorem textBack_row : Rows.TextBackUptoSaid :=
  OpenClaim.holds_of_cond 6 Tryd.f6 rfl rfl rfl rfl rfl rfl rfl ⟨rfl, rfl, rfl, rfl, rfl⟩ rfl rfl rfl rfl rfl (by kernel_rfl) Tryd.func6 (by kernel_rfl)
    (of_decide_eq_true (by kernel_rfl)) (by unfold Func.isWrapper; first | (rw [if_pos (by decide +kernel)]; kernel_rfl) | (rw [if_neg (by decide +kernel)]; exact ⟨rfl, rfl⟩))
    (fun os started H enc _ F => by rw [OpenClaim.pre_eq_preRow]; exact textBack_lifted os started H enc F)
theorem textBack_plain (f : FuncId) (fn : Func) (hf : Tryd.pinned.checked.prog.funcNamed "shingle/shinglelaw38.TextBack" = some f) (hfn : Tryd.pinned.checked.prog.funcs[f]? = some fn) :
    true = Tryd.pinned.checked.prog.looks [] ∧ ∀ (j : Nat) t, fn.params[j]? = some t → Tryd.pinned.checked.prog.wantsStandIn t = false := by
  obtain rfl : f = 6 := Option.some.inj ((show Tryd.prog.funcNamed "shingle/shinglelaw38.TextBack" = some 6 by kernel_rfl).symm.trans hf) |>.symm
  obtain rfl : fn = Tryd.f6 := (Option.some.inj (Tryd.func6.symm.trans hfn)).symm
  refine ⟨by kernel_rfl, fun j t ht => ?_⟩
  rw [Tryd.params6] at ht
  have hm : t ∈ [45] := by simpa using Array.mem_of_getElem? ht
  have hall : ([45].all fun u => !Tryd.prog.wantsStandIn u) = true := by kernel_rfl
  exact (show Tryd.prog.wantsStandIn t = false by simpa using List.all_eq_true.1 hall t hm)
theorem textBack_card : Rows.TextBackUptoCardSaid :=
  Claim7.holds_tied_plain_at .later [] _ _ _ _ textBack_row (fun _ h => by cases h) (by kernel_rfl) (fun _ h => by cases h) textBackUpto_row_tie rfl ⟨rfl, rfl⟩ (by kernel_rfl) rfl textBack_plain (by kernel_rfl)
#print axioms textBack_card
end Go.Proofs.YtoiebfpafdcbmaaDoor
