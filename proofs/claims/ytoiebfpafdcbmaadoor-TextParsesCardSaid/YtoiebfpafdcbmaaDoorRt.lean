/- From a row's own words to the logic's: what came in is opened; what the library's variables hold. -/
import Derived.Test.YtoiebfpafdcbmaaDoorT4
import Derived.Test.YtoiebfpafdcbmaaDoorRs
import Derived.Test.YtoiebfpafdcbmaaDoorRows
import Derived.Stop.LaidErr
import Derived.Lib.LaidTab
import Derived.ProofKit
import Derived.OpenShut
import Derived.Deep.Slices
import Derived.Deep.DeepHandedRow
import Derived.Deep.DeepWitnessRowRef
import Derived.SevenTiedAt
import Derived.LaidMore
import Derived.Lay
namespace Go.Proofs.YtoiebfpafdcbmaaDoor
open Go Go.RowKit Go.ChangeShapes Go.WideShapes Go.ChangeAt K
set_option linter.unusedVariables false
set_option linter.unusedSimpArgs false

theorem own : ownKnob Tryd.prog.godebug = none := by kernel_rfl
theorem laidOut : laidOutB Tryd.prog = true := by kernel_rfl
theorem wf_i64 {x : Int} (h : (Lit.int .i64 x).wf = true) : i64 x := by
  simp only [Lit.wf, Bool.and_eq_true, decide_eq_true_eq] at h
  have h1 : IntKind.i64.min = -9223372036854775808 := by rfl
  have h2 : IntKind.i64.max = 9223372036854775807 := by rfl
  unfold i64; omega
theorem wf_u8 {x : Int} (h : (Lit.int .u8 x).wf = true) : 0 ≤ x ∧ x < 256 := by
  simp only [Lit.wf, Bool.and_eq_true, decide_eq_true_eq] at h
  have h1 : IntKind.u8.min = 0 := by rfl
  have h2 : IntKind.u8.max = 255 := by rfl
  omega
theorem wf_u16 {x : Int} (h : (Lit.int .u16 x).wf = true) : 0 ≤ x ∧ x < 65536 := by
  simp only [Lit.wf, Bool.and_eq_true, decide_eq_true_eq] at h
  have h1 : IntKind.u16.min = 0 := by rfl
  have h2 : IntKind.u16.max = 65535 := by rfl
  omega
section
variable {H : Type} {enc : TypeId × Value → H} {P : Program} {w : World} {held : Bool} {fuel : Nat} {t : TypeId} {cs : List Value} {x : DataW H × List MemPlace}
abbrev trodT (enc : TypeId × Value → H) (P : Program) (w : World) (held : Bool) (fuel : Nat) (t : TypeId) (cs : List Value) := DataW.trod enc P w 0 (fun _ => true) held fuel t cs

/-- A variable of an interface type that reads as a value holds one. -/
theorem iface_of {n : String} {nm : String} {d : DataW Unit} {r : List (String × DataW Unit)} {g ti : Nat} {ms : Array (String × TypeId)} (h : laidMet P ((n, .iface nm d) :: r) w)
    (hg : P.globalNamed n = some g) (ht : (P.globals[g]?).map (·.type) = some ti) (hi : P.underlying ti = some (.interface ms)) : ∃ tp p, w.cell? ⟨g, 0, none⟩ = some (.iface tp p) := by
  obtain ⟨ps, ⟨g0, t0, cs0, f0, p0, q0, hg0, ht0, hv0, hd0, _, _⟩, _⟩ := h
  obtain rfl := Option.some.inj (hg.symm.trans hg0)
  obtain rfl := Option.some.inj (ht.symm.trans ht0)
  cases f0 with
  | zero => simp [DataW.trod] at hd0
  | succ k =>
    obtain ⟨l0⟩ := cs0
    rcases l0 with _ | ⟨y, _ | ⟨z, l⟩⟩
    · simp [DataW.trod, hi] at hd0
    · have hc : w.cell? ⟨g, 0, none⟩ = some y := by simpa using World.var?_cell hg0 hv0 0
      cases y with
      | iface tp p => exact ⟨tp, p, hc⟩
      | _ => simp [DataW.trod, hi] at hd0
    · simp [DataW.trod, hi] at hd0

/-- A slice of numbers among the cells. -/
theorem c_ints {e : TypeId} {k : IntKind} (ht : P.underlying t = some (.slice e)) (he : P.underlying e = some (.int k)) (hc : P.cellsOf e = 1) (h : trodT enc P w held fuel t cs = some x) :
    ∃ (v : Value) (l : List Int), cs = [v] ∧ v.oneCell' = true ∧ (∃ F, (rd 1 v l.length (l.map (Value.int k))).P w F) ∧ (∀ n ∈ l, (Lit.int k n).wf = true) ∧ l.length ≤ maxLen := by
  rcases open_ints ht he hc h with ⟨rfl, _⟩ | ⟨a, len, cap, zs, rfl, _, hl, hm, hz, _, hcell, hwz⟩
  · obtain ⟨h1, h2, h3, h4⟩ := (show IsRow k w none 0 0 [] from .inl ⟨rfl, rfl, rfl, rfl⟩).rd
    exact ⟨_, [], rfl, rfl, ⟨_, h1⟩, (fun n hn => by cases hn), Nat.zero_le _⟩
  · obtain ⟨h1, h2, h3, h4⟩ := (show IsRow k w (some a) len cap zs from .inr ⟨_, rfl, hl, hm, by simpa using hz, hcell, hwz⟩).rd
    refine ⟨.slice (some a) len cap, zs.take len, rfl, rfl, ⟨_, h1⟩, h4, by rw [h2]; exact h3⟩
set_option maxRecDepth 100000 in
/-- A plane among the cells. -/
theorem c_plane {x : DataW H × List MemPlace} {held : Bool} {fuel : Nat} (h : trodT enc Tryd.prog w held fuel 37 cs = some x) :
    ∃ (p : Pl) (v : Value), cs = plC p v ∧ v.oneCell' = true ∧ (∃ F, (plR p v).P w F) ∧ i64 p.w ∧ i64 p.h ∧ i64s p.l ∧ p.l.length ≤ maxLen := by
  obtain ⟨ys, n, _, _, hl, hn, hg⟩ := DataW.trod_struct Tryd.underlying37 h
  have hc : Tryd.prog.cellsOf 37 = 3 := by kernel_rfl
  have hi : Tryd.prog.cellsOf 3 = 1 := by kernel_rfl
  have hs : Tryd.prog.cellsOf 22 = 1 := by kernel_rfl
  rw [hc] at hl
  match cs, hl with
  | [c0, c1, c2], _ =>
    match ys, hn with
    | [y0, y1, y2], _ =>
      have g0 : trodT enc Tryd.prog w held n 3 (([c0, c1, c2].drop 0).take (Tryd.prog.cellsOf 3)) = [y0, y1, y2][0]? := hg 0 _ rfl
      have g1 : trodT enc Tryd.prog w held n 3 (([c0, c1, c2].drop 1).take (Tryd.prog.cellsOf 3)) = [y0, y1, y2][1]? := hg 1 _ rfl
      have g2 : trodT enc Tryd.prog w held n 22 (([c0, c1, c2].drop 2).take (Tryd.prog.cellsOf 22)) = [y0, y1, y2][2]? := hg 2 _ rfl
      simp only [hi, hs, List.drop_zero, List.drop_succ_cons, List.take_succ_cons, List.take_zero, List.getElem?_cons_zero, List.getElem?_cons_succ] at g0 g1 g2
      obtain ⟨a, e0, _, w0⟩ := DataW.trod_int Tryd.underlying3 g0
      obtain ⟨b, e1, _, w1⟩ := DataW.trod_int Tryd.underlying3 g1
      obtain ⟨v, l, e2, ho, hF, hw, hm⟩ := c_ints Tryd.underlying22 Tryd.underlying3 hi g2
      simp only [List.cons.injEq, and_true] at e0 e1 e2
      subst e0; subst e1; subst e2
      exact ⟨⟨a, b, l⟩, c2, rfl, ho, hF, wf_i64 w0, wf_i64 w1, fun n hn => wf_i64 (hw n hn), hm⟩
/-- What the rows list of the library's variables. -/
theorem lib_met {W : World} (h : laidMetH Tryd.prog Rows.textPlanesRow.laid W) (hs : W.ShapedOpen Tryd.prog) : libP W := by
  have h0 : laidMet Tryd.prog Rows.textPlanesRow.laid W := h
  have h1 := h0.tail.tail
  have h2 := h1.tail.tail
  have h3 := h2.tail
  refine ⟨?_, Tryd.laysM145.s1_3 W hs, iface_of (ti := 96) h3 (by kernel_rfl) (by kernel_rfl) Tryd.underlying96, iface_of (ti := 96) h2 (by kernel_rfl) (by kernel_rfl) Tryd.underlying96⟩
  exact Lib.tabIs_of_head (zs := Lib.pow10Tab) (g := 2) (t := 166) (n := 20) (e := 83) (by kernel_rfl) (by kernel_rfl) Tryd.underlying166 Tryd.underlying83 (by kernel_rfl) (by kernel_rfl) h1
theorem witness_any {C : Checked} {os : Os} {f : FuncId} {fn : Func} {s : OpenSpec} {conds : List PathCond} {apart : Bool} {laid : List (String × DataW Unit)} (w0 : World) (args : Array Value) (hos : w0.os = os)
    (hsh : (w0.forCall (fun _ _ => 0) ⟨#[], args, []⟩).Shaped C.prog) (hok : Input.okWideB C.prog (w0.forCall (fun _ _ => 0) ⟨#[], args, []⟩) f ⟨#[], args, []⟩ = true)
    (hrow : s.preRow enc C.prog fn conds apart laid (w0.forCall (fun _ _ => 0) ⟨#[], args, []⟩).memory args) :
    ∃ (w : World) (tape : Tape) (i : Input), w.os = os ∧ (w.forCall tape i).Shaped C.prog ∧ i.vars = [] ∧ Input.okWide C.prog (w.forCall tape i) .any w.heap.size f i ∧
      s.preRow enc C.prog fn conds apart laid (w.forCall tape i).memory i.args ∧ ({} : Assume).holds C.prog (lone (Frame.enter C.prog f i.args .normal) [] (w.forCall tape i)) :=
  ⟨w0, fun _ _ => 0, ⟨#[], args, []⟩, hos, hsh, (Input.okWide_of_okWideB (base := 0) hok).1, (Input.okWide_of_okWideB hok).2, hrow, by
    simp only [Assume.holds]
    refine ⟨?_, ?_, ?_, ?_, ?_, ?_⟩ <;> first | (intro h; exact absurd h (by simp)) | (intro _ h; exact absurd h (by simp))⟩
theorem lib_as {w : World} (h : libP w) : ∃ F, lib.P w F := by
  obtain ⟨h1, ⟨m, h2⟩, ⟨t1, p1, h3⟩, ⟨t2, p2, h4⟩⟩ := h
  have k1 : 2 < w.heap.size := by
    unfold World.var? at h1
    rw [named_pow] at h1
    simp only [Option.bind_some] at h1
    rcases Nat.lt_or_ge 2 w.heap.size with h' | h'
    · exact h'
    · rw [Array.getElem?_eq_none h'] at h1; cases h1
  refine ⟨fun b => b = 2 ∨ b = 3 ∨ b = 4 ∨ b = 5, ⟨h1, ⟨m, h2⟩, ⟨t1, p1, h3⟩, ⟨t2, p2, h4⟩⟩, fun b hb => hb, ?_⟩
  rintro b (rfl | rfl | rfl | rfl)
  · exact k1
  · exact lt_of_cell h2
  · exact lt_of_cell h3
  · exact lt_of_cell h4
theorem shr_of {w : World} {M : List As} (h : ∀ A ∈ M, ∃ F, A.P w F) : Shr w M (fun _ => False) := fun A hA => let ⟨F, g⟩ := h A hA; ⟨F, g, fun _ _ x => x⟩
end
end Go.Proofs.YtoiebfpafdcbmaaDoor
