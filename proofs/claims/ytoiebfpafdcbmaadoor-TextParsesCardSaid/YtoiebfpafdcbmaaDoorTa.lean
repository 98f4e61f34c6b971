/- Contracts of Go's library off the shelf, in the logic's words: strconv.Itoa, strconv.Atoi, strings.Cut, CutPrefix, Split. -/
import Derived.Test.YtoiebfpafdcbmaaDoorTp
import Derived.Test.YtoiebfpafdcbmaaDoorTy
import Derived.Lib.AtoiErrMem
import Derived.WideLaws
import Derived.Lib.AppendIntMem
namespace Go.Proofs.YtoiebfpafdcbmaaDoor
open Go Go.RowKit Go.Shelf K
set_option linter.unusedVariables false
set_option linter.unusedSimpArgs false

/-- What the library reads of its own variables. -/
def libP (w : World) : Prop :=
  w.var? Tryd.prog "internal/strconv.uint64pow10" = some (Lib.pow10Tab.map fun z => Value.int .u64 z).toArray ∧ (∃ m, w.cell? ⟨3, 0, none⟩ = some (.int .i64 m)) ∧
  (∃ tp p, w.cell? ⟨4, 0, none⟩ = some (.iface tp p)) ∧ (∃ tp p, w.cell? ⟨5, 0, none⟩ = some (.iface tp p))
theorem named_pow : Tryd.prog.globalNamed "internal/strconv.uint64pow10" = some 2 := by kernel_rfl
/-- .. as an assertion. -/
def lib : As where
  P w F := libP w ∧ (∀ b, (b = 2 ∨ b = 3 ∨ b = 4 ∨ b = 5) → F b) ∧ ∀ b, F b → b < w.heap.size
  loc := fun {w w' F} ⟨⟨h1, ⟨m, h2⟩, ⟨t1, p1, h3⟩, ⟨t2, p2, h4⟩⟩, hF, hl⟩ e => by
    refine ⟨⟨?_, ⟨m, ?_⟩, ⟨t1, p1, ?_⟩, ⟨t2, p2, ?_⟩⟩, hF, fun b hb => ?_⟩
    · unfold World.var? at h1 ⊢
      rw [named_pow] at h1 ⊢
      simp only [Option.bind_some] at h1 ⊢
      rw [e _ (hF _ (.inl rfl))]; exact h1
    · rw [← h2]; exact World.cell?_of_block (e _ (hF _ (.inr (.inl rfl))))
    · rw [← h3]; exact World.cell?_of_block (e _ (hF _ (.inr (.inr (.inl rfl)))))
    · rw [← h4]; exact World.cell?_of_block (e _ (hF _ (.inr (.inr (.inr rfl)))))
    · have := e b hb
      rw [Array.getElem?_eq_getElem (hl b hb)] at this
      exact (Array.getElem?_eq_some_iff.1 this).1
  lt := fun ⟨_, _, h⟩ => h
  ext := fun ⟨h, hF, hl⟩ e => ⟨h, fun b hb => (e b).1 (hF b hb), fun b hb => hl b ((e b).2 hb)⟩

theorem shr_lib {w : World} {F : Nat → Prop} {M : List As} (h : Shr w (lib :: M) F) : libP w := (let ⟨G, g, _⟩ := h _ List.mem_cons_self; g.1)

/-- Nothing that was there is another. -/
theorem K.Spc.of_below {P : Program} {f : FuncId} {args : List Value} {M : List As} {Post : Value → Prop} (hg : isGo P f = true) (h : ∀ w F, Shr w M F → Calls P f args.toArray w fun e w' => ∃ v, e = .returned v ∧ Post v ∧ Below w.heap.size w w') :
    Spc P f args [] M (fun u L => Post u ∧ L = []) :=
  ⟨hg, fun w F1 h1 h2 => (h w F1 h2).mono fun e w' ⟨v, he, hv, hw⟩ =>
    ⟨v, [], F1, he, ⟨hv, rfl⟩, fun b hb => h1 b hb, fun b hb => .inl hb, Eff.below hw _⟩⟩

theorem lib_Itoa (n : Int) (h : -9223372036854775808 ≤ n ∧ n ≤ 9223372036854775807) : Spc Tryd.prog 80 [.int .i64 n] [] [lib] (ret (str (Lib.itoa n))) :=
  K.Spc.of_below (Post := fun v => v = str (Lib.itoa n)) (by kernel_rfl) fun w F hM => (Any.strconv_Itoa Tryd.laysM171 n h.1 h.2 w (shr_lib hM).1).mono fun e w' ⟨he, k, os, hw⟩ =>
    ⟨_, he, rfl, by subst hw; exact Lib.below_grow _ w (Nat.le_refl _) k os⟩

/-- What strconv.Atoi answers: a number, and whether there is no error. -/
def atoiR (s : List UInt8) : Int × Bool :=
  match Lib.atoiAll s with
  | .ok v => (v, true)
  | .range => (Lib.atoiSat s, false)
  | _ => (0, false)
theorem lib_Atoi (s : List UInt8) (h : s.length ≤ 281474976710656) : Spc Tryd.prog 112 [str s] [] [lib]
    (fun u L => (∃ e, u = .tuple #[.int .i64 (atoiR s).1, e] ∧ ((atoiR s).2 = true ∧ e = .nilIface ∨ (atoiR s).2 = false ∧ ∃ t p, e = .iface t p)) ∧ L = []) := by
  have hsz : (⟨s.toArray⟩ : ByteArray).size = s.length := ba_size s
  refine K.Spc.of_below (Post := fun u => ∃ e, u = .tuple #[.int .i64 (atoiR s).1, e] ∧ ((atoiR s).2 = true ∧ e = .nilIface ∨ (atoiR s).2 = false ∧ ∃ t p, e = .iface t p)) (by kernel_rfl) fun w F hM => ?_
  obtain ⟨_, _, ⟨t1, p1, h1⟩, ⟨t2, p2, h2⟩⟩ := shr_lib hM
  cases ha : Lib.atoiAll s with
  | ok v =>
    refine (Any.strconv_Atoi_ok Tryd.laysC172 ⟨s.toArray⟩ (by rw [hsz]; omega) v ha w).mono ?_
    rintro e w' ⟨rfl, hw⟩
    refine ⟨_, rfl, ⟨_, by simp only [atoiR, ha], .inl ⟨by simp only [atoiR, ha], rfl⟩⟩, ?_⟩
    rcases hw with rfl | ⟨t, rfl⟩
    · exact Below.refl _ _
    · exact Lib.bytesWorld_below w _ t
  | range =>
    refine (Any.strconv_Atoi_range Tryd.laysC172 ⟨s.toArray⟩ (by rw [hsz]; omega) ha (.iface t2 p2) w h2 (.inr ⟨_, _, rfl⟩)).mono ?_
    rintro e w' ⟨N, rfl, _, _, hb⟩
    exact ⟨_, rfl, ⟨_, by rw [show atoiR s = (Lib.atoiSat s, false) by simp only [atoiR, ha]], .inr ⟨by simp only [atoiR, ha], _, _, rfl⟩⟩, hb⟩
  | _ =>
    refine (Any.strconv_Atoi_syntax Tryd.laysC172 ⟨s.toArray⟩ (by rw [hsz]; omega) ha (.iface t1 p1) w h1 (.inr ⟨_, _, rfl⟩)).mono ?_
    rintro e w' ⟨N, rfl, _, _, hb⟩
    exact ⟨_, rfl, ⟨_, by rw [show atoiR s = (0, false) by simp only [atoiR, ha]], .inr ⟨by simp only [atoiR, ha], _, _, rfl⟩⟩, hb⟩

theorem lib_CutPrefix (s p : List UInt8) : Spc Tryd.prog 97 [str s, str p] [] [] (ret (.tuple #[str (Lib.trimPrefix s p), .bool (Lib.hasPrefix s p)])) :=
  K.Spc.of_below (Post := fun v => v = .tuple #[str (Lib.trimPrefix s p), .bool (Lib.hasPrefix s p)]) (by kernel_rfl) fun w F _ => (Any.strings_CutPrefix Tryd.lays103 ⟨s.toArray⟩ ⟨p.toArray⟩ w).mono fun e w' ⟨he, hw⟩ =>
    ⟨_, he, rfl, by subst hw; exact Below.refl _ _⟩
theorem lib_Cut (s p : List UInt8) (hs : s.length < 4294967281) : Spc Tryd.prog 99 [str s, str p] [] [lib] (ret (.tuple #[str (Lib.cut s p).1, str (Lib.cut s p).2.1, .bool (Lib.cut s p).2.2])) :=
  K.Spc.of_below (Post := fun v => v = .tuple #[str (Lib.cut s p).1, str (Lib.cut s p).2.1, .bool (Lib.cut s p).2.2]) (by kernel_rfl) fun w F hM => by
    obtain ⟨_, ⟨m, hm⟩, _⟩ := shr_lib hM
    refine (Any.strings_Cut Tryd.lays145 ⟨s.toArray⟩ ⟨p.toArray⟩ m w (by rw [ba_size]; exact hs) hm).mono fun e w' ⟨he, n, hw⟩ => ⟨_, he, rfl, ?_⟩
    subst hw; exact ⟨rfl, rfl, rfl, Nat.le_refl _, fun _ _ => rfl⟩
theorem lib_Split (s p : List UInt8) (hs : s.length < 4294967281) (hp : 1 ≤ p.length) : Spc Tryd.prog 100 [str s, str p] [] [lib] (fun u L => L = [sl 9 1 u (Lib.split s p).length ((Lib.split s p).map str)] ∧ noSlice u = false) := by
  refine ⟨by kernel_rfl, fun w F1 h1 h2 => ?_⟩
  obtain ⟨_, ⟨m, hm⟩, _⟩ := shr_lib h2
  have hd : (Lib.splitB ⟨p.toArray⟩ 0 (Lib.countB ⟨s.toArray⟩ ⟨p.toArray⟩) ⟨s.toArray⟩).map Value.string = (Lib.split s p).map str := by
    have := Lib.splitB_data ⟨p.toArray⟩ 0 (Lib.countB ⟨s.toArray⟩ ⟨p.toArray⟩) ⟨s.toArray⟩
    have e : (Lib.split s p) = (Lib.splitB ⟨p.toArray⟩ 0 (Lib.countB ⟨s.toArray⟩ ⟨p.toArray⟩) ⟨s.toArray⟩).map (·.data.toList) := this.symm
    rw [e, List.map_map]
    exact List.map_congr_left fun x _ => by cases x; rfl
  have hl : (Lib.split s p).length = Lib.countB ⟨s.toArray⟩ ⟨p.toArray⟩ + 1 := by
    have := Lib.splitB_all ⟨p.toArray⟩ (by rw [ba_size]; exact hp) 0 (Lib.countB ⟨s.toArray⟩ ⟨p.toArray⟩) ⟨s.toArray⟩ rfl
    rw [← this, ← List.length_map (f := Value.string), hd, List.length_map]
  have hle := Lib.countB_le ⟨p.toArray⟩ (by rw [ba_size]; exact hp) _ ⟨s.toArray⟩ (Nat.le_refl _)
  rw [ba_size] at hle
  have hmx : (Lib.split s p).length ≤ maxLen := by unfold maxLen; omega
  refine (Any.strings_Split Tryd.lays146 (by kernel_rfl) ⟨s.toArray⟩ ⟨p.toArray⟩ m w (by rw [ba_size]; exact hs) hm (by rw [ba_size]; exact hp)).mono fun e w' ⟨he, hw⟩ => ?_
  subst hw
  rw [hd, ← hl] at *
  refine ⟨_, _, fun k => k = w.heap.size, he, ⟨rfl, rfl⟩, ⟨fun k => k = w.heap.size, fun _ => False, ⟨?_, fun k => ?_⟩, fun _ x => x, fun _ _ x => x, fun b => by simp⟩, fun b hb => .inr (by rw [hb]; exact Nat.le_refl _), eff_alloc w _ _⟩
  · have := own_new w 9 1 (Lib.split s p).length (Lib.split s p).length ((Lib.split s p).map str) (by simp) (Nat.le_refl _) hmx
    rwa [List.take_of_length_le (by simp)] at this
  · simp [Value.ownBlock]; exact eq_comm
section
variable {P : Program} {X : Cx} {E : List (Nat × Value)} {L M : List As} {d : Nat} {ty : TypeId} {pos : String} {af : Array Edge}
theorem K.OpQ.eqnil_e {x : Operand} {xt yt : TypeId} (h : P.underlying xt = some (.interface (P.methodsAt xt))) (hx : evalO E x = some .nilIface) : OpQ P X ⟨some d, .binOp .eql xt x (.const .nilIface) yt, ty, pos, af, none⟩ E L M (.bool true) :=
  .of fun a ha w _ => by
    have e2 : a.eval (.const .nilIface) = .nilIface := rfl
    have := run_eql_nil_nil (P := P) w xt h
    simp [execOp, ha.eval hx, e2, eqGuard, this]
theorem K.OpQ.eqnil_i {x : Operand} {xt yt t : TypeId} {p : Value} (h : P.underlying xt = some (.interface (P.methodsAt xt))) (hx : evalO E x = some (.iface t p)) : OpQ P X ⟨some d, .binOp .eql xt x (.const .nilIface) yt, ty, pos, af, none⟩ E L M (.bool false) :=
  .of fun a ha w _ => by
    have e2 : a.eval (.const .nilIface) = .nilIface := rfl
    have := run_eql_held_nil (P := P) w xt t p h
    simp [execOp, ha.eval hx, e2, eqGuard, this]
end
end Go.Proofs.YtoiebfpafdcbmaaDoor
