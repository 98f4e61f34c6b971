/- Contracts of strings.Builder: a builder holds bytes; what is written goes behind them; its text. -/
import Derived.Test.YtoiebfpafdcbmaaDoorTy
import Derived.Test.YtoiebfpafdcbmaaDoorKm
namespace Go.Proofs.YtoiebfpafdcbmaaDoor
open Go Go.RowKit K
set_option linter.unusedVariables false
set_option linter.unusedSimpArgs false

/-- A builder at block b holds these bytes. -/
abbrev bld (b : Nat) (l : List UInt8) : As :=
  As.ex (α := Value × Value) (fun x => [pt b 94 [x.1, x.2], sl 5 1 x.2 l.length (bytesU l)]) (fun x => (x.1 = .pointer none ∨ x.1 = .pointer (some ⟨b, 0, none⟩)) ∧ (l = [] → x.2 = .slice none 0 0))

section
variable {P : Program} {X : Cx} {ops : Array Oper} {c : Code} {r : List Oper} {E : List (Nat × Value)} {L L1 M : List As} {Q : Exit → Act → World → Prop} {b : Nat} {l : List UInt8}
theorem bld_opn [ht : TakeA L (bld b l) L1] (h : ∀ p v, (p = .pointer none ∨ p = .pointer (some ⟨b, 0, none⟩)) → (l = [] → v = .slice none 0 0) → Gx P X c E (pt b 94 [p, v] :: sl 5 1 v l.length (bytesU l) :: L1) M Q) : Gx P X c E L M Q :=
  @Gx.opn P X E L L1 M Q _ _ _ c ht fun x hx => h x.1 x.2 hx.1 hx.2
theorem bld_shut (v : Value) (hv : l = [] → v = .slice none 0 0) {xs : List Value} {n : Nat} (hn : n = l.length) (hx : xs = bytesU l) [ht : PickA L [pt b 94 [.pointer (some ⟨b, 0, none⟩), v], sl 5 1 v n xs] L1] (h : Rx P X ops r E (bld b l :: L1) M Q) : Rx P X ops r E L M Q := by
  subst hn; subst hx
  exact @Rx.shut P X E L L1 M Q ops _ _ _ r (.pointer (some ⟨b, 0, none⟩), v) ⟨.inr rfl, hv⟩ ht h
/-- A new builder. -/
theorem bld_new (h : Gx P X c E (bld b [] :: L) M Q) : Gx P X c E (pt b 94 [.pointer none, .slice none 0 0] :: L) M Q := by
  refine Gx.nilS (e := 5) (sz := 1) ?_
  have ht : PickA (sl 5 1 (.slice none 0 0) 0 [] :: pt b 94 [.pointer none, .slice none 0 0] :: L) [pt b 94 [.pointer none, .slice none 0 0], sl 5 1 (.slice none 0 0) ([] : List UInt8).length (bytesU [])] L := ⟨.cons (.there .here) (.cons .here .nil)⟩
  exact @Gx.shut P X E _ L M Q _ _ _ c (.pointer none, .slice none 0 0) ⟨.inl rfl, fun _ => rfl⟩ ht h
theorem bld_newR (h : Rx P X ops r E (bld b [] :: L) M Q) : Rx P X ops r E (pt b 94 [.pointer none, .slice none 0 0] :: L) M Q := by
  refine Rx.nilS (e := 5) (sz := 1) ?_
  have ht : PickA (sl 5 1 (.slice none 0 0) 0 [] :: pt b 94 [.pointer none, .slice none 0 0] :: L) [pt b 94 [.pointer none, .slice none 0 0], sl 5 1 (.slice none 0 0) ([] : List UInt8).length (bytesU [])] L := ⟨.cons (.there .here) (.cons .here .nil)⟩
  exact @Rx.shut P X E _ L M Q ops _ _ _ r (.pointer none, .slice none 0 0) ⟨.inl rfl, fun _ => rfl⟩ ht h
end

theorem sb_copyCheck_new (b : Nat) (v : Value) : Spc Tryd.prog 79 [.pointer (some ⟨b, 0, none⟩)] [pt b 94 [.pointer none, v]] [] (fun u L => u = .tuple #[] ∧ L = [pt b 94 [.pointer (some ⟨b, 0, none⟩), v]]) := by
  refine Spc.intro Tryd.func79 rfl Tryd.ntmps79 (by kernel_rfl) rfl rfl fun w0 F0 => ?_
  -- region 0
  refine Gx.seq_region ?_
  refine Rx.q rfl (.move rfl) ?_
  refine Rx.q rfl (.nilCheck rfl) ?_
  refine Rx.q rfl (.fieldAddr rfl) ?_
  refine Rx.q rfl (.ld rfl rfl) ?_
  refine Rx.q rfl (.eqnil rfl) ?_
  refine Rx.next ?_
  refine Gx.cond_t rfl ?_
  -- region 1
  refine Gx.region ?_
  refine Rx.q rfl (.move rfl) ?_
  refine Rx.q rfl (.move rfl) ?_
  refine Rx.q rfl (OpQ.toUnsafe (e := 94) (by kernel_rfl) (by kernel_rfl) (j := (Tryd.prog.info? 94).getD default) (by kernel_rfl) (by decide +kernel) rfl (by simp)) ?_
  refine Rx.q rfl (OpQ.extern (f := 95) (args := [.pointer (some ⟨b, 0, none⟩)]) (v := .pointer (some ⟨b, 0, none⟩)) (fun w => by
    rw [run_callFunc_extern Tryd.func95 (by kernel_rfl) (by kernel_rfl) (by kernel_rfl) (e := Extern.AbiNoEscape.same) (by kernel_rfl), Lib.run_noEscape]; rfl) rfl rfl) ?_
  refine Rx.q rfl (OpQ.fromUnsafe (u := 94) (by kernel_rfl) (by kernel_rfl) (j := (Tryd.prog.info? 94).getD default) (by kernel_rfl) rfl (by kernel_rfl)) ?_
  refine Rx.q rfl (.nilCheck rfl) ?_
  refine Rx.q rfl (.fieldAddr rfl) ?_
  refine Rx.st rfl rfl (by first | rfl | assumption) ?_
  refine Rx.nil fun aa ww hzz => (fin_end hzz rfl (⟨rfl, rfl⟩))

theorem sb_copyCheck_used (b : Nat) (v : Value) : Spc Tryd.prog 79 [.pointer (some ⟨b, 0, none⟩)] [pt b 94 [.pointer (some ⟨b, 0, none⟩), v]] [] (fun u L => u = .tuple #[] ∧ L = [pt b 94 [.pointer (some ⟨b, 0, none⟩), v]]) := by
  refine Spc.intro Tryd.func79 rfl Tryd.ntmps79 (by kernel_rfl) rfl rfl fun w0 F0 => ?_
  -- region 0
  refine Gx.seq_region ?_
  refine Rx.q rfl (.move rfl) ?_
  refine Rx.q rfl (.nilCheck rfl) ?_
  refine Rx.q rfl (.fieldAddr rfl) ?_
  refine Rx.q rfl (.ld rfl rfl) ?_
  refine Rx.q rfl (.eqnil rfl) ?_
  refine Rx.next ?_
  refine Gx.cond_f rfl ?_
  -- region 2
  refine Gx.seq_region ?_
  refine Rx.q rfl (.move rfl) ?_
  refine Rx.q rfl (.nilCheck rfl) ?_
  refine Rx.q rfl (.fieldAddr rfl) ?_
  refine Rx.q rfl (.ld rfl rfl) ?_
  refine Rx.q rfl (.move rfl) ?_
  refine Rx.q rfl (OpQ.neptr_same (e := 94) (j := (Tryd.prog.info? 94).getD default) (by kernel_rfl) (by kernel_rfl) rfl rfl) ?_
  refine Rx.next ?_
  refine Gx.cond_f rfl ?_
  refine Gx.skip fun aa ww hzz => (fin_end hzz rfl (⟨rfl, rfl⟩))

theorem sb_copyCheck (b : Nat) (p v : Value) (hp : p = .pointer none ∨ p = .pointer (some ⟨b, 0, none⟩)) : Spc Tryd.prog 79 [.pointer (some ⟨b, 0, none⟩)] [pt b 94 [p, v]] [] (fun u L => u = .tuple #[] ∧ L = [pt b 94 [.pointer (some ⟨b, 0, none⟩), v]]) := by
  rcases hp with rfl | rfl
  · exact sb_copyCheck_new b v
  · exact sb_copyCheck_used b v

theorem sb_WriteString (b : Nat) (l s : List UInt8) (hl : l.length + s.length ≤ 140737488355328) : Spc Tryd.prog 50 [.pointer (some ⟨b, 0, none⟩), str s] [bld b l] [] (fun u L => u = .tuple #[.int .i64 s.length, .nilIface] ∧ L = [bld b (l ++ s)]) := by
  refine Spc.intro Tryd.func50 rfl Tryd.ntmps50 (by kernel_rfl) rfl rfl fun w0 F0 => ?_
  refine bld_opn (b := b) (l := l) fun p v hp hv => ?_
  -- region 0
  refine Gx.seq_region ?_
  refine Rx.q rfl (.assign rfl) ?_
  refine Rx.q rfl (.assign rfl) ?_
  refine Rx.next ?_
  -- region 1
  refine Gx.seq_region ?_
  refine Rx.q rfl (.move rfl) ?_
  refine Rx.cal (caps := []) (sb_copyCheck b p v hp) rfl rfl rfl fun v7 L7 hP7 => ?_
  obtain ⟨rfl, rfl⟩ := hP7
  refine Rx.next ?_
  -- region 2
  refine Gx.seq_region ?_
  refine Rx.q rfl (.move rfl) ?_
  refine Rx.q rfl (.move rfl) ?_
  refine Rx.q rfl (.nilCheck rfl) ?_
  refine Rx.q rfl (.fieldAddr rfl) ?_
  refine Rx.q rfl (.ld rfl rfl) ?_
  refine Rx.q rfl (.move rfl) ?_
  refine Rx.app_str rfl rfl ⟨rfl, rfl⟩ hl rfl fun v14 hv14 => ?_
  refine Rx.one v14 fun ho14 => ?_
  refine Rx.q rfl (.nilCheck rfl) ?_
  refine Rx.q rfl (.fieldAddr rfl) ?_
  refine Rx.st rfl rfl (by first | rfl | assumption) ?_
  refine Rx.next ?_
  -- region 3
  refine Gx.seq_region ?_
  refine Rx.q rfl (.move rfl) ?_
  refine Rx.q rfl (.len_s rfl) ?_
  refine Rx.q rfl (.assign rfl) ?_
  refine Rx.q rfl (.assign rfl) ?_
  refine bld_shut (b := b) (l := l ++ s) v14 (fun h => by
    obtain ⟨rfl, rfl⟩ := List.append_eq_nil_iff.1 h
    exact hv14 (hv rfl) rfl) (n := l.length + s.length) (xs := bytesU l ++ bytesU s) (by simp) (by simp [bytesU]) ?_
  refine Rx.next ?_
  refine Gx.ret fun aa ww hzz => (fin_two hzz rfl rfl rfl (⟨rfl, rfl⟩))

theorem sb_WriteByte (b : Nat) (l : List UInt8) (c : UInt8) (hl : l.length + 1 ≤ 140737488355328) : Spc Tryd.prog 55 [.pointer (some ⟨b, 0, none⟩), .int .u8 c.toNat] [bld b l] [] (fun u L => u = .nilIface ∧ L = [bld b (l ++ [c])]) := by
  refine Spc.intro Tryd.func55 rfl Tryd.ntmps55 (by kernel_rfl) rfl rfl fun w0 F0 => ?_
  refine bld_opn (b := b) (l := l) fun p v hp hv => ?_
  -- region 0
  refine Gx.seq_region ?_
  refine Rx.q rfl (.assign rfl) ?_
  refine Rx.next ?_
  -- region 1
  refine Gx.seq_region ?_
  refine Rx.q rfl (.move rfl) ?_
  refine Rx.cal (caps := []) (sb_copyCheck b p v hp) rfl rfl rfl fun v6 L6 hP6 => ?_
  obtain ⟨rfl, rfl⟩ := hP6
  refine Rx.next ?_
  -- region 2
  refine Gx.seq_region ?_
  refine Rx.q rfl (.move rfl) ?_
  refine Rx.q rfl (.move rfl) ?_
  refine Rx.q rfl (.nilCheck rfl) ?_
  refine Rx.q rfl (.fieldAddr rfl) ?_
  refine Rx.q rfl (.ld rfl rfl) ?_
  refine Rx.q rfl (.move rfl) ?_
  refine Rx.slice1 rfl rfl rfl rfl rfl fun v13 hv13 => ?_
  refine Rx.one v13 fun ho13 => ?_
  refine Rx.app rfl rfl ⟨rfl, rfl⟩ rfl rfl (by omega) rfl fun v14 hv14 => ?_
  refine Rx.one v14 fun ho14 => ?_
  refine Rx.q rfl (.nilCheck rfl) ?_
  refine Rx.q rfl (.fieldAddr rfl) ?_
  refine Rx.st rfl rfl (by first | rfl | assumption) ?_
  refine Rx.next ?_
  -- region 3
  refine Gx.seq_region ?_
  refine Rx.q rfl (.assign rfl) ?_
  refine bld_shut (b := b) (l := l ++ [c]) v14 (fun h => by simp at h) (n := l.length + 1) (xs := bytesU l ++ [.int .u8 c.toNat]) (by simp) (by simp [bytesU]) ?_
  refine Rx.next ?_
  refine Gx.ret fun aa ww hzz => (fin_tmp hzz rfl rfl (⟨rfl, rfl⟩))

theorem sb_String_nil (b : Nat) : Spc Tryd.prog 53 [.pointer (some ⟨b, 0, none⟩)] [bld b []] [] (ret (str [])) := by
  refine Spc.intro Tryd.func53 rfl Tryd.ntmps53 (by kernel_rfl) rfl rfl fun w0 F0 => ?_
  refine bld_opn (b := b) (l := []) fun p v hp hv => ?_
  obtain rfl : v = .slice none 0 0 := hv rfl
  -- region 0
  refine Gx.seq_region ?_
  refine Rx.q rfl (.assign rfl) ?_
  refine Rx.next ?_
  refine Gx.seq ?_
  -- region 1
  refine Gx.region_quiet mixed (by kernel_rfl) ?_
  refine Dx.q rfl (.move rfl) ?_
  refine Dx.q rfl (.nilCheck rfl) ?_
  refine Dx.q rfl (.fieldAddr rfl) ?_
  refine Dx.q rfl (.ld rfl rfl) ?_
  refine Dx.q rfl (.sdata_nil rfl) ?_
  refine Dx.q rfl (.move rfl) ?_
  refine Dx.q rfl (.nilCheck rfl) ?_
  refine Dx.q rfl (.fieldAddr rfl) ?_
  refine Dx.q rfl (.ld rfl rfl) ?_
  refine Dx.q rfl (.lens rfl) ?_
  refine Dx.q rfl (.ustr_none rfl rfl (fun w => Lib.run_unsafeString_none w _ _ _ _)) ?_
  refine Dx.q rfl (.assign rfl) ?_
  refine Dx.nextQ ?_
  refine Gx.ret fun aa ww hzz => (fin_tmp hzz rfl rfl (⟨rfl, rfl⟩))

theorem sb_String_some (b : Nat) (l : List UInt8) (hl : l ≠ []) : Spc Tryd.prog 53 [.pointer (some ⟨b, 0, none⟩)] [bld b l] [] (ret (str l)) := by
  refine Spc.intro Tryd.func53 rfl Tryd.ntmps53 (by kernel_rfl) rfl rfl fun w0 F0 => ?_
  refine bld_opn (b := b) (l := l) fun p v hp hv => ?_
  refine Gx.know (φ := ∃ g c, v = .slice (some ⟨g, 0, none⟩) l.length c ∧ c ≠ 0) (.own (.there .here)) (fun w F h => ?_) (fun hs => ?_)
  · have h0 : l.length ≠ 0 := fun e => hl (List.eq_nil_of_length_eq_zero e)
    rcases h.1.2 with ⟨_, h⟩ | ⟨g, cap, cur, rfl, _, _, hn, _⟩
    · exact absurd h h0
    · exact ⟨g, cap, rfl, by omega⟩
  obtain ⟨g, c, rfl, hc⟩ := hs
  -- region 0
  refine Gx.seq_region ?_
  refine Rx.q rfl (.assign rfl) ?_
  refine Rx.next ?_
  refine Gx.seq ?_
  -- region 1
  refine Gx.region_tail 10 mixed (by kernel_rfl) ?_
  refine Dx.q rfl (.move rfl) ?_
  refine Dx.q rfl (.nilCheck rfl) ?_
  refine Dx.q rfl (.fieldAddr rfl) ?_
  refine Dx.q rfl (.ld rfl rfl) ?_
  refine Dx.q rfl (.sdata rfl hc) ?_
  refine Dx.q rfl (.move rfl) ?_
  refine Dx.q rfl (.nilCheck rfl) ?_
  refine Dx.q rfl (.fieldAddr rfl) ?_
  refine Dx.q rfl (.ld rfl rfl) ?_
  refine Dx.q rfl (.lens rfl) ?_
  refine Dx.tail ?_
  refine Rx.ustr (l := l) (g := g) (c := c) (n := l.length) (e := 5) (by kernel_rfl) (by kernel_rfl) rfl rfl rfl hl rfl ?_
  refine Rx.q rfl (.assign rfl) ?_
  refine Rx.next ?_
  refine Gx.ret fun aa ww hzz => (fin_tmp hzz rfl rfl (⟨rfl, rfl⟩))

theorem sb_String (b : Nat) (l : List UInt8) : Spc Tryd.prog 53 [.pointer (some ⟨b, 0, none⟩)] [bld b l] [] (ret (str l)) := by
  by_cases h : l = []
  · subst h; exact sb_String_nil b
  · exact sb_String_some b l h

class TakeBld (L : List As) (b : Nat) (l : outParam (List UInt8)) (L' : outParam (List As)) : Prop where ok : Take L (bld b l) L'
instance (priority := high) TakeBld.here {L : List As} {b : Nat} {l : List UInt8} : TakeBld (bld b l :: L) b l L := ⟨.here⟩
instance TakeBld.there {L L' : List As} {A : As} {b : Nat} {l : List UInt8} [h : TakeBld L b l L'] : TakeBld (A :: L) b l (A :: L') := ⟨.there h.ok⟩
instance {L R L' : List As} {A : As} {b : Nat} {l : List UInt8} [h : TakeBld (A :: (L ++ R)) b l L'] : TakeBld ((A :: L) ++ R) b l L' := ⟨h.ok⟩
instance {R L' : List As} {b : Nat} {l : List UInt8} [h : TakeBld R b l L'] : TakeBld ([] ++ R) b l L' := ⟨h.ok⟩
section
variable {X : Cx} {ops : Array Oper} {E : List (Nat × Value)} {L L' M : List As} {Q : Exit → Act → World → Prop} {rest : List Oper} {d : Nat} {ty : TypeId} {pos : String} {af : Array Edge} {b : Nat} {l s : List UInt8} {x : Operand} {xs : List Operand} {tys : Array TypeId}
theorem Rx.sbByte (u : UInt8) {c : Int} (hf : evalO E x = some (.func (.func 55) #[] #[])) (ha : evalL E xs = some [.pointer (some ⟨b, 0, none⟩), .int .u8 c]) (hc : c = u.toNat) [ht : TakeBld L b l L'] (hl : l.length + 1 ≤ 140737488355328) (hn : Nat.blt d X.n = true)
    (k : Rx Tryd.prog X ops rest ((d, .nilIface) :: E) (bld b (l ++ [u]) :: L') M Q) : Rx Tryd.prog X ops (⟨some d, .call ⟨.value x, xs.toArray, tys⟩, ty, pos, af, none⟩ :: rest) E L M Q := by
  subst hc
  refine Rx.call (caps := []) (sb_WriteByte b l u hl) hf ha (.cons ht.ok .nil) .nil hn ?_
  rintro v L1 ⟨rfl, rfl⟩
  exact k
theorem Rx.sbStr (hf : evalO E x = some (.func (.func 50) #[] #[])) (ha : evalL E xs = some [.pointer (some ⟨b, 0, none⟩), str s]) [ht : TakeBld L b l L'] (hl : l.length + s.length ≤ 140737488355328) (hn : Nat.blt d X.n = true)
    (k : Rx Tryd.prog X ops rest ((d, .tuple #[.int .i64 s.length, .nilIface]) :: E) (bld b (l ++ s) :: L') M Q) : Rx Tryd.prog X ops (⟨some d, .call ⟨.value x, xs.toArray, tys⟩, ty, pos, af, none⟩ :: rest) E L M Q := by
  refine Rx.call (caps := []) (sb_WriteString b l s hl) hf ha (.cons ht.ok .nil) .nil hn ?_
  rintro v L1 ⟨rfl, rfl⟩
  exact k
theorem Rx.sbText (hf : evalO E x = some (.func (.func 53) #[] #[])) (ha : evalL E xs = some [.pointer (some ⟨b, 0, none⟩)]) [ht : TakeBld L b l L'] (hn : Nat.blt d X.n = true)
    (k : Rx Tryd.prog X ops rest ((d, str l) :: E) L' M Q) : Rx Tryd.prog X ops (⟨some d, .call ⟨.value x, xs.toArray, tys⟩, ty, pos, af, none⟩ :: rest) E L M Q := by
  refine Rx.call (caps := []) (sb_String b l) hf ha (.cons ht.ok .nil) .nil hn ?_
  rintro v L1 ⟨rfl, rfl⟩
  exact k
end
end Go.Proofs.YtoiebfpafdcbmaaDoor
