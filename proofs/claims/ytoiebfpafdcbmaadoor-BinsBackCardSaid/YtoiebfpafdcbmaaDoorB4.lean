/- Contracts of layer bits and of what it calls: writers and readers of bits. -/
import Derived.Test.YtoiebfpafdcbmaaDoorB3
import Derived.Test.YtoiebfpafdcbmaaDoorB2
import Derived.Test.YtoiebfpafdcbmaaDoorKh
namespace Go.Proofs.YtoiebfpafdcbmaaDoor
open Go Go.RowKit K
set_option linter.unusedVariables false
set_option linter.unusedSimpArgs false

/-- Bytes as cells. -/
abbrev bytesV (l : List Int) : List Value := l.map (Value.int .u8)

theorem one_bytes (l : List Int) : (bytesV l).all (·.oneCell') = true := by simp [bytesV, Value.oneCell']

/-! ### slices.Clone of bytes -/
theorem slices_Clone_byte (v : Value) (e n : Nat) (xs : List Value) (h1 : xs.all (·.oneCell') = true) (hl : xs.length = n * 1) (hb : n ≤ 2 ^ 46) :
    Spc Tryd.prog 45 [v] [] [rd 1 v n xs] (fun u L => ∃ u', u = u' ∧ L = [sl 5 1 u' n xs]) := by
  refine Spc.intro Tryd.func45 rfl Tryd.ntmps45 (by kernel_rfl) rfl rfl fun w0 F0 => ?_
  refine Gx.seq_region ?_
  refine Rx.q rfl (.assign rfl) ?_
  refine Rx.next ?_
  refine Gx.seq ?_
  refine Gx.seq_region ?_
  refine Rx.q rfl (.move rfl) ?_
  refine Rx.q rfl (.eqnils rfl) ?_
  refine Rx.next ?_
  refine Gx.cond rfl (fun h => ?_) (fun h => ?_)
  · refine Gx.seq_region ?_
    refine Rx.q rfl (.assign rfl) ?_
    refine Rx.next ?_
    refine Gx.know (.shr .here) (φ := n = 0) (fun w F hp => ?_) (fun hn => ?_)
    · obtain ⟨_, a, c, ⟨rfl, _⟩, h2, _⟩ := hp
      rcases h2 with h2 | ⟨b, o, rfl, _⟩
      · exact h2
      · simp [noSlice] at h
    · subst hn
      have hx : xs = [] := List.eq_nil_of_length_eq_zero (by simpa using hl)
      subst hx
      refine Gx.nilS (e := 5) (sz := 1) ?_
      refine Gx.ret fun a w hs => (then_ret (fin_tmp hs rfl rfl ⟨_, rfl, rfl⟩))
  · refine Gx.skip fun a w hs => (then_normal (Gx.go hs ?_))
    refine Gx.seq_region ?_
    refine Rx.slice1 rfl rfl rfl rfl rfl fun v5 hv5 => ?_
    refine Rx.q rfl (.move rfl) ?_
    refine Rx.app rfl rfl ⟨rfl, rfl⟩ hl h1 (by omega) rfl fun v7 hv7 => ?_
    rw [Nat.zero_add, List.nil_append]
    refine Rx.q rfl (.assign rfl) ?_
    refine Rx.next ?_
    refine Gx.ret fun a w hs => (fin_tmp hs rfl rfl ⟨_, rfl, rfl⟩)

/-! ### Writers -/
/-- A writer at block p that has these bits. -/
abbrev wr (p : Nat) (bs : List Bool) : As := As.ex (fun v : Value => [pt p 75 [v, .int .i64 bs.length], sl 5 1 v (pack bs).length (bytesV (pack bs))]) (fun _ => True)

section
variable {P : Program} {X : Cx} {E : List (Nat × Value)} {L L1 M : List As} {Q : Exit → Act → World → Prop} {a : Act} {w : World} {p : Nat} {bs : List Bool}
theorem wr_opn {c : Code} [ht : TakeA L (wr p bs) L1] (h : ∀ v : Value, Gx P X c E (pt p 75 [v, .int .i64 bs.length] :: sl 5 1 v (pack bs).length (bytesV (pack bs)) :: L1) M Q) : Gx P X c E L M Q :=
  Gx.opn (ht := ht) fun v _ => h v
theorem wr_opnM {c : Code} {M1 : List As} [ht : TakeA M (wr p bs) M1] (h : ∀ v : Value, Gx P X c E L (pt p 75 [v, .int .i64 bs.length] :: sl 5 1 v (pack bs).length (bytesV (pack bs)) :: M1) Q) : Gx P X c E L M Q :=
  Gx.opnM (ht := ht) fun v _ => h v
theorem wr_shut (v : Value) [ht : PickA L [pt p 75 [v, .int .i64 bs.length], sl 5 1 v (pack bs).length (bytesV (pack bs))] L1] (hs : St X E L M a w) : St X E (wr p bs :: L1) M a w := hs.shut v trivial (ht := ht)
end

theorem bits_Writer_Len (p : Nat) (bs : List Bool) : Spc Tryd.prog 42 [.pointer (some ⟨p, 0, none⟩)] [] [wr p bs] (ret (.int .i64 bs.length)) := by
  refine Spc.intro Tryd.func42 rfl Tryd.ntmps42 (by kernel_rfl) rfl rfl fun w0 F0 => ?_
  refine wr_opnM (p := p) (bs := bs) fun v => ?_
  refine Gx.seq_region ?_
  refine Rx.q rfl (.assign rfl) ?_
  refine Rx.next ?_
  refine Gx.seq ?_
  refine Gx.seq_region ?_
  refine Rx.q rfl (.move rfl) ?_
  refine Rx.q rfl (.eqnil_s rfl) ?_
  refine Rx.next ?_
  refine Gx.cond_f rfl ?_
  refine Gx.skip fun a w hs => (then_normal (Gx.go hs ?_))
  refine Gx.seq_region ?_
  refine Rx.q rfl (.move rfl) ?_
  refine Rx.q rfl (.nilCheck rfl) ?_
  refine Rx.q rfl (.fieldAddr rfl) ?_
  refine Rx.q rfl (.ld rfl rfl) ?_
  refine Rx.q rfl (.assign rfl) ?_
  refine Rx.next ?_
  refine Gx.ret fun a w hs => (fin_tmp hs rfl rfl ⟨rfl, rfl⟩)

theorem bits_Writer_Bytes (p : Nat) (bs : List Bool) (h : bs.length ≤ 2 ^ 40) : Spc Tryd.prog 40 [.pointer (some ⟨p, 0, none⟩)] [] [wr p bs]
    (fun u L => ∃ u', u = u' ∧ L = [sl 5 1 u' (pack bs).length (bytesV (pack bs))]) := by
  refine Spc.intro Tryd.func40 rfl Tryd.ntmps40 (by kernel_rfl) rfl rfl fun w0 F0 => ?_
  refine wr_opnM (p := p) (bs := bs) fun v => ?_
  refine Gx.seq_region ?_
  refine Rx.q rfl (.assign rfl) ?_
  refine Rx.next ?_
  refine Gx.seq ?_
  refine Gx.seq_region ?_
  refine Rx.q rfl (.move rfl) ?_
  refine Rx.q rfl (.eqnil_s rfl) ?_
  refine Rx.next ?_
  refine Gx.cond_f rfl ?_
  refine Gx.skip fun a w hs => (then_normal (Gx.go hs ?_))
  refine Gx.seq_region ?_
  refine Rx.q rfl (.move rfl) ?_
  refine Rx.q rfl (.nilCheck rfl) ?_
  refine Rx.q rfl (.fieldAddr rfl) ?_
  refine Rx.q rfl (.ld rfl rfl) ?_
  refine Rx.cal (caps := []) (slices_Clone_byte v 0 (pack bs).length (bytesV (pack bs)) (one_bytes _) (by simp) (by rw [pack_length]; omega)) rfl rfl rfl ?_
  rintro u L1 ⟨u', rfl, rfl⟩
  refine Rx.q rfl (.assign rfl) ?_
  refine Rx.next ?_
  refine Gx.ret fun a w hs => (fin_tmp hs rfl rfl ⟨_, rfl, rfl⟩)

theorem bits_Writer_Bit (p : Nat) (bs : List Bool) (b : Bool) (h : bs.length ≤ 2 ^ 40) : Spc Tryd.prog 44 [.pointer (some ⟨p, 0, none⟩), .bool b] [wr p bs] [] (fun v L => v = .tuple #[] ∧ L = [wr p (bs ++ [b])]) := by
  have hpl := pack_length bs
  refine Spc.intro Tryd.func44 rfl Tryd.ntmps44 (by kernel_rfl) rfl rfl fun w0 F0 => ?_
  refine wr_opn (p := p) (bs := bs) fun v => ?_
  refine Gx.seq ?_
  refine Gx.seq_region ?_
  refine Rx.q rfl (.move rfl) ?_
  refine Rx.q rfl (.eqnil_s rfl) ?_
  refine Rx.next ?_
  refine Gx.cond_f rfl ?_
  refine Gx.skip fun a w hs => (then_normal (Gx.go hs ?_))
  -- a byte more, or none
  refine Gx.join (α := Value) (fun _ => True) (fun _ => [(0, .pointer (some ⟨p, 0, none⟩)), (1, .bool b)])
    (fun v => [pt p 75 [v, .int .i64 bs.length], sl 5 1 v (bs.length / 8 + 1) (bytesV ((List.range (bs.length / 8 + 1)).map (byteAt bs)))]) ?_ ?_
  · refine Gx.seq_region ?_
    refine Rx.q rfl (.move rfl) ?_
    refine Rx.q rfl (.nilCheck rfl) ?_
    refine Rx.q rfl (.fieldAddr rfl) ?_
    refine Rx.q rfl (.ld rfl rfl) ?_
    refine Rx.q rfl (.rem_ rfl rfl (by omega)) ?_
    refine Rx.q rfl (.eql rfl rfl) ?_
    refine Rx.next ?_
    have hrm := range_map_snoc bs
    refine Gx.cond rfl (fun h => ?_) (fun h => ?_)
    · have h := of_decide_eq_true h
      rw [if_pos (by omega)] at hrm
      refine Gx.region ?_
      refine Rx.q rfl (.move rfl) ?_
      refine Rx.q rfl (.move rfl) ?_
      refine Rx.q rfl (.nilCheck rfl) ?_
      refine Rx.q rfl (.fieldAddr rfl) ?_
      refine Rx.q rfl (.ld rfl rfl) ?_
      refine Rx.slice1 rfl rfl rfl rfl rfl fun v17 hv17 => ?_
      refine Rx.app rfl rfl ⟨rfl, rfl⟩ rfl rfl (by omega) rfl fun v18 hv18 => ?_
      refine Rx.one v18 fun h18 => ?_
      refine Rx.q rfl (.nilCheck rfl) ?_
      refine Rx.q rfl (.fieldAddr rfl) ?_
      refine Rx.st rfl rfl h18 ?_
      have e1 : (pack bs).length + 1 = bs.length / 8 + 1 := by omega
      have e2 : bytesV (pack bs) ++ [.int .u8 0] = bytesV ((List.range (bs.length / 8 + 1)).map (byteAt bs)) := by rw [← hrm]; simp [bytesV]
      rw [e1, e2]
      refine Rx.nil fun a w hs => (then_normal ⟨v18, trivial, hs.to (.cons rfl (.cons rfl .nil))⟩)
    · have h := of_decide_eq_false h
      rw [if_neg (by omega)] at hrm
      have e1 : (pack bs).length = bs.length / 8 + 1 := by omega
      rw [e1, hrm]
      refine Gx.skip fun a w hs => (then_normal ⟨v, trivial, hs.to (.cons rfl (.cons rfl .nil))⟩)
  · rintro v -
    refine Gx.join (α := Unit) (fun _ => True) (fun _ => [(0, .pointer (some ⟨p, 0, none⟩))])
      (fun _ => [pt p 75 [v, .int .i64 bs.length], sl 5 1 v (pack (bs ++ [b])).length (bytesV (pack (bs ++ [b])))]) ?_ ?_
    · refine Gx.seq_region ?_
      refine Rx.q rfl (.move rfl) ?_
      refine Rx.next ?_
      have hps := pack_snoc bs b
      have hlen : (pack (bs ++ [b])).length = bs.length / 8 + 1 := by rw [hps]; simp
      refine Gx.cond rfl (fun h => ?_) (fun h => ?_) <;> subst h
      · have hbn := (byteAt_snoc_new bs true).2
        have hbr := byteAt_range bs (bs.length / 8)
        refine Gx.region_tail 19 mixed (by kernel_rfl) ?_
        refine Dx.q rfl (.move rfl) ?_
        refine Dx.q rfl (.nilCheck rfl) ?_
        refine Dx.q rfl (.fieldAddr rfl) ?_
        refine Dx.q rfl (.ld rfl rfl) ?_
        refine Dx.q rfl (.move rfl) ?_
        refine Dx.q rfl (.nilCheck rfl) ?_
        refine Dx.q rfl (.fieldAddr rfl) ?_
        refine Dx.q rfl (.ld rfl rfl) ?_
        refine Dx.q rfl (.quo_ rfl rfl (by omega)) ?_
        refine Dx.q rfl (.idx (j := bs.length / 8) rfl rfl (by omega) (by omega)) ?_
        refine Dx.q rfl ((OpQ.ldi rfl rfl (by simp)).val (u := .int .u8 (byteAt bs (bs.length / 8))) (by simp [List.getD])) ?_
        refine Dx.q rfl (.move rfl) ?_
        refine Dx.q rfl (.nilCheck rfl) ?_
        refine Dx.q rfl (.fieldAddr rfl) ?_
        refine Dx.q rfl (.ld rfl rfl) ?_
        refine Dx.q rfl (.rem_ rfl rfl (by omega)) ?_
        refine Dx.q rfl ((OpQ.shr rfl rfl (by omega)).val (u := .int .u8 (2 ^ (7 - bs.length % 8))) (by
          have hr : bs.length % 8 < 8 := Nat.mod_lt _ (by omega)
          have e : ((bs.length : Int) % 8).toNat = bs.length % 8 := by omega
          rw [e]
          generalize bs.length % 8 = r at *
          have hcase : r = 0 ∨ r = 1 ∨ r = 2 ∨ r = 3 ∨ r = 4 ∨ r = 5 ∨ r = 6 ∨ r = 7 := by omega
          rcases hcase with rfl | rfl | rfl | rfl | rfl | rfl | rfl | rfl <;> rfl)) ?_
        refine Dx.q rfl ((OpQ.or rfl rfl).val (u := .int .u8 (byteAt bs (bs.length / 8) + 2 ^ (7 - bs.length % 8))) (by rw [or_u8 _ hbr (by omega) hbn])) ?_
        refine Dx.q rfl (.idx (j := bs.length / 8) rfl rfl (by omega) (by omega)) ?_
        refine Dx.tail ?_
        refine Rx.sti rfl rfl rfl (by simp) ?_
        have e2 : ((List.range (bs.length / 8 + 1)).map (byteAt bs)).set (bs.length / 8) (byteAt bs (bs.length / 8) + 2 ^ (7 - bs.length % 8)) = pack (bs ++ [true]) := by rw [hps]; simp
        rw [e2, ← hlen]
        refine Rx.nil fun a w hs => (then_normal ⟨(), trivial, hs.to (.cons rfl .nil)⟩)
      · have e2 : (List.range (bs.length / 8 + 1)).map (byteAt bs) = pack (bs ++ [false]) := by
          rw [hps]
          simp only [Bool.false_eq_true, if_false, Int.zero_mul, Int.add_zero]
          apply List.ext_getElem
          · simp
          · intro i h1 h2
            simp only [List.getElem_map, List.getElem_range, List.getElem_set]
            split
            · rename_i h; rw [h]
            · rfl
        rw [e2, ← hlen]
        refine Gx.skip fun a w hs => (then_normal ⟨(), trivial, hs.to (.cons rfl .nil)⟩)
    · rintro ⟨⟩ -
      refine Gx.region ?_
      refine Rx.q rfl (.move rfl) ?_
      refine Rx.q rfl (.nilCheck rfl) ?_
      refine Rx.q rfl (.fieldAddr rfl) ?_
      refine Rx.q rfl (.ld rfl rfl) ?_
      refine Rx.q rfl ((OpQ.add_ rfl rfl (by omega)).val (u := .int .i64 ((bs ++ [b]).length : Nat)) (by simp)) ?_
      refine Rx.q rfl (.nilCheck rfl) ?_
      refine Rx.q rfl (.fieldAddr rfl) ?_
      refine Rx.st rfl rfl rfl ?_
      refine Rx.nil fun a w hs => (fin_end (wr_shut (p := p) (bs := bs ++ [b]) v hs) rfl ⟨rfl, rfl⟩)
end Go.Proofs.YtoiebfpafdcbmaaDoor
