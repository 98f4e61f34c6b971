/- Contracts of layer bits, the rest: several bits at once; readers; what stands at the end is trimmed. -/
import Derived.Test.YtoiebfpafdcbmaaDoorB4
namespace Go.Proofs.YtoiebfpafdcbmaaDoor
open Go Go.RowKit K
set_option linter.unusedVariables false
set_option linter.unusedSimpArgs false

def clampN (n : Int) : Nat := (min (max n 0) 64).toNat
theorem clampN_le (n : Int) : clampN n ≤ 64 := by unfold clampN; omega
theorem bits_clamp (n : Int) : Spc Tryd.prog 71 [.int .i64 n] [] [] (ret (.int .i64 (clampN n))) := by
  refine Spc.intro Tryd.func71 rfl Tryd.ntmps71 (by kernel_rfl) rfl rfl fun w0 F0 => ?_
  refine Gx.seq_region ?_
  refine Rx.q rfl (.assign rfl) ?_
  refine Rx.next ?_
  refine Gx.seq_region ?_
  refine Rx.q rfl (.move rfl) ?_
  refine Rx.q rfl (.max rfl rfl) ?_
  refine Rx.q rfl ((OpQ.min rfl rfl).val (u := .int .i64 (clampN n)) (by unfold clampN; congr 1; split <;> split <;> omega)) ?_
  refine Rx.q rfl (.assign rfl) ?_
  refine Rx.next ?_
  refine Gx.ret fun a w hs => (fin_tmp hs rfl rfl ⟨rfl, rfl⟩)

/-! ### Numbers of 64 bits -/
theorem ofInt_u64 {p : Int} (h : 0 ≤ p ∧ p < 2 ^ 64) : (BitVec.ofInt 64 p).toNat = p.toNat := by
  rw [BitVec.toNat_ofInt]
  have : p % ((2 ^ 64 : Nat) : Int) = p := Int.emod_eq_of_lt h.1 (by have := h.2; simp at this ⊢; omega)
  rw [this]
theorem wrap_u64 {p : Int} (h : 0 ≤ p ∧ p < 2 ^ 64) : IntKind.u64.wrap p = p := by
  have : IntKind.u64.wrap p = p % 18446744073709551616 := rfl
  rw [this]; exact Int.emod_eq_of_lt h.1 (by have := h.2; omega)
theorem and1_u64 {p : Int} (h : 0 ≤ p ∧ p < 2 ^ 64) : IntKind.u64.wrap ((BitVec.ofInt IntKind.u64.bits p &&& BitVec.ofInt IntKind.u64.bits 1).toNat : Int) = p % 2 := by
  show IntKind.u64.wrap ((BitVec.ofInt 64 p &&& BitVec.ofInt 64 1).toNat : Int) = _
  rw [BitVec.toNat_and, ofInt_u64 h, ofInt_u64 (by omega), show (1 : Int).toNat = 1 from rfl, Nat.and_one_is_mod]
  rw [wrap_u64 (by omega)]; omega
theorem or1_u64 {p : Int} (h : 0 ≤ p ∧ p < 2 ^ 64) (he : p % 2 = 0) : IntKind.u64.wrap ((BitVec.ofInt IntKind.u64.bits p ||| BitVec.ofInt IntKind.u64.bits 1).toNat : Int) = p + 1 := by
  show IntKind.u64.wrap ((BitVec.ofInt 64 p ||| BitVec.ofInt 64 1).toNat : Int) = _
  have := nat_or_pow 0 p.toNat
  rw [Nat.pow_zero, Nat.div_one, if_neg (by omega)] at this
  rw [BitVec.toNat_or, ofInt_u64 h, ofInt_u64 (by omega), show (1 : Int).toNat = 1 from rfl, this, wrap_u64 (by omega)]
  omega

/-- k bits of a number, the greatest first. -/
def putB (v : Int) (k : Nat) : List Bool := (List.range k).map fun j => decide (v / 2 ^ (k - 1 - j) % 2 = 1)
theorem putB_take (v : Int) {k j : Nat} (h : j < k) : (putB v k).take (j + 1) = (putB v k).take j ++ [decide (v / 2 ^ (k - 1 - j) % 2 = 1)] := by
  rw [List.take_succ_eq_append_getElem (by simpa [putB] using h)]
  simp [putB]
theorem putB_length (v : Int) (k : Nat) : (putB v k).length = k := by simp [putB]

theorem bits_Writer_Put (p : Nat) (bs : List Bool) (v n : Int) (h : bs.length ≤ 2 ^ 39) (hv : 0 ≤ v ∧ v < 2 ^ 64) :
    Spc Tryd.prog 41 [.pointer (some ⟨p, 0, none⟩), .int .u64 v, .int .i64 n] [wr p bs] [] (fun u L => u = .tuple #[] ∧ L = [wr p (bs ++ putB v (clampN n))]) := by
  have hk := clampN_le n
  generalize hkk : clampN n = k at *
  refine Spc.intro Tryd.func41 rfl Tryd.ntmps41 (by kernel_rfl) rfl rfl fun w0 F0 => ?_
  refine Gx.seq_region ?_
  refine Rx.q rfl (.move rfl) ?_
  refine Rx.q rfl (.cal (caps := []) (bits_clamp n) rfl rfl) ?_
  rw [hkk]
  refine Rx.q rfl (.sub_ rfl rfl (by omega)) ?_
  refine Rx.q rfl (.assign rfl) ?_
  refine Rx.next ?_
  refine Gx.block ?_
  refine Gx.castL (L' := [wr p (bs ++ (putB v k).take 0)]) (by simp) ?_
  refine Gx.lp (α := Nat) (fun j => j ≤ k) (fun j => k - j) (fun j => [(0, .pointer (some ⟨p, 0, none⟩)), (1, .int .u64 v), (6, .int .i64 ((k : Int) - 1 - j))]) (fun j => [wr p (bs ++ (putB v k).take j)]) 0 (by omega) ?_ ?_
  · exact .cons rfl (.cons rfl (.cons (by simp [Env.get]) .nil))
  · intro j hj
    refine Gx.seq ?_
    refine Gx.seq_region ?_
    refine Rx.q rfl (.move rfl) ?_
    refine Rx.q rfl (.geq rfl rfl) ?_
    refine Rx.next ?_
    refine Gx.cond rfl (fun h => ?_) (fun h => ?_)
    · have h := of_decide_eq_true h
      refine Gx.skip fun a w hs => (then_normal (Gx.go hs ?_))
      refine Gx.seq ?_
      refine Gx.block ?_
      refine Gx.region ?_
      refine Rx.q rfl (.move rfl) ?_
      refine Rx.q rfl (.move rfl) ?_
      refine Rx.q rfl (.move rfl) ?_
      have hi : ((k : Int) - 1 - j).toNat = k - 1 - j := by omega
      have hd : 0 ≤ v / 2 ^ (k - 1 - j) ∧ v / 2 ^ (k - 1 - j) < 2 ^ 64 := by
        have hp : (0 : Int) < 2 ^ (k - 1 - j) := Int.pow_pos (by decide)
        exact ⟨Int.ediv_nonneg hv.1 (by omega), Int.lt_of_le_of_lt (Int.ediv_le_self _ hv.1) hv.2⟩
      refine Rx.q rfl ((OpQ.shr rfl rfl (by omega)).val (u := .int .u64 (v / 2 ^ (k - 1 - j))) (by
        rw [hi, show min (k - 1 - j) IntKind.u64.bits = k - 1 - j from Nat.min_eq_left (by have : IntKind.u64.bits = 64 := rfl; omega)])) ?_
      refine Rx.q rfl ((OpQ.and rfl rfl).val (u := .int .u64 (v / 2 ^ (k - 1 - j) % 2)) (by rw [and1_u64 hd])) ?_
      refine Rx.q rfl (.eql rfl rfl) ?_
      refine Rx.cal (caps := []) (bits_Writer_Bit p (bs ++ (putB v k).take j) _ (by simp [putB_length]; omega)) rfl rfl rfl ?_
      rintro u L1 ⟨rfl, rfl⟩
      rw [List.append_assoc, ← putB_take v (by omega)]
      refine Rx.nil fun a w hs => (blk_normal (then_normal (Gx.go hs ?_)))
      refine Gx.region ?_
      refine Rx.q rfl (.move rfl) ?_
      refine Rx.q rfl ((OpQ.sub_ rfl rfl (by omega)).val (u := .int .i64 ((k : Int) - 1 - (j + 1 : Nat))) (by congr 1; omega)) ?_
      refine Rx.q rfl (.assign rfl) ?_
      refine Rx.nil fun a w hs => (then_normal ⟨j + 1, by omega, by omega, hs.to (.cons rfl (.cons rfl (.cons rfl .nil)))⟩)
    · have h := of_decide_eq_false h
      have hjk : j = k := by omega
      subst hjk
      rw [List.take_of_length_le (by rw [putB_length]; exact Nat.le_refl _)]
      refine Gx.exit fun a w hs => (then_exit (then_exit (blk_exit (fin_end hs rfl ⟨rfl, rfl⟩))))

/-! ### Readers -/
/-- A reader at block p of these bytes: at this bit, so many past the end. -/
abbrev rdr (p : Nat) (l : List Int) (i over : Nat) : As := As.ex (fun v : Value => [pt p 117 [v, .int .i64 i, .int .i64 over], sl 5 1 v l.length (bytesV l)]) (fun _ => True)

section
variable {P : Program} {X : Cx} {E : List (Nat × Value)} {L L1 M : List As} {Q : Exit → Act → World → Prop} {a : Act} {w : World} {p : Nat} {l : List Int} {i over : Nat}
theorem rdr_opn {c : Code} [ht : TakeA L (rdr p l i over) L1] (h : ∀ v : Value, Gx P X c E (pt p 117 [v, .int .i64 i, .int .i64 over] :: sl 5 1 v l.length (bytesV l) :: L1) M Q) : Gx P X c E L M Q :=
  Gx.opn (ht := ht) fun v _ => h v
theorem rdr_shut (v : Value) [ht : PickA L [pt p 117 [v, .int .i64 i, .int .i64 over], sl 5 1 v l.length (bytesV l)] L1] (hs : St X E L M a w) : St X E (rdr p l i over :: L1) M a w := hs.shut v trivial (ht := ht)
end

def BytesOk (l : List Int) : Prop := ∀ x ∈ l, 0 ≤ x ∧ x < 256
theorem BytesOk.getD {l : List Int} (h : BytesOk l) (i : Nat) : 0 ≤ l.getD i 0 ∧ l.getD i 0 < 256 := by
  by_cases hi : i < l.length
  · simp only [List.getD, List.getElem?_eq_getElem hi, Option.getD_some]; exact h _ (List.getElem_mem hi)
  · simp only [List.getD, List.getElem?_eq_none (Nat.le_of_not_lt hi), Option.getD_none]; omega

theorem bits_New (v : Value) (l : List Int) (h : l.length ≤ 2 ^ 40) : Spc Tryd.prog 38 [v] [] [rd 1 v l.length (bytesV l)] (fun u L => ∃ p, u = .pointer (some ⟨p, 0, none⟩) ∧ L = [rdr p l 0 0]) := by
  refine Spc.intro Tryd.func38 rfl Tryd.ntmps38 (by kernel_rfl) rfl rfl fun w0 F0 => ?_
  refine Gx.seq_region ?_
  refine Rx.q rfl (.assign rfl) ?_
  refine Rx.next ?_
  refine Gx.seq_region ?_
  refine Rx.q rfl (.move rfl) ?_
  refine Rx.cal (caps := []) (slices_Clone_byte v 0 l.length (bytesV l) (one_bytes _) (by simp) (by omega)) rfl rfl rfl ?_
  rintro u L1 ⟨u', rfl, rfl⟩
  refine Rx.one u fun hu => ?_
  refine Rx.q rfl (.build (cs := [u, .int .i64 ((0 : Nat) : Int), .int .i64 ((0 : Nat) : Int)]) rfl (by
    cases u <;> first | rfl | exact Bool.noConfusion hu)) ?_
  refine Rx.box (vs := [u, .int .i64 ((0 : Nat) : Int), .int .i64 ((0 : Nat) : Int)]) rfl rfl rfl fun b6 => ?_
  refine Rx.q rfl (.assign rfl) ?_
  refine Rx.next ?_
  refine Gx.ret fun a w hs => (fin_tmp (rdr_shut (p := b6) (l := l) (i := 0) (over := 0) u hs) rfl rfl ⟨_, rfl, rfl⟩)

theorem bits_Reader_Bit (p : Nat) (l : List Int) (i over : Nat) (hl : BytesOk l) (h : l.length ≤ 2 ^ 40 ∧ i ≤ 2 ^ 60 ∧ over ≤ 2 ^ 60) :
    Spc Tryd.prog 72 [.pointer (some ⟨p, 0, none⟩)] [rdr p l i over] []
      (fun u L => u = .bool (bitOf l i) ∧ L = [rdr p l (i + 1) (over + if 8 * l.length ≤ i then 1 else 0)]) := by
  refine Spc.intro Tryd.func72 rfl Tryd.ntmps72 (by kernel_rfl) rfl rfl fun w0 F0 => ?_
  refine rdr_opn (p := p) (l := l) (i := i) (over := over) fun v => ?_
  refine Gx.seq_region ?_
  refine Rx.q rfl (.assign rfl) ?_
  refine Rx.next ?_
  refine Gx.seq ?_
  refine Gx.seq_region ?_
  refine Rx.q rfl (.move rfl) ?_
  refine Rx.q rfl (.eqnil_s rfl) ?_
  refine Rx.next ?_
  refine Gx.cond_f rfl ?_
  refine Gx.skip fun a w hs => (then_normal (Gx.go hs ?_))
  refine Gx.seq_region ?_
  refine Rx.q rfl (.move rfl) ?_
  refine Rx.q rfl (.nilCheck rfl) ?_
  refine Rx.q rfl (.fieldAddr rfl) ?_
  refine Rx.q rfl (.ld rfl rfl) ?_
  refine Rx.q rfl (.assign rfl) ?_
  refine Rx.next ?_
  refine Gx.seq_region ?_
  refine Rx.q rfl (.move rfl) ?_
  refine Rx.q rfl (.nilCheck rfl) ?_
  refine Rx.q rfl (.fieldAddr rfl) ?_
  refine Rx.q rfl (.ld rfl rfl) ?_
  refine Rx.q rfl ((OpQ.add_ rfl rfl (by omega)).val (u := .int .i64 (i + 1 : Nat)) (by simp)) ?_
  refine Rx.q rfl (.nilCheck rfl) ?_
  refine Rx.q rfl (.fieldAddr rfl) ?_
  refine Rx.st rfl rfl rfl ?_
  refine Rx.next ?_
  refine Gx.seq ?_
  refine Gx.seq_region ?_
  refine Rx.q rfl (.move rfl) ?_
  refine Rx.q rfl (.move rfl) ?_
  refine Rx.q rfl (.nilCheck rfl) ?_
  refine Rx.q rfl (.fieldAddr rfl) ?_
  refine Rx.q rfl (.ld rfl rfl) ?_
  refine Rx.q rfl (.lens rfl) ?_
  refine Rx.q rfl (.mul_ rfl rfl (by omega)) ?_
  refine Rx.q rfl (.geq rfl rfl) ?_
  refine Rx.next ?_
  refine Gx.cond rfl (fun h => ?_) (fun h => ?_)
  · have h := of_decide_eq_true h
    have hb : bitOf l i = false := by
      have : l[i / 8]? = none := List.getElem?_eq_none (by omega)
      simp [bitOf, List.getD, this]
    refine Gx.seq_region ?_
    refine Rx.q rfl (.move rfl) ?_
    refine Rx.q rfl (.nilCheck rfl) ?_
    refine Rx.q rfl (.fieldAddr rfl) ?_
    refine Rx.q rfl (.ld rfl rfl) ?_
    refine Rx.q rfl ((OpQ.add_ rfl rfl (by omega)).val (u := .int .i64 (over + 1 : Nat)) (by simp)) ?_
    refine Rx.q rfl (.nilCheck rfl) ?_
    refine Rx.q rfl (.fieldAddr rfl) ?_
    refine Rx.st rfl rfl rfl ?_
    refine Rx.next ?_
    refine Gx.seq_region ?_
    refine Rx.q rfl (.assign rfl) ?_
    refine Rx.next ?_
    rw [hb, if_pos (show 8 * l.length ≤ i by omega)]
    refine Gx.ret fun a w hs => (then_ret (fin_tmp (rdr_shut (p := p) (l := l) (i := i + 1) (over := over + 1) v hs) rfl rfl ⟨rfl, rfl⟩))
  · have h := of_decide_eq_false h
    have hi : i / 8 < l.length := by omega
    have hlr := hl.getD (i / 8)
    refine Gx.skip fun a w hs => (then_normal (Gx.go hs ?_))
    refine Gx.seq_region ?_
    refine Rx.q rfl (.move rfl) ?_
    refine Rx.q rfl (.nilCheck rfl) ?_
    refine Rx.q rfl (.fieldAddr rfl) ?_
    refine Rx.q rfl (.ld rfl rfl) ?_
    refine Rx.q rfl (.move rfl) ?_
    refine Rx.q rfl (.quo_ rfl rfl (by omega)) ?_
    refine Rx.q rfl (.idx (j := i / 8) rfl rfl (by omega) (by omega)) ?_
    refine Rx.q rfl (.ldi rfl rfl hi) ?_
    refine Rx.q rfl (.move rfl) ?_
    refine Rx.q rfl (.rem_ rfl rfl (by omega)) ?_
    refine Rx.q rfl ((OpQ.shl rfl rfl (by omega)).val (u := .int .u8 (IntKind.u8.wrap (l.getD (i / 8) 0 * 2 ^ (i % 8)))) (by
      rw [show min ((i : Int) % 8).toNat IntKind.u8.bits = i % 8 by have : IntKind.u8.bits = 8 := rfl; omega])) ?_
    refine Rx.q rfl (.and rfl rfl) ?_
    refine Rx.q rfl ((OpQ.neq rfl rfl).val (u := .bool (bitOf l i)) (by
      unfold bitOf
      congr 1
      exact decide_eq_decide.2 (bit_u8 (i % 8) hlr (Nat.mod_lt _ (by omega))))) ?_
    refine Rx.q rfl (.assign rfl) ?_
    refine Rx.next ?_
    rw [if_neg (show ¬ 8 * l.length ≤ i by omega)]
    refine Gx.ret fun a w hs => (fin_tmp (rdr_shut (p := p) (l := l) (i := i + 1) (over := over + 0) v hs) rfl rfl ⟨rfl, rfl⟩)

/-- The number that k bits from i on tell. -/
def getV (l : List Int) (i : Nat) : Nat → Int
  | 0 => 0
  | k + 1 => getV l i k * 2 + if bitOf l (i + k) then 1 else 0
def ovr (l : List Int) (i k : Nat) : Nat := (i + k - 8 * l.length) - (i - 8 * l.length)
theorem getV_range (l : List Int) (i k : Nat) : 0 ≤ getV l i k ∧ getV l i k < 2 ^ k := by
  induction k with
  | zero => simp [getV]
  | succ k ih =>
    have e : (2 : Int) ^ (k + 1) = 2 ^ k * 2 := Int.pow_succ ..
    rw [e]; unfold getV; split <;> omega
end Go.Proofs.YtoiebfpafdcbmaaDoor
