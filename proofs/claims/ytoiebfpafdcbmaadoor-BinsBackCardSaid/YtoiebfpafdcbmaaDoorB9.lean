/- Contracts of layer arith: the encoder's bytes. -/
import Derived.Test.YtoiebfpafdcbmaaDoorB8
namespace Go.Proofs.YtoiebfpafdcbmaaDoor
open Go Go.RowKit K
set_option linter.unusedVariables false
set_option linter.unusedSimpArgs false

theorem putB_byte (bs : List Bool) (j : Nat) (hj : 8 * j < bs.length) : putB (byteAt bs j / 2 ^ (8 - min 8 (bs.length - 8 * j))) (min 8 (bs.length - 8 * j)) = (bs.drop (8 * j)).take 8 := by
  generalize hr : min 8 (bs.length - 8 * j) = r
  apply List.ext_getElem
  · simp [putB]; omega
  · intro i h1 h2
    have hi : i < r := by simpa [putB] using h1
    have hb := bitOf_pack bs (8 * j + i)
    unfold bitOf at hb
    rw [show (8 * j + i) / 8 = j by omega, show 7 - (8 * j + i) % 8 = 7 - i by omega] at hb
    have hp : (pack bs).getD j 0 = byteAt bs j := by
      have : j < (bs.length + 7) / 8 := by omega
      simp [pack, List.getD, this]
    rw [hp] at hb
    have hd : byteAt bs j / 2 ^ (8 - r) / 2 ^ (r - 1 - i) = byteAt bs j / 2 ^ (7 - i) := by
      rw [Int.ediv_ediv_of_nonneg (Int.pow_nonneg (by decide)), ← Int.pow_add, show 8 - r + (r - 1 - i) = 7 - i by omega]
    simp only [putB, List.getElem_map, List.getElem_range, List.getElem_take, List.getElem_drop, hd, hb]
    have hlt : 8 * j + i < bs.length := by omega
    simp [List.getD, hlt]

/-- The number within the span that is told at the end. -/
def EncS.last (e : EncS) : Int := (e.low + 16383) / 16384 * 16384
def EncS.fin (e : EncS) : List Bool := e.out ++ topB e.last :: List.replicate e.owed (!topB e.last) ++ [midB e.last]
def EncS.cut (e : EncS) : Nat := trimN 0 (pack e.fin) (pack e.fin).length
def EncS.bytes (e : EncS) : List Int := (pack e.fin).take e.cut
theorem EncS.bytes_length (e : EncS) : e.bytes.length = e.cut := by
  unfold EncS.bytes
  rw [List.length_take]
  exact Nat.min_eq_left (trimN_le _ _ _)

theorem take_add_eight (bs : List Bool) (j : Nat) : bs.take (8 * j) ++ (bs.drop (8 * j)).take 8 = bs.take (8 * (j + 1)) := by
  rw [Nat.mul_add, List.take_add]

theorem arith_Encoder_Bytes (p : Nat) (e : EncS) (h : EncOk e) (hn : e.n ≤ 2 ^ 30) :
    Spc Tryd.prog 12 [.pointer (some ⟨p, 0, none⟩)] [] [enc p e] (fun u L => ∃ u', u = u' ∧ L = [sl 5 1 u' e.bytes.length (bytesV e.bytes)]) := by
  obtain ⟨h1, h2, h3, h4, h5⟩ := id h
  refine Spc.intro Tryd.func12 rfl Tryd.ntmps12 (by kernel_rfl) rfl rfl fun w0 F0 => ?_
  refine enc_opnM (p := p) (e := e) fun v q hv => ?_
  refine Gx.seq_region ?_
  refine Rx.q rfl (.assign rfl) ?_
  refine Rx.next ?_
  refine Gx.seq ?_
  refine Gx.seq_region ?_
  refine Rx.q rfl (.move rfl) ?_
  refine Rx.q rfl (.eqnil_s rfl) ?_
  refine Rx.next ?_
  refine Gx.cond_f rfl ?_
  refine Gx.skip fun a w hs => (then_normal (Gx.go hs ?_))
  refine Gx.seq_region ?_
  refine Rx.q rfl (.build (cs := [.slice none 0 0, .int .i64 0]) rfl (by rfl)) ?_
  refine Rx.box (vs := [.slice none 0 0, .int .i64 0]) rfl rfl rfl fun b10 => ?_
  refine Rx.q rfl (.assign rfl) ?_
  refine Rx.next ?_
  refine Gx.nilS (e := 5) (sz := 1) ?_
  refine Gx.castL (L' := [sl 5 1 (.slice none 0 0) (pack (e.out.take (8 * 0))).length (bytesV (pack (e.out.take (8 * 0)))), pt b10 75 [.slice none 0 0, .int .i64 ((e.out.take (8 * 0)).length : Nat)]]) (by
    rw [show e.out.take (8 * 0) = [] from rfl, List.eq_nil_of_length_eq_zero (show (pack []).length = 0 by rw [pack_length]; simp)]; rfl) ?_
  refine Gx.shut (f := fun v : Value => [pt b10 75 [v, .int .i64 (e.out.take (8 * 0)).length], sl 5 1 v (pack (e.out.take (8 * 0))).length (bytesV (pack (e.out.take (8 * 0))))]) (φ := fun _ => True) (.slice none 0 0) trivial ?_
  refine Gx.seq ?_
  refine Gx.seq_region ?_
  refine Rx.q rfl (.move rfl) ?_
  refine Rx.q rfl (.nilCheck rfl) ?_
  refine Rx.q rfl (.fieldAddr rfl) ?_
  refine Rx.q rfl (.ld rfl rfl) ?_
  refine Rx.cal (caps := []) (bits_Writer_Bytes q e.out (by omega)) rfl rfl rfl ?_
  rintro u L1 ⟨u', rfl, rfl⟩
  refine Rx.q rfl (.lens rfl) ?_
  refine Rx.q rfl (.move rfl) ?_
  refine Rx.next ?_
  refine Gx.block ?_
  have hpl := pack_length e.out
  refine Gx.lp (α := Nat) (fun j => j ≤ (pack e.out).length) (fun j => (pack e.out).length - j) (fun j => [(0, .pointer (some ⟨p, 0, none⟩)), (3, .pointer (some ⟨b10, 0, none⟩)), (15, u), (16, .int .i64 (pack e.out).length), (17, .int .i64 j)])
    (fun j => [wr b10 (e.out.take (8 * j)), sl 5 1 u (pack e.out).length (bytesV (pack e.out))]) 0 (by omega) ?_ (fun j hj => ?_)
  · exact .cons rfl (.cons rfl (.cons rfl (.cons rfl (.cons rfl .nil))))
  refine Gx.seq_region ?_
  refine Rx.q rfl (.lss rfl rfl) ?_
  refine Rx.next ?_
  refine Gx.seq ?_
  refine Gx.cond rfl (fun h => ?_) (fun h => ?_)
  · have h := of_decide_eq_true h
    have hj8 : 8 * j < e.out.length := by omega
    have hbr := byteAt_range e.out j
    refine Gx.skip fun a w hs => (then_normal (Gx.go hs ?_))
    refine Gx.seq ?_
    refine Gx.block ?_
    refine Gx.seq_region ?_
    refine Rx.q rfl (.move rfl) ?_
    refine Rx.q rfl (.idx (j := j) rfl rfl (by omega) (by omega)) ?_
    refine Rx.q rfl ((OpQ.ldi (l := pack e.out) rfl rfl (by omega)).val (u := .int .u8 (byteAt e.out j)) (by
      have : j < (e.out.length + 7) / 8 := by omega
      simp [pack, List.getD, this])) ?_
    refine Rx.q rfl (.assign rfl) ?_
    refine Rx.q rfl (.assign rfl) ?_
    refine Rx.next ?_
    refine Gx.region_tail 23 mixed (by kernel_rfl) ?_
    refine Dx.q rfl (.move rfl) ?_
    refine Dx.q rfl (.move rfl) ?_
    refine Dx.q rfl (.move rfl) ?_
    refine Dx.q rfl (.add_ rfl rfl (by omega)) ?_
    refine Dx.q rfl (.mul_ rfl rfl (by omega)) ?_
    refine Dx.q rfl (.move rfl) ?_
    refine Dx.q rfl (.nilCheck rfl) ?_
    refine Dx.q rfl (.fieldAddr rfl) ?_
    refine Dx.q rfl (.ld rfl rfl) ?_
    refine Dx.q rfl (.cal (caps := []) (bits_Writer_Len q e.out) rfl rfl) ?_
    refine Dx.q rfl (.sub_ rfl rfl (by omega)) ?_
    refine Dx.q rfl ((OpQ.max rfl rfl).val (u := .int .i64 (8 - min 8 (e.out.length - 8 * j) : Nat)) (by congr 1; split <;> omega)) ?_
    refine Dx.q rfl ((OpQ.shr rfl rfl (by omega)).val (u := .int .u8 (byteAt e.out j / 2 ^ (8 - min 8 (e.out.length - 8 * j)))) (by
      rw [Int.toNat_natCast, show min (8 - min 8 (e.out.length - 8 * j)) IntKind.u8.bits = 8 - min 8 (e.out.length - 8 * j) from Nat.min_eq_left (by have : IntKind.u8.bits = 8 := rfl; omega)])) ?_
    have hd : 0 ≤ byteAt e.out j / 2 ^ (8 - min 8 (e.out.length - 8 * j)) ∧ byteAt e.out j / 2 ^ (8 - min 8 (e.out.length - 8 * j)) < 256 := by
      have hp : (0 : Int) < 2 ^ (8 - min 8 (e.out.length - 8 * j)) := Int.pow_pos (by decide)
      exact ⟨Int.ediv_nonneg hbr.1 (by omega), Int.lt_of_le_of_lt (Int.ediv_le_self _ hbr.1) hbr.2⟩
    refine Dx.q rfl ((OpQ.convert rfl).val (u := .int .u64 (byteAt e.out j / 2 ^ (8 - min 8 (e.out.length - 8 * j)))) (by congr 1; exact wrap_u64 (by omega))) ?_
    refine Dx.q rfl (.move rfl) ?_
    refine Dx.q rfl (.nilCheck rfl) ?_
    refine Dx.q rfl (.fieldAddr rfl) ?_
    refine Dx.q rfl (.ld rfl rfl) ?_
    refine Dx.q rfl (.cal (caps := []) (bits_Writer_Len q e.out) rfl rfl) ?_
    refine Dx.q rfl (.move rfl) ?_
    refine Dx.q rfl (.mul_ rfl rfl (by omega)) ?_
    refine Dx.q rfl (.sub_ rfl rfl (by omega)) ?_
    refine Dx.q rfl ((OpQ.min rfl rfl).val (u := .int .i64 (min 8 (e.out.length - 8 * j) : Nat)) (by congr 1; split <;> omega)) ?_
    refine Dx.tail ?_
    refine Rx.cal (caps := []) (bits_Writer_Put b10 (e.out.take (8 * j)) _ (min 8 (e.out.length - 8 * j) : Nat) (by simp; omega) (by omega)) rfl rfl rfl ?_
    rintro u L1 ⟨rfl, rfl⟩
    have hcl : clampN ((min 8 (e.out.length - 8 * j) : Nat) : Int) = min 8 (e.out.length - 8 * j) := by unfold clampN; omega
    rw [hcl, putB_byte e.out j hj8, take_add_eight]
    refine Rx.nil fun a w hs => (blk_normal (then_normal (Gx.go hs ?_)))
    refine Gx.region ?_
    refine Rx.q rfl ((OpQ.add_ rfl rfl (by omega)).val (u := .int .i64 (j + 1 : Nat)) (by simp)) ?_
    refine Rx.q rfl (.move rfl) ?_
    refine Rx.nil fun a w hs => (then_normal ⟨j + 1, by omega, by omega, hs.to (.cons rfl (.cons rfl (.cons rfl (.cons rfl (.cons rfl .nil)))))⟩)
  · have h := of_decide_eq_false h
    have hjn : e.out.take (8 * j) = e.out := List.take_of_length_le (by omega)
    rw [hjn]
    have hlast : e.last = (e.low + 16383) / 16384 * 16384 := rfl
    refine Gx.exit fun a w hs => (then_exit (then_exit (blk_exit (then_normal (Gx.go hs ?_)))))
    refine Gx.seq_region ?_
    refine Rx.q rfl (.move rfl) ?_
    refine Rx.q rfl (.nilCheck rfl) ?_
    refine Rx.q rfl (.fieldAddr rfl) ?_
    refine Rx.q rfl (.fieldAddr rfl) ?_
    refine Rx.q rfl (.ld rfl rfl) ?_
    refine Rx.q rfl (.add_ rfl rfl (by omega)) ?_
    refine Rx.q rfl ((OpQ.sub_ rfl rfl (by omega)).val (u := .int .i64 (e.low + 16383)) (by congr 1; omega)) ?_
    refine Rx.q rfl (.quo_ rfl rfl (by omega)) ?_
    refine Rx.q rfl ((OpQ.mul_ rfl rfl (by omega)).val (u := .int .i64 e.last) rfl) ?_
    refine Rx.q rfl (.assign rfl) ?_
    refine Rx.next ?_
    refine Gx.seq_region ?_
    refine Rx.q rfl (.move rfl) ?_
    refine Rx.q rfl (.move rfl) ?_
    refine Rx.q rfl (.and rfl rfl) ?_
    refine Rx.q rfl ((OpQ.neq rfl rfl).val (u := .bool (topB e.last)) (neq_bit 15 (by omega) (by omega))) ?_
    refine Rx.q rfl (.move rfl) ?_
    refine Rx.q rfl (.nilCheck rfl) ?_
    refine Rx.q rfl (.fieldAddr rfl) ?_
    refine Rx.q rfl (.ld rfl rfl) ?_
    refine Rx.cal (caps := []) (arith_write b10 e.out (topB e.last) e.owed (by omega)) rfl rfl rfl ?_
    rintro u L1 ⟨rfl, rfl⟩
    refine Rx.next ?_
    refine Gx.seq_region ?_
    refine Rx.q rfl (.move rfl) ?_
    refine Rx.q rfl (.move rfl) ?_
    refine Rx.q rfl (.and rfl rfl) ?_
    refine Rx.q rfl ((OpQ.neq rfl rfl).val (u := .bool (midB e.last)) (neq_bit 14 (by omega) (by omega))) ?_
    refine Rx.cal (caps := []) (bits_Writer_Bit b10 (e.out ++ topB e.last :: List.replicate e.owed (!topB e.last)) (midB e.last) (by simp; omega)) rfl rfl rfl ?_
    rintro u L1 ⟨rfl, rfl⟩
    have hfl : e.fin.length ≤ 2 ^ 40 := by simp [EncS.fin]; omega
    refine Rx.castL (L' := [wr b10 e.fin, sl 5 1 u (pack e.out).length (bytesV (pack e.out))]) rfl ?_
    refine Rx.next ?_
    refine Gx.seq_region ?_
    refine Rx.q rfl (.move rfl) ?_
    refine Rx.cal (caps := []) (bits_Writer_Bytes b10 e.fin hfl) rfl rfl rfl ?_
    rintro u L1 ⟨u2, rfl, rfl⟩
    have hpf := pack_length e.fin
    refine Rx.q rfl (.cal (caps := []) (bytes_TrimRight u (pack e.fin) (by omega)) rfl rfl) ?_
    have hcut : e.cut ≤ (pack e.fin).length := trimN_le _ _ _
    refine Rx.conv (A := sl 5 1 u (pack e.fin).length (bytesV (pack e.fin))) (B := sl 5 1 (subV u 0 e.cut 1) e.bytes.length (bytesV e.bytes)) (fun w F hp => by
      have := sl_prefix hcut w F hp
      rw [EncS.bytes_length, EncS.bytes, bytesV, List.map_take]
      simpa using this) ?_
    refine Rx.cal (caps := []) (slices_Clone_byte (subV u 0 e.cut 1) 0 e.bytes.length (bytesV e.bytes) (one_bytes _) (by simp) (by rw [EncS.bytes_length]; omega)) rfl rfl rfl ?_
    rintro u L1 ⟨u3, rfl, rfl⟩
    refine Rx.q rfl (.assign rfl) ?_
    refine Rx.next ?_
    refine Gx.ret fun a w hs => (fin_tmp hs rfl rfl ⟨_, rfl, rfl⟩)
end Go.Proofs.YtoiebfpafdcbmaaDoor
