/- Contracts: several bits of a reader; what stands at the end is trimmed; numbers are copied. -/
import Derived.Test.YtoiebfpafdcbmaaDoorB5
namespace Go.Proofs.YtoiebfpafdcbmaaDoor
open Go Go.RowKit K
set_option linter.unusedVariables false
set_option linter.unusedSimpArgs false

theorem ovr_zero (l : List Int) (i : Nat) : ovr l i 0 = 0 := by unfold ovr; omega
theorem ovr_succ (l : List Int) (i k : Nat) : ovr l i k + (if 8 * l.length ≤ i + k then 1 else 0) = ovr l i (k + 1) := by unfold ovr; split <;> omega
theorem ovr_le (l : List Int) (i k : Nat) : ovr l i k ≤ k := by unfold ovr; omega

theorem bits_Reader_Get (p : Nat) (l : List Int) (i over : Nat) (n : Int) (hl : BytesOk l) (h : l.length ≤ 2 ^ 40 ∧ i ≤ 2 ^ 59 ∧ over ≤ 2 ^ 59) :
    Spc Tryd.prog 39 [.pointer (some ⟨p, 0, none⟩), .int .i64 n] [rdr p l i over] []
      (fun u L => u = .int .u64 (getV l i (clampN n)) ∧ L = [rdr p l (i + clampN n) (over + ovr l i (clampN n))]) := by
  have hk := clampN_le n
  generalize hkk : clampN n = k at *
  refine Spc.intro Tryd.func39 rfl Tryd.ntmps39 (by kernel_rfl) rfl rfl fun w0 F0 => ?_
  refine Gx.seq_region ?_
  refine Rx.q rfl (.assign rfl) ?_
  refine Rx.next ?_
  refine Gx.seq_region ?_
  refine Rx.q rfl (.assign rfl) ?_
  refine Rx.next ?_
  refine Gx.seq ?_
  refine Gx.seq_region ?_
  refine Rx.q rfl (.move rfl) ?_
  refine Rx.q rfl (.cal (caps := []) (bits_clamp n) rfl rfl) ?_
  rw [hkk]
  refine Rx.q rfl (.move rfl) ?_
  refine Rx.next ?_
  refine Gx.block ?_
  refine Gx.castL (L' := [rdr p l (i + 0) (over + ovr l i 0)]) (by rw [ovr_zero]; rfl) ?_
  refine Gx.lp (α := Nat) (fun j => j ≤ k) (fun j => k - j) (fun j => [(0, .pointer (some ⟨p, 0, none⟩)), (5, .int .u64 (getV l i j)), (7, .int .i64 k), (8, .int .i64 j)]) (fun j => [rdr p l (i + j) (over + ovr l i j)]) 0 (by omega) ?_ ?_
  · exact .cons rfl (.cons rfl (.cons rfl (.cons rfl .nil)))
  intro j hj
  have ho := ovr_le l i j
  have hg := getV_range l i j
  refine Gx.seq_region ?_
  refine Rx.q rfl (.lss rfl rfl) ?_
  refine Rx.next ?_
  refine Gx.seq ?_
  refine Gx.cond rfl (fun h => ?_) (fun h => ?_)
  · have h := of_decide_eq_true h
    have hjk : j < k := by omega
    have hp : (2 : Int) ^ j * 2 ≤ 2 ^ 64 := by
      rw [← Int.pow_succ]
      have : (2 : Nat) ^ (j + 1) ≤ 2 ^ 64 := Nat.pow_le_pow_right (by decide) (by omega)
      exact_mod_cast this
    refine Gx.skip fun a w hs => (then_normal (Gx.go hs ?_))
    refine Gx.seq ?_
    refine Gx.block ?_
    refine Gx.seq_region ?_
    refine Rx.q rfl (.move rfl) ?_
    refine Rx.q rfl ((OpQ.shl rfl rfl (by omega)).val (u := .int .u64 (getV l i j * 2)) (by
      congr 1
      rw [show min (1 : Int).toNat IntKind.u64.bits = 1 from rfl, show (2 : Int) ^ 1 = 2 from rfl]
      exact wrap_u64 (by omega))) ?_
    refine Rx.q rfl (.assign rfl) ?_
    refine Rx.next ?_
    refine Gx.seq_region ?_
    refine Rx.q rfl (.move rfl) ?_
    refine Rx.cal (caps := []) (bits_Reader_Bit p l (i + j) (over + ovr l i j) hl (by omega)) rfl rfl rfl ?_
    rintro u L1 ⟨rfl, rfl⟩
    refine Rx.castL (L' := [rdr p l (i + (j + 1)) (over + ovr l i (j + 1))]) (by rw [List.append_nil, Nat.add_assoc, Nat.add_assoc, ovr_succ]) ?_
    refine Rx.next ?_
    refine Gx.cond rfl (fun h => ?_) (fun h => ?_)
    · refine Gx.region ?_
      refine Rx.q rfl (.move rfl) ?_
      refine Rx.q rfl ((OpQ.or rfl rfl).val (u := .int .u64 (getV l i (j + 1))) (by
        congr 1
        rw [or1_u64 (by omega) (by omega)]
        simp [getV, h])) ?_
      refine Rx.q rfl (.assign rfl) ?_
      refine Rx.nil fun a w hs => (blk_normal (then_normal (Gx.go hs ?_)))
      refine Gx.region ?_
      refine Rx.q rfl ((OpQ.add_ rfl rfl (by omega)).val (u := .int .i64 (j + 1 : Nat)) (by simp)) ?_
      refine Rx.q rfl (.move rfl) ?_
      refine Rx.nil fun a w hs => (then_normal ⟨j + 1, by omega, by omega, hs.to (.cons rfl (.cons rfl (.cons rfl (.cons rfl .nil))))⟩)
    · refine Gx.skip fun a w hs => (blk_normal (then_normal (Gx.go hs ?_)))
      refine Gx.region ?_
      refine Rx.q rfl ((OpQ.add_ rfl rfl (by omega)).val (u := .int .i64 (j + 1 : Nat)) (by simp)) ?_
      refine Rx.q rfl (.move rfl) ?_
      refine Rx.nil fun a w hs => (then_normal ⟨j + 1, by omega, by omega, hs.to (.cons rfl (.cons (show some (Value.int .u64 (getV l i j * 2)) = some (.int .u64 (getV l i (j + 1))) by simp [getV, h]) (.cons rfl (.cons rfl .nil))))⟩)
  · have h := of_decide_eq_false h
    have hjk : j = k := by omega
    subst hjk
    refine Gx.exit fun a w hs => (then_exit (then_exit (blk_exit (then_normal (Gx.go hs ?_)))))
    refine Gx.seq_region ?_
    refine Rx.q rfl (.move rfl) ?_
    refine Rx.q rfl (.assign rfl) ?_
    refine Rx.next ?_
    refine Gx.ret fun a w hs => (fin_tmp hs rfl rfl ⟨rfl, rfl⟩)

/-! ### Trimming -/
/-- How many are left if what is c is trimmed from the end. -/
def trimN (c : Int) (l : List Int) : Nat → Nat
  | 0 => 0
  | m + 1 => if l.getD m 0 = c then trimN c l m else m + 1
theorem trimN_le (c : Int) (l : List Int) : ∀ m, trimN c l m ≤ m
  | 0 => Nat.le_refl _
  | m + 1 => by unfold trimN; have := trimN_le c l m; split <;> omega
theorem trimN_spec (c : Int) (l : List Int) : ∀ m i, trimN c l m ≤ i → i < m → l.getD i 0 = c
  | 0, _, _, h => absurd h (Nat.not_lt_zero _)
  | m + 1, i, h, hi => by
    unfold trimN at h
    split at h
    · rename_i hc
      by_cases e : i = m
      · subst e; exact hc
      · exact trimN_spec c l m i h (by omega)
    · omega
theorem subV_subV (v : Value) (a b sz : Nat) : subV (subV v 0 a sz) 0 b sz = subV v 0 b sz := by
  cases v with
  | slice ad n c =>
    simp only [subV, Nat.zero_mul, Nat.sub_zero]
    by_cases hc : c = 0
    · simp [hc]
    · rw [if_neg hc, if_neg hc]
      cases ad with
      | none => rfl
      | some a => simp [Addr.add, Nat.zero_add]
  | _ => rfl
theorem subV_self {A : As} {v : Value} {n sz : Nat} {xs : List Value} (hA : Reads A v n xs) (w : World) (F : Nat → Prop) (h : A.P w F) : subV v 0 n sz = v := by
  obtain ⟨a, c, rfl, _⟩ := hA.cap w F h
  simp only [subV, Nat.zero_mul, Nat.sub_zero]
  split
  · rfl
  · cases a <;> simp [Addr.add]
theorem rd_pre {sz n h : Nat} {v : Value} {xs : List Value} (hh : h ≤ n) (w : World) (F : Nat → Prop) (hp : (rd sz v n xs).P w F) : ∃ G, (rd sz (subV v 0 h sz) h (xs.take (h * sz))).P w G ∧ ∀ b, G b → F b := by
  have := rd_sub (l := 0) ⟨Nat.zero_le _, hh⟩ w F hp
  simpa using this

theorem bytes_trimRightByte (v : Value) (l : List Int) (c : Int) (h : l.length ≤ 2 ^ 60) : Spc Tryd.prog 73 [v, .int .u8 c] [] [rd 1 v l.length (bytesV l)] (ret (subV v 0 (trimN c l l.length) 1)) := by
  refine Spc.intro Tryd.func73 rfl Tryd.ntmps73 (by kernel_rfl) rfl rfl fun w0 F0 => ?_
  refine Gx.know (.shr .here) (φ := subV v 0 l.length 1 = v) (fun w F hp => subV_self reads_rd w F hp) (fun hv => ?_)
  refine Gx.seq_region ?_
  refine Rx.q rfl (.assign rfl) ?_
  refine Rx.next ?_
  refine Gx.seq ?_
  refine Gx.block ?_
  refine Gx.lp (α := Nat) (fun m => m ≤ l.length ∧ trimN c l l.length = trimN c l m) (fun m => m) (fun m => [(0, subV v 0 m 1), (1, .int .u8 c)]) (fun m => []) l.length ⟨Nat.le_refl _, rfl⟩ ?_ (fun m hm => ?_)
  · exact .cons (by rw [hv]; rfl) (.cons rfl .nil)
  refine Gx.derive (A := rd 1 v l.length (bytesV l)) .here (rd_pre hm.1) ?_
  rw [Nat.mul_one, ← List.map_take]
  have hlen : (l.take m).length = m := by rw [List.length_take]; omega
  refine Gx.seq ?_
  refine Gx.seq_region ?_
  refine Rx.q rfl (.move rfl) ?_
  refine Rx.q rfl (.lens rfl) ?_
  refine Rx.q rfl (.gtr rfl rfl) ?_
  refine Rx.q rfl (.move rfl) ?_
  refine Rx.split 8 rfl (fun h8 => ?_) (fun h8 => ?_)
  · have h8 := of_decide_eq_true h8
    refine Rx.guard_yes rfl rfl rfl (Rx.q rfl (.move rfl) ?_)
    refine Rx.guard_yes rfl rfl rfl (Rx.q rfl (.move rfl) ?_)
    refine Rx.guard_yes rfl rfl rfl (Rx.q rfl (.lens rfl) ?_)
    refine Rx.guard_yes rfl rfl rfl (Rx.q rfl (.sub_ rfl rfl (by omega)) ?_)
    refine Rx.guard_yes rfl rfl rfl (Rx.q rfl (.idx (j := m - 1) rfl rfl (by omega) (by omega)) ?_)
    refine Rx.guard_yes rfl rfl rfl (Rx.q rfl ((OpQ.ldi rfl rfl (by omega)).val (u := .int .u8 (l.getD (m - 1) 0)) (by
      simp [List.getD, List.getElem?_take, show m - 1 < m by omega])) ?_)
    refine Rx.guard_yes rfl rfl rfl (Rx.q rfl (.move rfl) ?_)
    refine Rx.guard_yes rfl rfl rfl (Rx.q rfl (.eql rfl rfl) ?_)
    refine Rx.q rfl (.pick_t rfl rfl) ?_
    refine Rx.next ?_
    obtain ⟨m, rfl⟩ : ∃ k, m = k + 1 := ⟨m - 1, by omega⟩
    simp only [Nat.add_sub_cancel] at *
    refine Gx.cond rfl (fun h => ?_) (fun h => ?_)
    · have h := of_decide_eq_true h
      refine Gx.skip fun a w hs => (then_normal (Gx.go hs ?_))
      refine Gx.block ?_
      refine Gx.region ?_
      refine Rx.q rfl (.move rfl) ?_
      refine Rx.q rfl (.move rfl) ?_
      refine Rx.q rfl (.lens rfl) ?_
      refine Rx.q rfl (.sub_ rfl rfl (by omega)) ?_
      refine Rx.q rfl ((OpQ.sub_h (h := m) rfl rfl (by omega) (by omega)).val (subV_subV v (m + 1) m 1)) ?_
      refine Rx.q rfl (.assign rfl) ?_
      refine Rx.nil fun a w hs => (blk_normal (then_normal ⟨m, ⟨by omega, by rw [hm.2]; simp only [trimN]; rw [if_pos h]⟩, by omega, (hs.dropM (fun A hA => List.mem_cons_of_mem _ hA)).to (.cons rfl (.cons rfl .nil))⟩))
    · have h := of_decide_eq_false h
      refine Gx.exit fun a w hs => (then_exit (then_exit (blk_exit (then_normal (Gx.go hs ?_)))))
      refine Gx.seq_region ?_
      refine Rx.q rfl (.move rfl) ?_
      refine Rx.q rfl (.assign rfl) ?_
      refine Rx.next ?_
      refine Gx.ret fun a w hs => (fin_tmp hs rfl rfl ⟨by rw [hm.2]; simp only [trimN]; rw [if_neg h], rfl⟩)
  · have h8 := of_decide_eq_false h8
    refine Rx.guard_no rfl rfl rfl rfl rfl ?_
    refine Rx.guard_no rfl rfl rfl rfl rfl ?_
    refine Rx.guard_no rfl rfl rfl rfl rfl ?_
    refine Rx.guard_no rfl rfl rfl rfl rfl ?_
    refine Rx.guard_no rfl rfl rfl rfl rfl ?_
    refine Rx.guard_no rfl rfl rfl rfl rfl ?_
    refine Rx.guard_no rfl rfl rfl rfl rfl ?_
    refine Rx.guard_no rfl rfl rfl rfl rfl ?_
    refine Rx.q rfl (.pick_f rfl rfl) ?_
    refine Rx.next ?_
    refine Gx.cond_f rfl ?_
    refine Gx.exit fun a w hs => (then_exit (then_exit (blk_exit (then_normal (Gx.go hs ?_)))))
    refine Gx.seq_region ?_
    refine Rx.q rfl (.move rfl) ?_
    refine Rx.q rfl (.assign rfl) ?_
    refine Rx.next ?_
    have hm0 : m = 0 := by omega
    refine Gx.ret fun a w hs => (fin_tmp hs rfl rfl ⟨by rw [hm.2, hm0]; rfl, rfl⟩)

/-- The string of one nought. -/
abbrev nulS : ByteArray := { data := #[0] }
theorem nul_ne : Value.bool (nulS.toList == (⟨#[]⟩ : ByteArray).toList) = .bool false := by
  congr 1; simp [nulS, ByteArray.toList, ByteArray.toList.loop, ByteArray.size]
theorem bytes_TrimRight (v : Value) (l : List Int) (h : l.length ≤ 2 ^ 60) : Spc Tryd.prog 46 [v, .string nulS] [] [rd 1 v l.length (bytesV l)] (ret (subV v 0 (trimN 0 l l.length) 1)) := by
  refine Spc.intro Tryd.func46 rfl Tryd.ntmps46 (by kernel_rfl) rfl rfl fun w0 F0 => ?_
  refine Gx.know (.shr .here) (φ := subV v 0 l.length 1 = v) (fun w F hp => subV_self reads_rd w F hp) (fun hv => ?_)
  refine Gx.seq_region ?_
  refine Rx.q rfl (.assign rfl) ?_
  refine Rx.next ?_
  refine Gx.seq ?_
  refine Gx.seq_region ?_
  refine Rx.q rfl (.move rfl) ?_
  refine Rx.q rfl (.lens rfl) ?_
  refine Rx.q rfl (.eql rfl rfl) ?_
  refine Rx.q rfl (.move rfl) ?_
  refine Rx.split 10 rfl (fun h10 => ?_) (fun h10 => ?_)
  · have h10 := of_decide_eq_true h10
    refine Rx.guard_no rfl rfl rfl rfl rfl ?_
    refine Rx.guard_no rfl rfl rfl rfl rfl ?_
    refine Rx.q rfl (.pick_t rfl rfl) ?_
    refine Rx.next ?_
    refine Gx.cond_t rfl ?_
    refine Gx.seq_region ?_
    refine Rx.q rfl (.move rfl) ?_
    refine Rx.q rfl (.assign rfl) ?_
    refine Rx.next ?_
    have h0 : l.length = 0 := by omega
    refine Gx.ret fun a w hs => (then_ret (fin_tmp hs rfl rfl ⟨by rw [h0] at hv ⊢; exact hv.symm, rfl⟩))
  · refine Rx.guard_yes rfl rfl rfl (Rx.q rfl (.move rfl) ?_)
    refine Rx.guard_yes rfl rfl rfl (Rx.q rfl ((OpQ.eql_str rfl rfl).val (u := .bool false) nul_ne) ?_)
    refine Rx.q rfl (.pick_f rfl rfl) ?_
    refine Rx.next ?_
    refine Gx.cond_f rfl ?_
    refine Gx.skip fun a w hs => (then_normal (Gx.go hs ?_))
    refine Gx.seq ?_
    refine Gx.seq_region ?_
    refine Rx.q rfl (.move rfl) ?_
    refine Rx.q rfl (.len_str rfl) ?_
    refine Rx.q rfl ((OpQ.eql rfl rfl).val (u := .bool true) rfl) ?_
    refine Rx.q rfl (.move rfl) ?_
    refine Rx.guard_yes rfl rfl rfl (Rx.q rfl (.move rfl) ?_)
    refine Rx.guard_yes rfl rfl rfl (Rx.q rfl (.idx_str (c := 0) rfl rfl (by decide) rfl) ?_)
    refine Rx.guard_yes rfl rfl rfl (Rx.q rfl ((OpQ.lss rfl rfl).val (u := .bool true) (congrArg Value.bool (by decide))) ?_)
    refine Rx.q rfl (.pick_t rfl rfl) ?_
    refine Rx.next ?_
    refine Gx.cond_t rfl ?_
    refine Gx.seq_region ?_
    refine Rx.q rfl (.move rfl) ?_
    refine Rx.q rfl (.move rfl) ?_
    refine Rx.q rfl (.idx_str (c := 0) rfl rfl (by decide) rfl) ?_
    refine Rx.q rfl (.cal (caps := []) (bytes_trimRightByte v l 0 h) rfl rfl) ?_
    refine Rx.q rfl (.assign rfl) ?_
    refine Rx.next ?_
    refine Gx.ret fun a w hs => (then_ret (fin_tmp hs rfl rfl ⟨rfl, rfl⟩))

theorem slices_Clone_int (v : Value) (n : Nat) (xs : List Value) (h1 : xs.all (·.oneCell') = true) (hl : xs.length = n * 1) (hb : n ≤ 2 ^ 43) :
    Spc Tryd.prog 82 [v] [] [rd 1 v n xs] (fun u L => ∃ u', u = u' ∧ L = [sl 3 1 u' n xs]) := by
  refine Spc.intro Tryd.func82 rfl Tryd.ntmps82 (by kernel_rfl) rfl rfl fun w0 F0 => ?_
  refine Gx.seq_region ?_
  refine Rx.q rfl (.assign rfl) ?_
  refine Rx.next ?_
  refine Gx.seq ?_
  refine Gx.seq_region ?_
  refine Rx.q rfl (.move rfl) ?_
  refine Rx.q rfl (.eqnils rfl) ?_
  refine Rx.next ?_
  refine Gx.cond rfl (fun h => ?_) (fun h => ?_)
  · refine Gx.seq_region ?_
    refine Rx.q rfl (.assign rfl) ?_
    refine Rx.next ?_
    refine Gx.know (.shr .here) (φ := n = 0) (fun w F hp => ?_) (fun hn => ?_)
    · obtain ⟨_, a, c, ⟨rfl, _⟩, h2, _⟩ := hp
      rcases h2 with h2 | ⟨b, o, rfl, _⟩
      · exact h2
      · simp [noSlice] at h
    · subst hn
      have hx : xs = [] := List.eq_nil_of_length_eq_zero (by simpa using hl)
      subst hx
      refine Gx.nilS (e := 3) (sz := 1) ?_
      refine Gx.ret fun a w hs => (then_ret (fin_tmp hs rfl rfl ⟨_, rfl, rfl⟩))
  · refine Gx.skip fun a w hs => (then_normal (Gx.go hs ?_))
    refine Gx.seq_region ?_
    refine Rx.slice1 rfl rfl rfl rfl rfl fun v5 hv5 => ?_
    refine Rx.q rfl (.move rfl) ?_
    refine Rx.app rfl rfl ⟨rfl, rfl⟩ hl h1 (by omega) rfl fun v7 hv7 => ?_
    rw [Nat.zero_add, List.nil_append]
    refine Rx.q rfl (.assign rfl) ?_
    refine Rx.next ?_
    refine Gx.ret fun a w hs => (fin_tmp hs rfl rfl ⟨_, rfl, rfl⟩)
end Go.Proofs.YtoiebfpafdcbmaaDoor
