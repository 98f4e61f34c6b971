/- Numbers and bytes as cells; slices.Clone of numbers. -/
import Derived.Test.YtoiebfpafdcbmaaDoorTy
import Derived.Test.YtoiebfpafdcbmaaDoorKn
namespace Go.Proofs.YtoiebfpafdcbmaaDoor
open Go Go.RowKit K
set_option linter.unusedVariables false
set_option linter.unusedSimpArgs false

/-- Bytes as cells. -/
abbrev bytesV (l : List Int) : List Value := l.map (Value.int .u8)
theorem one_bytes (l : List Int) : (bytesV l).all (·.oneCell') = true := by simp [bytesV, Value.oneCell']
/-- Numbers as cells. -/
abbrev intsV (l : List Int) : List Value := l.map (Value.int .i64)
theorem one_ints (l : List Int) : (intsV l).all (·.oneCell') = true := by simp [intsV, Value.oneCell']
/-- Each fits. -/
def i64s (l : List Int) : Prop := ∀ x ∈ l, -9223372036854775808 ≤ x ∧ x ≤ 9223372036854775807
def i64 (x : Int) : Prop := -9223372036854775808 ≤ x ∧ x ≤ 9223372036854775807

theorem made_ints (n : Nat) : (madeCells (Value.int .i64 0).cells (n * 1)).toList = intsV (List.replicate n 0) := by
  have : madeCells (Value.int .i64 0).cells n = Array.replicate n (Value.int .i64 0) := by
    apply Array.ext
    · simp [madeCells]
    · intro i h1 h2; simp [madeCells, Value.cells]; rw [Nat.mod_one]; rfl
  rw [Nat.mul_one, this]; simp [intsV]
theorem slices_Clone_int (v : Value) (n : Nat) (xs : List Value) (h1 : xs.all (·.oneCell') = true) (hl : xs.length = n * 1) (hb : n ≤ 2 ^ 43) :
    Spc Tryd.prog 82 [v] [] [rd 1 v n xs] (fun u L => ∃ u', u = u' ∧ L = [sl 3 1 u' n xs]) := by
  refine Spc.intro Tryd.func82 rfl Tryd.ntmps82 (by kernel_rfl) rfl rfl fun w0 F0 => ?_
  refine Gx.seq_region ?_
  refine Rx.q rfl (.assign rfl) ?_
  refine Rx.next ?_
  refine Gx.seq ?_
  refine Gx.seq_region ?_
  refine Rx.q rfl (.move rfl) ?_
  refine Rx.q rfl (.eqnils rfl) ?_
  refine Rx.next ?_
  refine Gx.cond rfl (fun h => ?_) (fun h => ?_)
  · refine Gx.seq_region ?_
    refine Rx.q rfl (.assign rfl) ?_
    refine Rx.next ?_
    refine Gx.know (.shr .here) (φ := n = 0) (fun w F hp => ?_) (fun hn => ?_)
    · obtain ⟨_, a, c, ⟨rfl, _⟩, h2, _⟩ := hp
      rcases h2 with h2 | ⟨b, o, rfl, _⟩
      · exact h2
      · simp [noSlice] at h
    · subst hn
      have hx : xs = [] := List.eq_nil_of_length_eq_zero (by simpa using hl)
      subst hx
      refine Gx.nilS (e := 3) (sz := 1) ?_
      refine Gx.ret fun a w hs => (then_ret (fin_tmp hs rfl rfl ⟨_, rfl, rfl⟩))
  · refine Gx.skip fun a w hs => (then_normal (Gx.go hs ?_))
    refine Gx.seq_region ?_
    refine Rx.slice1 rfl rfl rfl rfl rfl fun v5 hv5 => ?_
    refine Rx.q rfl (.move rfl) ?_
    refine Rx.app rfl rfl ⟨rfl, rfl⟩ hl h1 (by omega) rfl fun v7 hv7 => ?_
    rw [Nat.zero_add, List.nil_append]
    refine Rx.q rfl (.assign rfl) ?_
    refine Rx.next ?_
    refine Gx.ret fun a w hs => (fin_tmp hs rfl rfl ⟨_, rfl, rfl⟩)

/-- What can be read of a slice, whoever owns it. -/
class RdOf (L M : List As) (v : Value) (sz n : outParam Nat) (xs : outParam (List Value)) : Prop where ok : Gives L M (rd sz v n xs)
instance (priority := high) RdOf.sl_here {L M : List As} {v : Value} {e sz n : Nat} {xs : List Value} : RdOf (sl e sz v n xs :: L) M v sz n xs := ⟨⟨_, .own .here, rd_of_sl⟩⟩
instance (priority := high) RdOf.rd_here {L M : List As} {v : Value} {sz n : Nat} {xs : List Value} : RdOf (rd sz v n xs :: L) M v sz n xs := ⟨Inn.gives (.own .here)⟩
instance RdOf.there {L M : List As} {A : As} {v : Value} {sz n : Nat} {xs : List Value} [h : RdOf L M v sz n xs] : RdOf (A :: L) M v sz n xs := ⟨let ⟨C, c, hc⟩ := h.ok; ⟨C, c.there, hc⟩⟩
instance (priority := high) RdOf.sl_hereM {M : List As} {v : Value} {e sz n : Nat} {xs : List Value} : RdOf [] (sl e sz v n xs :: M) v sz n xs := ⟨⟨_, .shr .here, rd_of_sl⟩⟩
instance (priority := high) RdOf.rd_hereM {M : List As} {v : Value} {sz n : Nat} {xs : List Value} : RdOf [] (rd sz v n xs :: M) v sz n xs := ⟨Inn.gives (.shr .here)⟩
instance RdOf.thereM {M : List As} {A : As} {v : Value} {sz n : Nat} {xs : List Value} [h : RdOf [] M v sz n xs] : RdOf [] (A :: M) v sz n xs := ⟨let ⟨C, c, hc⟩ := h.ok; ⟨C, c.thereM, hc⟩⟩
instance {L R M : List As} {A : As} {v : Value} {sz n : Nat} {xs : List Value} [h : RdOf (A :: (L ++ R)) M v sz n xs] : RdOf ((A :: L) ++ R) M v sz n xs := ⟨h.ok⟩
instance {R M : List As} {v : Value} {sz n : Nat} {xs : List Value} [h : RdOf R M v sz n xs] : RdOf ([] ++ R) M v sz n xs := ⟨h.ok⟩
instance {L R : List As} {A : As} {v : Value} {sz n : Nat} {xs : List Value} [h : RdOf [] (A :: (L ++ R)) v sz n xs] : RdOf [] ((A :: L) ++ R) v sz n xs := ⟨h.ok⟩
instance {R : List As} {v : Value} {sz n : Nat} {xs : List Value} [h : RdOf [] R v sz n xs] : RdOf [] ([] ++ R) v sz n xs := ⟨h.ok⟩
theorem K.Gives.trans {R M : List As} {A B : As} (h : Gives R M A) (k : ∀ (w : World) F, A.P w F → ∃ G, B.P w G ∧ ∀ b, G b → F b) : Gives R M B :=
  let ⟨C, c, hc⟩ := h
  ⟨C, c, fun w F hF => let ⟨G, g, hg⟩ := hc w F hF; let ⟨G', g', hg'⟩ := k w G g; ⟨G', g', fun b hb => hg b (hg' b hb)⟩⟩
/-- A part of it. -/
theorem giv_sub {R M : List As} {v : Value} {sz n k : Nat} {xs ys : List Value} (a b : Nat) [h : RdOf R M v sz n xs] (hab : a ≤ b ∧ b ≤ n) (hk : b - a = k) (hr : (xs.drop (a * sz)).take (k * sz) = ys) : Gives R M (rd sz (subV v a b sz) k ys) := by
  subst hk; subst hr
  exact h.ok.trans fun w F hF => rd_sub hab w F hF
theorem ints_sub (l : List Int) (a n : Nat) : ((intsV l).drop (a * 1)).take (n * 1) = intsV ((l.drop a).take n) := by simp [intsV, List.map_drop, List.map_take]
end Go.Proofs.YtoiebfpafdcbmaaDoor
