/- Rows of bytes made from strings: owned, whether marked behind their end or not; strings made of them. -/
import Derived.Test.YtoiebfpafdcbmaaDoorKo
import Derived.Lib.ConvBytes
import Derived.Lib.FrozenHead
import Derived.Laws.BytesString
namespace Go.Proofs.YtoiebfpafdcbmaaDoor.K
open Go Go.RowKit
set_option linter.unusedVariables false
set_option linter.unusedSimpArgs false

/-- Nothing within the row is frozen. -/
def unfro (fz : Nat × Nat) (n : Nat) : Prop := n ≤ fz.1 ∨ fz.2 ≤ fz.1
/-- Bytes that are owned. -/
def sq (e : Nat) (v : Value) (s : List UInt8) : As where
  P w F := (v = .slice none 0 0 ∧ s = [] ∧ ∀ k, ¬ F k) ∨
    ∃ g cap cur fz, v = .slice (some ⟨g, 0, none⟩) s.length cap ∧ w.heap[g]? = some (.cells cur e fz) ∧ unfro fz cur.size ∧ s.length ≤ cap ∧ cap ≤ maxLen ∧ cur.size = cap ∧ cur.toList.take s.length = bytesU s ∧ ∀ k, F k ↔ k = g
  loc := fun h e' => h.imp id fun ⟨g, cap, cur, fz, hv, hg, h1, h2, h3, h4, h5, h6⟩ => ⟨g, cap, cur, fz, hv, (e' g ((h6 g).2 rfl)).trans hg, h1, h2, h3, h4, h5, h6⟩
  lt := fun h k hk => by
    rcases h with ⟨_, _, h⟩ | ⟨g, cap, cur, fz, _, hg, _, _, _, _, _, h6⟩
    · exact (h k hk).elim
    · obtain rfl := (h6 k).1 hk
      exact (Array.getElem?_eq_some_iff.1 hg).1
  ext := fun h e' => h.imp (fun ⟨h1, h2, h3⟩ => ⟨h1, h2, fun k hk => h3 k ((e' k).2 hk)⟩) fun ⟨g, cap, cur, fz, hv, hg, h1, h2, h3, h4, h5, h6⟩ => ⟨g, cap, cur, fz, hv, hg, h1, h2, h3, h4, h5, fun k => (e' k).symm.trans (h6 k)⟩

theorem bytesU_len (s : List UInt8) : (bytesU s).length = s.length := by simp [bytesU]
theorem bytesU_app (s l : List UInt8) : bytesU (s ++ l) = bytesU s ++ bytesU l := by simp [bytesU]
theorem bytesU_one (s : List UInt8) : ∀ v ∈ bytesU s, v.oneCell' = true := fun v hv => by
  simp only [bytesU, List.mem_map] at hv
  obtain ⟨_, _, rfl⟩ := hv; rfl
theorem strCells_U (s : List UInt8) : Lib.strCells ⟨s.toArray⟩ = bytesU s := by simp [Lib.strCells, bytesU]

/-- Cells are stored where nothing is frozen. -/
theorem run_storeCells_U (P : Program) (g o : Nat) (t : TypeId) (fz : Nat × Nat) : ∀ (vs : List Value) (i : Nat) (cur : Array Value) (w : World), w.heap[g]? = some (.cells cur t fz) → unfro fz cur.size → o + i + vs.length ≤ cur.size → (∀ v ∈ vs, v.oneCell' = true) →
    (storeCells ⟨g, o, none⟩ vs i).run P w = .ok () (w.setRow g (cur.toList.take (o + i) ++ vs ++ cur.toList.drop (o + i + vs.length)).toArray)
  | [], i, cur, w, hg, _, _, _ => by
    simp only [storeCells, List.append_nil, List.length_nil, Nat.add_zero, List.take_append_drop, Array.toArray_toList]
    rw [setRow_self w g cur t fz hg]
    rfl
  | v :: rest, i, cur, w, hg, hfz, hl, h1 => by
    have hi : o + i < cur.size := by simp at hl; omega
    have hadd : (⟨g, o, none⟩ : Addr).add i = ⟨g, o + i, none⟩ := by unfold Addr.add; split <;> simp_all
    have hcell : w.cell? ⟨g, o + i, none⟩ = some cur[o + i] := by simp [World.cell?, hg, hi]
    have hfro : w.frozen? ⟨g, o + i, none⟩ = false := by
      obtain ⟨lo, hi'⟩ := fz
      simp only [World.frozen?, hg, Bool.and_eq_false_iff, decide_eq_false_iff_not]
      rcases hfz with h | h
      · left; simp only at h; omega
      · rcases Nat.lt_or_ge (o + i) hi' with h' | h'
        · left; simp only at h; omega
        · right; omega
    have hst : (store ((⟨g, o, none⟩ : Addr).add i) v).run P w = .ok () (w.setRow g (cur.setIfInBounds (o + i) v)) := by
      rw [hadd, run_store P w _ v _ (h1 v (by simp)), hcell]
      simp [hfro, setCell_eq_setRow w g (o + i) cur t fz v hg]
    have ih := run_storeCells_U P g o t fz rest (i + 1) (cur.setIfInBounds (o + i) v) (w.setRow g (cur.setIfInBounds (o + i) v)) (setRow_heap w g cur _ t _ hg) (by simpa using hfz) (by simp at hl ⊢; omega) (fun x hx => h1 x (by simp [hx]))
    simp only [storeCells, Sem.run_bind, hst, Result.andThen_ok, ih, setRow_setRow]
    congr 3
    have e := list_seg_step cur.toList (o + i) v rest (by simp at hl ⊢; omega)
    simpa [Array.toList_setIfInBounds, Nat.add_assoc] using e
section
variable {P : Program} (w : World)
theorem run_append_room_U (t ty e : TypeId) (i : TypeInfo) (ht : P.underlying t = some (.slice e)) (hi : P.info? e = some i) (hs1 : i.size = 1)
    (g sLen sCap : Nat) (cur : Array Value) (fz : Nat × Nat) (hg : w.heap[g]? = some (.cells cur e fz)) (hfz : unfro fz cur.size)
    (a : Addr) (m c : Nat) (news : List Value) (hl : news.length = m) (hnews : ∀ j u, news[j]? = some u → w.cell? (a.add j) = some u) (h1 : ∀ u ∈ news, u.oneCell' = true)
    (hroom : sLen + m ≤ sCap) (hfit : sLen + news.length ≤ cur.size) :
    (Builtin.append_ #[t, t] ty #[.slice (some ⟨g, 0, none⟩) sLen sCap, .slice (some a) m c]).run P w =
      .ok (.slice (some ⟨g, 0, none⟩) (sLen + m) sCap) (w.setRow g (cur.toList.take sLen ++ news ++ cur.toList.drop (sLen + news.length)).toArray) := by
  have hf := run_firstCells_some (P := P) w 1 m a m c news (by simpa using hl) hnews
  have hst := run_storeCells_U P g sLen e fz news 0 cur w hg hfz (by simpa using hfit) h1
  simp only [Nat.add_zero] at hst
  simp [Builtin.append_, run_underlying ht, sizeOf, typeInfo, hi, hs1, Builtin.lenOf, hroom, hf, Addr.add_lit, hst]
theorem run_append_room_sU (t u ty e : TypeId) (i : TypeInfo) (ht : P.underlying t = some (.slice e)) (hu : P.underlying u = some .string) (hi : P.info? e = some i) (hs1 : i.size = 1)
    (g sLen sCap : Nat) (cur : Array Value) (fz : Nat × Nat) (hg : w.heap[g]? = some (.cells cur e fz)) (hfz : unfro fz cur.size) (s : ByteArray)
    (hroom : sLen + s.size ≤ sCap) (hfit : sLen + s.size ≤ cur.size) :
    (Builtin.append_ #[t, u] ty #[.slice (some ⟨g, 0, none⟩) sLen sCap, .string s]).run P w =
      .ok (.slice (some ⟨g, 0, none⟩) (sLen + s.size) sCap) (w.setRow g (cur.toList.take sLen ++ Lib.strCells s ++ cur.toList.drop (sLen + s.size)).toArray) := by
  have hf := Lib.run_firstCells_string (P := P) w 1 s
  have hst := run_storeCells_U P g sLen e fz (Lib.strCells s) 0 cur w hg hfz (by simpa [Lib.strCells_length] using hfit) (Lib.strCells_oneCell s)
  simp only [Nat.add_zero, Lib.strCells_length] at hst
  simp [Builtin.append_, run_underlying ht, run_underlying hu, sizeOf, typeInfo, hi, hs1, Builtin.lenOf, hroom, hf, Addr.add_lit, hst]
end

theorem sq_cells {w : World} {e g cap : Nat} {s : List UInt8} {cur : Array Value} {fz : Nat × Nat} (hg : w.heap[g]? = some (.cells cur e fz)) (ht : cur.toList.take s.length = bytesU s) : ∀ j u, (bytesU s)[j]? = some u → w.cell? ((⟨g, 0, none⟩ : Addr).add j) = some u := by
  intro j u hu
  have hadd : (⟨g, 0, none⟩ : Addr).add j = ⟨g, j, none⟩ := by unfold Addr.add; split <;> simp_all
  rw [hadd, cell_of_row w g j cur e fz hg]
  rw [← ht, List.getElem?_take] at hu
  split at hu
  · simpa using hu
  · cases hu
/-- What an append of bytes leaves. -/
def Grew (P : Program) (e : Nat) (v : Value) (s l : List UInt8) (w : World) (F1 : Nat → Prop) (v' : Value) (w' : World) : Prop :=
  ∃ F1', (sq e v' (s ++ l)).P w' F1' ∧ (∀ b, F1' b → F1 b ∨ w.heap.size ≤ b) ∧ Eff F1 w w'
theorem grew_room {P : Program} {e g cap : Nat} {s l : List UInt8} {w : World} {F1 : Nat → Prop} {cur : Array Value} {fz : Nat × Nat} (hg : w.heap[g]? = some (.cells cur e fz)) (h1 : unfro fz cur.size) (h3 : cap ≤ maxLen) (h4 : cur.size = cap) (h5 : cur.toList.take s.length = bytesU s) (h6 : ∀ k, F1 k ↔ k = g)
    (hroom : s.length + l.length ≤ cap) : Grew P e (.slice (some ⟨g, 0, none⟩) s.length cap) s l w F1 (.slice (some ⟨g, 0, none⟩) (s.length + l.length) cap) (w.setRow g (cur.toList.take s.length ++ bytesU l ++ cur.toList.drop (s.length + (bytesU l).length)).toArray) := by
  have hsz : (cur.toList.take s.length ++ bytesU l ++ cur.toList.drop (s.length + (bytesU l).length)).toArray.size = cap := by
    simp only [List.size_toArray, List.length_append, List.length_take, List.length_drop, Array.length_toList, bytesU_len]; omega
  refine ⟨F1, .inr ⟨g, cap, _, fz, by rw [List.length_append], setRow_heap w g cur _ e _ hg, by rw [hsz, ← h4]; exact h1, by rw [List.length_append]; exact hroom, h3, hsz, ?_, h6⟩, fun b hb => .inl hb, ⟨rfl, rfl, rfl, by simp, fun b hb hF => setRow_other w g b _ (fun e' => hF ((h6 b).2 e'))⟩⟩
  rw [h5, bytesU_app]
  have : (s ++ l).length = (bytesU s ++ bytesU l).length := by simp [bytesU]
  rw [this]; exact List.take_left
theorem grew_new {P : Program} {e cap : Nat} {v : Value} {s l : List UInt8} {w : World} {F1 : Nat → Prop} {xs : Array Value} (hx : xs.toList = bytesU s ++ bytesU l) (hc : s.length + l.length ≤ cap) (h3 : cap ≤ maxLen) {z : Value} (hz : z.cells.size = 1) :
    Grew P e v s l w F1 (.slice (some ⟨w.heap.size, 0, none⟩) (s.length + l.length) cap) (w.drew.alloc (.cells (xs ++ Builtin.zeroCells z.cells (cap - (s.length + l.length))) e)) := by
  have hxl : xs.size = s.length + l.length := by rw [← Array.length_toList, hx]; simp [bytesU]
  refine ⟨fun k => k = w.heap.size, .inr ⟨w.heap.size, cap, _, (0, 0), by rw [List.length_append], heap_alloc_new w.drew _, .inr (Nat.le_refl _), by rw [List.length_append]; exact hc, h3, ?_, ?_, fun k => Iff.rfl⟩, fun b hb => .inr (by rw [hb]; exact Nat.le_refl _), ⟨rfl, rfl, rfl, by simp, fun b hb _ => heap_alloc_old w.drew _ hb⟩⟩
  · simp only [Array.size_append, size_zeroCells, hz, hxl]; omega
  · simp only [Array.toList_append, hx, bytesU_app]
    have : (s ++ l).length = (bytesU s ++ bytesU l).length := by simp [bytesU]
    rw [this]; exact List.take_left

section
variable {P : Program} {X : Cx} {E : List (Nat × Value)} {L L' M : List As} {Q : Exit → Act → World → Prop} {ops : Array Oper} {rest : List Oper} {d : Nat} {ty : TypeId} {pos : String} {af : Array Edge}
theorem Gx.nilQ {c : Code} {e : Nat} (h : Gx P X c E (sq e (.slice none 0 0) [] :: L) M Q) : Gx P X c E L M Q :=
  ⟨fun a w hs => h.out a w ⟨hs.1, hs.2.new (F1' := fun _ => False) (.inl ⟨rfl, rfl, fun _ x => x⟩) (fun b hb => hb.elim) (Eff.refl _ _)⟩⟩
class TakeSq (L : List As) (v : Value) (e : outParam Nat) (s : outParam (List UInt8)) (L' : outParam (List As)) : Prop where ok : Take L (sq e v s) L'
instance (priority := high) TakeSq.here {L : List As} {v : Value} {e : Nat} {s : List UInt8} : TakeSq (sq e v s :: L) v e s L := ⟨.here⟩
instance TakeSq.there {L L' : List As} {A : As} {v : Value} {e : Nat} {s : List UInt8} [h : TakeSq L v e s L'] : TakeSq (A :: L) v e s (A :: L') := ⟨.there h.ok⟩
/-- A string's bytes are appended. -/
theorem Rx.app_sq {t u e : Nat} {x y : Operand} {v : Value} {s l : List UInt8} {e' : Nat} [SliceTy P t e 1 1] [hz : ZeroTy P e (.int .u8 0)] [hu : StrTy P u] (hx : evalO E x = some v) (hy : evalO E y = some (str l))
    [ht : TakeSq L v e' s L'] (he : e' = e) (hb : s.length + l.length ≤ 140737488355328) (h0 : 0 < l.length) (hn : Nat.blt d X.n = true)
    (k : ∀ v', Rx P X ops rest ((d, v') :: E) (sq e v' (s ++ l) :: L') M Q) :
    Rx P X ops (⟨some d, .call ⟨.builtin .append, #[x, y], #[t, u]⟩, ty, pos, af, none⟩ :: rest) E L M Q := by
  obtain rfl := he
  refine Rx.of (α := Value) id (fun v' => sq e' v' (s ++ l) :: L') rfl rfl hn (fun a ha w hw => ?_) k
  obtain ⟨i, z, hu', hinf, hz', hzs, hsz, hbs, hpos⟩ := SliceTy.out P t
  obtain rfl : Value.int .u8 0 = z := by have := hz.ok; simp [hinf, hz'] at this; exact this.symm
  obtain ⟨F0, hF0⟩ := Hp.of_inn (.own (In.of_take ht.ok)) hw
  have hsize : (⟨l.toArray⟩ : ByteArray).size = l.length := ba_size l
  have hmL : maxLen = 140737488355328 - 4096 ∨ 140737488355328 ≤ maxLen := by unfold maxLen; omega
  have key : ∃ v' w', (Builtin.append_ #[t, u] ty #[v, str l]).run P w = .ok v' w' ∧ ∀ F1, (sq e' v s).P w F1 → Grew P e' v s l w F1 v' w' := by
    rcases hF0 with ⟨rfl, rfl, _⟩ | ⟨g, cap, cur, fz, rfl, hg, h1, h2, h3, h4, h5, _⟩
    · have hr := run_append_nil_string (P := P) w t u ty e' i (Value.int .u8 0) hu' hu.ok hinf hz' ⟨l.toArray⟩ (by rw [hsize]; exact h0) (by rw [hsize]; simp at hb; omega) (by rw [hsize, hbs]; simp at hb; omega)
      rw [hsize] at hr
      refine ⟨_, _, hr, fun F1 _ => ?_⟩
      have := grew_new (P := P) (e := e') (v := .slice none 0 0) (s := []) (l := l) (w := w) (F1 := F1) (xs := l.toArray.map fun b => Value.int .u8 b.toNat) (cap := grownCap w l.length 0 e') (by simp [bytesU]) (by simpa using grownCap_ge w l.length 0 e') (grownCap_le_maxLen w _ _ _ (by simp at hb; unfold maxLen; omega)) (z := Value.int .u8 0) rfl
      simpa using this
    · by_cases hroom : s.length + l.length ≤ cap
      · have hr := run_append_room_sU (P := P) w t u ty e' i hu' hu.ok hinf hsz g s.length cap cur fz hg h1 ⟨l.toArray⟩ (by rw [hsize]; exact hroom) (by rw [hsize, h4]; exact hroom)
        rw [hsize, strCells_U] at hr
        refine ⟨_, _, hr, fun F1 hF1 => ?_⟩
        have h6 : ∀ k, F1 k ↔ k = g := by
          rcases hF1 with ⟨h, _⟩ | ⟨g', _, _, _, h, _, _, _, _, _, _, h6⟩
          · cases h
          · cases h; exact h6
        have := grew_room (P := P) (l := l) hg h1 h3 h4 h5 h6 hroom
        rwa [bytesU_len] at this
      · have hr := Lib.run_append_grow_string (P := P) w t u ty e' i (Value.int .u8 0) hu' hu.ok hinf hz' ⟨g, 0, none⟩ s.length cap (bytesU s) (by rw [hsz, bytesU_len, Nat.mul_one]) (sq_cells (cap := cap) hg h5) ⟨l.toArray⟩ (by rw [hsize]; omega) (by rw [hsize]; omega) (growslice_fits (by rw [hsize]; omega) (by rw [hsize, hbs]; omega))
        rw [hsize, strCells_U] at hr
        refine ⟨_, _, hr, fun F1 _ => ?_⟩
        exact grew_new (P := P) (by simp) (grownCap_ge w _ _ _) (grownCap_le_maxLen w _ _ _ (by unfold maxLen; omega)) (z := Value.int .u8 0) rfl
  obtain ⟨v', w', hr, hG⟩ := key
  refine ⟨v', w', by simp [execOp, resolve, invoke, builtin, ha.eval hx, ha.eval hy, hr], ?_⟩
  exact Hp.turn ht.ok hw fun F1 hF1 => hG F1 hF1
/-- Bytes are appended. -/
theorem Rx.app_bq {t e : Nat} {x y : Operand} {v u : Value} {s l : List UInt8} {m e' : Nat} {B : As} [SliceTy P t e 1 1] [hz : ZeroTy P e (.int .u8 0)] (hx : evalO E x = some v) (hy : evalO E y = some u)
    [ht : TakeSq L v e' s L'] (hi : Inn L' M B) (hc : B.cells u m (bytesU l)) (hm : m = l.length) (he : e' = e) (hb : s.length + l.length ≤ 140737488355328) (h0 : 0 < l.length) (hn : Nat.blt d X.n = true)
    (k : ∀ v', Rx P X ops rest ((d, v') :: E) (sq e v' (s ++ l) :: L') M Q) :
    Rx P X ops (⟨some d, .call ⟨.builtin .append, #[x, y], #[t, t]⟩, ty, pos, af, none⟩ :: rest) E L M Q := by
  obtain rfl := he
  subst hm
  refine Rx.of (α := Value) id (fun v' => sq e' v' (s ++ l) :: L') rfl rfl hn (fun a ha w hw => ?_) k
  obtain ⟨i, z, hu', hinf, hz', hzs, hsz, hbs, hpos⟩ := SliceTy.out P t
  obtain rfl : Value.int .u8 0 = z := by have := hz.ok; simp [hinf, hz'] at this; exact this.symm
  have hB : ∃ G, B.P w G := by
    obtain ⟨F, f1, f2, f3, f4⟩ := hw
    have f1' := ht.ok.has f1
    obtain ⟨_, F2, _, g2, _, g4⟩ := f1'
    cases hi with
    | own h => exact Has.of_in h g2
    | shr h => exact let ⟨G, g, _⟩ := f2 B h.mem; ⟨G, g⟩
  obtain ⟨G, hG⟩ := hB
  obtain ⟨q, c, rfl, hcells⟩ := hc w G hG
  obtain ⟨ad, rfl, hcl⟩ : ∃ ad, q = some ad ∧ ∀ j u, (bytesU l)[j]? = some u → w.cell? (ad.add j) = some u := by
    rcases hcells with h | h
    · omega
    · exact h
  obtain ⟨F0, hF0⟩ := Hp.of_inn (.own (In.of_take ht.ok)) hw
  have key : ∃ v' w', (Builtin.append_ #[t, t] ty #[v, .slice (some ad) l.length c]).run P w = .ok v' w' ∧ ∀ F1, (sq e' v s).P w F1 → Grew P e' v s l w F1 v' w' := by
    rcases hF0 with ⟨rfl, rfl, _⟩ | ⟨g, cap, cur, fz, rfl, hg, h1, h2, h3, h4, h5, _⟩
    · have hr := run_append_nil (P := P) w t ty e' i (Value.int .u8 0) hu' hinf hz' ad l.length c (bytesU l) (by rw [hsz, bytesU_len, Nat.mul_one]) hcl h0 (by simp at hb; omega) (by rw [hbs]; simp at hb; omega)
      refine ⟨_, _, hr, fun F1 _ => ?_⟩
      have := grew_new (P := P) (e := e') (v := .slice none 0 0) (s := []) (l := l) (w := w) (F1 := F1) (xs := (bytesU l).toArray) (cap := grownCap w l.length 0 e') (by simp [bytesU]) (by simpa using grownCap_ge w l.length 0 e') (grownCap_le_maxLen w _ _ _ (by simp at hb; unfold maxLen; omega)) (z := Value.int .u8 0) rfl
      simpa using this
    · by_cases hroom : s.length + l.length ≤ cap
      · have hr := run_append_room_U (P := P) w t ty e' i hu' hinf hsz g s.length cap cur fz hg h1 ad l.length c (bytesU l) (bytesU_len l) hcl (bytesU_one l) hroom (by rw [bytesU_len, h4]; exact hroom)
        refine ⟨_, _, hr, fun F1 hF1 => ?_⟩
        have h6 : ∀ k, F1 k ↔ k = g := by
          rcases hF1 with ⟨h, _⟩ | ⟨g', _, _, _, h, _, _, _, _, _, _, h6⟩
          · cases h
          · cases h; exact h6
        exact grew_room (P := P) (l := l) hg h1 h3 h4 h5 h6 hroom
      · have hr := run_append_grow (P := P) w t ty e' i (Value.int .u8 0) hu' hinf hz' ⟨g, 0, none⟩ s.length cap (bytesU s) (by rw [hsz, bytesU_len, Nat.mul_one]) (sq_cells (cap := cap) hg h5) ad l.length c (bytesU l) (by rw [hsz, bytesU_len, Nat.mul_one]) hcl (by omega) (by omega) (growslice_fits (by omega) (by rw [hbs]; omega))
        refine ⟨_, _, hr, fun F1 _ => ?_⟩
        exact grew_new (P := P) (by simp) (grownCap_ge w _ _ _) (grownCap_le_maxLen w _ _ _ (by unfold maxLen; omega)) (z := Value.int .u8 0) rfl
  obtain ⟨v', w', hr, hG⟩ := key
  refine ⟨v', w', by simp [execOp, resolve, invoke, builtin, ha.eval hx, ha.eval hy, hr], ?_⟩
  exact Hp.turn ht.ok hw fun F1 hF1 => hG F1 hF1
/-- A string's bytes. -/
theorem Rx.s2b {t u e : Nat} {x : Operand} {s : List UInt8} [SliceTy P t e 1 1] [hz : IntTy P e .u8] [hu : StrTy P u] (hx : evalO E x = some (str s)) (hb : s.length ≤ 140737488351232) (hn : Nat.blt d X.n = true)
    (k : ∀ v', Rx P X ops rest ((d, v') :: E) (sq e v' s :: L) M Q) :
    Rx P X ops (⟨some d, .convert u t x, ty, pos, af, none⟩ :: rest) E L M Q := by
  refine Rx.of (α := Value) id (fun v' => sq e v' s :: L) rfl rfl hn (fun a ha w hw => ?_) k
  obtain ⟨i, z, hu', hinf, hz', hzs, hsz, hbs, hpos⟩ := SliceTy.out P t
  have hsize : (⟨s.toArray⟩ : ByteArray).size = s.length := ba_size s
  have hr := Lib.run_convert_string_bytes (P := P) w u t e ⟨s.toArray⟩ hu.ok hu' hz.ok
  refine ⟨.slice (some ⟨w.heap.size, 0, none⟩) s.length (grownCap w s.length 0 e), Lib.bytesWorld w e ⟨s.toArray⟩, by simp [execOp, ha.eval hx, hr, hsize], ?_⟩
  have hcm : grownCap w s.length 0 e ≤ maxLen := grownCap_le_maxLen w _ _ _ (by unfold maxLen; omega)
  have hge := grownCap_ge w s.length 0 e
  have hcs : (Lib.bytesCells w e ⟨s.toArray⟩).size = grownCap w s.length 0 e := by
    simp only [Lib.bytesCells, Array.size_append, Array.size_map, Array.size_replicate, hsize, List.size_toArray]; omega
  refine hw.new (F1' := fun k => k = w.heap.size) (.inr ⟨w.heap.size, _, _, _, rfl, Lib.bytesWorld_at_new w e _, .inl (Nat.le_refl _), hge, hcm, hcs, ?_, fun k => Iff.rfl⟩) (fun b hb => by rw [hb]; exact Nat.le_refl _)
    ⟨rfl, rfl, rfl, by rw [Lib.bytesWorld_size]; omega, fun b hb _ => Lib.bytesWorld_at_old w e _ b hb⟩
  simp only [Lib.bytesCells, Array.toList_append, Array.toList_map]
  have h1 : List.map (fun b : UInt8 => Value.int .u8 b.toNat) s = bytesU s := by simp [bytesU]
  rw [h1]
  have : s.length = (bytesU s).length := (bytesU_len s).symm
  rw [this]; exact List.take_left
class FindSq (L : List As) (v : Value) (s : outParam (List UInt8)) : Prop where ok : ∃ e, In L (sq e v s)
instance (priority := high) FindSq.here {L : List As} {v : Value} {e : Nat} {s : List UInt8} : FindSq (sq e v s :: L) v s := ⟨_, .here⟩
instance FindSq.there {L : List As} {A : As} {v : Value} {s : List UInt8} [h : FindSq L v s] : FindSq (A :: L) v s := ⟨let ⟨e, h⟩ := h.ok; ⟨e, .there h⟩⟩
theorem fold_bytes : ∀ (s : List UInt8) (r : ByteArray), (s.map fun b => ((b.toNat : Nat) : Int)).foldl (fun r n => r.push (UInt8.ofNat n.toNat)) r = ⟨r.data ++ s.toArray⟩
  | [], r => by simp
  | b :: s, r => by
    simp only [List.map_cons, List.foldl_cons]
    rw [fold_bytes s]
    simp [ByteArray.push]
/-- A string of bytes. -/
theorem OpQ.b2s {t u e : Nat} {x : Operand} {v : Value} {s : List UInt8} [SliceTy P t e 1 1] [hz : IntTy P e .u8] [hu : StrTy P u] (hx : evalO E x = some v) [hf : FindSq L v s] :
    OpQ P X ⟨some d, .convert t u x, ty, pos, af, none⟩ E L M (str s) :=
  .of fun a ha w hw => by
    obtain ⟨i, z, hu', hinf, hz', hzs, hsz, hbs, hpos⟩ := SliceTy.out P t
    obtain ⟨e1, hin⟩ := hf.ok
    obtain ⟨G, hG⟩ := hw.of_inn (.own hin)
    rcases hG with ⟨rfl, rfl, _⟩ | ⟨g, cap, cur, fz, rfl, hg, h1, h2, h3, h4, h5, _⟩
    · have hr := run_convert_bytes_string (P := P) w t u e none 0 0 hu' hz.ok hu.ok
      simp [execOp, ha.eval hx, hr, Conv.bytesToString]
      rfl
    · have hr := run_convert_bytes_string (P := P) w t u e (some ⟨g, 0, none⟩) s.length cap hu' hz.ok hu.ok
      have hl := run_firstCells_some (P := P) w 1 s.length ⟨g, 0, none⟩ s.length cap (bytesU s) (by simp [bytesU]) (sq_cells (cap := cap) hg h5)
      have hb := run_bytesToString (P := P) w ⟨g, 0, none⟩ s.length cap (s.map fun b => ((b.toNat : Nat) : Int)) (by simpa [Builtin.firstCells, bytesU, Function.comp_def] using hl)
      rw [fold_bytes] at hb
      simp [execOp, ha.eval hx, hr, hb]
theorem yielded_un {a : Act} (h : ASt X M E a) {j t : Nat} (hj : slotOf ops j = some t) (ht : Env.get E t = some undef) (hn : t < X.n) : yielded ops a.tmps j = none := by
  unfold yielded
  unfold slotOf at hj
  rw [hj]
  have h1 := h.2.2 t _ ht
  have h2 : a.tmps[t]? = some undef := by
    rw [Array.getElem?_eq_getElem (by rw [h.1]; exact hn)]
    simpa [Array.getD, h.1, hn] using h1
  simp [h2, undef]
/-- The guard looks at an operation that was passed over: this one is passed over as well. -/
theorem Rx.guard_un {op : Op} {j t : Nat} {p : Bool} (hj : slotOf ops j = some t) (ht : Env.get E t = some undef) (hn : Nat.blt t X.n = true) (hd : Nat.blt d X.n = true)
    (h : Rx P X ops rest ((d, undef) :: E) L M Q) : Rx P X ops (⟨some d, op, ty, pos, af, some (j, p)⟩ :: rest) E L M Q := by
  refine ⟨fun a w hs => ?_⟩
  unfold wpListIn
  rw [if_neg (by simp [Region.wanted, yielded_un hs.1 hj ht (by simpa using hn)])]
  exact ⟨fun _ _ => trivial, h.out _ _ ⟨hs.1.put (by simpa using hd) _, hs.2⟩⟩
theorem Dx.guard_un {op : Op} {j t : Nat} {p : Bool} {K : Act → Prop} (hj : slotOf ops j = some t) (ht : Env.get E t = some undef) (hn : Nat.blt t X.n = true) (hd : Nat.blt d X.n = true)
    (h : Dx P X ops rest ((d, undef) :: E) L M K) : Dx P X ops (⟨some d, op, ty, pos, af, some (j, p)⟩ :: rest) E L M K := by
  refine ⟨fun a hs => ?_⟩
  unfold wpQuiet
  rw [if_neg (by simp [Region.wanted, yielded_un hs hj ht (by simpa using hn)])]
  exact h.out _ (hs.put (by simpa using hd) _)
end
end Go.Proofs.YtoiebfpafdcbmaaDoor.K
