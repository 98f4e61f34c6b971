/- Ranges over a function whose rounds all go on: what an iterator owes, the statement's rule. No program in sight. -/
import Derived.Test.YtoiebfpafdcbmaaDoorKm
namespace Go.Proofs.YtoiebfpafdcbmaaDoor.K
open Go Go.RowKit
set_option linter.unusedVariables false
set_option linter.unusedSimpArgs false

instance (priority := low) SubsA.refl {M R : List As} : SubsA M M R := ⟨by
  have h : ∀ (M M' : List As), (∀ A, A ∈ M → In M' A) → Subs M M' R := by
    intro M
    induction M with
    | nil => intro M' _; exact .nil
    | cons A M ih => intro M' h; exact .cons (Inn.gives (.shr (h A List.mem_cons_self))) (ih M' fun B hB => h B (List.mem_cons_of_mem _ hB))
  refine h M M fun A hA => ?_
  induction M with
  | nil => cases hA
  | cons B M ih => rcases List.mem_cons.1 hA with rfl | hA; exact .here; exact .there (ih hA)⟩
instance (priority := low) SubsA.there {M0 M R : List As} {A : As} [h : SubsA M0 M R] : SubsA M0 (A :: M) R := ⟨by
  have k := h.ok
  have hg : ∀ {B : As}, Gives R M B → Gives R (A :: M) B := fun ⟨C, c, hc⟩ => ⟨C, c.thereM, hc⟩
  clear h
  induction k with
  | nil => exact .nil
  | cons h _ ih => exact .cons (hg h) (ih hg)⟩
instance SubsA.app_cons {A : As} {M1 M0 M R : List As} [h : GivA R M A] [k : SubsA (M1 ++ M0) M R] : SubsA ((A :: M1) ++ M0) M R := ⟨.cons h.ok k.ok⟩
instance SubsA.app_nil {M0 M R : List As} [k : SubsA M0 M R] : SubsA ([] ++ M0) M R := ⟨k.ok⟩
theorem Subs.append {M1 M0 M R : List As} (h : Subs M1 M R) (k : Subs M0 M R) : Subs (M1 ++ M0) M R := by
  induction h with
  | nil => exact k
  | cons h _ ih => exact .cons h (ih k)

/-- Several assertions as one. -/
def bag (L : List As) : As where
  P w F := Has w L F
  loc := fun h e => h.loc e
  lt := fun h => h.lt
  ext := fun h e => h.ext e
theorem has_bag {w : World} {L : List As} {F : Nat → Prop} : Has w [bag L] F ↔ Has w L F :=
  ⟨fun ⟨F1, F2, h1, h2, _, h4⟩ => Has.ext h1 fun b => ⟨fun x => (h4 b).2 (.inl x), fun x => ((h4 b).1 x).elim id (fun y => (h2 b y).elim)⟩,
   fun h => ⟨F, fun _ => False, h, fun _ x => x, fun _ _ x => x, fun b => by simp⟩⟩
theorem has_split {w : World} : ∀ {L R : List As} {F : Nat → Prop}, Has w (L ++ R) F → ∃ F1 F2, Has w L F1 ∧ Has w R F2 ∧ (∀ b, F1 b → F2 b → False) ∧ ∀ b, F b ↔ F1 b ∨ F2 b
  | [], _, F, h => ⟨fun _ => False, F, fun _ x => x, h, fun _ x => x.elim, fun b => by simp⟩
  | A :: L, R, F, ⟨G1, G2, g1, g2, g3, g4⟩ => by
    obtain ⟨F1, F2, h1, h2, h3, h4⟩ := has_split (L := L) (R := R) g2
    refine ⟨fun b => G1 b ∨ F1 b, F2, ⟨G1, F1, g1, h1, fun b x y => g3 b x ((h4 b).2 (.inl y)), fun b => Iff.rfl⟩, h2, ?_, ?_⟩
    · rintro b (x | x) y
      · exact g3 b x ((h4 b).2 (.inr y))
      · exact h3 b x y
    · intro b; rw [g4 b, h4 b, or_assoc]
theorem has_bag_cons {w : World} {L R : List As} {F : Nat → Prop} : Has w (bag L :: R) F ↔ Has w (L ++ R) F := by
  constructor
  · rintro ⟨F1, F2, h1, h2, h3, h4⟩
    exact (Has.append h1 h2 h3).ext fun b => (h4 b).symm
  · intro h
    obtain ⟨F1, F2, h1, h2, h3, h4⟩ := has_split h
    exact ⟨F1, F2, h1, h2, h3, h4⟩
section
variable {P : Program} {X : Cx} {E : List (Nat × Value)} {L R M : List As} {Q : Exit → Act → World → Prop} {ops : Array Oper}
theorem Hp.bagIn {w0 w : World} {F0 : Nat → Prop} {A B : List As} (hp : Pick L (bag A :: B) R) (h : Hp w0 F0 L M w) : Hp w0 F0 (bag (A ++ B) :: R) M w := by
  obtain ⟨F, h1, h2, h3, h4⟩ := h
  obtain ⟨F1, F2, k1, k2, k3, k4⟩ := hp.has h1
  exact ⟨F, ⟨F1, F2, has_bag_cons.1 k1, k2, k3, k4⟩, h2, h3, h4⟩
/-- What was gathered, and more. -/
theorem Gx.bagIn {c : Code} (A B : List As) [hp : PickA L (bag A :: B) R] (h : Gx P X c E (bag (A ++ B) :: R) M Q) : Gx P X c E L M Q := ⟨fun a w hs => h.out a w ⟨hs.1, hs.2.bagIn hp.ok⟩⟩
theorem Rx.bagIn {l : List Oper} (A B : List As) [hp : PickA L (bag A :: B) R] (h : Rx P X ops l E (bag (A ++ B) :: R) M Q) : Rx P X ops l E L M Q := ⟨fun a w hs => h.out a w ⟨hs.1, hs.2.bagIn hp.ok⟩⟩
theorem Rx.bagUp {l : List Oper} (B : List As) [hp : PickA L B R] (h : Rx P X ops l E (bag B :: R) M Q) : Rx P X ops l E L M Q := ⟨fun a w hs => h.out a w ⟨hs.1, by
  obtain ⟨F, h1, h2, h3, h4⟩ := hs.2
  obtain ⟨F1, F2, k1, k2, k3, k4⟩ := hp.ok.has h1
  exact ⟨F, ⟨F1, F2, k1, k2, k3, k4⟩, h2, h3, h4⟩⟩⟩
theorem Gx.bagNil {c : Code} (h : Gx P X c E (bag [] :: L) M Q) : Gx P X c E L M Q := ⟨fun a w hs => h.out a w ⟨hs.1, hs.2.new (F1' := fun _ => False) (fun _ x => x) (fun _ x => x.elim) (Eff.refl _ _)⟩⟩
end
theorem YSpc.bag {P : Program} {l : Nat} {args : List Value} {L L0 M0 : List As} {Post Post' : Value → List As → Prop} (h : YSpc P l args (L ++ L0) M0 Post) (hp : ∀ v L1, Post v L1 → Post' v [K.bag L1]) : YSpc P l args (K.bag L :: L0) M0 Post' :=
  ⟨fun w F1 h1 h2 => by
    obtain ⟨fn, tmps, assign, body, hr, hh⟩ := h.out w F1 (has_bag_cons.1 h1) h2
    refine ⟨fn, tmps, assign, body, hr, hh.mono ?_⟩
    rintro e w' ⟨v, L1, F1', he, hP, g1, g2, g3⟩
    exact ⟨v, [K.bag L1], F1', he, hp v L1 hP, has_bag.2 g1, g2, g3⟩⟩

/-! ### Copies -/
theorem run_storeCells_none (w : World) (P : Program) (a : Addr) : (storeCells a [] 0).run P w = .ok () w := by simp [storeCells]
section
variable {P : Program} {X : Cx} {E : List (Nat × Value)} {L L' M : List As} {Q : Exit → Act → World → Prop} {ops : Array Oper} {rest : List Oper} {d : Nat} {ty : TypeId} {pos : String} {af : Array Edge}
/-- copy, into a part of an owned slice of one-cell elements. -/
theorem Rx.copy {t t' e bs : TypeId} {x y : Operand} {v u : Value} {a n m : Nat} {xs ys : List Value} {e' sz' : Nat} [SliceTy P t e 1 bs] (hx : evalO E x = some (subV v a n 1)) (hy : evalO E y = some u)
    [ht : TakeSl L v e' sz' n xs L'] [hi : FindSl L' M u m ys] (he : e' = e ∧ sz' = 1) (ha : a + m ≤ n) (hm : ys.length = m) (h1 : ys.all (·.oneCell') = true) (hn : Nat.blt d X.n = true)
    (k : Rx P X ops rest ((d, .int .i64 m) :: E) (sl e 1 v n (xs.take a ++ ys ++ xs.drop (a + m)) :: L') M Q) :
    Rx P X ops (⟨some d, .call ⟨.builtin .copy, #[x, y], #[t, t']⟩, ty, pos, af, none⟩ :: rest) E L M Q := by
  obtain ⟨rfl, rfl⟩ := he
  refine Rx.of (α := Unit) (fun _ => .int .i64 m) (fun _ => sl e' 1 v n (xs.take a ++ ys ++ xs.drop (a + m)) :: L') rfl rfl hn (fun act ha' w hw => ?_) (fun _ => k)
  obtain ⟨i, z, hu', hinf, hz', hzs, hsz, hbs, hpos⟩ := SliceTy.out P t
  obtain ⟨B, hiB, hB⟩ := hi.ok
  have hBG : ∃ G, B.P w G := by
    obtain ⟨F, f1, f2, f3, f4⟩ := hw
    obtain ⟨_, F2, _, g2, _, g4⟩ := ht.ok.has f1
    cases hiB with
    | own h => exact Has.of_in h g2
    | shr h => exact let ⟨G, g, _⟩ := f2 B h.mem; ⟨G, g⟩
  obtain ⟨G, hG⟩ := hBG
  obtain ⟨q, c, rfl, hc⟩ := hB.cells w G hG
  obtain ⟨F0, hF0⟩ := Hp.of_inn (.own (In.of_take ht.ok)) hw
  have hown := hF0.1
  have hxl : xs.length = n := by simpa using hown.1
  have key : ∃ w', (Builtin.copy_ #[t, t'] ty #[subV v a n 1, .slice q m c]).run P w = .ok (.int .i64 m) w' ∧ w'.ownsRow 0 e' 1 v n (xs.take a ++ ys ++ xs.drop (a + m)) ∧ (w' = w ∨ ∃ g cs, v.ownBlock = some g ∧ w' = w.setRow g cs) := by
    by_cases hm0 : m = 0
    · subst hm0
      have hys : ys = [] := List.eq_nil_of_length_eq_zero hm
      subst hys
      refine ⟨w, ?_, by simpa using hown, .inl rfl⟩
      have hf : ∀ q : Option Addr, (Builtin.firstCells 1 0 (.slice q 0 c)).run P w = .ok #[] w := fun q => by cases q <;> simp [Builtin.firstCells, loadCells, loadCellsFrom]
      rcases hown.2 with ⟨rfl, rfl⟩ | ⟨g, cap, cur, rfl, _⟩
      · simp [Builtin.copy_, run_underlying hu', subV, sizeOf, typeInfo, hinf, hsz, Builtin.lenOf, hf, goInt, storeCells]
      · simp only [subV]
        split <;> simp [Builtin.copy_, run_underlying hu', sizeOf, typeInfo, hinf, hsz, Builtin.lenOf, hf, goInt, storeCells]
    · rcases hc with h | ⟨ad, rfl, hcells⟩
      · exact absurd h hm0
      · rcases hown.2 with ⟨rfl, rfl⟩ | ⟨g, cap, cur, rfl, hbg, hg, hnc, hcm, hcs, htake⟩
        · omega
        · have hne : ¬ cap = a := by omega
          have hf := run_firstCells_some (P := P) w 1 m ad m c ys (by rw [hm, Nat.mul_one]) hcells
          have hst := run_storeCells_at P g a e' ys 0 cur w hg (by rw [hcs, hm]; omega) (fun v hv => List.all_eq_true.1 h1 v hv)
          have hmin : min m (n - a) = m := by omega
          have hsub : subV (.slice (some ⟨g, 0, none⟩) n cap) a n 1 = .slice (some ⟨g, a, none⟩) (n - a) (cap - a) := by
            simp only [subV]; rw [if_neg hne, Option.map_some, add_eq, Nat.zero_add, Nat.mul_one]
          simp only [Nat.add_zero] at hst
          refine ⟨w.setRow g (cur.toList.take a ++ ys ++ cur.toList.drop (a + ys.length)).toArray, ?_, ⟨?_, .inr ⟨g, cap, _, rfl, hbg, setRow_heap w g _ _ _ _ hg, hnc, hcm, ?_, ?_⟩⟩, .inr ⟨g, _, rfl, rfl⟩⟩
          · rw [hsub]
            simp [Builtin.copy_, run_underlying hu', sizeOf, typeInfo, hinf, hsz, Builtin.lenOf, goInt, hmin, hf, hst]
          · simp only [List.length_append, List.length_take, List.length_drop, hxl, hm]; omega
          · have : cur.toList.length = cap * 1 := by simpa using hcs
            simp only [List.size_toArray, List.length_append, List.length_take, List.length_drop, this, hm]; omega
          · have h5 : cur.toList.length = cap * 1 := by simpa using hcs
            rw [← htake, hm]
            apply List.ext_getElem
            · simp only [List.length_append, List.length_take, List.length_drop, h5, hm]; omega
            · intro j h6 h7
              simp only [List.length_take, List.length_append, List.length_drop, h5, hm] at h6
              simp only [List.getElem_take, List.getElem_append, List.length_take, List.length_append, h5, hm, List.getElem_drop]
              split
              · split
                · rename_i h8 h9; rw [dif_pos (by omega)]; rw [dif_pos (by omega)]
                · rename_i h8 h9; rw [dif_pos (by omega)]; rw [dif_neg (by omega)]; congr 1; omega
              · rename_i h8; rw [dif_neg (by omega)]; congr 1; omega
  obtain ⟨w', hr, ho, hw'⟩ := key
  refine ⟨(), w', by simp [execOp, resolve, invoke, builtin, ha'.eval hx, ha'.eval hy, hr], ?_⟩
  refine Hp.turn ht.ok hw fun F1 hF1 => ⟨F1, ⟨ho, hF1.2⟩, fun b hb => .inl hb, ?_⟩
  rcases hw' with rfl | ⟨g, cs, hv, rfl⟩
  · exact Eff.refl _ _
  · exact eff_row w g cs F1 ((hF1.2 g).2 hv)
end

/-! ### Many shared assertions as one -/
def shrAll (L : List As) : As where
  P w F := (∀ A ∈ L, ∃ G, A.P w G ∧ ∀ b, G b → F b) ∧ ∀ b, F b → b < w.heap.size
  loc := fun {w w' F} ⟨h, hl⟩ e => ⟨fun A hA => let ⟨G, g, hg⟩ := h A hA; ⟨G, A.loc g fun b hb => e b (hg b hb), hg⟩, fun b hb => by
    have := e b hb
    rw [Array.getElem?_eq_getElem (hl b hb)] at this
    exact (Array.getElem?_eq_some_iff.1 this).1⟩
  lt := fun ⟨_, h⟩ => h
  ext := fun ⟨h, hl⟩ e => ⟨fun A hA => let ⟨G, g, hg⟩ := h A hA; ⟨G, g, fun b hb => (e b).1 (hg b hb)⟩, fun b hb => hl b ((e b).2 hb)⟩
theorem giv_all {R M Ls : List As} {A : As} (hA : A ∈ Ls) [h : InnA R M (shrAll Ls)] : Gives R M A := ⟨shrAll Ls, h.ok, fun w F hF => hF.1 A hA⟩

/-- An iterator: it hands over n rounds' arguments, one behind the other, and goes on while it is told yes. -/
structure ItAll (P : Program) (f : FuncId) (caps : List Value) (M1 : List As) {α : Type} (n : Nat) (ok : Nat → α → Prop) (args : Nat → α → List Value) (ext : Nat → α → List As) : Prop where
  go : ∀ (l : Nat) (C : Nat → As) (M0 : List As), (∀ i, i < n → ∀ x, ok i x → YSpc P l (args i x) (C i :: ext i x) M0 (fun u L => u = .bool true ∧ L = [C (i + 1)])) →
    Spc P f (.func (.yield l) #[] #[] :: caps) [C 0] (M1 ++ M0) (fun u L => L = [C n])

/-- The slots of a round's arguments. -/
def psEnv : List Tmp → List Value → List (Nat × Value) → List (Nat × Value)
  | t :: ts, v :: vs, E => psEnv ts vs ((t, v) :: E)
  | _, _, E => E
theorem psEnv_knows {n : Nat} {d : List Deferred} : ∀ (ps : List Tmp) (vs : List Value) (E : List (Nat × Value)) (tmps : Array Value), tmps.size = n → (∀ t ∈ ps, t < n) → Knows E { tmps := tmps, defers := d } →
    Knows (psEnv ps vs E) { tmps := (ps.zip vs).foldl (fun tmps (t, a) => tmps.setIfInBounds t a) tmps, defers := d }
  | [], _, _, _, _, _, h => h
  | _ :: _, [], _, _, _, _, h => h
  | t :: ts, v :: vs, E, tmps, hn, hl, h => by
    refine psEnv_knows ts vs ((t, v) :: E) (tmps.setIfInBounds t v) (by simpa using hn) (fun u hu => hl u (List.mem_cons_of_mem _ hu)) ?_
    have ht := hl t List.mem_cons_self
    intro u x hx
    simp only [Env.get] at hx
    by_cases e : t = u
    · subst e; simp at hx; subst hx; simp [hn, ht]
    · rw [beq_no e] at hx
      have := h u x hx
      simp only at this ⊢
      rw [← this]
      simp [Array.getElem?_setIfInBounds_ne e]
theorem zip_size {ps : List Tmp} : ∀ (vs : List Value) (tmps : Array Value), ((ps.zip vs).foldl (fun tmps (t, a) => tmps.setIfInBounds t a) tmps).size = tmps.size := by
  induction ps with
  | nil => intro vs tmps; rfl
  | cons t ts ih =>
    intro vs tmps
    cases vs with
    | nil => rfl
    | cons v vs => simp only [List.zip_cons_cons, List.foldl_cons]; rw [ih]; simp

section
variable {P : Program} {X : Cx} {E : List (Nat × Value)} {L R M : List As} {Q : Exit → Act → World → Prop}
theorem round_next {l : Nat} {r : Loop} {L1 : List As} {w0 : World} {F0 : Nat → Prop} {a : Act} {w : World} {Post : Value → List As → Prop} {n : Nat} (hs : St ⟨n, w0, F0, some l⟩ E L M a w) [hp : PickA L (K.lp l { r with state := .busy } :: L1) R]
    (hP : Post (.bool true) (K.lp l { r with state := .ready, pending := none } :: L1)) : roundQ l r w0 F0 M Post .normal a w :=
  ⟨L1, (hs.2.drop hp.ok), hP⟩

theorem Loop.same {r : Loop} (h1 : r.state = .ready) (h2 : r.pending = none) : { r with state := .ready, pending := none } = r := by
  cases r; simp_all

/-- A range over an iterator, each round of which goes on. -/
theorem Gx.rangeAll {α : Type} {n : Nat} {f : FuncId} {caps : List Value} {M1 : List As} {ok : Nat → α → Prop} {args : Nat → α → List Value} {ext : Nat → α → List As} (it : ItAll P f caps M1 n ok args ext)
    (Linv : Nat → List As) (M0 : List As) {g : Operand} {ps : List Tmp} {assign body : Code} (hX : X.rd = none) (hg : evalO E g = some (.func (.func f) #[] caps.toArray)) [hp : PickA L (Linv 0) R] (hps : ps.all (fun t => Nat.blt t X.n) = true) (hargs : ∀ i x, (args i x).length = ps.length)
    (hsub : ∀ b, Subs (M1 ++ M0) (dfb b :: M) R)
    (round : ∀ i, i < n → ∀ x, ok i x → ∀ l r w0 F0, Entered X.n E ps.toArray assign body r →
      Gx P ⟨X.n, w0, F0, some l⟩ assign (psEnv ps (args i x) E) (K.lp l r :: (Linv i ++ ext i x)) M0 (fun ex a w => ex = .normal ∧ ∃ E1 L1, St ⟨X.n, w0, F0, some l⟩ E1 (K.lp l r :: L1) M0 a w ∧
        Gx P ⟨X.n, w0, F0, some l⟩ body E1 (K.lp l { r with state := .busy } :: L1) M0 (roundQ l r w0 F0 M0 (fun u L => u = .bool true ∧ L = K.lp l { r with state := .ready, pending := none } :: Linv (i + 1)))))
    (fin : ∀ b, ∀ a w, St X E (Linv n ++ R) (dfb b :: M) a w → Q .normal a w) : Gx P X (.rangeFunc g ps.toArray assign body) E L M Q := by
  refine Gx.rangeFunc hX hg fun b l r hr => ?_
  have hsame := Loop.same hr.st hr.pd
  have hC := it.go l (fun i => bag (K.lp l r :: Linv i)) M0 fun i hi x hx => by
    refine YSpc.bag (Post := fun u L => u = .bool true ∧ L = K.lp l { r with state := .ready, pending := none } :: Linv (i + 1)) ?_ (fun v L1 h => ⟨h.1, by rw [h.2, hsame]⟩)
    refine YSpc.of_round (n := X.n) (E := psEnv ps (args i x) E) hr.st (by rw [hr.ps]; simpa using hargs i x) ?_ ?_ fun w0 F0 => ?_
    · rw [hr.ps]
      rw [show ps.toArray.zip (args i x).toArray = (ps.zip (args i x)).toArray by simp]
      simp only [List.foldl_toArray]
      rw [zip_size]; exact hr.sz
    · rw [hr.ps]
      rw [show ps.toArray.zip (args i x).toArray = (ps.zip (args i x)).toArray by simp]
      simp only [List.foldl_toArray]
      exact psEnv_knows ps (args i x) E r.tmps hr.sz (fun t ht => by have := List.all_eq_true.1 hps t ht; simpa using this) hr.kn
    · have ha := hr.as
      have hb := hr.bd
      subst ha; subst hb
      exact round i hi x hx l r w0 F0 hr
  have hS : Spc P f (.func (.yield l) #[] #[] :: caps) (K.lp l r :: Linv 0) (M1 ++ M0) (fun u L => L = K.lp l r :: Linv n) := ⟨hC.go, fun w F1 h1 h2 => by
    refine (hC.out w F1 (has_bag.2 h1) h2).mono ?_
    rintro e w' ⟨v, L1, F1', he, rfl, g1, g2, g3⟩
    exact ⟨v, _, F1', he, rfl, has_bag.1 g1, g2, g3⟩⟩
  refine ⟨Linv 0, R, M1 ++ M0, _, hp.ok, hsub b, hS, ?_⟩
  rintro v L1 rfl
  refine ⟨r, Linv n, rfl, by rw [hr.st]; simp, ?_⟩
  rw [hr.pd]
  exact fin b
end
end Go.Proofs.YtoiebfpafdcbmaaDoor.K
