/- call: pieces, intents, replies: right ones. -/
import Derived.Test.YtnanpamfdjnomaaCallF
import Derived.Test.YtnanpamfdjnomaaALFn
namespace Go.Proofs.Ytnanpamfdjnomaa
open Go Go.RowKit Go.Proofs.Ytnanpamfdjnomaa.AL
set_option maxRecDepth 100000
set_option linter.unusedSimpArgs false

/-- A piece, an intent, a reply as they are told. -/
structure Pc where
  st : Int
  gn : Int
  ix : Int
  d : List UInt8
  deriving DecidableEq
structure It where
  st : Int
  gn : Int
  d : List UInt8
  deriving DecidableEq
structure Rp where
  cd : Int
  bt : Int
  ps : List Pc
  is : List It
  deriving DecidableEq
abbrev Pc.cells (p : Pc) : List PV := [.val (.int .i64 p.st), .val (.int .i64 p.gn), .val (.int .i64 p.ix), .lst 1 (encB p.d)]
abbrev It.cells (p : It) : List PV := [.val (.int .i64 p.st), .val (.int .i64 p.gn), .lst 1 (encB p.d)]
abbrev Pc.avs (p : Pc) : List AV := [.int .i64 p.st, .int .i64 p.gn, .int .i64 p.ix, AV.bytes p.d]
abbrev It.avs (p : It) : List AV := [.int .i64 p.st, .int .i64 p.gn, AV.bytes p.d]
def encP (l : List Pc) : List (List PV) := l.map Pc.cells
def encI (l : List It) : List (List PV) := l.map It.cells
theorem encP_length (l : List Pc) : (encP l).length = l.length := by simp [encP]
theorem encI_length (l : List It) : (encI l).length = l.length := by simp [encI]
theorem encP_get {l : List Pc} {i : Nat} (h : i < l.length) : (encP l).getD i [] = Pc.cells l[i] := by simp [encP, List.getD_eq_getElem?_getD, List.getElem?_eq_getElem h]
theorem encI_get {l : List It} {i : Nat} (h : i < l.length) : (encI l).getD i [] = It.cells l[i] := by simp [encI, List.getD_eq_getElem?_getD, List.getElem?_eq_getElem h]
theorem encP_append (l : List Pc) (p : Pc) : encP l ++ [Pc.cells p] = encP (l ++ [p]) := by simp [encP]
theorem encI_append (l : List It) (p : It) : encI l ++ [It.cells p] = encI (l ++ [p]) := by simp [encI]
abbrev Rp.avs (p : Rp) : List AV := [.int .i64 p.cd, .int .i64 p.bt, .pv (.lst 4 (encP p.ps)), .pv (.lst 3 (encI p.is))]

theorem take_snoc' {α : Type} {l : List α} {i : Nat} (h : i < l.length) : l.take (i + 1) = l.take i ++ [l[i]] := by rw [List.take_add_one, List.getElem?_eq_getElem h]; rfl
structure Pc.right (q : Pc) : Prop where
  s1 : 0 ≤ q.st
  s2 : q.st < 40
  g1 : 1 ≤ q.gn
  g2 : q.gn ≤ 1099511627776
  i1 : 0 ≤ q.ix
  i2 : q.ix < 6
  d1 : q.d.length = 32
instance (q : Pc) : Decidable q.right := decidable_of_iff (0 ≤ q.st ∧ q.st < 40 ∧ 1 ≤ q.gn ∧ q.gn ≤ 1099511627776 ∧ 0 ≤ q.ix ∧ q.ix < 6 ∧ q.d.length = 32)
  ⟨fun ⟨a, b, c, d, e, f, g⟩ => ⟨a, b, c, d, e, f, g⟩, fun h => ⟨h.s1, h.s2, h.g1, h.g2, h.i1, h.i2, h.d1⟩⟩
structure It.right (q : It) : Prop where
  s1 : 0 ≤ q.st
  s2 : q.st < 40
  g1 : 1 ≤ q.gn
  g2 : q.gn ≤ 1099511627776
  d1 : q.d.length = 128
instance (q : It) : Decidable q.right := decidable_of_iff (0 ≤ q.st ∧ q.st < 40 ∧ 1 ≤ q.gn ∧ q.gn ≤ 1099511627776 ∧ q.d.length = 128)
  ⟨fun ⟨a, b, c, d, e⟩ => ⟨a, b, c, d, e⟩, fun h => ⟨h.s1, h.s2, h.g1, h.g2, h.d1⟩⟩
structure Rp.right (p : Rp) : Prop where
  p1 : ∀ x ∈ p.ps, x.right
  i1 : ∀ x ∈ p.is, x.right
  c1 : 0 ≤ p.cd
  c2 : p.cd ≤ 255
  b1 : 0 ≤ p.bt
  b2 : p.bt ≤ 2147483647
  p2 : p.ps.length ≤ 2
  i2 : p.is.length ≤ 16
instance (p : Rp) : Decidable p.right := decidable_of_iff ((∀ x ∈ p.ps, x.right) ∧ (∀ x ∈ p.is, x.right) ∧ 0 ≤ p.cd ∧ p.cd ≤ 255 ∧ 0 ≤ p.bt ∧ p.bt ≤ 2147483647 ∧ p.ps.length ≤ 2 ∧ p.is.length ≤ 16)
  ⟨fun ⟨a, b, c, d, e, f, g, h⟩ => ⟨a, b, c, d, e, f, g, h⟩, fun h => ⟨h.p1, h.i1, h.c1, h.c2, h.b1, h.b2, h.p2, h.i2⟩⟩
theorem cRightP (q : Pc) (σ : Store) : ACalls Try.prog 50 [.agg q.avs] σ (fun x s => x = .bool (decide q.right) ∧ s = σ) := by
  refine ACalls.of_arun Try.func50 c50_eq c50_n c50_rs (by simp) fun hwf => ?_
  by_cases h0 : 0 ≤ q.st
  case neg =>
    have d0 : decide (q.st ≥ 0) = false := decide_eq_false (by omega)
    simp only [go_sem, ↓reduceIte, reduceCtorEq, Nat.reduceEqDiff, Nat.reduceLT, Nat.reduceLeDiff, Nat.reduceAdd, Nat.reduceMul, Nat.reduceSub, Nat.reduceBEq, Nat.reduceDiv, Int.reduceNeg, Int.reduceLT, Int.reduceLE, Int.reduceEq, Int.reduceToNat, Int.reduceAdd, Int.reduceSub, Int.reduceMul, Int.reduceBEq, Int.reduceBNe, reduceBEq, c50, c50_r0, encB_length, d0]
    simp only [go_sem, ↓reduceIte, reduceCtorEq, Nat.reduceEqDiff, Nat.reduceLT, Nat.reduceLeDiff, Nat.reduceAdd, Nat.reduceMul, Nat.reduceSub, Nat.reduceBEq, Nat.reduceDiv, Int.reduceNeg, Int.reduceLT, Int.reduceLE, Int.reduceEq, Int.reduceToNat, Int.reduceAdd, Int.reduceSub, Int.reduceMul, Int.reduceBEq, Int.reduceBNe, reduceBEq, c50_r1, encB_length, d0]
    exact ⟨_, _, _, rfl, WeakV.none hwf (by repeat (first | exact Agree.refl _ | refine Agree.newObj ?_ _ | refine Agree.newTok ?_ _ _ _ | refine Agree.killTok ?_ (by omega) | refine Agree.setObj ?_ (by omega) _ | refine Agree.dropObj ?_ (by omega))) (.pv _ _ _), by rw [decide_eq_false (fun h : q.right => h0 h.s1)], rfl⟩
  have d0 : decide (q.st ≥ 0) = true := decide_eq_true (by omega)
  by_cases h1 : q.st < 40
  case neg =>
    have d1 : decide (q.st < 40) = false := decide_eq_false (by omega)
    simp only [go_sem, ↓reduceIte, reduceCtorEq, Nat.reduceEqDiff, Nat.reduceLT, Nat.reduceLeDiff, Nat.reduceAdd, Nat.reduceMul, Nat.reduceSub, Nat.reduceBEq, Nat.reduceDiv, Int.reduceNeg, Int.reduceLT, Int.reduceLE, Int.reduceEq, Int.reduceToNat, Int.reduceAdd, Int.reduceSub, Int.reduceMul, Int.reduceBEq, Int.reduceBNe, reduceBEq, c50, c50_r0, encB_length, d0, d1]
    simp only [go_sem, ↓reduceIte, reduceCtorEq, Nat.reduceEqDiff, Nat.reduceLT, Nat.reduceLeDiff, Nat.reduceAdd, Nat.reduceMul, Nat.reduceSub, Nat.reduceBEq, Nat.reduceDiv, Int.reduceNeg, Int.reduceLT, Int.reduceLE, Int.reduceEq, Int.reduceToNat, Int.reduceAdd, Int.reduceSub, Int.reduceMul, Int.reduceBEq, Int.reduceBNe, reduceBEq, c50_r1, encB_length, d0, d1]
    exact ⟨_, _, _, rfl, WeakV.none hwf (by repeat (first | exact Agree.refl _ | refine Agree.newObj ?_ _ | refine Agree.newTok ?_ _ _ _ | refine Agree.killTok ?_ (by omega) | refine Agree.setObj ?_ (by omega) _ | refine Agree.dropObj ?_ (by omega))) (.pv _ _ _), by rw [decide_eq_false (fun h : q.right => h1 h.s2)], rfl⟩
  have d1 : decide (q.st < 40) = true := decide_eq_true (by omega)
  by_cases h2 : 1 ≤ q.gn
  case neg =>
    have d2 : decide (q.gn ≥ 1) = false := decide_eq_false (by omega)
    simp only [go_sem, ↓reduceIte, reduceCtorEq, Nat.reduceEqDiff, Nat.reduceLT, Nat.reduceLeDiff, Nat.reduceAdd, Nat.reduceMul, Nat.reduceSub, Nat.reduceBEq, Nat.reduceDiv, Int.reduceNeg, Int.reduceLT, Int.reduceLE, Int.reduceEq, Int.reduceToNat, Int.reduceAdd, Int.reduceSub, Int.reduceMul, Int.reduceBEq, Int.reduceBNe, reduceBEq, c50, c50_r0, encB_length, d0, d1, d2]
    simp only [go_sem, ↓reduceIte, reduceCtorEq, Nat.reduceEqDiff, Nat.reduceLT, Nat.reduceLeDiff, Nat.reduceAdd, Nat.reduceMul, Nat.reduceSub, Nat.reduceBEq, Nat.reduceDiv, Int.reduceNeg, Int.reduceLT, Int.reduceLE, Int.reduceEq, Int.reduceToNat, Int.reduceAdd, Int.reduceSub, Int.reduceMul, Int.reduceBEq, Int.reduceBNe, reduceBEq, c50_r1, encB_length, d0, d1, d2]
    exact ⟨_, _, _, rfl, WeakV.none hwf (by repeat (first | exact Agree.refl _ | refine Agree.newObj ?_ _ | refine Agree.newTok ?_ _ _ _ | refine Agree.killTok ?_ (by omega) | refine Agree.setObj ?_ (by omega) _ | refine Agree.dropObj ?_ (by omega))) (.pv _ _ _), by rw [decide_eq_false (fun h : q.right => h2 h.g1)], rfl⟩
  have d2 : decide (q.gn ≥ 1) = true := decide_eq_true (by omega)
  by_cases h3 : q.gn ≤ 1099511627776
  case neg =>
    have d3 : decide (q.gn ≤ 1099511627776) = false := decide_eq_false (by omega)
    simp only [go_sem, ↓reduceIte, reduceCtorEq, Nat.reduceEqDiff, Nat.reduceLT, Nat.reduceLeDiff, Nat.reduceAdd, Nat.reduceMul, Nat.reduceSub, Nat.reduceBEq, Nat.reduceDiv, Int.reduceNeg, Int.reduceLT, Int.reduceLE, Int.reduceEq, Int.reduceToNat, Int.reduceAdd, Int.reduceSub, Int.reduceMul, Int.reduceBEq, Int.reduceBNe, reduceBEq, c50, c50_r0, encB_length, d0, d1, d2, d3]
    simp only [go_sem, ↓reduceIte, reduceCtorEq, Nat.reduceEqDiff, Nat.reduceLT, Nat.reduceLeDiff, Nat.reduceAdd, Nat.reduceMul, Nat.reduceSub, Nat.reduceBEq, Nat.reduceDiv, Int.reduceNeg, Int.reduceLT, Int.reduceLE, Int.reduceEq, Int.reduceToNat, Int.reduceAdd, Int.reduceSub, Int.reduceMul, Int.reduceBEq, Int.reduceBNe, reduceBEq, c50_r1, encB_length, d0, d1, d2, d3]
    exact ⟨_, _, _, rfl, WeakV.none hwf (by repeat (first | exact Agree.refl _ | refine Agree.newObj ?_ _ | refine Agree.newTok ?_ _ _ _ | refine Agree.killTok ?_ (by omega) | refine Agree.setObj ?_ (by omega) _ | refine Agree.dropObj ?_ (by omega))) (.pv _ _ _), by rw [decide_eq_false (fun h : q.right => h3 h.g2)], rfl⟩
  have d3 : decide (q.gn ≤ 1099511627776) = true := decide_eq_true (by omega)
  by_cases h4 : 0 ≤ q.ix
  case neg =>
    have d4 : decide (q.ix ≥ 0) = false := decide_eq_false (by omega)
    simp only [go_sem, ↓reduceIte, reduceCtorEq, Nat.reduceEqDiff, Nat.reduceLT, Nat.reduceLeDiff, Nat.reduceAdd, Nat.reduceMul, Nat.reduceSub, Nat.reduceBEq, Nat.reduceDiv, Int.reduceNeg, Int.reduceLT, Int.reduceLE, Int.reduceEq, Int.reduceToNat, Int.reduceAdd, Int.reduceSub, Int.reduceMul, Int.reduceBEq, Int.reduceBNe, reduceBEq, c50, c50_r0, encB_length, d0, d1, d2, d3, d4]
    simp only [go_sem, ↓reduceIte, reduceCtorEq, Nat.reduceEqDiff, Nat.reduceLT, Nat.reduceLeDiff, Nat.reduceAdd, Nat.reduceMul, Nat.reduceSub, Nat.reduceBEq, Nat.reduceDiv, Int.reduceNeg, Int.reduceLT, Int.reduceLE, Int.reduceEq, Int.reduceToNat, Int.reduceAdd, Int.reduceSub, Int.reduceMul, Int.reduceBEq, Int.reduceBNe, reduceBEq, c50_r1, encB_length, d0, d1, d2, d3, d4]
    exact ⟨_, _, _, rfl, WeakV.none hwf (by repeat (first | exact Agree.refl _ | refine Agree.newObj ?_ _ | refine Agree.newTok ?_ _ _ _ | refine Agree.killTok ?_ (by omega) | refine Agree.setObj ?_ (by omega) _ | refine Agree.dropObj ?_ (by omega))) (.pv _ _ _), by rw [decide_eq_false (fun h : q.right => h4 h.i1)], rfl⟩
  have d4 : decide (q.ix ≥ 0) = true := decide_eq_true (by omega)
  by_cases h5 : q.ix < 6
  case neg =>
    have d5 : decide (q.ix < 6) = false := decide_eq_false (by omega)
    simp only [go_sem, ↓reduceIte, reduceCtorEq, Nat.reduceEqDiff, Nat.reduceLT, Nat.reduceLeDiff, Nat.reduceAdd, Nat.reduceMul, Nat.reduceSub, Nat.reduceBEq, Nat.reduceDiv, Int.reduceNeg, Int.reduceLT, Int.reduceLE, Int.reduceEq, Int.reduceToNat, Int.reduceAdd, Int.reduceSub, Int.reduceMul, Int.reduceBEq, Int.reduceBNe, reduceBEq, c50, c50_r0, encB_length, d0, d1, d2, d3, d4, d5]
    simp only [go_sem, ↓reduceIte, reduceCtorEq, Nat.reduceEqDiff, Nat.reduceLT, Nat.reduceLeDiff, Nat.reduceAdd, Nat.reduceMul, Nat.reduceSub, Nat.reduceBEq, Nat.reduceDiv, Int.reduceNeg, Int.reduceLT, Int.reduceLE, Int.reduceEq, Int.reduceToNat, Int.reduceAdd, Int.reduceSub, Int.reduceMul, Int.reduceBEq, Int.reduceBNe, reduceBEq, c50_r1, encB_length, d0, d1, d2, d3, d4, d5]
    exact ⟨_, _, _, rfl, WeakV.none hwf (by repeat (first | exact Agree.refl _ | refine Agree.newObj ?_ _ | refine Agree.newTok ?_ _ _ _ | refine Agree.killTok ?_ (by omega) | refine Agree.setObj ?_ (by omega) _ | refine Agree.dropObj ?_ (by omega))) (.pv _ _ _), by rw [decide_eq_false (fun h : q.right => h5 h.i2)], rfl⟩
  have d5 : decide (q.ix < 6) = true := decide_eq_true (by omega)
  by_cases h6 : q.d.length = 32
  case neg =>
    have d6 : ((q.d.length : Int) == 32) = false := by simp; omega
    simp only [go_sem, ↓reduceIte, reduceCtorEq, Nat.reduceEqDiff, Nat.reduceLT, Nat.reduceLeDiff, Nat.reduceAdd, Nat.reduceMul, Nat.reduceSub, Nat.reduceBEq, Nat.reduceDiv, Int.reduceNeg, Int.reduceLT, Int.reduceLE, Int.reduceEq, Int.reduceToNat, Int.reduceAdd, Int.reduceSub, Int.reduceMul, Int.reduceBEq, Int.reduceBNe, reduceBEq, c50, c50_r0, encB_length, d0, d1, d2, d3, d4, d5, d6]
    simp only [go_sem, ↓reduceIte, reduceCtorEq, Nat.reduceEqDiff, Nat.reduceLT, Nat.reduceLeDiff, Nat.reduceAdd, Nat.reduceMul, Nat.reduceSub, Nat.reduceBEq, Nat.reduceDiv, Int.reduceNeg, Int.reduceLT, Int.reduceLE, Int.reduceEq, Int.reduceToNat, Int.reduceAdd, Int.reduceSub, Int.reduceMul, Int.reduceBEq, Int.reduceBNe, reduceBEq, c50_r1, encB_length, d0, d1, d2, d3, d4, d5, d6]
    exact ⟨_, _, _, rfl, WeakV.none hwf (by repeat (first | exact Agree.refl _ | refine Agree.newObj ?_ _ | refine Agree.newTok ?_ _ _ _ | refine Agree.killTok ?_ (by omega) | refine Agree.setObj ?_ (by omega) _ | refine Agree.dropObj ?_ (by omega))) (.pv _ _ _), by rw [decide_eq_false (fun h : q.right => h6 h.d1)], rfl⟩
  have d6 : ((q.d.length : Int) == 32) = true := by simp; omega
  simp only [go_sem, ↓reduceIte, reduceCtorEq, Nat.reduceEqDiff, Nat.reduceLT, Nat.reduceLeDiff, Nat.reduceAdd, Nat.reduceMul, Nat.reduceSub, Nat.reduceBEq, Nat.reduceDiv, Int.reduceNeg, Int.reduceLT, Int.reduceLE, Int.reduceEq, Int.reduceToNat, Int.reduceAdd, Int.reduceSub, Int.reduceMul, Int.reduceBEq, Int.reduceBNe, reduceBEq, c50, c50_r0, encB_length, d0, d1, d2, d3, d4, d5, d6]
  simp only [go_sem, ↓reduceIte, reduceCtorEq, Nat.reduceEqDiff, Nat.reduceLT, Nat.reduceLeDiff, Nat.reduceAdd, Nat.reduceMul, Nat.reduceSub, Nat.reduceBEq, Nat.reduceDiv, Int.reduceNeg, Int.reduceLT, Int.reduceLE, Int.reduceEq, Int.reduceToNat, Int.reduceAdd, Int.reduceSub, Int.reduceMul, Int.reduceBEq, Int.reduceBNe, reduceBEq, c50_r1, encB_length, d0, d1, d2, d3, d4, d5, d6]
  exact ⟨_, _, _, rfl, WeakV.none hwf (by repeat (first | exact Agree.refl _ | refine Agree.newObj ?_ _ | refine Agree.newTok ?_ _ _ _ | refine Agree.killTok ?_ (by omega) | refine Agree.setObj ?_ (by omega) _ | refine Agree.dropObj ?_ (by omega))) (.pv _ _ _), by rw [decide_eq_true (⟨h0, h1, h2, h3, h4, h5, h6⟩ : q.right)], rfl⟩
theorem rRightP (q : Pc) (σ : Store) : ACalls Try.prog 39 [.agg q.avs] σ (fun x s => x = .bool (decide q.right) ∧ s = σ) := by
  refine ACalls.of_arun Try.func39 c39_eq c39_n c39_rs (by simp) fun hwf => ?_
  by_cases h0 : 0 ≤ q.st
  case neg =>
    have d0 : decide (q.st ≥ 0) = false := decide_eq_false (by omega)
    simp only [go_sem, ↓reduceIte, reduceCtorEq, Nat.reduceEqDiff, Nat.reduceLT, Nat.reduceLeDiff, Nat.reduceAdd, Nat.reduceMul, Nat.reduceSub, Nat.reduceBEq, Nat.reduceDiv, Int.reduceNeg, Int.reduceLT, Int.reduceLE, Int.reduceEq, Int.reduceToNat, Int.reduceAdd, Int.reduceSub, Int.reduceMul, Int.reduceBEq, Int.reduceBNe, reduceBEq, c39, c39_r0, encB_length, d0]
    simp only [go_sem, ↓reduceIte, reduceCtorEq, Nat.reduceEqDiff, Nat.reduceLT, Nat.reduceLeDiff, Nat.reduceAdd, Nat.reduceMul, Nat.reduceSub, Nat.reduceBEq, Nat.reduceDiv, Int.reduceNeg, Int.reduceLT, Int.reduceLE, Int.reduceEq, Int.reduceToNat, Int.reduceAdd, Int.reduceSub, Int.reduceMul, Int.reduceBEq, Int.reduceBNe, reduceBEq, c39_r1, encB_length, d0]
    exact ⟨_, _, _, rfl, WeakV.none hwf (by repeat (first | exact Agree.refl _ | refine Agree.newObj ?_ _ | refine Agree.newTok ?_ _ _ _ | refine Agree.killTok ?_ (by omega) | refine Agree.setObj ?_ (by omega) _ | refine Agree.dropObj ?_ (by omega))) (.pv _ _ _), by rw [decide_eq_false (fun h : q.right => h0 h.s1)], rfl⟩
  have d0 : decide (q.st ≥ 0) = true := decide_eq_true (by omega)
  by_cases h1 : q.st < 40
  case neg =>
    have d1 : decide (q.st < 40) = false := decide_eq_false (by omega)
    simp only [go_sem, ↓reduceIte, reduceCtorEq, Nat.reduceEqDiff, Nat.reduceLT, Nat.reduceLeDiff, Nat.reduceAdd, Nat.reduceMul, Nat.reduceSub, Nat.reduceBEq, Nat.reduceDiv, Int.reduceNeg, Int.reduceLT, Int.reduceLE, Int.reduceEq, Int.reduceToNat, Int.reduceAdd, Int.reduceSub, Int.reduceMul, Int.reduceBEq, Int.reduceBNe, reduceBEq, c39, c39_r0, encB_length, d0, d1]
    simp only [go_sem, ↓reduceIte, reduceCtorEq, Nat.reduceEqDiff, Nat.reduceLT, Nat.reduceLeDiff, Nat.reduceAdd, Nat.reduceMul, Nat.reduceSub, Nat.reduceBEq, Nat.reduceDiv, Int.reduceNeg, Int.reduceLT, Int.reduceLE, Int.reduceEq, Int.reduceToNat, Int.reduceAdd, Int.reduceSub, Int.reduceMul, Int.reduceBEq, Int.reduceBNe, reduceBEq, c39_r1, encB_length, d0, d1]
    exact ⟨_, _, _, rfl, WeakV.none hwf (by repeat (first | exact Agree.refl _ | refine Agree.newObj ?_ _ | refine Agree.newTok ?_ _ _ _ | refine Agree.killTok ?_ (by omega) | refine Agree.setObj ?_ (by omega) _ | refine Agree.dropObj ?_ (by omega))) (.pv _ _ _), by rw [decide_eq_false (fun h : q.right => h1 h.s2)], rfl⟩
  have d1 : decide (q.st < 40) = true := decide_eq_true (by omega)
  by_cases h2 : 1 ≤ q.gn
  case neg =>
    have d2 : decide (q.gn ≥ 1) = false := decide_eq_false (by omega)
    simp only [go_sem, ↓reduceIte, reduceCtorEq, Nat.reduceEqDiff, Nat.reduceLT, Nat.reduceLeDiff, Nat.reduceAdd, Nat.reduceMul, Nat.reduceSub, Nat.reduceBEq, Nat.reduceDiv, Int.reduceNeg, Int.reduceLT, Int.reduceLE, Int.reduceEq, Int.reduceToNat, Int.reduceAdd, Int.reduceSub, Int.reduceMul, Int.reduceBEq, Int.reduceBNe, reduceBEq, c39, c39_r0, encB_length, d0, d1, d2]
    simp only [go_sem, ↓reduceIte, reduceCtorEq, Nat.reduceEqDiff, Nat.reduceLT, Nat.reduceLeDiff, Nat.reduceAdd, Nat.reduceMul, Nat.reduceSub, Nat.reduceBEq, Nat.reduceDiv, Int.reduceNeg, Int.reduceLT, Int.reduceLE, Int.reduceEq, Int.reduceToNat, Int.reduceAdd, Int.reduceSub, Int.reduceMul, Int.reduceBEq, Int.reduceBNe, reduceBEq, c39_r1, encB_length, d0, d1, d2]
    exact ⟨_, _, _, rfl, WeakV.none hwf (by repeat (first | exact Agree.refl _ | refine Agree.newObj ?_ _ | refine Agree.newTok ?_ _ _ _ | refine Agree.killTok ?_ (by omega) | refine Agree.setObj ?_ (by omega) _ | refine Agree.dropObj ?_ (by omega))) (.pv _ _ _), by rw [decide_eq_false (fun h : q.right => h2 h.g1)], rfl⟩
  have d2 : decide (q.gn ≥ 1) = true := decide_eq_true (by omega)
  by_cases h3 : q.gn ≤ 1099511627776
  case neg =>
    have d3 : decide (q.gn ≤ 1099511627776) = false := decide_eq_false (by omega)
    simp only [go_sem, ↓reduceIte, reduceCtorEq, Nat.reduceEqDiff, Nat.reduceLT, Nat.reduceLeDiff, Nat.reduceAdd, Nat.reduceMul, Nat.reduceSub, Nat.reduceBEq, Nat.reduceDiv, Int.reduceNeg, Int.reduceLT, Int.reduceLE, Int.reduceEq, Int.reduceToNat, Int.reduceAdd, Int.reduceSub, Int.reduceMul, Int.reduceBEq, Int.reduceBNe, reduceBEq, c39, c39_r0, encB_length, d0, d1, d2, d3]
    simp only [go_sem, ↓reduceIte, reduceCtorEq, Nat.reduceEqDiff, Nat.reduceLT, Nat.reduceLeDiff, Nat.reduceAdd, Nat.reduceMul, Nat.reduceSub, Nat.reduceBEq, Nat.reduceDiv, Int.reduceNeg, Int.reduceLT, Int.reduceLE, Int.reduceEq, Int.reduceToNat, Int.reduceAdd, Int.reduceSub, Int.reduceMul, Int.reduceBEq, Int.reduceBNe, reduceBEq, c39_r1, encB_length, d0, d1, d2, d3]
    exact ⟨_, _, _, rfl, WeakV.none hwf (by repeat (first | exact Agree.refl _ | refine Agree.newObj ?_ _ | refine Agree.newTok ?_ _ _ _ | refine Agree.killTok ?_ (by omega) | refine Agree.setObj ?_ (by omega) _ | refine Agree.dropObj ?_ (by omega))) (.pv _ _ _), by rw [decide_eq_false (fun h : q.right => h3 h.g2)], rfl⟩
  have d3 : decide (q.gn ≤ 1099511627776) = true := decide_eq_true (by omega)
  by_cases h4 : 0 ≤ q.ix
  case neg =>
    have d4 : decide (q.ix ≥ 0) = false := decide_eq_false (by omega)
    simp only [go_sem, ↓reduceIte, reduceCtorEq, Nat.reduceEqDiff, Nat.reduceLT, Nat.reduceLeDiff, Nat.reduceAdd, Nat.reduceMul, Nat.reduceSub, Nat.reduceBEq, Nat.reduceDiv, Int.reduceNeg, Int.reduceLT, Int.reduceLE, Int.reduceEq, Int.reduceToNat, Int.reduceAdd, Int.reduceSub, Int.reduceMul, Int.reduceBEq, Int.reduceBNe, reduceBEq, c39, c39_r0, encB_length, d0, d1, d2, d3, d4]
    simp only [go_sem, ↓reduceIte, reduceCtorEq, Nat.reduceEqDiff, Nat.reduceLT, Nat.reduceLeDiff, Nat.reduceAdd, Nat.reduceMul, Nat.reduceSub, Nat.reduceBEq, Nat.reduceDiv, Int.reduceNeg, Int.reduceLT, Int.reduceLE, Int.reduceEq, Int.reduceToNat, Int.reduceAdd, Int.reduceSub, Int.reduceMul, Int.reduceBEq, Int.reduceBNe, reduceBEq, c39_r1, encB_length, d0, d1, d2, d3, d4]
    exact ⟨_, _, _, rfl, WeakV.none hwf (by repeat (first | exact Agree.refl _ | refine Agree.newObj ?_ _ | refine Agree.newTok ?_ _ _ _ | refine Agree.killTok ?_ (by omega) | refine Agree.setObj ?_ (by omega) _ | refine Agree.dropObj ?_ (by omega))) (.pv _ _ _), by rw [decide_eq_false (fun h : q.right => h4 h.i1)], rfl⟩
  have d4 : decide (q.ix ≥ 0) = true := decide_eq_true (by omega)
  by_cases h5 : q.ix < 6
  case neg =>
    have d5 : decide (q.ix < 6) = false := decide_eq_false (by omega)
    simp only [go_sem, ↓reduceIte, reduceCtorEq, Nat.reduceEqDiff, Nat.reduceLT, Nat.reduceLeDiff, Nat.reduceAdd, Nat.reduceMul, Nat.reduceSub, Nat.reduceBEq, Nat.reduceDiv, Int.reduceNeg, Int.reduceLT, Int.reduceLE, Int.reduceEq, Int.reduceToNat, Int.reduceAdd, Int.reduceSub, Int.reduceMul, Int.reduceBEq, Int.reduceBNe, reduceBEq, c39, c39_r0, encB_length, d0, d1, d2, d3, d4, d5]
    simp only [go_sem, ↓reduceIte, reduceCtorEq, Nat.reduceEqDiff, Nat.reduceLT, Nat.reduceLeDiff, Nat.reduceAdd, Nat.reduceMul, Nat.reduceSub, Nat.reduceBEq, Nat.reduceDiv, Int.reduceNeg, Int.reduceLT, Int.reduceLE, Int.reduceEq, Int.reduceToNat, Int.reduceAdd, Int.reduceSub, Int.reduceMul, Int.reduceBEq, Int.reduceBNe, reduceBEq, c39_r1, encB_length, d0, d1, d2, d3, d4, d5]
    exact ⟨_, _, _, rfl, WeakV.none hwf (by repeat (first | exact Agree.refl _ | refine Agree.newObj ?_ _ | refine Agree.newTok ?_ _ _ _ | refine Agree.killTok ?_ (by omega) | refine Agree.setObj ?_ (by omega) _ | refine Agree.dropObj ?_ (by omega))) (.pv _ _ _), by rw [decide_eq_false (fun h : q.right => h5 h.i2)], rfl⟩
  have d5 : decide (q.ix < 6) = true := decide_eq_true (by omega)
  by_cases h6 : q.d.length = 32
  case neg =>
    have d6 : ((q.d.length : Int) == 32) = false := by simp; omega
    simp only [go_sem, ↓reduceIte, reduceCtorEq, Nat.reduceEqDiff, Nat.reduceLT, Nat.reduceLeDiff, Nat.reduceAdd, Nat.reduceMul, Nat.reduceSub, Nat.reduceBEq, Nat.reduceDiv, Int.reduceNeg, Int.reduceLT, Int.reduceLE, Int.reduceEq, Int.reduceToNat, Int.reduceAdd, Int.reduceSub, Int.reduceMul, Int.reduceBEq, Int.reduceBNe, reduceBEq, c39, c39_r0, encB_length, d0, d1, d2, d3, d4, d5, d6]
    simp only [go_sem, ↓reduceIte, reduceCtorEq, Nat.reduceEqDiff, Nat.reduceLT, Nat.reduceLeDiff, Nat.reduceAdd, Nat.reduceMul, Nat.reduceSub, Nat.reduceBEq, Nat.reduceDiv, Int.reduceNeg, Int.reduceLT, Int.reduceLE, Int.reduceEq, Int.reduceToNat, Int.reduceAdd, Int.reduceSub, Int.reduceMul, Int.reduceBEq, Int.reduceBNe, reduceBEq, c39_r1, encB_length, d0, d1, d2, d3, d4, d5, d6]
    exact ⟨_, _, _, rfl, WeakV.none hwf (by repeat (first | exact Agree.refl _ | refine Agree.newObj ?_ _ | refine Agree.newTok ?_ _ _ _ | refine Agree.killTok ?_ (by omega) | refine Agree.setObj ?_ (by omega) _ | refine Agree.dropObj ?_ (by omega))) (.pv _ _ _), by rw [decide_eq_false (fun h : q.right => h6 h.d1)], rfl⟩
  have d6 : ((q.d.length : Int) == 32) = true := by simp; omega
  simp only [go_sem, ↓reduceIte, reduceCtorEq, Nat.reduceEqDiff, Nat.reduceLT, Nat.reduceLeDiff, Nat.reduceAdd, Nat.reduceMul, Nat.reduceSub, Nat.reduceBEq, Nat.reduceDiv, Int.reduceNeg, Int.reduceLT, Int.reduceLE, Int.reduceEq, Int.reduceToNat, Int.reduceAdd, Int.reduceSub, Int.reduceMul, Int.reduceBEq, Int.reduceBNe, reduceBEq, c39, c39_r0, encB_length, d0, d1, d2, d3, d4, d5, d6]
  simp only [go_sem, ↓reduceIte, reduceCtorEq, Nat.reduceEqDiff, Nat.reduceLT, Nat.reduceLeDiff, Nat.reduceAdd, Nat.reduceMul, Nat.reduceSub, Nat.reduceBEq, Nat.reduceDiv, Int.reduceNeg, Int.reduceLT, Int.reduceLE, Int.reduceEq, Int.reduceToNat, Int.reduceAdd, Int.reduceSub, Int.reduceMul, Int.reduceBEq, Int.reduceBNe, reduceBEq, c39_r1, encB_length, d0, d1, d2, d3, d4, d5, d6]
  exact ⟨_, _, _, rfl, WeakV.none hwf (by repeat (first | exact Agree.refl _ | refine Agree.newObj ?_ _ | refine Agree.newTok ?_ _ _ _ | refine Agree.killTok ?_ (by omega) | refine Agree.setObj ?_ (by omega) _ | refine Agree.dropObj ?_ (by omega))) (.pv _ _ _), by rw [decide_eq_true (⟨h0, h1, h2, h3, h4, h5, h6⟩ : q.right)], rfl⟩
theorem cRightI (q : It) (σ : Store) : ACalls Try.prog 53 [.agg q.avs] σ (fun x s => x = .bool (decide q.right) ∧ s = σ) := by
  refine ACalls.of_arun Try.func53 c53_eq c53_n c53_rs (by simp) fun hwf => ?_
  by_cases h0 : 0 ≤ q.st
  case neg =>
    have d0 : decide (q.st ≥ 0) = false := decide_eq_false (by omega)
    simp only [go_sem, ↓reduceIte, reduceCtorEq, Nat.reduceEqDiff, Nat.reduceLT, Nat.reduceLeDiff, Nat.reduceAdd, Nat.reduceMul, Nat.reduceSub, Nat.reduceBEq, Nat.reduceDiv, Int.reduceNeg, Int.reduceLT, Int.reduceLE, Int.reduceEq, Int.reduceToNat, Int.reduceAdd, Int.reduceSub, Int.reduceMul, Int.reduceBEq, Int.reduceBNe, reduceBEq, c53, c53_r0, encB_length, d0]
    simp only [go_sem, ↓reduceIte, reduceCtorEq, Nat.reduceEqDiff, Nat.reduceLT, Nat.reduceLeDiff, Nat.reduceAdd, Nat.reduceMul, Nat.reduceSub, Nat.reduceBEq, Nat.reduceDiv, Int.reduceNeg, Int.reduceLT, Int.reduceLE, Int.reduceEq, Int.reduceToNat, Int.reduceAdd, Int.reduceSub, Int.reduceMul, Int.reduceBEq, Int.reduceBNe, reduceBEq, c53_r1, encB_length, d0]
    exact ⟨_, _, _, rfl, WeakV.none hwf (by repeat (first | exact Agree.refl _ | refine Agree.newObj ?_ _ | refine Agree.newTok ?_ _ _ _ | refine Agree.killTok ?_ (by omega) | refine Agree.setObj ?_ (by omega) _ | refine Agree.dropObj ?_ (by omega))) (.pv _ _ _), by rw [decide_eq_false (fun h : q.right => h0 h.s1)], rfl⟩
  have d0 : decide (q.st ≥ 0) = true := decide_eq_true (by omega)
  by_cases h1 : q.st < 40
  case neg =>
    have d1 : decide (q.st < 40) = false := decide_eq_false (by omega)
    simp only [go_sem, ↓reduceIte, reduceCtorEq, Nat.reduceEqDiff, Nat.reduceLT, Nat.reduceLeDiff, Nat.reduceAdd, Nat.reduceMul, Nat.reduceSub, Nat.reduceBEq, Nat.reduceDiv, Int.reduceNeg, Int.reduceLT, Int.reduceLE, Int.reduceEq, Int.reduceToNat, Int.reduceAdd, Int.reduceSub, Int.reduceMul, Int.reduceBEq, Int.reduceBNe, reduceBEq, c53, c53_r0, encB_length, d0, d1]
    simp only [go_sem, ↓reduceIte, reduceCtorEq, Nat.reduceEqDiff, Nat.reduceLT, Nat.reduceLeDiff, Nat.reduceAdd, Nat.reduceMul, Nat.reduceSub, Nat.reduceBEq, Nat.reduceDiv, Int.reduceNeg, Int.reduceLT, Int.reduceLE, Int.reduceEq, Int.reduceToNat, Int.reduceAdd, Int.reduceSub, Int.reduceMul, Int.reduceBEq, Int.reduceBNe, reduceBEq, c53_r1, encB_length, d0, d1]
    exact ⟨_, _, _, rfl, WeakV.none hwf (by repeat (first | exact Agree.refl _ | refine Agree.newObj ?_ _ | refine Agree.newTok ?_ _ _ _ | refine Agree.killTok ?_ (by omega) | refine Agree.setObj ?_ (by omega) _ | refine Agree.dropObj ?_ (by omega))) (.pv _ _ _), by rw [decide_eq_false (fun h : q.right => h1 h.s2)], rfl⟩
  have d1 : decide (q.st < 40) = true := decide_eq_true (by omega)
  by_cases h2 : 1 ≤ q.gn
  case neg =>
    have d2 : decide (q.gn ≥ 1) = false := decide_eq_false (by omega)
    simp only [go_sem, ↓reduceIte, reduceCtorEq, Nat.reduceEqDiff, Nat.reduceLT, Nat.reduceLeDiff, Nat.reduceAdd, Nat.reduceMul, Nat.reduceSub, Nat.reduceBEq, Nat.reduceDiv, Int.reduceNeg, Int.reduceLT, Int.reduceLE, Int.reduceEq, Int.reduceToNat, Int.reduceAdd, Int.reduceSub, Int.reduceMul, Int.reduceBEq, Int.reduceBNe, reduceBEq, c53, c53_r0, encB_length, d0, d1, d2]
    simp only [go_sem, ↓reduceIte, reduceCtorEq, Nat.reduceEqDiff, Nat.reduceLT, Nat.reduceLeDiff, Nat.reduceAdd, Nat.reduceMul, Nat.reduceSub, Nat.reduceBEq, Nat.reduceDiv, Int.reduceNeg, Int.reduceLT, Int.reduceLE, Int.reduceEq, Int.reduceToNat, Int.reduceAdd, Int.reduceSub, Int.reduceMul, Int.reduceBEq, Int.reduceBNe, reduceBEq, c53_r1, encB_length, d0, d1, d2]
    exact ⟨_, _, _, rfl, WeakV.none hwf (by repeat (first | exact Agree.refl _ | refine Agree.newObj ?_ _ | refine Agree.newTok ?_ _ _ _ | refine Agree.killTok ?_ (by omega) | refine Agree.setObj ?_ (by omega) _ | refine Agree.dropObj ?_ (by omega))) (.pv _ _ _), by rw [decide_eq_false (fun h : q.right => h2 h.g1)], rfl⟩
  have d2 : decide (q.gn ≥ 1) = true := decide_eq_true (by omega)
  by_cases h3 : q.gn ≤ 1099511627776
  case neg =>
    have d3 : decide (q.gn ≤ 1099511627776) = false := decide_eq_false (by omega)
    simp only [go_sem, ↓reduceIte, reduceCtorEq, Nat.reduceEqDiff, Nat.reduceLT, Nat.reduceLeDiff, Nat.reduceAdd, Nat.reduceMul, Nat.reduceSub, Nat.reduceBEq, Nat.reduceDiv, Int.reduceNeg, Int.reduceLT, Int.reduceLE, Int.reduceEq, Int.reduceToNat, Int.reduceAdd, Int.reduceSub, Int.reduceMul, Int.reduceBEq, Int.reduceBNe, reduceBEq, c53, c53_r0, encB_length, d0, d1, d2, d3]
    simp only [go_sem, ↓reduceIte, reduceCtorEq, Nat.reduceEqDiff, Nat.reduceLT, Nat.reduceLeDiff, Nat.reduceAdd, Nat.reduceMul, Nat.reduceSub, Nat.reduceBEq, Nat.reduceDiv, Int.reduceNeg, Int.reduceLT, Int.reduceLE, Int.reduceEq, Int.reduceToNat, Int.reduceAdd, Int.reduceSub, Int.reduceMul, Int.reduceBEq, Int.reduceBNe, reduceBEq, c53_r1, encB_length, d0, d1, d2, d3]
    exact ⟨_, _, _, rfl, WeakV.none hwf (by repeat (first | exact Agree.refl _ | refine Agree.newObj ?_ _ | refine Agree.newTok ?_ _ _ _ | refine Agree.killTok ?_ (by omega) | refine Agree.setObj ?_ (by omega) _ | refine Agree.dropObj ?_ (by omega))) (.pv _ _ _), by rw [decide_eq_false (fun h : q.right => h3 h.g2)], rfl⟩
  have d3 : decide (q.gn ≤ 1099511627776) = true := decide_eq_true (by omega)
  by_cases h4 : q.d.length = 128
  case neg =>
    have d4 : ((q.d.length : Int) == 128) = false := by simp; omega
    simp only [go_sem, ↓reduceIte, reduceCtorEq, Nat.reduceEqDiff, Nat.reduceLT, Nat.reduceLeDiff, Nat.reduceAdd, Nat.reduceMul, Nat.reduceSub, Nat.reduceBEq, Nat.reduceDiv, Int.reduceNeg, Int.reduceLT, Int.reduceLE, Int.reduceEq, Int.reduceToNat, Int.reduceAdd, Int.reduceSub, Int.reduceMul, Int.reduceBEq, Int.reduceBNe, reduceBEq, c53, c53_r0, encB_length, d0, d1, d2, d3, d4]
    simp only [go_sem, ↓reduceIte, reduceCtorEq, Nat.reduceEqDiff, Nat.reduceLT, Nat.reduceLeDiff, Nat.reduceAdd, Nat.reduceMul, Nat.reduceSub, Nat.reduceBEq, Nat.reduceDiv, Int.reduceNeg, Int.reduceLT, Int.reduceLE, Int.reduceEq, Int.reduceToNat, Int.reduceAdd, Int.reduceSub, Int.reduceMul, Int.reduceBEq, Int.reduceBNe, reduceBEq, c53_r1, encB_length, d0, d1, d2, d3, d4]
    exact ⟨_, _, _, rfl, WeakV.none hwf (by repeat (first | exact Agree.refl _ | refine Agree.newObj ?_ _ | refine Agree.newTok ?_ _ _ _ | refine Agree.killTok ?_ (by omega) | refine Agree.setObj ?_ (by omega) _ | refine Agree.dropObj ?_ (by omega))) (.pv _ _ _), by rw [decide_eq_false (fun h : q.right => h4 h.d1)], rfl⟩
  have d4 : ((q.d.length : Int) == 128) = true := by simp; omega
  simp only [go_sem, ↓reduceIte, reduceCtorEq, Nat.reduceEqDiff, Nat.reduceLT, Nat.reduceLeDiff, Nat.reduceAdd, Nat.reduceMul, Nat.reduceSub, Nat.reduceBEq, Nat.reduceDiv, Int.reduceNeg, Int.reduceLT, Int.reduceLE, Int.reduceEq, Int.reduceToNat, Int.reduceAdd, Int.reduceSub, Int.reduceMul, Int.reduceBEq, Int.reduceBNe, reduceBEq, c53, c53_r0, encB_length, d0, d1, d2, d3, d4]
  simp only [go_sem, ↓reduceIte, reduceCtorEq, Nat.reduceEqDiff, Nat.reduceLT, Nat.reduceLeDiff, Nat.reduceAdd, Nat.reduceMul, Nat.reduceSub, Nat.reduceBEq, Nat.reduceDiv, Int.reduceNeg, Int.reduceLT, Int.reduceLE, Int.reduceEq, Int.reduceToNat, Int.reduceAdd, Int.reduceSub, Int.reduceMul, Int.reduceBEq, Int.reduceBNe, reduceBEq, c53_r1, encB_length, d0, d1, d2, d3, d4]
  exact ⟨_, _, _, rfl, WeakV.none hwf (by repeat (first | exact Agree.refl _ | refine Agree.newObj ?_ _ | refine Agree.newTok ?_ _ _ _ | refine Agree.killTok ?_ (by omega) | refine Agree.setObj ?_ (by omega) _ | refine Agree.dropObj ?_ (by omega))) (.pv _ _ _), by rw [decide_eq_true (⟨h0, h1, h2, h3, h4⟩ : q.right)], rfl⟩
theorem rRightI (q : It) (σ : Store) : ACalls Try.prog 40 [.agg q.avs] σ (fun x s => x = .bool (decide q.right) ∧ s = σ) := by
  refine ACalls.of_arun Try.func40 c40_eq c40_n c40_rs (by simp) fun hwf => ?_
  by_cases h0 : 0 ≤ q.st
  case neg =>
    have d0 : decide (q.st ≥ 0) = false := decide_eq_false (by omega)
    simp only [go_sem, ↓reduceIte, reduceCtorEq, Nat.reduceEqDiff, Nat.reduceLT, Nat.reduceLeDiff, Nat.reduceAdd, Nat.reduceMul, Nat.reduceSub, Nat.reduceBEq, Nat.reduceDiv, Int.reduceNeg, Int.reduceLT, Int.reduceLE, Int.reduceEq, Int.reduceToNat, Int.reduceAdd, Int.reduceSub, Int.reduceMul, Int.reduceBEq, Int.reduceBNe, reduceBEq, c40, c40_r0, encB_length, d0]
    simp only [go_sem, ↓reduceIte, reduceCtorEq, Nat.reduceEqDiff, Nat.reduceLT, Nat.reduceLeDiff, Nat.reduceAdd, Nat.reduceMul, Nat.reduceSub, Nat.reduceBEq, Nat.reduceDiv, Int.reduceNeg, Int.reduceLT, Int.reduceLE, Int.reduceEq, Int.reduceToNat, Int.reduceAdd, Int.reduceSub, Int.reduceMul, Int.reduceBEq, Int.reduceBNe, reduceBEq, c40_r1, encB_length, d0]
    exact ⟨_, _, _, rfl, WeakV.none hwf (by repeat (first | exact Agree.refl _ | refine Agree.newObj ?_ _ | refine Agree.newTok ?_ _ _ _ | refine Agree.killTok ?_ (by omega) | refine Agree.setObj ?_ (by omega) _ | refine Agree.dropObj ?_ (by omega))) (.pv _ _ _), by rw [decide_eq_false (fun h : q.right => h0 h.s1)], rfl⟩
  have d0 : decide (q.st ≥ 0) = true := decide_eq_true (by omega)
  by_cases h1 : q.st < 40
  case neg =>
    have d1 : decide (q.st < 40) = false := decide_eq_false (by omega)
    simp only [go_sem, ↓reduceIte, reduceCtorEq, Nat.reduceEqDiff, Nat.reduceLT, Nat.reduceLeDiff, Nat.reduceAdd, Nat.reduceMul, Nat.reduceSub, Nat.reduceBEq, Nat.reduceDiv, Int.reduceNeg, Int.reduceLT, Int.reduceLE, Int.reduceEq, Int.reduceToNat, Int.reduceAdd, Int.reduceSub, Int.reduceMul, Int.reduceBEq, Int.reduceBNe, reduceBEq, c40, c40_r0, encB_length, d0, d1]
    simp only [go_sem, ↓reduceIte, reduceCtorEq, Nat.reduceEqDiff, Nat.reduceLT, Nat.reduceLeDiff, Nat.reduceAdd, Nat.reduceMul, Nat.reduceSub, Nat.reduceBEq, Nat.reduceDiv, Int.reduceNeg, Int.reduceLT, Int.reduceLE, Int.reduceEq, Int.reduceToNat, Int.reduceAdd, Int.reduceSub, Int.reduceMul, Int.reduceBEq, Int.reduceBNe, reduceBEq, c40_r1, encB_length, d0, d1]
    exact ⟨_, _, _, rfl, WeakV.none hwf (by repeat (first | exact Agree.refl _ | refine Agree.newObj ?_ _ | refine Agree.newTok ?_ _ _ _ | refine Agree.killTok ?_ (by omega) | refine Agree.setObj ?_ (by omega) _ | refine Agree.dropObj ?_ (by omega))) (.pv _ _ _), by rw [decide_eq_false (fun h : q.right => h1 h.s2)], rfl⟩
  have d1 : decide (q.st < 40) = true := decide_eq_true (by omega)
  by_cases h2 : 1 ≤ q.gn
  case neg =>
    have d2 : decide (q.gn ≥ 1) = false := decide_eq_false (by omega)
    simp only [go_sem, ↓reduceIte, reduceCtorEq, Nat.reduceEqDiff, Nat.reduceLT, Nat.reduceLeDiff, Nat.reduceAdd, Nat.reduceMul, Nat.reduceSub, Nat.reduceBEq, Nat.reduceDiv, Int.reduceNeg, Int.reduceLT, Int.reduceLE, Int.reduceEq, Int.reduceToNat, Int.reduceAdd, Int.reduceSub, Int.reduceMul, Int.reduceBEq, Int.reduceBNe, reduceBEq, c40, c40_r0, encB_length, d0, d1, d2]
    simp only [go_sem, ↓reduceIte, reduceCtorEq, Nat.reduceEqDiff, Nat.reduceLT, Nat.reduceLeDiff, Nat.reduceAdd, Nat.reduceMul, Nat.reduceSub, Nat.reduceBEq, Nat.reduceDiv, Int.reduceNeg, Int.reduceLT, Int.reduceLE, Int.reduceEq, Int.reduceToNat, Int.reduceAdd, Int.reduceSub, Int.reduceMul, Int.reduceBEq, Int.reduceBNe, reduceBEq, c40_r1, encB_length, d0, d1, d2]
    exact ⟨_, _, _, rfl, WeakV.none hwf (by repeat (first | exact Agree.refl _ | refine Agree.newObj ?_ _ | refine Agree.newTok ?_ _ _ _ | refine Agree.killTok ?_ (by omega) | refine Agree.setObj ?_ (by omega) _ | refine Agree.dropObj ?_ (by omega))) (.pv _ _ _), by rw [decide_eq_false (fun h : q.right => h2 h.g1)], rfl⟩
  have d2 : decide (q.gn ≥ 1) = true := decide_eq_true (by omega)
  by_cases h3 : q.gn ≤ 1099511627776
  case neg =>
    have d3 : decide (q.gn ≤ 1099511627776) = false := decide_eq_false (by omega)
    simp only [go_sem, ↓reduceIte, reduceCtorEq, Nat.reduceEqDiff, Nat.reduceLT, Nat.reduceLeDiff, Nat.reduceAdd, Nat.reduceMul, Nat.reduceSub, Nat.reduceBEq, Nat.reduceDiv, Int.reduceNeg, Int.reduceLT, Int.reduceLE, Int.reduceEq, Int.reduceToNat, Int.reduceAdd, Int.reduceSub, Int.reduceMul, Int.reduceBEq, Int.reduceBNe, reduceBEq, c40, c40_r0, encB_length, d0, d1, d2, d3]
    simp only [go_sem, ↓reduceIte, reduceCtorEq, Nat.reduceEqDiff, Nat.reduceLT, Nat.reduceLeDiff, Nat.reduceAdd, Nat.reduceMul, Nat.reduceSub, Nat.reduceBEq, Nat.reduceDiv, Int.reduceNeg, Int.reduceLT, Int.reduceLE, Int.reduceEq, Int.reduceToNat, Int.reduceAdd, Int.reduceSub, Int.reduceMul, Int.reduceBEq, Int.reduceBNe, reduceBEq, c40_r1, encB_length, d0, d1, d2, d3]
    exact ⟨_, _, _, rfl, WeakV.none hwf (by repeat (first | exact Agree.refl _ | refine Agree.newObj ?_ _ | refine Agree.newTok ?_ _ _ _ | refine Agree.killTok ?_ (by omega) | refine Agree.setObj ?_ (by omega) _ | refine Agree.dropObj ?_ (by omega))) (.pv _ _ _), by rw [decide_eq_false (fun h : q.right => h3 h.g2)], rfl⟩
  have d3 : decide (q.gn ≤ 1099511627776) = true := decide_eq_true (by omega)
  by_cases h4 : q.d.length = 128
  case neg =>
    have d4 : ((q.d.length : Int) == 128) = false := by simp; omega
    simp only [go_sem, ↓reduceIte, reduceCtorEq, Nat.reduceEqDiff, Nat.reduceLT, Nat.reduceLeDiff, Nat.reduceAdd, Nat.reduceMul, Nat.reduceSub, Nat.reduceBEq, Nat.reduceDiv, Int.reduceNeg, Int.reduceLT, Int.reduceLE, Int.reduceEq, Int.reduceToNat, Int.reduceAdd, Int.reduceSub, Int.reduceMul, Int.reduceBEq, Int.reduceBNe, reduceBEq, c40, c40_r0, encB_length, d0, d1, d2, d3, d4]
    simp only [go_sem, ↓reduceIte, reduceCtorEq, Nat.reduceEqDiff, Nat.reduceLT, Nat.reduceLeDiff, Nat.reduceAdd, Nat.reduceMul, Nat.reduceSub, Nat.reduceBEq, Nat.reduceDiv, Int.reduceNeg, Int.reduceLT, Int.reduceLE, Int.reduceEq, Int.reduceToNat, Int.reduceAdd, Int.reduceSub, Int.reduceMul, Int.reduceBEq, Int.reduceBNe, reduceBEq, c40_r1, encB_length, d0, d1, d2, d3, d4]
    exact ⟨_, _, _, rfl, WeakV.none hwf (by repeat (first | exact Agree.refl _ | refine Agree.newObj ?_ _ | refine Agree.newTok ?_ _ _ _ | refine Agree.killTok ?_ (by omega) | refine Agree.setObj ?_ (by omega) _ | refine Agree.dropObj ?_ (by omega))) (.pv _ _ _), by rw [decide_eq_false (fun h : q.right => h4 h.d1)], rfl⟩
  have d4 : ((q.d.length : Int) == 128) = true := by simp; omega
  simp only [go_sem, ↓reduceIte, reduceCtorEq, Nat.reduceEqDiff, Nat.reduceLT, Nat.reduceLeDiff, Nat.reduceAdd, Nat.reduceMul, Nat.reduceSub, Nat.reduceBEq, Nat.reduceDiv, Int.reduceNeg, Int.reduceLT, Int.reduceLE, Int.reduceEq, Int.reduceToNat, Int.reduceAdd, Int.reduceSub, Int.reduceMul, Int.reduceBEq, Int.reduceBNe, reduceBEq, c40, c40_r0, encB_length, d0, d1, d2, d3, d4]
  simp only [go_sem, ↓reduceIte, reduceCtorEq, Nat.reduceEqDiff, Nat.reduceLT, Nat.reduceLeDiff, Nat.reduceAdd, Nat.reduceMul, Nat.reduceSub, Nat.reduceBEq, Nat.reduceDiv, Int.reduceNeg, Int.reduceLT, Int.reduceLE, Int.reduceEq, Int.reduceToNat, Int.reduceAdd, Int.reduceSub, Int.reduceMul, Int.reduceBEq, Int.reduceBNe, reduceBEq, c40_r1, encB_length, d0, d1, d2, d3, d4]
  exact ⟨_, _, _, rfl, WeakV.none hwf (by repeat (first | exact Agree.refl _ | refine Agree.newObj ?_ _ | refine Agree.newTok ?_ _ _ _ | refine Agree.killTok ?_ (by omega) | refine Agree.setObj ?_ (by omega) _ | refine Agree.dropObj ?_ (by omega))) (.pv _ _ _), by rw [decide_eq_true (⟨h0, h1, h2, h3, h4⟩ : q.right)], rfl⟩
theorem cWrongP (q : Pc) (σ : Store) : ACalls Try.prog 49 [.agg q.avs] σ (fun x s => x = .bool (!decide q.right) ∧ s = σ) := by
  refine ACalls.of_awpc Try.func49 c49_eq c49_n c49_rs (by simp) fun hwf => ?_
  unfold c49
  refine AWPc.step ?_
  simp only [go_sem, ↓reduceIte, reduceCtorEq, Nat.reduceEqDiff, Nat.reduceLT, Nat.reduceLeDiff, Nat.reduceAdd, Nat.reduceMul, Nat.reduceSub, Nat.reduceBEq, Nat.reduceDiv, Int.reduceNeg, Int.reduceLT, Int.reduceLE, Int.reduceEq, Int.reduceToNat, Int.reduceAdd, Int.reduceSub, Int.reduceMul, Int.reduceBEq, Int.reduceBNe, reduceBEq, c49_r0]
  refine AWPc.step ?_
  simp only [go_sem, ↓reduceIte, reduceCtorEq, Nat.reduceEqDiff, Nat.reduceLT, Nat.reduceLeDiff, Nat.reduceAdd, Nat.reduceMul, Nat.reduceSub, Nat.reduceBEq, Nat.reduceDiv, Int.reduceNeg, Int.reduceLT, Int.reduceLE, Int.reduceEq, Int.reduceToNat, Int.reduceAdd, Int.reduceSub, Int.reduceMul, Int.reduceBEq, Int.reduceBNe, reduceBEq, c49_r1]
  refine (cRightP q _).mono fun y s' hy => ?_
  obtain ⟨rfl, hs⟩ := hy
  have hs := hs.symm; subst hs
  simp only [go_sem, ↓reduceIte, reduceCtorEq, Nat.reduceEqDiff, Nat.reduceLT, Nat.reduceLeDiff, Nat.reduceAdd, Nat.reduceMul, Nat.reduceSub, Nat.reduceBEq, Nat.reduceDiv, Int.reduceNeg, Int.reduceLT, Int.reduceLE, Int.reduceEq, Int.reduceToNat, Int.reduceAdd, Int.reduceSub, Int.reduceMul, Int.reduceBEq, Int.reduceBNe, reduceBEq]
  refine AWPc.of_arun ?_
  simp only [go_sem, ↓reduceIte, reduceCtorEq, Nat.reduceEqDiff, Nat.reduceLT, Nat.reduceLeDiff, Nat.reduceAdd, Nat.reduceMul, Nat.reduceSub, Nat.reduceBEq, Nat.reduceDiv, Int.reduceNeg, Int.reduceLT, Int.reduceLE, Int.reduceEq, Int.reduceToNat, Int.reduceAdd, Int.reduceSub, Int.reduceMul, Int.reduceBEq, Int.reduceBNe, reduceBEq]
  exact ⟨_, _, _, rfl, WeakV.none hwf (by repeat (first | exact Agree.refl _ | refine Agree.newObj ?_ _ | refine Agree.newTok ?_ _ _ _ | refine Agree.killTok ?_ (by omega) | refine Agree.setObj ?_ (by omega) _ | refine Agree.dropObj ?_ (by omega))) (.pv _ _ _), rfl, rfl⟩
theorem cWrongI (q : It) (σ : Store) : ACalls Try.prog 52 [.agg q.avs] σ (fun x s => x = .bool (!decide q.right) ∧ s = σ) := by
  refine ACalls.of_awpc Try.func52 c52_eq c52_n c52_rs (by simp) fun hwf => ?_
  unfold c52
  refine AWPc.step ?_
  simp only [go_sem, ↓reduceIte, reduceCtorEq, Nat.reduceEqDiff, Nat.reduceLT, Nat.reduceLeDiff, Nat.reduceAdd, Nat.reduceMul, Nat.reduceSub, Nat.reduceBEq, Nat.reduceDiv, Int.reduceNeg, Int.reduceLT, Int.reduceLE, Int.reduceEq, Int.reduceToNat, Int.reduceAdd, Int.reduceSub, Int.reduceMul, Int.reduceBEq, Int.reduceBNe, reduceBEq, c52_r0]
  refine AWPc.step ?_
  simp only [go_sem, ↓reduceIte, reduceCtorEq, Nat.reduceEqDiff, Nat.reduceLT, Nat.reduceLeDiff, Nat.reduceAdd, Nat.reduceMul, Nat.reduceSub, Nat.reduceBEq, Nat.reduceDiv, Int.reduceNeg, Int.reduceLT, Int.reduceLE, Int.reduceEq, Int.reduceToNat, Int.reduceAdd, Int.reduceSub, Int.reduceMul, Int.reduceBEq, Int.reduceBNe, reduceBEq, c52_r1]
  refine (cRightI q _).mono fun y s' hy => ?_
  obtain ⟨rfl, hs⟩ := hy
  have hs := hs.symm; subst hs
  simp only [go_sem, ↓reduceIte, reduceCtorEq, Nat.reduceEqDiff, Nat.reduceLT, Nat.reduceLeDiff, Nat.reduceAdd, Nat.reduceMul, Nat.reduceSub, Nat.reduceBEq, Nat.reduceDiv, Int.reduceNeg, Int.reduceLT, Int.reduceLE, Int.reduceEq, Int.reduceToNat, Int.reduceAdd, Int.reduceSub, Int.reduceMul, Int.reduceBEq, Int.reduceBNe, reduceBEq]
  refine AWPc.of_arun ?_
  simp only [go_sem, ↓reduceIte, reduceCtorEq, Nat.reduceEqDiff, Nat.reduceLT, Nat.reduceLeDiff, Nat.reduceAdd, Nat.reduceMul, Nat.reduceSub, Nat.reduceBEq, Nat.reduceDiv, Int.reduceNeg, Int.reduceLT, Int.reduceLE, Int.reduceEq, Int.reduceToNat, Int.reduceAdd, Int.reduceSub, Int.reduceMul, Int.reduceBEq, Int.reduceBNe, reduceBEq]
  exact ⟨_, _, _, rfl, WeakV.none hwf (by repeat (first | exact Agree.refl _ | refine Agree.newObj ?_ _ | refine Agree.newTok ?_ _ _ _ | refine Agree.killTok ?_ (by omega) | refine Agree.setObj ?_ (by omega) _ | refine Agree.dropObj ?_ (by omega))) (.pv _ _ _), rfl, rfl⟩
theorem cIndexP (l : List Pc) (hl : l.length < 2 ^ 47) (σ : Store) : ACalls Try.prog 56 [.pv (.lst 4 (encP l)), .pv (.val (.func (.func 49) #[] #[]))] σ
    (fun x s => (∃ r : Int, x = .int .i64 r ∧ decide (r ≥ 0) = !decide (∀ y ∈ l, y.right)) ∧ s = σ) := by
  refine ACalls.of_arun Try.func56 c56_eq c56_n c56_rs (by simp) fun hwf => ?_
  simp only [go_sem, ↓reduceIte, reduceCtorEq, Nat.reduceEqDiff, Nat.reduceLT, Nat.reduceLeDiff, Nat.reduceAdd, Nat.reduceMul, Nat.reduceSub, Nat.reduceBEq, Nat.reduceDiv, Int.reduceNeg, Int.reduceLT, Int.reduceLE, Int.reduceEq, Int.reduceToNat, Int.reduceAdd, Int.reduceSub, Int.reduceMul, Int.reduceBEq, Int.reduceBNe, reduceBEq, c56, c56_r0, c56_r1, encP_length]
  refine AWPc.loop (α := Nat) (fun i => [(0, .pv (.lst 4 (encP l))), (1, .pv (.val (.func (.func 49) #[] #[]))), (7, .int .i64 (l.length : Int)), (8, .int .i64 i)]) (fun _ => σ) (fun i => i ≤ l.length ∧ ∀ y ∈ l.take i, y.right) (fun i => l.length - i)
    ⟨0, ⟨Nat.zero_le _, by simp⟩, Weak.slots (all_cons rfl (all_cons rfl (all_cons rfl (all_cons rfl all_nil))))⟩ ?_
  rintro i ⟨hi, ht⟩
  by_cases hd : i < l.length
  · have d1 : decide ((i : Int) < l.length) = true := decide_eq_true (by omega)
    simp only [go_sem, ↓reduceIte, reduceCtorEq, Nat.reduceEqDiff, Nat.reduceLT, Nat.reduceLeDiff, Nat.reduceAdd, Nat.reduceMul, Nat.reduceSub, Nat.reduceBEq, Nat.reduceDiv, Int.reduceNeg, Int.reduceLT, Int.reduceLE, Int.reduceEq, Int.reduceToNat, Int.reduceAdd, Int.reduceSub, Int.reduceMul, Int.reduceBEq, Int.reduceBNe, reduceBEq, c56_l0, c56_r2, c56_r3, d1]
    simp only [go_sem, ↓reduceIte, reduceCtorEq, Nat.reduceEqDiff, Nat.reduceLT, Nat.reduceLeDiff, Nat.reduceAdd, Nat.reduceMul, Nat.reduceSub, Nat.reduceBEq, Nat.reduceDiv, Int.reduceNeg, Int.reduceLT, Int.reduceLE, Int.reduceEq, Int.reduceToNat, Int.reduceAdd, Int.reduceSub, Int.reduceMul, Int.reduceBEq, Int.reduceBNe, reduceBEq, c56_r4, encP_length, Int.toNat_natCast, encP_get hd]
    refine ⟨by omega, AOpc.callv (f := 49) (by simp only [go_sem, ↓reduceIte, reduceCtorEq, Nat.reduceEqDiff, Nat.reduceLT, Nat.reduceLeDiff, Nat.reduceAdd, Nat.reduceMul, Nat.reduceSub, Nat.reduceBEq, Nat.reduceDiv, Int.reduceNeg, Int.reduceLT, Int.reduceLE, Int.reduceEq, Int.reduceToNat, Int.reduceAdd, Int.reduceSub, Int.reduceMul, Int.reduceBEq, Int.reduceBNe, reduceBEq]) (by kernel_rfl) ?_⟩
    refine (cWrongP l[i] _).mono fun y s' hy => ?_
    obtain ⟨rfl, hs⟩ := hy
    have hs := hs.symm; subst hs
    by_cases hr : l[i].right
    · have d2 : (!decide l[i].right) = false := by simp [hr]
      simp only [go_sem, ↓reduceIte, reduceCtorEq, Nat.reduceEqDiff, Nat.reduceLT, Nat.reduceLeDiff, Nat.reduceAdd, Nat.reduceMul, Nat.reduceSub, Nat.reduceBEq, Nat.reduceDiv, Int.reduceNeg, Int.reduceLT, Int.reduceLE, Int.reduceEq, Int.reduceToNat, Int.reduceAdd, Int.reduceSub, Int.reduceMul, Int.reduceBEq, Int.reduceBNe, reduceBEq, d2, c56_r6]
      refine ⟨i + 1, ⟨by omega, ?_⟩, by omega, ?_⟩
      · rw [take_snoc' hd]
        intro y hy
        rcases List.mem_append.1 hy with h | h
        · exact ht y h
        · rw [List.mem_singleton.1 h]; exact hr
      · refine Weak.none hwf (Nat.le_refl _) (Agree.refl _) ?_
        refine all_cons (.pv _ _ _) (all_cons (.pv _ _ _) (all_cons (.pv _ _ _) (all_cons (.int _ _ ?_) all_nil)))
        rw [w64 (by omega) (by omega)]; simp
    · have d2 : (!decide l[i].right) = true := by simp [hr]
      simp only [go_sem, ↓reduceIte, reduceCtorEq, Nat.reduceEqDiff, Nat.reduceLT, Nat.reduceLeDiff, Nat.reduceAdd, Nat.reduceMul, Nat.reduceSub, Nat.reduceBEq, Nat.reduceDiv, Int.reduceNeg, Int.reduceLT, Int.reduceLE, Int.reduceEq, Int.reduceToNat, Int.reduceAdd, Int.reduceSub, Int.reduceMul, Int.reduceBEq, Int.reduceBNe, reduceBEq, d2, c56_r5]
      refine ⟨_, _, _, rfl, WeakV.refl _ _ _, ⟨_, rfl, ?_⟩, rfl⟩
      rw [decide_eq_true (by omega), decide_eq_false (fun h => hr (h _ (List.getElem_mem hd)))]; rfl
  · have d1 : decide ((i : Int) < l.length) = false := decide_eq_false (by omega)
    have hi : i = l.length := by omega
    simp only [go_sem, ↓reduceIte, reduceCtorEq, Nat.reduceEqDiff, Nat.reduceLT, Nat.reduceLeDiff, Nat.reduceAdd, Nat.reduceMul, Nat.reduceSub, Nat.reduceBEq, Nat.reduceDiv, Int.reduceNeg, Int.reduceLT, Int.reduceLE, Int.reduceEq, Int.reduceToNat, Int.reduceAdd, Int.reduceSub, Int.reduceMul, Int.reduceBEq, Int.reduceBNe, reduceBEq, c56_l0, c56_r2, d1, c56_r7]
    refine ⟨_, _, _, rfl, WeakV.refl _ _ _, ⟨_, rfl, ?_⟩, rfl⟩
    rw [hi, List.take_length] at ht
    rw [decide_eq_true ht]; rfl
theorem cContainsP (l : List Pc) (hl : l.length < 2 ^ 47) (σ : Store) : ACalls Try.prog 48 [.pv (.lst 4 (encP l)), .pv (.val (.func (.func 49) #[] #[]))] σ
    (fun x s => x = .bool (!decide (∀ y ∈ l, y.right)) ∧ s = σ) := by
  refine ACalls.of_arun Try.func48 c48_eq c48_n c48_rs (by simp) fun hwf => ?_
  simp only [go_sem, ↓reduceIte, reduceCtorEq, Nat.reduceEqDiff, Nat.reduceLT, Nat.reduceLeDiff, Nat.reduceAdd, Nat.reduceMul, Nat.reduceSub, Nat.reduceBEq, Nat.reduceDiv, Int.reduceNeg, Int.reduceLT, Int.reduceLE, Int.reduceEq, Int.reduceToNat, Int.reduceAdd, Int.reduceSub, Int.reduceMul, Int.reduceBEq, Int.reduceBNe, reduceBEq, c48, c48_r0]
  simp only [go_sem, ↓reduceIte, reduceCtorEq, Nat.reduceEqDiff, Nat.reduceLT, Nat.reduceLeDiff, Nat.reduceAdd, Nat.reduceMul, Nat.reduceSub, Nat.reduceBEq, Nat.reduceDiv, Int.reduceNeg, Int.reduceLT, Int.reduceLE, Int.reduceEq, Int.reduceToNat, Int.reduceAdd, Int.reduceSub, Int.reduceMul, Int.reduceBEq, Int.reduceBNe, reduceBEq, c48_r1]
  refine (cIndexP l hl _).mono fun y s' hy => ?_
  obtain ⟨⟨r, rfl, hr⟩, hs⟩ := hy
  have hs := hs.symm; subst hs
  simp only [go_sem, ↓reduceIte, reduceCtorEq, Nat.reduceEqDiff, Nat.reduceLT, Nat.reduceLeDiff, Nat.reduceAdd, Nat.reduceMul, Nat.reduceSub, Nat.reduceBEq, Nat.reduceDiv, Int.reduceNeg, Int.reduceLT, Int.reduceLE, Int.reduceEq, Int.reduceToNat, Int.reduceAdd, Int.reduceSub, Int.reduceMul, Int.reduceBEq, Int.reduceBNe, reduceBEq, hr]
  exact ⟨_, _, _, rfl, WeakV.refl _ _ _, rfl, rfl⟩
theorem cIndexI (l : List It) (hl : l.length < 2 ^ 47) (σ : Store) : ACalls Try.prog 57 [.pv (.lst 3 (encI l)), .pv (.val (.func (.func 52) #[] #[]))] σ
    (fun x s => (∃ r : Int, x = .int .i64 r ∧ decide (r ≥ 0) = !decide (∀ y ∈ l, y.right)) ∧ s = σ) := by
  refine ACalls.of_arun Try.func57 c57_eq c57_n c57_rs (by simp) fun hwf => ?_
  simp only [go_sem, ↓reduceIte, reduceCtorEq, Nat.reduceEqDiff, Nat.reduceLT, Nat.reduceLeDiff, Nat.reduceAdd, Nat.reduceMul, Nat.reduceSub, Nat.reduceBEq, Nat.reduceDiv, Int.reduceNeg, Int.reduceLT, Int.reduceLE, Int.reduceEq, Int.reduceToNat, Int.reduceAdd, Int.reduceSub, Int.reduceMul, Int.reduceBEq, Int.reduceBNe, reduceBEq, c57, c57_r0, c57_r1, encI_length]
  refine AWPc.loop (α := Nat) (fun i => [(0, .pv (.lst 3 (encI l))), (1, .pv (.val (.func (.func 52) #[] #[]))), (7, .int .i64 (l.length : Int)), (8, .int .i64 i)]) (fun _ => σ) (fun i => i ≤ l.length ∧ ∀ y ∈ l.take i, y.right) (fun i => l.length - i)
    ⟨0, ⟨Nat.zero_le _, by simp⟩, Weak.slots (all_cons rfl (all_cons rfl (all_cons rfl (all_cons rfl all_nil))))⟩ ?_
  rintro i ⟨hi, ht⟩
  by_cases hd : i < l.length
  · have d1 : decide ((i : Int) < l.length) = true := decide_eq_true (by omega)
    simp only [go_sem, ↓reduceIte, reduceCtorEq, Nat.reduceEqDiff, Nat.reduceLT, Nat.reduceLeDiff, Nat.reduceAdd, Nat.reduceMul, Nat.reduceSub, Nat.reduceBEq, Nat.reduceDiv, Int.reduceNeg, Int.reduceLT, Int.reduceLE, Int.reduceEq, Int.reduceToNat, Int.reduceAdd, Int.reduceSub, Int.reduceMul, Int.reduceBEq, Int.reduceBNe, reduceBEq, c57_l0, c57_r2, c57_r3, d1]
    simp only [go_sem, ↓reduceIte, reduceCtorEq, Nat.reduceEqDiff, Nat.reduceLT, Nat.reduceLeDiff, Nat.reduceAdd, Nat.reduceMul, Nat.reduceSub, Nat.reduceBEq, Nat.reduceDiv, Int.reduceNeg, Int.reduceLT, Int.reduceLE, Int.reduceEq, Int.reduceToNat, Int.reduceAdd, Int.reduceSub, Int.reduceMul, Int.reduceBEq, Int.reduceBNe, reduceBEq, c57_r4, encI_length, Int.toNat_natCast, encI_get hd]
    refine ⟨by omega, AOpc.callv (f := 52) (by simp only [go_sem, ↓reduceIte, reduceCtorEq, Nat.reduceEqDiff, Nat.reduceLT, Nat.reduceLeDiff, Nat.reduceAdd, Nat.reduceMul, Nat.reduceSub, Nat.reduceBEq, Nat.reduceDiv, Int.reduceNeg, Int.reduceLT, Int.reduceLE, Int.reduceEq, Int.reduceToNat, Int.reduceAdd, Int.reduceSub, Int.reduceMul, Int.reduceBEq, Int.reduceBNe, reduceBEq]) (by kernel_rfl) ?_⟩
    refine (cWrongI l[i] _).mono fun y s' hy => ?_
    obtain ⟨rfl, hs⟩ := hy
    have hs := hs.symm; subst hs
    by_cases hr : l[i].right
    · have d2 : (!decide l[i].right) = false := by simp [hr]
      simp only [go_sem, ↓reduceIte, reduceCtorEq, Nat.reduceEqDiff, Nat.reduceLT, Nat.reduceLeDiff, Nat.reduceAdd, Nat.reduceMul, Nat.reduceSub, Nat.reduceBEq, Nat.reduceDiv, Int.reduceNeg, Int.reduceLT, Int.reduceLE, Int.reduceEq, Int.reduceToNat, Int.reduceAdd, Int.reduceSub, Int.reduceMul, Int.reduceBEq, Int.reduceBNe, reduceBEq, d2, c57_r6]
      refine ⟨i + 1, ⟨by omega, ?_⟩, by omega, ?_⟩
      · rw [take_snoc' hd]
        intro y hy
        rcases List.mem_append.1 hy with h | h
        · exact ht y h
        · rw [List.mem_singleton.1 h]; exact hr
      · refine Weak.none hwf (Nat.le_refl _) (Agree.refl _) ?_
        refine all_cons (.pv _ _ _) (all_cons (.pv _ _ _) (all_cons (.pv _ _ _) (all_cons (.int _ _ ?_) all_nil)))
        rw [w64 (by omega) (by omega)]; simp
    · have d2 : (!decide l[i].right) = true := by simp [hr]
      simp only [go_sem, ↓reduceIte, reduceCtorEq, Nat.reduceEqDiff, Nat.reduceLT, Nat.reduceLeDiff, Nat.reduceAdd, Nat.reduceMul, Nat.reduceSub, Nat.reduceBEq, Nat.reduceDiv, Int.reduceNeg, Int.reduceLT, Int.reduceLE, Int.reduceEq, Int.reduceToNat, Int.reduceAdd, Int.reduceSub, Int.reduceMul, Int.reduceBEq, Int.reduceBNe, reduceBEq, d2, c57_r5]
      refine ⟨_, _, _, rfl, WeakV.refl _ _ _, ⟨_, rfl, ?_⟩, rfl⟩
      rw [decide_eq_true (by omega), decide_eq_false (fun h => hr (h _ (List.getElem_mem hd)))]; rfl
  · have d1 : decide ((i : Int) < l.length) = false := decide_eq_false (by omega)
    have hi : i = l.length := by omega
    simp only [go_sem, ↓reduceIte, reduceCtorEq, Nat.reduceEqDiff, Nat.reduceLT, Nat.reduceLeDiff, Nat.reduceAdd, Nat.reduceMul, Nat.reduceSub, Nat.reduceBEq, Nat.reduceDiv, Int.reduceNeg, Int.reduceLT, Int.reduceLE, Int.reduceEq, Int.reduceToNat, Int.reduceAdd, Int.reduceSub, Int.reduceMul, Int.reduceBEq, Int.reduceBNe, reduceBEq, c57_l0, c57_r2, d1, c57_r7]
    refine ⟨_, _, _, rfl, WeakV.refl _ _ _, ⟨_, rfl, ?_⟩, rfl⟩
    rw [hi, List.take_length] at ht
    rw [decide_eq_true ht]; rfl
theorem cContainsI (l : List It) (hl : l.length < 2 ^ 47) (σ : Store) : ACalls Try.prog 51 [.pv (.lst 3 (encI l)), .pv (.val (.func (.func 52) #[] #[]))] σ
    (fun x s => x = .bool (!decide (∀ y ∈ l, y.right)) ∧ s = σ) := by
  refine ACalls.of_arun Try.func51 c51_eq c51_n c51_rs (by simp) fun hwf => ?_
  simp only [go_sem, ↓reduceIte, reduceCtorEq, Nat.reduceEqDiff, Nat.reduceLT, Nat.reduceLeDiff, Nat.reduceAdd, Nat.reduceMul, Nat.reduceSub, Nat.reduceBEq, Nat.reduceDiv, Int.reduceNeg, Int.reduceLT, Int.reduceLE, Int.reduceEq, Int.reduceToNat, Int.reduceAdd, Int.reduceSub, Int.reduceMul, Int.reduceBEq, Int.reduceBNe, reduceBEq, c51, c51_r0]
  simp only [go_sem, ↓reduceIte, reduceCtorEq, Nat.reduceEqDiff, Nat.reduceLT, Nat.reduceLeDiff, Nat.reduceAdd, Nat.reduceMul, Nat.reduceSub, Nat.reduceBEq, Nat.reduceDiv, Int.reduceNeg, Int.reduceLT, Int.reduceLE, Int.reduceEq, Int.reduceToNat, Int.reduceAdd, Int.reduceSub, Int.reduceMul, Int.reduceBEq, Int.reduceBNe, reduceBEq, c51_r1]
  refine (cIndexI l hl _).mono fun y s' hy => ?_
  obtain ⟨⟨r, rfl, hr⟩, hs⟩ := hy
  have hs := hs.symm; subst hs
  simp only [go_sem, ↓reduceIte, reduceCtorEq, Nat.reduceEqDiff, Nat.reduceLT, Nat.reduceLeDiff, Nat.reduceAdd, Nat.reduceMul, Nat.reduceSub, Nat.reduceBEq, Nat.reduceDiv, Int.reduceNeg, Int.reduceLT, Int.reduceLE, Int.reduceEq, Int.reduceToNat, Int.reduceAdd, Int.reduceSub, Int.reduceMul, Int.reduceBEq, Int.reduceBNe, reduceBEq, hr]
  exact ⟨_, _, _, rfl, WeakV.refl _ _ _, rfl, rfl⟩

/-- call.right behind its first region. -/
theorem cRight_b (p : Rp) (wrong : Bool) (σ : Store) (hwf : σ.Wf) (env : Env) (henv : ∀ z ∈ [(1, .ptr σ.next 0), (3, .bool wrong)], env.get z.1 = z.2)
    (R : Exit → Env → Store → Prop) (hR : ∀ env' σ' b, env'.get 2 = .bool b → b = (decide (0 ≤ p.cd ∧ p.cd ≤ 255 ∧ 0 ≤ p.bt ∧ p.bt ≤ 2147483647 ∧ p.ps.length ≤ 2 ∧ p.is.length ≤ 16) && !wrong) → WeakV σ.next (.bool b) σ' (.bool b) σ → R .ret env' σ') :
    AWPc Try.prog 36 σ.next (.seq (.reg c36_r2) .ret) env (σ.newObj p.avs) R := by
  refine AWPc.weak (Weak.slots henv) ?_
  refine AWPc.step ?_
  simp only [go_sem, ↓reduceIte, reduceCtorEq, Nat.reduceEqDiff, Nat.reduceLT, Nat.reduceLeDiff, Nat.reduceAdd, Nat.reduceMul, Nat.reduceSub, Nat.reduceBEq, Nat.reduceDiv, Int.reduceNeg, Int.reduceLT, Int.reduceLE, Int.reduceEq, Int.reduceToNat, Int.reduceAdd, Int.reduceSub, Int.reduceMul, Int.reduceBEq, Int.reduceBNe, reduceBEq, c36_r2, encP_length, encI_length]
  refine (within_spec p.cd 0 255 _).mono fun y s' hy => ?_
  obtain ⟨rfl, hs⟩ := hy
  have hs := hs.symm; subst hs
  by_cases h1 : 0 ≤ p.cd ∧ p.cd ≤ 255
  case neg =>
    have d1 : decide (0 ≤ p.cd ∧ p.cd ≤ 255) = false := decide_eq_false h1
    simp only [go_sem, ↓reduceIte, reduceCtorEq, Nat.reduceEqDiff, Nat.reduceLT, Nat.reduceLeDiff, Nat.reduceAdd, Nat.reduceMul, Nat.reduceSub, Nat.reduceBEq, Nat.reduceDiv, Int.reduceNeg, Int.reduceLT, Int.reduceLE, Int.reduceEq, Int.reduceToNat, Int.reduceAdd, Int.reduceSub, Int.reduceMul, Int.reduceBEq, Int.reduceBNe, reduceBEq, d1]
    refine AWPc.of_arun ?_
    simp only [go_sem, ↓reduceIte, reduceCtorEq, Nat.reduceEqDiff, Nat.reduceLT, Nat.reduceLeDiff, Nat.reduceAdd, Nat.reduceMul, Nat.reduceSub, Nat.reduceBEq, Nat.reduceDiv, Int.reduceNeg, Int.reduceLT, Int.reduceLE, Int.reduceEq, Int.reduceToNat, Int.reduceAdd, Int.reduceSub, Int.reduceMul, Int.reduceBEq, Int.reduceBNe, reduceBEq]
    exact hR _ _ false rfl (by rw [decide_eq_false (by omega)]; rfl) (WeakV.none hwf (by repeat (first | exact Agree.refl _ | refine Agree.newObj ?_ _ | refine Agree.newTok ?_ _ _ _ | refine Agree.killTok ?_ (by omega) | refine Agree.setObj ?_ (by omega) _ | refine Agree.dropObj ?_ (by omega))) (.pv _ _ _))
  have d1 : decide (0 ≤ p.cd ∧ p.cd ≤ 255) = true := decide_eq_true h1
  simp only [go_sem, ↓reduceIte, reduceCtorEq, Nat.reduceEqDiff, Nat.reduceLT, Nat.reduceLeDiff, Nat.reduceAdd, Nat.reduceMul, Nat.reduceSub, Nat.reduceBEq, Nat.reduceDiv, Int.reduceNeg, Int.reduceLT, Int.reduceLE, Int.reduceEq, Int.reduceToNat, Int.reduceAdd, Int.reduceSub, Int.reduceMul, Int.reduceBEq, Int.reduceBNe, reduceBEq, d1]
  refine (within_spec p.bt 0 2147483647 _).mono fun y s' hy => ?_
  obtain ⟨rfl, hs⟩ := hy
  have hs := hs.symm; subst hs
  by_cases h2 : 0 ≤ p.bt ∧ p.bt ≤ 2147483647
  case neg =>
    have d2 : decide (0 ≤ p.bt ∧ p.bt ≤ 2147483647) = false := decide_eq_false h2
    simp only [go_sem, ↓reduceIte, reduceCtorEq, Nat.reduceEqDiff, Nat.reduceLT, Nat.reduceLeDiff, Nat.reduceAdd, Nat.reduceMul, Nat.reduceSub, Nat.reduceBEq, Nat.reduceDiv, Int.reduceNeg, Int.reduceLT, Int.reduceLE, Int.reduceEq, Int.reduceToNat, Int.reduceAdd, Int.reduceSub, Int.reduceMul, Int.reduceBEq, Int.reduceBNe, reduceBEq, d2]
    refine AWPc.of_arun ?_
    simp only [go_sem, ↓reduceIte, reduceCtorEq, Nat.reduceEqDiff, Nat.reduceLT, Nat.reduceLeDiff, Nat.reduceAdd, Nat.reduceMul, Nat.reduceSub, Nat.reduceBEq, Nat.reduceDiv, Int.reduceNeg, Int.reduceLT, Int.reduceLE, Int.reduceEq, Int.reduceToNat, Int.reduceAdd, Int.reduceSub, Int.reduceMul, Int.reduceBEq, Int.reduceBNe, reduceBEq]
    exact hR _ _ false rfl (by rw [decide_eq_false (by omega)]; rfl) (WeakV.none hwf (by repeat (first | exact Agree.refl _ | refine Agree.newObj ?_ _ | refine Agree.newTok ?_ _ _ _ | refine Agree.killTok ?_ (by omega) | refine Agree.setObj ?_ (by omega) _ | refine Agree.dropObj ?_ (by omega))) (.pv _ _ _))
  have d2 : decide (0 ≤ p.bt ∧ p.bt ≤ 2147483647) = true := decide_eq_true h2
  by_cases h3 : p.ps.length ≤ 2
  case neg =>
    have d3 : decide ((p.ps.length : Int) ≤ 2) = false := decide_eq_false (by omega)
    simp only [go_sem, ↓reduceIte, reduceCtorEq, Nat.reduceEqDiff, Nat.reduceLT, Nat.reduceLeDiff, Nat.reduceAdd, Nat.reduceMul, Nat.reduceSub, Nat.reduceBEq, Nat.reduceDiv, Int.reduceNeg, Int.reduceLT, Int.reduceLE, Int.reduceEq, Int.reduceToNat, Int.reduceAdd, Int.reduceSub, Int.reduceMul, Int.reduceBEq, Int.reduceBNe, reduceBEq, d2, d3, encP_length]
    refine AWPc.of_arun ?_
    simp only [go_sem, ↓reduceIte, reduceCtorEq, Nat.reduceEqDiff, Nat.reduceLT, Nat.reduceLeDiff, Nat.reduceAdd, Nat.reduceMul, Nat.reduceSub, Nat.reduceBEq, Nat.reduceDiv, Int.reduceNeg, Int.reduceLT, Int.reduceLE, Int.reduceEq, Int.reduceToNat, Int.reduceAdd, Int.reduceSub, Int.reduceMul, Int.reduceBEq, Int.reduceBNe, reduceBEq]
    exact hR _ _ false rfl (by rw [decide_eq_false (by omega)]; rfl) (WeakV.none hwf (by repeat (first | exact Agree.refl _ | refine Agree.newObj ?_ _ | refine Agree.newTok ?_ _ _ _ | refine Agree.killTok ?_ (by omega) | refine Agree.setObj ?_ (by omega) _ | refine Agree.dropObj ?_ (by omega))) (.pv _ _ _))
  have d3 : decide ((p.ps.length : Int) ≤ 2) = true := decide_eq_true (by omega)
  by_cases h4 : p.is.length ≤ 16
  case neg =>
    have d4 : decide ((p.is.length : Int) ≤ 16) = false := decide_eq_false (by omega)
    simp only [go_sem, ↓reduceIte, reduceCtorEq, Nat.reduceEqDiff, Nat.reduceLT, Nat.reduceLeDiff, Nat.reduceAdd, Nat.reduceMul, Nat.reduceSub, Nat.reduceBEq, Nat.reduceDiv, Int.reduceNeg, Int.reduceLT, Int.reduceLE, Int.reduceEq, Int.reduceToNat, Int.reduceAdd, Int.reduceSub, Int.reduceMul, Int.reduceBEq, Int.reduceBNe, reduceBEq, d2, d3, d4, encP_length, encI_length]
    refine AWPc.of_arun ?_
    simp only [go_sem, ↓reduceIte, reduceCtorEq, Nat.reduceEqDiff, Nat.reduceLT, Nat.reduceLeDiff, Nat.reduceAdd, Nat.reduceMul, Nat.reduceSub, Nat.reduceBEq, Nat.reduceDiv, Int.reduceNeg, Int.reduceLT, Int.reduceLE, Int.reduceEq, Int.reduceToNat, Int.reduceAdd, Int.reduceSub, Int.reduceMul, Int.reduceBEq, Int.reduceBNe, reduceBEq]
    exact hR _ _ false rfl (by rw [decide_eq_false (by omega)]; rfl) (WeakV.none hwf (by repeat (first | exact Agree.refl _ | refine Agree.newObj ?_ _ | refine Agree.newTok ?_ _ _ _ | refine Agree.killTok ?_ (by omega) | refine Agree.setObj ?_ (by omega) _ | refine Agree.dropObj ?_ (by omega))) (.pv _ _ _))
  have d4 : decide ((p.is.length : Int) ≤ 16) = true := decide_eq_true (by omega)
  simp only [go_sem, ↓reduceIte, reduceCtorEq, Nat.reduceEqDiff, Nat.reduceLT, Nat.reduceLeDiff, Nat.reduceAdd, Nat.reduceMul, Nat.reduceSub, Nat.reduceBEq, Nat.reduceDiv, Int.reduceNeg, Int.reduceLT, Int.reduceLE, Int.reduceEq, Int.reduceToNat, Int.reduceAdd, Int.reduceSub, Int.reduceMul, Int.reduceBEq, Int.reduceBNe, reduceBEq, d2, d3, d4, encP_length, encI_length]
  refine AWPc.of_arun ?_
  simp only [go_sem, ↓reduceIte, reduceCtorEq, Nat.reduceEqDiff, Nat.reduceLT, Nat.reduceLeDiff, Nat.reduceAdd, Nat.reduceMul, Nat.reduceSub, Nat.reduceBEq, Nat.reduceDiv, Int.reduceNeg, Int.reduceLT, Int.reduceLE, Int.reduceEq, Int.reduceToNat, Int.reduceAdd, Int.reduceSub, Int.reduceMul, Int.reduceBEq, Int.reduceBNe, reduceBEq]
  exact hR _ _ (!wrong) rfl (by rw [decide_eq_true (by omega)]; rfl) (WeakV.none hwf (by repeat (first | exact Agree.refl _ | refine Agree.newObj ?_ _ | refine Agree.newTok ?_ _ _ _ | refine Agree.killTok ?_ (by omega) | refine Agree.setObj ?_ (by omega) _ | refine Agree.dropObj ?_ (by omega))) (.pv _ _ _))

theorem right_iff (p : Rp) : decide p.right = (decide (0 ≤ p.cd ∧ p.cd ≤ 255 ∧ 0 ≤ p.bt ∧ p.bt ≤ 2147483647 ∧ p.ps.length ≤ 2 ∧ p.is.length ≤ 16) && !(!decide (∀ y ∈ p.ps, y.right) || !decide (∀ y ∈ p.is, y.right))) := by
  by_cases h : p.right
  · rw [decide_eq_true h, decide_eq_true ⟨h.c1, h.c2, h.b1, h.b2, h.p2, h.i2⟩, decide_eq_true h.p1, decide_eq_true h.i1]; rfl
  · rw [decide_eq_false h]
    by_cases h1 : ∀ y ∈ p.ps, y.right
    · by_cases h2 : ∀ y ∈ p.is, y.right
      · rw [decide_eq_true h1, decide_eq_true h2, decide_eq_false (fun ⟨a, b, c, d, e, f⟩ => h ⟨h1, h2, a, b, c, d, e, f⟩)]; rfl
      · rw [decide_eq_false h2]; simp
    · rw [decide_eq_false h1]; simp

theorem cRight_spec (p : Rp) (hp : p.ps.length < 2 ^ 47) (hi : p.is.length < 2 ^ 47) (σ : Store) : ACalls Try.prog 36 [.agg p.avs] σ (fun x s => x = .bool (decide p.right) ∧ s = σ) := by
  refine ACalls.of_awpc Try.func36 c36_eq c36_n c36_rs (by simp) fun hwf => ?_
  unfold c36
  refine AWPc.step ?_
  simp only [go_sem, ↓reduceIte, reduceCtorEq, Nat.reduceEqDiff, Nat.reduceLT, Nat.reduceLeDiff, Nat.reduceAdd, Nat.reduceMul, Nat.reduceSub, Nat.reduceBEq, Nat.reduceDiv, Int.reduceNeg, Int.reduceLT, Int.reduceLE, Int.reduceEq, Int.reduceToNat, Int.reduceAdd, Int.reduceSub, Int.reduceMul, Int.reduceBEq, Int.reduceBNe, reduceBEq, c36_r0]
  refine AWPc.step ?_
  simp only [go_sem, ↓reduceIte, reduceCtorEq, Nat.reduceEqDiff, Nat.reduceLT, Nat.reduceLeDiff, Nat.reduceAdd, Nat.reduceMul, Nat.reduceSub, Nat.reduceBEq, Nat.reduceDiv, Int.reduceNeg, Int.reduceLT, Int.reduceLE, Int.reduceEq, Int.reduceToNat, Int.reduceAdd, Int.reduceSub, Int.reduceMul, Int.reduceBEq, Int.reduceBNe, reduceBEq, c36_r1]
  refine (cContainsP p.ps hp _).mono fun y s' hy => ?_
  obtain ⟨rfl, hs⟩ := hy
  have hs := hs.symm; subst hs
  by_cases h1 : ∀ y ∈ p.ps, y.right
  case neg =>
    have d1 : (!decide (∀ y ∈ p.ps, y.right)) = true := by rw [decide_eq_false h1]; rfl
    simp only [go_sem, ↓reduceIte, reduceCtorEq, Nat.reduceEqDiff, Nat.reduceLT, Nat.reduceLeDiff, Nat.reduceAdd, Nat.reduceMul, Nat.reduceSub, Nat.reduceBEq, Nat.reduceDiv, Int.reduceNeg, Int.reduceLT, Int.reduceLE, Int.reduceEq, Int.reduceToNat, Int.reduceAdd, Int.reduceSub, Int.reduceMul, Int.reduceBEq, Int.reduceBNe, reduceBEq, d1]
    refine cRight_b p true σ hwf _ (all_cons rfl (all_cons rfl all_nil)) _ fun env' σ' b hb he hw => ⟨.inr rfl, _, _, _, hb, hw, ?_, rfl⟩
    rw [he, right_iff, d1]; rfl
  have d1 : (!decide (∀ y ∈ p.ps, y.right)) = false := by rw [decide_eq_true h1]; rfl
  simp only [go_sem, ↓reduceIte, reduceCtorEq, Nat.reduceEqDiff, Nat.reduceLT, Nat.reduceLeDiff, Nat.reduceAdd, Nat.reduceMul, Nat.reduceSub, Nat.reduceBEq, Nat.reduceDiv, Int.reduceNeg, Int.reduceLT, Int.reduceLE, Int.reduceEq, Int.reduceToNat, Int.reduceAdd, Int.reduceSub, Int.reduceMul, Int.reduceBEq, Int.reduceBNe, reduceBEq, d1]
  refine (cContainsI p.is hi _).mono fun y s' hy => ?_
  obtain ⟨rfl, hs⟩ := hy
  have hs := hs.symm; subst hs
  simp only [go_sem, ↓reduceIte, reduceCtorEq, Nat.reduceEqDiff, Nat.reduceLT, Nat.reduceLeDiff, Nat.reduceAdd, Nat.reduceMul, Nat.reduceSub, Nat.reduceBEq, Nat.reduceDiv, Int.reduceNeg, Int.reduceLT, Int.reduceLE, Int.reduceEq, Int.reduceToNat, Int.reduceAdd, Int.reduceSub, Int.reduceMul, Int.reduceBEq, Int.reduceBNe, reduceBEq]
  refine cRight_b p (!decide (∀ y ∈ p.is, y.right)) σ hwf _ (all_cons rfl (all_cons rfl all_nil)) _ fun env' σ' b hb he hw => ⟨.inr rfl, _, _, _, hb, hw, ?_, rfl⟩
  rw [he, right_iff, d1]; rfl
end Go.Proofs.Ytnanpamfdjnomaa
