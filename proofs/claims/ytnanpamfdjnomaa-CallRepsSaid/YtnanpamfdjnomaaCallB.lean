/- call: right requests, laid requests. -/
import Derived.Test.YtnanpamfdjnomaaCallA
namespace Go.Proofs.Ytnanpamfdjnomaa
open Go Go.RowKit Go.Proofs.Ytnanpamfdjnomaa.AL
set_option maxRecDepth 100000
set_option linter.unusedSimpArgs false

/-- A request, as it is told. -/
structure Q where
  kd : Int
  st : Int
  gn : Int
  ix : Int
  d : List UInt8
  deriving DecidableEq
abbrev AV.q (q : Q) : AV := .agg [.int .i64 q.kd, .int .i64 q.st, .int .i64 q.gn, .int .i64 q.ix, AV.bytes q.d]
structure Q.right (q : Q) : Prop where
  k1 : 1 ≤ q.kd
  k2 : q.kd ≤ 6
  s1 : 0 ≤ q.st
  s2 : q.st ≤ 65535
  g1 : 0 ≤ q.gn
  g2 : q.gn ≤ 1099511627776
  i1 : 0 ≤ q.ix
  i2 : q.ix ≤ 255
  d1 : q.d.length ≤ 128
instance (q : Q) : Decidable q.right := decidable_of_iff (1 ≤ q.kd ∧ q.kd ≤ 6 ∧ 0 ≤ q.st ∧ q.st ≤ 65535 ∧ 0 ≤ q.gn ∧ q.gn ≤ 1099511627776 ∧ 0 ≤ q.ix ∧ q.ix ≤ 255 ∧ q.d.length ≤ 128)
  ⟨fun ⟨a, b, c, d, e, f, g, h, i⟩ => ⟨a, b, c, d, e, f, g, h, i⟩, fun h => ⟨h.k1, h.k2, h.s1, h.s2, h.g1, h.g2, h.i1, h.i2, h.d1⟩⟩
def Q.lay (q : Q) : List UInt8 := bigL q.kd.toNat 1 ++ bigL q.st.toNat 2 ++ bigL q.gn.toNat 6 ++ bigL q.ix.toNat 1 ++ bigL q.d.length 2 ++ q.d
theorem Q.lay_length (q : Q) : q.lay.length = 12 + q.d.length := by simp [Q.lay, bigL_length]; omega
theorem rightReq_spec (q : Q) (σ : Store) : ACalls Try.prog 8 [AV.q q] σ (fun x s => x = .bool (decide q.right) ∧ s = σ) := by
  refine ACalls.of_arun Try.func8 c8_eq c8_n c8_rs (by simp) fun hwf => ?_
  by_cases h0 : 1 ≤ q.kd
  case neg =>
    have d0 : decide (q.kd ≥ 1) = false := decide_eq_false (by omega)
    simp only [go_sem, ↓reduceIte, reduceCtorEq, Nat.reduceEqDiff, Nat.reduceLT, Nat.reduceLeDiff, Nat.reduceAdd, Nat.reduceMul, Nat.reduceSub, Nat.reduceBEq, Nat.reduceDiv, Int.reduceNeg, Int.reduceLT, Int.reduceLE, Int.reduceEq, Int.reduceToNat, Int.reduceAdd, Int.reduceSub, Int.reduceMul, Int.reduceBEq, Int.reduceBNe, reduceBEq, c8, c8_r0, encB_length, d0]
    simp only [go_sem, ↓reduceIte, reduceCtorEq, Nat.reduceEqDiff, Nat.reduceLT, Nat.reduceLeDiff, Nat.reduceAdd, Nat.reduceMul, Nat.reduceSub, Nat.reduceBEq, Nat.reduceDiv, Int.reduceNeg, Int.reduceLT, Int.reduceLE, Int.reduceEq, Int.reduceToNat, Int.reduceAdd, Int.reduceSub, Int.reduceMul, Int.reduceBEq, Int.reduceBNe, reduceBEq, c8_r1, encB_length, d0]
    exact ⟨_, _, _, rfl, WeakV.none hwf ((Agree.refl _).newObj _) (.pv _ _ _), by rw [decide_eq_false (fun h : q.right => h0 h.k1)], rfl⟩
  have d0 : decide (q.kd ≥ 1) = true := decide_eq_true (by omega)
  by_cases h1 : q.kd ≤ 6
  case neg =>
    have d1 : decide (q.kd ≤ 6) = false := decide_eq_false (by omega)
    simp only [go_sem, ↓reduceIte, reduceCtorEq, Nat.reduceEqDiff, Nat.reduceLT, Nat.reduceLeDiff, Nat.reduceAdd, Nat.reduceMul, Nat.reduceSub, Nat.reduceBEq, Nat.reduceDiv, Int.reduceNeg, Int.reduceLT, Int.reduceLE, Int.reduceEq, Int.reduceToNat, Int.reduceAdd, Int.reduceSub, Int.reduceMul, Int.reduceBEq, Int.reduceBNe, reduceBEq, c8, c8_r0, encB_length, d0, d1]
    simp only [go_sem, ↓reduceIte, reduceCtorEq, Nat.reduceEqDiff, Nat.reduceLT, Nat.reduceLeDiff, Nat.reduceAdd, Nat.reduceMul, Nat.reduceSub, Nat.reduceBEq, Nat.reduceDiv, Int.reduceNeg, Int.reduceLT, Int.reduceLE, Int.reduceEq, Int.reduceToNat, Int.reduceAdd, Int.reduceSub, Int.reduceMul, Int.reduceBEq, Int.reduceBNe, reduceBEq, c8_r1, encB_length, d0, d1]
    exact ⟨_, _, _, rfl, WeakV.none hwf ((Agree.refl _).newObj _) (.pv _ _ _), by rw [decide_eq_false (fun h : q.right => h1 h.k2)], rfl⟩
  have d1 : decide (q.kd ≤ 6) = true := decide_eq_true (by omega)
  by_cases h2 : 0 ≤ q.st
  case neg =>
    have d2 : decide (q.st ≥ 0) = false := decide_eq_false (by omega)
    simp only [go_sem, ↓reduceIte, reduceCtorEq, Nat.reduceEqDiff, Nat.reduceLT, Nat.reduceLeDiff, Nat.reduceAdd, Nat.reduceMul, Nat.reduceSub, Nat.reduceBEq, Nat.reduceDiv, Int.reduceNeg, Int.reduceLT, Int.reduceLE, Int.reduceEq, Int.reduceToNat, Int.reduceAdd, Int.reduceSub, Int.reduceMul, Int.reduceBEq, Int.reduceBNe, reduceBEq, c8, c8_r0, encB_length, d0, d1, d2]
    simp only [go_sem, ↓reduceIte, reduceCtorEq, Nat.reduceEqDiff, Nat.reduceLT, Nat.reduceLeDiff, Nat.reduceAdd, Nat.reduceMul, Nat.reduceSub, Nat.reduceBEq, Nat.reduceDiv, Int.reduceNeg, Int.reduceLT, Int.reduceLE, Int.reduceEq, Int.reduceToNat, Int.reduceAdd, Int.reduceSub, Int.reduceMul, Int.reduceBEq, Int.reduceBNe, reduceBEq, c8_r1, encB_length, d0, d1, d2]
    exact ⟨_, _, _, rfl, WeakV.none hwf ((Agree.refl _).newObj _) (.pv _ _ _), by rw [decide_eq_false (fun h : q.right => h2 h.s1)], rfl⟩
  have d2 : decide (q.st ≥ 0) = true := decide_eq_true (by omega)
  by_cases h3 : q.st ≤ 65535
  case neg =>
    have d3 : decide (q.st ≤ 65535) = false := decide_eq_false (by omega)
    simp only [go_sem, ↓reduceIte, reduceCtorEq, Nat.reduceEqDiff, Nat.reduceLT, Nat.reduceLeDiff, Nat.reduceAdd, Nat.reduceMul, Nat.reduceSub, Nat.reduceBEq, Nat.reduceDiv, Int.reduceNeg, Int.reduceLT, Int.reduceLE, Int.reduceEq, Int.reduceToNat, Int.reduceAdd, Int.reduceSub, Int.reduceMul, Int.reduceBEq, Int.reduceBNe, reduceBEq, c8, c8_r0, encB_length, d0, d1, d2, d3]
    simp only [go_sem, ↓reduceIte, reduceCtorEq, Nat.reduceEqDiff, Nat.reduceLT, Nat.reduceLeDiff, Nat.reduceAdd, Nat.reduceMul, Nat.reduceSub, Nat.reduceBEq, Nat.reduceDiv, Int.reduceNeg, Int.reduceLT, Int.reduceLE, Int.reduceEq, Int.reduceToNat, Int.reduceAdd, Int.reduceSub, Int.reduceMul, Int.reduceBEq, Int.reduceBNe, reduceBEq, c8_r1, encB_length, d0, d1, d2, d3]
    exact ⟨_, _, _, rfl, WeakV.none hwf ((Agree.refl _).newObj _) (.pv _ _ _), by rw [decide_eq_false (fun h : q.right => h3 h.s2)], rfl⟩
  have d3 : decide (q.st ≤ 65535) = true := decide_eq_true (by omega)
  by_cases h4 : 0 ≤ q.gn
  case neg =>
    have d4 : decide (q.gn ≥ 0) = false := decide_eq_false (by omega)
    simp only [go_sem, ↓reduceIte, reduceCtorEq, Nat.reduceEqDiff, Nat.reduceLT, Nat.reduceLeDiff, Nat.reduceAdd, Nat.reduceMul, Nat.reduceSub, Nat.reduceBEq, Nat.reduceDiv, Int.reduceNeg, Int.reduceLT, Int.reduceLE, Int.reduceEq, Int.reduceToNat, Int.reduceAdd, Int.reduceSub, Int.reduceMul, Int.reduceBEq, Int.reduceBNe, reduceBEq, c8, c8_r0, encB_length, d0, d1, d2, d3, d4]
    simp only [go_sem, ↓reduceIte, reduceCtorEq, Nat.reduceEqDiff, Nat.reduceLT, Nat.reduceLeDiff, Nat.reduceAdd, Nat.reduceMul, Nat.reduceSub, Nat.reduceBEq, Nat.reduceDiv, Int.reduceNeg, Int.reduceLT, Int.reduceLE, Int.reduceEq, Int.reduceToNat, Int.reduceAdd, Int.reduceSub, Int.reduceMul, Int.reduceBEq, Int.reduceBNe, reduceBEq, c8_r1, encB_length, d0, d1, d2, d3, d4]
    exact ⟨_, _, _, rfl, WeakV.none hwf ((Agree.refl _).newObj _) (.pv _ _ _), by rw [decide_eq_false (fun h : q.right => h4 h.g1)], rfl⟩
  have d4 : decide (q.gn ≥ 0) = true := decide_eq_true (by omega)
  by_cases h5 : q.gn ≤ 1099511627776
  case neg =>
    have d5 : decide (q.gn ≤ 1099511627776) = false := decide_eq_false (by omega)
    simp only [go_sem, ↓reduceIte, reduceCtorEq, Nat.reduceEqDiff, Nat.reduceLT, Nat.reduceLeDiff, Nat.reduceAdd, Nat.reduceMul, Nat.reduceSub, Nat.reduceBEq, Nat.reduceDiv, Int.reduceNeg, Int.reduceLT, Int.reduceLE, Int.reduceEq, Int.reduceToNat, Int.reduceAdd, Int.reduceSub, Int.reduceMul, Int.reduceBEq, Int.reduceBNe, reduceBEq, c8, c8_r0, encB_length, d0, d1, d2, d3, d4, d5]
    simp only [go_sem, ↓reduceIte, reduceCtorEq, Nat.reduceEqDiff, Nat.reduceLT, Nat.reduceLeDiff, Nat.reduceAdd, Nat.reduceMul, Nat.reduceSub, Nat.reduceBEq, Nat.reduceDiv, Int.reduceNeg, Int.reduceLT, Int.reduceLE, Int.reduceEq, Int.reduceToNat, Int.reduceAdd, Int.reduceSub, Int.reduceMul, Int.reduceBEq, Int.reduceBNe, reduceBEq, c8_r1, encB_length, d0, d1, d2, d3, d4, d5]
    exact ⟨_, _, _, rfl, WeakV.none hwf ((Agree.refl _).newObj _) (.pv _ _ _), by rw [decide_eq_false (fun h : q.right => h5 h.g2)], rfl⟩
  have d5 : decide (q.gn ≤ 1099511627776) = true := decide_eq_true (by omega)
  by_cases h6 : 0 ≤ q.ix
  case neg =>
    have d6 : decide (q.ix ≥ 0) = false := decide_eq_false (by omega)
    simp only [go_sem, ↓reduceIte, reduceCtorEq, Nat.reduceEqDiff, Nat.reduceLT, Nat.reduceLeDiff, Nat.reduceAdd, Nat.reduceMul, Nat.reduceSub, Nat.reduceBEq, Nat.reduceDiv, Int.reduceNeg, Int.reduceLT, Int.reduceLE, Int.reduceEq, Int.reduceToNat, Int.reduceAdd, Int.reduceSub, Int.reduceMul, Int.reduceBEq, Int.reduceBNe, reduceBEq, c8, c8_r0, encB_length, d0, d1, d2, d3, d4, d5, d6]
    simp only [go_sem, ↓reduceIte, reduceCtorEq, Nat.reduceEqDiff, Nat.reduceLT, Nat.reduceLeDiff, Nat.reduceAdd, Nat.reduceMul, Nat.reduceSub, Nat.reduceBEq, Nat.reduceDiv, Int.reduceNeg, Int.reduceLT, Int.reduceLE, Int.reduceEq, Int.reduceToNat, Int.reduceAdd, Int.reduceSub, Int.reduceMul, Int.reduceBEq, Int.reduceBNe, reduceBEq, c8_r1, encB_length, d0, d1, d2, d3, d4, d5, d6]
    exact ⟨_, _, _, rfl, WeakV.none hwf ((Agree.refl _).newObj _) (.pv _ _ _), by rw [decide_eq_false (fun h : q.right => h6 h.i1)], rfl⟩
  have d6 : decide (q.ix ≥ 0) = true := decide_eq_true (by omega)
  by_cases h7 : q.ix ≤ 255
  case neg =>
    have d7 : decide (q.ix ≤ 255) = false := decide_eq_false (by omega)
    simp only [go_sem, ↓reduceIte, reduceCtorEq, Nat.reduceEqDiff, Nat.reduceLT, Nat.reduceLeDiff, Nat.reduceAdd, Nat.reduceMul, Nat.reduceSub, Nat.reduceBEq, Nat.reduceDiv, Int.reduceNeg, Int.reduceLT, Int.reduceLE, Int.reduceEq, Int.reduceToNat, Int.reduceAdd, Int.reduceSub, Int.reduceMul, Int.reduceBEq, Int.reduceBNe, reduceBEq, c8, c8_r0, encB_length, d0, d1, d2, d3, d4, d5, d6, d7]
    simp only [go_sem, ↓reduceIte, reduceCtorEq, Nat.reduceEqDiff, Nat.reduceLT, Nat.reduceLeDiff, Nat.reduceAdd, Nat.reduceMul, Nat.reduceSub, Nat.reduceBEq, Nat.reduceDiv, Int.reduceNeg, Int.reduceLT, Int.reduceLE, Int.reduceEq, Int.reduceToNat, Int.reduceAdd, Int.reduceSub, Int.reduceMul, Int.reduceBEq, Int.reduceBNe, reduceBEq, c8_r1, encB_length, d0, d1, d2, d3, d4, d5, d6, d7]
    exact ⟨_, _, _, rfl, WeakV.none hwf ((Agree.refl _).newObj _) (.pv _ _ _), by rw [decide_eq_false (fun h : q.right => h7 h.i2)], rfl⟩
  have d7 : decide (q.ix ≤ 255) = true := decide_eq_true (by omega)
  by_cases h8 : q.d.length ≤ 128
  case neg =>
    have d8 : decide ((q.d.length : Int) ≤ 128) = false := decide_eq_false (by omega)
    simp only [go_sem, ↓reduceIte, reduceCtorEq, Nat.reduceEqDiff, Nat.reduceLT, Nat.reduceLeDiff, Nat.reduceAdd, Nat.reduceMul, Nat.reduceSub, Nat.reduceBEq, Nat.reduceDiv, Int.reduceNeg, Int.reduceLT, Int.reduceLE, Int.reduceEq, Int.reduceToNat, Int.reduceAdd, Int.reduceSub, Int.reduceMul, Int.reduceBEq, Int.reduceBNe, reduceBEq, c8, c8_r0, encB_length, d0, d1, d2, d3, d4, d5, d6, d7, d8]
    simp only [go_sem, ↓reduceIte, reduceCtorEq, Nat.reduceEqDiff, Nat.reduceLT, Nat.reduceLeDiff, Nat.reduceAdd, Nat.reduceMul, Nat.reduceSub, Nat.reduceBEq, Nat.reduceDiv, Int.reduceNeg, Int.reduceLT, Int.reduceLE, Int.reduceEq, Int.reduceToNat, Int.reduceAdd, Int.reduceSub, Int.reduceMul, Int.reduceBEq, Int.reduceBNe, reduceBEq, c8_r1, encB_length, d0, d1, d2, d3, d4, d5, d6, d7, d8]
    exact ⟨_, _, _, rfl, WeakV.none hwf ((Agree.refl _).newObj _) (.pv _ _ _), by rw [decide_eq_false (fun h : q.right => h8 h.d1)], rfl⟩
  have d8 : decide ((q.d.length : Int) ≤ 128) = true := decide_eq_true (by omega)
  simp only [go_sem, ↓reduceIte, reduceCtorEq, Nat.reduceEqDiff, Nat.reduceLT, Nat.reduceLeDiff, Nat.reduceAdd, Nat.reduceMul, Nat.reduceSub, Nat.reduceBEq, Nat.reduceDiv, Int.reduceNeg, Int.reduceLT, Int.reduceLE, Int.reduceEq, Int.reduceToNat, Int.reduceAdd, Int.reduceSub, Int.reduceMul, Int.reduceBEq, Int.reduceBNe, reduceBEq, c8, c8_r0, encB_length, d0, d1, d2, d3, d4, d5, d6, d7, d8]
  simp only [go_sem, ↓reduceIte, reduceCtorEq, Nat.reduceEqDiff, Nat.reduceLT, Nat.reduceLeDiff, Nat.reduceAdd, Nat.reduceMul, Nat.reduceSub, Nat.reduceBEq, Nat.reduceDiv, Int.reduceNeg, Int.reduceLT, Int.reduceLE, Int.reduceEq, Int.reduceToNat, Int.reduceAdd, Int.reduceSub, Int.reduceMul, Int.reduceBEq, Int.reduceBNe, reduceBEq, c8_r1, encB_length, d0, d1, d2, d3, d4, d5, d6, d7, d8]
  exact ⟨_, _, _, rfl, WeakV.none hwf ((Agree.refl _).newObj _) (.pv _ _ _), by rw [decide_eq_true (⟨h0, h1, h2, h3, h4, h5, h6, h7, h8⟩ : q.right)], rfl⟩

/-- What LayReq answers. -/
theorem layReq_spec (q : Q) (hl : q.d.length < 2 ^ 47) (σ : Store) : ACalls Try.prog 9 [AV.q q] σ (fun x s => x = (if q.right then .tup [AV.bytes q.lay, .int .i64 0] else .tup [AV.bytes [], .int .i64 1]) ∧ s = σ) := by
  refine ACalls.of_arun Try.func9 c9_eq c9_n c9_rs (by simp) fun hwf => ?_
  simp only [go_sem, ↓reduceIte, reduceCtorEq, Nat.reduceEqDiff, Nat.reduceLT, Nat.reduceLeDiff, Nat.reduceAdd, Nat.reduceMul, Nat.reduceSub, Nat.reduceBEq, Nat.reduceDiv, Int.reduceNeg, Int.reduceLT, Int.reduceLE, Int.reduceEq, Int.reduceToNat, Int.reduceAdd, Int.reduceSub, Int.reduceMul, Int.reduceBEq, Int.reduceBNe, reduceBEq, c9, c9_r0]
  simp only [go_sem, ↓reduceIte, reduceCtorEq, Nat.reduceEqDiff, Nat.reduceLT, Nat.reduceLeDiff, Nat.reduceAdd, Nat.reduceMul, Nat.reduceSub, Nat.reduceBEq, Nat.reduceDiv, Int.reduceNeg, Int.reduceLT, Int.reduceLE, Int.reduceEq, Int.reduceToNat, Int.reduceAdd, Int.reduceSub, Int.reduceMul, Int.reduceBEq, Int.reduceBNe, reduceBEq, c9_r1]
  refine (within_spec q.kd 1 6 _).mono fun y s' hy => ?_
  obtain ⟨rfl, rfl⟩ := hy
  by_cases h0 : 1 ≤ q.kd ∧ q.kd ≤ 6
  case neg =>
    have d0 : decide (1 ≤ q.kd ∧ q.kd ≤ 6) = false := decide_eq_false h0
    simp only [go_sem, ↓reduceIte, reduceCtorEq, Nat.reduceEqDiff, Nat.reduceLT, Nat.reduceLeDiff, Nat.reduceAdd, Nat.reduceMul, Nat.reduceSub, Nat.reduceBEq, Nat.reduceDiv, Int.reduceNeg, Int.reduceLT, Int.reduceLE, Int.reduceEq, Int.reduceToNat, Int.reduceAdd, Int.reduceSub, Int.reduceMul, Int.reduceBEq, Int.reduceBNe, reduceBEq, d0, c9_r2]
    rw [if_neg (fun h : q.right => h0 ⟨h.k1, h.k2⟩)]
    exact ⟨_, _, _, rfl, WeakV.none hwf ((Agree.refl _).newObj _) (LeR.of_le (Le.tup2 (Le.nil 1) (.refl _)) (by simp)), rfl, rfl⟩
  have d0 : decide (1 ≤ q.kd ∧ q.kd ≤ 6) = true := decide_eq_true h0
  simp only [go_sem, ↓reduceIte, reduceCtorEq, Nat.reduceEqDiff, Nat.reduceLT, Nat.reduceLeDiff, Nat.reduceAdd, Nat.reduceMul, Nat.reduceSub, Nat.reduceBEq, Nat.reduceDiv, Int.reduceNeg, Int.reduceLT, Int.reduceLE, Int.reduceEq, Int.reduceToNat, Int.reduceAdd, Int.reduceSub, Int.reduceMul, Int.reduceBEq, Int.reduceBNe, reduceBEq, d0]
  refine (within_spec q.st 0 65535 _).mono fun y s' hy => ?_
  obtain ⟨rfl, rfl⟩ := hy
  by_cases h1 : 0 ≤ q.st ∧ q.st ≤ 65535
  case neg =>
    have d1 : decide (0 ≤ q.st ∧ q.st ≤ 65535) = false := decide_eq_false h1
    simp only [go_sem, ↓reduceIte, reduceCtorEq, Nat.reduceEqDiff, Nat.reduceLT, Nat.reduceLeDiff, Nat.reduceAdd, Nat.reduceMul, Nat.reduceSub, Nat.reduceBEq, Nat.reduceDiv, Int.reduceNeg, Int.reduceLT, Int.reduceLE, Int.reduceEq, Int.reduceToNat, Int.reduceAdd, Int.reduceSub, Int.reduceMul, Int.reduceBEq, Int.reduceBNe, reduceBEq, d1, c9_r2]
    rw [if_neg (fun h : q.right => h1 ⟨h.s1, h.s2⟩)]
    exact ⟨_, _, _, rfl, WeakV.none hwf ((Agree.refl _).newObj _) (LeR.of_le (Le.tup2 (Le.nil 1) (.refl _)) (by simp)), rfl, rfl⟩
  have d1 : decide (0 ≤ q.st ∧ q.st ≤ 65535) = true := decide_eq_true h1
  simp only [go_sem, ↓reduceIte, reduceCtorEq, Nat.reduceEqDiff, Nat.reduceLT, Nat.reduceLeDiff, Nat.reduceAdd, Nat.reduceMul, Nat.reduceSub, Nat.reduceBEq, Nat.reduceDiv, Int.reduceNeg, Int.reduceLT, Int.reduceLE, Int.reduceEq, Int.reduceToNat, Int.reduceAdd, Int.reduceSub, Int.reduceMul, Int.reduceBEq, Int.reduceBNe, reduceBEq, d1]
  refine (within_spec q.gn 0 1099511627776 _).mono fun y s' hy => ?_
  obtain ⟨rfl, rfl⟩ := hy
  by_cases h2 : 0 ≤ q.gn ∧ q.gn ≤ 1099511627776
  case neg =>
    have d2 : decide (0 ≤ q.gn ∧ q.gn ≤ 1099511627776) = false := decide_eq_false h2
    simp only [go_sem, ↓reduceIte, reduceCtorEq, Nat.reduceEqDiff, Nat.reduceLT, Nat.reduceLeDiff, Nat.reduceAdd, Nat.reduceMul, Nat.reduceSub, Nat.reduceBEq, Nat.reduceDiv, Int.reduceNeg, Int.reduceLT, Int.reduceLE, Int.reduceEq, Int.reduceToNat, Int.reduceAdd, Int.reduceSub, Int.reduceMul, Int.reduceBEq, Int.reduceBNe, reduceBEq, d2, c9_r2]
    rw [if_neg (fun h : q.right => h2 ⟨h.g1, h.g2⟩)]
    exact ⟨_, _, _, rfl, WeakV.none hwf ((Agree.refl _).newObj _) (LeR.of_le (Le.tup2 (Le.nil 1) (.refl _)) (by simp)), rfl, rfl⟩
  have d2 : decide (0 ≤ q.gn ∧ q.gn ≤ 1099511627776) = true := decide_eq_true h2
  simp only [go_sem, ↓reduceIte, reduceCtorEq, Nat.reduceEqDiff, Nat.reduceLT, Nat.reduceLeDiff, Nat.reduceAdd, Nat.reduceMul, Nat.reduceSub, Nat.reduceBEq, Nat.reduceDiv, Int.reduceNeg, Int.reduceLT, Int.reduceLE, Int.reduceEq, Int.reduceToNat, Int.reduceAdd, Int.reduceSub, Int.reduceMul, Int.reduceBEq, Int.reduceBNe, reduceBEq, d2]
  refine (within_spec q.ix 0 255 _).mono fun y s' hy => ?_
  obtain ⟨rfl, rfl⟩ := hy
  by_cases h3 : 0 ≤ q.ix ∧ q.ix ≤ 255
  case neg =>
    have d3 : decide (0 ≤ q.ix ∧ q.ix ≤ 255) = false := decide_eq_false h3
    simp only [go_sem, ↓reduceIte, reduceCtorEq, Nat.reduceEqDiff, Nat.reduceLT, Nat.reduceLeDiff, Nat.reduceAdd, Nat.reduceMul, Nat.reduceSub, Nat.reduceBEq, Nat.reduceDiv, Int.reduceNeg, Int.reduceLT, Int.reduceLE, Int.reduceEq, Int.reduceToNat, Int.reduceAdd, Int.reduceSub, Int.reduceMul, Int.reduceBEq, Int.reduceBNe, reduceBEq, d3, c9_r2]
    rw [if_neg (fun h : q.right => h3 ⟨h.i1, h.i2⟩)]
    exact ⟨_, _, _, rfl, WeakV.none hwf ((Agree.refl _).newObj _) (LeR.of_le (Le.tup2 (Le.nil 1) (.refl _)) (by simp)), rfl, rfl⟩
  have d3 : decide (0 ≤ q.ix ∧ q.ix ≤ 255) = true := decide_eq_true h3
  by_cases h4 : q.d.length ≤ 128
  case neg =>
    have d4 : decide ((q.d.length : Int) > 128) = true := decide_eq_true (by omega)
    simp only [go_sem, ↓reduceIte, reduceCtorEq, Nat.reduceEqDiff, Nat.reduceLT, Nat.reduceLeDiff, Nat.reduceAdd, Nat.reduceMul, Nat.reduceSub, Nat.reduceBEq, Nat.reduceDiv, Int.reduceNeg, Int.reduceLT, Int.reduceLE, Int.reduceEq, Int.reduceToNat, Int.reduceAdd, Int.reduceSub, Int.reduceMul, Int.reduceBEq, Int.reduceBNe, reduceBEq, d3, d4, encB_length, c9_r2]
    rw [if_neg (fun h : q.right => h4 h.d1)]
    exact ⟨_, _, _, rfl, WeakV.none hwf ((Agree.refl _).newObj _) (LeR.of_le (Le.tup2 (Le.nil 1) (.refl _)) (by simp)), rfl, rfl⟩
  have d4 : decide ((q.d.length : Int) > 128) = false := decide_eq_false (by omega)
  have hr : q.right := ⟨h0.1, h0.2, h1.1, h1.2, h2.1, h2.2, h3.1, h3.2, h4⟩
  rw [if_pos hr]
  simp only [go_sem, ↓reduceIte, reduceCtorEq, Nat.reduceEqDiff, Nat.reduceLT, Nat.reduceLeDiff, Nat.reduceAdd, Nat.reduceMul, Nat.reduceSub, Nat.reduceBEq, Nat.reduceDiv, Int.reduceNeg, Int.reduceLT, Int.reduceLE, Int.reduceEq, Int.reduceToNat, Int.reduceAdd, Int.reduceSub, Int.reduceMul, Int.reduceBEq, Int.reduceBNe, reduceBEq, d3, d4, encB_length]
  obtain ⟨kd, st, gn, ix, d⟩ := q
  dsimp only at *
  obtain ⟨kd, rfl⟩ := Int.eq_ofNat_of_zero_le (show 0 ≤ kd by omega)
  obtain ⟨st, rfl⟩ := Int.eq_ofNat_of_zero_le (show 0 ≤ st by omega)
  obtain ⟨gn, rfl⟩ := Int.eq_ofNat_of_zero_le (show 0 ≤ gn by omega)
  obtain ⟨ix, rfl⟩ := Int.eq_ofNat_of_zero_le (show 0 ≤ ix by omega)
  refine awpDreg mixed [] (by kernel_rfl) (by kernel_rfl) fun ops1 => ?_
  simp only [go_sem, ↓reduceIte, reduceCtorEq, Nat.reduceEqDiff, Nat.reduceLT, Nat.reduceLeDiff, Nat.reduceAdd, Nat.reduceMul, Nat.reduceSub, Nat.reduceBEq, Nat.reduceDiv, Int.reduceNeg, Int.reduceLT, Int.reduceLE, Int.reduceEq, Int.reduceToNat, Int.reduceAdd, Int.reduceSub, Int.reduceMul, Int.reduceBEq, Int.reduceBNe, reduceBEq, c9_d3_ops]
  refine dregFn_fn call_29 (fun τ => cbytes_spec kd (by omega) 1 (by omega) τ) (by simp only [go_sem, ↓reduceIte, reduceCtorEq, Nat.reduceEqDiff, Nat.reduceLT, Nat.reduceLeDiff, Nat.reduceAdd, Nat.reduceMul, Nat.reduceSub, Nat.reduceBEq, Nat.reduceDiv, Int.reduceNeg, Int.reduceLT, Int.reduceLE, Int.reduceEq, Int.reduceToNat, Int.reduceAdd, Int.reduceSub, Int.reduceMul, Int.reduceBEq, Int.reduceBNe, reduceBEq]; rfl) rfl rfl ?_
  simp only [go_sem, ↓reduceIte, reduceCtorEq, Nat.reduceEqDiff, Nat.reduceLT, Nat.reduceLeDiff, Nat.reduceAdd, Nat.reduceMul, Nat.reduceSub, Nat.reduceBEq, Nat.reduceDiv, Int.reduceNeg, Int.reduceLT, Int.reduceLE, Int.reduceEq, Int.reduceToNat, Int.reduceAdd, Int.reduceSub, Int.reduceMul, Int.reduceBEq, Int.reduceBNe, reduceBEq]
  refine dregFn_fn call_29 (fun τ => cbytes_spec st (by omega) 2 (by omega) τ) (by simp only [go_sem, ↓reduceIte, reduceCtorEq, Nat.reduceEqDiff, Nat.reduceLT, Nat.reduceLeDiff, Nat.reduceAdd, Nat.reduceMul, Nat.reduceSub, Nat.reduceBEq, Nat.reduceDiv, Int.reduceNeg, Int.reduceLT, Int.reduceLE, Int.reduceEq, Int.reduceToNat, Int.reduceAdd, Int.reduceSub, Int.reduceMul, Int.reduceBEq, Int.reduceBNe, reduceBEq]; rfl) rfl rfl ?_
  simp only [go_sem, ↓reduceIte, reduceCtorEq, Nat.reduceEqDiff, Nat.reduceLT, Nat.reduceLeDiff, Nat.reduceAdd, Nat.reduceMul, Nat.reduceSub, Nat.reduceBEq, Nat.reduceDiv, Int.reduceNeg, Int.reduceLT, Int.reduceLE, Int.reduceEq, Int.reduceToNat, Int.reduceAdd, Int.reduceSub, Int.reduceMul, Int.reduceBEq, Int.reduceBNe, reduceBEq]
  refine dregFn_fn call_29 (fun τ => cbytes_spec gn (by omega) 6 (by omega) τ) (by simp only [go_sem, ↓reduceIte, reduceCtorEq, Nat.reduceEqDiff, Nat.reduceLT, Nat.reduceLeDiff, Nat.reduceAdd, Nat.reduceMul, Nat.reduceSub, Nat.reduceBEq, Nat.reduceDiv, Int.reduceNeg, Int.reduceLT, Int.reduceLE, Int.reduceEq, Int.reduceToNat, Int.reduceAdd, Int.reduceSub, Int.reduceMul, Int.reduceBEq, Int.reduceBNe, reduceBEq]; rfl) rfl rfl ?_
  simp only [go_sem, ↓reduceIte, reduceCtorEq, Nat.reduceEqDiff, Nat.reduceLT, Nat.reduceLeDiff, Nat.reduceAdd, Nat.reduceMul, Nat.reduceSub, Nat.reduceBEq, Nat.reduceDiv, Int.reduceNeg, Int.reduceLT, Int.reduceLE, Int.reduceEq, Int.reduceToNat, Int.reduceAdd, Int.reduceSub, Int.reduceMul, Int.reduceBEq, Int.reduceBNe, reduceBEq]
  refine dregFn_fn call_29 (fun τ => cbytes_spec ix (by omega) 1 (by omega) τ) (by simp only [go_sem, ↓reduceIte, reduceCtorEq, Nat.reduceEqDiff, Nat.reduceLT, Nat.reduceLeDiff, Nat.reduceAdd, Nat.reduceMul, Nat.reduceSub, Nat.reduceBEq, Nat.reduceDiv, Int.reduceNeg, Int.reduceLT, Int.reduceLE, Int.reduceEq, Int.reduceToNat, Int.reduceAdd, Int.reduceSub, Int.reduceMul, Int.reduceBEq, Int.reduceBNe, reduceBEq]; rfl) rfl rfl ?_
  simp only [go_sem, ↓reduceIte, reduceCtorEq, Nat.reduceEqDiff, Nat.reduceLT, Nat.reduceLeDiff, Nat.reduceAdd, Nat.reduceMul, Nat.reduceSub, Nat.reduceBEq, Nat.reduceDiv, Int.reduceNeg, Int.reduceLT, Int.reduceLE, Int.reduceEq, Int.reduceToNat, Int.reduceAdd, Int.reduceSub, Int.reduceMul, Int.reduceBEq, Int.reduceBNe, reduceBEq, encB_length]
  refine dregFn_fn call_29 (fun τ => cbytes_spec d.length (by omega) 2 (by omega) τ) (by simp only [go_sem, ↓reduceIte, reduceCtorEq, Nat.reduceEqDiff, Nat.reduceLT, Nat.reduceLeDiff, Nat.reduceAdd, Nat.reduceMul, Nat.reduceSub, Nat.reduceBEq, Nat.reduceDiv, Int.reduceNeg, Int.reduceLT, Int.reduceLE, Int.reduceEq, Int.reduceToNat, Int.reduceAdd, Int.reduceSub, Int.reduceMul, Int.reduceBEq, Int.reduceBNe, reduceBEq]; rfl) rfl rfl ?_
  simp only [go_sem, ↓reduceIte, reduceCtorEq, Nat.reduceEqDiff, Nat.reduceLT, Nat.reduceLeDiff, Nat.reduceAdd, Nat.reduceMul, Nat.reduceSub, Nat.reduceBEq, Nat.reduceDiv, Int.reduceNeg, Int.reduceLT, Int.reduceLE, Int.reduceEq, Int.reduceToNat, Int.reduceAdd, Int.reduceSub, Int.reduceMul, Int.reduceBEq, Int.reduceBNe, reduceBEq]
  have hfl : [bigL kd 1, bigL st 2, bigL gn 6, bigL ix 1, bigL d.length 2, d].flatten = Q.lay ⟨kd, st, gn, ix, d⟩ := by simp [Q.lay]
  have hll : [bigL kd 1, bigL st 2, bigL gn 6, bigL ix 1, bigL d.length 2, d].flatten.length = 12 + d.length := by rw [hfl, Q.lay_length]
  refine dregFn_fn call_28 (fun τ => ACalls.le1 (Le.list (es := 1) (x := .full 1 _) (xs := encBs [bigL kd 1, bigL st 2, bigL gn 6, bigL ix 1, bigL d.length 2, d]) rfl) (concat_spec _ (by omega) (by omega) (by simp) τ)) (by simp only [go_sem, ↓reduceIte, reduceCtorEq, Nat.reduceEqDiff, Nat.reduceLT, Nat.reduceLeDiff, Nat.reduceAdd, Nat.reduceMul, Nat.reduceSub, Nat.reduceBEq, Nat.reduceDiv, Int.reduceNeg, Int.reduceLT, Int.reduceLE, Int.reduceEq, Int.reduceToNat, Int.reduceAdd, Int.reduceSub, Int.reduceMul, Int.reduceBEq, Int.reduceBNe, reduceBEq]; rfl) rfl rfl ?_
  simp only [go_sem, ↓reduceIte, reduceCtorEq, Nat.reduceEqDiff, Nat.reduceLT, Nat.reduceLeDiff, Nat.reduceAdd, Nat.reduceMul, Nat.reduceSub, Nat.reduceBEq, Nat.reduceDiv, Int.reduceNeg, Int.reduceLT, Int.reduceLE, Int.reduceEq, Int.reduceToNat, Int.reduceAdd, Int.reduceSub, Int.reduceMul, Int.reduceBEq, Int.reduceBNe, reduceBEq]
  exact ⟨_, _, _, rfl, WeakV.none hwf ((Agree.refl _).newObj _) (LeR.of_le (.refl _) (by simp)), by rw [hfl], rfl⟩

theorem refLayReq_spec (q : Q) (hr : q.right) (σ : Store) : ACalls Try.prog 10 [AV.q q] σ (fun x s => x = AV.bytes q.lay ∧ s = σ) := by
  refine ACalls.of_awpc Try.func10 c10_eq c10_n c10_rs (by simp) fun hwf => ?_
  obtain ⟨kd, st, gn, ix, d⟩ := q
  obtain ⟨h1, h2, h3, h4, h5, h6, h7, h8, h9⟩ := hr
  dsimp only at *
  obtain ⟨kd, rfl⟩ := Int.eq_ofNat_of_zero_le (show 0 ≤ kd by omega)
  obtain ⟨st, rfl⟩ := Int.eq_ofNat_of_zero_le (show 0 ≤ st by omega)
  obtain ⟨gn, rfl⟩ := Int.eq_ofNat_of_zero_le (show 0 ≤ gn by omega)
  obtain ⟨ix, rfl⟩ := Int.eq_ofNat_of_zero_le (show 0 ≤ ix by omega)
  unfold c10
  refine AWPc.step ?_
  simp only [go_sem, ↓reduceIte, reduceCtorEq, Nat.reduceEqDiff, Nat.reduceLT, Nat.reduceLeDiff, Nat.reduceAdd, Nat.reduceMul, Nat.reduceSub, Nat.reduceBEq, Nat.reduceDiv, Int.reduceNeg, Int.reduceLT, Int.reduceLE, Int.reduceEq, Int.reduceToNat, Int.reduceAdd, Int.reduceSub, Int.reduceMul, Int.reduceBEq, Int.reduceBNe, reduceBEq, c10_r0]
  refine AWPc.step ?_
  simp only [go_sem, ↓reduceIte, reduceCtorEq, Nat.reduceEqDiff, Nat.reduceLT, Nat.reduceLeDiff, Nat.reduceAdd, Nat.reduceMul, Nat.reduceSub, Nat.reduceBEq, Nat.reduceDiv, Int.reduceNeg, Int.reduceLT, Int.reduceLE, Int.reduceEq, Int.reduceToNat, Int.reduceAdd, Int.reduceSub, Int.reduceMul, Int.reduceBEq, Int.reduceBNe, reduceBEq]
  refine awpDreg mixed [2, 6] (by kernel_rfl) (by kernel_rfl) fun ops1 => ?_
  simp only [go_sem, ↓reduceIte, reduceCtorEq, Nat.reduceEqDiff, Nat.reduceLT, Nat.reduceLeDiff, Nat.reduceAdd, Nat.reduceMul, Nat.reduceSub, Nat.reduceBEq, Nat.reduceDiv, Int.reduceNeg, Int.reduceLT, Int.reduceLE, Int.reduceEq, Int.reduceToNat, Int.reduceAdd, Int.reduceSub, Int.reduceMul, Int.reduceBEq, Int.reduceBNe, reduceBEq, c10_d1_ops]
  refine ⟨_, _, big_row_spec kd (by omega) 1 (by omega) _, ?_⟩
  simp only [go_sem, ↓reduceIte, reduceCtorEq, Nat.reduceEqDiff, Nat.reduceLT, Nat.reduceLeDiff, Nat.reduceAdd, Nat.reduceMul, Nat.reduceSub, Nat.reduceBEq, Nat.reduceDiv, Int.reduceNeg, Int.reduceLT, Int.reduceLE, Int.reduceEq, Int.reduceToNat, Int.reduceAdd, Int.reduceSub, Int.reduceMul, Int.reduceBEq, Int.reduceBNe, reduceBEq]
  refine dregFn_fn call_30 (fun τ => big_spec st (by omega) 2 (by omega) τ) (by simp only [go_sem, ↓reduceIte, reduceCtorEq, Nat.reduceEqDiff, Nat.reduceLT, Nat.reduceLeDiff, Nat.reduceAdd, Nat.reduceMul, Nat.reduceSub, Nat.reduceBEq, Nat.reduceDiv, Int.reduceNeg, Int.reduceLT, Int.reduceLE, Int.reduceEq, Int.reduceToNat, Int.reduceAdd, Int.reduceSub, Int.reduceMul, Int.reduceBEq, Int.reduceBNe, reduceBEq]; rfl) rfl rfl ?_
  simp only [go_sem, ↓reduceIte, reduceCtorEq, Nat.reduceEqDiff, Nat.reduceLT, Nat.reduceLeDiff, Nat.reduceAdd, Nat.reduceMul, Nat.reduceSub, Nat.reduceBEq, Nat.reduceDiv, Int.reduceNeg, Int.reduceLT, Int.reduceLE, Int.reduceEq, Int.reduceToNat, Int.reduceAdd, Int.reduceSub, Int.reduceMul, Int.reduceBEq, Int.reduceBNe, reduceBEq, maxLen, Nat.reducePow, encB_length, bigL_length, encB_append]
  refine AWPc.step ?_
  simp only [go_sem, ↓reduceIte, reduceCtorEq, Nat.reduceEqDiff, Nat.reduceLT, Nat.reduceLeDiff, Nat.reduceAdd, Nat.reduceMul, Nat.reduceSub, Nat.reduceBEq, Nat.reduceDiv, Int.reduceNeg, Int.reduceLT, Int.reduceLE, Int.reduceEq, Int.reduceToNat, Int.reduceAdd, Int.reduceSub, Int.reduceMul, Int.reduceBEq, Int.reduceBNe, reduceBEq, c10_r2]
  refine (big_spec gn (by omega) 6 (by omega) _).mono fun y s' hy => ?_
  obtain ⟨rfl, rfl⟩ := hy
  simp only [go_sem, ↓reduceIte, reduceCtorEq, Nat.reduceEqDiff, Nat.reduceLT, Nat.reduceLeDiff, Nat.reduceAdd, Nat.reduceMul, Nat.reduceSub, Nat.reduceBEq, Nat.reduceDiv, Int.reduceNeg, Int.reduceLT, Int.reduceLE, Int.reduceEq, Int.reduceToNat, Int.reduceAdd, Int.reduceSub, Int.reduceMul, Int.reduceBEq, Int.reduceBNe, reduceBEq, maxLen, Nat.reducePow, encB_length, bigL_length, encB_append, List.length_append]
  refine AWPc.step ?_
  simp only [go_sem, ↓reduceIte, reduceCtorEq, Nat.reduceEqDiff, Nat.reduceLT, Nat.reduceLeDiff, Nat.reduceAdd, Nat.reduceMul, Nat.reduceSub, Nat.reduceBEq, Nat.reduceDiv, Int.reduceNeg, Int.reduceLT, Int.reduceLE, Int.reduceEq, Int.reduceToNat, Int.reduceAdd, Int.reduceSub, Int.reduceMul, Int.reduceBEq, Int.reduceBNe, reduceBEq, c10_r3]
  refine (big_spec ix (by omega) 1 (by omega) _).mono fun y s' hy => ?_
  obtain ⟨rfl, rfl⟩ := hy
  simp only [go_sem, ↓reduceIte, reduceCtorEq, Nat.reduceEqDiff, Nat.reduceLT, Nat.reduceLeDiff, Nat.reduceAdd, Nat.reduceMul, Nat.reduceSub, Nat.reduceBEq, Nat.reduceDiv, Int.reduceNeg, Int.reduceLT, Int.reduceLE, Int.reduceEq, Int.reduceToNat, Int.reduceAdd, Int.reduceSub, Int.reduceMul, Int.reduceBEq, Int.reduceBNe, reduceBEq, maxLen, Nat.reducePow, encB_length, bigL_length, encB_append, List.length_append]
  refine AWPc.step ?_
  simp only [go_sem, ↓reduceIte, reduceCtorEq, Nat.reduceEqDiff, Nat.reduceLT, Nat.reduceLeDiff, Nat.reduceAdd, Nat.reduceMul, Nat.reduceSub, Nat.reduceBEq, Nat.reduceDiv, Int.reduceNeg, Int.reduceLT, Int.reduceLE, Int.reduceEq, Int.reduceToNat, Int.reduceAdd, Int.reduceSub, Int.reduceMul, Int.reduceBEq, Int.reduceBNe, reduceBEq, c10_r4, encB_length]
  refine (big_spec d.length (by omega) 2 (by omega) _).mono fun y s' hy => ?_
  obtain ⟨rfl, rfl⟩ := hy
  simp only [go_sem, ↓reduceIte, reduceCtorEq, Nat.reduceEqDiff, Nat.reduceLT, Nat.reduceLeDiff, Nat.reduceAdd, Nat.reduceMul, Nat.reduceSub, Nat.reduceBEq, Nat.reduceDiv, Int.reduceNeg, Int.reduceLT, Int.reduceLE, Int.reduceEq, Int.reduceToNat, Int.reduceAdd, Int.reduceSub, Int.reduceMul, Int.reduceBEq, Int.reduceBNe, reduceBEq, maxLen, Nat.reducePow, encB_length, bigL_length, encB_append, List.length_append]
  refine AWPc.of_arun ?_
  simp only [go_sem, ↓reduceIte, reduceCtorEq, Nat.reduceEqDiff, Nat.reduceLT, Nat.reduceLeDiff, Nat.reduceAdd, Nat.reduceMul, Nat.reduceSub, Nat.reduceBEq, Nat.reduceDiv, Int.reduceNeg, Int.reduceLT, Int.reduceLE, Int.reduceEq, Int.reduceToNat, Int.reduceAdd, Int.reduceSub, Int.reduceMul, Int.reduceBEq, Int.reduceBNe, reduceBEq, maxLen, Nat.reducePow, c10_r5, encB_length, bigL_length, encB_append, List.length_append]
  refine ⟨by omega, _, _, _, rfl, WeakV.none hwf (((((((((((Agree.refl _).newObj _).newTok _ _ _).killTok (by omega)).newTok _ _ _).killTok (by omega)).newTok _ _ _).killTok (by omega)).newTok _ _ _ |>.killTok (by omega)).newTok _ _ _ |>.killTok (by omega)).newTok _ _ _) (.list' (es := 1) rfl ?_), rfl, rfl⟩
  simp [Q.lay]
end Go.Proofs.Ytnanpamfdjnomaa
