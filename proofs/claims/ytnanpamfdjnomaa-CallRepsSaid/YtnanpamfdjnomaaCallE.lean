/- call: the reference's ReadReq, Few, Req. -/
import Derived.Test.YtnanpamfdjnomaaCallD
namespace Go.Proofs.Ytnanpamfdjnomaa
open Go Go.RowKit Go.Proofs.Ytnanpamfdjnomaa.AL
set_option maxRecDepth 100000
set_option linter.unusedSimpArgs false

def readR (b : List UInt8) : Q := ⟨(b.getD 0 0).toNat, numB ((b.take 3).drop 1), numB ((b.take 9).drop 3), (b.getD 9 0).toNat, b.drop 12⟩
theorem mid (a m z : List UInt8) (i j : Nat) (hi : a.length = i) (hj : i + m.length = j) : ((a ++ (m ++ z)).take j).drop i = m := by
  subst hi; subst hj
  rw [List.take_append, List.take_of_length_le (by omega), List.drop_append, List.drop_of_length_le (by omega), Nat.sub_self, List.drop_zero, Nat.add_sub_cancel_left, List.nil_append, List.take_left' rfl]
theorem readR_lay {q : Q} (h : q.right) : readR q.lay = q := by
  obtain ⟨kd, st, gn, ix, d⟩ := q
  obtain ⟨h1, h2, h3, h4, h5, h6, h7, h8, h9⟩ := h
  dsimp only at *
  obtain ⟨kd, rfl⟩ := Int.eq_ofNat_of_zero_le (show 0 ≤ kd by omega)
  obtain ⟨st, rfl⟩ := Int.eq_ofNat_of_zero_le (show 0 ≤ st by omega)
  obtain ⟨gn, rfl⟩ := Int.eq_ofNat_of_zero_le (show 0 ≤ gn by omega)
  obtain ⟨ix, rfl⟩ := Int.eq_ofNat_of_zero_le (show 0 ≤ ix by omega)
  have l1 := bigL_length kd 1
  have l2 := bigL_length st 2
  have l3 := bigL_length gn 6
  have l4 := bigL_length ix 1
  have l5 := bigL_length d.length 2
  have hl : Q.lay ⟨kd, st, gn, ix, d⟩ = bigL kd 1 ++ (bigL st 2 ++ (bigL gn 6 ++ (bigL ix 1 ++ (bigL d.length 2 ++ d)))) := by simp [Q.lay]
  have m2 : numB (bigL st 2) = st := by simp only [numB_bigL, Nat.reducePow]; omega
  have m3 : numB (bigL gn 6) = gn := by simp only [numB_bigL, Nat.reducePow]; omega
  have e1 : (Q.lay ⟨kd, st, gn, ix, d⟩).getD 0 0 = UInt8.ofNat kd := by rw [hl]; simp [bigL]
  have e2 : ((Q.lay ⟨kd, st, gn, ix, d⟩).take 3).drop 1 = bigL st 2 := by rw [hl]; exact mid _ _ _ 1 3 l1 (by omega)
  have e3 : ((Q.lay ⟨kd, st, gn, ix, d⟩).take 9).drop 3 = bigL gn 6 := by rw [hl, ← List.append_assoc]; exact mid _ _ _ 3 9 (by simp [l1, l2]) (by omega)
  have e4 : (Q.lay ⟨kd, st, gn, ix, d⟩).getD 9 0 = UInt8.ofNat ix := by
    rw [hl, ← List.append_assoc, ← List.append_assoc, List.getD_eq_getElem?_getD, List.getElem?_append_right (by simp [l1, l2, l3])]
    simp [l1, l2, l3, bigL]
  have e5 : (Q.lay ⟨kd, st, gn, ix, d⟩).drop 12 = d := by
    rw [hl, ← List.append_assoc, ← List.append_assoc, ← List.append_assoc, ← List.append_assoc, List.drop_left' (by simp [l1, l2, l3, l4, l5])]
  unfold readR
  rw [e1, e2, e3, e4, e5, m2, m3]
  simp only [Q.mk.injEq, and_true, true_and]
  simp
  omega
theorem okRead_len {b : List UInt8} (h : okRead b) : 12 ≤ b.length := by rw [← h.2, Q.lay_length]; omega
theorem okRead_R {b : List UInt8} (h : okRead b) : readR b = readC b := by
  have := readR_lay h.1
  rwa [h.2] at this
theorem okRead_of {b : List UInt8} (h1 : (readR b).right) (h2 : (readR b).lay = b) : okRead b ∧ readC b = readR b := by
  have h3 := readC_lay h1
  rw [h2] at h3
  exact ⟨⟨by rw [h3]; exact h1, by rw [h3]; exact h2⟩, h3⟩

abbrev AV.qb (q : Q) (b : Bool) : AV := .tup [AV.q q, .bool b]
theorem refReadReq_spec (b : List UInt8) (hb : b.length < 2 ^ 47) (σ : Store) : ACalls Try.prog 14 [AV.bytes b] σ (fun x s => x = (if okRead b then AV.qb (readC b) true else AV.qb zq false) ∧ s = σ) := by
  refine ACalls.of_awpc Try.func14 c14_eq c14_n c14_rs (by simp) fun hwf => ?_
  unfold c14
  refine AWPc.step ?_
  simp only [go_sem, ↓reduceIte, reduceCtorEq, Nat.reduceEqDiff, Nat.reduceLT, Nat.reduceLeDiff, Nat.reduceAdd, Nat.reduceMul, Nat.reduceSub, Nat.reduceBEq, Nat.reduceDiv, Int.reduceNeg, Int.reduceLT, Int.reduceLE, Int.reduceEq, Int.reduceToNat, Int.reduceAdd, Int.reduceSub, Int.reduceMul, Int.reduceBEq, Int.reduceBNe, reduceBEq, c14_r0]
  refine AWPc.step ?_
  by_cases h12 : b.length < 12
  · have d1 : decide ((b.length : Int) < 12) = true := decide_eq_true (by omega)
    simp only [go_sem, ↓reduceIte, reduceCtorEq, Nat.reduceEqDiff, Nat.reduceLT, Nat.reduceLeDiff, Nat.reduceAdd, Nat.reduceMul, Nat.reduceSub, Nat.reduceBEq, Nat.reduceDiv, Int.reduceNeg, Int.reduceLT, Int.reduceLE, Int.reduceEq, Int.reduceToNat, Int.reduceAdd, Int.reduceSub, Int.reduceMul, Int.reduceBEq, Int.reduceBNe, reduceBEq, c14_r1, c14_r2, encB_length, d1]
    refine ⟨_, _, _, rfl, WeakV.none hwf (by repeat (first | exact Agree.refl _ | refine Agree.newObj ?_ _ | refine Agree.newTok ?_ _ _ _ | refine Agree.killTok ?_ (by omega) | refine Agree.setObj ?_ (by omega) _ | refine Agree.dropObj ?_ (by omega))) (LeR.of_le (Le.tup2 zq_le (.refl _)) (by simp)), ?_, rfl⟩
    rw [if_neg (fun h => by have := okRead_len h; omega)]
  have d1 : decide ((b.length : Int) < 12) = false := decide_eq_false (by omega)
  have g0 : (encB b).getD 0 [] = [.val (.int .u8 ((b.getD 0 0).toNat : Int))] := by rw [encB_get (by omega)]; simp [List.getD_eq_getElem?_getD, show 0 < b.length by omega]
  have g9 : (encB b).getD 9 [] = [.val (.int .u8 ((b.getD 9 0).toNat : Int))] := by rw [encB_get (by omega)]; simp [List.getD_eq_getElem?_getD, show 9 < b.length by omega]
  have u0 := (b.getD 0 0).toNat_lt
  have u9 := (b.getD 9 0).toNat_lt
  have w0 : IntKind.i64.wrap ((b.getD 0 0).toNat : Int) = ((b.getD 0 0).toNat : Int) := i64n _ (by omega)
  have w9 : IntKind.i64.wrap ((b.getD 9 0).toNat : Int) = ((b.getD 9 0).toNat : Int) := i64n _ (by omega)
  simp only [go_sem, ↓reduceIte, reduceCtorEq, Nat.reduceEqDiff, Nat.reduceLT, Nat.reduceLeDiff, Nat.reduceAdd, Nat.reduceMul, Nat.reduceSub, Nat.reduceBEq, Nat.reduceDiv, Int.reduceNeg, Int.reduceLT, Int.reduceLE, Int.reduceEq, Int.reduceToNat, Int.reduceAdd, Int.reduceSub, Int.reduceMul, Int.reduceBEq, Int.reduceBNe, reduceBEq, c14_r1, encB_length, d1]
  refine AWPc.step ?_
  simp only [go_sem, ↓reduceIte, reduceCtorEq, Nat.reduceEqDiff, Nat.reduceLT, Nat.reduceLeDiff, Nat.reduceAdd, Nat.reduceMul, Nat.reduceSub, Nat.reduceBEq, Nat.reduceDiv, Int.reduceNeg, Int.reduceLT, Int.reduceLE, Int.reduceEq, Int.reduceToNat, Int.reduceAdd, Int.reduceSub, Int.reduceMul, Int.reduceBEq, Int.reduceBNe, reduceBEq]
  refine awpDreg mixed [19, 20] (by kernel_rfl) (by kernel_rfl) fun ops1 => ?_
  simp only [go_sem, ↓reduceIte, reduceCtorEq, Nat.reduceEqDiff, Nat.reduceLT, Nat.reduceLeDiff, Nat.reduceAdd, Nat.reduceMul, Nat.reduceSub, Nat.reduceBEq, Nat.reduceDiv, Int.reduceNeg, Int.reduceLT, Int.reduceLE, Int.reduceEq, Int.reduceToNat, Int.reduceAdd, Int.reduceSub, Int.reduceMul, Int.reduceBEq, Int.reduceBNe, reduceBEq, maxLen, Nat.reducePow, c14_d3_ops, encB_length, encB_take, encB_drop, g0, g9, w0, w9]
  refine ⟨by omega, by omega, dregFn_fn call_35 (fun τ => from_spec ((b.take 3).drop 1) (by simp; omega) τ) (by simp only [go_sem, ↓reduceIte, reduceCtorEq, Nat.reduceEqDiff, Nat.reduceLT, Nat.reduceLeDiff, Nat.reduceAdd, Nat.reduceMul, Nat.reduceSub, Nat.reduceBEq, Nat.reduceDiv, Int.reduceNeg, Int.reduceLT, Int.reduceLE, Int.reduceEq, Int.reduceToNat, Int.reduceAdd, Int.reduceSub, Int.reduceMul, Int.reduceBEq, Int.reduceBNe, reduceBEq]) rfl rfl ?_⟩
  simp only [go_sem, ↓reduceIte, reduceCtorEq, Nat.reduceEqDiff, Nat.reduceLT, Nat.reduceLeDiff, Nat.reduceAdd, Nat.reduceMul, Nat.reduceSub, Nat.reduceBEq, Nat.reduceDiv, Int.reduceNeg, Int.reduceLT, Int.reduceLE, Int.reduceEq, Int.reduceToNat, Int.reduceAdd, Int.reduceSub, Int.reduceMul, Int.reduceBEq, Int.reduceBNe, reduceBEq, maxLen, Nat.reducePow, encB_length, encB_take, encB_drop, g0, g9, w0, w9]
  refine ⟨by omega, dregFn_fn call_35 (fun τ => from_spec ((b.take 9).drop 3) (by simp; omega) τ) (by simp only [go_sem, ↓reduceIte, reduceCtorEq, Nat.reduceEqDiff, Nat.reduceLT, Nat.reduceLeDiff, Nat.reduceAdd, Nat.reduceMul, Nat.reduceSub, Nat.reduceBEq, Nat.reduceDiv, Int.reduceNeg, Int.reduceLT, Int.reduceLE, Int.reduceEq, Int.reduceToNat, Int.reduceAdd, Int.reduceSub, Int.reduceMul, Int.reduceBEq, Int.reduceBNe, reduceBEq]) rfl rfl ?_⟩
  simp only [go_sem, ↓reduceIte, reduceCtorEq, Nat.reduceEqDiff, Nat.reduceLT, Nat.reduceLeDiff, Nat.reduceAdd, Nat.reduceMul, Nat.reduceSub, Nat.reduceBEq, Nat.reduceDiv, Int.reduceNeg, Int.reduceLT, Int.reduceLE, Int.reduceEq, Int.reduceToNat, Int.reduceAdd, Int.reduceSub, Int.reduceMul, Int.reduceBEq, Int.reduceBNe, reduceBEq, maxLen, Nat.reducePow, encB_length, encB_take, encB_drop, g0, g9, w0, w9]
  refine ⟨by omega, by omega, dregFn_app (x := AV.bytes (b.drop 12)) (fun τ => AOpc.appList (ys := encB (b.drop 12)) tSl_24 rfl ?_ ?_ ?_ ⟨rfl, rfl⟩) rfl rfl ?_⟩
  · simp only [go_sem, ↓reduceIte, reduceCtorEq, Nat.reduceEqDiff, Nat.reduceLT, Nat.reduceLeDiff, Nat.reduceAdd, Nat.reduceMul, Nat.reduceSub, Nat.reduceBEq, Nat.reduceDiv, Int.reduceNeg, Int.reduceLT, Int.reduceLE, Int.reduceEq, Int.reduceToNat, Int.reduceAdd, Int.reduceSub, Int.reduceMul, Int.reduceBEq, Int.reduceBNe, reduceBEq, encB_length, encB_take, encB_drop, List.take_length, Int.toNat_natCast]
  · rw [encB_length]; simp; omega
  · rw [encB_length]; simp [maxLen]; omega
  simp only [go_sem, ↓reduceIte, reduceCtorEq, Nat.reduceEqDiff, Nat.reduceLT, Nat.reduceLeDiff, Nat.reduceAdd, Nat.reduceMul, Nat.reduceSub, Nat.reduceBEq, Nat.reduceDiv, Int.reduceNeg, Int.reduceLT, Int.reduceLE, Int.reduceEq, Int.reduceToNat, Int.reduceAdd, Int.reduceSub, Int.reduceMul, Int.reduceBEq, Int.reduceBNe, reduceBEq, maxLen, Nat.reducePow, encB_length, encB_take, encB_drop, g0, g9, w0, w9]
  refine AWPc.weak (env' := [(4, .ptr (σ.next + 1) 0), (3, .bool false), (2, .ptr σ.next 0), (0, AV.bytes b)]) (.slots (all_cons rfl (all_cons rfl (all_cons rfl (all_cons rfl all_nil))))) ?_
  have hq : [AV.pv (PV.val (Value.int IntKind.i64 ((b.getD 0 0).toNat : Int))), AV.int IntKind.i64 (numB ((b.take 3).drop 1)), AV.int IntKind.i64 (numB ((b.take 9).drop 3)), AV.pv (PV.val (Value.int IntKind.i64 ((b.getD 9 0).toNat : Int))), AV.bytes (b.drop 12)] =
    [AV.int .i64 (readR b).kd, .int .i64 (readR b).st, .int .i64 (readR b).gn, .int .i64 (readR b).ix, AV.bytes (readR b).d] := by simp only [readR]
  have hq' : [AV.pv (PV.val (Value.int IntKind.i64 ((b.getD 0 0).toNat : Int))), AV.pv (PV.val (Value.int IntKind.i64 (numB ((b.take 3).drop 1)))), AV.pv (PV.val (Value.int IntKind.i64 (numB ((b.take 9).drop 3)))), AV.pv (PV.val (Value.int IntKind.i64 ((b.getD 9 0).toNat : Int))), AV.pv (PV.lst 1 (encB (b.drop 12)))] =
    [AV.int .i64 (readR b).kd, .int .i64 (readR b).st, .int .i64 (readR b).gn, .int .i64 (readR b).ix, AV.bytes (readR b).d] := hq
  rw [hq']
  refine AWPc.seq (AWPc.step ?_)
  simp only [go_sem, ↓reduceIte, reduceCtorEq, Nat.reduceEqDiff, Nat.reduceLT, Nat.reduceLeDiff, Nat.reduceAdd, Nat.reduceMul, Nat.reduceSub, Nat.reduceBEq, Nat.reduceDiv, Int.reduceNeg, Int.reduceLT, Int.reduceLE, Int.reduceEq, Int.reduceToNat, Int.reduceAdd, Int.reduceSub, Int.reduceMul, Int.reduceBEq, Int.reduceBNe, reduceBEq]
  refine awpDregG mixed [] (by kernel_rfl) (by kernel_rfl) fun ops1 hops => ?_
  have g3 : (ops1[3]?).bind (·.dst) = some 31 := hops 3
  simp only [go_sem, ↓reduceIte, reduceCtorEq, Nat.reduceEqDiff, Nat.reduceLT, Nat.reduceLeDiff, Nat.reduceAdd, Nat.reduceMul, Nat.reduceSub, Nat.reduceBEq, Nat.reduceDiv, Int.reduceNeg, Int.reduceLT, Int.reduceLE, Int.reduceEq, Int.reduceToNat, Int.reduceAdd, Int.reduceSub, Int.reduceMul, Int.reduceBEq, Int.reduceBNe, reduceBEq, c14_d4_ops]
  refine dregFn_fn call_8 (fun τ => rightReq_spec (readR b) τ) (by simp only [go_sem, ↓reduceIte, reduceCtorEq, Nat.reduceEqDiff, Nat.reduceLT, Nat.reduceLeDiff, Nat.reduceAdd, Nat.reduceMul, Nat.reduceSub, Nat.reduceBEq, Nat.reduceDiv, Int.reduceNeg, Int.reduceLT, Int.reduceLE, Int.reduceEq, Int.reduceToNat, Int.reduceAdd, Int.reduceSub, Int.reduceMul, Int.reduceBEq, Int.reduceBNe, reduceBEq]) rfl rfl ?_
  by_cases hr : (readR b).right
  · have dr : decide (readR b).right = true := decide_eq_true hr
    simp only [go_sem, ↓reduceIte, reduceCtorEq, Nat.reduceEqDiff, Nat.reduceLT, Nat.reduceLeDiff, Nat.reduceAdd, Nat.reduceMul, Nat.reduceSub, Nat.reduceBEq, Nat.reduceDiv, Int.reduceNeg, Int.reduceLT, Int.reduceLE, Int.reduceEq, Int.reduceToNat, Int.reduceAdd, Int.reduceSub, Int.reduceMul, Int.reduceBEq, Int.reduceBNe, reduceBEq, g3, dr]
    refine dregFn_fn call_10 (fun τ => refLayReq_spec (readR b) hr τ) (by simp only [go_sem, ↓reduceIte, reduceCtorEq, Nat.reduceEqDiff, Nat.reduceLT, Nat.reduceLeDiff, Nat.reduceAdd, Nat.reduceMul, Nat.reduceSub, Nat.reduceBEq, Nat.reduceDiv, Int.reduceNeg, Int.reduceLT, Int.reduceLE, Int.reduceEq, Int.reduceToNat, Int.reduceAdd, Int.reduceSub, Int.reduceMul, Int.reduceBEq, Int.reduceBNe, reduceBEq]) rfl rfl ?_
    simp only [go_sem, ↓reduceIte, reduceCtorEq, Nat.reduceEqDiff, Nat.reduceLT, Nat.reduceLeDiff, Nat.reduceAdd, Nat.reduceMul, Nat.reduceSub, Nat.reduceBEq, Nat.reduceDiv, Int.reduceNeg, Int.reduceLT, Int.reduceLE, Int.reduceEq, Int.reduceToNat, Int.reduceAdd, Int.reduceSub, Int.reduceMul, Int.reduceBEq, Int.reduceBNe, reduceBEq, g3]
    have hse := str_eq (readR b).lay b
    by_cases he : (readR b).lay = b
    · have d2 : (!((strOf (readR b).lay).toList == (strOf b).toList)) = false := by rw [hse, decide_eq_true he]; rfl
      simp only [go_sem, ↓reduceIte, reduceCtorEq, Nat.reduceEqDiff, Nat.reduceLT, Nat.reduceLeDiff, Nat.reduceAdd, Nat.reduceMul, Nat.reduceSub, Nat.reduceBEq, Nat.reduceDiv, Int.reduceNeg, Int.reduceLT, Int.reduceLE, Int.reduceEq, Int.reduceToNat, Int.reduceAdd, Int.reduceSub, Int.reduceMul, Int.reduceBEq, Int.reduceBNe, reduceBEq, g3, d2]
      refine AWPc.of_arun ?_
      simp only [go_sem, ↓reduceIte, reduceCtorEq, Nat.reduceEqDiff, Nat.reduceLT, Nat.reduceLeDiff, Nat.reduceAdd, Nat.reduceMul, Nat.reduceSub, Nat.reduceBEq, Nat.reduceDiv, Int.reduceNeg, Int.reduceLT, Int.reduceLE, Int.reduceEq, Int.reduceToNat, Int.reduceAdd, Int.reduceSub, Int.reduceMul, Int.reduceBEq, Int.reduceBNe, reduceBEq]
      refine AWPc.of_arun ?_
      simp only [go_sem, ↓reduceIte, reduceCtorEq, Nat.reduceEqDiff, Nat.reduceLT, Nat.reduceLeDiff, Nat.reduceAdd, Nat.reduceMul, Nat.reduceSub, Nat.reduceBEq, Nat.reduceDiv, Int.reduceNeg, Int.reduceLT, Int.reduceLE, Int.reduceEq, Int.reduceToNat, Int.reduceAdd, Int.reduceSub, Int.reduceMul, Int.reduceBEq, Int.reduceBNe, reduceBEq, c14_r6]
      obtain ⟨ho, hc⟩ := okRead_of hr he
      refine ⟨_, _, _, rfl, WeakV.none hwf (by repeat (first | exact Agree.refl _ | refine Agree.newObj ?_ _ | refine Agree.newTok ?_ _ _ _ | refine Agree.killTok ?_ (by omega) | refine Agree.setObj ?_ (by omega) _ | refine Agree.dropObj ?_ (by omega))) (LeR.of_le (.refl _) (by simp)), ?_, rfl⟩
      rw [if_pos ho, hc]
    · have d2 : (!((strOf (readR b).lay).toList == (strOf b).toList)) = true := by rw [hse, decide_eq_false he]; rfl
      simp only [go_sem, ↓reduceIte, reduceCtorEq, Nat.reduceEqDiff, Nat.reduceLT, Nat.reduceLeDiff, Nat.reduceAdd, Nat.reduceMul, Nat.reduceSub, Nat.reduceBEq, Nat.reduceDiv, Int.reduceNeg, Int.reduceLT, Int.reduceLE, Int.reduceEq, Int.reduceToNat, Int.reduceAdd, Int.reduceSub, Int.reduceMul, Int.reduceBEq, Int.reduceBNe, reduceBEq, g3, d2]
      refine AWPc.of_arun ?_
      simp only [go_sem, ↓reduceIte, reduceCtorEq, Nat.reduceEqDiff, Nat.reduceLT, Nat.reduceLeDiff, Nat.reduceAdd, Nat.reduceMul, Nat.reduceSub, Nat.reduceBEq, Nat.reduceDiv, Int.reduceNeg, Int.reduceLT, Int.reduceLE, Int.reduceEq, Int.reduceToNat, Int.reduceAdd, Int.reduceSub, Int.reduceMul, Int.reduceBEq, Int.reduceBNe, reduceBEq, c14_r5]
      refine ⟨_, _, _, rfl, WeakV.none hwf (by repeat (first | exact Agree.refl _ | refine Agree.newObj ?_ _ | refine Agree.newTok ?_ _ _ _ | refine Agree.killTok ?_ (by omega) | refine Agree.setObj ?_ (by omega) _ | refine Agree.dropObj ?_ (by omega))) (LeR.of_le (Le.tup2 zq_le (.refl _)) (by simp)), ?_, rfl⟩
      rw [if_neg (fun h => he (by rw [okRead_R h]; exact h.2))]
  · have dr : decide (readR b).right = false := decide_eq_false hr
    simp only [go_sem, ↓reduceIte, reduceCtorEq, Nat.reduceEqDiff, Nat.reduceLT, Nat.reduceLeDiff, Nat.reduceAdd, Nat.reduceMul, Nat.reduceSub, Nat.reduceBEq, Nat.reduceDiv, Int.reduceNeg, Int.reduceLT, Int.reduceLE, Int.reduceEq, Int.reduceToNat, Int.reduceAdd, Int.reduceSub, Int.reduceMul, Int.reduceBEq, Int.reduceBNe, reduceBEq, g3, dr]
    refine AWPc.of_arun ?_
    simp only [go_sem, ↓reduceIte, reduceCtorEq, Nat.reduceEqDiff, Nat.reduceLT, Nat.reduceLeDiff, Nat.reduceAdd, Nat.reduceMul, Nat.reduceSub, Nat.reduceBEq, Nat.reduceDiv, Int.reduceNeg, Int.reduceLT, Int.reduceLE, Int.reduceEq, Int.reduceToNat, Int.reduceAdd, Int.reduceSub, Int.reduceMul, Int.reduceBEq, Int.reduceBNe, reduceBEq, c14_r5]
    refine ⟨_, _, _, rfl, WeakV.none hwf (by repeat (first | exact Agree.refl _ | refine Agree.newObj ?_ _ | refine Agree.newTok ?_ _ _ _ | refine Agree.killTok ?_ (by omega) | refine Agree.setObj ?_ (by omega) _ | refine Agree.dropObj ?_ (by omega))) (LeR.of_le (Le.tup2 zq_le (.refl _)) (by simp)), ?_, rfl⟩
    rw [if_neg (fun h => hr (by rw [okRead_R h]; exact h.1))]
end Go.Proofs.Ytnanpamfdjnomaa
