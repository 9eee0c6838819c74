/- call: ReadReq, SameReq, known. -/
import Derived.Test.YtnanpamfdjnomaaCallC
namespace Go.Proofs.Ytnanpamfdjnomaa
open Go Go.RowKit Go.Proofs.Ytnanpamfdjnomaa.AL
set_option maxRecDepth 100000
set_option linter.unusedSimpArgs false

def readC (b : List UInt8) : Q :=
  ⟨numB (tk b 1), numB (tk (dk b 1) 2), numB (tk (dk (dk b 1) 2) 6), numB (tk (dk (dk (dk b 1) 2) 6) 1), tk (dk (dk (dk (dk (dk b 1) 2) 6) 1) 2) (numB (tk (dk (dk (dk (dk b 1) 2) 6) 1) 2))⟩
abbrev zq : Q := ⟨0, 0, 0, 0, []⟩
abbrev AV.qr (q : Q) (e : Int) : AV := .tup [AV.q q, .int .i64 e]

theorem tk_app (a r : List UInt8) (n : Nat) (h : a.length = n) : tk (a ++ r) n = a := by subst h; simp [tk]
theorem dk_app (a r : List UInt8) (n : Nat) (h : a.length = n) : dk (a ++ r) n = r := by subst h; simp [dk]
theorem readC_lay {q : Q} (h : q.right) : readC q.lay = q := by
  obtain ⟨kd, st, gn, ix, d⟩ := q
  obtain ⟨h1, h2, h3, h4, h5, h6, h7, h8, h9⟩ := h
  dsimp only at *
  obtain ⟨kd, rfl⟩ := Int.eq_ofNat_of_zero_le (show 0 ≤ kd by omega)
  obtain ⟨st, rfl⟩ := Int.eq_ofNat_of_zero_le (show 0 ≤ st by omega)
  obtain ⟨gn, rfl⟩ := Int.eq_ofNat_of_zero_le (show 0 ≤ gn by omega)
  obtain ⟨ix, rfl⟩ := Int.eq_ofNat_of_zero_le (show 0 ≤ ix by omega)
  have hl : Q.lay ⟨kd, st, gn, ix, d⟩ = bigL kd 1 ++ (bigL st 2 ++ (bigL gn 6 ++ (bigL ix 1 ++ (bigL d.length 2 ++ d)))) := by simp [Q.lay]
  have hd : tk d d.length = d := by simp [tk]
  have m1 : numB (bigL kd 1) = kd := by simp only [numB_bigL, Nat.reducePow]; omega
  have m2 : numB (bigL st 2) = st := by simp only [numB_bigL, Nat.reducePow]; omega
  have m3 : numB (bigL gn 6) = gn := by simp only [numB_bigL, Nat.reducePow]; omega
  have m4 : numB (bigL ix 1) = ix := by simp only [numB_bigL, Nat.reducePow]; omega
  have m5 : numB (bigL d.length 2) = d.length := by simp only [numB_bigL, Nat.reducePow]; omega
  rw [hl]
  unfold readC
  rw [tk_app _ _ 1 (bigL_length kd 1), dk_app _ _ 1 (bigL_length kd 1), tk_app _ _ 2 (bigL_length st 2), dk_app _ _ 2 (bigL_length st 2), tk_app _ _ 6 (bigL_length gn 6), dk_app _ _ 6 (bigL_length gn 6), tk_app _ _ 1 (bigL_length ix 1), dk_app _ _ 1 (bigL_length ix 1), tk_app _ _ 2 (bigL_length d.length 2), dk_app _ _ 2 (bigL_length d.length 2), m1, m2, m3, m4, m5, hd]
theorem readC_d (b : List UInt8) : (readC b).d.length < 65536 := by
  have h1 := numB_lt (tk (dk (dk (dk (dk b 1) 2) 6) 1) 2)
  have h2 := tk_le (dk (dk (dk (dk b 1) 2) 6) 1) 2
  have h3 : 256 ^ (tk (dk (dk (dk (dk b 1) 2) 6) 1) 2).length ≤ 256 ^ 2 := Nat.pow_le_pow_right (by omega) h2
  have h4 := tk_le (dk (dk (dk (dk (dk b 1) 2) 6) 1) 2) (numB (tk (dk (dk (dk (dk b 1) 2) 6) 1) 2))
  simp only [readC]
  generalize numB (tk (dk (dk (dk (dk b 1) 2) 6) 1) 2) = m at *
  generalize (256 : Nat) ^ (tk (dk (dk (dk (dk b 1) 2) 6) 1) 2).length = z at *
  omega

theorem bytes_toList (l : List UInt8) : (strOf l).toList = l := by
  have key : ∀ (n i : Nat) (r : List UInt8), (strOf l).size - i = n → ByteArray.toList.loop (strOf l) i r = r.reverse ++ l.drop i := by
    intro n
    induction n with
    | zero =>
      intro i r h
      have hi : ¬ i < (strOf l).size := by omega
      have hl : l.length ≤ i := by have : (strOf l).size = l.length := rfl; omega
      rw [ByteArray.toList.loop.eq_def, if_neg hi, List.drop_of_length_le hl, List.append_nil]
    | succ n ih =>
      intro i r h
      have hi : i < (strOf l).size := by omega
      have hil : i < l.length := hi
      rw [ByteArray.toList.loop.eq_def, if_pos hi, ih (i + 1) _ (by omega), List.reverse_cons, List.append_assoc]
      congr 1
      have : (strOf l).get! i = l[i] := by simp [ByteArray.get!, strOf, hil]
      rw [this, List.singleton_append, ← List.drop_eq_getElem_cons hil]
  have := key (strOf l).size 0 [] (by omega)
  unfold ByteArray.toList
  simpa using this
theorem str_eq (a b : List UInt8) : ((strOf a).toList == (strOf b).toList) = decide (a = b) := by
  rw [bytes_toList, bytes_toList]
  by_cases h : a = b
  · subst h; simp
  · simp [h]
theorem setN1 (σ : Store) (a b c : List AV) : ((σ.newObj a).newObj b).setObj (σ.next + 1) c = (σ.newObj a).newObj c := setObj_newObj _ _ _
theorem dk_lt {l : List UInt8} {n m : Nat} (h : l.length < m) : (dk l n).length < m := Nat.lt_of_le_of_lt (dk_le l n) h
def okRead (b : List UInt8) : Prop := (readC b).right ∧ (readC b).lay = b
instance (b : List UInt8) : Decidable (okRead b) := inferInstanceAs (Decidable (_ ∧ _))

theorem zq_le : Le (.agg [.int .i64 0, .int .i64 0, .int .i64 0, .int .i64 0, .nil]) (AV.q zq) := Le.agg5 (.refl _) (.refl _) (.refl _) (.refl _) (Le.nil 1)

theorem readReq_spec (b : List UInt8) (hb : b.length < 2 ^ 47) (σ : Store) : ACalls Try.prog 13 [AV.bytes b] σ (fun x s => x = (if okRead b then AV.qr (readC b) 0 else AV.qr zq 2) ∧ s = σ) := by
  refine ACalls.of_awpc Try.func13 c13_eq c13_n c13_rs (by simp) fun hwf => ?_
  unfold c13
  refine AWPc.step ?_
  simp only [go_sem, ↓reduceIte, reduceCtorEq, Nat.reduceEqDiff, Nat.reduceLT, Nat.reduceLeDiff, Nat.reduceAdd, Nat.reduceMul, Nat.reduceSub, Nat.reduceBEq, Nat.reduceDiv, Int.reduceNeg, Int.reduceLT, Int.reduceLE, Int.reduceEq, Int.reduceToNat, Int.reduceAdd, Int.reduceSub, Int.reduceMul, Int.reduceBEq, Int.reduceBNe, reduceBEq, c13_r0]
  refine AWPc.step ?_
  simp only [go_sem, ↓reduceIte, reduceCtorEq, Nat.reduceEqDiff, Nat.reduceLT, Nat.reduceLeDiff, Nat.reduceAdd, Nat.reduceMul, Nat.reduceSub, Nat.reduceBEq, Nat.reduceDiv, Int.reduceNeg, Int.reduceLT, Int.reduceLE, Int.reduceEq, Int.reduceToNat, Int.reduceAdd, Int.reduceSub, Int.reduceMul, Int.reduceBEq, Int.reduceBNe, reduceBEq, c13_r1]
  refine (clone_spec b (by omega) _).mono fun y s' hy => ?_
  obtain ⟨rfl, hs⟩ := hy
  have hs := hs.symm; subst hs
  simp only [go_sem, ↓reduceIte, reduceCtorEq, Nat.reduceEqDiff, Nat.reduceLT, Nat.reduceLeDiff, Nat.reduceAdd, Nat.reduceMul, Nat.reduceSub, Nat.reduceBEq, Nat.reduceDiv, Int.reduceNeg, Int.reduceLT, Int.reduceLE, Int.reduceEq, Int.reduceToNat, Int.reduceAdd, Int.reduceSub, Int.reduceMul, Int.reduceBEq, Int.reduceBNe, reduceBEq]
  refine AWPc.step ?_
  simp only [go_sem, ↓reduceIte, reduceCtorEq, Nat.reduceEqDiff, Nat.reduceLT, Nat.reduceLeDiff, Nat.reduceAdd, Nat.reduceMul, Nat.reduceSub, Nat.reduceBEq, Nat.reduceDiv, Int.reduceNeg, Int.reduceLT, Int.reduceLE, Int.reduceEq, Int.reduceToNat, Int.reduceAdd, Int.reduceSub, Int.reduceMul, Int.reduceBEq, Int.reduceBNe, reduceBEq, c13_r2]
  refine (number_spec (σ.next + 1) b false 1 hb (by omega) _ (by simp only [go_sem, ↓reduceIte, reduceCtorEq, Nat.reduceEqDiff, Nat.reduceLT, Nat.reduceLeDiff, Nat.reduceAdd, Nat.reduceMul, Nat.reduceSub, Nat.reduceBEq, Nat.reduceDiv, Int.reduceNeg, Int.reduceLT, Int.reduceLE, Int.reduceEq, Int.reduceToNat, Int.reduceAdd, Int.reduceSub, Int.reduceMul, Int.reduceBEq, Int.reduceBNe, reduceBEq])).mono fun y s' hy => ?_
  obtain ⟨rfl, hs⟩ := hy
  rw [setN1] at hs
  have hs := hs.symm; subst hs
  simp only [go_sem, ↓reduceIte, reduceCtorEq, Nat.reduceEqDiff, Nat.reduceLT, Nat.reduceLeDiff, Nat.reduceAdd, Nat.reduceMul, Nat.reduceSub, Nat.reduceBEq, Nat.reduceDiv, Int.reduceNeg, Int.reduceLT, Int.reduceLE, Int.reduceEq, Int.reduceToNat, Int.reduceAdd, Int.reduceSub, Int.reduceMul, Int.reduceBEq, Int.reduceBNe, reduceBEq]
  generalize lkk b false 1 = k1
  refine (number_spec (σ.next + 1) (dk b 1) k1 2 (dk_lt hb) (by omega) _ (by simp only [go_sem, ↓reduceIte, reduceCtorEq, Nat.reduceEqDiff, Nat.reduceLT, Nat.reduceLeDiff, Nat.reduceAdd, Nat.reduceMul, Nat.reduceSub, Nat.reduceBEq, Nat.reduceDiv, Int.reduceNeg, Int.reduceLT, Int.reduceLE, Int.reduceEq, Int.reduceToNat, Int.reduceAdd, Int.reduceSub, Int.reduceMul, Int.reduceBEq, Int.reduceBNe, reduceBEq])).mono fun y s' hy => ?_
  obtain ⟨rfl, hs⟩ := hy
  rw [setN1] at hs
  have hs := hs.symm; subst hs
  simp only [go_sem, ↓reduceIte, reduceCtorEq, Nat.reduceEqDiff, Nat.reduceLT, Nat.reduceLeDiff, Nat.reduceAdd, Nat.reduceMul, Nat.reduceSub, Nat.reduceBEq, Nat.reduceDiv, Int.reduceNeg, Int.reduceLT, Int.reduceLE, Int.reduceEq, Int.reduceToNat, Int.reduceAdd, Int.reduceSub, Int.reduceMul, Int.reduceBEq, Int.reduceBNe, reduceBEq]
  generalize lkk (dk b 1) k1 2 = k2
  refine (number_spec (σ.next + 1) (dk (dk b 1) 2) k2 6 (dk_lt (dk_lt hb)) (by omega) _ (by simp only [go_sem, ↓reduceIte, reduceCtorEq, Nat.reduceEqDiff, Nat.reduceLT, Nat.reduceLeDiff, Nat.reduceAdd, Nat.reduceMul, Nat.reduceSub, Nat.reduceBEq, Nat.reduceDiv, Int.reduceNeg, Int.reduceLT, Int.reduceLE, Int.reduceEq, Int.reduceToNat, Int.reduceAdd, Int.reduceSub, Int.reduceMul, Int.reduceBEq, Int.reduceBNe, reduceBEq])).mono fun y s' hy => ?_
  obtain ⟨rfl, hs⟩ := hy
  rw [setN1] at hs
  have hs := hs.symm; subst hs
  simp only [go_sem, ↓reduceIte, reduceCtorEq, Nat.reduceEqDiff, Nat.reduceLT, Nat.reduceLeDiff, Nat.reduceAdd, Nat.reduceMul, Nat.reduceSub, Nat.reduceBEq, Nat.reduceDiv, Int.reduceNeg, Int.reduceLT, Int.reduceLE, Int.reduceEq, Int.reduceToNat, Int.reduceAdd, Int.reduceSub, Int.reduceMul, Int.reduceBEq, Int.reduceBNe, reduceBEq]
  generalize lkk (dk (dk b 1) 2) k2 6 = k3
  refine (number_spec (σ.next + 1) (dk (dk (dk b 1) 2) 6) k3 1 (dk_lt (dk_lt (dk_lt hb))) (by omega) _ (by simp only [go_sem, ↓reduceIte, reduceCtorEq, Nat.reduceEqDiff, Nat.reduceLT, Nat.reduceLeDiff, Nat.reduceAdd, Nat.reduceMul, Nat.reduceSub, Nat.reduceBEq, Nat.reduceDiv, Int.reduceNeg, Int.reduceLT, Int.reduceLE, Int.reduceEq, Int.reduceToNat, Int.reduceAdd, Int.reduceSub, Int.reduceMul, Int.reduceBEq, Int.reduceBNe, reduceBEq])).mono fun y s' hy => ?_
  obtain ⟨rfl, hs⟩ := hy
  rw [setN1] at hs
  have hs := hs.symm; subst hs
  simp only [go_sem, ↓reduceIte, reduceCtorEq, Nat.reduceEqDiff, Nat.reduceLT, Nat.reduceLeDiff, Nat.reduceAdd, Nat.reduceMul, Nat.reduceSub, Nat.reduceBEq, Nat.reduceDiv, Int.reduceNeg, Int.reduceLT, Int.reduceLE, Int.reduceEq, Int.reduceToNat, Int.reduceAdd, Int.reduceSub, Int.reduceMul, Int.reduceBEq, Int.reduceBNe, reduceBEq]
  generalize lkk (dk (dk (dk b 1) 2) 6) k3 1 = k4
  refine AWPc.step ?_
  simp only [go_sem, ↓reduceIte, reduceCtorEq, Nat.reduceEqDiff, Nat.reduceLT, Nat.reduceLeDiff, Nat.reduceAdd, Nat.reduceMul, Nat.reduceSub, Nat.reduceBEq, Nat.reduceDiv, Int.reduceNeg, Int.reduceLT, Int.reduceLE, Int.reduceEq, Int.reduceToNat, Int.reduceAdd, Int.reduceSub, Int.reduceMul, Int.reduceBEq, Int.reduceBNe, reduceBEq, c13_r3]
  refine (number_spec (σ.next + 1) (dk (dk (dk (dk b 1) 2) 6) 1) k4 2 (dk_lt (dk_lt (dk_lt (dk_lt hb)))) (by omega) _ (by simp only [go_sem, ↓reduceIte, reduceCtorEq, Nat.reduceEqDiff, Nat.reduceLT, Nat.reduceLeDiff, Nat.reduceAdd, Nat.reduceMul, Nat.reduceSub, Nat.reduceBEq, Nat.reduceDiv, Int.reduceNeg, Int.reduceLT, Int.reduceLE, Int.reduceEq, Int.reduceToNat, Int.reduceAdd, Int.reduceSub, Int.reduceMul, Int.reduceBEq, Int.reduceBNe, reduceBEq])).mono fun y s' hy => ?_
  obtain ⟨rfl, rfl⟩ := hy
  simp only [go_sem, ↓reduceIte, reduceCtorEq, Nat.reduceEqDiff, Nat.reduceLT, Nat.reduceLeDiff, Nat.reduceAdd, Nat.reduceMul, Nat.reduceSub, Nat.reduceBEq, Nat.reduceDiv, Int.reduceNeg, Int.reduceLT, Int.reduceLE, Int.reduceEq, Int.reduceToNat, Int.reduceAdd, Int.reduceSub, Int.reduceMul, Int.reduceBEq, Int.reduceBNe, reduceBEq]
  generalize lkk (dk (dk (dk (dk b 1) 2) 6) 1) k4 2 = k5
  refine (take_spec (σ.next + 1) (dk (dk (dk (dk (dk b 1) 2) 6) 1) 2) k5 (numB (tk (dk (dk (dk (dk b 1) 2) 6) 1) 2)) (dk_lt (dk_lt (dk_lt (dk_lt (dk_lt hb))))) _ (by simp only [go_sem, ↓reduceIte, reduceCtorEq, Nat.reduceEqDiff, Nat.reduceLT, Nat.reduceLeDiff, Nat.reduceAdd, Nat.reduceMul, Nat.reduceSub, Nat.reduceBEq, Nat.reduceDiv, Int.reduceNeg, Int.reduceLT, Int.reduceLE, Int.reduceEq, Int.reduceToNat, Int.reduceAdd, Int.reduceSub, Int.reduceMul, Int.reduceBEq, Int.reduceBNe, reduceBEq])).mono fun y s' hy => ?_
  obtain ⟨rfl, rfl⟩ := hy
  simp only [go_sem, ↓reduceIte, reduceCtorEq, Nat.reduceEqDiff, Nat.reduceLT, Nat.reduceLeDiff, Nat.reduceAdd, Nat.reduceMul, Nat.reduceSub, Nat.reduceBEq, Nat.reduceDiv, Int.reduceNeg, Int.reduceLT, Int.reduceLE, Int.reduceEq, Int.reduceToNat, Int.reduceAdd, Int.reduceSub, Int.reduceMul, Int.reduceBEq, Int.reduceBNe, reduceBEq]
  refine AWPc.weak (env' := [(5, .ptr (σ.next + 1 + 1) 0), (2, .ptr σ.next 0), (0, AV.bytes b)]) (.slots (all_cons rfl (all_cons rfl (all_cons rfl all_nil)))) ?_
  have hq : [AV.pv (PV.val (Value.int IntKind.i64 ↑(numB (tk b 1)))), AV.pv (PV.val (Value.int IntKind.i64 ↑(numB (tk (dk b 1) 2)))), AV.pv (PV.val (Value.int IntKind.i64 ↑(numB (tk (dk (dk b 1) 2) 6)))), AV.pv (PV.val (Value.int IntKind.i64 ↑(numB (tk (dk (dk (dk b 1) 2) 6) 1)))),
    AV.pv (PV.lst 1 (encB (tk (dk (dk (dk (dk (dk b 1) 2) 6) 1) 2) (numB (tk (dk (dk (dk (dk b 1) 2) 6) 1) 2)))))] = [AV.int .i64 (readC b).kd, .int .i64 (readC b).st, .int .i64 (readC b).gn, .int .i64 (readC b).ix, AV.bytes (readC b).d] := by simp only [readC]
  rw [hq]
  have hd := readC_d b
  refine AWPc.of_arun ?_
  simp only [go_sem, ↓reduceIte, reduceCtorEq, Nat.reduceEqDiff, Nat.reduceLT, Nat.reduceLeDiff, Nat.reduceAdd, Nat.reduceMul, Nat.reduceSub, Nat.reduceBEq, Nat.reduceDiv, Int.reduceNeg, Int.reduceLT, Int.reduceLE, Int.reduceEq, Int.reduceToNat, Int.reduceAdd, Int.reduceSub, Int.reduceMul, Int.reduceBEq, Int.reduceBNe, reduceBEq, c13_r4]
  refine (layReq_spec (readC b) (by omega) _).mono fun y s' hy => ?_
  obtain ⟨rfl, hs⟩ := hy
  have hs := hs.symm; subst hs
  by_cases hr : (readC b).right
  · rw [if_pos hr]
    simp only [go_sem, ↓reduceIte, reduceCtorEq, Nat.reduceEqDiff, Nat.reduceLT, Nat.reduceLeDiff, Nat.reduceAdd, Nat.reduceMul, Nat.reduceSub, Nat.reduceBEq, Nat.reduceDiv, Int.reduceNeg, Int.reduceLT, Int.reduceLE, Int.reduceEq, Int.reduceToNat, Int.reduceAdd, Int.reduceSub, Int.reduceMul, Int.reduceBEq, Int.reduceBNe, reduceBEq, c13_r5, (by decide : ((0 : Int) != 0) = false)]
    have hll := (readC b).lay_length
    refine (equal_spec (readC b).lay b (by omega) _).mono fun y s' hy => ?_
    obtain ⟨rfl, hs⟩ := hy
    have hs := hs.symm; subst hs
    by_cases he : (readC b).lay = b
    · have d1 : decide ((readC b).lay = b) = true := decide_eq_true he
      simp only [go_sem, ↓reduceIte, reduceCtorEq, Nat.reduceEqDiff, Nat.reduceLT, Nat.reduceLeDiff, Nat.reduceAdd, Nat.reduceMul, Nat.reduceSub, Nat.reduceBEq, Nat.reduceDiv, Int.reduceNeg, Int.reduceLT, Int.reduceLE, Int.reduceEq, Int.reduceToNat, Int.reduceAdd, Int.reduceSub, Int.reduceMul, Int.reduceBEq, Int.reduceBNe, reduceBEq, d1, c13_r7]
      refine ⟨_, _, _, rfl, WeakV.none hwf (by repeat (first | exact Agree.refl _ | refine Agree.newObj ?_ _ | refine Agree.newTok ?_ _ _ _ | refine Agree.killTok ?_ (by omega) | refine Agree.setObj ?_ (by omega) _ | refine Agree.dropObj ?_ (by omega))) (LeR.of_le (.refl _) (by simp)), ?_, rfl⟩
      rw [if_pos ⟨hr, he⟩]
    · have d1 : decide ((readC b).lay = b) = false := decide_eq_false he
      simp only [go_sem, ↓reduceIte, reduceCtorEq, Nat.reduceEqDiff, Nat.reduceLT, Nat.reduceLeDiff, Nat.reduceAdd, Nat.reduceMul, Nat.reduceSub, Nat.reduceBEq, Nat.reduceDiv, Int.reduceNeg, Int.reduceLT, Int.reduceLE, Int.reduceEq, Int.reduceToNat, Int.reduceAdd, Int.reduceSub, Int.reduceMul, Int.reduceBEq, Int.reduceBNe, reduceBEq, d1, c13_r6]
      refine ⟨_, _, _, rfl, WeakV.none hwf (by repeat (first | exact Agree.refl _ | refine Agree.newObj ?_ _ | refine Agree.newTok ?_ _ _ _ | refine Agree.killTok ?_ (by omega) | refine Agree.setObj ?_ (by omega) _ | refine Agree.dropObj ?_ (by omega))) (LeR.of_le (Le.tup2 zq_le (.refl _)) (by simp)), ?_, rfl⟩
      rw [if_neg (fun h => he h.2)]
  · rw [if_neg hr]
    simp only [go_sem, ↓reduceIte, reduceCtorEq, Nat.reduceEqDiff, Nat.reduceLT, Nat.reduceLeDiff, Nat.reduceAdd, Nat.reduceMul, Nat.reduceSub, Nat.reduceBEq, Nat.reduceDiv, Int.reduceNeg, Int.reduceLT, Int.reduceLE, Int.reduceEq, Int.reduceToNat, Int.reduceAdd, Int.reduceSub, Int.reduceMul, Int.reduceBEq, Int.reduceBNe, reduceBEq, c13_r5, (by decide : ((1 : Int) != 0) = true), c13_r6]
    refine ⟨_, _, _, rfl, WeakV.none hwf (by repeat (first | exact Agree.refl _ | refine Agree.newObj ?_ _ | refine Agree.newTok ?_ _ _ _ | refine Agree.killTok ?_ (by omega) | refine Agree.setObj ?_ (by omega) _ | refine Agree.dropObj ?_ (by omega))) (LeR.of_le (Le.tup2 zq_le (.refl _)) (by simp)), ?_, rfl⟩
    rw [if_neg (fun h => hr h.1)]

theorem sameReq_spec (p q : Q) (σ : Store) : ACalls Try.prog 16 [AV.q p, AV.q q] σ (fun x s => x = .bool (decide (p = q)) ∧ s = σ) := by
  refine ACalls.of_arun Try.func16 c16_eq c16_n c16_rs (by simp) fun hwf => ?_
  obtain ⟨a1, a2, a3, a4, a5⟩ := p
  obtain ⟨b1, b2, b3, b4, b5⟩ := q
  simp only [go_sem, ↓reduceIte, reduceCtorEq, Nat.reduceEqDiff, Nat.reduceLT, Nat.reduceLeDiff, Nat.reduceAdd, Nat.reduceMul, Nat.reduceSub, Nat.reduceBEq, Nat.reduceDiv, Int.reduceNeg, Int.reduceLT, Int.reduceLE, Int.reduceEq, Int.reduceToNat, Int.reduceAdd, Int.reduceSub, Int.reduceMul, Int.reduceBEq, Int.reduceBNe, reduceBEq, c16, c16_r0]
  by_cases h1 : a1 = b1
  case neg =>
    have d1 : (a1 == b1) = false := by simp [h1]
    simp only [go_sem, ↓reduceIte, reduceCtorEq, Nat.reduceEqDiff, Nat.reduceLT, Nat.reduceLeDiff, Nat.reduceAdd, Nat.reduceMul, Nat.reduceSub, Nat.reduceBEq, Nat.reduceDiv, Int.reduceNeg, Int.reduceLT, Int.reduceLE, Int.reduceEq, Int.reduceToNat, Int.reduceAdd, Int.reduceSub, Int.reduceMul, Int.reduceBEq, Int.reduceBNe, reduceBEq, c16_r1, d1]
    exact ⟨_, _, _, rfl, WeakV.none hwf (by repeat (first | exact Agree.refl _ | refine Agree.newObj ?_ _ | refine Agree.newTok ?_ _ _ _ | refine Agree.killTok ?_ (by omega) | refine Agree.setObj ?_ (by omega) _ | refine Agree.dropObj ?_ (by omega))) (.pv _ _ _), by rw [decide_eq_false (by simp [h1])], rfl⟩
  have d1 : (a1 == b1) = true := by simp [h1]
  by_cases h2 : a2 = b2
  case neg =>
    have d2 : (a2 == b2) = false := by simp [h2]
    simp only [go_sem, ↓reduceIte, reduceCtorEq, Nat.reduceEqDiff, Nat.reduceLT, Nat.reduceLeDiff, Nat.reduceAdd, Nat.reduceMul, Nat.reduceSub, Nat.reduceBEq, Nat.reduceDiv, Int.reduceNeg, Int.reduceLT, Int.reduceLE, Int.reduceEq, Int.reduceToNat, Int.reduceAdd, Int.reduceSub, Int.reduceMul, Int.reduceBEq, Int.reduceBNe, reduceBEq, c16_r1, d1, d2]
    exact ⟨_, _, _, rfl, WeakV.none hwf (by repeat (first | exact Agree.refl _ | refine Agree.newObj ?_ _ | refine Agree.newTok ?_ _ _ _ | refine Agree.killTok ?_ (by omega) | refine Agree.setObj ?_ (by omega) _ | refine Agree.dropObj ?_ (by omega))) (.pv _ _ _), by rw [decide_eq_false (by simp [h2])], rfl⟩
  have d2 : (a2 == b2) = true := by simp [h2]
  by_cases h3 : a3 = b3
  case neg =>
    have d3 : (a3 == b3) = false := by simp [h3]
    simp only [go_sem, ↓reduceIte, reduceCtorEq, Nat.reduceEqDiff, Nat.reduceLT, Nat.reduceLeDiff, Nat.reduceAdd, Nat.reduceMul, Nat.reduceSub, Nat.reduceBEq, Nat.reduceDiv, Int.reduceNeg, Int.reduceLT, Int.reduceLE, Int.reduceEq, Int.reduceToNat, Int.reduceAdd, Int.reduceSub, Int.reduceMul, Int.reduceBEq, Int.reduceBNe, reduceBEq, c16_r1, d1, d2, d3]
    exact ⟨_, _, _, rfl, WeakV.none hwf (by repeat (first | exact Agree.refl _ | refine Agree.newObj ?_ _ | refine Agree.newTok ?_ _ _ _ | refine Agree.killTok ?_ (by omega) | refine Agree.setObj ?_ (by omega) _ | refine Agree.dropObj ?_ (by omega))) (.pv _ _ _), by rw [decide_eq_false (by simp [h3])], rfl⟩
  have d3 : (a3 == b3) = true := by simp [h3]
  by_cases h4 : a4 = b4
  case neg =>
    have d4 : (a4 == b4) = false := by simp [h4]
    simp only [go_sem, ↓reduceIte, reduceCtorEq, Nat.reduceEqDiff, Nat.reduceLT, Nat.reduceLeDiff, Nat.reduceAdd, Nat.reduceMul, Nat.reduceSub, Nat.reduceBEq, Nat.reduceDiv, Int.reduceNeg, Int.reduceLT, Int.reduceLE, Int.reduceEq, Int.reduceToNat, Int.reduceAdd, Int.reduceSub, Int.reduceMul, Int.reduceBEq, Int.reduceBNe, reduceBEq, c16_r1, d1, d2, d3, d4]
    exact ⟨_, _, _, rfl, WeakV.none hwf (by repeat (first | exact Agree.refl _ | refine Agree.newObj ?_ _ | refine Agree.newTok ?_ _ _ _ | refine Agree.killTok ?_ (by omega) | refine Agree.setObj ?_ (by omega) _ | refine Agree.dropObj ?_ (by omega))) (.pv _ _ _), by rw [decide_eq_false (by simp [h4])], rfl⟩
  have d4 : (a4 == b4) = true := by simp [h4]
  have d5 : ((strOf a5).toList == (strOf b5).toList) = decide (a5 = b5) := str_eq a5 b5
  simp only [go_sem, ↓reduceIte, reduceCtorEq, Nat.reduceEqDiff, Nat.reduceLT, Nat.reduceLeDiff, Nat.reduceAdd, Nat.reduceMul, Nat.reduceSub, Nat.reduceBEq, Nat.reduceDiv, Int.reduceNeg, Int.reduceLT, Int.reduceLE, Int.reduceEq, Int.reduceToNat, Int.reduceAdd, Int.reduceSub, Int.reduceMul, Int.reduceBEq, Int.reduceBNe, reduceBEq, c16_r1, d1, d2, d3, d4, d5]
  exact ⟨_, _, _, rfl, WeakV.none hwf (by repeat (first | exact Agree.refl _ | refine Agree.newObj ?_ _ | refine Agree.newTok ?_ _ _ _ | refine Agree.killTok ?_ (by omega) | refine Agree.setObj ?_ (by omega) _ | refine Agree.dropObj ?_ (by omega))) (.pv _ _ _), by subst h1; subst h2; subst h3; subst h4; simp, rfl⟩

theorem known_spec (σ : Store) : ACalls Try.prog 15 [] σ (fun x s => x = .bool true ∧ s = σ) := by
  refine ACalls.of_awpc Try.func15 c15_eq c15_n c15_rs (by simp) fun hwf => ?_
  unfold c15
  refine AWPc.step ?_
  simp only [go_sem, ↓reduceIte, reduceCtorEq, Nat.reduceEqDiff, Nat.reduceLT, Nat.reduceLeDiff, Nat.reduceAdd, Nat.reduceMul, Nat.reduceSub, Nat.reduceBEq, Nat.reduceDiv, Int.reduceNeg, Int.reduceLT, Int.reduceLE, Int.reduceEq, Int.reduceToNat, Int.reduceAdd, Int.reduceSub, Int.reduceMul, Int.reduceBEq, Int.reduceBNe, reduceBEq, c15_r0]
  refine AWPc.step ?_
  simp only [go_sem, ↓reduceIte, reduceCtorEq, Nat.reduceEqDiff, Nat.reduceLT, Nat.reduceLeDiff, Nat.reduceAdd, Nat.reduceMul, Nat.reduceSub, Nat.reduceBEq, Nat.reduceDiv, Int.reduceNeg, Int.reduceLT, Int.reduceLE, Int.reduceEq, Int.reduceToNat, Int.reduceAdd, Int.reduceSub, Int.reduceMul, Int.reduceBEq, Int.reduceBNe, reduceBEq, c15_r1]
  refine (ACalls.le1 (Le.agg5 (.refl _) (.refl _) (.refl _) (.refl _) (Le.nil 1)) (layReq_spec ⟨4, 0, 0, 0, []⟩ (by decide) _)).mono fun y s' hy => ?_
  rw [if_pos (by decide)] at hy
  obtain ⟨rfl, hs⟩ := hy
  have hs := hs.symm; subst hs
  simp only [go_sem, ↓reduceIte, reduceCtorEq, Nat.reduceEqDiff, Nat.reduceLT, Nat.reduceLeDiff, Nat.reduceAdd, Nat.reduceMul, Nat.reduceSub, Nat.reduceBEq, Nat.reduceDiv, Int.reduceNeg, Int.reduceLT, Int.reduceLE, Int.reduceEq, Int.reduceToNat, Int.reduceAdd, Int.reduceSub, Int.reduceMul, Int.reduceBEq, Int.reduceBNe, reduceBEq]
  refine AWPc.step ?_
  simp only [go_sem, ↓reduceIte, reduceCtorEq, Nat.reduceEqDiff, Nat.reduceLT, Nat.reduceLeDiff, Nat.reduceAdd, Nat.reduceMul, Nat.reduceSub, Nat.reduceBEq, Nat.reduceDiv, Int.reduceNeg, Int.reduceLT, Int.reduceLE, Int.reduceEq, Int.reduceToNat, Int.reduceAdd, Int.reduceSub, Int.reduceMul, Int.reduceBEq, Int.reduceBNe, reduceBEq, c15_r2]
  refine (readReq_spec (Q.lay ⟨4, 0, 0, 0, []⟩) (by decide) _).mono fun y s' hy => ?_
  rw [if_pos ⟨by rw [readC_lay (by decide)]; decide, by rw [readC_lay (by decide)]⟩, readC_lay (by decide)] at hy
  obtain ⟨rfl, hs⟩ := hy
  have hs := hs.symm; subst hs
  simp only [go_sem, ↓reduceIte, reduceCtorEq, Nat.reduceEqDiff, Nat.reduceLT, Nat.reduceLeDiff, Nat.reduceAdd, Nat.reduceMul, Nat.reduceSub, Nat.reduceBEq, Nat.reduceDiv, Int.reduceNeg, Int.reduceLT, Int.reduceLE, Int.reduceEq, Int.reduceToNat, Int.reduceAdd, Int.reduceSub, Int.reduceMul, Int.reduceBEq, Int.reduceBNe, reduceBEq]
  refine AWPc.of_arun ?_
  have k1 : ((strOf (Q.lay ⟨4, 0, 0, 0, []⟩)).toList == (⟨#[4, 0, 0, 0, 0, 0, 0, 0, 0, 0, 0, 0]⟩ : ByteArray).toList) = true := by
    have : Q.lay ⟨4, 0, 0, 0, []⟩ = [4, 0, 0, 0, 0, 0, 0, 0, 0, 0, 0, 0] := by decide
    rw [this]; exact beq_self_eq_true _
  simp only [go_sem, ↓reduceIte, reduceCtorEq, Nat.reduceEqDiff, Nat.reduceLT, Nat.reduceLeDiff, Nat.reduceAdd, Nat.reduceMul, Nat.reduceSub, Nat.reduceBEq, Nat.reduceDiv, Int.reduceNeg, Int.reduceLT, Int.reduceLE, Int.reduceEq, Int.reduceToNat, Int.reduceAdd, Int.reduceSub, Int.reduceMul, Int.reduceBEq, Int.reduceBNe, reduceBEq, c15_r3, k1, (by decide : ((0 : Int) == 0) = true), (by decide : ((4 : Int) == 4) = true)]
  exact ⟨_, _, _, rfl, WeakV.none hwf (by repeat (first | exact Agree.refl _ | refine Agree.newObj ?_ _ | refine Agree.newTok ?_ _ _ _ | refine Agree.killTok ?_ (by omega) | refine Agree.setObj ?_ (by omega) _ | refine Agree.dropObj ?_ (by omega))) (.pv _ _ _), rfl, rfl⟩
end Go.Proofs.Ytnanpamfdjnomaa
