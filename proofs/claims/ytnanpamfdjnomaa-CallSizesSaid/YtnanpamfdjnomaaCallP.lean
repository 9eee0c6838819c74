/- call: CallSizes. -/
import Derived.Test.YtnanpamfdjnomaaCallO
import Derived.Test.YtnanpamfdjnomaaCallG
namespace Go.Proofs.Ytnanpamfdjnomaa
open Go Go.RowKit Go.Proofs.Ytnanpamfdjnomaa.AL
set_option maxRecDepth 100000
set_option linter.unusedSimpArgs false

theorem lay12 {p : Q} : ((p.lay).take 12).drop 10 = bigL p.d.length 2 := by
  have hl : p.lay = (bigL p.kd.toNat 1 ++ bigL p.st.toNat 2 ++ bigL p.gn.toNat 6 ++ bigL p.ix.toNat 1) ++ (bigL p.d.length 2 ++ p.d) := by simp [Q.lay]
  rw [hl]
  exact mid _ _ _ 10 12 (by simp [bigL_length]) (by simp [bigL_length])
theorem len_of12 {p q : Q} (hp : p.right) (hq : q.right) (h : p.lay.take 12 = q.lay.take 12) : p.d.length = q.d.length := by
  have h1 := congrArg (fun l => numB (l.drop 10)) h
  simp only [lay12] at h1
  rw [numB_bigL, numB_bigL] at h1
  have := hp.d1
  have := hq.d1
  omega
theorem okRead_long {q : Q} (h : q.right) (m : UInt8) : ¬ okRead (q.lay ++ [m]) := by
  intro hk
  have h1 := q.lay_length
  have h2 := (readC (q.lay ++ [m])).lay_length
  have h3 := len_of12 hk.1 h (by rw [hk.2, List.take_append_of_le_length (by omega)])
  rw [hk.2, List.length_append, List.length_singleton] at h2
  omega
theorem okRead_short {q : Q} (h : q.right) {n : Nat} (hn : n < q.lay.length) : ¬ okRead (q.lay.take n) := by
  intro hk
  have h1 := q.lay_length
  have h2 := (readC (q.lay.take n)).lay_length
  rw [hk.2, List.length_take] at h2
  have h3 := len_of12 hk.1 h (by rw [hk.2, List.take_take, Nat.min_eq_left (by omega)])
  omega

theorem callSizes_spec (x : RawQ) (hx : x.ok) (pc it sd : Int) (mo : UInt8) (σ : Store) :
    ACalls Try.prog 5 [.agg x.cells, .int .i64 pc, .int .i64 it, .int .i64 sd, .int .u8 (mo.toNat : Int)] σ (fun x s => x = .bool true ∧ s = σ) := by
  refine ACalls.of_awpc Try.func5 c5_eq c5_n c5_rs (by simp) fun hwf => ?_
  unfold c5
  refine AWPc.step ?_
  simp only [go_sem, ↓reduceIte, reduceCtorEq, Nat.reduceEqDiff, Nat.reduceLT, Nat.reduceLeDiff, Nat.reduceAdd, Nat.reduceMul, Nat.reduceSub, Nat.reduceBEq, Nat.reduceDiv, Int.reduceNeg, Int.reduceLT, Int.reduceLE, Int.reduceEq, Int.reduceToNat, Int.reduceAdd, Int.reduceSub, Int.reduceMul, Int.reduceBEq, Int.reduceBNe, reduceBEq, c5_r0]
  refine AWPc.step ?_
  simp only [go_sem, ↓reduceIte, reduceCtorEq, Nat.reduceEqDiff, Nat.reduceLT, Nat.reduceLeDiff, Nat.reduceAdd, Nat.reduceMul, Nat.reduceSub, Nat.reduceBEq, Nat.reduceDiv, Int.reduceNeg, Int.reduceLT, Int.reduceLE, Int.reduceEq, Int.reduceToNat, Int.reduceAdd, Int.reduceSub, Int.reduceMul, Int.reduceBEq, Int.reduceBNe, reduceBEq, c5_r1]
  refine (known_spec _).mono fun y' s' hy' => ?_
  obtain ⟨rfl, hs⟩ := hy'
  have hs := hs.symm; subst hs
  simp only [go_sem, ↓reduceIte, reduceCtorEq, Nat.reduceEqDiff, Nat.reduceLT, Nat.reduceLeDiff, Nat.reduceAdd, Nat.reduceMul, Nat.reduceSub, Nat.reduceBEq, Nat.reduceDiv, Int.reduceNeg, Int.reduceLT, Int.reduceLE, Int.reduceEq, Int.reduceToNat, Int.reduceAdd, Int.reduceSub, Int.reduceMul, Int.reduceBEq, Int.reduceBNe, reduceBEq]
  refine AWPc.step ?_
  simp only [go_sem, ↓reduceIte, reduceCtorEq, Nat.reduceEqDiff, Nat.reduceLT, Nat.reduceLeDiff, Nat.reduceAdd, Nat.reduceMul, Nat.reduceSub, Nat.reduceBEq, Nat.reduceDiv, Int.reduceNeg, Int.reduceLT, Int.reduceLE, Int.reduceEq, Int.reduceToNat, Int.reduceAdd, Int.reduceSub, Int.reduceMul, Int.reduceBEq, Int.reduceBNe, reduceBEq, c5_r3]
  refine (req_spec x hx _).mono fun y' s' hy' => ?_
  obtain ⟨⟨q, hqf, rfl⟩, hs⟩ := hy'
  have hs := hs.symm; subst hs
  simp only [go_sem, ↓reduceIte, reduceCtorEq, Nat.reduceEqDiff, Nat.reduceLT, Nat.reduceLeDiff, Nat.reduceAdd, Nat.reduceMul, Nat.reduceSub, Nat.reduceBEq, Nat.reduceDiv, Int.reduceNeg, Int.reduceLT, Int.reduceLE, Int.reduceEq, Int.reduceToNat, Int.reduceAdd, Int.reduceSub, Int.reduceMul, Int.reduceBEq, Int.reduceBNe, reduceBEq]
  refine AWPc.step ?_
  simp only [go_sem, ↓reduceIte, reduceCtorEq, Nat.reduceEqDiff, Nat.reduceLT, Nat.reduceLeDiff, Nat.reduceAdd, Nat.reduceMul, Nat.reduceSub, Nat.reduceBEq, Nat.reduceDiv, Int.reduceNeg, Int.reduceLT, Int.reduceLE, Int.reduceEq, Int.reduceToNat, Int.reduceAdd, Int.reduceSub, Int.reduceMul, Int.reduceBEq, Int.reduceBNe, reduceBEq, c5_r4]
  refine (layReq_spec q (by have := hqf.2.2.2.2; omega) _).mono fun y' s' hy' => ?_
  obtain ⟨rfl, hs⟩ := hy'
  have hs := hs.symm; subst hs
  by_cases hq : q.right
  case neg =>
    rw [if_neg hq]
    simp only [go_sem, ↓reduceIte, reduceCtorEq, Nat.reduceEqDiff, Nat.reduceLT, Nat.reduceLeDiff, Nat.reduceAdd, Nat.reduceMul, Nat.reduceSub, Nat.reduceBEq, Nat.reduceDiv, Int.reduceNeg, Int.reduceLT, Int.reduceLE, Int.reduceEq, Int.reduceToNat, Int.reduceAdd, Int.reduceSub, Int.reduceMul, Int.reduceBEq, Int.reduceBNe, reduceBEq]
    refine AWPc.step ?_
    simp only [go_sem, ↓reduceIte, reduceCtorEq, Nat.reduceEqDiff, Nat.reduceLT, Nat.reduceLeDiff, Nat.reduceAdd, Nat.reduceMul, Nat.reduceSub, Nat.reduceBEq, Nat.reduceDiv, Int.reduceNeg, Int.reduceLT, Int.reduceLE, Int.reduceEq, Int.reduceToNat, Int.reduceAdd, Int.reduceSub, Int.reduceMul, Int.reduceBEq, Int.reduceBNe, reduceBEq, c5_r5, (by decide : ((1 : Int) == 0) = false)]
    exact AWPc.weak (Weak.slots (all_cons rfl (all_cons rfl (all_cons rfl (all_cons rfl all_nil))))) (sizes_b pc it sd mo σ _ hwf (by repeat (first | exact Agree.refl _ | refine Agree.newObj ?_ _ | refine Agree.newTok ?_ _ _ _ | refine Agree.killTok ?_ (by first | omega | (simp only [go_sem] <;> omega)) | refine Agree.setObj ?_ (by first | omega | (simp only [go_sem] <;> omega)) _ | refine Agree.dropObj ?_ (by first | omega | (simp only [go_sem] <;> omega)))))
  rw [if_pos hq]
  simp only [go_sem, ↓reduceIte, reduceCtorEq, Nat.reduceEqDiff, Nat.reduceLT, Nat.reduceLeDiff, Nat.reduceAdd, Nat.reduceMul, Nat.reduceSub, Nat.reduceBEq, Nat.reduceDiv, Int.reduceNeg, Int.reduceLT, Int.reduceLE, Int.reduceEq, Int.reduceToNat, Int.reduceAdd, Int.reduceSub, Int.reduceMul, Int.reduceBEq, Int.reduceBNe, reduceBEq]
  refine AWPc.step ?_
  have hll := q.lay_length
  have hd1 := hq.d1
  have e5 : IntKind.i64.wrap (((q.lay.length : Nat) : Int) - 1) = ((q.lay.length - 1 : Nat) : Int) := by rw [w64 (by omega) (by omega)]; omega
  have e6 : (((q.lay.length - 1 : Nat) : Int) > 0) = True := eq_true (by omega)
  have e7 : IntKind.i64.wrap (12 + (q.d.length : Int)) = 12 + q.d.length := W_small (by omega) (by omega)
  have d1 : (((q.lay.length : Nat) : Int) != 12 + (q.d.length : Int)) = false := by rw [hll]; simp
  simp only [go_sem, ↓reduceIte, reduceCtorEq, Nat.reduceEqDiff, Nat.reduceLT, Nat.reduceLeDiff, Nat.reduceAdd, Nat.reduceMul, Nat.reduceSub, Nat.reduceBEq, Nat.reduceDiv, Int.reduceNeg, Int.reduceLT, Int.reduceLE, Int.reduceEq, Int.reduceToNat, Int.reduceAdd, Int.reduceSub, Int.reduceMul, Int.reduceBEq, Int.reduceBNe, reduceBEq, c5_r5, c5_r6, (by decide : ((0 : Int) == 0) = true), encB_length, e5, e6, Int.toNat_natCast, encB_take]
  refine ⟨by omega, (readReq_spec (q.lay.take (q.lay.length - 1)) (by rw [List.length_take]; omega) _).mono fun y s' hy => ?_⟩
  rw [if_neg (okRead_short hq (by omega))] at hy
  obtain ⟨rfl, hs⟩ := hy
  have hs := hs.symm; subst hs
  simp only [go_sem, ↓reduceIte, reduceCtorEq, Nat.reduceEqDiff, Nat.reduceLT, Nat.reduceLeDiff, Nat.reduceAdd, Nat.reduceMul, Nat.reduceSub, Nat.reduceBEq, Nat.reduceDiv, Int.reduceNeg, Int.reduceLT, Int.reduceLE, Int.reduceEq, Int.reduceToNat, Int.reduceAdd, Int.reduceSub, Int.reduceMul, Int.reduceBEq, Int.reduceBNe, reduceBEq]
  simp only [go_sem, ↓reduceIte, reduceCtorEq, Nat.reduceEqDiff, Nat.reduceLT, Nat.reduceLeDiff, Nat.reduceAdd, Nat.reduceMul, Nat.reduceSub, Nat.reduceBEq, Nat.reduceDiv, Int.reduceNeg, Int.reduceLT, Int.reduceLE, Int.reduceEq, Int.reduceToNat, Int.reduceAdd, Int.reduceSub, Int.reduceMul, Int.reduceBEq, Int.reduceBNe, reduceBEq, maxLen, Nat.reducePow, c5_r7, encB_one, encB_append, encB_length]
  refine ⟨by omega, by omega, (ACalls.le1 (Le.list (es := 1) rfl) (readReq_spec (q.lay ++ [mo]) (by rw [List.length_append, List.length_singleton]; omega) _)).mono fun y s' hy => ?_⟩
  rw [if_neg (okRead_long hq mo)] at hy
  obtain ⟨rfl, hs⟩ := hy
  have hs := hs.symm; subst hs
  simp only [go_sem, ↓reduceIte, reduceCtorEq, Nat.reduceEqDiff, Nat.reduceLT, Nat.reduceLeDiff, Nat.reduceAdd, Nat.reduceMul, Nat.reduceSub, Nat.reduceBEq, Nat.reduceDiv, Int.reduceNeg, Int.reduceLT, Int.reduceLE, Int.reduceEq, Int.reduceToNat, Int.reduceAdd, Int.reduceSub, Int.reduceMul, Int.reduceBEq, Int.reduceBNe, reduceBEq]
  simp only [go_sem, ↓reduceIte, reduceCtorEq, Nat.reduceEqDiff, Nat.reduceLT, Nat.reduceLeDiff, Nat.reduceAdd, Nat.reduceMul, Nat.reduceSub, Nat.reduceBEq, Nat.reduceDiv, Int.reduceNeg, Int.reduceLT, Int.reduceLE, Int.reduceEq, Int.reduceToNat, Int.reduceAdd, Int.reduceSub, Int.reduceMul, Int.reduceBEq, Int.reduceBNe, reduceBEq, c5_r8, encB_length, e7, d1, (by decide : ((2 : Int) != 2) = false)]
  exact AWPc.weak (Weak.slots (all_cons rfl (all_cons rfl (all_cons rfl (all_cons rfl all_nil))))) (sizes_b pc it sd mo σ _ hwf (by repeat (first | exact Agree.refl _ | refine Agree.newObj ?_ _ | refine Agree.newTok ?_ _ _ _ | refine Agree.killTok ?_ (by first | omega | (simp only [go_sem] <;> omega)) | refine Agree.setObj ?_ (by first | omega | (simp only [go_sem] <;> omega)) _ | refine Agree.dropObj ?_ (by first | omega | (simp only [go_sem] <;> omega)))))

theorem CallSizes_args (x : List PV) (fx : FitAll [.int .i64, .int .i64, .int .i64, .int .i64, .int .i64, .int .i64] x) (pieces : Int) (_ : (Lit.int .i64 pieces).wf = true) (intents : Int) (_ : (Lit.int .i64 intents).wf = true) (seed : Int) (_ : (Lit.int .i64 seed).wf = true) (more : Int) (hm : (Lit.int .u8 more).wf = true) :
    ACalls Try.prog 5 [.agg (x.map .pv), .int .i64 pieces, .int .i64 intents, .int .i64 seed, .int .u8 more] store0 (fun x s => x = .bool true ∧ s = store0) := by
  obtain ⟨r, hr, e⟩ := rawQ_of fx
  have hm' := wf_u8 hm
  have em : more = ((UInt8.ofNat more.toNat).toNat : Int) := by simp; omega
  rw [e, em]
  exact callSizes_spec r hr pieces intents seed (UInt8.ofNat more.toNat) store0
end Go.Proofs.Ytnanpamfdjnomaa
