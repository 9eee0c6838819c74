/- call: CallReps. -/
import Derived.Test.YtnanpamfdjnomaaCallT
namespace Go.Proofs.Ytnanpamfdjnomaa
open Go Go.RowKit Go.Proofs.Ytnanpamfdjnomaa.AL
set_option maxRecDepth 100000
set_option linter.unusedSimpArgs false

theorem reps_rest (p : Rp) (hp : p.ps.length ≤ 6) (hi : p.is.length ≤ 6) (hpd : ∀ y ∈ p.ps, y.d.length ≤ 40) (hid : ∀ y ∈ p.is, y.d.length ≤ 140) (raw : List UInt8) (hraw : raw.length < 2 ^ 47) (how : Int) (at' : List Int) (m : UInt8) (σ : Store) (hwf : σ.Wf) :
    AWPc Try.prog 226 σ.next (.seq (.reg c6_r12) (.seq (.reg c6_r13) (.seq (.reg c6_r14) (.seq (.seq (.reg c6_r15) (.cond (.tmp 120) (.reg c6_r16) .skip)) (.seq (.seq (.reg c6_r17) (.cond (.tmp 141) (.seq (.reg c6_r18) .ret) .skip)) (.seq (.reg c6_r19) (.seq (.seq (.reg c6_r20) (.cond (.tmp 151) (.seq (.reg c6_r21) (.seq (.seq (.reg c6_r22) (.block 2 (.loop c6_l1))) (.reg c6_r26))) .skip)) (.seq (.reg c6_r27) (.seq (.reg c6_r28) (.seq (.raw c6_d29) .ret)))))))))) (REnv σ.next raw how at' m) (σ.newObj p.avs) (rpsPost σ) := by
  have hwf1 := hwf.newObj (Rp.avs_lt p (σ.next + 1))
  refine AWPc.step ?_
  simp only [go_sem, ↓reduceIte, reduceCtorEq, Nat.reduceEqDiff, Nat.reduceLT, Nat.reduceLeDiff, Nat.reduceAdd, Nat.reduceMul, Nat.reduceSub, Nat.reduceBEq, Nat.reduceDiv, Int.reduceNeg, Int.reduceLT, Int.reduceLE, Int.reduceEq, Int.reduceToNat, Int.reduceAdd, Int.reduceSub, Int.reduceMul, Int.reduceBEq, Int.reduceBNe, reduceBEq, c6_r12]
  refine (rRight_spec p (by omega) (by omega) _).mono fun y' s' hy' => ?_
  obtain ⟨rfl, hs⟩ := hy'
  have hs := hs.symm; subst hs
  simp only [go_sem, ↓reduceIte, reduceCtorEq, Nat.reduceEqDiff, Nat.reduceLT, Nat.reduceLeDiff, Nat.reduceAdd, Nat.reduceMul, Nat.reduceSub, Nat.reduceBEq, Nat.reduceDiv, Int.reduceNeg, Int.reduceLT, Int.reduceLE, Int.reduceEq, Int.reduceToNat, Int.reduceAdd, Int.reduceSub, Int.reduceMul, Int.reduceBEq, Int.reduceBNe, reduceBEq]
  refine AWPc.step ?_
  simp only [go_sem, ↓reduceIte, reduceCtorEq, Nat.reduceEqDiff, Nat.reduceLT, Nat.reduceLeDiff, Nat.reduceAdd, Nat.reduceMul, Nat.reduceSub, Nat.reduceBEq, Nat.reduceDiv, Int.reduceNeg, Int.reduceLT, Int.reduceLE, Int.reduceEq, Int.reduceToNat, Int.reduceAdd, Int.reduceSub, Int.reduceMul, Int.reduceBEq, Int.reduceBNe, reduceBEq, c6_r13]
  refine (layRep_spec p (by omega) (by omega) _).mono fun y' s' hy' => ?_
  obtain ⟨rfl, hs⟩ := hy'
  have hs := hs.symm; subst hs
  by_cases hr : p.right
  · have hll := Rp.lay_length hr
    rw [if_pos hr, decide_eq_true hr]
    simp only [go_sem, ↓reduceIte, reduceCtorEq, Nat.reduceEqDiff, Nat.reduceLT, Nat.reduceLeDiff, Nat.reduceAdd, Nat.reduceMul, Nat.reduceSub, Nat.reduceBEq, Nat.reduceDiv, Int.reduceNeg, Int.reduceLT, Int.reduceLE, Int.reduceEq, Int.reduceToNat, Int.reduceAdd, Int.reduceSub, Int.reduceMul, Int.reduceBEq, Int.reduceBNe, reduceBEq]
    refine AWPc.step ?_
    simp only [go_sem, ↓reduceIte, reduceCtorEq, Nat.reduceEqDiff, Nat.reduceLT, Nat.reduceLeDiff, Nat.reduceAdd, Nat.reduceMul, Nat.reduceSub, Nat.reduceBEq, Nat.reduceDiv, Int.reduceNeg, Int.reduceLT, Int.reduceLE, Int.reduceEq, Int.reduceToNat, Int.reduceAdd, Int.reduceSub, Int.reduceMul, Int.reduceBEq, Int.reduceBNe, reduceBEq, c6_r14]
    refine AWPc.step ?_
    simp only [go_sem, ↓reduceIte, reduceCtorEq, Nat.reduceEqDiff, Nat.reduceLT, Nat.reduceLeDiff, Nat.reduceAdd, Nat.reduceMul, Nat.reduceSub, Nat.reduceBEq, Nat.reduceDiv, Int.reduceNeg, Int.reduceLT, Int.reduceLE, Int.reduceEq, Int.reduceToNat, Int.reduceAdd, Int.reduceSub, Int.reduceMul, Int.reduceBEq, Int.reduceBNe, reduceBEq, c6_r15, c6_r16]
    refine (refLayRep_spec p hr _).mono fun y' s' hy' => ?_
    obtain ⟨rfl, hs⟩ := hy'
    have hs := hs.symm; subst hs
    simp only [go_sem, ↓reduceIte, reduceCtorEq, Nat.reduceEqDiff, Nat.reduceLT, Nat.reduceLeDiff, Nat.reduceAdd, Nat.reduceMul, Nat.reduceSub, Nat.reduceBEq, Nat.reduceDiv, Int.reduceNeg, Int.reduceLT, Int.reduceLE, Int.reduceEq, Int.reduceToNat, Int.reduceAdd, Int.reduceSub, Int.reduceMul, Int.reduceBEq, Int.reduceBNe, reduceBEq]
    refine AWPc.step ?_
    have e1 := str_eq p.lay p.lay
    have e2 : decide (p.lay = p.lay) = true := by simp
    simp only [go_sem, ↓reduceIte, reduceCtorEq, Nat.reduceEqDiff, Nat.reduceLT, Nat.reduceLeDiff, Nat.reduceAdd, Nat.reduceMul, Nat.reduceSub, Nat.reduceBEq, Nat.reduceDiv, Int.reduceNeg, Int.reduceLT, Int.reduceLE, Int.reduceEq, Int.reduceToNat, Int.reduceAdd, Int.reduceSub, Int.reduceMul, Int.reduceBEq, Int.reduceBNe, reduceBEq, c6_r17, e1, e2, (by decide : ((0 : Int) == 0) = true), (by decide : ((0 : Int) != 1) = true), (by decide : (!(true == true)) = false)]
    refine AWPc.step ?_
    simp only [go_sem, ↓reduceIte, reduceCtorEq, Nat.reduceEqDiff, Nat.reduceLT, Nat.reduceLeDiff, Nat.reduceAdd, Nat.reduceMul, Nat.reduceSub, Nat.reduceBEq, Nat.reduceDiv, Int.reduceNeg, Int.reduceLT, Int.reduceLE, Int.reduceEq, Int.reduceToNat, Int.reduceAdd, Int.reduceSub, Int.reduceMul, Int.reduceBEq, Int.reduceBNe, reduceBEq, c6_r19, encB_length]
    refine (few_list raw hraw _).mono fun y' s' hy' => ?_
    obtain ⟨rfl, hs⟩ := hy'
    have hs := hs.symm; subst hs
    simp only [go_sem, ↓reduceIte, reduceCtorEq, Nat.reduceEqDiff, Nat.reduceLT, Nat.reduceLeDiff, Nat.reduceAdd, Nat.reduceMul, Nat.reduceSub, Nat.reduceBEq, Nat.reduceDiv, Int.reduceNeg, Int.reduceLT, Int.reduceLE, Int.reduceEq, Int.reduceToNat, Int.reduceAdd, Int.reduceSub, Int.reduceMul, Int.reduceBEq, Int.reduceBNe, reduceBEq]
    refine AWPc.weak (σ' := σ.newObj p.avs) (env' := (19, .bool true) :: (23, AV.bytes raw) :: TEnv p.lay how at' m σ.next) (Weak.slots (all_cons rfl (all_cons rfl (all_cons rfl (all_cons rfl (all_cons rfl (all_cons rfl (all_cons rfl all_nil)))))))) ?_
    refine AWPc.cut (α := List UInt8) (fun z => [(17, .ptr σ.next 0), (23, AV.bytes z)]) (fun _ => σ.newObj p.avs) (fun z => z.length < 2 ^ 47) (reps_read true how raw p.lay hraw (fun _ => ⟨by omega, by omega⟩) at' m σ.next σ.next (σ.newObj p.avs) hwf1 (Nat.le_succ _) (Nat.lt_succ_self _) _) fun z hz => ?_
    exact reps_tail p hp hi hpd hid z hz σ hwf
  · rw [if_neg hr, decide_eq_false hr]
    simp only [go_sem, ↓reduceIte, reduceCtorEq, Nat.reduceEqDiff, Nat.reduceLT, Nat.reduceLeDiff, Nat.reduceAdd, Nat.reduceMul, Nat.reduceSub, Nat.reduceBEq, Nat.reduceDiv, Int.reduceNeg, Int.reduceLT, Int.reduceLE, Int.reduceEq, Int.reduceToNat, Int.reduceAdd, Int.reduceSub, Int.reduceMul, Int.reduceBEq, Int.reduceBNe, reduceBEq]
    refine AWPc.step ?_
    simp only [go_sem, ↓reduceIte, reduceCtorEq, Nat.reduceEqDiff, Nat.reduceLT, Nat.reduceLeDiff, Nat.reduceAdd, Nat.reduceMul, Nat.reduceSub, Nat.reduceBEq, Nat.reduceDiv, Int.reduceNeg, Int.reduceLT, Int.reduceLE, Int.reduceEq, Int.reduceToNat, Int.reduceAdd, Int.reduceSub, Int.reduceMul, Int.reduceBEq, Int.reduceBNe, reduceBEq, c6_r14]
    refine AWPc.step ?_
    simp only [go_sem, ↓reduceIte, reduceCtorEq, Nat.reduceEqDiff, Nat.reduceLT, Nat.reduceLeDiff, Nat.reduceAdd, Nat.reduceMul, Nat.reduceSub, Nat.reduceBEq, Nat.reduceDiv, Int.reduceNeg, Int.reduceLT, Int.reduceLE, Int.reduceEq, Int.reduceToNat, Int.reduceAdd, Int.reduceSub, Int.reduceMul, Int.reduceBEq, Int.reduceBNe, reduceBEq, c6_r15]
    refine AWPc.weak (σ' := σ.newObj p.avs) (env' := [(21, .int .i64 1), (20, AV.bytes []), (19, .bool false), (5, .int .i64 how), (22, AV.bytes []), (6, .pv (.lst 1 (intsI at'))), (7, .int .u8 (m.toNat : Int)), (4, AV.bytes raw), (17, .ptr σ.next 0)]) (Weak.none hwf1 (Nat.le_succ _) (by repeat (first | exact Agree.refl _ | refine Agree.newObj ?_ _ | refine Agree.newTok ?_ _ _ _ | refine Agree.killTok ?_ (by first | omega | (simp only [go_sem] <;> omega)) | refine Agree.setObj ?_ (by first | omega | (simp only [go_sem] <;> omega)) _ | refine Agree.dropObj ?_ (by first | omega | (simp only [go_sem] <;> omega)))) (all_cons (.pv _ _ _) (all_cons (.pv _ _ _) (all_cons (.pv _ _ _) (all_cons (.pv _ _ _) (all_cons (LeR.of_le (Le.nil 1) (by simp)) (all_cons (.pv _ _ _) (all_cons (.pv _ _ _) (all_cons (.pv _ _ _) (all_cons (.same (by simp [next_newObj, Env.get])) all_nil)))))))))) ?_
    refine AWPc.step ?_
    have e1 := str_eq [] []
    have e2 : decide (([] : List UInt8) = []) = true := by simp
    simp only [go_sem, ↓reduceIte, reduceCtorEq, Nat.reduceEqDiff, Nat.reduceLT, Nat.reduceLeDiff, Nat.reduceAdd, Nat.reduceMul, Nat.reduceSub, Nat.reduceBEq, Nat.reduceDiv, Int.reduceNeg, Int.reduceLT, Int.reduceLE, Int.reduceEq, Int.reduceToNat, Int.reduceAdd, Int.reduceSub, Int.reduceMul, Int.reduceBEq, Int.reduceBNe, reduceBEq, c6_r17, e1, e2, (by decide : ((1 : Int) == 0) = false), (by decide : ((1 : Int) != 1) = false), (by decide : (!(false == false)) = false)]
    refine AWPc.step ?_
    simp only [go_sem, ↓reduceIte, reduceCtorEq, Nat.reduceEqDiff, Nat.reduceLT, Nat.reduceLeDiff, Nat.reduceAdd, Nat.reduceMul, Nat.reduceSub, Nat.reduceBEq, Nat.reduceDiv, Int.reduceNeg, Int.reduceLT, Int.reduceLE, Int.reduceEq, Int.reduceToNat, Int.reduceAdd, Int.reduceSub, Int.reduceMul, Int.reduceBEq, Int.reduceBNe, reduceBEq, c6_r19, encB_length]
    refine (few_list raw hraw _).mono fun y' s' hy' => ?_
    obtain ⟨rfl, hs⟩ := hy'
    have hs := hs.symm; subst hs
    simp only [go_sem, ↓reduceIte, reduceCtorEq, Nat.reduceEqDiff, Nat.reduceLT, Nat.reduceLeDiff, Nat.reduceAdd, Nat.reduceMul, Nat.reduceSub, Nat.reduceBEq, Nat.reduceDiv, Int.reduceNeg, Int.reduceLT, Int.reduceLE, Int.reduceEq, Int.reduceToNat, Int.reduceAdd, Int.reduceSub, Int.reduceMul, Int.reduceBEq, Int.reduceBNe, reduceBEq]
    refine AWPc.weak (σ' := σ.newObj p.avs) (env' := (19, .bool false) :: (23, AV.bytes raw) :: TEnv [] how at' m σ.next) (Weak.slots (all_cons rfl (all_cons rfl (all_cons rfl (all_cons rfl (all_cons rfl (all_cons rfl (all_cons rfl all_nil)))))))) ?_
    refine AWPc.cut (α := List UInt8) (fun z => [(17, .ptr σ.next 0), (23, AV.bytes z)]) (fun _ => σ.newObj p.avs) (fun z => z.length < 2 ^ 47) (reps_read false how raw [] hraw (fun h => by cases h) at' m σ.next σ.next (σ.newObj p.avs) hwf1 (Nat.le_succ _) (Nat.lt_succ_self _) _) fun z hz => ?_
    exact reps_tail p hp hi hpd hid z hz σ hwf

theorem callReps_spec (code boot : Int) (l : List RawQ) (hl : l.length < 2 ^ 47) (pieces : Int) (raw : List UInt8) (hraw : raw.length < 2 ^ 47) (how : Int) (at' : List Int) (m : UInt8) (σ : Store) :
    ACalls Try.prog 6 [.int .i64 code, .int .i64 boot, .pv (.lst 6 (rowsQ l)), .int .i64 pieces, AV.bytes raw, .int .i64 how, .pv (.lst 1 (intsI at')), .int .u8 (m.toNat : Int)] σ (fun x s => x = .bool true ∧ s = σ) := by
  refine ACalls.of_awpc Try.func6 c6_eq c6_n c6_rs (by simp) fun hwf => ?_
  unfold c6
  refine AWPc.step ?_
  simp only [go_sem, ↓reduceIte, reduceCtorEq, Nat.reduceEqDiff, Nat.reduceLT, Nat.reduceLeDiff, Nat.reduceAdd, Nat.reduceMul, Nat.reduceSub, Nat.reduceBEq, Nat.reduceDiv, Int.reduceNeg, Int.reduceLT, Int.reduceLE, Int.reduceEq, Int.reduceToNat, Int.reduceAdd, Int.reduceSub, Int.reduceMul, Int.reduceBEq, Int.reduceBNe, reduceBEq, c6_r0]
  refine AWPc.step ?_
  simp only [go_sem, ↓reduceIte, reduceCtorEq, Nat.reduceEqDiff, Nat.reduceLT, Nat.reduceLeDiff, Nat.reduceAdd, Nat.reduceMul, Nat.reduceSub, Nat.reduceBEq, Nat.reduceDiv, Int.reduceNeg, Int.reduceLT, Int.reduceLE, Int.reduceEq, Int.reduceToNat, Int.reduceAdd, Int.reduceSub, Int.reduceMul, Int.reduceBEq, Int.reduceBNe, reduceBEq, c6_r1]
  refine (pick_spec code 14 (by omega) _).mono fun y' s' hy' => ?_
  obtain ⟨rfl, hs⟩ := hy'
  have hs := hs.symm; subst hs
  simp only [go_sem, ↓reduceIte, reduceCtorEq, Nat.reduceEqDiff, Nat.reduceLT, Nat.reduceLeDiff, Nat.reduceAdd, Nat.reduceMul, Nat.reduceSub, Nat.reduceBEq, Nat.reduceDiv, Int.reduceNeg, Int.reduceLT, Int.reduceLE, Int.reduceEq, Int.reduceToNat, Int.reduceAdd, Int.reduceSub, Int.reduceMul, Int.reduceBEq, Int.reduceBNe, reduceBEq]
  refine (pick_spec boot 2147483648 (by omega) _).mono fun y' s' hy' => ?_
  obtain ⟨rfl, hs⟩ := hy'
  have hs := hs.symm; subst hs
  simp only [go_sem, ↓reduceIte, reduceCtorEq, Nat.reduceEqDiff, Nat.reduceLT, Nat.reduceLeDiff, Nat.reduceAdd, Nat.reduceMul, Nat.reduceSub, Nat.reduceBEq, Nat.reduceDiv, Int.reduceNeg, Int.reduceLT, Int.reduceLE, Int.reduceEq, Int.reduceToNat, Int.reduceAdd, Int.reduceSub, Int.reduceMul, Int.reduceBEq, Int.reduceBNe, reduceBEq]
  refine AWPc.cut (α := Int × Int) (fun _ => (2, .pv (.lst 6 (rowsQ l))) :: (3, .int .i64 pieces) :: REnv σ.next raw how at' m) (fun a => σ.newObj [.int .i64 a.1, .int .i64 a.2, .nil, .nil]) (fun _ => True) (AWPc.of_arun ?_) fun a _ => ?_
  · by_cases hh : how.tmod 19 = 18
    · have d1 : (how.tmod 19 == 18) = true := by simp [hh]
      simp only [go_sem, ↓reduceIte, reduceCtorEq, Nat.reduceEqDiff, Nat.reduceLT, Nat.reduceLeDiff, Nat.reduceAdd, Nat.reduceMul, Nat.reduceSub, Nat.reduceBEq, Nat.reduceDiv, Int.reduceNeg, Int.reduceLT, Int.reduceLE, Int.reduceEq, Int.reduceToNat, Int.reduceAdd, Int.reduceSub, Int.reduceMul, Int.reduceBEq, Int.reduceBNe, reduceBEq, c6_r2, d1, c6_r3, c6_r4]
      exact ⟨(code, boot), Weak.slots (all_cons rfl (all_cons rfl (all_cons rfl (all_cons rfl (all_cons rfl (all_cons rfl (all_cons rfl all_nil)))))))⟩
    · have d1 : (how.tmod 19 == 18) = false := by simp [hh]
      simp only [go_sem, ↓reduceIte, reduceCtorEq, Nat.reduceEqDiff, Nat.reduceLT, Nat.reduceLeDiff, Nat.reduceAdd, Nat.reduceMul, Nat.reduceSub, Nat.reduceBEq, Nat.reduceDiv, Int.reduceNeg, Int.reduceLT, Int.reduceLE, Int.reduceEq, Int.reduceToNat, Int.reduceAdd, Int.reduceSub, Int.reduceMul, Int.reduceBEq, Int.reduceBNe, reduceBEq, c6_r2, d1]
      exact ⟨(pick code 14, pick boot 2147483648), Weak.slots (all_cons rfl (all_cons rfl (all_cons rfl (all_cons rfl (all_cons rfl (all_cons rfl (all_cons rfl all_nil)))))))⟩
  refine AWPc.step ?_
  simp only [go_sem, ↓reduceIte, reduceCtorEq, Nat.reduceEqDiff, Nat.reduceLT, Nat.reduceLeDiff, Nat.reduceAdd, Nat.reduceMul, Nat.reduceSub, Nat.reduceBEq, Nat.reduceDiv, Int.reduceNeg, Int.reduceLT, Int.reduceLE, Int.reduceEq, Int.reduceToNat, Int.reduceAdd, Int.reduceSub, Int.reduceMul, Int.reduceBEq, Int.reduceBNe, reduceBEq, c6_r5]
  refine (pick_spec pieces 4 (by omega) _).mono fun y' s' hy' => ?_
  obtain ⟨rfl, hs⟩ := hy'
  have hs := hs.symm; subst hs
  simp only [go_sem, ↓reduceIte, reduceCtorEq, Nat.reduceEqDiff, Nat.reduceLT, Nat.reduceLeDiff, Nat.reduceAdd, Nat.reduceMul, Nat.reduceSub, Nat.reduceBEq, Nat.reduceDiv, Int.reduceNeg, Int.reduceLT, Int.reduceLE, Int.reduceEq, Int.reduceToNat, Int.reduceAdd, Int.reduceSub, Int.reduceMul, Int.reduceBEq, Int.reduceBNe, reduceBEq]
  exact AWPc.weak (Weak.slots (all_cons rfl (all_cons rfl (all_cons rfl (all_cons rfl (all_cons rfl (all_cons rfl (all_cons rfl all_nil)))))))) (reps_loop a.1 a.2 (pick pieces 4) l hl raw how at' m σ hwf _ fun p hp hi hpd hid => reps_rest p hp hi hpd hid raw hraw how at' m σ hwf)

theorem rowsQ_of : ∀ (xs : List (List PV)), (∀ x ∈ xs, FitAll [.int .i64, .int .i64, .int .i64, .int .i64, .int .i64, .int .i64] x) → ∃ l : List RawQ, xs = rowsQ l
  | [], _ => ⟨[], rfl⟩
  | x :: xs, h => by
    obtain ⟨l, rfl⟩ := rowsQ_of xs fun y hy => h y (List.mem_cons_of_mem _ hy)
    obtain ⟨p1, r1, rfl, h1, k⟩ := (h x List.mem_cons_self).cons
    obtain ⟨p2, r2, rfl, h2, k⟩ := k.cons
    obtain ⟨p3, r3, rfl, h3, k⟩ := k.cons
    obtain ⟨p4, r4, rfl, h4, k⟩ := k.cons
    obtain ⟨p5, r5, rfl, h5, k⟩ := k.cons
    obtain ⟨p6, r6, rfl, h6, k⟩ := k.cons
    obtain rfl := k.nil
    obtain ⟨n1, rfl, _⟩ := h1.int_inv
    obtain ⟨n2, rfl, _⟩ := h2.int_inv
    obtain ⟨n3, rfl, _⟩ := h3.int_inv
    obtain ⟨n4, rfl, _⟩ := h4.int_inv
    obtain ⟨n5, rfl, _⟩ := h5.int_inv
    obtain ⟨n6, rfl, _⟩ := h6.int_inv
    exact ⟨⟨n1, n2, n3, n4, n5, n6⟩ :: l, rfl⟩
theorem CallReps_args (code : Int) (_ : (Lit.int .i64 code).wf = true) (boot : Int) (_ : (Lit.int .i64 boot).wf = true) (xs : List (List PV)) (fx : Fit (.sl [.int .i64, .int .i64, .int .i64, .int .i64, .int .i64, .int .i64]) (.lst 6 xs)) (hx : xs.length * 48 ≤ 140737488351232)
    (pieces : Int) (_ : (Lit.int .i64 pieces).wf = true) (raw : List (List PV)) (fr : Fit (.sl [.int .u8]) (.lst 1 raw)) (hr : raw.length * 1 ≤ 140737488351232) (how : Int) (_ : (Lit.int .i64 how).wf = true)
    (at' : List (List PV)) (fa : Fit (.sl [.int .i64]) (.lst 1 at')) (_ : at'.length * 8 ≤ 140737488351232) (m : Int) (hm : (Lit.int .u8 m).wf = true) :
    ACalls Try.prog 6 [.int .i64 code, .int .i64 boot, .pv (.lst 6 xs), .int .i64 pieces, .pv (.lst 1 raw), .int .i64 how, .pv (.lst 1 at'), .int .u8 m] store0 (fun x s => x = .bool true ∧ s = store0) := by
  obtain ⟨l, rfl⟩ := rowsQ_of xs fx.rows
  obtain ⟨r, rfl⟩ := fr.bytes
  obtain ⟨al, rfl, _⟩ := fa.ints
  rw [encB_length] at hr
  rw [rowsQ_length] at hx
  have hm' := wf_u8 hm
  have em : m = ((UInt8.ofNat m.toNat).toNat : Int) := by simp; omega
  rw [em]
  exact callReps_spec code boot l (by omega) pieces r (by omega) how al (UInt8.ofNat m.toNat) store0
end Go.Proofs.Ytnanpamfdjnomaa
