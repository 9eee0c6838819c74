/- call: CallReqs. -/
import Derived.Test.YtnanpamfdjnomaaCallG
namespace Go.Proofs.Ytnanpamfdjnomaa
open Go Go.RowKit Go.Proofs.Ytnanpamfdjnomaa.AL
set_option maxRecDepth 100000
set_option linter.unusedSimpArgs false

theorem reqs_tail (z : List UInt8) (hz : z.length < 2 ^ 47) (σ : Store) (hwf : σ.Wf) : AWPc Try.prog 119 σ.next (.seq (.reg c3_r16) (.seq (.reg c3_r17) (.seq (.reg c3_r18) .ret))) [(16, AV.bytes z)] σ
    (fun e env' σ' => (e = Exit.normal ∨ e = Exit.ret) ∧ ∃ y y' σ'', env'.get 10 = y ∧ WeakV σ.next y σ' y' σ'' ∧ y' = AV.bool true ∧ σ'' = σ) := by
  refine AWPc.step ?_
  simp only [go_sem, ↓reduceIte, reduceCtorEq, Nat.reduceEqDiff, Nat.reduceLT, Nat.reduceLeDiff, Nat.reduceAdd, Nat.reduceMul, Nat.reduceSub, Nat.reduceBEq, Nat.reduceDiv, Int.reduceNeg, Int.reduceLT, Int.reduceLE, Int.reduceEq, Int.reduceToNat, Int.reduceAdd, Int.reduceSub, Int.reduceMul, Int.reduceBEq, Int.reduceBNe, reduceBEq, c3_r16]
  refine (readReq_spec z hz _).mono fun y s' hy => ?_
  obtain ⟨rfl, hs⟩ := hy
  have hs := hs.symm; subst hs
  by_cases ho : okRead z
  · rw [if_pos ho]
    simp only [go_sem, ↓reduceIte, reduceCtorEq, Nat.reduceEqDiff, Nat.reduceLT, Nat.reduceLeDiff, Nat.reduceAdd, Nat.reduceMul, Nat.reduceSub, Nat.reduceBEq, Nat.reduceDiv, Int.reduceNeg, Int.reduceLT, Int.reduceLE, Int.reduceEq, Int.reduceToNat, Int.reduceAdd, Int.reduceSub, Int.reduceMul, Int.reduceBEq, Int.reduceBNe, reduceBEq]
    refine AWPc.step ?_
    simp only [go_sem, ↓reduceIte, reduceCtorEq, Nat.reduceEqDiff, Nat.reduceLT, Nat.reduceLeDiff, Nat.reduceAdd, Nat.reduceMul, Nat.reduceSub, Nat.reduceBEq, Nat.reduceDiv, Int.reduceNeg, Int.reduceLT, Int.reduceLE, Int.reduceEq, Int.reduceToNat, Int.reduceAdd, Int.reduceSub, Int.reduceMul, Int.reduceBEq, Int.reduceBNe, reduceBEq, c3_r17]
    refine (refReadReq_spec z hz _).mono fun y s' hy => ?_
    rw [if_pos ho] at hy
    obtain ⟨rfl, hs⟩ := hy
    have hs := hs.symm; subst hs
    simp only [go_sem, ↓reduceIte, reduceCtorEq, Nat.reduceEqDiff, Nat.reduceLT, Nat.reduceLeDiff, Nat.reduceAdd, Nat.reduceMul, Nat.reduceSub, Nat.reduceBEq, Nat.reduceDiv, Int.reduceNeg, Int.reduceLT, Int.reduceLE, Int.reduceEq, Int.reduceToNat, Int.reduceAdd, Int.reduceSub, Int.reduceMul, Int.reduceBEq, Int.reduceBNe, reduceBEq]
    refine AWPc.of_arun ?_
    simp only [go_sem, ↓reduceIte, reduceCtorEq, Nat.reduceEqDiff, Nat.reduceLT, Nat.reduceLeDiff, Nat.reduceAdd, Nat.reduceMul, Nat.reduceSub, Nat.reduceBEq, Nat.reduceDiv, Int.reduceNeg, Int.reduceLT, Int.reduceLE, Int.reduceEq, Int.reduceToNat, Int.reduceAdd, Int.reduceSub, Int.reduceMul, Int.reduceBEq, Int.reduceBNe, reduceBEq, c3_r18]
    refine (known_spec _).mono fun y s' hy => ?_
    obtain ⟨rfl, hs⟩ := hy
    have hs := hs.symm; subst hs
    simp only [go_sem, ↓reduceIte, reduceCtorEq, Nat.reduceEqDiff, Nat.reduceLT, Nat.reduceLeDiff, Nat.reduceAdd, Nat.reduceMul, Nat.reduceSub, Nat.reduceBEq, Nat.reduceDiv, Int.reduceNeg, Int.reduceLT, Int.reduceLE, Int.reduceEq, Int.reduceToNat, Int.reduceAdd, Int.reduceSub, Int.reduceMul, Int.reduceBEq, Int.reduceBNe, reduceBEq]
    refine (sameReq_spec (readC z) (readC z) _).mono fun y s' hy => ?_
    obtain ⟨rfl, hs⟩ := hy
    have hs := hs.symm; subst hs
    have e1 : decide (readC z = readC z) = true := by simp
    simp only [go_sem, ↓reduceIte, reduceCtorEq, Nat.reduceEqDiff, Nat.reduceLT, Nat.reduceLeDiff, Nat.reduceAdd, Nat.reduceMul, Nat.reduceSub, Nat.reduceBEq, Nat.reduceDiv, Int.reduceNeg, Int.reduceLT, Int.reduceLE, Int.reduceEq, Int.reduceToNat, Int.reduceAdd, Int.reduceSub, Int.reduceMul, Int.reduceBEq, Int.reduceBNe, reduceBEq, e1, (by decide : ((0 : Int) == 0) = true), (by decide : (true == true) = true)]
    exact ⟨_, _, _, rfl, WeakV.none hwf (by repeat (first | exact Agree.refl _ | refine Agree.newObj ?_ _ | refine Agree.newTok ?_ _ _ _ | refine Agree.killTok ?_ (by first | omega | (simp only [go_sem] <;> omega)) | refine Agree.setObj ?_ (by first | omega | (simp only [go_sem] <;> omega)) _ | refine Agree.dropObj ?_ (by first | omega | (simp only [go_sem] <;> omega)))) (.pv _ _ _), rfl, rfl⟩
  · rw [if_neg ho]
    simp only [go_sem, ↓reduceIte, reduceCtorEq, Nat.reduceEqDiff, Nat.reduceLT, Nat.reduceLeDiff, Nat.reduceAdd, Nat.reduceMul, Nat.reduceSub, Nat.reduceBEq, Nat.reduceDiv, Int.reduceNeg, Int.reduceLT, Int.reduceLE, Int.reduceEq, Int.reduceToNat, Int.reduceAdd, Int.reduceSub, Int.reduceMul, Int.reduceBEq, Int.reduceBNe, reduceBEq]
    refine AWPc.step ?_
    simp only [go_sem, ↓reduceIte, reduceCtorEq, Nat.reduceEqDiff, Nat.reduceLT, Nat.reduceLeDiff, Nat.reduceAdd, Nat.reduceMul, Nat.reduceSub, Nat.reduceBEq, Nat.reduceDiv, Int.reduceNeg, Int.reduceLT, Int.reduceLE, Int.reduceEq, Int.reduceToNat, Int.reduceAdd, Int.reduceSub, Int.reduceMul, Int.reduceBEq, Int.reduceBNe, reduceBEq, c3_r17]
    refine (refReadReq_spec z hz _).mono fun y s' hy => ?_
    rw [if_neg ho] at hy
    obtain ⟨rfl, hs⟩ := hy
    have hs := hs.symm; subst hs
    simp only [go_sem, ↓reduceIte, reduceCtorEq, Nat.reduceEqDiff, Nat.reduceLT, Nat.reduceLeDiff, Nat.reduceAdd, Nat.reduceMul, Nat.reduceSub, Nat.reduceBEq, Nat.reduceDiv, Int.reduceNeg, Int.reduceLT, Int.reduceLE, Int.reduceEq, Int.reduceToNat, Int.reduceAdd, Int.reduceSub, Int.reduceMul, Int.reduceBEq, Int.reduceBNe, reduceBEq]
    refine AWPc.of_arun ?_
    simp only [go_sem, ↓reduceIte, reduceCtorEq, Nat.reduceEqDiff, Nat.reduceLT, Nat.reduceLeDiff, Nat.reduceAdd, Nat.reduceMul, Nat.reduceSub, Nat.reduceBEq, Nat.reduceDiv, Int.reduceNeg, Int.reduceLT, Int.reduceLE, Int.reduceEq, Int.reduceToNat, Int.reduceAdd, Int.reduceSub, Int.reduceMul, Int.reduceBEq, Int.reduceBNe, reduceBEq, c3_r18]
    refine (known_spec _).mono fun y s' hy => ?_
    obtain ⟨rfl, hs⟩ := hy
    have hs := hs.symm; subst hs
    simp only [go_sem, ↓reduceIte, reduceCtorEq, Nat.reduceEqDiff, Nat.reduceLT, Nat.reduceLeDiff, Nat.reduceAdd, Nat.reduceMul, Nat.reduceSub, Nat.reduceBEq, Nat.reduceDiv, Int.reduceNeg, Int.reduceLT, Int.reduceLE, Int.reduceEq, Int.reduceToNat, Int.reduceAdd, Int.reduceSub, Int.reduceMul, Int.reduceBEq, Int.reduceBNe, reduceBEq]
    refine (sameReq_spec zq zq _).mono fun y s' hy => ?_
    obtain ⟨rfl, hs⟩ := hy
    have hs := hs.symm; subst hs
    have e1 : decide (zq = zq) = true := by simp
    simp only [go_sem, ↓reduceIte, reduceCtorEq, Nat.reduceEqDiff, Nat.reduceLT, Nat.reduceLeDiff, Nat.reduceAdd, Nat.reduceMul, Nat.reduceSub, Nat.reduceBEq, Nat.reduceDiv, Int.reduceNeg, Int.reduceLT, Int.reduceLE, Int.reduceEq, Int.reduceToNat, Int.reduceAdd, Int.reduceSub, Int.reduceMul, Int.reduceBEq, Int.reduceBNe, reduceBEq, e1, (by decide : ((2 : Int) == 0) = false), (by decide : ((2 : Int) == 2) = true), (by decide : (false == false) = true)]
    exact ⟨_, _, _, rfl, WeakV.none hwf (by repeat (first | exact Agree.refl _ | refine Agree.newObj ?_ _ | refine Agree.newTok ?_ _ _ _ | refine Agree.killTok ?_ (by first | omega | (simp only [go_sem] <;> omega)) | refine Agree.setObj ?_ (by first | omega | (simp only [go_sem] <;> omega)) _ | refine Agree.dropObj ?_ (by first | omega | (simp only [go_sem] <;> omega)))) (.pv _ _ _), rfl, rfl⟩

abbrev intsI (l : List Int) : List (List PV) := l.map fun n => [PV.val (.int .i64 n)]
theorem intsI_get {l : List Int} {i : Nat} (h : i < l.length) : (intsI l).getD i [] = [.val (.int .i64 l[i])] := by simp [intsI, List.getD_eq_getElem?_getD, h]
theorem intsI_length (l : List Int) : (intsI l).length = l.length := by simp [intsI]

/-- Some bytes turned: what is left in z is a list of as many bytes. -/
theorem reqs_turn (w : List UInt8) (h0 : 0 < w.length) (hw : w.length < 2 ^ 40) (at' : List Int) (m : UInt8) (σ : Store) (hwf : σ.Wf) (R : Exit → Env → Store → Prop) :
    AWPc Try.prog 119 σ.next (.seq (.reg c3_r11) (.seq (.reg c3_r12) (.block 0 (.loop c3_l0)))) [(15, AV.bytes w), (3, .pv (.lst 1 (intsI at'))), (4, .int .u8 (m.toNat : Int))] σ
      (thenA (fun env' σ' => ∃ z : List UInt8, z.length < 2 ^ 47 ∧ Weak 119 σ.next env' σ' [(16, AV.bytes z)] σ) R) := by
  refine AWPc.step ?_
  simp only [go_sem, ↓reduceIte, reduceCtorEq, Nat.reduceEqDiff, Nat.reduceLT, Nat.reduceLeDiff, Nat.reduceAdd, Nat.reduceMul, Nat.reduceSub, Nat.reduceBEq, Nat.reduceDiv, Int.reduceNeg, Int.reduceLT, Int.reduceLE, Int.reduceEq, Int.reduceToNat, Int.reduceAdd, Int.reduceSub, Int.reduceMul, Int.reduceBEq, Int.reduceBNe, reduceBEq, c3_r11, encB_length]
  refine (few_obj w h0 (by omega) _).mono fun y s' hy => ?_
  obtain ⟨z, hm, rfl, rfl⟩ := hy
  simp only [go_sem, ↓reduceIte, reduceCtorEq, Nat.reduceEqDiff, Nat.reduceLT, Nat.reduceLeDiff, Nat.reduceAdd, Nat.reduceMul, Nat.reduceSub, Nat.reduceBEq, Nat.reduceDiv, Int.reduceNeg, Int.reduceLT, Int.reduceLE, Int.reduceEq, Int.reduceToNat, Int.reduceAdd, Int.reduceSub, Int.reduceMul, Int.reduceBEq, Int.reduceBNe, reduceBEq]
  refine AWPc.step ?_
  simp only [go_sem, ↓reduceIte, reduceCtorEq, Nat.reduceEqDiff, Nat.reduceLT, Nat.reduceLeDiff, Nat.reduceAdd, Nat.reduceMul, Nat.reduceSub, Nat.reduceBEq, Nat.reduceDiv, Int.reduceNeg, Int.reduceLT, Int.reduceLE, Int.reduceEq, Int.reduceToNat, Int.reduceAdd, Int.reduceSub, Int.reduceMul, Int.reduceBEq, Int.reduceBNe, reduceBEq, c3_r12]
  refine AWPc.block (AWPc.loop (α := Nat × List UInt8) (fun a => [(3, .pv (.lst 1 (intsI at'))), (4, .int .u8 (m.toNat : Int)), (16, .sl σ.next 0 w.length (w.length + z.length)), (17, .int .i64 a.1)]) (fun a => σ.newObj (objB (a.2 ++ z))) (fun a => a.1 ≤ 2 ∧ a.2.length = w.length) (fun a => 2 - a.1) ⟨(0, w), ⟨by omega, rfl⟩, Weak.slots (all_cons rfl (all_cons rfl (all_cons rfl (all_cons rfl all_nil))))⟩ ?_)
  rintro ⟨i, l⟩ ⟨hi, hl⟩
  dsimp only at hi hl
  have fin : ∃ z', z'.length < 2 ^ 47 ∧ Weak 119 σ.next [(3, .pv (.lst 1 (intsI at'))), (4, .int .u8 (m.toNat : Int)), (16, .sl σ.next 0 w.length (w.length + z.length)), (17, .int .i64 i)] (σ.newObj (objB (l ++ z))) [(16, AV.bytes z')] σ := by
    refine ⟨l, by omega, Weak.trans (Weak.settle 16 (n := σ.next) (off := 0) (len := w.length) (cap := w.length + z.length) (ps := psB (l ++ z)) rfl (by simp only [go_sem, ↓reduceIte, reduceCtorEq, Nat.reduceEqDiff, Nat.reduceLT, Nat.reduceLeDiff, Nat.reduceAdd, Nat.reduceMul, Nat.reduceSub, Nat.reduceBEq, Nat.reduceDiv, Int.reduceNeg, Int.reduceLT, Int.reduceLE, Int.reduceEq, Int.reduceToNat, Int.reduceAdd, Int.reduceSub, Int.reduceMul, Int.reduceBEq, Int.reduceBNe, reduceBEq, objB]) (psB_one _) (by simp only [psB, List.length_map, List.length_append]; omega) (by omega)) (Weak.none hwf (Nat.le_refl _) (by repeat (first | exact Agree.refl _ | refine Agree.newObj ?_ _ | refine Agree.newTok ?_ _ _ _ | refine Agree.killTok ?_ (by first | omega | (simp only [go_sem] <;> omega)) | refine Agree.setObj ?_ (by first | omega | (simp only [go_sem] <;> omega)) _ | refine Agree.dropObj ?_ (by first | omega | (simp only [go_sem] <;> omega)))) (all_cons (.list' (es := 1) rfl ?_) all_nil))⟩
    rw [List.drop_zero, psB_encB_take, ← hl, List.take_left]
  by_cases h1 : i < at'.length
  · have d1 : decide ((i : Int) < at'.length) = true := decide_eq_true (by omega)
    by_cases h2 : i < 2
    · have d2 : decide ((i : Int) < 2) = true := decide_eq_true (by omega)
      obtain ⟨k, ek, hk⟩ := pick_nat at'[i] w.length h0 (by omega)
      have hkl : k < (l ++ z).length := by simp; omega
      simp only [go_sem, ↓reduceIte, reduceCtorEq, Nat.reduceEqDiff, Nat.reduceLT, Nat.reduceLeDiff, Nat.reduceAdd, Nat.reduceMul, Nat.reduceSub, Nat.reduceBEq, Nat.reduceDiv, Int.reduceNeg, Int.reduceLT, Int.reduceLE, Int.reduceEq, Int.reduceToNat, Int.reduceAdd, Int.reduceSub, Int.reduceMul, Int.reduceBEq, Int.reduceBNe, reduceBEq, c3_l0, c3_r13, d1, d2, intsI_length]
      simp only [go_sem, ↓reduceIte, reduceCtorEq, Nat.reduceEqDiff, Nat.reduceLT, Nat.reduceLeDiff, Nat.reduceAdd, Nat.reduceMul, Nat.reduceSub, Nat.reduceBEq, Nat.reduceDiv, Int.reduceNeg, Int.reduceLT, Int.reduceLE, Int.reduceEq, Int.reduceToNat, Int.reduceAdd, Int.reduceSub, Int.reduceMul, Int.reduceBEq, Int.reduceBNe, reduceBEq, c3_r15, intsI_length, intsI_get h1, Int.toNat_natCast]
      refine ⟨by omega, (pick_spec at'[i] w.length (by omega) _).mono fun y s' hy => ?_⟩
      obtain ⟨rfl, hs⟩ := hy
      have hs := hs.symm; subst hs
      have ux : IntKind.u8.wrap ((BitVec.ofInt 8 ((l ++ z)[k].toNat : Int) ^^^ BitVec.ofInt 8 (m.toNat : Int)).toNat : Int) = (((l ++ z)[k] ^^^ m).toNat : Int) := u8_xor _ _
      have hle : k + 1 ≤ (objB (l ++ z)).length := by rw [objB_length]; omega
      simp only [go_sem, ↓reduceIte, reduceCtorEq, Nat.reduceEqDiff, Nat.reduceLT, Nat.reduceLeDiff, Nat.reduceAdd, Nat.reduceMul, Nat.reduceSub, Nat.reduceBEq, Nat.reduceDiv, Int.reduceNeg, Int.reduceLT, Int.reduceLE, Int.reduceEq, Int.reduceToNat, Int.reduceAdd, Int.reduceSub, Int.reduceMul, Int.reduceBEq, Int.reduceBNe, reduceBEq, ek, Int.toNat_natCast, Nat.mul_one, objB_get hkl, if_pos hle, c3_r14]
      refine ⟨by omega, by omega, (i + 1, l.set k ((l ++ z)[k] ^^^ m)), ⟨by dsimp only; omega, by rw [List.length_set]; exact hl⟩, by dsimp only; omega, ?_⟩
      have hst := congrArg σ.newObj ((congrArg (fun v => (objB (l ++ z)).take k ++ [AV.pv (.val (.int .u8 v))] ++ (objB (l ++ z)).drop (k + 1)) ux).trans (objB_set (l ++ z) k hkl ((l ++ z)[k] ^^^ m)))
      rw [List.set_append_left _ _ (by omega)] at hst
      refine Weak.trans (Weak.slots' (env' := [(3, .pv (.lst 1 (intsI at'))), (4, .int .u8 (m.toNat : Int)), (16, .sl σ.next 0 w.length (w.length + z.length)), (17, .int .i64 (IntKind.i64.wrap ((i : Int) + 1)))]) hst (all_cons rfl (all_cons rfl (all_cons rfl (all_cons rfl all_nil))))) ?_
      refine Weak.none (hwf.newObj (objB_lt _ _)) (Nat.le_succ _) (Agree.refl _) ?_
      refine all_cons (.pv _ _ _) (all_cons (.pv _ _ _) (all_cons (.same (by simp [next_newObj, Env.get])) (all_cons (.int _ _ ?_) all_nil)))
      rw [w64 (by omega) (by omega)]; simp
    · have d2 : decide ((i : Int) < 2) = false := decide_eq_false (by omega)
      simp only [go_sem, ↓reduceIte, reduceCtorEq, Nat.reduceEqDiff, Nat.reduceLT, Nat.reduceLeDiff, Nat.reduceAdd, Nat.reduceMul, Nat.reduceSub, Nat.reduceBEq, Nat.reduceDiv, Int.reduceNeg, Int.reduceLT, Int.reduceLE, Int.reduceEq, Int.reduceToNat, Int.reduceAdd, Int.reduceSub, Int.reduceMul, Int.reduceBEq, Int.reduceBNe, reduceBEq, c3_l0, c3_r13, d1, d2, intsI_length]
      obtain ⟨z', h, hw⟩ := fin
      exact ⟨z', h, Weak.trans (Weak.slots (all_cons rfl (all_cons rfl (all_cons rfl (all_cons rfl all_nil))))) hw⟩
  · have d1 : decide ((i : Int) < at'.length) = false := decide_eq_false (by omega)
    simp only [go_sem, ↓reduceIte, reduceCtorEq, Nat.reduceEqDiff, Nat.reduceLT, Nat.reduceLeDiff, Nat.reduceAdd, Nat.reduceMul, Nat.reduceSub, Nat.reduceBEq, Nat.reduceDiv, Int.reduceNeg, Int.reduceLT, Int.reduceLE, Int.reduceEq, Int.reduceToNat, Int.reduceAdd, Int.reduceSub, Int.reduceMul, Int.reduceBEq, Int.reduceBNe, reduceBEq, c3_l0, c3_r13, d1, intsI_length]
    obtain ⟨z', h, hw⟩ := fin
    exact ⟨z', h, Weak.trans (Weak.slots (all_cons rfl (all_cons rfl (all_cons rfl (all_cons rfl all_nil))))) hw⟩

/-- What is read, whatever was asked. -/
theorem reqs_read (b : Bool) (how : Int) (raw w : List UInt8) (hraw : raw.length < 2 ^ 47) (hb : b = true → 0 < w.length ∧ w.length < 2 ^ 40) (at' : List Int) (m : UInt8) (σ : Store) (hwf : σ.Wf) (env : Env)
    (henv : ∀ z ∈ [(12, .bool b), (2, .int .i64 how), (15, AV.bytes w), (3, .pv (.lst 1 (intsI at'))), (4, .int .u8 (m.toNat : Int)), (16, AV.bytes raw)], env.get z.1 = z.2) (R : Exit → Env → Store → Prop) :
    AWPc Try.prog 119 σ.next (.seq (.reg c3_r10) (.cond (.tmp 62) (.seq (.reg c3_r11) (.seq (.reg c3_r12) (.block 0 (.loop c3_l0)))) .skip)) env σ
      (thenA (fun env' σ' => ∃ z : List UInt8, z.length < 2 ^ 47 ∧ Weak 119 σ.next env' σ' [(16, AV.bytes z)] σ) R) := by
  refine AWPc.weak (Weak.slots henv) ?_
  refine AWPc.step ?_
  have fin : ∀ env' : Env, env'.get 16 = AV.bytes raw → ∃ z : List UInt8, z.length < 2 ^ 47 ∧ Weak 119 σ.next env' σ [(16, AV.bytes z)] σ := fun env' h => ⟨raw, hraw, Weak.slots (all_cons h all_nil)⟩
  cases b with
  | false =>
    simp only [go_sem, ↓reduceIte, reduceCtorEq, Nat.reduceEqDiff, Nat.reduceLT, Nat.reduceLeDiff, Nat.reduceAdd, Nat.reduceMul, Nat.reduceSub, Nat.reduceBEq, Nat.reduceDiv, Int.reduceNeg, Int.reduceLT, Int.reduceLE, Int.reduceEq, Int.reduceToNat, Int.reduceAdd, Int.reduceSub, Int.reduceMul, Int.reduceBEq, Int.reduceBNe, reduceBEq, c3_r10]
    refine AWPc.of_arun ?_
    simp only [go_sem, ↓reduceIte, reduceCtorEq, Nat.reduceEqDiff, Nat.reduceLT, Nat.reduceLeDiff, Nat.reduceAdd, Nat.reduceMul, Nat.reduceSub, Nat.reduceBEq, Nat.reduceDiv, Int.reduceNeg, Int.reduceLT, Int.reduceLE, Int.reduceEq, Int.reduceToNat, Int.reduceAdd, Int.reduceSub, Int.reduceMul, Int.reduceBEq, Int.reduceBNe, reduceBEq]
    exact fin _ rfl
  | true =>
    obtain ⟨h1, h2⟩ := hb rfl
    simp only [go_sem, ↓reduceIte, reduceCtorEq, Nat.reduceEqDiff, Nat.reduceLT, Nat.reduceLeDiff, Nat.reduceAdd, Nat.reduceMul, Nat.reduceSub, Nat.reduceBEq, Nat.reduceDiv, Int.reduceNeg, Int.reduceLT, Int.reduceLE, Int.reduceEq, Int.reduceToNat, Int.reduceAdd, Int.reduceSub, Int.reduceMul, Int.reduceBEq, Int.reduceBNe, reduceBEq, c3_r10]
    by_cases hh : how.tmod 4 > 0
    · have d1 : decide (how.tmod 4 > 0) = true := decide_eq_true hh
      refine AWPc.cond true (by simp only [go_sem, ↓reduceIte, reduceCtorEq, Nat.reduceEqDiff, Nat.reduceLT, Nat.reduceLeDiff, Nat.reduceAdd, Nat.reduceMul, Nat.reduceSub, Nat.reduceBEq, Nat.reduceDiv, Int.reduceNeg, Int.reduceLT, Int.reduceLE, Int.reduceEq, Int.reduceToNat, Int.reduceAdd, Int.reduceSub, Int.reduceMul, Int.reduceBEq, Int.reduceBNe, reduceBEq, d1]) ?_
      exact AWPc.weak (Weak.slots (all_cons rfl (all_cons rfl (all_cons rfl all_nil)))) (reqs_turn w h1 h2 at' m σ hwf R)
    · have d1 : decide (how.tmod 4 > 0) = false := decide_eq_false hh
      refine AWPc.of_arun ?_
      simp only [go_sem, ↓reduceIte, reduceCtorEq, Nat.reduceEqDiff, Nat.reduceLT, Nat.reduceLeDiff, Nat.reduceAdd, Nat.reduceMul, Nat.reduceSub, Nat.reduceBEq, Nat.reduceDiv, Int.reduceNeg, Int.reduceLT, Int.reduceLE, Int.reduceEq, Int.reduceToNat, Int.reduceAdd, Int.reduceSub, Int.reduceMul, Int.reduceBEq, Int.reduceBNe, reduceBEq, d1]
      exact fin _ rfl

theorem callReqs_spec (x : RawQ) (hx : x.ok) (raw : List UInt8) (hraw : raw.length < 2 ^ 47) (how : Int) (at' : List Int) (m : UInt8) (σ : Store) :
    ACalls Try.prog 3 [.agg x.cells, AV.bytes raw, .int .i64 how, .pv (.lst 1 (intsI at')), .int .u8 (m.toNat : Int)] σ (fun x s => x = .bool true ∧ s = σ) := by
  refine ACalls.of_awpc Try.func3 c3_eq c3_n c3_rs (by simp) fun hwf => ?_
  unfold c3
  refine AWPc.step ?_
  simp only [go_sem, ↓reduceIte, reduceCtorEq, Nat.reduceEqDiff, Nat.reduceLT, Nat.reduceLeDiff, Nat.reduceAdd, Nat.reduceMul, Nat.reduceSub, Nat.reduceBEq, Nat.reduceDiv, Int.reduceNeg, Int.reduceLT, Int.reduceLE, Int.reduceEq, Int.reduceToNat, Int.reduceAdd, Int.reduceSub, Int.reduceMul, Int.reduceBEq, Int.reduceBNe, reduceBEq, c3_r0]
  refine AWPc.step ?_
  simp only [go_sem, ↓reduceIte, reduceCtorEq, Nat.reduceEqDiff, Nat.reduceLT, Nat.reduceLeDiff, Nat.reduceAdd, Nat.reduceMul, Nat.reduceSub, Nat.reduceBEq, Nat.reduceDiv, Int.reduceNeg, Int.reduceLT, Int.reduceLE, Int.reduceEq, Int.reduceToNat, Int.reduceAdd, Int.reduceSub, Int.reduceMul, Int.reduceBEq, Int.reduceBNe, reduceBEq, c3_r1]
  refine (req_spec x hx _).mono fun y' s' hy' => ?_
  obtain ⟨⟨q, hqf, rfl⟩, hs⟩ := hy'
  have hs := hs.symm; subst hs
  simp only [go_sem, ↓reduceIte, reduceCtorEq, Nat.reduceEqDiff, Nat.reduceLT, Nat.reduceLeDiff, Nat.reduceAdd, Nat.reduceMul, Nat.reduceSub, Nat.reduceBEq, Nat.reduceDiv, Int.reduceNeg, Int.reduceLT, Int.reduceLE, Int.reduceEq, Int.reduceToNat, Int.reduceAdd, Int.reduceSub, Int.reduceMul, Int.reduceBEq, Int.reduceBNe, reduceBEq]
  refine AWPc.step ?_
  simp only [go_sem, ↓reduceIte, reduceCtorEq, Nat.reduceEqDiff, Nat.reduceLT, Nat.reduceLeDiff, Nat.reduceAdd, Nat.reduceMul, Nat.reduceSub, Nat.reduceBEq, Nat.reduceDiv, Int.reduceNeg, Int.reduceLT, Int.reduceLE, Int.reduceEq, Int.reduceToNat, Int.reduceAdd, Int.reduceSub, Int.reduceMul, Int.reduceBEq, Int.reduceBNe, reduceBEq, c3_r2]
  refine (rightReq_spec q _).mono fun y' s' hy' => ?_
  obtain ⟨rfl, hs⟩ := hy'
  have hs := hs.symm; subst hs
  simp only [go_sem, ↓reduceIte, reduceCtorEq, Nat.reduceEqDiff, Nat.reduceLT, Nat.reduceLeDiff, Nat.reduceAdd, Nat.reduceMul, Nat.reduceSub, Nat.reduceBEq, Nat.reduceDiv, Int.reduceNeg, Int.reduceLT, Int.reduceLE, Int.reduceEq, Int.reduceToNat, Int.reduceAdd, Int.reduceSub, Int.reduceMul, Int.reduceBEq, Int.reduceBNe, reduceBEq]
  refine AWPc.step ?_
  simp only [go_sem, ↓reduceIte, reduceCtorEq, Nat.reduceEqDiff, Nat.reduceLT, Nat.reduceLeDiff, Nat.reduceAdd, Nat.reduceMul, Nat.reduceSub, Nat.reduceBEq, Nat.reduceDiv, Int.reduceNeg, Int.reduceLT, Int.reduceLE, Int.reduceEq, Int.reduceToNat, Int.reduceAdd, Int.reduceSub, Int.reduceMul, Int.reduceBEq, Int.reduceBNe, reduceBEq, c3_r3]
  refine (layReq_spec q (by have := hqf.2.2.2.2; omega) _).mono fun y' s' hy' => ?_
  obtain ⟨rfl, hs⟩ := hy'
  have hs := hs.symm; subst hs
  have hll := q.lay_length
  have hd5 := hqf.2.2.2.2
  by_cases hr : q.right
  · rw [if_pos hr, decide_eq_true hr]
    simp only [go_sem, ↓reduceIte, reduceCtorEq, Nat.reduceEqDiff, Nat.reduceLT, Nat.reduceLeDiff, Nat.reduceAdd, Nat.reduceMul, Nat.reduceSub, Nat.reduceBEq, Nat.reduceDiv, Int.reduceNeg, Int.reduceLT, Int.reduceLE, Int.reduceEq, Int.reduceToNat, Int.reduceAdd, Int.reduceSub, Int.reduceMul, Int.reduceBEq, Int.reduceBNe, reduceBEq]
    refine AWPc.step ?_
    simp only [go_sem, ↓reduceIte, reduceCtorEq, Nat.reduceEqDiff, Nat.reduceLT, Nat.reduceLeDiff, Nat.reduceAdd, Nat.reduceMul, Nat.reduceSub, Nat.reduceBEq, Nat.reduceDiv, Int.reduceNeg, Int.reduceLT, Int.reduceLE, Int.reduceEq, Int.reduceToNat, Int.reduceAdd, Int.reduceSub, Int.reduceMul, Int.reduceBEq, Int.reduceBNe, reduceBEq, c3_r4]
    refine AWPc.step ?_
    simp only [go_sem, ↓reduceIte, reduceCtorEq, Nat.reduceEqDiff, Nat.reduceLT, Nat.reduceLeDiff, Nat.reduceAdd, Nat.reduceMul, Nat.reduceSub, Nat.reduceBEq, Nat.reduceDiv, Int.reduceNeg, Int.reduceLT, Int.reduceLE, Int.reduceEq, Int.reduceToNat, Int.reduceAdd, Int.reduceSub, Int.reduceMul, Int.reduceBEq, Int.reduceBNe, reduceBEq, c3_r5, c3_r6]
    refine (refLayReq_spec q hr _).mono fun y' s' hy' => ?_
    obtain ⟨rfl, hs⟩ := hy'
    have hs := hs.symm; subst hs
    simp only [go_sem, ↓reduceIte, reduceCtorEq, Nat.reduceEqDiff, Nat.reduceLT, Nat.reduceLeDiff, Nat.reduceAdd, Nat.reduceMul, Nat.reduceSub, Nat.reduceBEq, Nat.reduceDiv, Int.reduceNeg, Int.reduceLT, Int.reduceLE, Int.reduceEq, Int.reduceToNat, Int.reduceAdd, Int.reduceSub, Int.reduceMul, Int.reduceBEq, Int.reduceBNe, reduceBEq]
    refine AWPc.step ?_
    have e1 := str_eq q.lay q.lay
    have e2 : decide (q.lay = q.lay) = true := by simp
    simp only [go_sem, ↓reduceIte, reduceCtorEq, Nat.reduceEqDiff, Nat.reduceLT, Nat.reduceLeDiff, Nat.reduceAdd, Nat.reduceMul, Nat.reduceSub, Nat.reduceBEq, Nat.reduceDiv, Int.reduceNeg, Int.reduceLT, Int.reduceLE, Int.reduceEq, Int.reduceToNat, Int.reduceAdd, Int.reduceSub, Int.reduceMul, Int.reduceBEq, Int.reduceBNe, reduceBEq, c3_r7, e1, e2, (by decide : ((0 : Int) == 0) = true), (by decide : ((0 : Int) != 1) = true), (by decide : (!(true == true)) = false)]
    refine AWPc.step ?_
    simp only [go_sem, ↓reduceIte, reduceCtorEq, Nat.reduceEqDiff, Nat.reduceLT, Nat.reduceLeDiff, Nat.reduceAdd, Nat.reduceMul, Nat.reduceSub, Nat.reduceBEq, Nat.reduceDiv, Int.reduceNeg, Int.reduceLT, Int.reduceLE, Int.reduceEq, Int.reduceToNat, Int.reduceAdd, Int.reduceSub, Int.reduceMul, Int.reduceBEq, Int.reduceBNe, reduceBEq, c3_r9, encB_length]
    refine (few_list raw hraw _).mono fun y' s' hy' => ?_
    obtain ⟨rfl, hs⟩ := hy'
    have hs := hs.symm; subst hs
    simp only [go_sem, ↓reduceIte, reduceCtorEq, Nat.reduceEqDiff, Nat.reduceLT, Nat.reduceLeDiff, Nat.reduceAdd, Nat.reduceMul, Nat.reduceSub, Nat.reduceBEq, Nat.reduceDiv, Int.reduceNeg, Int.reduceLT, Int.reduceLE, Int.reduceEq, Int.reduceToNat, Int.reduceAdd, Int.reduceSub, Int.reduceMul, Int.reduceBEq, Int.reduceBNe, reduceBEq]
    refine AWPc.weak (σ' := σ) (env' := [(12, .bool true), (2, .int .i64 how), (15, AV.bytes q.lay), (3, .pv (.lst 1 (intsI at'))), (4, .int .u8 (m.toNat : Int)), (16, AV.bytes raw)]) (Weak.none hwf (Nat.le_refl _) (by repeat (first | exact Agree.refl _ | refine Agree.newObj ?_ _ | refine Agree.newTok ?_ _ _ _ | refine Agree.killTok ?_ (by first | omega | (simp only [go_sem] <;> omega)) | refine Agree.setObj ?_ (by first | omega | (simp only [go_sem] <;> omega)) _ | refine Agree.dropObj ?_ (by first | omega | (simp only [go_sem] <;> omega)))) (all_cons (.pv _ _ _) (all_cons (.pv _ _ _) (all_cons (.pv _ _ _) (all_cons (.pv _ _ _) (all_cons (.pv _ _ _) (all_cons (.pv _ _ _) all_nil))))))) ?_
    refine AWPc.cut (α := List UInt8) (fun z => [(16, AV.bytes z)]) (fun _ => σ) (fun z => z.length < 2 ^ 47) (reqs_read true how raw q.lay hraw (fun _ => ⟨by omega, by omega⟩) at' m σ hwf _ (all_cons rfl (all_cons rfl (all_cons rfl (all_cons rfl (all_cons rfl (all_cons rfl all_nil)))))) _) fun z hz => ?_
    exact reqs_tail z hz σ hwf
  · rw [if_neg hr, decide_eq_false hr]
    simp only [go_sem, ↓reduceIte, reduceCtorEq, Nat.reduceEqDiff, Nat.reduceLT, Nat.reduceLeDiff, Nat.reduceAdd, Nat.reduceMul, Nat.reduceSub, Nat.reduceBEq, Nat.reduceDiv, Int.reduceNeg, Int.reduceLT, Int.reduceLE, Int.reduceEq, Int.reduceToNat, Int.reduceAdd, Int.reduceSub, Int.reduceMul, Int.reduceBEq, Int.reduceBNe, reduceBEq]
    refine AWPc.step ?_
    simp only [go_sem, ↓reduceIte, reduceCtorEq, Nat.reduceEqDiff, Nat.reduceLT, Nat.reduceLeDiff, Nat.reduceAdd, Nat.reduceMul, Nat.reduceSub, Nat.reduceBEq, Nat.reduceDiv, Int.reduceNeg, Int.reduceLT, Int.reduceLE, Int.reduceEq, Int.reduceToNat, Int.reduceAdd, Int.reduceSub, Int.reduceMul, Int.reduceBEq, Int.reduceBNe, reduceBEq, c3_r4]
    refine AWPc.step ?_
    simp only [go_sem, ↓reduceIte, reduceCtorEq, Nat.reduceEqDiff, Nat.reduceLT, Nat.reduceLeDiff, Nat.reduceAdd, Nat.reduceMul, Nat.reduceSub, Nat.reduceBEq, Nat.reduceDiv, Int.reduceNeg, Int.reduceLT, Int.reduceLE, Int.reduceEq, Int.reduceToNat, Int.reduceAdd, Int.reduceSub, Int.reduceMul, Int.reduceBEq, Int.reduceBNe, reduceBEq, c3_r5]
    refine AWPc.weak (σ' := σ) (env' := [(14, .int .i64 1), (13, AV.bytes []), (12, .bool false), (2, .int .i64 how), (15, AV.bytes []), (3, .pv (.lst 1 (intsI at'))), (4, .int .u8 (m.toNat : Int)), (1, AV.bytes raw)]) (Weak.none hwf (Nat.le_refl _) (by repeat (first | exact Agree.refl _ | refine Agree.newObj ?_ _ | refine Agree.newTok ?_ _ _ _ | refine Agree.killTok ?_ (by first | omega | (simp only [go_sem] <;> omega)) | refine Agree.setObj ?_ (by first | omega | (simp only [go_sem] <;> omega)) _ | refine Agree.dropObj ?_ (by first | omega | (simp only [go_sem] <;> omega)))) (all_cons (.pv _ _ _) (all_cons (.pv _ _ _) (all_cons (.pv _ _ _) (all_cons (.pv _ _ _) (all_cons (LeR.of_le (Le.nil 1) (by simp)) (all_cons (.pv _ _ _) (all_cons (.pv _ _ _) (all_cons (.pv _ _ _) all_nil))))))))) ?_
    refine AWPc.step ?_
    have e1 := str_eq [] []
    have e2 : decide (([] : List UInt8) = []) = true := by simp
    simp only [go_sem, ↓reduceIte, reduceCtorEq, Nat.reduceEqDiff, Nat.reduceLT, Nat.reduceLeDiff, Nat.reduceAdd, Nat.reduceMul, Nat.reduceSub, Nat.reduceBEq, Nat.reduceDiv, Int.reduceNeg, Int.reduceLT, Int.reduceLE, Int.reduceEq, Int.reduceToNat, Int.reduceAdd, Int.reduceSub, Int.reduceMul, Int.reduceBEq, Int.reduceBNe, reduceBEq, c3_r7, e1, e2, (by decide : ((1 : Int) == 0) = false), (by decide : ((1 : Int) != 1) = false), (by decide : (!(false == false)) = false)]
    refine AWPc.step ?_
    simp only [go_sem, ↓reduceIte, reduceCtorEq, Nat.reduceEqDiff, Nat.reduceLT, Nat.reduceLeDiff, Nat.reduceAdd, Nat.reduceMul, Nat.reduceSub, Nat.reduceBEq, Nat.reduceDiv, Int.reduceNeg, Int.reduceLT, Int.reduceLE, Int.reduceEq, Int.reduceToNat, Int.reduceAdd, Int.reduceSub, Int.reduceMul, Int.reduceBEq, Int.reduceBNe, reduceBEq, c3_r9, encB_length]
    refine (few_list raw hraw _).mono fun y' s' hy' => ?_
    obtain ⟨rfl, hs⟩ := hy'
    have hs := hs.symm; subst hs
    simp only [go_sem, ↓reduceIte, reduceCtorEq, Nat.reduceEqDiff, Nat.reduceLT, Nat.reduceLeDiff, Nat.reduceAdd, Nat.reduceMul, Nat.reduceSub, Nat.reduceBEq, Nat.reduceDiv, Int.reduceNeg, Int.reduceLT, Int.reduceLE, Int.reduceEq, Int.reduceToNat, Int.reduceAdd, Int.reduceSub, Int.reduceMul, Int.reduceBEq, Int.reduceBNe, reduceBEq]
    refine AWPc.cut (α := List UInt8) (fun z => [(16, AV.bytes z)]) (fun _ => σ) (fun z => z.length < 2 ^ 47) (reqs_read false how raw [] hraw (fun h => by cases h) at' m σ hwf _ (all_cons rfl (all_cons rfl (all_cons rfl (all_cons rfl (all_cons rfl (all_cons rfl all_nil)))))) _) fun z hz => ?_
    exact reqs_tail z hz σ hwf

theorem CallReqs_args (x : List PV) (fx : FitAll [.int .i64, .int .i64, .int .i64, .int .i64, .int .i64, .int .i64] x) (raw : List (List PV)) (fr : Fit (.sl [.int .u8]) (.lst 1 raw)) (hr : raw.length * 1 ≤ 140737488351232) (how : Int) (_ : (Lit.int .i64 how).wf = true)
    (at' : List (List PV)) (fa : Fit (.sl [.int .i64]) (.lst 1 at')) (_ : at'.length * 8 ≤ 140737488351232) (m : Int) (hm : (Lit.int .u8 m).wf = true) :
    ACalls Try.prog 3 [.agg (x.map .pv), .pv (.lst 1 raw), .int .i64 how, .pv (.lst 1 at'), .int .u8 m] store0 (fun x s => x = .bool true ∧ s = store0) := by
  obtain ⟨r, hr', e⟩ := rawQ_of fx
  obtain ⟨l, rfl⟩ := fr.bytes
  obtain ⟨al, rfl, _⟩ := fa.ints
  rw [encB_length] at hr
  have hm' := wf_u8 hm
  have em : m = ((UInt8.ofNat m.toNat).toNat : Int) := by simp; omega
  rw [e, em]
  exact callReqs_spec r hr' l (by omega) how al (UInt8.ofNat m.toNat) store0
end Go.Proofs.Ytnanpamfdjnomaa
