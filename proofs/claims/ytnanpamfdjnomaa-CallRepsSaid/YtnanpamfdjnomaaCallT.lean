/- call: CallReps. -/
import Derived.Test.YtnanpamfdjnomaaCallS
namespace Go.Proofs.Ytnanpamfdjnomaa
open Go Go.RowKit Go.Proofs.Ytnanpamfdjnomaa.AL
set_option maxRecDepth 100000
set_option linter.unusedSimpArgs false

abbrev rpsPost (σ : Store) : Exit → Env → Store → Prop := fun e env' σ' => (e = Exit.normal ∨ e = Exit.ret) ∧ ∃ y y' σ'', env'.get 16 = y ∧ WeakV σ.next y σ' y' σ'' ∧ y' = AV.bool true ∧ σ'' = σ

theorem reps_tail (p : Rp) (hp : p.ps.length ≤ 6) (hi : p.is.length ≤ 6) (hpd : ∀ y ∈ p.ps, y.d.length ≤ 40) (hid : ∀ y ∈ p.is, y.d.length ≤ 140) (z : List UInt8) (hz : z.length < 2 ^ 47) (σ : Store) (hwf : σ.Wf) :
    AWPc Try.prog 226 σ.next (.seq (.reg c6_r27) (.seq (.reg c6_r28) (.seq (.raw c6_d29) .ret))) [(17, .ptr σ.next 0), (23, AV.bytes z)] (σ.newObj p.avs) (rpsPost σ) := by
  have hN : (readP z).ps.length ≤ 255 := by rw [show (readP z).ps = pcs (rpN z) (rp3 z) from rfl, pcs_length]; exact numB_tk1 _
  have hM : (readP z).is.length ≤ 255 := by rw [show (readP z).is = its (rpM z) (rp5 z) from rfl, its_length]; exact numB_tk1 _
  refine AWPc.step ?_
  simp only [go_sem, ↓reduceIte, reduceCtorEq, Nat.reduceEqDiff, Nat.reduceLT, Nat.reduceLeDiff, Nat.reduceAdd, Nat.reduceMul, Nat.reduceSub, Nat.reduceBEq, Nat.reduceDiv, Int.reduceNeg, Int.reduceLT, Int.reduceLE, Int.reduceEq, Int.reduceToNat, Int.reduceAdd, Int.reduceSub, Int.reduceMul, Int.reduceBEq, Int.reduceBNe, reduceBEq, c6_r27]
  refine (readRep_spec z hz _).mono fun y s' hy => ?_
  obtain ⟨rfl, hs⟩ := hy
  have hs := hs.symm; subst hs
  by_cases ho : okRep z
  · rw [if_pos ho]
    simp only [go_sem, ↓reduceIte, reduceCtorEq, Nat.reduceEqDiff, Nat.reduceLT, Nat.reduceLeDiff, Nat.reduceAdd, Nat.reduceMul, Nat.reduceSub, Nat.reduceBEq, Nat.reduceDiv, Int.reduceNeg, Int.reduceLT, Int.reduceLE, Int.reduceEq, Int.reduceToNat, Int.reduceAdd, Int.reduceSub, Int.reduceMul, Int.reduceBEq, Int.reduceBNe, reduceBEq]
    refine AWPc.step ?_
    simp only [go_sem, ↓reduceIte, reduceCtorEq, Nat.reduceEqDiff, Nat.reduceLT, Nat.reduceLeDiff, Nat.reduceAdd, Nat.reduceMul, Nat.reduceSub, Nat.reduceBEq, Nat.reduceDiv, Int.reduceNeg, Int.reduceLT, Int.reduceLE, Int.reduceEq, Int.reduceToNat, Int.reduceAdd, Int.reduceSub, Int.reduceMul, Int.reduceBEq, Int.reduceBNe, reduceBEq, c6_r28]
    refine (refReadRep_spec z hz _).mono fun y s' hy => ?_
    rw [if_pos ho] at hy
    obtain ⟨rfl, hs⟩ := hy
    have hs := hs.symm; subst hs
    simp only [go_sem, ↓reduceIte, reduceCtorEq, Nat.reduceEqDiff, Nat.reduceLT, Nat.reduceLeDiff, Nat.reduceAdd, Nat.reduceMul, Nat.reduceSub, Nat.reduceBEq, Nat.reduceDiv, Int.reduceNeg, Int.reduceLT, Int.reduceLE, Int.reduceEq, Int.reduceToNat, Int.reduceAdd, Int.reduceSub, Int.reduceMul, Int.reduceBEq, Int.reduceBNe, reduceBEq]
    refine AWPc.step ?_
    simp only [go_sem, ↓reduceIte, reduceCtorEq, Nat.reduceEqDiff, Nat.reduceLT, Nat.reduceLeDiff, Nat.reduceAdd, Nat.reduceMul, Nat.reduceSub, Nat.reduceBEq, Nat.reduceDiv, Int.reduceNeg, Int.reduceLT, Int.reduceLE, Int.reduceEq, Int.reduceToNat, Int.reduceAdd, Int.reduceSub, Int.reduceMul, Int.reduceBEq, Int.reduceBNe, reduceBEq]
    refine awpDregG mixed [] (by kernel_rfl) (by kernel_rfl) fun ops1 hops => ?_
    have g1 : (ops1[1]?).bind (·.dst) = some 199 := hops 1
    have g6 : (ops1[6]?).bind (·.dst) = some 204 := hops 6
    have g12 : (ops1[12]?).bind (·.dst) = some 210 := hops 12
    have g14 : (ops1[14]?).bind (·.dst) = some 212 := hops 14
    have g19 : (ops1[19]?).bind (·.dst) = some 217 := hops 19
    have e1 : decide (readP z = readP z) = true := by simp
    simp only [go_sem, ↓reduceIte, reduceCtorEq, Nat.reduceEqDiff, Nat.reduceLT, Nat.reduceLeDiff, Nat.reduceAdd, Nat.reduceMul, Nat.reduceSub, Nat.reduceBEq, Nat.reduceDiv, Int.reduceNeg, Int.reduceLT, Int.reduceLE, Int.reduceEq, Int.reduceToNat, Int.reduceAdd, Int.reduceSub, Int.reduceMul, Int.reduceBEq, Int.reduceBNe, reduceBEq, c6_d29_ops, g1, g6, g12, g14, g19]
    refine dregFn_fn call_15 (fun τ => known_spec τ) (by simp only [go_sem, ↓reduceIte, reduceCtorEq, Nat.reduceEqDiff, Nat.reduceLT, Nat.reduceLeDiff, Nat.reduceAdd, Nat.reduceMul, Nat.reduceSub, Nat.reduceBEq, Nat.reduceDiv, Int.reduceNeg, Int.reduceLT, Int.reduceLE, Int.reduceEq, Int.reduceToNat, Int.reduceAdd, Int.reduceSub, Int.reduceMul, Int.reduceBEq, Int.reduceBNe, reduceBEq]) rfl rfl ?_
    simp only [go_sem, ↓reduceIte, reduceCtorEq, Nat.reduceEqDiff, Nat.reduceLT, Nat.reduceLeDiff, Nat.reduceAdd, Nat.reduceMul, Nat.reduceSub, Nat.reduceBEq, Nat.reduceDiv, Int.reduceNeg, Int.reduceLT, Int.reduceLE, Int.reduceEq, Int.reduceToNat, Int.reduceAdd, Int.reduceSub, Int.reduceMul, Int.reduceBEq, Int.reduceBNe, reduceBEq, g1, g6, g12, g14, g19]
    refine dregFn_fn call_21 (fun τ => rSameRep (readP z) (readP z) (by omega) (by omega) τ) (by simp only [go_sem, ↓reduceIte, reduceCtorEq, Nat.reduceEqDiff, Nat.reduceLT, Nat.reduceLeDiff, Nat.reduceAdd, Nat.reduceMul, Nat.reduceSub, Nat.reduceBEq, Nat.reduceDiv, Int.reduceNeg, Int.reduceLT, Int.reduceLE, Int.reduceEq, Int.reduceToNat, Int.reduceAdd, Int.reduceSub, Int.reduceMul, Int.reduceBEq, Int.reduceBNe, reduceBEq]) rfl rfl ?_
    simp only [go_sem, ↓reduceIte, reduceCtorEq, Nat.reduceEqDiff, Nat.reduceLT, Nat.reduceLeDiff, Nat.reduceAdd, Nat.reduceMul, Nat.reduceSub, Nat.reduceBEq, Nat.reduceDiv, Int.reduceNeg, Int.reduceLT, Int.reduceLE, Int.reduceEq, Int.reduceToNat, Int.reduceAdd, Int.reduceSub, Int.reduceMul, Int.reduceBEq, Int.reduceBNe, reduceBEq, g1, g6, g12, g14, g19, e1, (by decide : ((0 : Int) == 0) = true), (by decide : (true == true) = true)]
    refine dregFn_fn call_25 (fun τ => cSameRep p (readP z) (by omega) (by omega) (fun y hy => by have := hpd y hy; omega) (fun y hy => by have := hid y hy; omega) τ) (by simp only [go_sem, ↓reduceIte, reduceCtorEq, Nat.reduceEqDiff, Nat.reduceLT, Nat.reduceLeDiff, Nat.reduceAdd, Nat.reduceMul, Nat.reduceSub, Nat.reduceBEq, Nat.reduceDiv, Int.reduceNeg, Int.reduceLT, Int.reduceLE, Int.reduceEq, Int.reduceToNat, Int.reduceAdd, Int.reduceSub, Int.reduceMul, Int.reduceBEq, Int.reduceBNe, reduceBEq]) rfl rfl ?_
    simp only [go_sem, ↓reduceIte, reduceCtorEq, Nat.reduceEqDiff, Nat.reduceLT, Nat.reduceLeDiff, Nat.reduceAdd, Nat.reduceMul, Nat.reduceSub, Nat.reduceBEq, Nat.reduceDiv, Int.reduceNeg, Int.reduceLT, Int.reduceLE, Int.reduceEq, Int.reduceToNat, Int.reduceAdd, Int.reduceSub, Int.reduceMul, Int.reduceBEq, Int.reduceBNe, reduceBEq, g1, g6, g12, g14, g19]
    refine dregFn_fn call_21 (fun τ => rSameRep p (readP z) (by omega) (by omega) τ) (by simp only [go_sem, ↓reduceIte, reduceCtorEq, Nat.reduceEqDiff, Nat.reduceLT, Nat.reduceLeDiff, Nat.reduceAdd, Nat.reduceMul, Nat.reduceSub, Nat.reduceBEq, Nat.reduceDiv, Int.reduceNeg, Int.reduceLT, Int.reduceLE, Int.reduceEq, Int.reduceToNat, Int.reduceAdd, Int.reduceSub, Int.reduceMul, Int.reduceBEq, Int.reduceBNe, reduceBEq]) rfl rfl ?_
    have e2 : (decide (p = readP z) == decide (p = readP z)) = true := by simp
    simp only [go_sem, ↓reduceIte, reduceCtorEq, Nat.reduceEqDiff, Nat.reduceLT, Nat.reduceLeDiff, Nat.reduceAdd, Nat.reduceMul, Nat.reduceSub, Nat.reduceBEq, Nat.reduceDiv, Int.reduceNeg, Int.reduceLT, Int.reduceLE, Int.reduceEq, Int.reduceToNat, Int.reduceAdd, Int.reduceSub, Int.reduceMul, Int.reduceBEq, Int.reduceBNe, reduceBEq, g1, g6, g12, g14, g19, e2]
    refine AWPc.of_arun ?_
    simp only [go_sem, ↓reduceIte, reduceCtorEq, Nat.reduceEqDiff, Nat.reduceLT, Nat.reduceLeDiff, Nat.reduceAdd, Nat.reduceMul, Nat.reduceSub, Nat.reduceBEq, Nat.reduceDiv, Int.reduceNeg, Int.reduceLT, Int.reduceLE, Int.reduceEq, Int.reduceToNat, Int.reduceAdd, Int.reduceSub, Int.reduceMul, Int.reduceBEq, Int.reduceBNe, reduceBEq]
    exact ⟨.inr rfl, _, _, _, rfl, WeakV.none hwf (by repeat (first | exact Agree.refl _ | refine Agree.newObj ?_ _ | refine Agree.newTok ?_ _ _ _ | refine Agree.killTok ?_ (by first | omega | (simp only [go_sem] <;> omega)) | refine Agree.setObj ?_ (by first | omega | (simp only [go_sem] <;> omega)) _ | refine Agree.dropObj ?_ (by first | omega | (simp only [go_sem] <;> omega)))) (.pv _ _ _), rfl, rfl⟩
  · rw [if_neg ho]
    simp only [go_sem, ↓reduceIte, reduceCtorEq, Nat.reduceEqDiff, Nat.reduceLT, Nat.reduceLeDiff, Nat.reduceAdd, Nat.reduceMul, Nat.reduceSub, Nat.reduceBEq, Nat.reduceDiv, Int.reduceNeg, Int.reduceLT, Int.reduceLE, Int.reduceEq, Int.reduceToNat, Int.reduceAdd, Int.reduceSub, Int.reduceMul, Int.reduceBEq, Int.reduceBNe, reduceBEq]
    refine AWPc.step ?_
    simp only [go_sem, ↓reduceIte, reduceCtorEq, Nat.reduceEqDiff, Nat.reduceLT, Nat.reduceLeDiff, Nat.reduceAdd, Nat.reduceMul, Nat.reduceSub, Nat.reduceBEq, Nat.reduceDiv, Int.reduceNeg, Int.reduceLT, Int.reduceLE, Int.reduceEq, Int.reduceToNat, Int.reduceAdd, Int.reduceSub, Int.reduceMul, Int.reduceBEq, Int.reduceBNe, reduceBEq, c6_r28]
    refine (refReadRep_spec z hz _).mono fun y s' hy => ?_
    rw [if_neg ho] at hy
    obtain ⟨rfl, hs⟩ := hy
    have hs := hs.symm; subst hs
    simp only [go_sem, ↓reduceIte, reduceCtorEq, Nat.reduceEqDiff, Nat.reduceLT, Nat.reduceLeDiff, Nat.reduceAdd, Nat.reduceMul, Nat.reduceSub, Nat.reduceBEq, Nat.reduceDiv, Int.reduceNeg, Int.reduceLT, Int.reduceLE, Int.reduceEq, Int.reduceToNat, Int.reduceAdd, Int.reduceSub, Int.reduceMul, Int.reduceBEq, Int.reduceBNe, reduceBEq]
    refine AWPc.step ?_
    simp only [go_sem, ↓reduceIte, reduceCtorEq, Nat.reduceEqDiff, Nat.reduceLT, Nat.reduceLeDiff, Nat.reduceAdd, Nat.reduceMul, Nat.reduceSub, Nat.reduceBEq, Nat.reduceDiv, Int.reduceNeg, Int.reduceLT, Int.reduceLE, Int.reduceEq, Int.reduceToNat, Int.reduceAdd, Int.reduceSub, Int.reduceMul, Int.reduceBEq, Int.reduceBNe, reduceBEq]
    refine awpDregG mixed [] (by kernel_rfl) (by kernel_rfl) fun ops1 hops => ?_
    have g1 : (ops1[1]?).bind (·.dst) = some 199 := hops 1
    have g6 : (ops1[6]?).bind (·.dst) = some 204 := hops 6
    have g12 : (ops1[12]?).bind (·.dst) = some 210 := hops 12
    have g14 : (ops1[14]?).bind (·.dst) = some 212 := hops 14
    have g19 : (ops1[19]?).bind (·.dst) = some 217 := hops 19
    have e1 : decide (zrp = zrp) = true := by simp
    simp only [go_sem, ↓reduceIte, reduceCtorEq, Nat.reduceEqDiff, Nat.reduceLT, Nat.reduceLeDiff, Nat.reduceAdd, Nat.reduceMul, Nat.reduceSub, Nat.reduceBEq, Nat.reduceDiv, Int.reduceNeg, Int.reduceLT, Int.reduceLE, Int.reduceEq, Int.reduceToNat, Int.reduceAdd, Int.reduceSub, Int.reduceMul, Int.reduceBEq, Int.reduceBNe, reduceBEq, c6_d29_ops, g1, g6, g12, g14, g19]
    refine dregFn_fn call_15 (fun τ => known_spec τ) (by simp only [go_sem, ↓reduceIte, reduceCtorEq, Nat.reduceEqDiff, Nat.reduceLT, Nat.reduceLeDiff, Nat.reduceAdd, Nat.reduceMul, Nat.reduceSub, Nat.reduceBEq, Nat.reduceDiv, Int.reduceNeg, Int.reduceLT, Int.reduceLE, Int.reduceEq, Int.reduceToNat, Int.reduceAdd, Int.reduceSub, Int.reduceMul, Int.reduceBEq, Int.reduceBNe, reduceBEq]) rfl rfl ?_
    simp only [go_sem, ↓reduceIte, reduceCtorEq, Nat.reduceEqDiff, Nat.reduceLT, Nat.reduceLeDiff, Nat.reduceAdd, Nat.reduceMul, Nat.reduceSub, Nat.reduceBEq, Nat.reduceDiv, Int.reduceNeg, Int.reduceLT, Int.reduceLE, Int.reduceEq, Int.reduceToNat, Int.reduceAdd, Int.reduceSub, Int.reduceMul, Int.reduceBEq, Int.reduceBNe, reduceBEq, g1, g6, g12, g14, g19]
    refine dregFn_fn call_21 (fun τ => rSameRep zrp zrp (by simp) (by simp) τ) (by simp only [go_sem, ↓reduceIte, reduceCtorEq, Nat.reduceEqDiff, Nat.reduceLT, Nat.reduceLeDiff, Nat.reduceAdd, Nat.reduceMul, Nat.reduceSub, Nat.reduceBEq, Nat.reduceDiv, Int.reduceNeg, Int.reduceLT, Int.reduceLE, Int.reduceEq, Int.reduceToNat, Int.reduceAdd, Int.reduceSub, Int.reduceMul, Int.reduceBEq, Int.reduceBNe, reduceBEq]) rfl rfl ?_
    simp only [go_sem, ↓reduceIte, reduceCtorEq, Nat.reduceEqDiff, Nat.reduceLT, Nat.reduceLeDiff, Nat.reduceAdd, Nat.reduceMul, Nat.reduceSub, Nat.reduceBEq, Nat.reduceDiv, Int.reduceNeg, Int.reduceLT, Int.reduceLE, Int.reduceEq, Int.reduceToNat, Int.reduceAdd, Int.reduceSub, Int.reduceMul, Int.reduceBEq, Int.reduceBNe, reduceBEq, g1, g6, g12, g14, g19, e1, (by decide : ((2 : Int) == 0) = false), (by decide : ((2 : Int) == 2) = true), (by decide : (false == false) = true)]
    refine dregFn_fn call_25 (fun τ => cSameRep p zrp (by omega) (by omega) (fun y hy => by have := hpd y hy; omega) (fun y hy => by have := hid y hy; omega) τ) (by simp only [go_sem, ↓reduceIte, reduceCtorEq, Nat.reduceEqDiff, Nat.reduceLT, Nat.reduceLeDiff, Nat.reduceAdd, Nat.reduceMul, Nat.reduceSub, Nat.reduceBEq, Nat.reduceDiv, Int.reduceNeg, Int.reduceLT, Int.reduceLE, Int.reduceEq, Int.reduceToNat, Int.reduceAdd, Int.reduceSub, Int.reduceMul, Int.reduceBEq, Int.reduceBNe, reduceBEq]) rfl rfl ?_
    simp only [go_sem, ↓reduceIte, reduceCtorEq, Nat.reduceEqDiff, Nat.reduceLT, Nat.reduceLeDiff, Nat.reduceAdd, Nat.reduceMul, Nat.reduceSub, Nat.reduceBEq, Nat.reduceDiv, Int.reduceNeg, Int.reduceLT, Int.reduceLE, Int.reduceEq, Int.reduceToNat, Int.reduceAdd, Int.reduceSub, Int.reduceMul, Int.reduceBEq, Int.reduceBNe, reduceBEq, g1, g6, g12, g14, g19]
    refine dregFn_fn call_21 (fun τ => rSameRep p zrp (by omega) (by omega) τ) (by simp only [go_sem, ↓reduceIte, reduceCtorEq, Nat.reduceEqDiff, Nat.reduceLT, Nat.reduceLeDiff, Nat.reduceAdd, Nat.reduceMul, Nat.reduceSub, Nat.reduceBEq, Nat.reduceDiv, Int.reduceNeg, Int.reduceLT, Int.reduceLE, Int.reduceEq, Int.reduceToNat, Int.reduceAdd, Int.reduceSub, Int.reduceMul, Int.reduceBEq, Int.reduceBNe, reduceBEq]) rfl rfl ?_
    have e2 : (decide (p = zrp) == decide (p = zrp)) = true := by simp
    simp only [go_sem, ↓reduceIte, reduceCtorEq, Nat.reduceEqDiff, Nat.reduceLT, Nat.reduceLeDiff, Nat.reduceAdd, Nat.reduceMul, Nat.reduceSub, Nat.reduceBEq, Nat.reduceDiv, Int.reduceNeg, Int.reduceLT, Int.reduceLE, Int.reduceEq, Int.reduceToNat, Int.reduceAdd, Int.reduceSub, Int.reduceMul, Int.reduceBEq, Int.reduceBNe, reduceBEq, g1, g6, g12, g14, g19, e2]
    refine AWPc.of_arun ?_
    simp only [go_sem, ↓reduceIte, reduceCtorEq, Nat.reduceEqDiff, Nat.reduceLT, Nat.reduceLeDiff, Nat.reduceAdd, Nat.reduceMul, Nat.reduceSub, Nat.reduceBEq, Nat.reduceDiv, Int.reduceNeg, Int.reduceLT, Int.reduceLE, Int.reduceEq, Int.reduceToNat, Int.reduceAdd, Int.reduceSub, Int.reduceMul, Int.reduceBEq, Int.reduceBNe, reduceBEq]
    exact ⟨.inr rfl, _, _, _, rfl, WeakV.none hwf (by repeat (first | exact Agree.refl _ | refine Agree.newObj ?_ _ | refine Agree.newTok ?_ _ _ _ | refine Agree.killTok ?_ (by first | omega | (simp only [go_sem] <;> omega)) | refine Agree.setObj ?_ (by first | omega | (simp only [go_sem] <;> omega)) _ | refine Agree.dropObj ?_ (by first | omega | (simp only [go_sem] <;> omega)))) (.pv _ _ _), rfl, rfl⟩

theorem cut28 : ∀ k, k < 30 → IntKind.i64.wrap (((k : Nat) : Int).tdiv 28) = ((k / 28 : Nat) : Int) := by decide
abbrev TEnv (w : List UInt8) (how : Int) (at' : List Int) (m : UInt8) (P : Nat) : Env := [(22, AV.bytes w), (5, .int .i64 how), (6, .pv (.lst 1 (intsI at'))), (7, .int .u8 (m.toNat : Int)), (17, .ptr P 0)]
abbrev ZPost (k0 P : Nat) (σ : Store) : Env → Store → Prop := fun env' σ' => ∃ z : List UInt8, z.length < 2 ^ 47 ∧ Weak 226 k0 env' σ' [(17, .ptr P 0), (23, AV.bytes z)] σ

theorem reps_cut (l : List UInt8) (h0 : 0 < l.length) (hl : l.length < 2 ^ 40) (how : Int) (k0 P : Nat) (σ : Store) (R : Exit → Env → Store → Prop) :
    AWPc Try.prog 226 k0 (.reg c6_r26) [(23, AV.bytes l), (5, .int .i64 how), (17, .ptr P 0)] σ (thenA (ZPost k0 P σ) R) := by
  refine AWPc.of_arun ?_
  obtain ⟨k, ek, hk⟩ := pick_nat (IntKind.i64.wrap (how.tdiv 4)) 30 (by omega) (by omega)
  rw [show ((30 : Nat) : Int) = 30 from rfl] at ek
  have e1 := cut28 k hk
  have hq : k / 28 ≤ 1 := by omega
  have e2 : IntKind.i64.wrap (((l.length : Nat) : Int) - ((k / 28 : Nat) : Int)) = ((l.length - k / 28 : Nat) : Int) := by rw [w64 (by omega) (by omega)]; omega
  simp only [go_sem, ↓reduceIte, reduceCtorEq, Nat.reduceEqDiff, Nat.reduceLT, Nat.reduceLeDiff, Nat.reduceAdd, Nat.reduceMul, Nat.reduceSub, Nat.reduceBEq, Nat.reduceDiv, Int.reduceNeg, Int.reduceLT, Int.reduceLE, Int.reduceEq, Int.reduceToNat, Int.reduceAdd, Int.reduceSub, Int.reduceMul, Int.reduceBEq, Int.reduceBNe, reduceBEq, c6_r26, encB_length]
  refine (pick_spec (IntKind.i64.wrap (how.tdiv 4)) 30 (by omega) _).mono fun y s' hy => ?_
  obtain ⟨rfl, hs⟩ := hy
  have hs := hs.symm; subst hs
  simp only [go_sem, ↓reduceIte, reduceCtorEq, Nat.reduceEqDiff, Nat.reduceLT, Nat.reduceLeDiff, Nat.reduceAdd, Nat.reduceMul, Nat.reduceSub, Nat.reduceBEq, Nat.reduceDiv, Int.reduceNeg, Int.reduceLT, Int.reduceLE, Int.reduceEq, Int.reduceToNat, Int.reduceAdd, Int.reduceSub, Int.reduceMul, Int.reduceBEq, Int.reduceBNe, reduceBEq, ek, e1, e2, encB_length, Int.toNat_natCast, encB_take]
  exact ⟨by omega, l.take (l.length - k / 28), by rw [List.length_take]; omega, Weak.slots (all_cons rfl (all_cons rfl all_nil))⟩

theorem reps_turn (w : List UInt8) (h0 : 0 < w.length) (hw : w.length < 2 ^ 40) (how : Int) (at' : List Int) (m : UInt8) (k0 P : Nat) (σ : Store) (hwf : σ.Wf) (hk0 : k0 ≤ σ.next) (hP : P < σ.next) (R : Exit → Env → Store → Prop) :
    AWPc Try.prog 226 k0 (.seq (.reg c6_r21) (.seq (.seq (.reg c6_r22) (.block 2 (.loop c6_l1))) (.reg c6_r26))) (TEnv w how at' m P) σ (thenA (ZPost k0 P σ) R) := by
  refine AWPc.step ?_
  simp only [go_sem, ↓reduceIte, reduceCtorEq, Nat.reduceEqDiff, Nat.reduceLT, Nat.reduceLeDiff, Nat.reduceAdd, Nat.reduceMul, Nat.reduceSub, Nat.reduceBEq, Nat.reduceDiv, Int.reduceNeg, Int.reduceLT, Int.reduceLE, Int.reduceEq, Int.reduceToNat, Int.reduceAdd, Int.reduceSub, Int.reduceMul, Int.reduceBEq, Int.reduceBNe, reduceBEq, c6_r21, encB_length]
  refine (few_obj w h0 (by omega) _).mono fun y s' hy => ?_
  obtain ⟨z, hm, rfl, rfl⟩ := hy
  simp only [go_sem, ↓reduceIte, reduceCtorEq, Nat.reduceEqDiff, Nat.reduceLT, Nat.reduceLeDiff, Nat.reduceAdd, Nat.reduceMul, Nat.reduceSub, Nat.reduceBEq, Nat.reduceDiv, Int.reduceNeg, Int.reduceLT, Int.reduceLE, Int.reduceEq, Int.reduceToNat, Int.reduceAdd, Int.reduceSub, Int.reduceMul, Int.reduceBEq, Int.reduceBNe, reduceBEq]
  refine AWPc.seq (AWPc.step ?_)
  simp only [go_sem, ↓reduceIte, reduceCtorEq, Nat.reduceEqDiff, Nat.reduceLT, Nat.reduceLeDiff, Nat.reduceAdd, Nat.reduceMul, Nat.reduceSub, Nat.reduceBEq, Nat.reduceDiv, Int.reduceNeg, Int.reduceLT, Int.reduceLE, Int.reduceEq, Int.reduceToNat, Int.reduceAdd, Int.reduceSub, Int.reduceMul, Int.reduceBEq, Int.reduceBNe, reduceBEq, c6_r22]
  refine AWPc.block (AWPc.loop (α := Nat × List UInt8) (fun a => [(5, .int .i64 how), (6, .pv (.lst 1 (intsI at'))), (7, .int .u8 (m.toNat : Int)), (17, .ptr P 0), (23, .sl σ.next 0 w.length (w.length + z.length)), (24, .int .i64 a.1)]) (fun a => σ.newObj (objB (a.2 ++ z))) (fun a => a.1 ≤ 2 ∧ a.2.length = w.length) (fun a => 2 - a.1)
    ⟨(0, w), ⟨by omega, rfl⟩, Weak.slots (all_cons rfl (all_cons rfl (all_cons rfl (all_cons rfl (all_cons rfl (all_cons rfl all_nil))))))⟩ ?_)
  rintro ⟨i, l⟩ ⟨hi, hl⟩
  dsimp only at hi hl
  have fin : ∀ env : Env, (∀ y ∈ [(5, AV.int .i64 how), (17, .ptr P 0), (23, .sl σ.next 0 w.length (w.length + z.length))], env.get y.1 = y.2) → AWPc Try.prog 226 k0 (.reg c6_r26) env (σ.newObj (objB (l ++ z))) (thenA (ZPost k0 P σ) R) := fun env he => by
    refine AWPc.weak (Weak.trans (Weak.slots he) (Weak.trans (Weak.settle 23 (n := σ.next) (off := 0) (len := w.length) (cap := w.length + z.length) (ps := psB (l ++ z)) rfl (by simp only [go_sem, ↓reduceIte, reduceCtorEq, Nat.reduceEqDiff, Nat.reduceLT, Nat.reduceLeDiff, Nat.reduceAdd, Nat.reduceMul, Nat.reduceSub, Nat.reduceBEq, Nat.reduceDiv, Int.reduceNeg, Int.reduceLT, Int.reduceLE, Int.reduceEq, Int.reduceToNat, Int.reduceAdd, Int.reduceSub, Int.reduceMul, Int.reduceBEq, Int.reduceBNe, reduceBEq, objB]) (psB_one _) (by simp only [psB, List.length_map, List.length_append]; omega) (by omega))
      (Weak.none hwf hk0 (by repeat (first | exact Agree.refl _ | refine Agree.newObj ?_ _ | refine Agree.newTok ?_ _ _ _ | refine Agree.killTok ?_ (by first | omega | (simp only [go_sem] <;> omega)) | refine Agree.setObj ?_ (by first | omega | (simp only [go_sem] <;> omega)) _ | refine Agree.dropObj ?_ (by first | omega | (simp only [go_sem] <;> omega)))) (all_cons (.list' (es := 1) rfl ?_) (all_cons (.pv _ _ _) (all_cons (.same (by simpa [Env.get] using hP)) all_nil)))))) (reps_cut l (by omega) (by omega) how k0 P σ R)
    rw [List.drop_zero, psB_encB_take, ← hl, List.take_left]
  by_cases h1 : i < at'.length
  · have d1 : decide ((i : Int) < at'.length) = true := decide_eq_true (by omega)
    by_cases h2 : i < 2
    · have d2 : decide ((i : Int) < 2) = true := decide_eq_true (by omega)
      obtain ⟨k, ek, hk⟩ := pick_nat at'[i] w.length h0 (by omega)
      have hkl : k < (l ++ z).length := by simp; omega
      simp only [go_sem, ↓reduceIte, reduceCtorEq, Nat.reduceEqDiff, Nat.reduceLT, Nat.reduceLeDiff, Nat.reduceAdd, Nat.reduceMul, Nat.reduceSub, Nat.reduceBEq, Nat.reduceDiv, Int.reduceNeg, Int.reduceLT, Int.reduceLE, Int.reduceEq, Int.reduceToNat, Int.reduceAdd, Int.reduceSub, Int.reduceMul, Int.reduceBEq, Int.reduceBNe, reduceBEq, c6_l1, c6_r23, d1, d2, intsI_length]
      simp only [go_sem, ↓reduceIte, reduceCtorEq, Nat.reduceEqDiff, Nat.reduceLT, Nat.reduceLeDiff, Nat.reduceAdd, Nat.reduceMul, Nat.reduceSub, Nat.reduceBEq, Nat.reduceDiv, Int.reduceNeg, Int.reduceLT, Int.reduceLE, Int.reduceEq, Int.reduceToNat, Int.reduceAdd, Int.reduceSub, Int.reduceMul, Int.reduceBEq, Int.reduceBNe, reduceBEq, c6_r25, intsI_length, intsI_get h1, Int.toNat_natCast]
      refine ⟨by omega, (pick_spec at'[i] w.length (by omega) _).mono fun y s' hy => ?_⟩
      obtain ⟨rfl, hs⟩ := hy
      have hs := hs.symm; subst hs
      have ux : IntKind.u8.wrap ((BitVec.ofInt 8 ((l ++ z)[k].toNat : Int) ^^^ BitVec.ofInt 8 (m.toNat : Int)).toNat : Int) = (((l ++ z)[k] ^^^ m).toNat : Int) := u8_xor _ _
      have hle : k + 1 ≤ (objB (l ++ z)).length := by rw [objB_length]; omega
      simp only [go_sem, ↓reduceIte, reduceCtorEq, Nat.reduceEqDiff, Nat.reduceLT, Nat.reduceLeDiff, Nat.reduceAdd, Nat.reduceMul, Nat.reduceSub, Nat.reduceBEq, Nat.reduceDiv, Int.reduceNeg, Int.reduceLT, Int.reduceLE, Int.reduceEq, Int.reduceToNat, Int.reduceAdd, Int.reduceSub, Int.reduceMul, Int.reduceBEq, Int.reduceBNe, reduceBEq, ek, Int.toNat_natCast, Nat.mul_one, objB_get hkl, if_pos hle, c6_r24]
      refine ⟨by omega, by omega, (i + 1, l.set k ((l ++ z)[k] ^^^ m)), ⟨by dsimp only; omega, by rw [List.length_set]; exact hl⟩, by dsimp only; omega, ?_⟩
      have hst := congrArg σ.newObj ((congrArg (fun v => (objB (l ++ z)).take k ++ [AV.pv (.val (.int .u8 v))] ++ (objB (l ++ z)).drop (k + 1)) ux).trans (objB_set (l ++ z) k hkl ((l ++ z)[k] ^^^ m)))
      rw [List.set_append_left _ _ (by omega)] at hst
      refine Weak.slots' hst (all_cons rfl (all_cons rfl (all_cons rfl (all_cons rfl (all_cons rfl (all_cons ?_ all_nil))))))
      simp only [go_sem, ↓reduceIte, reduceCtorEq, Nat.reduceEqDiff, Nat.reduceLT, Nat.reduceLeDiff, Nat.reduceAdd, Nat.reduceMul, Nat.reduceSub, Nat.reduceBEq, Nat.reduceDiv, Int.reduceNeg, Int.reduceLT, Int.reduceLE, Int.reduceEq, Int.reduceToNat, Int.reduceAdd, Int.reduceSub, Int.reduceMul, Int.reduceBEq, Int.reduceBNe, reduceBEq]
      rw [w64 (by omega) (by omega)]; rfl
    · have d2 : decide ((i : Int) < 2) = false := decide_eq_false (by omega)
      simp only [go_sem, ↓reduceIte, reduceCtorEq, Nat.reduceEqDiff, Nat.reduceLT, Nat.reduceLeDiff, Nat.reduceAdd, Nat.reduceMul, Nat.reduceSub, Nat.reduceBEq, Nat.reduceDiv, Int.reduceNeg, Int.reduceLT, Int.reduceLE, Int.reduceEq, Int.reduceToNat, Int.reduceAdd, Int.reduceSub, Int.reduceMul, Int.reduceBEq, Int.reduceBNe, reduceBEq, c6_l1, c6_r23, d1, d2, intsI_length]
      exact fin _ (all_cons rfl (all_cons rfl (all_cons rfl all_nil)))
  · have d1 : decide ((i : Int) < at'.length) = false := decide_eq_false (by omega)
    simp only [go_sem, ↓reduceIte, reduceCtorEq, Nat.reduceEqDiff, Nat.reduceLT, Nat.reduceLeDiff, Nat.reduceAdd, Nat.reduceMul, Nat.reduceSub, Nat.reduceBEq, Nat.reduceDiv, Int.reduceNeg, Int.reduceLT, Int.reduceLE, Int.reduceEq, Int.reduceToNat, Int.reduceAdd, Int.reduceSub, Int.reduceMul, Int.reduceBEq, Int.reduceBNe, reduceBEq, c6_l1, c6_r23, d1, intsI_length]
    exact fin _ (all_cons rfl (all_cons rfl (all_cons rfl all_nil)))

theorem reps_read (b : Bool) (how : Int) (raw w : List UInt8) (hraw : raw.length < 2 ^ 47) (hb : b = true → 0 < w.length ∧ w.length < 2 ^ 40) (at' : List Int) (m : UInt8) (k0 P : Nat) (σ : Store) (hwf : σ.Wf) (hk0 : k0 ≤ σ.next) (hP : P < σ.next) (R : Exit → Env → Store → Prop) :
    AWPc Try.prog 226 k0 (.seq (.reg c6_r20) (.cond (.tmp 151) (.seq (.reg c6_r21) (.seq (.seq (.reg c6_r22) (.block 2 (.loop c6_l1))) (.reg c6_r26))) .skip)) ((19, .bool b) :: (23, AV.bytes raw) :: TEnv w how at' m P) σ (thenA (ZPost k0 P σ) R) := by
  refine AWPc.step ?_
  have fin : ∀ env' : Env, env'.get 23 = AV.bytes raw → env'.get 17 = .ptr P 0 → ZPost k0 P σ env' σ := fun env' h h' => ⟨raw, hraw, Weak.slots (all_cons h' (all_cons h all_nil))⟩
  cases b with
  | false =>
    simp only [go_sem, ↓reduceIte, reduceCtorEq, Nat.reduceEqDiff, Nat.reduceLT, Nat.reduceLeDiff, Nat.reduceAdd, Nat.reduceMul, Nat.reduceSub, Nat.reduceBEq, Nat.reduceDiv, Int.reduceNeg, Int.reduceLT, Int.reduceLE, Int.reduceEq, Int.reduceToNat, Int.reduceAdd, Int.reduceSub, Int.reduceMul, Int.reduceBEq, Int.reduceBNe, reduceBEq, c6_r20]
    refine AWPc.of_arun ?_
    simp only [go_sem, ↓reduceIte, reduceCtorEq, Nat.reduceEqDiff, Nat.reduceLT, Nat.reduceLeDiff, Nat.reduceAdd, Nat.reduceMul, Nat.reduceSub, Nat.reduceBEq, Nat.reduceDiv, Int.reduceNeg, Int.reduceLT, Int.reduceLE, Int.reduceEq, Int.reduceToNat, Int.reduceAdd, Int.reduceSub, Int.reduceMul, Int.reduceBEq, Int.reduceBNe, reduceBEq]
    exact fin _ rfl rfl
  | true =>
    obtain ⟨h1, h2⟩ := hb rfl
    simp only [go_sem, ↓reduceIte, reduceCtorEq, Nat.reduceEqDiff, Nat.reduceLT, Nat.reduceLeDiff, Nat.reduceAdd, Nat.reduceMul, Nat.reduceSub, Nat.reduceBEq, Nat.reduceDiv, Int.reduceNeg, Int.reduceLT, Int.reduceLE, Int.reduceEq, Int.reduceToNat, Int.reduceAdd, Int.reduceSub, Int.reduceMul, Int.reduceBEq, Int.reduceBNe, reduceBEq, c6_r20]
    by_cases hh : how.tmod 4 > 0
    · have d1 : decide (how.tmod 4 > 0) = true := decide_eq_true hh
      refine AWPc.cond true (by simp only [go_sem, ↓reduceIte, reduceCtorEq, Nat.reduceEqDiff, Nat.reduceLT, Nat.reduceLeDiff, Nat.reduceAdd, Nat.reduceMul, Nat.reduceSub, Nat.reduceBEq, Nat.reduceDiv, Int.reduceNeg, Int.reduceLT, Int.reduceLE, Int.reduceEq, Int.reduceToNat, Int.reduceAdd, Int.reduceSub, Int.reduceMul, Int.reduceBEq, Int.reduceBNe, reduceBEq, d1]) ?_
      exact AWPc.weak (Weak.slots (all_cons rfl (all_cons rfl (all_cons rfl (all_cons rfl (all_cons rfl all_nil)))))) (reps_turn w h1 h2 how at' m k0 P σ hwf hk0 hP R)
    · have d1 : decide (how.tmod 4 > 0) = false := decide_eq_false hh
      refine AWPc.of_arun ?_
      simp only [go_sem, ↓reduceIte, reduceCtorEq, Nat.reduceEqDiff, Nat.reduceLT, Nat.reduceLeDiff, Nat.reduceAdd, Nat.reduceMul, Nat.reduceSub, Nat.reduceBEq, Nat.reduceDiv, Int.reduceNeg, Int.reduceLT, Int.reduceLE, Int.reduceEq, Int.reduceToNat, Int.reduceAdd, Int.reduceSub, Int.reduceMul, Int.reduceBEq, Int.reduceBNe, reduceBEq, d1]
      exact fin _ rfl rfl
end Go.Proofs.Ytnanpamfdjnomaa
