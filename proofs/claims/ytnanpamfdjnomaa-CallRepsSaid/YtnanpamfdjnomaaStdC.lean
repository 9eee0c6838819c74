/- Std: slices.Concat once more: its answer may be appended to. -/
import Derived.Test.YtnanpamfdjnomaaStdB
namespace Go.Proofs.Ytnanpamfdjnomaa
open Go Go.RowKit Go.Proofs.Ytnanpamfdjnomaa.AL
set_option maxRecDepth 100000
set_option linter.unusedSimpArgs false

theorem concat_row_spec (L : List (List UInt8)) (h0 : 0 < L.flatten.length) (hL : L.flatten.length ≤ 100000000) (hn : L.length ≤ 100000000) (σ : Store) :
    ACalls Try.prog 28 [.pv (.lst 1 (encBs L))] σ (fun x s => x = .row σ.next 1 (encB L.flatten) ∧ s = σ.newTok 5 1 L.flatten.length) := by
  refine ACalls.of_arun Try.func28 c28_eq c28_n c28_rs (by simp) fun hwf => ?_
  simp only [go_sem, ↓reduceIte, reduceCtorEq, Nat.reduceEqDiff, Nat.reduceLT, Nat.reduceLeDiff, Nat.reduceAdd, Nat.reduceMul, Nat.reduceSub, Nat.reduceBEq, Nat.reduceDiv, Int.reduceNeg, Int.reduceLT, Int.reduceLE, Int.reduceEq, Int.reduceToNat, Int.reduceAdd, Int.reduceSub, Int.reduceMul, Int.reduceBEq, Int.reduceBNe, reduceBEq, c28_r0, c28_r1, c28_r2, c28_r3, c28_r4, c28_r5, c28_r6, c28_r7, c28_r8, c28_r9, c28_r10, c28_r11, c28_r12, c28_r13, c28_r14, c28_r15, c28, encBs_length]
  refine AWPc.loop (α := Nat) (fun i => [(0, .pv (.lst 1 (encBs L))), (3, .int .i64 (L.take i).flatten.length), (9, .pv (.lst 1 (encBs L))), (10, .int .i64 L.length), (11, .int .i64 i)]) (fun _ => σ)
    (fun i => i ≤ L.length) (fun i => L.length - i) ⟨0, Nat.zero_le _, ?_⟩ ?_
  · refine Weak.none hwf (Nat.le_refl _) (Agree.refl _) ?_
    exact all_cons (.pv _ _ _) (all_cons (.pv _ _ _) (all_cons (.pv _ _ _) (all_cons (.pv _ _ _) (all_cons (.pv _ _ _) all_nil))))
  · intro i hi
    by_cases hd : i < L.length
    · have d1 : decide ((i : Int) < L.length) = true := decide_eq_true (by omega)
      have hsum : ((L.take i).flatten.length : Int) + L[i].length = (L.take (i + 1)).flatten.length := by rw [flat_take hd]; simp
      have hle := flat_le L (i + 1)
      have hw : IntKind.i64.wrap (((L.take (i + 1)).flatten.length : Nat) : Int) = ((L.take (i + 1)).flatten.length : Nat) := w64 (by omega) (by omega)
      have d2 : decide ((((L.take (i + 1)).flatten.length : Nat) : Int) < 0) = false := decide_eq_false (by omega)
      simp only [go_sem, ↓reduceIte, reduceCtorEq, Nat.reduceEqDiff, Nat.reduceLT, Nat.reduceLeDiff, Nat.reduceAdd, Nat.reduceMul, Nat.reduceSub, Nat.reduceBEq, Nat.reduceDiv, Int.reduceNeg, Int.reduceLT, Int.reduceLE, Int.reduceEq, Int.reduceToNat, Int.reduceAdd, Int.reduceSub, Int.reduceMul, Int.reduceBEq, Int.reduceBNe, reduceBEq, c28_r0, c28_r1, c28_r2, c28_r3, c28_r4, c28_r5, c28_r6, c28_r7, c28_r8, c28_r9, c28_r10, c28_r11, c28_r12, c28_r13, c28_r14, c28_r15, c28, c28_l0, d1, d2, hsum, hw, encBs_length, Int.toNat_natCast, encBs_get hd, encB_length]
      refine ⟨by omega, i + 1, by omega, by omega, ?_⟩
      refine Weak.none hwf (Nat.le_refl _) (Agree.refl _) ?_
      refine all_cons (.pv _ _ _) (all_cons (.pv _ _ _) (all_cons (.pv _ _ _) (all_cons (.pv _ _ _) (all_cons (.int _ _ ?_) all_nil))))
      rw [w64 (by omega) (by omega)]; simp
    · have hd : i = L.length := by omega
      subst hd
      have d1 : decide ((L.length : Int) < L.length) = false := decide_eq_false (by omega)
      simp only [go_sem, ↓reduceIte, reduceCtorEq, Nat.reduceEqDiff, Nat.reduceLT, Nat.reduceLeDiff, Nat.reduceAdd, Nat.reduceMul, Nat.reduceSub, Nat.reduceBEq, Nat.reduceDiv, Int.reduceNeg, Int.reduceLT, Int.reduceLE, Int.reduceEq, Int.reduceToNat, Int.reduceAdd, Int.reduceSub, Int.reduceMul, Int.reduceBEq, Int.reduceBNe, reduceBEq, c28_r0, c28_r1, c28_r2, c28_r3, c28_r4, c28_r5, c28_r6, c28_r7, c28_r8, c28_r9, c28_r10, c28_r11, c28_r12, c28_r13, c28_r14, c28_r15, c28, c28_l0, d1, encBs_length, List.take_length]
      refine (grow_spec L.flatten.length h0 (by omega) _).mono fun y s hy => ?_
      obtain ⟨rfl, rfl⟩ := hy
      simp only [go_sem, ↓reduceIte, reduceCtorEq, Nat.reduceEqDiff, Nat.reduceLT, Nat.reduceLeDiff, Nat.reduceAdd, Nat.reduceMul, Nat.reduceSub, Nat.reduceBEq, Nat.reduceDiv, Int.reduceNeg, Int.reduceLT, Int.reduceLE, Int.reduceEq, Int.reduceToNat, Int.reduceAdd, Int.reduceSub, Int.reduceMul, Int.reduceBEq, Int.reduceBNe, reduceBEq, c28_r0, c28_r1, c28_r2, c28_r3, c28_r4, c28_r5, c28_r6, c28_r7, c28_r8, c28_r9, c28_r10, c28_r11, c28_r12, c28_r13, c28_r14, c28_r15, c28, encBs_length]
      refine AWPc.loop (α := Nat) (fun i => [(6, .row σ.next 1 (encB (L.take i).flatten)), (25, .pv (.lst 1 (encBs L))), (26, .int .i64 L.length), (27, .int .i64 i)]) (fun i => σ.newTok 5 1 (L.take i).flatten.length)
        (fun i => i ≤ L.length) (fun i => L.length - i) ⟨0, Nat.zero_le _, ?_⟩ ?_
      · refine Weak.one hwf (Nat.le_refl _) ((Agree.refl _).newTok _ _ _) σ.next (by simp only [go_sem, ↓reduceIte, reduceCtorEq, Nat.reduceEqDiff, Nat.reduceLT, Nat.reduceLeDiff, Nat.reduceAdd, Nat.reduceMul, Nat.reduceSub, Nat.reduceBEq, Nat.reduceDiv, Int.reduceNeg, Int.reduceLT, Int.reduceLE, Int.reduceEq, Int.reduceToNat, Int.reduceAdd, Int.reduceSub, Int.reduceMul, Int.reduceBEq, Int.reduceBNe, reduceBEq]; rfl) (Nat.le_refl _) ?_
        exact all_cons (.row0 rfl) (all_cons (.pv _ _ _) (all_cons (.pv _ _ _) (all_cons (.pv _ _ _) all_nil)))
      · intro i hi
        by_cases hd : i < L.length
        · have d1 : decide ((i : Int) < L.length) = true := decide_eq_true (by omega)
          have hle := flat_le L (i + 1)
          rw [flat_take hd, List.length_append] at hle
          simp only [go_sem, ↓reduceIte, reduceCtorEq, Nat.reduceEqDiff, Nat.reduceLT, Nat.reduceLeDiff, Nat.reduceAdd, Nat.reduceMul, Nat.reduceSub, Nat.reduceBEq, Nat.reduceDiv, Int.reduceNeg, Int.reduceLT, Int.reduceLE, Int.reduceEq, Int.reduceToNat, Int.reduceAdd, Int.reduceSub, Int.reduceMul, Int.reduceBEq, Int.reduceBNe, reduceBEq, c28_r0, c28_r1, c28_r2, c28_r3, c28_r4, c28_r5, c28_r6, c28_r7, c28_r8, c28_r9, c28_r10, c28_r11, c28_r12, c28_r13, c28_r14, c28_r15, c28, c28_l1, d1, encBs_length, Int.toNat_natCast, encBs_get hd, encB_length, encB_append, ← flat_take hd]
          refine ⟨⟨by omega, by omega⟩, ⟨by omega, by simp only [maxLen]; omega⟩, i + 1, by omega, by omega, ?_⟩
          refine Weak.one hwf (Nat.le_refl _) ((((Agree.refl _).newTok _ _ _).killTok (Nat.le_refl _)).newTok _ _ _) (σ.next + 1) (by simp only [go_sem, ↓reduceIte, reduceCtorEq, Nat.reduceEqDiff, Nat.reduceLT, Nat.reduceLeDiff, Nat.reduceAdd, Nat.reduceMul, Nat.reduceSub, Nat.reduceBEq, Nat.reduceDiv, Int.reduceNeg, Int.reduceLT, Int.reduceLE, Int.reduceEq, Int.reduceToNat, Int.reduceAdd, Int.reduceSub, Int.reduceMul, Int.reduceBEq, Int.reduceBNe, reduceBEq, flat_take hd, List.length_append]) (by omega) ?_
          refine all_cons (.row0 rfl) (all_cons (.pv _ _ _) (all_cons (.pv _ _ _) (all_cons (.int _ _ ?_) all_nil)))
          rw [w64 (by omega) (by omega)]; simp
        · have hd : i = L.length := by omega
          subst hd
          have d1 : decide ((L.length : Int) < L.length) = false := decide_eq_false (by omega)
          simp only [go_sem, ↓reduceIte, reduceCtorEq, Nat.reduceEqDiff, Nat.reduceLT, Nat.reduceLeDiff, Nat.reduceAdd, Nat.reduceMul, Nat.reduceSub, Nat.reduceBEq, Nat.reduceDiv, Int.reduceNeg, Int.reduceLT, Int.reduceLE, Int.reduceEq, Int.reduceToNat, Int.reduceAdd, Int.reduceSub, Int.reduceMul, Int.reduceBEq, Int.reduceBNe, reduceBEq, c28_r0, c28_r1, c28_r2, c28_r3, c28_r4, c28_r5, c28_r6, c28_r7, c28_r8, c28_r9, c28_r10, c28_r11, c28_r12, c28_r13, c28_r14, c28_r15, c28, c28_l1, d1, encBs_length, List.take_length]
          exact ⟨_, _, _, rfl, WeakV.one (e := 5) (es := 1) (m := L.flatten.length) hwf ((Agree.refl _).newTok _ _ _) σ.next (by simp only [go_sem, ↓reduceIte, reduceCtorEq, Nat.reduceEqDiff, Nat.reduceLT, Nat.reduceLeDiff, Nat.reduceAdd, Nat.reduceMul, Nat.reduceSub, Nat.reduceBEq, Nat.reduceDiv, Int.reduceNeg, Int.reduceLT, Int.reduceLE, Int.reduceEq, Int.reduceToNat, Int.reduceAdd, Int.reduceSub, Int.reduceMul, Int.reduceBEq, Int.reduceBNe, reduceBEq]) (Nat.le_refl _) (.row0 rfl), rfl, rfl⟩
end Go.Proofs.Ytnanpamfdjnomaa
