/- Std: functions that several laws use. -/
import Derived.Test.YtnanpamfdjnomaaStdA
namespace Go.Proofs.Ytnanpamfdjnomaa
open Go Go.RowKit Go.Proofs.Ytnanpamfdjnomaa.AL
set_option maxRecDepth 100000
set_option linter.unusedSimpArgs false

theorem pick_spec (x n : Int) (hn : n ≠ 0) (σ : Store) : ACalls Try.prog 12 [.int .i64 x, .int .i64 n] σ (fun y s => y = .int .i64 (pick x n) ∧ s = σ) := by
  refine ACalls.of_arun Try.func12 c12_eq c12_n c12_rs (by simp) fun hwf => ?_
  simp only [go_sem, ↓reduceIte, reduceCtorEq, Nat.reduceEqDiff, Nat.reduceLT, Nat.reduceLeDiff, Nat.reduceAdd, Nat.reduceMul, Nat.reduceSub, Nat.reduceBEq, Nat.reduceDiv, Int.reduceNeg, Int.reduceLT, Int.reduceLE, Int.reduceEq, Int.reduceToNat, Int.reduceAdd, Int.reduceSub, Int.reduceMul, Int.reduceBEq, Int.reduceBNe, reduceBEq, c12_r0, c12_r1, c12_r2, c12_r3, c12_r4, c12]
  refine ⟨hn, ?_⟩
  split <;> rename_i h
  · have h : x.tmod n < 0 := by simpa using h
    exact ⟨_, _, σ, rfl, WeakV.none hwf (Agree.refl _) (.pv _ _ _), by simp [pick, h], rfl⟩
  · have h : ¬ x.tmod n < 0 := by simpa using h
    exact ⟨_, _, σ, rfl, WeakV.none hwf (Agree.refl _) (.pv _ _ _), by simp [pick, h], rfl⟩
theorem clone_spec (l : List UInt8) (hl : l.length ≤ 140737488355328) (σ : Store) :
    ACalls Try.prog 31 [.pv (.lst 1 (encB l))] σ (fun x s => x = .pv (.lst 1 (encB l)) ∧ s = σ) := by
  refine ACalls.of_arun Try.func31 c31_eq c31_n c31_rs (by simp) fun hwf => ?_
  simp only [go_sem, ↓reduceIte, reduceCtorEq, Nat.reduceEqDiff, Nat.reduceLT, Nat.reduceLeDiff, Nat.reduceAdd, Nat.reduceMul, Nat.reduceSub, Nat.reduceBEq, Nat.reduceDiv, Int.reduceNeg, Int.reduceLT, Int.reduceLE, Int.reduceEq, Int.reduceToNat, Int.reduceAdd, Int.reduceSub, Int.reduceMul, Int.reduceBEq, Int.reduceBNe, reduceBEq, c31_r0, c31_r1, c31_r2, c31_r3, c31, encB_length]
  refine AOpc.listNil tSl_24 (es' := 1) (xs := encB l) (by simp only [go_sem, ↓reduceIte, reduceCtorEq, Nat.reduceEqDiff, Nat.reduceLT, Nat.reduceLeDiff, Nat.reduceAdd, Nat.reduceMul, Nat.reduceSub, Nat.reduceBEq, Nat.reduceDiv, Int.reduceNeg, Int.reduceLT, Int.reduceLE, Int.reduceEq, Int.reduceToNat, Int.reduceAdd, Int.reduceSub, Int.reduceMul, Int.reduceBEq, Int.reduceBNe, reduceBEq]) fun q hq => ?_
  simp only [go_sem, ↓reduceIte, reduceCtorEq, Nat.reduceEqDiff, Nat.reduceLT, Nat.reduceLeDiff, Nat.reduceAdd, Nat.reduceMul, Nat.reduceSub, Nat.reduceBEq, Nat.reduceDiv, Int.reduceNeg, Int.reduceLT, Int.reduceLE, Int.reduceEq, Int.reduceToNat, Int.reduceAdd, Int.reduceSub, Int.reduceMul, Int.reduceBEq, Int.reduceBNe, reduceBEq, c31_r0, c31_r1, c31_r2, c31_r3, c31, encB_length]
  split <;> rename_i h
  · refine ⟨_, _, σ, rfl, WeakV.none hwf (Agree.refl _) (.list' (es := 1) (xs := []) (ys := encB l) rfl (hq h).symm), rfl, rfl⟩
  · refine ⟨⟨by omega, by simp only [maxLen]; omega⟩, _, _, σ, rfl, WeakV.none hwf ((Agree.refl _).newTok _ _ _) (.list' (by simp only [go_sem, ↓reduceIte, reduceCtorEq, Nat.reduceEqDiff, Nat.reduceLT, Nat.reduceLeDiff, Nat.reduceAdd, Nat.reduceMul, Nat.reduceSub, Nat.reduceBEq, Nat.reduceDiv, Int.reduceNeg, Int.reduceLT, Int.reduceLE, Int.reduceEq, Int.reduceToNat, Int.reduceAdd, Int.reduceSub, Int.reduceMul, Int.reduceBEq, Int.reduceBNe, reduceBEq]) rfl), rfl, rfl⟩

theorem grow_spec (n : Nat) (h0 : 0 < n) (hn : n ≤ 140737488355328) (σ : Store) :
    ACalls Try.prog 47 [.nil, .int .i64 n] σ (fun x s => x = .row σ.next 1 [] ∧ s = σ.newTok 5 1 0) := by
  refine ACalls.of_arun Try.func47 c47_eq c47_n c47_rs (by simp) fun hwf => ?_
  have e0 : IntKind.i64.wrap (0 : Int) = 0 := by rw [w64] <;> omega
  have e1 : IntKind.i64.wrap (n : Int) = n := by rw [w64] <;> omega
  have d0 : decide ((n : Int) < 0) = false := decide_eq_false (by omega)
  have d1 : decide ((n : Int) > 0) = true := decide_eq_true (by omega)
  simp only [go_sem, ↓reduceIte, reduceCtorEq, Nat.reduceEqDiff, Nat.reduceLT, Nat.reduceLeDiff, Nat.reduceAdd, Nat.reduceMul, Nat.reduceSub, Nat.reduceBEq, Nat.reduceDiv, Int.reduceNeg, Int.reduceLT, Int.reduceLE, Int.reduceEq, Int.reduceToNat, Int.reduceAdd, Int.reduceSub, Int.reduceMul, Int.reduceBEq, Int.reduceBNe, reduceBEq, c47_r0, c47_r1, c47_r2, c47_r3, c47_r4, c47_r5, c47_r6, c47, AV.nil, d0, d1, Int.sub_zero, Int.natCast_zero, e0, e1]
  refine AOpc.appMake (k := .i64) (n := n) tSl_24 tInt_3 tZero_5 ?_ ?_ h0 (by omega) (by simp only [maxLen]; omega) fun cap h1 h2 => ?_
  · simp only [go_sem, ↓reduceIte, reduceCtorEq, Nat.reduceEqDiff, Nat.reduceLT, Nat.reduceLeDiff, Nat.reduceAdd, Nat.reduceMul, Nat.reduceSub, Nat.reduceBEq, Nat.reduceDiv, Int.reduceNeg, Int.reduceLT, Int.reduceLE, Int.reduceEq, Int.reduceToNat, Int.reduceAdd, Int.reduceSub, Int.reduceMul, Int.reduceBEq, Int.reduceBNe, reduceBEq]
  · simp only [go_sem, ↓reduceIte, reduceCtorEq, Nat.reduceEqDiff, Nat.reduceLT, Nat.reduceLeDiff, Nat.reduceAdd, Nat.reduceMul, Nat.reduceSub, Nat.reduceBEq, Nat.reduceDiv, Int.reduceNeg, Int.reduceLT, Int.reduceLE, Int.reduceEq, Int.reduceToNat, Int.reduceAdd, Int.reduceSub, Int.reduceMul, Int.reduceBEq, Int.reduceBNe, reduceBEq]
  simp only [go_sem, ↓reduceIte, reduceCtorEq, Nat.reduceEqDiff, Nat.reduceLT, Nat.reduceLeDiff, Nat.reduceAdd, Nat.reduceMul, Nat.reduceSub, Nat.reduceBEq, Nat.reduceDiv, Int.reduceNeg, Int.reduceLT, Int.reduceLE, Int.reduceEq, Int.reduceToNat, Int.reduceAdd, Int.reduceSub, Int.reduceMul, Int.reduceBEq, Int.reduceBNe, reduceBEq, c47_r0, c47_r1, c47_r2, c47_r3, c47_r4, c47_r5, c47_r6, c47, Nat.zero_mul, Int.natCast_zero]
  refine ⟨by omega, _, _, _, rfl, WeakV.trans (WeakV.rowify (cs := List.replicate cap (.pv (.val (.int .u8 0)))) (by simp only [go_sem, ↓reduceIte, reduceCtorEq, Nat.reduceEqDiff, Nat.reduceLT, Nat.reduceLeDiff, Nat.reduceAdd, Nat.reduceMul, Nat.reduceSub, Nat.reduceBEq, Nat.reduceDiv, Int.reduceNeg, Int.reduceLT, Int.reduceLE, Int.reduceEq, Int.reduceToNat, Int.reduceAdd, Int.reduceSub, Int.reduceMul, Int.reduceBEq, Int.reduceBNe, reduceBEq]) 5 1 (by simp) (by simpa using h2)) (WeakV.one hwf (((Agree.refl _).newObj _).dropObj (Nat.le_refl _) |>.newTok _ _ _) (σ.next + 1) (by simp only [go_sem, ↓reduceIte, reduceCtorEq, Nat.reduceEqDiff, Nat.reduceLT, Nat.reduceLeDiff, Nat.reduceAdd, Nat.reduceMul, Nat.reduceSub, Nat.reduceBEq, Nat.reduceDiv, Int.reduceNeg, Int.reduceLT, Int.reduceLE, Int.reduceEq, Int.reduceToNat, Int.reduceAdd, Int.reduceSub, Int.reduceMul, Int.reduceBEq, Int.reduceBNe, reduceBEq]) (by omega) (.row0 rfl)), rfl, rfl⟩
def hnext (s : Int) : Int := IntKind.u64.wrap (IntKind.u64.wrap (s * 6364136223846793005) + 1442695040888963407)
def hout (s : Int) : UInt8 := UInt8.ofNat (IntKind.u8.wrap (s.fdiv (2 ^ min 56 IntKind.u64.bits))).toNat
def hst : Nat → Int → Int
  | 0, s => s
  | i + 1, s => hnext (hst i s)
def hgo : Nat → Int → List UInt8
  | 0, _ => []
  | i + 1, s => hgo i s ++ [hout (hst (i + 1) s)]
theorem hgo_length (s : Int) : ∀ i, (hgo i s).length = i
  | 0 => rfl
  | i + 1 => by simp [hgo, hgo_length s i]
def hseed (seed : Int) : Int := IntKind.u64.wrap (IntKind.u64.wrap (IntKind.u64.wrap seed * 2654435761) + 12345)
/-- What Bytes answers. -/
def hbytes (seed : Int) (n : Nat) : List UInt8 := if pick seed 7 = 6 then List.replicate n 0 else hgo n (hseed seed)
theorem hbytes_length (seed : Int) (n : Nat) : (hbytes seed n).length = n := by
  unfold hbytes
  split
  · simp
  · exact hgo_length _ _
theorem hgo_set (s : Int) (n i : Nat) (hi : i < n) (x : UInt8) : (hgo i s ++ List.replicate (n - i) 0).set i x = hgo i s ++ [x] ++ List.replicate (n - (i + 1)) 0 := by
  rw [List.set_append_right _ _ (by rw [hgo_length]; exact Nat.le_refl _), hgo_length, Nat.sub_self]
  obtain ⟨k, hk⟩ : ∃ k, n - i = k + 1 := ⟨n - i - 1, by omega⟩
  rw [hk, show n - (i + 1) = k by omega, List.replicate_succ, List.set_cons_zero, List.append_assoc]
  rfl
theorem bytesHand_spec (seed : Int) (n : Nat) (hn : n ≤ 100000) (σ : Store) :
    ACalls Try.prog 26 [.int .i64 seed, .int .i64 n] σ (fun x s => x = AV.bytes (hbytes seed n) ∧ s = σ) := by
  refine ACalls.of_arun Try.func26 c26_eq c26_n c26_rs (by simp) fun hwf => ?_
  simp only [go_sem, ↓reduceIte, reduceCtorEq, Nat.reduceEqDiff, Nat.reduceLT, Nat.reduceLeDiff, Nat.reduceAdd, Nat.reduceMul, Nat.reduceSub, Nat.reduceBEq, Nat.reduceDiv, Int.reduceNeg, Int.reduceLT, Int.reduceLE, Int.reduceEq, Int.reduceToNat, Int.reduceAdd, Int.reduceSub, Int.reduceMul, Int.reduceBEq, Int.reduceBNe, reduceBEq, c26_r0, c26_r1, c26_r2, c26_r3, c26_r4, c26_r5, c26_r6, c26_r8, c26_r9, c26_r7, c26_r10, c26, Int.toNat_natCast, objB_replicate]
  refine ⟨⟨by omega, by omega, by omega, by omega⟩, (pick_spec seed 7 (by omega) _).mono fun y s hy => ?_⟩
  obtain ⟨rfl, rfl⟩ := hy
  simp only [go_sem, ↓reduceIte, reduceCtorEq, Nat.reduceEqDiff, Nat.reduceLT, Nat.reduceLeDiff, Nat.reduceAdd, Nat.reduceMul, Nat.reduceSub, Nat.reduceBEq, Nat.reduceDiv, Int.reduceNeg, Int.reduceLT, Int.reduceLE, Int.reduceEq, Int.reduceToNat, Int.reduceAdd, Int.reduceSub, Int.reduceMul, Int.reduceBEq, Int.reduceBNe, reduceBEq, c26_r0, c26_r1, c26_r2, c26_r3, c26_r4, c26_r5, c26_r6, c26_r8, c26_r9, c26_r7, c26_r10, c26]
  have hz : (List.replicate n (0 : UInt8)).length = n := List.length_replicate
  split <;> rename_i h6
  · have h6 : pick seed 7 = 6 := by simpa using h6
    exact ⟨_, _, _, rfl, settleB hwf rfl rfl hz (Nat.le_refl _), by rw [hbytes, if_pos h6], rfl⟩
  · have h6 : ¬ pick seed 7 = 6 := by simpa using h6
    refine AWPc.loop (α := Nat × Int × List UInt8) (fun a => [(1, .int .i64 n), (5, .sl σ.next 0 n n), (6, .int .u64 a.2.1), (7, .int .i64 a.1)]) (fun a => σ.newObj (objB a.2.2))
      (fun a => a.1 ≤ n ∧ a.2.1 = hst a.1 (hseed seed) ∧ a.2.2 = hgo a.1 (hseed seed) ++ List.replicate (n - a.1) 0) (fun a => n - a.1) ⟨(0, hseed seed, List.replicate n 0), ⟨Nat.zero_le _, rfl, rfl⟩, ?_⟩ ?_
    · refine Weak.none (hwf.newObj (objB_lt _ _)) (Nat.le_succ _) (Agree.refl _) ?_
      exact all_cons (.pv _ _ _) (all_cons (.same (by simp only [go_sem, ↓reduceIte, reduceCtorEq, Nat.reduceEqDiff, Nat.reduceLT, Nat.reduceLeDiff, Nat.reduceAdd, Nat.reduceMul, Nat.reduceSub, Nat.reduceBEq, Nat.reduceDiv, Int.reduceNeg, Int.reduceLT, Int.reduceLE, Int.reduceEq, Int.reduceToNat, Int.reduceAdd, Int.reduceSub, Int.reduceMul, Int.reduceBEq, Int.reduceBNe, reduceBEq]; simp)) (all_cons (.pv _ _ _) (all_cons (.pv _ _ _) all_nil)))
    · rintro ⟨i, s, l⟩ ⟨hi, hs, hl'⟩
      dsimp only at hi hs hl'
      have hl : l.length = n := by rw [hl', List.length_append, hgo_length, List.length_replicate]; omega
      by_cases hd : i < n
      · have hz' : (objB l).length = n := by rw [objB_length, hl]
        have d1 : decide ((i : Int) < n) = true := decide_eq_true (by omega)
        simp only [go_sem, ↓reduceIte, reduceCtorEq, Nat.reduceEqDiff, Nat.reduceLT, Nat.reduceLeDiff, Nat.reduceAdd, Nat.reduceMul, Nat.reduceSub, Nat.reduceBEq, Nat.reduceDiv, Int.reduceNeg, Int.reduceLT, Int.reduceLE, Int.reduceEq, Int.reduceToNat, Int.reduceAdd, Int.reduceSub, Int.reduceMul, Int.reduceBEq, Int.reduceBNe, reduceBEq, c26_r0, c26_r1, c26_r2, c26_r3, c26_r4, c26_r5, c26_r6, c26_r8, c26_r9, c26_r7, c26_r10, c26, c26_l0, d1]
        rw [u8_byte]
        simp only [go_sem, ↓reduceIte, reduceCtorEq, Nat.reduceEqDiff, Nat.reduceLT, Nat.reduceLeDiff, Nat.reduceAdd, Nat.reduceMul, Nat.reduceSub, Nat.reduceBEq, Nat.reduceDiv, Int.reduceNeg, Int.reduceLT, Int.reduceLE, Int.reduceEq, Int.reduceToNat, Int.reduceAdd, Int.reduceSub, Int.reduceMul, Int.reduceBEq, Int.reduceBNe, reduceBEq, c26_r0, c26_r1, c26_r2, c26_r3, c26_r4, c26_r5, c26_r6, c26_r8, c26_r9, c26_r7, c26_r10, c26, Int.toNat_natCast, Nat.mul_one, if_pos (show i + 1 ≤ (objB l).length by omega), objB_set _ _ (show i < l.length by omega), setObj_newObj]
        refine ⟨⟨by omega, by omega⟩, (i + 1, hnext s, l.set i (hout (hnext s))), ⟨hd, by rw [hs]; rfl, ?_⟩, by dsimp only; omega, ?_⟩
        · show l.set i (hout (hnext s)) = _
          rw [hl', hgo_set _ _ _ hd, hs]; rfl
        · refine Weak.none (hwf.newObj (objB_lt _ _)) (Nat.le_succ _) (Agree.refl _) ?_
          refine all_cons (.pv _ _ _) (all_cons (.same (by simp only [go_sem, ↓reduceIte, reduceCtorEq, Nat.reduceEqDiff, Nat.reduceLT, Nat.reduceLeDiff, Nat.reduceAdd, Nat.reduceMul, Nat.reduceSub, Nat.reduceBEq, Nat.reduceDiv, Int.reduceNeg, Int.reduceLT, Int.reduceLE, Int.reduceEq, Int.reduceToNat, Int.reduceAdd, Int.reduceSub, Int.reduceMul, Int.reduceBEq, Int.reduceBNe, reduceBEq]; simp)) (all_cons (.pv _ _ _) (all_cons (.int _ _ ?_) all_nil)))
          rw [w64 (by omega) (by omega)]; simp
      · have hd : i = n := by omega
        subst hd
        have d1 : decide ((i : Int) < i) = false := decide_eq_false (by omega)
        simp only [go_sem, ↓reduceIte, reduceCtorEq, Nat.reduceEqDiff, Nat.reduceLT, Nat.reduceLeDiff, Nat.reduceAdd, Nat.reduceMul, Nat.reduceSub, Nat.reduceBEq, Nat.reduceDiv, Int.reduceNeg, Int.reduceLT, Int.reduceLE, Int.reduceEq, Int.reduceToNat, Int.reduceAdd, Int.reduceSub, Int.reduceMul, Int.reduceBEq, Int.reduceBNe, reduceBEq, c26_r0, c26_r1, c26_r2, c26_r3, c26_r4, c26_r5, c26_r6, c26_r8, c26_r9, c26_r7, c26_r10, c26, c26_l0, d1]
        exact ⟨_, _, _, rfl, settleB hwf rfl rfl hl (Nat.le_refl _), by rw [hbytes, if_neg h6, hl']; simp, rfl⟩
theorem concat_spec (L : List (List UInt8)) (h0 : 0 < L.flatten.length) (hL : L.flatten.length ≤ 100000000) (hn : L.length ≤ 100000000) (σ : Store) :
    ACalls Try.prog 28 [.pv (.lst 1 (encBs L))] σ (fun x s => x = AV.bytes L.flatten ∧ s = σ) := by
  refine ACalls.of_arun Try.func28 c28_eq c28_n c28_rs (by simp) fun hwf => ?_
  simp only [go_sem, ↓reduceIte, reduceCtorEq, Nat.reduceEqDiff, Nat.reduceLT, Nat.reduceLeDiff, Nat.reduceAdd, Nat.reduceMul, Nat.reduceSub, Nat.reduceBEq, Nat.reduceDiv, Int.reduceNeg, Int.reduceLT, Int.reduceLE, Int.reduceEq, Int.reduceToNat, Int.reduceAdd, Int.reduceSub, Int.reduceMul, Int.reduceBEq, Int.reduceBNe, reduceBEq, c28_r0, c28_r1, c28_r2, c28_r3, c28_r4, c28_r5, c28_r6, c28_r7, c28_r8, c28_r9, c28_r10, c28_r11, c28_r12, c28_r13, c28_r14, c28_r15, c28, encBs_length]
  refine AWPc.loop (α := Nat) (fun i => [(0, .pv (.lst 1 (encBs L))), (3, .int .i64 (L.take i).flatten.length), (9, .pv (.lst 1 (encBs L))), (10, .int .i64 L.length), (11, .int .i64 i)]) (fun _ => σ)
    (fun i => i ≤ L.length) (fun i => L.length - i) ⟨0, Nat.zero_le _, ?_⟩ ?_
  · refine Weak.none hwf (Nat.le_refl _) (Agree.refl _) ?_
    exact all_cons (.pv _ _ _) (all_cons (.pv _ _ _) (all_cons (.pv _ _ _) (all_cons (.pv _ _ _) (all_cons (.pv _ _ _) all_nil))))
  · intro i hi
    by_cases hd : i < L.length
    · have d1 : decide ((i : Int) < L.length) = true := decide_eq_true (by omega)
      have hsum : ((L.take i).flatten.length : Int) + L[i].length = (L.take (i + 1)).flatten.length := by rw [flat_take hd]; simp
      have hle := flat_le L (i + 1)
      have hw : IntKind.i64.wrap (((L.take (i + 1)).flatten.length : Nat) : Int) = ((L.take (i + 1)).flatten.length : Nat) := w64 (by omega) (by omega)
      have d2 : decide ((((L.take (i + 1)).flatten.length : Nat) : Int) < 0) = false := decide_eq_false (by omega)
      simp only [go_sem, ↓reduceIte, reduceCtorEq, Nat.reduceEqDiff, Nat.reduceLT, Nat.reduceLeDiff, Nat.reduceAdd, Nat.reduceMul, Nat.reduceSub, Nat.reduceBEq, Nat.reduceDiv, Int.reduceNeg, Int.reduceLT, Int.reduceLE, Int.reduceEq, Int.reduceToNat, Int.reduceAdd, Int.reduceSub, Int.reduceMul, Int.reduceBEq, Int.reduceBNe, reduceBEq, c28_r0, c28_r1, c28_r2, c28_r3, c28_r4, c28_r5, c28_r6, c28_r7, c28_r8, c28_r9, c28_r10, c28_r11, c28_r12, c28_r13, c28_r14, c28_r15, c28, c28_l0, d1, d2, hsum, hw, encBs_length, Int.toNat_natCast, encBs_get hd, encB_length]
      refine ⟨by omega, i + 1, by omega, by omega, ?_⟩
      refine Weak.none hwf (Nat.le_refl _) (Agree.refl _) ?_
      refine all_cons (.pv _ _ _) (all_cons (.pv _ _ _) (all_cons (.pv _ _ _) (all_cons (.pv _ _ _) (all_cons (.int _ _ ?_) all_nil))))
      rw [w64 (by omega) (by omega)]; simp
    · have hd : i = L.length := by omega
      subst hd
      have d1 : decide ((L.length : Int) < L.length) = false := decide_eq_false (by omega)
      simp only [go_sem, ↓reduceIte, reduceCtorEq, Nat.reduceEqDiff, Nat.reduceLT, Nat.reduceLeDiff, Nat.reduceAdd, Nat.reduceMul, Nat.reduceSub, Nat.reduceBEq, Nat.reduceDiv, Int.reduceNeg, Int.reduceLT, Int.reduceLE, Int.reduceEq, Int.reduceToNat, Int.reduceAdd, Int.reduceSub, Int.reduceMul, Int.reduceBEq, Int.reduceBNe, reduceBEq, c28_r0, c28_r1, c28_r2, c28_r3, c28_r4, c28_r5, c28_r6, c28_r7, c28_r8, c28_r9, c28_r10, c28_r11, c28_r12, c28_r13, c28_r14, c28_r15, c28, c28_l0, d1, encBs_length, List.take_length]
      refine (grow_spec L.flatten.length h0 (by omega) _).mono fun y s hy => ?_
      obtain ⟨rfl, rfl⟩ := hy
      simp only [go_sem, ↓reduceIte, reduceCtorEq, Nat.reduceEqDiff, Nat.reduceLT, Nat.reduceLeDiff, Nat.reduceAdd, Nat.reduceMul, Nat.reduceSub, Nat.reduceBEq, Nat.reduceDiv, Int.reduceNeg, Int.reduceLT, Int.reduceLE, Int.reduceEq, Int.reduceToNat, Int.reduceAdd, Int.reduceSub, Int.reduceMul, Int.reduceBEq, Int.reduceBNe, reduceBEq, c28_r0, c28_r1, c28_r2, c28_r3, c28_r4, c28_r5, c28_r6, c28_r7, c28_r8, c28_r9, c28_r10, c28_r11, c28_r12, c28_r13, c28_r14, c28_r15, c28, encBs_length]
      refine AWPc.loop (α := Nat) (fun i => [(6, .row σ.next 1 (encB (L.take i).flatten)), (25, .pv (.lst 1 (encBs L))), (26, .int .i64 L.length), (27, .int .i64 i)]) (fun i => σ.newTok 5 1 (L.take i).flatten.length)
        (fun i => i ≤ L.length) (fun i => L.length - i) ⟨0, Nat.zero_le _, ?_⟩ ?_
      · refine Weak.one hwf (Nat.le_refl _) ((Agree.refl _).newTok _ _ _) σ.next (by simp only [go_sem, ↓reduceIte, reduceCtorEq, Nat.reduceEqDiff, Nat.reduceLT, Nat.reduceLeDiff, Nat.reduceAdd, Nat.reduceMul, Nat.reduceSub, Nat.reduceBEq, Nat.reduceDiv, Int.reduceNeg, Int.reduceLT, Int.reduceLE, Int.reduceEq, Int.reduceToNat, Int.reduceAdd, Int.reduceSub, Int.reduceMul, Int.reduceBEq, Int.reduceBNe, reduceBEq]; rfl) (Nat.le_refl _) ?_
        exact all_cons (.row0 rfl) (all_cons (.pv _ _ _) (all_cons (.pv _ _ _) (all_cons (.pv _ _ _) all_nil)))
      · intro i hi
        by_cases hd : i < L.length
        · have d1 : decide ((i : Int) < L.length) = true := decide_eq_true (by omega)
          have hle := flat_le L (i + 1)
          rw [flat_take hd, List.length_append] at hle
          simp only [go_sem, ↓reduceIte, reduceCtorEq, Nat.reduceEqDiff, Nat.reduceLT, Nat.reduceLeDiff, Nat.reduceAdd, Nat.reduceMul, Nat.reduceSub, Nat.reduceBEq, Nat.reduceDiv, Int.reduceNeg, Int.reduceLT, Int.reduceLE, Int.reduceEq, Int.reduceToNat, Int.reduceAdd, Int.reduceSub, Int.reduceMul, Int.reduceBEq, Int.reduceBNe, reduceBEq, c28_r0, c28_r1, c28_r2, c28_r3, c28_r4, c28_r5, c28_r6, c28_r7, c28_r8, c28_r9, c28_r10, c28_r11, c28_r12, c28_r13, c28_r14, c28_r15, c28, c28_l1, d1, encBs_length, Int.toNat_natCast, encBs_get hd, encB_length, encB_append, ← flat_take hd]
          refine ⟨⟨by omega, by omega⟩, ⟨by omega, by simp only [maxLen]; omega⟩, i + 1, by omega, by omega, ?_⟩
          refine Weak.one hwf (Nat.le_refl _) ((((Agree.refl _).newTok _ _ _).killTok (Nat.le_refl _)).newTok _ _ _) (σ.next + 1) (by simp only [go_sem, ↓reduceIte, reduceCtorEq, Nat.reduceEqDiff, Nat.reduceLT, Nat.reduceLeDiff, Nat.reduceAdd, Nat.reduceMul, Nat.reduceSub, Nat.reduceBEq, Nat.reduceDiv, Int.reduceNeg, Int.reduceLT, Int.reduceLE, Int.reduceEq, Int.reduceToNat, Int.reduceAdd, Int.reduceSub, Int.reduceMul, Int.reduceBEq, Int.reduceBNe, reduceBEq, flat_take hd, List.length_append]) (by omega) ?_
          refine all_cons (.row0 rfl) (all_cons (.pv _ _ _) (all_cons (.pv _ _ _) (all_cons (.int _ _ ?_) all_nil)))
          rw [w64 (by omega) (by omega)]; simp
        · have hd : i = L.length := by omega
          subst hd
          have d1 : decide ((L.length : Int) < L.length) = false := decide_eq_false (by omega)
          simp only [go_sem, ↓reduceIte, reduceCtorEq, Nat.reduceEqDiff, Nat.reduceLT, Nat.reduceLeDiff, Nat.reduceAdd, Nat.reduceMul, Nat.reduceSub, Nat.reduceBEq, Nat.reduceDiv, Int.reduceNeg, Int.reduceLT, Int.reduceLE, Int.reduceEq, Int.reduceToNat, Int.reduceAdd, Int.reduceSub, Int.reduceMul, Int.reduceBEq, Int.reduceBNe, reduceBEq, c28_r0, c28_r1, c28_r2, c28_r3, c28_r4, c28_r5, c28_r6, c28_r7, c28_r8, c28_r9, c28_r10, c28_r11, c28_r12, c28_r13, c28_r14, c28_r15, c28, c28_l1, d1, encBs_length, List.take_length]
          exact ⟨_, _, σ, rfl, WeakV.none hwf ((Agree.refl _).newTok _ _ _) (.list' (by simp only [go_sem, ↓reduceIte, reduceCtorEq, Nat.reduceEqDiff, Nat.reduceLT, Nat.reduceLeDiff, Nat.reduceAdd, Nat.reduceMul, Nat.reduceSub, Nat.reduceBEq, Nat.reduceDiv, Int.reduceNeg, Int.reduceLT, Int.reduceLE, Int.reduceEq, Int.reduceToNat, Int.reduceAdd, Int.reduceSub, Int.reduceMul, Int.reduceBEq, Int.reduceBNe, reduceBEq]) rfl), rfl, rfl⟩
end Go.Proofs.Ytnanpamfdjnomaa
